/-
  NARROWER THAN 'FOR EVERY INPUT', by the rows' own cells (each row's printed sentence says how): StampLatest: laid · StampStays: laid · StampFar: laid · StampProves: laid · StampOrder: laid · StampPlays: laid · StampFamily: laid · StampTwice: laid.
  DERIVED. THE GIVEN ROWS OF THIS SEAT. 8 by the template 'for every input the law returns true; each argument reads behind the call as it read before'; 0 by the template 'total and deterministic' (their statements: YtmiojmnifnnncaaDoorTotals.lean).
  GIVEN WITH THE SEED: the statements are not yours to turn. If you find one false, say at which input.
  Laid BY PROGRAM, IN A SANDBOX (cutbox-rows.mjs): the forced cells as the released guide's own fill.sh prints them over the translation 7f154138cc8bec6b… (all of the seat's roots in one cut). By AI agents, Wed Nov 11 2026. No macro, syntax, notation, axiom, sorry.
-/
import Derived.Test.YtmiojmnifnnncaaDoorChecked
import GoSem.Claim
import GoSem.ClaimJoined
import GoSem.ClaimMapViews
import Derived.JoinedTies
import Derived.KernelRfl
namespace Go.Proofs.YtmiojmnifnnncaaDoor
/- THE CELL 'sum', in the pinned program and in every row, IS THE sha256 OF THE DUMP (.gsa) THAT YtmiojmnifnnncaaDoorProg.lean LOADS. Nothing in Lean hashes anything: it is a label: what it is worth is what the hold of that sum in a sandbox is worth. -/
noncomputable def Tryd.pinned : Pinned := { name := "ytmiojmnifnnncaadoor", sum := "7f154138cc8bec6b0934e50245856251be64a5997f9480b9956322eabdb5bcbd", checked := Tryd.checked }
namespace Rows
def none {H : Type} : Left H := { results := [], args := [] }

/- WHAT THE LISTED PACKAGE-LEVEL VARIABLES READ AS WHEN THE CALL BEGINS. Each datum BY PROGRAM (the guide's laid-datum.mjs) off the statement by which the dump's own 'gosem.cut.vars' lays the variable. In a bare row this is a premise. The card (YtmiojmnifnnncaaDoorCards.lean) ties it to the program's text. -/
def laid_math_bits_deBruijn32tab {H : Type} : DataW H := .agg [.lit (.int .u8 0), .lit (.int .u8 1), .lit (.int .u8 28), .lit (.int .u8 2), .lit (.int .u8 29), .lit (.int .u8 14), .lit (.int .u8 24), .lit (.int .u8 3), .lit (.int .u8 30), .lit (.int .u8 22), .lit (.int .u8 20), .lit (.int .u8 15), .lit (.int .u8 25), .lit (.int .u8 17), .lit (.int .u8 4), .lit (.int .u8 8), .lit (.int .u8 31), .lit (.int .u8 27), .lit (.int .u8 13), .lit (.int .u8 23), .lit (.int .u8 21), .lit (.int .u8 19), .lit (.int .u8 16), .lit (.int .u8 7), .lit (.int .u8 26), .lit (.int .u8 12), .lit (.int .u8 18), .lit (.int .u8 6), .lit (.int .u8 11), .lit (.int .u8 5), .lit (.int .u8 10), .lit (.int .u8 9)]
def laid_math_bits_deBruijn64tab {H : Type} : DataW H := .agg [.lit (.int .u8 0), .lit (.int .u8 1), .lit (.int .u8 56), .lit (.int .u8 2), .lit (.int .u8 57), .lit (.int .u8 49), .lit (.int .u8 28), .lit (.int .u8 3), .lit (.int .u8 61), .lit (.int .u8 58), .lit (.int .u8 42), .lit (.int .u8 50), .lit (.int .u8 38), .lit (.int .u8 29), .lit (.int .u8 17), .lit (.int .u8 4), .lit (.int .u8 62), .lit (.int .u8 47), .lit (.int .u8 59), .lit (.int .u8 36), .lit (.int .u8 45), .lit (.int .u8 43), .lit (.int .u8 51), .lit (.int .u8 22), .lit (.int .u8 53), .lit (.int .u8 39), .lit (.int .u8 33), .lit (.int .u8 30), .lit (.int .u8 24), .lit (.int .u8 18), .lit (.int .u8 12), .lit (.int .u8 5), .lit (.int .u8 63), .lit (.int .u8 55), .lit (.int .u8 48), .lit (.int .u8 27), .lit (.int .u8 60), .lit (.int .u8 41), .lit (.int .u8 37), .lit (.int .u8 16), .lit (.int .u8 46), .lit (.int .u8 35), .lit (.int .u8 44), .lit (.int .u8 21), .lit (.int .u8 52), .lit (.int .u8 32), .lit (.int .u8 23), .lit (.int .u8 11), .lit (.int .u8 54), .lit (.int .u8 26), .lit (.int .u8 40), .lit (.int .u8 15), .lit (.int .u8 34), .lit (.int .u8 20), .lit (.int .u8 31), .lit (.int .u8 10), .lit (.int .u8 25), .lit (.int .u8 14), .lit (.int .u8 19), .lit (.int .u8 9), .lit (.int .u8 13), .lit (.int .u8 8), .lit (.int .u8 7), .lit (.int .u8 6)]
def laid_internal_strconv_uint64pow10 {H : Type} : DataW H := .agg [.lit (.int .u64 1), .lit (.int .u64 10), .lit (.int .u64 100), .lit (.int .u64 1000), .lit (.int .u64 10000), .lit (.int .u64 100000), .lit (.int .u64 1000000), .lit (.int .u64 10000000), .lit (.int .u64 100000000), .lit (.int .u64 1000000000), .lit (.int .u64 10000000000), .lit (.int .u64 100000000000), .lit (.int .u64 1000000000000), .lit (.int .u64 10000000000000), .lit (.int .u64 100000000000000), .lit (.int .u64 1000000000000000), .lit (.int .u64 10000000000000000), .lit (.int .u64 100000000000000000), .lit (.int .u64 1000000000000000000), .lit (.int .u64 10000000000000000000)]

/-- 'damperlaw12.StampLatest': WHATEVER THE INPUT: true; the input reads as it did. -/
def stampLatestSpec : ChangeSpec := { name := "stampLatest", fn := fun _ => fun
  | [d1, d2] => { results := [.lit (.bool true)], args := [d1, d2] }
  | _ => none }
def stampLatestRow : OpenClaim := { program := "ytmiojmnifnnncaadoor", sum := "7f154138cc8bec6b0934e50245856251be64a5997f9480b9956322eabdb5bcbd", func := "damper/damperlaw12.StampLatest", spec := "stampLatest", unfollowed := true, recurses := true, named := ["internal/strconv.uint64pow10", "math/bits.deBruijn32tab", "math/bits.deBruijn64tab"], apart := false, laid := [("math/bits.deBruijn32tab", laid_math_bits_deBruijn32tab), ("math/bits.deBruijn64tab", laid_math_bits_deBruijn64tab), ("internal/strconv.uint64pow10", laid_internal_strconv_uint64pow10)] }
def StampLatestSaid : Prop := stampLatestRow.holds Tryd.pinned (OpenSpec.ofChange stampLatestSpec)

/-- ITS FALSE NEIGHBOUR: 'it returns false'. Refute it at one input. -/
def stampLatestWrong : ChangeSpec := { name := "stampLatest", fn := fun _ => fun
  | [d1, d2] => { results := [.lit (.bool false)], args := [d1, d2] }
  | _ => none }
def StampLatestWrongFalsely : Prop := stampLatestRow.holds Tryd.pinned (OpenSpec.ofChange stampLatestWrong)

/-- 'damperlaw12.StampStays': WHATEVER THE INPUT: true; the input reads as it did. -/
def stampStaysSpec : ChangeSpec := { name := "stampStays", fn := fun _ => fun
  | [d1, d2, d3, d4] => { results := [.lit (.bool true)], args := [d1, d2, d3, d4] }
  | _ => none }
def stampStaysRow : OpenClaim := { program := "ytmiojmnifnnncaadoor", sum := "7f154138cc8bec6b0934e50245856251be64a5997f9480b9956322eabdb5bcbd", func := "damper/damperlaw12.StampStays", spec := "stampStays", unfollowed := true, recurses := true, named := ["internal/strconv.uint64pow10", "math/bits.deBruijn32tab", "math/bits.deBruijn64tab"], apart := false, laid := [("math/bits.deBruijn32tab", laid_math_bits_deBruijn32tab), ("math/bits.deBruijn64tab", laid_math_bits_deBruijn64tab), ("internal/strconv.uint64pow10", laid_internal_strconv_uint64pow10)] }
def StampStaysSaid : Prop := stampStaysRow.holds Tryd.pinned (OpenSpec.ofChange stampStaysSpec)

/-- ITS FALSE NEIGHBOUR: 'it returns false'. Refute it at one input. -/
def stampStaysWrong : ChangeSpec := { name := "stampStays", fn := fun _ => fun
  | [d1, d2, d3, d4] => { results := [.lit (.bool false)], args := [d1, d2, d3, d4] }
  | _ => none }
def StampStaysWrongFalsely : Prop := stampStaysRow.holds Tryd.pinned (OpenSpec.ofChange stampStaysWrong)

/-- 'damperlaw12.StampFar': WHATEVER THE INPUT: true; the input reads as it did. -/
def stampFarSpec : ChangeSpec := { name := "stampFar", fn := fun _ => fun
  | [d1, d2] => { results := [.lit (.bool true)], args := [d1, d2] }
  | _ => none }
def stampFarRow : OpenClaim := { program := "ytmiojmnifnnncaadoor", sum := "7f154138cc8bec6b0934e50245856251be64a5997f9480b9956322eabdb5bcbd", func := "damper/damperlaw12.StampFar", spec := "stampFar", unfollowed := true, recurses := true, named := ["internal/strconv.uint64pow10", "math/bits.deBruijn32tab", "math/bits.deBruijn64tab"], apart := false, laid := [("math/bits.deBruijn32tab", laid_math_bits_deBruijn32tab), ("math/bits.deBruijn64tab", laid_math_bits_deBruijn64tab), ("internal/strconv.uint64pow10", laid_internal_strconv_uint64pow10)] }
def StampFarSaid : Prop := stampFarRow.holds Tryd.pinned (OpenSpec.ofChange stampFarSpec)

/-- ITS FALSE NEIGHBOUR: 'it returns false'. Refute it at one input. -/
def stampFarWrong : ChangeSpec := { name := "stampFar", fn := fun _ => fun
  | [d1, d2] => { results := [.lit (.bool false)], args := [d1, d2] }
  | _ => none }
def StampFarWrongFalsely : Prop := stampFarRow.holds Tryd.pinned (OpenSpec.ofChange stampFarWrong)

/-- 'damperlaw12.StampProves': WHATEVER THE INPUT: true; the input reads as it did. -/
def stampProvesSpec : ChangeSpec := { name := "stampProves", fn := fun _ => fun
  | [d1, d2, d3] => { results := [.lit (.bool true)], args := [d1, d2, d3] }
  | _ => none }
def stampProvesRow : OpenClaim := { program := "ytmiojmnifnnncaadoor", sum := "7f154138cc8bec6b0934e50245856251be64a5997f9480b9956322eabdb5bcbd", func := "damper/damperlaw12.StampProves", spec := "stampProves", unfollowed := true, recurses := true, named := ["internal/strconv.uint64pow10", "math/bits.deBruijn32tab", "math/bits.deBruijn64tab"], apart := false, laid := [("math/bits.deBruijn32tab", laid_math_bits_deBruijn32tab), ("math/bits.deBruijn64tab", laid_math_bits_deBruijn64tab), ("internal/strconv.uint64pow10", laid_internal_strconv_uint64pow10)] }
def StampProvesSaid : Prop := stampProvesRow.holds Tryd.pinned (OpenSpec.ofChange stampProvesSpec)

/-- ITS FALSE NEIGHBOUR: 'it returns false'. Refute it at one input. -/
def stampProvesWrong : ChangeSpec := { name := "stampProves", fn := fun _ => fun
  | [d1, d2, d3] => { results := [.lit (.bool false)], args := [d1, d2, d3] }
  | _ => none }
def StampProvesWrongFalsely : Prop := stampProvesRow.holds Tryd.pinned (OpenSpec.ofChange stampProvesWrong)

/-- 'damperlaw12.StampOrder': WHATEVER THE INPUT: true; the input reads as it did. -/
def stampOrderSpec : ChangeSpec := { name := "stampOrder", fn := fun _ => fun
  | [d1, d2] => { results := [.lit (.bool true)], args := [d1, d2] }
  | _ => none }
def stampOrderRow : OpenClaim := { program := "ytmiojmnifnnncaadoor", sum := "7f154138cc8bec6b0934e50245856251be64a5997f9480b9956322eabdb5bcbd", func := "damper/damperlaw12.StampOrder", spec := "stampOrder", unfollowed := true, recurses := true, named := ["internal/strconv.uint64pow10", "math/bits.deBruijn32tab", "math/bits.deBruijn64tab"], apart := false, laid := [("math/bits.deBruijn32tab", laid_math_bits_deBruijn32tab), ("math/bits.deBruijn64tab", laid_math_bits_deBruijn64tab), ("internal/strconv.uint64pow10", laid_internal_strconv_uint64pow10)] }
def StampOrderSaid : Prop := stampOrderRow.holds Tryd.pinned (OpenSpec.ofChange stampOrderSpec)

/-- ITS FALSE NEIGHBOUR: 'it returns false'. Refute it at one input. -/
def stampOrderWrong : ChangeSpec := { name := "stampOrder", fn := fun _ => fun
  | [d1, d2] => { results := [.lit (.bool false)], args := [d1, d2] }
  | _ => none }
def StampOrderWrongFalsely : Prop := stampOrderRow.holds Tryd.pinned (OpenSpec.ofChange stampOrderWrong)

/-- 'damperlaw12.StampPlays': WHATEVER THE INPUT: true; the input reads as it did. -/
def stampPlaysSpec : ChangeSpec := { name := "stampPlays", fn := fun _ => fun
  | [d] => { results := [.lit (.bool true)], args := [d] }
  | _ => none }
def stampPlaysRow : OpenClaim := { program := "ytmiojmnifnnncaadoor", sum := "7f154138cc8bec6b0934e50245856251be64a5997f9480b9956322eabdb5bcbd", func := "damper/damperlaw12.StampPlays", spec := "stampPlays", unfollowed := true, recurses := true, named := ["internal/strconv.uint64pow10", "math/bits.deBruijn32tab", "math/bits.deBruijn64tab"], apart := false, laid := [("math/bits.deBruijn32tab", laid_math_bits_deBruijn32tab), ("math/bits.deBruijn64tab", laid_math_bits_deBruijn64tab), ("internal/strconv.uint64pow10", laid_internal_strconv_uint64pow10)] }
def StampPlaysSaid : Prop := stampPlaysRow.holds Tryd.pinned (OpenSpec.ofChange stampPlaysSpec)

/-- ITS FALSE NEIGHBOUR: 'it returns false'. Refute it at one input. -/
def stampPlaysWrong : ChangeSpec := { name := "stampPlays", fn := fun _ => fun
  | [d] => { results := [.lit (.bool false)], args := [d] }
  | _ => none }
def StampPlaysWrongFalsely : Prop := stampPlaysRow.holds Tryd.pinned (OpenSpec.ofChange stampPlaysWrong)

/-- 'damperlaw12.StampFamily': WHATEVER THE INPUT: true; the input reads as it did. -/
def stampFamilySpec : ChangeSpec := { name := "stampFamily", fn := fun _ => fun
  | [d1, d2] => { results := [.lit (.bool true)], args := [d1, d2] }
  | _ => none }
def stampFamilyRow : OpenClaim := { program := "ytmiojmnifnnncaadoor", sum := "7f154138cc8bec6b0934e50245856251be64a5997f9480b9956322eabdb5bcbd", func := "damper/damperlaw12.StampFamily", spec := "stampFamily", unfollowed := true, recurses := true, named := ["internal/strconv.uint64pow10", "math/bits.deBruijn32tab", "math/bits.deBruijn64tab"], apart := false, laid := [("math/bits.deBruijn32tab", laid_math_bits_deBruijn32tab), ("math/bits.deBruijn64tab", laid_math_bits_deBruijn64tab), ("internal/strconv.uint64pow10", laid_internal_strconv_uint64pow10)] }
def StampFamilySaid : Prop := stampFamilyRow.holds Tryd.pinned (OpenSpec.ofChange stampFamilySpec)

/-- ITS FALSE NEIGHBOUR: 'it returns false'. Refute it at one input. -/
def stampFamilyWrong : ChangeSpec := { name := "stampFamily", fn := fun _ => fun
  | [d1, d2] => { results := [.lit (.bool false)], args := [d1, d2] }
  | _ => none }
def StampFamilyWrongFalsely : Prop := stampFamilyRow.holds Tryd.pinned (OpenSpec.ofChange stampFamilyWrong)

/-- 'damperlaw12.StampTwice': WHATEVER THE INPUT: true; the input reads as it did. -/
def stampTwiceSpec : ChangeSpec := { name := "stampTwice", fn := fun _ => fun
  | [d1, d2] => { results := [.lit (.bool true)], args := [d1, d2] }
  | _ => none }
def stampTwiceRow : OpenClaim := { program := "ytmiojmnifnnncaadoor", sum := "7f154138cc8bec6b0934e50245856251be64a5997f9480b9956322eabdb5bcbd", func := "damper/damperlaw12.StampTwice", spec := "stampTwice", unfollowed := true, recurses := true, named := ["internal/strconv.uint64pow10", "math/bits.deBruijn32tab", "math/bits.deBruijn64tab"], apart := false, laid := [("math/bits.deBruijn32tab", laid_math_bits_deBruijn32tab), ("math/bits.deBruijn64tab", laid_math_bits_deBruijn64tab), ("internal/strconv.uint64pow10", laid_internal_strconv_uint64pow10)] }
def StampTwiceSaid : Prop := stampTwiceRow.holds Tryd.pinned (OpenSpec.ofChange stampTwiceSpec)

/-- ITS FALSE NEIGHBOUR: 'it returns false'. Refute it at one input. -/
def stampTwiceWrong : ChangeSpec := { name := "stampTwice", fn := fun _ => fun
  | [d1, d2] => { results := [.lit (.bool false)], args := [d1, d2] }
  | _ => none }
def StampTwiceWrongFalsely : Prop := stampTwiceRow.holds Tryd.pinned (OpenSpec.ofChange stampTwiceWrong)

/- THE SECOND FORM. 'bulk': how many values and letters a reading holds, each counted each time it is reached (what is shared counts as often as it is met; a slice's spare places count too). A statement '..UptoSaid' is the law's where the arguments, and the package variables that the reading takes, are together of bulk at most 1048576: NARROWER than '..Said'. Prove '..Said' where nothing that the law and all that it calls make is longer than what came in: it says more and counts as full. Else prove '..UptoSaid'. A law counts once. -/
mutual
def uptoBulk {H : Type} : DataW H → Nat
  | .lit (.string bytes) => bytes.length + 1
  | .lit _ => 1
  | .nil => 1
  | .ptr d => uptoBulk d + 1
  | .slice elems spare => uptoBulkAll elems + uptoBulkAll spare + 1
  | .agg parts => uptoBulkAll parts + 1
  | .iface _ d => uptoBulk d + 1
  | .map entries => uptoBulkEntries entries + 1
  | .held _ => 1
def uptoBulkAll {H : Type} : List (DataW H) → Nat
  | [] => 0
  | d :: r => uptoBulk d + uptoBulkAll r
def uptoBulkEntries {H : Type} : List (Lit × DataW H) → Nat
  | [] => 0
  | x :: r => uptoBulkEntry x + uptoBulkEntries r
def uptoBulkEntry {H : Type} : Lit × DataW H → Nat
  | (.string bytes, d) => bytes.length + uptoBulk d + 1
  | (_, d) => uptoBulk d + 1
 end
def uptoSmall : (H : Type) → List (DataW H) → Bool := fun _ ds => decide (uptoBulkAll ds ≤ 1048576)
def OpenSpec.upto (s : _root_.Go.ChangeSpec) : _root_.Go.OpenSpec := { _root_.Go.OpenSpec.ofChange s with cond := some uptoSmall }

/-- 'damperlaw12.StampLatest', WHERE WHAT IT READS IS OF BULK AT MOST 1048576: true; the input reads as it did. -/
def stampLatestUptoRow : OpenClaim := { program := "ytmiojmnifnnncaadoor", sum := "7f154138cc8bec6b0934e50245856251be64a5997f9480b9956322eabdb5bcbd", func := "damper/damperlaw12.StampLatest", spec := "stampLatest", unfollowed := true, recurses := true, named := ["internal/strconv.uint64pow10", "math/bits.deBruijn32tab", "math/bits.deBruijn64tab"], apart := false, laid := [("math/bits.deBruijn32tab", laid_math_bits_deBruijn32tab), ("math/bits.deBruijn64tab", laid_math_bits_deBruijn64tab), ("internal/strconv.uint64pow10", laid_internal_strconv_uint64pow10)], narrowed := true }
def StampLatestUptoSaid : Prop := stampLatestUptoRow.holds Tryd.pinned (OpenSpec.upto stampLatestSpec)

/-- 'damperlaw12.StampStays', WHERE WHAT IT READS IS OF BULK AT MOST 1048576: true; the input reads as it did. -/
def stampStaysUptoRow : OpenClaim := { program := "ytmiojmnifnnncaadoor", sum := "7f154138cc8bec6b0934e50245856251be64a5997f9480b9956322eabdb5bcbd", func := "damper/damperlaw12.StampStays", spec := "stampStays", unfollowed := true, recurses := true, named := ["internal/strconv.uint64pow10", "math/bits.deBruijn32tab", "math/bits.deBruijn64tab"], apart := false, laid := [("math/bits.deBruijn32tab", laid_math_bits_deBruijn32tab), ("math/bits.deBruijn64tab", laid_math_bits_deBruijn64tab), ("internal/strconv.uint64pow10", laid_internal_strconv_uint64pow10)], narrowed := true }
def StampStaysUptoSaid : Prop := stampStaysUptoRow.holds Tryd.pinned (OpenSpec.upto stampStaysSpec)

/-- 'damperlaw12.StampFar', WHERE WHAT IT READS IS OF BULK AT MOST 1048576: true; the input reads as it did. -/
def stampFarUptoRow : OpenClaim := { program := "ytmiojmnifnnncaadoor", sum := "7f154138cc8bec6b0934e50245856251be64a5997f9480b9956322eabdb5bcbd", func := "damper/damperlaw12.StampFar", spec := "stampFar", unfollowed := true, recurses := true, named := ["internal/strconv.uint64pow10", "math/bits.deBruijn32tab", "math/bits.deBruijn64tab"], apart := false, laid := [("math/bits.deBruijn32tab", laid_math_bits_deBruijn32tab), ("math/bits.deBruijn64tab", laid_math_bits_deBruijn64tab), ("internal/strconv.uint64pow10", laid_internal_strconv_uint64pow10)], narrowed := true }
def StampFarUptoSaid : Prop := stampFarUptoRow.holds Tryd.pinned (OpenSpec.upto stampFarSpec)

/-- 'damperlaw12.StampProves', WHERE WHAT IT READS IS OF BULK AT MOST 1048576: true; the input reads as it did. -/
def stampProvesUptoRow : OpenClaim := { program := "ytmiojmnifnnncaadoor", sum := "7f154138cc8bec6b0934e50245856251be64a5997f9480b9956322eabdb5bcbd", func := "damper/damperlaw12.StampProves", spec := "stampProves", unfollowed := true, recurses := true, named := ["internal/strconv.uint64pow10", "math/bits.deBruijn32tab", "math/bits.deBruijn64tab"], apart := false, laid := [("math/bits.deBruijn32tab", laid_math_bits_deBruijn32tab), ("math/bits.deBruijn64tab", laid_math_bits_deBruijn64tab), ("internal/strconv.uint64pow10", laid_internal_strconv_uint64pow10)], narrowed := true }
def StampProvesUptoSaid : Prop := stampProvesUptoRow.holds Tryd.pinned (OpenSpec.upto stampProvesSpec)

/-- 'damperlaw12.StampOrder', WHERE WHAT IT READS IS OF BULK AT MOST 1048576: true; the input reads as it did. -/
def stampOrderUptoRow : OpenClaim := { program := "ytmiojmnifnnncaadoor", sum := "7f154138cc8bec6b0934e50245856251be64a5997f9480b9956322eabdb5bcbd", func := "damper/damperlaw12.StampOrder", spec := "stampOrder", unfollowed := true, recurses := true, named := ["internal/strconv.uint64pow10", "math/bits.deBruijn32tab", "math/bits.deBruijn64tab"], apart := false, laid := [("math/bits.deBruijn32tab", laid_math_bits_deBruijn32tab), ("math/bits.deBruijn64tab", laid_math_bits_deBruijn64tab), ("internal/strconv.uint64pow10", laid_internal_strconv_uint64pow10)], narrowed := true }
def StampOrderUptoSaid : Prop := stampOrderUptoRow.holds Tryd.pinned (OpenSpec.upto stampOrderSpec)

/-- 'damperlaw12.StampPlays', WHERE WHAT IT READS IS OF BULK AT MOST 1048576: true; the input reads as it did. -/
def stampPlaysUptoRow : OpenClaim := { program := "ytmiojmnifnnncaadoor", sum := "7f154138cc8bec6b0934e50245856251be64a5997f9480b9956322eabdb5bcbd", func := "damper/damperlaw12.StampPlays", spec := "stampPlays", unfollowed := true, recurses := true, named := ["internal/strconv.uint64pow10", "math/bits.deBruijn32tab", "math/bits.deBruijn64tab"], apart := false, laid := [("math/bits.deBruijn32tab", laid_math_bits_deBruijn32tab), ("math/bits.deBruijn64tab", laid_math_bits_deBruijn64tab), ("internal/strconv.uint64pow10", laid_internal_strconv_uint64pow10)], narrowed := true }
def StampPlaysUptoSaid : Prop := stampPlaysUptoRow.holds Tryd.pinned (OpenSpec.upto stampPlaysSpec)

/-- 'damperlaw12.StampFamily', WHERE WHAT IT READS IS OF BULK AT MOST 1048576: true; the input reads as it did. -/
def stampFamilyUptoRow : OpenClaim := { program := "ytmiojmnifnnncaadoor", sum := "7f154138cc8bec6b0934e50245856251be64a5997f9480b9956322eabdb5bcbd", func := "damper/damperlaw12.StampFamily", spec := "stampFamily", unfollowed := true, recurses := true, named := ["internal/strconv.uint64pow10", "math/bits.deBruijn32tab", "math/bits.deBruijn64tab"], apart := false, laid := [("math/bits.deBruijn32tab", laid_math_bits_deBruijn32tab), ("math/bits.deBruijn64tab", laid_math_bits_deBruijn64tab), ("internal/strconv.uint64pow10", laid_internal_strconv_uint64pow10)], narrowed := true }
def StampFamilyUptoSaid : Prop := stampFamilyUptoRow.holds Tryd.pinned (OpenSpec.upto stampFamilySpec)

/-- 'damperlaw12.StampTwice', WHERE WHAT IT READS IS OF BULK AT MOST 1048576: true; the input reads as it did. -/
def stampTwiceUptoRow : OpenClaim := { program := "ytmiojmnifnnncaadoor", sum := "7f154138cc8bec6b0934e50245856251be64a5997f9480b9956322eabdb5bcbd", func := "damper/damperlaw12.StampTwice", spec := "stampTwice", unfollowed := true, recurses := true, named := ["internal/strconv.uint64pow10", "math/bits.deBruijn32tab", "math/bits.deBruijn64tab"], apart := false, laid := [("math/bits.deBruijn32tab", laid_math_bits_deBruijn32tab), ("math/bits.deBruijn64tab", laid_math_bits_deBruijn64tab), ("internal/strconv.uint64pow10", laid_internal_strconv_uint64pow10)], narrowed := true }
def StampTwiceUptoSaid : Prop := stampTwiceUptoRow.holds Tryd.pinned (OpenSpec.upto stampTwiceSpec)

end Rows
end Go.Proofs.YtmiojmnifnnncaaDoor
