/-
  No cell of these rows narrows 'for every input' (looked for: loops, veiled, ifaces, maps, wideKeys, modest, calm, conditions, laid).
  DERIVED. THE GIVEN ROWS OF THIS SEAT. 6 by the template 'for every input the law returns true; each argument reads behind the call as it read before'; 0 by the template 'total and deterministic' (their statements: YtefcchnmgnlanaaTotals.lean).
  GIVEN WITH THE SEED: the statements are not yours to turn. If you find one false, say at which input.
  Laid BY PROGRAM, IN A SANDBOX (cutbox-rows.mjs): the forced cells as the released guide's own fill.sh prints them over the translation 398835573194920c… (all of the seat's roots in one cut). By AI agents, Wed Nov 11 2026. No macro, syntax, notation, axiom, sorry.
-/
import Derived.Test.YtefcchnmgnlanaaChecked
import GoSem.Claim
import GoSem.ClaimJoined
import GoSem.ClaimMapViews
import Derived.JoinedTies
import Derived.KernelRfl
namespace Go.Proofs.Ytefcchnmgnlanaa
/- THE CELL 'sum', in the pinned program and in every row, IS THE sha256 OF THE DUMP (.gsa) THAT YtefcchnmgnlanaaProg.lean LOADS. Nothing in Lean hashes anything: it is a label: what it is worth is what the hold of that sum in a sandbox is worth. -/
noncomputable def Try.pinned : Pinned := { name := "ytefcchnmgnlanaa", sum := "398835573194920c1b021917c149ff7b850f421ba08e658dbeb0a4e82cebb416", checked := Try.checked }
namespace Rows
def none {H : Type} : Left H := { results := [], args := [] }

/-- 'damperlaw7.PodFills': WHATEVER THE INPUT: true; the input reads as it did. -/
def podFillsSpec : ChangeSpec := { name := "podFills", fn := fun _ => fun
  | [d1, d2] => { results := [.lit (.bool true)], args := [d1, d2] }
  | _ => none }
def podFillsRow : OpenClaim := { program := "ytefcchnmgnlanaa", sum := "398835573194920c1b021917c149ff7b850f421ba08e658dbeb0a4e82cebb416", func := "damper/damperlaw7.PodFills", spec := "podFills", apart := false }
def PodFillsSaid : Prop := podFillsRow.holds Try.pinned (OpenSpec.ofChange podFillsSpec)

/-- ITS FALSE NEIGHBOUR: 'it returns false'. Refute it at one input. -/
def podFillsWrong : ChangeSpec := { name := "podFills", fn := fun _ => fun
  | [d1, d2] => { results := [.lit (.bool false)], args := [d1, d2] }
  | _ => none }
def PodFillsWrongFalsely : Prop := podFillsRow.holds Try.pinned (OpenSpec.ofChange podFillsWrong)

/-- 'damperlaw7.PodRoom': WHATEVER THE INPUT: true; the input reads as it did. -/
def podRoomSpec : ChangeSpec := { name := "podRoom", fn := fun _ => fun
  | [d1, d2] => { results := [.lit (.bool true)], args := [d1, d2] }
  | _ => none }
def podRoomRow : OpenClaim := { program := "ytefcchnmgnlanaa", sum := "398835573194920c1b021917c149ff7b850f421ba08e658dbeb0a4e82cebb416", func := "damper/damperlaw7.PodRoom", spec := "podRoom", unfollowed := true, recurses := true, apart := false }
def PodRoomSaid : Prop := podRoomRow.holds Try.pinned (OpenSpec.ofChange podRoomSpec)

/-- ITS FALSE NEIGHBOUR: 'it returns false'. Refute it at one input. -/
def podRoomWrong : ChangeSpec := { name := "podRoom", fn := fun _ => fun
  | [d1, d2] => { results := [.lit (.bool false)], args := [d1, d2] }
  | _ => none }
def PodRoomWrongFalsely : Prop := podRoomRow.holds Try.pinned (OpenSpec.ofChange podRoomWrong)

/-- 'damperlaw7.PodApart': WHATEVER THE INPUT: true; the input reads as it did. -/
def podApartSpec : ChangeSpec := { name := "podApart", fn := fun _ => fun
  | [d1, d2, d3] => { results := [.lit (.bool true)], args := [d1, d2, d3] }
  | _ => none }
def podApartRow : OpenClaim := { program := "ytefcchnmgnlanaa", sum := "398835573194920c1b021917c149ff7b850f421ba08e658dbeb0a4e82cebb416", func := "damper/damperlaw7.PodApart", spec := "podApart", unfollowed := true, recurses := true, apart := false }
def PodApartSaid : Prop := podApartRow.holds Try.pinned (OpenSpec.ofChange podApartSpec)

/-- ITS FALSE NEIGHBOUR: 'it returns false'. Refute it at one input. -/
def podApartWrong : ChangeSpec := { name := "podApart", fn := fun _ => fun
  | [d1, d2, d3] => { results := [.lit (.bool false)], args := [d1, d2, d3] }
  | _ => none }
def PodApartWrongFalsely : Prop := podApartRow.holds Try.pinned (OpenSpec.ofChange podApartWrong)

/-- 'damperlaw7.PodPlays': WHATEVER THE INPUT: true; the input reads as it did. -/
def podPlaysSpec : ChangeSpec := { name := "podPlays", fn := fun _ => fun
  | [d1, d2] => { results := [.lit (.bool true)], args := [d1, d2] }
  | _ => none }
def podPlaysRow : OpenClaim := { program := "ytefcchnmgnlanaa", sum := "398835573194920c1b021917c149ff7b850f421ba08e658dbeb0a4e82cebb416", func := "damper/damperlaw7.PodPlays", spec := "podPlays", unfollowed := true, recurses := true, apart := false }
def PodPlaysSaid : Prop := podPlaysRow.holds Try.pinned (OpenSpec.ofChange podPlaysSpec)

/-- ITS FALSE NEIGHBOUR: 'it returns false'. Refute it at one input. -/
def podPlaysWrong : ChangeSpec := { name := "podPlays", fn := fun _ => fun
  | [d1, d2] => { results := [.lit (.bool false)], args := [d1, d2] }
  | _ => none }
def PodPlaysWrongFalsely : Prop := podPlaysRow.holds Try.pinned (OpenSpec.ofChange podPlaysWrong)

/-- 'damperlaw7.PodDrains': WHATEVER THE INPUT: true; the input reads as it did. -/
def podDrainsSpec : ChangeSpec := { name := "podDrains", fn := fun _ => fun
  | [d1, d2, d3] => { results := [.lit (.bool true)], args := [d1, d2, d3] }
  | _ => none }
def podDrainsRow : OpenClaim := { program := "ytefcchnmgnlanaa", sum := "398835573194920c1b021917c149ff7b850f421ba08e658dbeb0a4e82cebb416", func := "damper/damperlaw7.PodDrains", spec := "podDrains", unfollowed := true, recurses := true, apart := false }
def PodDrainsSaid : Prop := podDrainsRow.holds Try.pinned (OpenSpec.ofChange podDrainsSpec)

/-- ITS FALSE NEIGHBOUR: 'it returns false'. Refute it at one input. -/
def podDrainsWrong : ChangeSpec := { name := "podDrains", fn := fun _ => fun
  | [d1, d2, d3] => { results := [.lit (.bool false)], args := [d1, d2, d3] }
  | _ => none }
def PodDrainsWrongFalsely : Prop := podDrainsRow.holds Try.pinned (OpenSpec.ofChange podDrainsWrong)

/-- 'damperlaw7.PodWays': WHATEVER THE INPUT: true; the input reads as it did. -/
def podWaysSpec : ChangeSpec := { name := "podWays", fn := fun _ => fun
  | [d1, d2] => { results := [.lit (.bool true)], args := [d1, d2] }
  | _ => none }
def podWaysRow : OpenClaim := { program := "ytefcchnmgnlanaa", sum := "398835573194920c1b021917c149ff7b850f421ba08e658dbeb0a4e82cebb416", func := "damper/damperlaw7.PodWays", spec := "podWays", unfollowed := true, recurses := true, apart := false }
def PodWaysSaid : Prop := podWaysRow.holds Try.pinned (OpenSpec.ofChange podWaysSpec)

/-- ITS FALSE NEIGHBOUR: 'it returns false'. Refute it at one input. -/
def podWaysWrong : ChangeSpec := { name := "podWays", fn := fun _ => fun
  | [d1, d2] => { results := [.lit (.bool false)], args := [d1, d2] }
  | _ => none }
def PodWaysWrongFalsely : Prop := podWaysRow.holds Try.pinned (OpenSpec.ofChange podWaysWrong)

/- THE SECOND FORM. 'bulk': how many values and letters a reading holds, each counted each time it is reached (what is shared counts as often as it is met; a slice's spare places count too). A statement '..UptoSaid' is the law's where the arguments, and the package variables that the reading takes, are together of bulk at most 1048576: NARROWER than '..Said'. Prove '..Said' where nothing that the law and all that it calls make is longer than what came in: it says more and counts as full. Else prove '..UptoSaid'. A law counts once. -/
mutual
def uptoBulk {H : Type} : DataW H → Nat
  | .lit (.string bytes) => bytes.length + 1
  | .lit _ => 1
  | .nil => 1
  | .ptr d => uptoBulk d + 1
  | .slice elems spare => uptoBulkAll elems + uptoBulkAll spare + 1
  | .agg parts => uptoBulkAll parts + 1
  | .iface _ d => uptoBulk d + 1
  | .map entries => uptoBulkEntries entries + 1
  | .held _ => 1
def uptoBulkAll {H : Type} : List (DataW H) → Nat
  | [] => 0
  | d :: r => uptoBulk d + uptoBulkAll r
def uptoBulkEntries {H : Type} : List (Lit × DataW H) → Nat
  | [] => 0
  | x :: r => uptoBulkEntry x + uptoBulkEntries r
def uptoBulkEntry {H : Type} : Lit × DataW H → Nat
  | (.string bytes, d) => bytes.length + uptoBulk d + 1
  | (_, d) => uptoBulk d + 1
 end
def uptoSmall : (H : Type) → List (DataW H) → Bool := fun _ ds => decide (uptoBulkAll ds ≤ 1048576)
def OpenSpec.upto (s : _root_.Go.ChangeSpec) : _root_.Go.OpenSpec := { _root_.Go.OpenSpec.ofChange s with cond := some uptoSmall }

/-- 'damperlaw7.PodFills', WHERE WHAT IT READS IS OF BULK AT MOST 1048576: true; the input reads as it did. -/
def podFillsUptoRow : OpenClaim := { program := "ytefcchnmgnlanaa", sum := "398835573194920c1b021917c149ff7b850f421ba08e658dbeb0a4e82cebb416", func := "damper/damperlaw7.PodFills", spec := "podFills", apart := false, narrowed := true }
def PodFillsUptoSaid : Prop := podFillsUptoRow.holds Try.pinned (OpenSpec.upto podFillsSpec)

/-- 'damperlaw7.PodRoom', WHERE WHAT IT READS IS OF BULK AT MOST 1048576: true; the input reads as it did. -/
def podRoomUptoRow : OpenClaim := { program := "ytefcchnmgnlanaa", sum := "398835573194920c1b021917c149ff7b850f421ba08e658dbeb0a4e82cebb416", func := "damper/damperlaw7.PodRoom", spec := "podRoom", unfollowed := true, recurses := true, apart := false, narrowed := true }
def PodRoomUptoSaid : Prop := podRoomUptoRow.holds Try.pinned (OpenSpec.upto podRoomSpec)

/-- 'damperlaw7.PodApart', WHERE WHAT IT READS IS OF BULK AT MOST 1048576: true; the input reads as it did. -/
def podApartUptoRow : OpenClaim := { program := "ytefcchnmgnlanaa", sum := "398835573194920c1b021917c149ff7b850f421ba08e658dbeb0a4e82cebb416", func := "damper/damperlaw7.PodApart", spec := "podApart", unfollowed := true, recurses := true, apart := false, narrowed := true }
def PodApartUptoSaid : Prop := podApartUptoRow.holds Try.pinned (OpenSpec.upto podApartSpec)

/-- 'damperlaw7.PodPlays', WHERE WHAT IT READS IS OF BULK AT MOST 1048576: true; the input reads as it did. -/
def podPlaysUptoRow : OpenClaim := { program := "ytefcchnmgnlanaa", sum := "398835573194920c1b021917c149ff7b850f421ba08e658dbeb0a4e82cebb416", func := "damper/damperlaw7.PodPlays", spec := "podPlays", unfollowed := true, recurses := true, apart := false, narrowed := true }
def PodPlaysUptoSaid : Prop := podPlaysUptoRow.holds Try.pinned (OpenSpec.upto podPlaysSpec)

/-- 'damperlaw7.PodDrains', WHERE WHAT IT READS IS OF BULK AT MOST 1048576: true; the input reads as it did. -/
def podDrainsUptoRow : OpenClaim := { program := "ytefcchnmgnlanaa", sum := "398835573194920c1b021917c149ff7b850f421ba08e658dbeb0a4e82cebb416", func := "damper/damperlaw7.PodDrains", spec := "podDrains", unfollowed := true, recurses := true, apart := false, narrowed := true }
def PodDrainsUptoSaid : Prop := podDrainsUptoRow.holds Try.pinned (OpenSpec.upto podDrainsSpec)

/-- 'damperlaw7.PodWays', WHERE WHAT IT READS IS OF BULK AT MOST 1048576: true; the input reads as it did. -/
def podWaysUptoRow : OpenClaim := { program := "ytefcchnmgnlanaa", sum := "398835573194920c1b021917c149ff7b850f421ba08e658dbeb0a4e82cebb416", func := "damper/damperlaw7.PodWays", spec := "podWays", unfollowed := true, recurses := true, apart := false, narrowed := true }
def PodWaysUptoSaid : Prop := podWaysUptoRow.holds Try.pinned (OpenSpec.upto podWaysSpec)

end Rows
end Go.Proofs.Ytefcchnmgnlanaa
