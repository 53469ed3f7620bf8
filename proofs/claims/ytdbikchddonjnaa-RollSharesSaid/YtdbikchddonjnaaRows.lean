/-
  No cell of these rows narrows 'for every input' (looked for: loops, veiled, ifaces, maps, wideKeys, modest, calm, conditions, laid).
  DERIVED. THE GIVEN ROWS OF THIS SEAT. 9 by the template 'for every input the law returns true; each argument reads behind the call as it read before'; 0 by the template 'total and deterministic' (their statements: YtdbikchddonjnaaTotals.lean).
  GIVEN WITH THE SEED: the statements are not yours to turn. If you find one false, say at which input.
  Laid BY PROGRAM, IN A SANDBOX (cutbox-rows.mjs): the forced cells as the released guide's own fill.sh prints them over the translation 346035a062b50443… (all of the seat's roots in one cut). By AI agents, Wed Nov 11 2026. No macro, syntax, notation, axiom, sorry.
-/
import Derived.Test.YtdbikchddonjnaaChecked
import GoSem.Claim
import GoSem.ClaimJoined
import GoSem.ClaimMapViews
import Derived.JoinedTies
import Derived.KernelRfl
namespace Go.Proofs.Ytdbikchddonjnaa
/- THE CELL 'sum', in the pinned program and in every row, IS THE sha256 OF THE DUMP (.gsa) THAT YtdbikchddonjnaaProg.lean LOADS. Nothing in Lean hashes anything: it is a label: what it is worth is what the hold of that sum in a sandbox is worth. -/
noncomputable def Try.pinned : Pinned := { name := "ytdbikchddonjnaa", sum := "346035a062b50443cd9700d3719f705936427cfd3a443cca85cd1e66e471c904", checked := Try.checked }
namespace Rows
def none {H : Type} : Left H := { results := [], args := [] }

/-- 'damperlaw6.RollShares': WHATEVER THE INPUT: true; the input reads as it did. -/
def rollSharesSpec : ChangeSpec := { name := "rollShares", fn := fun _ => fun
  | [d1, d2, d3, d4, d5] => { results := [.lit (.bool true)], args := [d1, d2, d3, d4, d5] }
  | _ => none }
def rollSharesRow : OpenClaim := { program := "ytdbikchddonjnaa", sum := "346035a062b50443cd9700d3719f705936427cfd3a443cca85cd1e66e471c904", func := "damper/damperlaw6.RollShares", spec := "rollShares", unfollowed := true, recurses := true, apart := false }
def RollSharesSaid : Prop := rollSharesRow.holds Try.pinned (OpenSpec.ofChange rollSharesSpec)

/-- ITS FALSE NEIGHBOUR: 'it returns false'. Refute it at one input. -/
def rollSharesWrong : ChangeSpec := { name := "rollShares", fn := fun _ => fun
  | [d1, d2, d3, d4, d5] => { results := [.lit (.bool false)], args := [d1, d2, d3, d4, d5] }
  | _ => none }
def RollSharesWrongFalsely : Prop := rollSharesRow.holds Try.pinned (OpenSpec.ofChange rollSharesWrong)

/-- 'damperlaw6.RollSound': WHATEVER THE INPUT: true; the input reads as it did. -/
def rollSoundSpec : ChangeSpec := { name := "rollSound", fn := fun _ => fun
  | [d1, d2, d3] => { results := [.lit (.bool true)], args := [d1, d2, d3] }
  | _ => none }
def rollSoundRow : OpenClaim := { program := "ytdbikchddonjnaa", sum := "346035a062b50443cd9700d3719f705936427cfd3a443cca85cd1e66e471c904", func := "damper/damperlaw6.RollSound", spec := "rollSound", unfollowed := true, recurses := true, apart := false }
def RollSoundSaid : Prop := rollSoundRow.holds Try.pinned (OpenSpec.ofChange rollSoundSpec)

/-- ITS FALSE NEIGHBOUR: 'it returns false'. Refute it at one input. -/
def rollSoundWrong : ChangeSpec := { name := "rollSound", fn := fun _ => fun
  | [d1, d2, d3] => { results := [.lit (.bool false)], args := [d1, d2, d3] }
  | _ => none }
def RollSoundWrongFalsely : Prop := rollSoundRow.holds Try.pinned (OpenSpec.ofChange rollSoundWrong)

/-- 'damperlaw6.RollEnds': WHATEVER THE INPUT: true; the input reads as it did. -/
def rollEndsSpec : ChangeSpec := { name := "rollEnds", fn := fun _ => fun
  | [d1, d2, d3, d4] => { results := [.lit (.bool true)], args := [d1, d2, d3, d4] }
  | _ => none }
def rollEndsRow : OpenClaim := { program := "ytdbikchddonjnaa", sum := "346035a062b50443cd9700d3719f705936427cfd3a443cca85cd1e66e471c904", func := "damper/damperlaw6.RollEnds", spec := "rollEnds", unfollowed := true, recurses := true, apart := false }
def RollEndsSaid : Prop := rollEndsRow.holds Try.pinned (OpenSpec.ofChange rollEndsSpec)

/-- ITS FALSE NEIGHBOUR: 'it returns false'. Refute it at one input. -/
def rollEndsWrong : ChangeSpec := { name := "rollEnds", fn := fun _ => fun
  | [d1, d2, d3, d4] => { results := [.lit (.bool false)], args := [d1, d2, d3, d4] }
  | _ => none }
def RollEndsWrongFalsely : Prop := rollEndsRow.holds Try.pinned (OpenSpec.ofChange rollEndsWrong)

/-- 'damperlaw6.RollOne': WHATEVER THE INPUT: true; the input reads as it did. -/
def rollOneSpec : ChangeSpec := { name := "rollOne", fn := fun _ => fun
  | [d1, d2, d3] => { results := [.lit (.bool true)], args := [d1, d2, d3] }
  | _ => none }
def rollOneRow : OpenClaim := { program := "ytdbikchddonjnaa", sum := "346035a062b50443cd9700d3719f705936427cfd3a443cca85cd1e66e471c904", func := "damper/damperlaw6.RollOne", spec := "rollOne", unfollowed := true, recurses := true, apart := false }
def RollOneSaid : Prop := rollOneRow.holds Try.pinned (OpenSpec.ofChange rollOneSpec)

/-- ITS FALSE NEIGHBOUR: 'it returns false'. Refute it at one input. -/
def rollOneWrong : ChangeSpec := { name := "rollOne", fn := fun _ => fun
  | [d1, d2, d3] => { results := [.lit (.bool false)], args := [d1, d2, d3] }
  | _ => none }
def RollOneWrongFalsely : Prop := rollOneRow.holds Try.pinned (OpenSpec.ofChange rollOneWrong)

/-- 'damperlaw6.RollOrder': WHATEVER THE INPUT: true; the input reads as it did. -/
def rollOrderSpec : ChangeSpec := { name := "rollOrder", fn := fun _ => fun
  | [d1, d2, d3, d4] => { results := [.lit (.bool true)], args := [d1, d2, d3, d4] }
  | _ => none }
def rollOrderRow : OpenClaim := { program := "ytdbikchddonjnaa", sum := "346035a062b50443cd9700d3719f705936427cfd3a443cca85cd1e66e471c904", func := "damper/damperlaw6.RollOrder", spec := "rollOrder", unfollowed := true, recurses := true, apart := false }
def RollOrderSaid : Prop := rollOrderRow.holds Try.pinned (OpenSpec.ofChange rollOrderSpec)

/-- ITS FALSE NEIGHBOUR: 'it returns false'. Refute it at one input. -/
def rollOrderWrong : ChangeSpec := { name := "rollOrder", fn := fun _ => fun
  | [d1, d2, d3, d4] => { results := [.lit (.bool false)], args := [d1, d2, d3, d4] }
  | _ => none }
def RollOrderWrongFalsely : Prop := rollOrderRow.holds Try.pinned (OpenSpec.ofChange rollOrderWrong)

/-- 'damperlaw6.RollKnown': WHATEVER THE INPUT: true; the input reads as it did. -/
def rollKnownSpec : ChangeSpec := { name := "rollKnown", fn := fun _ => fun
  | [d] => { results := [.lit (.bool true)], args := [d] }
  | _ => none }
def rollKnownRow : OpenClaim := { program := "ytdbikchddonjnaa", sum := "346035a062b50443cd9700d3719f705936427cfd3a443cca85cd1e66e471c904", func := "damper/damperlaw6.RollKnown", spec := "rollKnown", unfollowed := true, recurses := true, apart := false }
def RollKnownSaid : Prop := rollKnownRow.holds Try.pinned (OpenSpec.ofChange rollKnownSpec)

/-- ITS FALSE NEIGHBOUR: 'it returns false'. Refute it at one input. -/
def rollKnownWrong : ChangeSpec := { name := "rollKnown", fn := fun _ => fun
  | [d] => { results := [.lit (.bool false)], args := [d] }
  | _ => none }
def RollKnownWrongFalsely : Prop := rollKnownRow.holds Try.pinned (OpenSpec.ofChange rollKnownWrong)

/-- 'damperlaw6.RollGains': WHATEVER THE INPUT: true; the input reads as it did. -/
def rollGainsSpec : ChangeSpec := { name := "rollGains", fn := fun _ => fun
  | [d1, d2, d3, d4] => { results := [.lit (.bool true)], args := [d1, d2, d3, d4] }
  | _ => none }
def rollGainsRow : OpenClaim := { program := "ytdbikchddonjnaa", sum := "346035a062b50443cd9700d3719f705936427cfd3a443cca85cd1e66e471c904", func := "damper/damperlaw6.RollGains", spec := "rollGains", unfollowed := true, recurses := true, apart := false }
def RollGainsSaid : Prop := rollGainsRow.holds Try.pinned (OpenSpec.ofChange rollGainsSpec)

/-- ITS FALSE NEIGHBOUR: 'it returns false'. Refute it at one input. -/
def rollGainsWrong : ChangeSpec := { name := "rollGains", fn := fun _ => fun
  | [d1, d2, d3, d4] => { results := [.lit (.bool false)], args := [d1, d2, d3, d4] }
  | _ => none }
def RollGainsWrongFalsely : Prop := rollGainsRow.holds Try.pinned (OpenSpec.ofChange rollGainsWrong)

/-- 'damperlaw6.RollTurns': WHATEVER THE INPUT: true; the input reads as it did. -/
def rollTurnsSpec : ChangeSpec := { name := "rollTurns", fn := fun _ => fun
  | [d1, d2, d3, d4, d5] => { results := [.lit (.bool true)], args := [d1, d2, d3, d4, d5] }
  | _ => none }
def rollTurnsRow : OpenClaim := { program := "ytdbikchddonjnaa", sum := "346035a062b50443cd9700d3719f705936427cfd3a443cca85cd1e66e471c904", func := "damper/damperlaw6.RollTurns", spec := "rollTurns", unfollowed := true, recurses := true, apart := false }
def RollTurnsSaid : Prop := rollTurnsRow.holds Try.pinned (OpenSpec.ofChange rollTurnsSpec)

/-- ITS FALSE NEIGHBOUR: 'it returns false'. Refute it at one input. -/
def rollTurnsWrong : ChangeSpec := { name := "rollTurns", fn := fun _ => fun
  | [d1, d2, d3, d4, d5] => { results := [.lit (.bool false)], args := [d1, d2, d3, d4, d5] }
  | _ => none }
def RollTurnsWrongFalsely : Prop := rollTurnsRow.holds Try.pinned (OpenSpec.ofChange rollTurnsWrong)

/-- 'damperlaw6.RollFiner': WHATEVER THE INPUT: true; the input reads as it did. -/
def rollFinerSpec : ChangeSpec := { name := "rollFiner", fn := fun _ => fun
  | [d1, d2, d3, d4, d5] => { results := [.lit (.bool true)], args := [d1, d2, d3, d4, d5] }
  | _ => none }
def rollFinerRow : OpenClaim := { program := "ytdbikchddonjnaa", sum := "346035a062b50443cd9700d3719f705936427cfd3a443cca85cd1e66e471c904", func := "damper/damperlaw6.RollFiner", spec := "rollFiner", unfollowed := true, recurses := true, apart := false }
def RollFinerSaid : Prop := rollFinerRow.holds Try.pinned (OpenSpec.ofChange rollFinerSpec)

/-- ITS FALSE NEIGHBOUR: 'it returns false'. Refute it at one input. -/
def rollFinerWrong : ChangeSpec := { name := "rollFiner", fn := fun _ => fun
  | [d1, d2, d3, d4, d5] => { results := [.lit (.bool false)], args := [d1, d2, d3, d4, d5] }
  | _ => none }
def RollFinerWrongFalsely : Prop := rollFinerRow.holds Try.pinned (OpenSpec.ofChange rollFinerWrong)

/- THE SECOND FORM. 'bulk': how many values and letters a reading holds, each counted each time it is reached (what is shared counts as often as it is met; a slice's spare places count too). A statement '..UptoSaid' is the law's where the arguments, and the package variables that the reading takes, are together of bulk at most 1048576: NARROWER than '..Said'. Prove '..Said' where nothing that the law and all that it calls make is longer than what came in: it says more and counts as full. Else prove '..UptoSaid'. A law counts once. -/
mutual
def uptoBulk {H : Type} : DataW H → Nat
  | .lit (.string bytes) => bytes.length + 1
  | .lit _ => 1
  | .nil => 1
  | .ptr d => uptoBulk d + 1
  | .slice elems spare => uptoBulkAll elems + uptoBulkAll spare + 1
  | .agg parts => uptoBulkAll parts + 1
  | .iface _ d => uptoBulk d + 1
  | .map entries => uptoBulkEntries entries + 1
  | .held _ => 1
def uptoBulkAll {H : Type} : List (DataW H) → Nat
  | [] => 0
  | d :: r => uptoBulk d + uptoBulkAll r
def uptoBulkEntries {H : Type} : List (Lit × DataW H) → Nat
  | [] => 0
  | x :: r => uptoBulkEntry x + uptoBulkEntries r
def uptoBulkEntry {H : Type} : Lit × DataW H → Nat
  | (.string bytes, d) => bytes.length + uptoBulk d + 1
  | (_, d) => uptoBulk d + 1
 end
def uptoSmall : (H : Type) → List (DataW H) → Bool := fun _ ds => decide (uptoBulkAll ds ≤ 1048576)
def OpenSpec.upto (s : _root_.Go.ChangeSpec) : _root_.Go.OpenSpec := { _root_.Go.OpenSpec.ofChange s with cond := some uptoSmall }

/-- 'damperlaw6.RollShares', WHERE WHAT IT READS IS OF BULK AT MOST 1048576: true; the input reads as it did. -/
def rollSharesUptoRow : OpenClaim := { program := "ytdbikchddonjnaa", sum := "346035a062b50443cd9700d3719f705936427cfd3a443cca85cd1e66e471c904", func := "damper/damperlaw6.RollShares", spec := "rollShares", unfollowed := true, recurses := true, apart := false, narrowed := true }
def RollSharesUptoSaid : Prop := rollSharesUptoRow.holds Try.pinned (OpenSpec.upto rollSharesSpec)

/-- 'damperlaw6.RollSound', WHERE WHAT IT READS IS OF BULK AT MOST 1048576: true; the input reads as it did. -/
def rollSoundUptoRow : OpenClaim := { program := "ytdbikchddonjnaa", sum := "346035a062b50443cd9700d3719f705936427cfd3a443cca85cd1e66e471c904", func := "damper/damperlaw6.RollSound", spec := "rollSound", unfollowed := true, recurses := true, apart := false, narrowed := true }
def RollSoundUptoSaid : Prop := rollSoundUptoRow.holds Try.pinned (OpenSpec.upto rollSoundSpec)

/-- 'damperlaw6.RollEnds', WHERE WHAT IT READS IS OF BULK AT MOST 1048576: true; the input reads as it did. -/
def rollEndsUptoRow : OpenClaim := { program := "ytdbikchddonjnaa", sum := "346035a062b50443cd9700d3719f705936427cfd3a443cca85cd1e66e471c904", func := "damper/damperlaw6.RollEnds", spec := "rollEnds", unfollowed := true, recurses := true, apart := false, narrowed := true }
def RollEndsUptoSaid : Prop := rollEndsUptoRow.holds Try.pinned (OpenSpec.upto rollEndsSpec)

/-- 'damperlaw6.RollOne', WHERE WHAT IT READS IS OF BULK AT MOST 1048576: true; the input reads as it did. -/
def rollOneUptoRow : OpenClaim := { program := "ytdbikchddonjnaa", sum := "346035a062b50443cd9700d3719f705936427cfd3a443cca85cd1e66e471c904", func := "damper/damperlaw6.RollOne", spec := "rollOne", unfollowed := true, recurses := true, apart := false, narrowed := true }
def RollOneUptoSaid : Prop := rollOneUptoRow.holds Try.pinned (OpenSpec.upto rollOneSpec)

/-- 'damperlaw6.RollOrder', WHERE WHAT IT READS IS OF BULK AT MOST 1048576: true; the input reads as it did. -/
def rollOrderUptoRow : OpenClaim := { program := "ytdbikchddonjnaa", sum := "346035a062b50443cd9700d3719f705936427cfd3a443cca85cd1e66e471c904", func := "damper/damperlaw6.RollOrder", spec := "rollOrder", unfollowed := true, recurses := true, apart := false, narrowed := true }
def RollOrderUptoSaid : Prop := rollOrderUptoRow.holds Try.pinned (OpenSpec.upto rollOrderSpec)

/-- 'damperlaw6.RollKnown', WHERE WHAT IT READS IS OF BULK AT MOST 1048576: true; the input reads as it did. -/
def rollKnownUptoRow : OpenClaim := { program := "ytdbikchddonjnaa", sum := "346035a062b50443cd9700d3719f705936427cfd3a443cca85cd1e66e471c904", func := "damper/damperlaw6.RollKnown", spec := "rollKnown", unfollowed := true, recurses := true, apart := false, narrowed := true }
def RollKnownUptoSaid : Prop := rollKnownUptoRow.holds Try.pinned (OpenSpec.upto rollKnownSpec)

/-- 'damperlaw6.RollGains', WHERE WHAT IT READS IS OF BULK AT MOST 1048576: true; the input reads as it did. -/
def rollGainsUptoRow : OpenClaim := { program := "ytdbikchddonjnaa", sum := "346035a062b50443cd9700d3719f705936427cfd3a443cca85cd1e66e471c904", func := "damper/damperlaw6.RollGains", spec := "rollGains", unfollowed := true, recurses := true, apart := false, narrowed := true }
def RollGainsUptoSaid : Prop := rollGainsUptoRow.holds Try.pinned (OpenSpec.upto rollGainsSpec)

/-- 'damperlaw6.RollTurns', WHERE WHAT IT READS IS OF BULK AT MOST 1048576: true; the input reads as it did. -/
def rollTurnsUptoRow : OpenClaim := { program := "ytdbikchddonjnaa", sum := "346035a062b50443cd9700d3719f705936427cfd3a443cca85cd1e66e471c904", func := "damper/damperlaw6.RollTurns", spec := "rollTurns", unfollowed := true, recurses := true, apart := false, narrowed := true }
def RollTurnsUptoSaid : Prop := rollTurnsUptoRow.holds Try.pinned (OpenSpec.upto rollTurnsSpec)

/-- 'damperlaw6.RollFiner', WHERE WHAT IT READS IS OF BULK AT MOST 1048576: true; the input reads as it did. -/
def rollFinerUptoRow : OpenClaim := { program := "ytdbikchddonjnaa", sum := "346035a062b50443cd9700d3719f705936427cfd3a443cca85cd1e66e471c904", func := "damper/damperlaw6.RollFiner", spec := "rollFiner", unfollowed := true, recurses := true, apart := false, narrowed := true }
def RollFinerUptoSaid : Prop := rollFinerUptoRow.holds Try.pinned (OpenSpec.upto rollFinerSpec)

end Rows
end Go.Proofs.Ytdbikchddonjnaa
