/-
  No cell of these rows narrows 'for every input' (looked for: loops, veiled, ifaces, maps, wideKeys, modest, calm, conditions, laid).
  DERIVED. THE GIVEN ROWS OF THIS SEAT. 7 by the template 'for every input the law returns true; each argument reads behind the call as it read before'; 0 by the template 'total and deterministic' (their statements: YtnkmpkhiilnigaaTotals.lean).
  GIVEN WITH THE SEED: the statements are not yours to turn. If you find one false, say at which input.
  Laid BY PROGRAM, IN A SANDBOX (cutbox-rows.mjs): the forced cells as the released guide's own fill.sh prints them over the translation fc38cd5cb933f598… (all of the seat's roots in one cut). By AI agents, Wed Nov 11 2026. No macro, syntax, notation, axiom, sorry.
-/
import Derived.Test.YtnkmpkhiilnigaaChecked
import GoSem.Claim
import GoSem.ClaimJoined
import GoSem.ClaimMapViews
import Derived.JoinedTies
import Derived.KernelRfl
namespace Go.Proofs.Ytnkmpkhiilnigaa
/- THE CELL 'sum', in the pinned program and in every row, IS THE sha256 OF THE DUMP (.gsa) THAT YtnkmpkhiilnigaaProg.lean LOADS. Nothing in Lean hashes anything: it is a label: what it is worth is what the hold of that sum in a sandbox is worth. -/
noncomputable def Try.pinned : Pinned := { name := "ytnkmpkhiilnigaa", sum := "fc38cd5cb933f598ccb29db27d5f5d0c351a27e12900277c1e694054a40ea401", checked := Try.checked }
namespace Rows
def none {H : Type} : Left H := { results := [], args := [] }

/-- 'damperlaw13.LeadRight': WHATEVER THE INPUT: true; the input reads as it did. -/
def leadRightSpec : ChangeSpec := { name := "leadRight", fn := fun _ => fun
  | [d1, d2, d3, d4] => { results := [.lit (.bool true)], args := [d1, d2, d3, d4] }
  | _ => none }
def leadRightRow : OpenClaim := { program := "ytnkmpkhiilnigaa", sum := "fc38cd5cb933f598ccb29db27d5f5d0c351a27e12900277c1e694054a40ea401", func := "damper/damperlaw13.LeadRight", spec := "leadRight", unfollowed := true, recurses := true, apart := false }
def LeadRightSaid : Prop := leadRightRow.holds Try.pinned (OpenSpec.ofChange leadRightSpec)

/-- ITS FALSE NEIGHBOUR: 'it returns false'. Refute it at one input. -/
def leadRightWrong : ChangeSpec := { name := "leadRight", fn := fun _ => fun
  | [d1, d2, d3, d4] => { results := [.lit (.bool false)], args := [d1, d2, d3, d4] }
  | _ => none }
def LeadRightWrongFalsely : Prop := leadRightRow.holds Try.pinned (OpenSpec.ofChange leadRightWrong)

/-- 'damperlaw13.LeadOwn': WHATEVER THE INPUT: true; the input reads as it did. -/
def leadOwnSpec : ChangeSpec := { name := "leadOwn", fn := fun _ => fun
  | [d1, d2, d3] => { results := [.lit (.bool true)], args := [d1, d2, d3] }
  | _ => none }
def leadOwnRow : OpenClaim := { program := "ytnkmpkhiilnigaa", sum := "fc38cd5cb933f598ccb29db27d5f5d0c351a27e12900277c1e694054a40ea401", func := "damper/damperlaw13.LeadOwn", spec := "leadOwn", unfollowed := true, recurses := true, apart := false }
def LeadOwnSaid : Prop := leadOwnRow.holds Try.pinned (OpenSpec.ofChange leadOwnSpec)

/-- ITS FALSE NEIGHBOUR: 'it returns false'. Refute it at one input. -/
def leadOwnWrong : ChangeSpec := { name := "leadOwn", fn := fun _ => fun
  | [d1, d2, d3] => { results := [.lit (.bool false)], args := [d1, d2, d3] }
  | _ => none }
def LeadOwnWrongFalsely : Prop := leadOwnRow.holds Try.pinned (OpenSpec.ofChange leadOwnWrong)

/-- 'damperlaw13.LeadTags': WHATEVER THE INPUT: true; the input reads as it did. -/
def leadTagsSpec : ChangeSpec := { name := "leadTags", fn := fun _ => fun
  | [d1, d2, d3, d4, d5] => { results := [.lit (.bool true)], args := [d1, d2, d3, d4, d5] }
  | _ => none }
def leadTagsRow : OpenClaim := { program := "ytnkmpkhiilnigaa", sum := "fc38cd5cb933f598ccb29db27d5f5d0c351a27e12900277c1e694054a40ea401", func := "damper/damperlaw13.LeadTags", spec := "leadTags", unfollowed := true, recurses := true, apart := false }
def LeadTagsSaid : Prop := leadTagsRow.holds Try.pinned (OpenSpec.ofChange leadTagsSpec)

/-- ITS FALSE NEIGHBOUR: 'it returns false'. Refute it at one input. -/
def leadTagsWrong : ChangeSpec := { name := "leadTags", fn := fun _ => fun
  | [d1, d2, d3, d4, d5] => { results := [.lit (.bool false)], args := [d1, d2, d3, d4, d5] }
  | _ => none }
def LeadTagsWrongFalsely : Prop := leadTagsRow.holds Try.pinned (OpenSpec.ofChange leadTagsWrong)

/-- 'damperlaw13.LeadAgain': WHATEVER THE INPUT: true; the input reads as it did. -/
def leadAgainSpec : ChangeSpec := { name := "leadAgain", fn := fun _ => fun
  | [d1, d2, d3, d4] => { results := [.lit (.bool true)], args := [d1, d2, d3, d4] }
  | _ => none }
def leadAgainRow : OpenClaim := { program := "ytnkmpkhiilnigaa", sum := "fc38cd5cb933f598ccb29db27d5f5d0c351a27e12900277c1e694054a40ea401", func := "damper/damperlaw13.LeadAgain", spec := "leadAgain", unfollowed := true, recurses := true, apart := false }
def LeadAgainSaid : Prop := leadAgainRow.holds Try.pinned (OpenSpec.ofChange leadAgainSpec)

/-- ITS FALSE NEIGHBOUR: 'it returns false'. Refute it at one input. -/
def leadAgainWrong : ChangeSpec := { name := "leadAgain", fn := fun _ => fun
  | [d1, d2, d3, d4] => { results := [.lit (.bool false)], args := [d1, d2, d3, d4] }
  | _ => none }
def LeadAgainWrongFalsely : Prop := leadAgainRow.holds Try.pinned (OpenSpec.ofChange leadAgainWrong)

/-- 'damperlaw13.LeadWhole': WHATEVER THE INPUT: true; the input reads as it did. -/
def leadWholeSpec : ChangeSpec := { name := "leadWhole", fn := fun _ => fun
  | [d1, d2, d3, d4, d5, d6] => { results := [.lit (.bool true)], args := [d1, d2, d3, d4, d5, d6] }
  | _ => none }
def leadWholeRow : OpenClaim := { program := "ytnkmpkhiilnigaa", sum := "fc38cd5cb933f598ccb29db27d5f5d0c351a27e12900277c1e694054a40ea401", func := "damper/damperlaw13.LeadWhole", spec := "leadWhole", unfollowed := true, recurses := true, apart := false }
def LeadWholeSaid : Prop := leadWholeRow.holds Try.pinned (OpenSpec.ofChange leadWholeSpec)

/-- ITS FALSE NEIGHBOUR: 'it returns false'. Refute it at one input. -/
def leadWholeWrong : ChangeSpec := { name := "leadWhole", fn := fun _ => fun
  | [d1, d2, d3, d4, d5, d6] => { results := [.lit (.bool false)], args := [d1, d2, d3, d4, d5, d6] }
  | _ => none }
def LeadWholeWrongFalsely : Prop := leadWholeRow.holds Try.pinned (OpenSpec.ofChange leadWholeWrong)

/-- 'damperlaw13.LeadTurns': WHATEVER THE INPUT: true; the input reads as it did. -/
def leadTurnsSpec : ChangeSpec := { name := "leadTurns", fn := fun _ => fun
  | [d] => { results := [.lit (.bool true)], args := [d] }
  | _ => none }
def leadTurnsRow : OpenClaim := { program := "ytnkmpkhiilnigaa", sum := "fc38cd5cb933f598ccb29db27d5f5d0c351a27e12900277c1e694054a40ea401", func := "damper/damperlaw13.LeadTurns", spec := "leadTurns", unfollowed := true, recurses := true, apart := false }
def LeadTurnsSaid : Prop := leadTurnsRow.holds Try.pinned (OpenSpec.ofChange leadTurnsSpec)

/-- ITS FALSE NEIGHBOUR: 'it returns false'. Refute it at one input. -/
def leadTurnsWrong : ChangeSpec := { name := "leadTurns", fn := fun _ => fun
  | [d] => { results := [.lit (.bool false)], args := [d] }
  | _ => none }
def LeadTurnsWrongFalsely : Prop := leadTurnsRow.holds Try.pinned (OpenSpec.ofChange leadTurnsWrong)

/-- 'damperlaw13.LeadDrops': WHATEVER THE INPUT: true; the input reads as it did. -/
def leadDropsSpec : ChangeSpec := { name := "leadDrops", fn := fun _ => fun
  | [d1, d2, d3, d4] => { results := [.lit (.bool true)], args := [d1, d2, d3, d4] }
  | _ => none }
def leadDropsRow : OpenClaim := { program := "ytnkmpkhiilnigaa", sum := "fc38cd5cb933f598ccb29db27d5f5d0c351a27e12900277c1e694054a40ea401", func := "damper/damperlaw13.LeadDrops", spec := "leadDrops", unfollowed := true, recurses := true, apart := false }
def LeadDropsSaid : Prop := leadDropsRow.holds Try.pinned (OpenSpec.ofChange leadDropsSpec)

/-- ITS FALSE NEIGHBOUR: 'it returns false'. Refute it at one input. -/
def leadDropsWrong : ChangeSpec := { name := "leadDrops", fn := fun _ => fun
  | [d1, d2, d3, d4] => { results := [.lit (.bool false)], args := [d1, d2, d3, d4] }
  | _ => none }
def LeadDropsWrongFalsely : Prop := leadDropsRow.holds Try.pinned (OpenSpec.ofChange leadDropsWrong)

/- THE SECOND FORM. 'bulk': how many values and letters a reading holds, each counted each time it is reached (what is shared counts as often as it is met; a slice's spare places count too). A statement '..UptoSaid' is the law's where the arguments, and the package variables that the reading takes, are together of bulk at most 1048576: NARROWER than '..Said'. Prove '..Said' where nothing that the law and all that it calls make is longer than what came in: it says more and counts as full. Else prove '..UptoSaid'. A law counts once. -/
mutual
def uptoBulk {H : Type} : DataW H → Nat
  | .lit (.string bytes) => bytes.length + 1
  | .lit _ => 1
  | .nil => 1
  | .ptr d => uptoBulk d + 1
  | .slice elems spare => uptoBulkAll elems + uptoBulkAll spare + 1
  | .agg parts => uptoBulkAll parts + 1
  | .iface _ d => uptoBulk d + 1
  | .map entries => uptoBulkEntries entries + 1
  | .held _ => 1
def uptoBulkAll {H : Type} : List (DataW H) → Nat
  | [] => 0
  | d :: r => uptoBulk d + uptoBulkAll r
def uptoBulkEntries {H : Type} : List (Lit × DataW H) → Nat
  | [] => 0
  | x :: r => uptoBulkEntry x + uptoBulkEntries r
def uptoBulkEntry {H : Type} : Lit × DataW H → Nat
  | (.string bytes, d) => bytes.length + uptoBulk d + 1
  | (_, d) => uptoBulk d + 1
 end
def uptoSmall : (H : Type) → List (DataW H) → Bool := fun _ ds => decide (uptoBulkAll ds ≤ 1048576)
def OpenSpec.upto (s : _root_.Go.ChangeSpec) : _root_.Go.OpenSpec := { _root_.Go.OpenSpec.ofChange s with cond := some uptoSmall }

/-- 'damperlaw13.LeadRight', WHERE WHAT IT READS IS OF BULK AT MOST 1048576: true; the input reads as it did. -/
def leadRightUptoRow : OpenClaim := { program := "ytnkmpkhiilnigaa", sum := "fc38cd5cb933f598ccb29db27d5f5d0c351a27e12900277c1e694054a40ea401", func := "damper/damperlaw13.LeadRight", spec := "leadRight", unfollowed := true, recurses := true, apart := false, narrowed := true }
def LeadRightUptoSaid : Prop := leadRightUptoRow.holds Try.pinned (OpenSpec.upto leadRightSpec)

/-- 'damperlaw13.LeadOwn', WHERE WHAT IT READS IS OF BULK AT MOST 1048576: true; the input reads as it did. -/
def leadOwnUptoRow : OpenClaim := { program := "ytnkmpkhiilnigaa", sum := "fc38cd5cb933f598ccb29db27d5f5d0c351a27e12900277c1e694054a40ea401", func := "damper/damperlaw13.LeadOwn", spec := "leadOwn", unfollowed := true, recurses := true, apart := false, narrowed := true }
def LeadOwnUptoSaid : Prop := leadOwnUptoRow.holds Try.pinned (OpenSpec.upto leadOwnSpec)

/-- 'damperlaw13.LeadTags', WHERE WHAT IT READS IS OF BULK AT MOST 1048576: true; the input reads as it did. -/
def leadTagsUptoRow : OpenClaim := { program := "ytnkmpkhiilnigaa", sum := "fc38cd5cb933f598ccb29db27d5f5d0c351a27e12900277c1e694054a40ea401", func := "damper/damperlaw13.LeadTags", spec := "leadTags", unfollowed := true, recurses := true, apart := false, narrowed := true }
def LeadTagsUptoSaid : Prop := leadTagsUptoRow.holds Try.pinned (OpenSpec.upto leadTagsSpec)

/-- 'damperlaw13.LeadAgain', WHERE WHAT IT READS IS OF BULK AT MOST 1048576: true; the input reads as it did. -/
def leadAgainUptoRow : OpenClaim := { program := "ytnkmpkhiilnigaa", sum := "fc38cd5cb933f598ccb29db27d5f5d0c351a27e12900277c1e694054a40ea401", func := "damper/damperlaw13.LeadAgain", spec := "leadAgain", unfollowed := true, recurses := true, apart := false, narrowed := true }
def LeadAgainUptoSaid : Prop := leadAgainUptoRow.holds Try.pinned (OpenSpec.upto leadAgainSpec)

/-- 'damperlaw13.LeadWhole', WHERE WHAT IT READS IS OF BULK AT MOST 1048576: true; the input reads as it did. -/
def leadWholeUptoRow : OpenClaim := { program := "ytnkmpkhiilnigaa", sum := "fc38cd5cb933f598ccb29db27d5f5d0c351a27e12900277c1e694054a40ea401", func := "damper/damperlaw13.LeadWhole", spec := "leadWhole", unfollowed := true, recurses := true, apart := false, narrowed := true }
def LeadWholeUptoSaid : Prop := leadWholeUptoRow.holds Try.pinned (OpenSpec.upto leadWholeSpec)

/-- 'damperlaw13.LeadTurns', WHERE WHAT IT READS IS OF BULK AT MOST 1048576: true; the input reads as it did. -/
def leadTurnsUptoRow : OpenClaim := { program := "ytnkmpkhiilnigaa", sum := "fc38cd5cb933f598ccb29db27d5f5d0c351a27e12900277c1e694054a40ea401", func := "damper/damperlaw13.LeadTurns", spec := "leadTurns", unfollowed := true, recurses := true, apart := false, narrowed := true }
def LeadTurnsUptoSaid : Prop := leadTurnsUptoRow.holds Try.pinned (OpenSpec.upto leadTurnsSpec)

/-- 'damperlaw13.LeadDrops', WHERE WHAT IT READS IS OF BULK AT MOST 1048576: true; the input reads as it did. -/
def leadDropsUptoRow : OpenClaim := { program := "ytnkmpkhiilnigaa", sum := "fc38cd5cb933f598ccb29db27d5f5d0c351a27e12900277c1e694054a40ea401", func := "damper/damperlaw13.LeadDrops", spec := "leadDrops", unfollowed := true, recurses := true, apart := false, narrowed := true }
def LeadDropsUptoSaid : Prop := leadDropsUptoRow.holds Try.pinned (OpenSpec.upto leadDropsSpec)

end Rows
end Go.Proofs.Ytnkmpkhiilnigaa
