/- Two books side by side: small things. -/
import Derived.Test.YtnkmpkhiilnigaaGreatDoorSSameB
set_option linter.unusedSimpArgs false
set_option linter.unusedVariables false
namespace Go.Proofs.YtnkmpkhiilnigaaGreatDoor.PB
open Go.RowKit Go.Shelf Go.Lib Go.Sort Go.Maps Go.Proofs.YtnkmpkhiilnigaaGreatDoorW.PrintWords Go.Proofs.YtnkmpkhiilnigaaGreatDoorW.PrintLast

theorem DBook.first {w : World} {B : Nat} (hB : B ≤ w.heap.size) : DBook (w.alloc (.cells #[.slice none 0 0, .slice none 0 0] 56)) B w.heap.size [] :=
  ⟨⟨none, 0, none, 0, Blk.new _ _ _, RowG.nil _ _ _, RowG.nil _ _ _⟩, hB⟩
theorem cells6 {w : World} {p : Nat} {t : TypeId} {a0 a1 a2 a3 a4 a5 : Value} (h : Blk w p #[a0, a1, a2, a3, a4, a5] t) : w.cell? ⟨p, 0, none⟩ = some a0 ∧ w.cell? ⟨p, 1, none⟩ = some a1 ∧ w.cell? ⟨p, 2, none⟩ = some a2 ∧ w.cell? ⟨p, 3, none⟩ = some a3 ∧ w.cell? ⟨p, 4, none⟩ = some a4 ∧ w.cell? ⟨p, 5, none⟩ = some a5 :=
  ⟨h.cell 0, h.cell 1, h.cell 2, h.cell 3, h.cell 4, h.cell 5⟩
/-- Cells are no map of a Book. -/
theorem map_ne {w : World} {p b1 b2 g : Nat} {M : List RevM} {cs : Array Value} {t : TypeId} (h : BookAt w p b1 b2 M) (hk : Blk w g cs t) : ¬ (g = b1 ∨ g = b2) := by
  obtain ⟨⟨E, n, e1⟩, ⟨E', n', e2⟩⟩ := h.maps
  unfold Blk at hk
  rintro (rfl | rfl)
  · rw [e1] at hk; cases hk
  · rw [e2] at hk; cases hk
/-- Cells of another type are none of the document's Book. -/
theorem doc_ne {w : World} {B g : Nat} {cs : Array Value} {t : TypeId} (hk : Blk w g cs t) (ht : t ≠ 56 ∧ t ≠ 88 ∧ t ≠ 4) : ¬ DocF w B g := by
  rintro ⟨_, cs', t', hk', ht'⟩
  refine blk_neT hk hk' (fun e => ?_) rfl
  rcases ht' with h | h | h
  · exact ht.1 (e.trans h)
  · exact ht.2.1 (e.trans h)
  · exact ht.2.2 (e.trans h)

end Go.Proofs.YtnkmpkhiilnigaaGreatDoor.PB
