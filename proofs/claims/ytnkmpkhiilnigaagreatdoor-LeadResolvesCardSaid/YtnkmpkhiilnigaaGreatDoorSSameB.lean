/- Two books are the same: damperlaw12's Same. (Printed by genx.py from ssame.src.) -/
import Derived.Test.YtnkmpkhiilnigaaGreatDoorSDocMB
set_option linter.unusedSimpArgs false
set_option linter.unusedVariables false
namespace Go.Proofs.YtnkmpkhiilnigaaGreatDoor.PB
open Go.RowKit Go.Shelf Go.Lib Go.Sort Go.Maps Go.Proofs.YtnkmpkhiilnigaaGreatDoorW.PrintWords Go.Proofs.YtnkmpkhiilnigaaGreatDoorW.PrintLast

attribute [local go_sem high] eqA88

theorem dget_agg {w : World} {B q : Nat} {L : List RevM} (h : DBook w B q L) (s : ByteArray) (hl : L.length ≤ 1000) {v : Value} {b : Bool} (hE : revV (findR L s.data.toList) = v) (hb : (findR L s.data.toList).isSome = b) :
    Calls Tryz.prog 28 #[.pointer (some ⟨q, 0, none⟩), .string s] w fun e w' => e = .returned (.tuple #[v, .bool b]) ∧ Below w.heap.size w w' := by
  subst hE
  subst hb
  exact dget_calls h s hl
theorem BookAt.typ {F : Nat → Prop} {w w' : World} {p b1 b2 : Nat} {M : List RevM} {t : TypeId} (h : BookAt w p b1 b2 M) (hc : Chg F w w') (hF : ∀ k, F k → ∃ cs, Blk w k cs t) (ht : t ≠ 107) : BookAt w' p b1 b2 M := by
  obtain ⟨⟨E, n, e1⟩, ⟨E', n', e2⟩⟩ := h.maps
  refine h.chg hc (fun hk => ?_) (fun hk => ?_) (fun hk => ?_)
  · obtain ⟨cs, hk⟩ := hF _ hk
    exact blk_neT hk h.blk ht rfl
  · obtain ⟨cs, hk⟩ := hF _ hk
    unfold Blk at hk
    rw [e1] at hk; cases hk
  · obtain ⟨cs, hk⟩ := hF _ hk
    unfold Blk at hk
    rw [e2] at hk; cases hk
theorem DBook.typ {F : Nat → Prop} {w w' : World} {B q : Nat} {L : List RevM} {t : TypeId} (h : DBook w B q L) (hc : Chg F w w') (hF : ∀ k, F k → ∃ cs, Blk w k cs t) (ht : t ≠ 56 ∧ t ≠ 88 ∧ t ≠ 4) : DBook w' B q L := by
  refine h.keep hc (fun k cs t' ht' hk hf => ?_)
  obtain ⟨cs', hk'⟩ := hF _ hf
  refine blk_neT hk hk' (fun e => ?_) rfl
  rcases ht' with rfl | rfl | rfl
  · exact ht.1 e.symm
  · exact ht.2.1 e.symm
  · exact ht.2.2 e.symm

end Go.Proofs.YtnkmpkhiilnigaaGreatDoor.PB
