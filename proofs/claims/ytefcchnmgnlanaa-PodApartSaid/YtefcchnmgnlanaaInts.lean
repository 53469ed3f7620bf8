/- A []int that came in: nil, empty or not, in one form. Plain. -/
import Derived.Test.YtefcchnmgnlanaaChg
import Derived.RowKit
namespace Go.Proofs.Ytefcchnmgnlanaa
open Go.RowKit

/-- The slice (A, n) of w holds the numbers xs. -/
structure Ints (w : World) (A : Option Addr) (n : Nat) (xs : List Int) : Prop where
  len : xs.length = n
  room : n * 8 ≤ 140737488351232
  at_ : 0 < n → ∃ b o, A = some ⟨b, o, none⟩ ∧ b < w.heap.size ∧ ∀ j, j < n → w.cell? ⟨b, o + j, none⟩ = some (.int .i64 (xs.getD j 0))
  wf : ∀ x ∈ xs, (Lit.int .i64 x).wf = true

theorem Ints.below {w w' : World} {A : Option Addr} {n : Nat} {xs : List Int} (h : Ints w A n xs) (hb : Below w.heap.size w w') : Ints w' A n xs :=
  ⟨h.len, h.room, fun hn => by
    obtain ⟨b, o, e, hlt, hc⟩ := h.at_ hn
    exact ⟨b, o, e, Nat.lt_of_lt_of_le hlt hb.size, fun j hj => (hb.cell (p := ⟨b, o + j, none⟩) hlt).trans (hc j hj)⟩, h.wf⟩

theorem Ints.wf_at {w : World} {A : Option Addr} {n : Nat} {xs : List Int} (h : Ints w A n xs) (j : Nat) : (Lit.int .i64 (xs.getD j 0)).wf = true := by
  by_cases hj : j < xs.length
  · have : xs.getD j 0 = xs[j] := by simp [List.getD_eq_getElem?_getD, hj]
    rw [this]; exact h.wf _ (List.getElem_mem hj)
  · have : xs.getD j 0 = 0 := by simp [List.getD_eq_getElem?_getD, hj]
    rw [this]; decide

end Go.Proofs.Ytefcchnmgnlanaa
