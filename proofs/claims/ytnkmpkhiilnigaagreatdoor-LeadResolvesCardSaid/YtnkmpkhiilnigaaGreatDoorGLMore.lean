/- What the lead seat's texts lean on, where the laws of chapter 5 are not reached (doors). -/
import Derived.Test.YtnkmpkhiilnigaaGreatDoorGTabs
import Derived.Test.YtnkmpkhiilnigaaGreatDoorPAx3
namespace Go.Proofs.YtnkmpkhiilnigaaGreatDoor.PA
open Go.RowKit Go.Lib Go.Proofs.YtnkmpkhiilnigaaGreatDoorW.PrintWords Go.Proofs.YtnkmpkhiilnigaaGreatDoorW.PrintLast

theorem w64 {n : Int} (h0 : -9223372036854775808 ≤ n) (h1 : n < 9223372036854775808) : wrap64 n = n := by unfold wrap64; omega
/-- Go's remainder, made not negative. -/
theorem within_ex (a n : Int) (h1 : 1 ≤ n) (h2 : n ≤ 4611686018427387904) : (if n = 0 then (none : Option Int) else (if (Int.tmod a n) < 0 then (some (wrap64 ((Int.tmod a n) + n))) else (some (Int.tmod a n)))) = some (a % n) := by
  rw [if_neg (by omega)]
  have hb0 := Int.emod_nonneg a (b := n) (by omega)
  have hb1 := Int.emod_lt_of_pos a (b := n) (by omega)
  have h3 : (n.natAbs : Int) = n := by omega
  have := Int.tmod_eq_emod (a := a) (b := n)
  by_cases hd : 0 ≤ a ∨ n ∣ a
  · rw [if_pos hd] at this
    rw [if_neg (by omega)]
    congr 1; omega
  · rw [if_neg hd] at this
    have : a % n ≠ 0 := fun h => hd (.inr (Int.dvd_of_emod_eq_zero h))
    rw [if_pos (by omega), w64 (by omega) (by omega)]
    congr 1; omega
/-- The six names. -/
def R6 : List (List UInt8) := [[97, 112, 105, 45, 49], [97, 112, 105, 45, 50], [119, 101, 98, 45, 49], [119, 101, 98, 45, 49, 50], [119, 101, 98, 45, 50], [119, 101, 98, 45, 51]]
theorem le_up {α : Type} (f : Nat → Option α) (hm : ∀ k, LeO (f k) (f (k + 1))) {r : α} {k : Nat} (h : f k = some r) : ∀ j, k ≤ j → f j = some r := fun j => by
  induction j with
  | zero => intro hj; obtain rfl : k = 0 := by omega
            exact h
  | succ j ih =>
    intro hj
    by_cases e : k = j + 1
    · subst e; exact h
    · exact hm j _ (ih (by omega))
/-- The Shares are the same as themselves. -/
theorem same_rest (l : List S51) (hl : l.length ≤ 1000000) : ∀ m i : Nat, i + m = l.length → damperref5_Shares.l0 (m + 1) l l (i : Int) = some true := by
  intro m
  induction m with
  | zero =>
    intro i hi
    unfold damperref5_Shares.l0
    rw [if_neg (by omega)]
  | succ m ih =>
    intro i hi
    unfold damperref5_Shares.l0
    rw [if_pos (by omega), if_pos (by omega), if_pos (by omega), if_neg (by simp), w64 (by omega) (by omega)]
    have := ih (i + 1) (by omega)
    rw [show ((i + 1 : Nat) : Int) = (i : Int) + 1 by omega] at this
    exact this
theorem same_f {l : List S51} (hl : l.length ≤ 1000000) (k : Nat) (hk : l.length + 1 ≤ k) : damperref5_Shares.f k l l = some true := by
  refine le_up (fun k => damperref5_Shares.f k l l) (fun k => damperref5_Shares.mono l l k) (k := l.length + 1) ?_ k hk
  show damperref5_Shares.f _ l l = _
  unfold damperref5_Shares.f
  rw [if_pos rfl]
  exact same_rest l hl l.length 0 (by omega)
end Go.Proofs.YtnkmpkhiilnigaaGreatDoor.PA
