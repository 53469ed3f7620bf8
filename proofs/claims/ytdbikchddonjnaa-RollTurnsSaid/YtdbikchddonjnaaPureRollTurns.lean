import Derived.Test.YtdbikchddonjnaaPureMore
import Derived.Test.YtdbikchddonjnaaPAx9
namespace Go.Proofs.Ytdbikchddonjnaa.Pure
open Go.RowKit Go.Proofs.Ytdbikchddonjnaa.PA Go.Proofs.YtdbikchddonjnaaW.PrintWords Go.Proofs.YtdbikchddonjnaaW.PrintLast

theorem turns0 (a b : List S39) (g w : Int) (h : 0 < w) (hg : g ≤ 0) : rollL a b g w = a := by unfold rollL; rw [if_neg (by omega), if_pos hg]
theorem turns1 (a b : List S39) (g w : Int) (h : w ≤ 0 ∨ w ≤ g) : rollL a b g w = b := by unfold rollL; rw [if_pos h]

/-- From time t on. -/
theorem turns_rest {m c : List S39} (tm : Tab R6 m) (tc : Tab R6 c) (n : Int) (n0 : 1 ≤ n) (n1 : n ≤ 60) : ∀ d : Nat, ∀ t : Int, 0 ≤ t → t + d = n + 1 → ∀ k, d + 8 ≤ k → damperlaw6_RollTurns.l0 k c n m t = some true := by
  intro d
  induction d with
  | zero =>
    intro t h0 h1 k hk
    obtain ⟨k, rfl⟩ : ∃ j, k = j + 1 := ⟨k - 1, by omega⟩
    have lm := tm.len
    have lc := tc.len
    rw [R6_len] at lm lc
    have r1 := roll_f (by decide) tm tc 0 n (by omega)
    have r2 := roll_f (by decide) tm tc n n (by omega)
    rw [turns0 m c 0 _ (by omega) (by omega)] at r1
    rw [turns1 m c n _ (.inr (by omega))] at r2
    have sm := same_f (l := m) (by omega) k (by omega)
    have sc := same_f (l := c) (by omega) k (by omega)
    unfold damperlaw6_RollTurns.l0
    rw [if_neg (by omega)]
    simp only [r1, r2, sm, sc, Option.bind_some, if_true]
  | succ d ih =>
    intro t h0 h1 k hk
    obtain ⟨k, rfl⟩ : ∃ j, k = j + 1 := ⟨k - 1, by omega⟩
    have r1 := roll_f (by decide) tm tc t n (by omega)
    have s1 := sound_f (roll_tab' R6_rising tm tc t n)
    have w1 : wrap64 (t + 1) = t + 1 := w64 (by omega) (by omega)
    unfold damperlaw6_RollTurns.l0
    rw [if_pos (by omega)]
    simp only [r1, s1, Option.bind_some, if_true, w1]
    exact ih (t + 1) (by omega) (by omega) k (by omega)

/-- The theorem that the row asks. -/
theorem RollTurns : damperlaw6_RollTurns.Pure := by
  intro l0 l1 l2 a3 a4 _ _ _ _ _ _ _ _ _ _ _
  obtain ⟨k0, a, ha, ta⟩ := shares_tab l0
  obtain ⟨k1, b, hb, tb⟩ := shares_tab l1
  obtain ⟨k2, c, hc, tc⟩ := shares_tab l2
  have h1 := within6 a4 60 (by omega) (by omega)
  have n0 := Int.emod_nonneg a4 (b := 60) (by omega)
  have n1 := Int.emod_lt_of_pos a4 (b := 60) (by omega)
  generalize a4 % 60 = n at h1 n0 n1
  have h2 := within6 a3 (1 + n + 1) (by omega) (by omega)
  generalize a3 % (1 + n + 1) = t at h2
  have ha' := l5_up ha (k0 + k1 + k2 + 80) (by omega)
  have hb' := l5_up hb (k0 + k1 + k2 + 80) (by omega)
  have hc' := l5_up hc (k0 + k1 + k2 + 80) (by omega)
  have r1 := roll_f (by decide) ta tb t (1 + n) (by omega)
  have tm := roll_tab' R6_rising ta tb t (1 + n)
  have sm := sound_f tm
  have w1 : wrap64 (1 + n) = 1 + n := w64 (by omega) (by omega)
  have w2 : wrap64 (1 + n + 1) = 1 + n + 1 := w64 (by omega) (by omega)
  have lp := turns_rest tm tc (1 + n) (by omega) (by omega) (1 + n + 1).toNat 0 (by omega) (by omega) (k0 + k1 + k2 + 80) (by omega)
  refine ⟨k0 + k1 + k2 + 80, ?_⟩
  unfold damperlaw6_RollTurns.f
  simp only [known_f, Option.bind_some, if_true, ha', hb', hc', h1, h2, w1, w2, r1, sm, lp]

end Go.Proofs.Ytdbikchddonjnaa.Pure
