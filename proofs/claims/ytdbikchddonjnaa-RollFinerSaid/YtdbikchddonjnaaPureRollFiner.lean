import Derived.Test.YtdbikchddonjnaaPureMore
import Derived.Test.YtdbikchddonjnaaPAx9
namespace Go.Proofs.Ytdbikchddonjnaa.Pure
open Go.RowKit Go.Proofs.Ytdbikchddonjnaa.PA Go.Proofs.YtdbikchddonjnaaW.PrintWords Go.Proofs.YtdbikchddonjnaaW.PrintLast

theorem finer (a b : List S39) (g w k : Int) (hk : 0 < k) : rollL a b (g * k) (w * k) = rollL a b g w := by
  have h1 : (w * k ≤ 0) = (w ≤ 0) := propext ⟨fun h => by
    rcases Int.lt_or_le 0 w with h2 | h2
    · have := Int.mul_pos h2 hk; omega
    · exact h2, fun h => by have := Int.mul_le_mul_of_nonneg_right h (Int.le_of_lt hk); omega⟩
  have h2 : (w * k ≤ g * k) = (w ≤ g) := propext ⟨fun h => Int.le_of_mul_le_mul_right h hk, fun h => Int.mul_le_mul_of_nonneg_right h (Int.le_of_lt hk)⟩
  have h3 : (g * k ≤ 0) = (g ≤ 0) := propext ⟨fun h => by
    rcases Int.lt_or_le 0 g with h2 | h2
    · have := Int.mul_pos h2 hk; omega
    · exact h2, fun h => by have := Int.mul_le_mul_of_nonneg_right h (Int.le_of_lt hk); omega⟩
  have hg : gainI a b (g * k) (w * k) = gainI a b g w := by
    funext n
    unfold gainI
    rw [← Int.mul_assoc, Int.mul_ediv_mul_of_pos_left _ _ hk]
  have hs : stepR a b (g * k) (w * k) = stepR a b g w := by
    funext s n
    unfold stepR
    rw [hg]
  have hgs : gains a b (g * k) (w * k) = gains a b g w := by
    funext ns
    unfold gains
    rw [hg]
  unfold rollL
  simp only [h1, h2, h3, hs, hgs]

/-- The theorem that the row asks. -/
theorem RollFiner : damperlaw6_RollFiner.Pure := by
  intro l0 l1 a2 a3 a4 _ _ _ _ _ _ _ _ _
  obtain ⟨k0, a, ha, ta⟩ := shares_tab l0
  obtain ⟨k1, b, hb, tb⟩ := shares_tab l1
  have h1 := within6 a3 60 (by omega) (by omega)
  have n0 := Int.emod_nonneg a3 (b := 60) (by omega)
  have n1 := Int.emod_lt_of_pos a3 (b := 60) (by omega)
  generalize a3 % 60 = n at h1 n0 n1
  have h2 := within6 a2 (1 + n + 2) (by omega) (by omega)
  have t0 := Int.emod_nonneg a2 (b := 1 + n + 2) (by omega)
  have t1 := Int.emod_lt_of_pos a2 (b := 1 + n + 2) (by omega)
  generalize a2 % (1 + n + 2) = t at h2 t0 t1
  have h3 := within6 a4 100 (by omega) (by omega)
  have m0 := Int.emod_nonneg a4 (b := 100) (by omega)
  have m1 := Int.emod_lt_of_pos a4 (b := 100) (by omega)
  generalize a4 % 100 = m at h3 m0 m1
  have p1 : 0 ≤ t * (1 + m) := Int.mul_nonneg (by omega) (by omega)
  have p2 : t * (1 + m) ≤ 100 * 100 := Int.mul_le_mul (by omega) (by omega) (by omega) (by omega)
  have q1 : 0 ≤ (1 + n) * (1 + m) := Int.mul_nonneg (by omega) (by omega)
  have q2 : (1 + n) * (1 + m) ≤ 100 * 100 := Int.mul_le_mul (by omega) (by omega) (by omega) (by omega)
  have ha' := l5_up ha (k0 + k1 + 7) (by omega)
  have hb' := l5_up hb (k0 + k1 + 7) (by omega)
  have r1 := roll_f (by decide) ta tb t (1 + n) (by omega)
  have r2 := roll_f (by decide) ta tb (t * (1 + m)) ((1 + n) * (1 + m)) (by omega)
  rw [finer a b t (1 + n) (1 + m) (by omega)] at r2
  have tl := (roll_tab' R6_rising ta tb t (1 + n)).len
  rw [R6_len] at tl
  have sl := same_f (l := rollL a b t (1 + n)) (by omega) (k0 + k1 + 7) (by omega)
  have w1 : wrap64 (1 + n) = 1 + n := w64 (by omega) (by omega)
  have w2 : wrap64 (1 + n + 2) = 1 + n + 2 := w64 (by omega) (by omega)
  have w3 : wrap64 (1 + m) = 1 + m := w64 (by omega) (by omega)
  have w4 : wrap64 (t * (1 + m)) = t * (1 + m) := w64 (by omega) (by omega)
  have w5 : wrap64 ((1 + n) * (1 + m)) = (1 + n) * (1 + m) := w64 (by omega) (by omega)
  refine ⟨k0 + k1 + 7, ?_⟩
  unfold damperlaw6_RollFiner.f
  simp only [known_f, Option.bind_some, if_true, ha', hb', h1, h2, h3, w1, w2, w3, w4, w5, r1, r2, sl]

end Go.Proofs.Ytdbikchddonjnaa.Pure
