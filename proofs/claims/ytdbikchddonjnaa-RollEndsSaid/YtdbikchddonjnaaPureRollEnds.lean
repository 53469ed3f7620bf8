import Derived.Test.YtdbikchddonjnaaPureMore
import Derived.Test.YtdbikchddonjnaaPAx5
namespace Go.Proofs.Ytdbikchddonjnaa.Pure
open Go.RowKit Go.Proofs.Ytdbikchddonjnaa.PA Go.Proofs.YtdbikchddonjnaaW.PrintWords Go.Proofs.YtdbikchddonjnaaW.PrintLast

theorem ends0 (a b : List S39) (g w : Int) (h : 0 < w) (hg : g ≤ 0) : rollL a b g w = a := by unfold rollL; rw [if_neg (by omega), if_pos hg]
theorem ends1 (a b : List S39) (g w : Int) (h : w ≤ 0 ∨ w ≤ g) : rollL a b g w = b := by unfold rollL; rw [if_pos h]
theorem stays {R : List (List UInt8)} (hR : Rising R) {a : List S39} (h : Tab R a) (g w : Int) : rollL a a g w = a := by
  by_cases e1 : w ≤ 0 ∨ w ≤ g
  · exact ends1 a a g w e1
  · by_cases e2 : g ≤ 0
    · exact ends0 a a g w (by omega) e2
    · obtain ⟨t, hn⟩ := roll_tab hR h h (gone := g) (whole := w) (by omega) (by omega)
      rw [(t.canon hR.nodup).1]
      conv => rhs; rw [(h.canon hR.nodup).1]
      congr 1
      refine List.map_congr_left (fun n hn' => ?_)
      rw [(hn n hn').2 (by omega)]
      simp

/-- The theorem that the row asks. -/
theorem RollEnds : damperlaw6_RollEnds.Pure := by
  intro l0 l1 a2 a3 _ _ _ _ _ _ _ _
  obtain ⟨k0, a, ha, ta⟩ := shares_tab l0
  obtain ⟨k1, b, hb, tb⟩ := shares_tab l1
  have h1 := within6 a2 60 (by omega) (by omega)
  have h2 := within6 a3 1000 (by omega) (by omega)
  have n0 := Int.emod_nonneg a2 (b := 60) (by omega)
  have n1 := Int.emod_lt_of_pos a2 (b := 60) (by omega)
  have m0 := Int.emod_nonneg a3 (b := 1000) (by omega)
  have m1 := Int.emod_lt_of_pos a3 (b := 1000) (by omega)
  generalize a2 % 60 = n at h1 n0 n1
  generalize a3 % 1000 = m at h2 m0 m1
  have la := ta.len
  have lb := tb.len
  rw [R6_len] at la lb
  have ha' := l5_up ha (k0 + k1 + 7) (by omega)
  have hb' := l5_up hb (k0 + k1 + 7) (by omega)
  have sa := same_f (l := a) (by omega) (k0 + k1 + 7) (by omega)
  have sb := same_f (l := b) (by omega) (k0 + k1 + 7) (by omega)
  have r1 := roll_f (by decide) ta tb 0 (1 + n) (by omega)
  have r2 := roll_f (by decide) ta tb (-m) (1 + n) (by omega)
  have r3 := roll_f (by decide) ta tb (1 + n + m) (1 + n) (by omega)
  have r4 := roll_f (by decide) ta tb (-m) 0 (by omega)
  have r5 := roll_f (by decide) ta tb m (-m) (by omega)
  have r6 := roll_f (by decide) ta ta m (1 + n) (by omega)
  rw [ends0 a b 0 _ (by omega) (by omega)] at r1
  rw [ends0 a b _ _ (by omega) (by omega)] at r2
  rw [ends1 a b _ _ (.inr (by omega))] at r3
  rw [ends1 a b _ _ (.inl (by omega))] at r4
  rw [ends1 a b _ _ (.inl (by omega))] at r5
  rw [stays R6_rising ta] at r6
  have w1 : wrap64 (1 + n) = 1 + n := w64 (by omega) (by omega)
  have w2 : wrap64 (-m) = -m := w64 (by omega) (by omega)
  have w3 : wrap64 (1 + n + m) = 1 + n + m := w64 (by omega) (by omega)
  refine ⟨k0 + k1 + 7, ?_⟩
  unfold damperlaw6_RollEnds.f
  simp only [known_f, Option.bind_some, if_true, ha', hb', h1, h2, w1, w2, w3, r1, r2, r3, r4, r5, r6, sa, sb]

end Go.Proofs.Ytdbikchddonjnaa.Pure
