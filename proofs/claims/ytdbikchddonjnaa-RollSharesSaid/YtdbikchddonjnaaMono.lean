/- As time goes on what is to grow does not fall, what is to fall does not grow. Plain. -/
import Derived.Test.YtdbikchddonjnaaTab
namespace Go.Proofs.Ytdbikchddonjnaa.PA
open Go.RowKit Go.Lib Go.Proofs.YtdbikchddonjnaaW.PrintWords

theorem way_mono (a b gn gn' : List UInt8 → Int) : ∀ (R : List (List UInt8)) (g g' : Int), R.Nodup → g ≤ g' → ∀ p ∈ way a b gn R g, ∀ q ∈ way a b gn' R g', p.1 = q.1 → b p.1 < a p.1 → q.2 ≤ p.2
  | [], _, _, _, _, p, hp, _, _, _, _ => by cases hp
  | n :: t, g, g', hn, hg, p, hp, q, hq, e, hl => by
    have hno : ∀ (gg : List UInt8 → Int) (x : Int), ∀ r ∈ way a b gg t x, r.1 ≠ n := fun gg x r hr he => by
      have : r.1 ∈ (way a b gg t x).map (·.1) := List.mem_map.2 ⟨r, hr, rfl⟩
      rw [way_fst, he] at this
      exact (List.nodup_cons.1 hn).1 this
    have ht := (List.nodup_cons.1 hn).2
    unfold way at hp hq
    by_cases h : b n < a n
    · rw [if_pos h] at hp hq
      rcases List.mem_cons.1 hp with rfl | hp
      · rcases List.mem_cons.1 hq with rfl | hq
        · show a n - min (a n - b n) g' ≤ a n - min (a n - b n) g
          omega
        · exact absurd e.symm (hno _ _ q hq)
      · rcases List.mem_cons.1 hq with rfl | hq
        · exact absurd e (hno _ _ p hp)
        · exact way_mono a b gn gn' t _ _ ht (by omega) p hp q hq e hl
    · rw [if_neg h] at hp hq
      rcases List.mem_cons.1 hp with rfl | hp
      · exact absurd hl h
      · rcases List.mem_cons.1 hq with rfl | hq
        · exact absurd e (hno _ _ p hp)
        · exact way_mono a b gn gn' t _ _ ht hg p hp q hq e hl

theorem roll_from {l0 l1 : List S39} {g n : Int} (hn : 0 < n) (hg : g ≤ 0) : rollL l0 l1 g n = l0 := by unfold rollL; rw [if_neg (by omega), if_pos hg]
theorem roll_to {l0 l1 : List S39} {g n : Int} (hg : n ≤ g) : rollL l0 l1 g n = l1 := by unfold rollL; rw [if_pos (.inr hg)]

/-- Each weight is between the two. -/
theorem roll_between {R : List (List UInt8)} (hR : Rising R) {l0 l1 : List S39} (h0 : Tab R l0) (h1 : Tab R l1) {g n : Int} (hn : 0 < n) : ∀ x ∈ R,
    (wn l0 x ≤ wn l1 x → wn l0 x ≤ wn (rollL l0 l1 g n) x ∧ wn (rollL l0 l1 g n) x ≤ wn l1 x) ∧ (wn l1 x ≤ wn l0 x → wn l1 x ≤ wn (rollL l0 l1 g n) x ∧ wn (rollL l0 l1 g n) x ≤ wn l0 x) := fun x hx => by
  by_cases e0 : g ≤ 0
  · rw [roll_from hn e0]; omega
  · by_cases e1 : n ≤ g
    · rw [roll_to e1]; omega
    · obtain ⟨t1, t2⟩ := (roll_tab hR h0 h1 (gone := g) (whole := n) (by omega) (by omega)).2 x hx
      by_cases h : wn l1 x < wn l0 x
      · have := t1 h; omega
      · have h2 := t2 h
        have p0 : 0 ≤ (wn l1 x - wn l0 x) * g / n := Int.ediv_nonneg (Int.mul_nonneg (by omega) (by omega)) (by omega)
        have p1 : (wn l1 x - wn l0 x) * g / n ≤ wn l1 x - wn l0 x := Int.ediv_le_of_le_mul (by omega) (Int.mul_le_mul_of_nonneg_left (by omega) (by omega))
        omega

theorem roll_mono {R : List (List UInt8)} (hR : Rising R) {l0 l1 : List S39} (h0 : Tab R l0) (h1 : Tab R l1) {s t n : Int} (hn : 0 < n) (hst : s ≤ t) : ∀ x ∈ R,
    (wn l0 x ≤ wn l1 x → wn (rollL l0 l1 s n) x ≤ wn (rollL l0 l1 t n) x) ∧ (wn l1 x ≤ wn l0 x → wn (rollL l0 l1 t n) x ≤ wn (rollL l0 l1 s n) x) := fun x hx => by
  by_cases e1 : n ≤ t
  · rw [roll_to e1]
    have := roll_between hR h0 h1 (g := s) hn x hx
    exact ⟨fun h => (this.1 h).2, fun h => (this.2 h).1⟩
  · by_cases e0 : s ≤ 0
    · rw [roll_from hn e0]
      have := roll_between hR h0 h1 (g := t) hn x hx
      exact ⟨fun h => (this.1 h).1, fun h => (this.2 h).2⟩
    · obtain ⟨s1, s2⟩ := (roll_tab hR h0 h1 (gone := s) (whole := n) (by omega) (by omega)).2 x hx
      obtain ⟨t1, t2⟩ := (roll_tab hR h0 h1 (gone := t) (whole := n) (by omega) (by omega)).2 x hx
      by_cases h : wn l1 x < wn l0 x
      · refine ⟨fun h' => by omega, fun _ => ?_⟩
        have c0 := h0.canon hR.nodup
        have c1 := h1.canon hR.nodup
        have key : ∀ g : Int, 0 < g → g < n → ∃ p ∈ way (wn l0) (wn l1) (gainI l0 l1 g n) R (gains l0 l1 g n R).sum, p.1 = x ∧ wn (rollL l0 l1 g n) x = p.2 := fun g g0 g1 => by
          have hway : rollL l0 l1 g n = some_ (way (wn l0) (wn l1) (gainI l0 l1 g n) R (gains l0 l1 g n R).sum) := rollL_way hR c0.2.2.2 c1.2.2.2 g0 g1
          have hfst := way_fst (wn l0) (wn l1) (gainI l0 l1 g n) R (gains l0 l1 g n R).sum
          have hgf : ∀ y, 0 ≤ gainI l0 l1 g n y := fun y => by
            unfold gainI
            split
            · exact Int.ediv_nonneg (Int.mul_nonneg (by omega) (by omega)) (by omega)
            · omega
          have hG0 : 0 ≤ (gains l0 l1 g n R).sum := (sum_le _ R (fun y _ => hgf y)).1
          obtain ⟨p, hp, rfl⟩ := List.mem_map.1 (show x ∈ (way (wn l0) (wn l1) (gainI l0 l1 g n) R (gains l0 l1 g n R).sum).map (·.1) by rw [hfst]; exact hx)
          refine ⟨p, hp, rfl, ?_⟩
          rw [hway]
          refine wt_some _ (by rw [hfst]; exact hR.nodup) (fun q hq => ?_) p hp
          have hin : q.1 ∈ R := by rw [← hfst]; exact List.mem_map.2 ⟨q, hq, rfl⟩
          have m1 := way_mem (wn l0) (wn l1) (gainI l0 l1 g n) R _ hG0 q hq
          have m2 := c0.2.1 q.1 hin
          have m3 := c1.2.1 q.1 hin
          by_cases h : wn l1 q.1 < wn l0 q.1
          · have := m1.1 h; omega
          · have := m1.2 h; have := hgf q.1; omega
        obtain ⟨p, hp, ep, wp⟩ := key s (by omega) (by omega)
        obtain ⟨q, hq, eq, wq⟩ := key t (by omega) (by omega)
        rw [wp, wq]
        refine way_mono (wn l0) (wn l1) _ _ R _ _ hR.nodup ?_ p hp q hq (ep.trans eq.symm) (by rw [ep]; exact h)
        refine sum_mono _ _ R (fun y _ => ?_)
        unfold gainI
        split
        · exact Int.ediv_le_ediv (by omega) (Int.mul_le_mul_of_nonneg_left hst (by omega))
        · omega
      · rw [s2 h, t2 h]
        have : (wn l1 x - wn l0 x) * s / n ≤ (wn l1 x - wn l0 x) * t / n := Int.ediv_le_ediv (by omega) (Int.mul_le_mul_of_nonneg_left hst (by omega))
        refine ⟨fun _ => by omega, fun h' => ?_⟩
        rw [show wn l1 x - wn l0 x = 0 by omega]
        simp

end Go.Proofs.Ytdbikchddonjnaa.PA
