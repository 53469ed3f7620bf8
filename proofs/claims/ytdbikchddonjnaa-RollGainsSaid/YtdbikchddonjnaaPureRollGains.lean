import Derived.Test.YtdbikchddonjnaaPureMore
import Derived.Test.YtdbikchddonjnaaPAx8
namespace Go.Proofs.Ytdbikchddonjnaa.Pure
open Go.RowKit Go.Proofs.Ytdbikchddonjnaa.PA Go.Proofs.YtdbikchddonjnaaW.PrintWords Go.Proofs.YtdbikchddonjnaaW.PrintLast

/-- What grows has grown by its part of the time. -/
theorem grown {a b : List S39} (ta : Tab R6 a) (tb : Tab R6 b) (t n : Int) (t0 : 0 ≤ t) (t1 : t < n) : ∀ x ∈ R6, ¬ wn b x < wn a x → wn (rollL a b t n) x = wn a x + (wn b x - wn a x) * t / n := by
  intro x hx h
  by_cases e : t = 0
  · subst e
    have : rollL a b 0 n = a := by unfold rollL; rw [if_neg (by omega), if_pos (by omega)]
    rw [this]
    simp
  · exact ((roll_tab R6_rising ta tb (gone := t) (whole := n) (by omega) (by omega)).2 x hx).2 h

theorem mx_step (g lost w x : Int) : g + mx (w - x) 0 - (lost + mx (x - w) 0) = (g - lost) + (w - x) := by
  unfold mx
  split <;> split <;> omega
theorem mx_b (w x : Int) (w0 : 0 ≤ w) (w1 : w ≤ 100) (x0 : 0 ≤ x) (x1 : x ≤ 100) : 0 ≤ mx (w - x) 0 ∧ mx (w - x) 0 ≤ 100 := by
  unfold mx
  split <;> omega

/-- One name. -/
theorem gains_step {k i : Nat} {a b l : List S39} {t n g lost x y w : Int} (hi6 : i < 6) (ea : damperref6_Weight.f k a (bs (R6.getD i [])) = some x) (eb : damperref6_Weight.f k b (bs (R6.getD i [])) = some y) (el : wt l (bs (R6.getD i [])) = w)
    (x0 : 0 ≤ x) (x1 : x ≤ 100) (y0 : 0 ≤ y) (y1 : y ≤ 100) (w0 : 0 ≤ w) (w1 : w ≤ 100) (t0 : 0 ≤ t) (t1 : t < n) (n1 : n ≤ 60) (g0 : 0 ≤ g) (g1 : g ≤ 100 * i) (l0 : 0 ≤ lost) (l1 : lost ≤ 100 * i) (hgr : ¬ y < x → w = x + (y - x) * t / n)
    (hnext : damperlaw6_RollGains.l0 k a b n t l revs6 (g + mx (w - x) 0) (lost + mx (x - w) 0) ((i + 1 : Nat) : Int) = some true) : damperlaw6_RollGains.l0 (k + 1) a b n t l revs6 g lost (i : Int) = some true := by
  have hlen : (revs6.length : Int) = 6 := rfl
  obtain ⟨u0, u1⟩ := mx_b w x w0 w1 x0 x1
  obtain ⟨v0, v1⟩ := mx_b x w x0 x1 w0 w1
  have hN := Lib.hid hnext
  clear hnext
  unfold damperlaw6_RollGains.l0
  rw [hlen, if_pos (by omega), if_pos (by omega), revs6_at i hi6, ea, eb]
  simp only [Option.bind_some, roll_Weight.f]
  rw [el]
  clear ea eb el hlen
  generalize hM1 : mx (w - x) 0 = M1 at *
  generalize hM2 : mx (x - w) 0 = M2 at *
  have e1 : wrap64 (w - x) = w - x := w64 (by omega) (by omega)
  have e2 : wrap64 (x - w) = x - w := w64 (by omega) (by omega)
  have e3 : wrap64 (g + M1) = g + M1 := w64 (by omega) (by omega)
  have e4 : wrap64 (lost + M2) = lost + M2 := w64 (by omega) (by omega)
  have e5 : wrap64 ((i : Int) + 1) = ((i + 1 : Nat) : Int) := by rw [w64 (by omega) (by omega)]; omega
  by_cases hxy : y ≥ x
  · have p0 : 0 ≤ (y - x) * t := Int.mul_nonneg (by omega) t0
    have p1 : (y - x) * t ≤ 100 * 60 := Int.mul_le_mul (by omega) (by omega) (by omega) (by omega)
    have q0 : 0 ≤ (y - x) * t / n := Int.ediv_nonneg p0 (by omega)
    have q1 : (y - x) * t / n ≤ (y - x) * t := Int.ediv_le_self _ p0
    have e6 : wrap64 (y - x) = y - x := w64 (by omega) (by omega)
    have e7 : wrap64 ((y - x) * t) = (y - x) * t := w64 (by omega) (by omega)
    have e8 : ((y - x) * t).tdiv n = (y - x) * t / n := Int.tdiv_eq_ediv_of_nonneg p0
    have e9 : wrap64 ((y - x) * t / n) = (y - x) * t / n := w64 (by omega) (by omega)
    have e10 : wrap64 (x + (y - x) * t / n) = x + (y - x) * t / n := w64 (by omega) (by omega)
    rw [if_pos hxy, if_neg (by omega), e6, e7, e8, e9, e10, if_pos (hgr (by omega)), e1, e2, hM1, hM2, e3, e4, e5]
    exact hN.out
  · rw [if_neg hxy, e1, e2, hM1, hM2, e3, e4, e5]
    exact hN.out

theorem gb {g m : Int} {i : Nat} (h : g ≤ 100 * i) (hm : m ≤ 100) : g + m ≤ 100 * ((i + 1 : Nat) : Int) := by omega
theorem kb {x m k : Nat} (h : x ≤ 6) (hk : m + 1 + 8 ≤ k + 1) : x + 1 ≤ k := by omega
theorem ib {i m : Nat} (h : i + (m + 1) = 6) : i < 6 := by omega

theorem gains_rest {a b l : List S39} (ta : Tab R6 a) (tb : Tab R6 b) (tl : Tab R6 l) (t n : Int) (t0 : 0 ≤ t) (t1 : t < n) (n1 : n ≤ 60) (hg : ∀ x ∈ R6, ¬ wn b x < wn a x → wn l x = wn a x + (wn b x - wn a x) * t / n) :
    ∀ m i : Nat, i + m = 6 → ∀ g lost : Int, 0 ≤ g → g ≤ 100 * i → 0 ≤ lost → lost ≤ 100 * i → g - lost = ((R6.take i).map fun x => wn l x - wn a x).sum → ∀ k, m + 8 ≤ k → damperlaw6_RollGains.l0 k a b n t l revs6 g lost (i : Int) = some true := by
  have la : a.length ≤ 6 := R6_len ▸ ta.len
  have lb : b.length ≤ 6 := R6_len ▸ tb.len
  intro m
  induction m with
  | zero =>
    intro i hi g lost g0 g1 l0 l1 hs k hk
    obtain rfl : i = 6 := hi
    obtain ⟨k, rfl⟩ : ∃ j, k = j + 1 := ⟨k - 1, by clear hs hg; omega⟩
    have e := sum_add (wn a) (fun x => wn l x - wn a x) R6
    rw [show (fun x => wn a x + (wn l x - wn a x)) = wn l from by funext x; generalize wn a x = p; generalize wn l x = q; omega, (tl.canon R6_rising.nodup).2.2.1, (ta.canon R6_rising.nodup).2.2.1] at e
    rw [show R6.take 6 = R6 from rfl] at hs
    rw [← hs] at e
    clear hs hg
    have hgl : g = lost := by omega
    unfold damperlaw6_RollGains.l0
    rw [if_neg (show ¬ ((6 : Nat) : Int) < (revs6.length : Int) from by decide), hgl]
    simp
  | succ m ih =>
    intro i hi g lost g0 g1 l0 l1 hs k hk
    obtain ⟨k, rfl⟩ : ∃ j, k = j + 1 := ⟨k - 1, by clear hs hg ih; omega⟩
    have hi6 : i < 6 := ib hi
    have hmem : R6.getD i [] ∈ R6 := by
      have : R6.getD i [] = R6[i]'(by rw [R6_len]; exact hi6) := by simp [List.getD_eq_getElem?_getD, show i < R6.length by rw [R6_len]; exact hi6]
      rw [this]; exact List.getElem_mem _
    have htake : R6.take (i + 1) = R6.take i ++ [R6.getD i []] := by
      rw [List.take_succ_eq_append_getElem (by rw [R6_len]; exact hi6)]
      simp [List.getD_eq_getElem?_getD, show i < R6.length by rw [R6_len]; exact hi6]
    have hs' : ((R6.take (i + 1)).map fun x => wn l x - wn a x).sum = ((R6.take i).map fun x => wn l x - wn a x).sum + (wn l (R6.getD i []) - wn a (R6.getD i [])) := by
      rw [htake, List.map_append, List.sum_append]; simp
    obtain ⟨x0, x1⟩ := ta.bound R6_rising.nodup _ hmem
    obtain ⟨y0, y1⟩ := tb.bound R6_rising.nodup _ hmem
    obtain ⟨w0, w1⟩ := tl.bound R6_rising.nodup _ hmem
    obtain ⟨u0, u1⟩ := mx_b _ _ w0 w1 x0 x1
    obtain ⟨v0, v1⟩ := mx_b _ _ x0 x1 w0 w1
    exact gains_step hi6 (refw_f (Nat.le_trans la (by decide)) _ k (kb la hk)) (refw_f (Nat.le_trans lb (by decide)) _ k (kb lb hk)) rfl x0 x1 y0 y1 w0 w1 t0 t1 n1 g0 g1 l0 l1 (hg _ hmem)
      (ih (i + 1) ((Nat.succ_add i m).trans hi) _ _ (Int.add_nonneg g0 u0) (gb g1 u1) (Int.add_nonneg l0 v0) (gb l1 v1) ((mx_step g lost _ _).trans (by rw [hs, hs'])) k (Nat.le_of_succ_le_succ (by rw [Nat.succ_eq_add_one, Nat.add_right_comm]; exact hk)))

/-- The theorem that the row asks. -/
theorem RollGains : damperlaw6_RollGains.Pure := by
  intro l0 l1 a2 a3 _ _ _ _ _ _ _ _
  obtain ⟨k0, a, ha, ta⟩ := shares_tab l0
  obtain ⟨k1, b, hb, tb⟩ := shares_tab l1
  have h1 := within6 a3 60 (by omega) (by omega)
  have n0 := Int.emod_nonneg a3 (b := 60) (by omega)
  have n1 := Int.emod_lt_of_pos a3 (b := 60) (by omega)
  generalize a3 % 60 = n at h1 n0 n1
  have h2 := within6 a2 (1 + n) (by omega) (by omega)
  have t0 := Int.emod_nonneg a2 (b := 1 + n) (by omega)
  have t1 := Int.emod_lt_of_pos a2 (b := 1 + n) (by omega)
  generalize a2 % (1 + n) = t at h2 t0 t1
  have ha' := l5_up ha (k0 + k1 + 20) (by omega)
  have hb' := l5_up hb (k0 + k1 + 20) (by omega)
  have r1 := roll_f (by decide) ta tb t (1 + n) (by omega)
  have w1 : wrap64 (1 + n) = 1 + n := w64 (by omega) (by omega)
  have lp := gains_rest ta tb (roll_tab' R6_rising ta tb t (1 + n)) t (1 + n) t0 t1 (by omega) (grown ta tb t (1 + n) t0 t1) 6 0 rfl 0 0 (by omega) (by omega) (by omega) (by omega) (by simp) (k0 + k1 + 20) (by omega)
  refine ⟨k0 + k1 + 20, ?_⟩
  unfold damperlaw6_RollGains.f
  simp only [known_f, Option.bind_some, if_true, ha', hb', h1, h2, w1, r1, revs_f]
  exact lp

end Go.Proofs.Ytdbikchddonjnaa.Pure
