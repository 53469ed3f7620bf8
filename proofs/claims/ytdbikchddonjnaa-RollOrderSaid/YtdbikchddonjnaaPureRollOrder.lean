import Derived.Test.YtdbikchddonjnaaPureMore
import Derived.Test.YtdbikchddonjnaaPAx5
namespace Go.Proofs.Ytdbikchddonjnaa.Pure
open Go.RowKit Go.Proofs.Ytdbikchddonjnaa.PA Go.Proofs.YtdbikchddonjnaaW.PrintWords Go.Proofs.YtdbikchddonjnaaW.PrintLast

theorem ordA {x y G w : Int} (hw : w = x - min (x - y) G) (hne : w ≠ y) : G - min (x - y) G = 0 := by omega
theorem ordB {x y w : Int} (h : y < x) (hw : w = x - min (x - y) 0) : w = x := by omega
theorem ordC {x y : Int} (h : y < x) : (0 : Int) - min (x - y) 0 = 0 := by omega
theorem ordD {x y G : Int} : 0 ≤ G - min (x - y) G := by omega

theorem kb {x m k : Nat} (h : x ≤ 6) (hk : m + 1 + 8 ≤ k + 1) : x + 1 ≤ k := by omega
theorem ib {i m : Nat} (h : i + (m + 1) = 6) : i < 6 := by omega

/-- One name: what the loop does. -/
theorem order_step {k i : Nat} {a b l : List S39} {x y w : Int} {part res : Bool} (hi6 : i < 6) (ea : damperref6_Weight.f k a (bs (R6.getD i [])) = some x) (eb : damperref6_Weight.f k b (bs (R6.getD i [])) = some y) (el : damperref6_Weight.f k l (bs (R6.getD i [])) = some w)
    (h1 : y ≥ x → damperlaw6_RollOrder.l0 k a b l revs6 part ((i + 1 : Nat) : Int) = some res)
    (h2 : ¬ y ≥ x → part = true → w = x ∧ damperlaw6_RollOrder.l0 k a b l revs6 true ((i + 1 : Nat) : Int) = some res)
    (h3 : ¬ y ≥ x → part = false → damperlaw6_RollOrder.l0 k a b l revs6 (w != y) ((i + 1 : Nat) : Int) = some res) : damperlaw6_RollOrder.l0 (k + 1) a b l revs6 part (i : Int) = some res := by
  have hlen : (revs6.length : Int) = 6 := rfl
  have e5 : wrap64 ((i : Int) + 1) = ((i + 1 : Nat) : Int) := by clear hlen h1 h2 h3 ea eb el; rw [w64 (by omega) (by omega)]; omega
  unfold damperlaw6_RollOrder.l0
  rw [hlen, if_pos (by clear e5 hlen h1 h2 h3 ea eb el; omega), if_pos (by clear e5 hlen h1 h2 h3 ea eb el; omega), revs6_at i hi6, ea, eb, el]
  simp only [Option.bind_some]
  rw [e5]
  by_cases h : y ≥ x
  · rw [if_pos h]; exact h1 h
  · rw [if_neg h]
    cases part with
    | true => rw [if_pos rfl, if_pos (h2 h rfl).1]; exact (h2 h rfl).2
    | false => rw [if_neg (by decide)]; exact h3 h rfl

theorem order_rest {a b l : List S39} (ta : Tab R6 a) (tb : Tab R6 b) (tl : Tab R6 l) (gn : List UInt8 → Int) :
    ∀ m i : Nat, i + m = 6 → ∀ (G : Int) (part : Bool), 0 ≤ G → (part = true → G = 0) → (∀ p ∈ way (wn a) (wn b) gn (R6.drop i) G, wn l p.1 = p.2) → ∀ k, m + 8 ≤ k → damperlaw6_RollOrder.l0 k a b l revs6 part (i : Int) = some (decide ((l.length : Int) > 0)) := by
  have la : a.length ≤ 6 := R6_len ▸ ta.len
  have lb : b.length ≤ 6 := R6_len ▸ tb.len
  have ll : l.length ≤ 6 := R6_len ▸ tl.len
  intro m
  induction m with
  | zero =>
    intro i hi G part g0 hp hw k hk
    obtain rfl : i = 6 := hi
    obtain ⟨k, rfl⟩ : ∃ j, k = j + 1 := ⟨k - 1, by clear hw; omega⟩
    unfold damperlaw6_RollOrder.l0
    rw [if_neg (show ¬ ((6 : Nat) : Int) < (revs6.length : Int) from by decide)]
  | succ m ih =>
    intro i hi G part g0 hp hw k hk
    obtain ⟨k, rfl⟩ : ∃ j, k = j + 1 := ⟨k - 1, by clear hw ih; omega⟩
    have hi6 : i < 6 := ib hi
    have hi' : i + 1 + m = 6 := (Nat.succ_add i m).trans hi
    have hk' : m + 8 ≤ k := Nat.le_of_succ_le_succ (by rw [Nat.succ_eq_add_one, Nat.add_right_comm]; exact hk)
    rw [R6_drop i hi6] at hw
    unfold way at hw
    refine order_step hi6 (refw_f (Nat.le_trans la (by decide)) _ k (kb la hk)) (refw_f (Nat.le_trans lb (by decide)) _ k (kb lb hk)) (refw_f (Nat.le_trans ll (by decide)) _ k (kb ll hk)) (fun h => ?_) (fun h hpt => ?_) (fun h hpt => ?_)
    · have h' : ¬ wn b (R6.getD i []) < wn a (R6.getD i []) := Int.not_lt.2 h
      rw [if_neg h'] at hw
      exact ih (i + 1) hi' G part g0 hp (fun p hp => hw p (List.mem_cons_of_mem _ hp)) k hk'
    · have h' : wn b (R6.getD i []) < wn a (R6.getD i []) := Int.not_le.1 h
      rw [if_pos h'] at hw
      have hw0 := hw _ List.mem_cons_self
      have hw1 := fun p hp => hw p (List.mem_cons_of_mem _ hp)
      change wn l (R6.getD i []) = wn a (R6.getD i []) - min (wn a (R6.getD i []) - wn b (R6.getD i [])) G at hw0
      obtain rfl := hp hpt
      refine ⟨ordB h' hw0, ih (i + 1) hi' 0 true (Int.le_refl _) (fun _ => rfl) (fun p hp => ?_) k hk'⟩
      refine hw1 p ?_
      rw [ordC h']
      exact hp
    · have h' : wn b (R6.getD i []) < wn a (R6.getD i []) := Int.not_le.1 h
      rw [if_pos h'] at hw
      have hw0 := hw _ List.mem_cons_self
      have hw1 := fun p hp => hw p (List.mem_cons_of_mem _ hp)
      change wn l (R6.getD i []) = wn a (R6.getD i []) - min (wn a (R6.getD i []) - wn b (R6.getD i [])) G at hw0
      refine ih (i + 1) hi' (G - min (wn a (R6.getD i []) - wn b (R6.getD i [])) G) _ ordD (fun hne => ?_) hw1 k hk'
      exact ordA hw0 (bne_iff_ne.1 hne)

theorem tab_pos {R : List (List UInt8)} {l : List S39} (h : Tab R l) : 0 < l.length := by
  rcases Nat.eq_zero_or_pos l.length with e | e
  · have hl : l = [] := List.eq_nil_of_length_eq_zero e
    obtain ⟨ps, rfl, rfl, h0, hs⟩ := h
    have hz : ∀ p ∈ ps, p.2 ≤ 0 := fun p hp => by
      rcases Int.lt_or_le 0 p.2 with h1 | h1
      · have : (⟨bs p.1, p.2⟩ : S39) ∈ some_ ps := List.mem_map.2 ⟨p, List.mem_filter.2 ⟨hp, by simpa using h1⟩, rfl⟩
        rw [hl] at this; cases this
      · exact h1
    have := (sum_fine (fun p : List UInt8 × Int => p.2) 0 (by omega) ps (fun p hp => ⟨h0 p hp, hz p hp⟩)).2
    have h3 : (ps.map (fun p : List UInt8 × Int => p.2)).sum = 100 := hs
    omega
  · exact e

/-- Where each name's weight comes from. -/
theorem order_start {a b : List S39} (ta : Tab R6 a) (tb : Tab R6 b) (t n : Int) (t0 : 0 ≤ t) (t1 : t < n) : ∃ gn G, 0 ≤ G ∧ ∀ p ∈ way (wn a) (wn b) gn R6 G, wn (rollL a b t n) p.1 = p.2 := by
  by_cases e : t = 0
  · subst e
    have hr : rollL a b 0 n = a := by unfold rollL; rw [if_neg (by omega), if_pos (by omega)]
    refine ⟨fun _ => 0, 0, by omega, ?_⟩
    have : ∀ R : List (List UInt8), ∀ p ∈ way (wn a) (wn b) (fun _ => 0) R 0, p.2 = wn a p.1 := fun R => by
      induction R with
      | nil => intro p hp; cases hp
      | cons x R ih =>
        intro p hp
        unfold way at hp
        by_cases h : wn b x < wn a x
        · rw [if_pos h] at hp
          rcases List.mem_cons.1 hp with rfl | hp
          · show wn a x - min (wn a x - wn b x) 0 = wn a x; omega
          · rw [show (0 : Int) - min (wn a x - wn b x) 0 = 0 by omega] at hp
            exact ih p hp
        · rw [if_neg h] at hp
          rcases List.mem_cons.1 hp with rfl | hp
          · show wn a x + 0 = wn a x; omega
          · exact ih p hp
    exact fun p hp => by rw [hr, this R6 p hp]
  · have ca := ta.canon R6_rising.nodup
    have cb := tb.canon R6_rising.nodup
    have hway := rollL_way R6_rising ca.2.2.2 cb.2.2.2 (gone := t) (whole := n) (by omega) (by omega)
    have hgf : ∀ x, 0 ≤ gainI a b t n x := fun x => (gain_fine (ta.fine (by decide)) (tb.fine (by decide)) (by omega) (by omega) x).1
    have hG0 : 0 ≤ (gains a b t n R6).sum := (sum_le _ R6 (fun x _ => hgf x)).1
    refine ⟨gainI a b t n, (gains a b t n R6).sum, hG0, fun p hp => ?_⟩
    have hfst := way_fst (wn a) (wn b) (gainI a b t n) R6 (gains a b t n R6).sum
    have hin : ∀ q ∈ way (wn a) (wn b) (gainI a b t n) R6 (gains a b t n R6).sum, q.1 ∈ R6 := fun q hq => by rw [← hfst]; exact List.mem_map.2 ⟨q, hq, rfl⟩
    have hps : rollL a b t n = some_ (way (wn a) (wn b) (gainI a b t n) R6 (gains a b t n R6).sum) := hway
    show wt (rollL a b t n) (bs p.1) = p.2
    rw [hps]
    refine wt_some _ (by rw [hfst]; exact R6_rising.nodup) (fun q hq => ?_) p hp
    have h1 := way_mem (wn a) (wn b) (gainI a b t n) R6 _ hG0 q hq
    have h2 := ca.2.1 q.1 (hin q hq)
    have h3 := cb.2.1 q.1 (hin q hq)
    by_cases h : wn b q.1 < wn a q.1
    · have := h1.1 h; omega
    · have := h1.2 h; have := hgf q.1; omega

/-- The theorem that the row asks. -/
theorem RollOrder : damperlaw6_RollOrder.Pure := by
  intro l0 l1 a2 a3 _ _ _ _ _ _ _ _
  obtain ⟨k0, a, ha, ta⟩ := shares_tab l0
  obtain ⟨k1, b, hb, tb⟩ := shares_tab l1
  have h1 := within6 a3 60 (by omega) (by omega)
  have n0 := Int.emod_nonneg a3 (b := 60) (by omega)
  have n1 := Int.emod_lt_of_pos a3 (b := 60) (by omega)
  generalize a3 % 60 = n at h1 n0 n1
  have h2 := within6 a2 (1 + n) (by omega) (by omega)
  have t0 := Int.emod_nonneg a2 (b := 1 + n) (by omega)
  have t1 := Int.emod_lt_of_pos a2 (b := 1 + n) (by omega)
  generalize a2 % (1 + n) = t at h2 t0 t1
  have ha' := l5_up ha (k0 + k1 + 20) (by omega)
  have hb' := l5_up hb (k0 + k1 + 20) (by omega)
  have r1 := roll_f (by decide) ta tb t (1 + n) (by omega)
  have w1 : wrap64 (1 + n) = 1 + n := w64 (by omega) (by omega)
  have tl := roll_tab' R6_rising ta tb t (1 + n)
  obtain ⟨gn, G, hG, hw⟩ := order_start ta tb t (1 + n) t0 t1
  have lp := order_rest ta tb tl gn 6 0 rfl G false hG (fun h => by cases h) (by rw [List.drop_zero]; exact hw) (k0 + k1 + 20) (by clear hw; omega)
  have hpos := tab_pos tl
  rw [decide_eq_true (show ((rollL a b t (1 + n)).length : Int) > 0 from Int.natCast_pos.2 hpos)] at lp
  clear hw
  refine ⟨k0 + k1 + 20, ?_⟩
  unfold damperlaw6_RollOrder.f
  rw [known_f, Option.bind_some, if_pos rfl, ha', Option.bind_some, hb', Option.bind_some, h1, Option.bind_some, w1, h2, Option.bind_some, r1, Option.bind_some, revs_f, Option.bind_some]
  rw [show ((0 : Nat) : Int) = 0 from rfl] at lp
  exact lp

end Go.Proofs.Ytdbikchddonjnaa.Pure
