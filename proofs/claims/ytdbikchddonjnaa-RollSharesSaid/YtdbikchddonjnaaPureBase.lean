/- What the printed functions of the roll laws tell, in plain numbers. -/
import Derived.Test.YtdbikchddonjnaaTab
import Derived.Test.YtdbikchddonjnaaPAx2
namespace Go.Proofs.Ytdbikchddonjnaa.PA
open Go.RowKit Go.Lib Go.Proofs.YtdbikchddonjnaaW.PrintWords Go.Proofs.YtdbikchddonjnaaW.PrintLast

theorem w64 {n : Int} (h0 : -9223372036854775808 ≤ n) (h1 : n < 9223372036854775808) : wrap64 n = n := by unfold wrap64; omega

/-- Go's remainder, made not negative. -/
theorem within_ex (a n : Int) (h1 : 1 ≤ n) (h2 : n ≤ 4611686018427387904) : (if n = 0 then (none : Option Int) else (if (Int.tmod a n) < 0 then (some (wrap64 ((Int.tmod a n) + n))) else (some (Int.tmod a n)))) = some (a % n) := by
  rw [if_neg (by omega)]
  have hb0 := Int.emod_nonneg a (b := n) (by omega)
  have hb1 := Int.emod_lt_of_pos a (b := n) (by omega)
  have h3 : (n.natAbs : Int) = n := by omega
  have := Int.tmod_eq_emod (a := a) (b := n)
  by_cases hd : 0 ≤ a ∨ n ∣ a
  · rw [if_pos hd] at this
    rw [if_neg (by omega)]
    congr 1; omega
  · rw [if_neg hd] at this
    have : a % n ≠ 0 := fun h => hd (.inr (Int.dvd_of_emod_eq_zero h))
    rw [if_pos (by omega), w64 (by omega) (by omega)]
    congr 1; omega

theorem within5 (a n : Int) (h1 : 1 ≤ n) (h2 : n ≤ 4611686018427387904) : damperlaw5_within.f a n = some (a % n) := within_ex a n h1 h2
theorem within6 (a n : Int) (h1 : 1 ≤ n) (h2 : n ≤ 4611686018427387904) : damperlaw6_within.f a n = some (a % n) := within_ex a n h1 h2

/-- The six names. -/
def R6 : List (List UInt8) := [[97, 112, 105, 45, 49], [97, 112, 105, 45, 50], [119, 101, 98, 45, 49], [119, 101, 98, 45, 49, 50], [119, 101, 98, 45, 50], [119, 101, 98, 45, 51]]
def revs6 : List ByteArray := R6.map bs
theorem revs_f : damperlaw5_Revs.f = some revs6 := rfl
theorem R6_rising : Rising R6 := by unfold Rising; decide
theorem R6_less : R6.Pairwise (fun x y => Op.bytesLess x y = true) := by decide
theorem R6_len : R6.length = 6 := rfl
theorem revs6_at (i : Nat) (hi : i < 6) : rdOf ByteArray.empty revs6 (i : Int) = bs (R6.getD i []) := by
  match i, hi with
  | 0, _ => rfl
  | 1, _ => rfl
  | 2, _ => rfl
  | 3, _ => rfl
  | 4, _ => rfl
  | 5, _ => rfl
theorem R6_drop (i : Nat) (hi : i < 6) : R6.drop i = R6.getD i [] :: R6.drop (i + 1) := by
  match i, hi with
  | 0, _ => rfl
  | 1, _ => rfl
  | 2, _ => rfl
  | 3, _ => rfl
  | 4, _ => rfl
  | 5, _ => rfl

theorem some_zero (R : List (List UInt8)) : some_ (R.map fun n => (n, (0 : Int))) = [] := by
  induction R with
  | nil => rfl
  | cons n t ih => rw [List.map_cons, some_cons, if_neg (by omega), ih]

/-- The rest of a table, from name i on. -/
theorem shares_rest (x0 : List Int) : ∀ m i : Nat, i + m = 6 → ∀ (L : Int) (out : List S39), 0 ≤ L → L ≤ 100 → (m = 0 → L = 0) → out.length ≤ i →
    ∃ k ps, ps.map (·.1) = R6.drop i ∧ (∀ p ∈ ps, 0 ≤ p.2) ∧ (ps.map (·.2)).sum = L ∧ damperlaw5_Shares.l0 k x0 out L revs6 (i : Int) = some (out ++ some_ ps) := by
  have hlen : (revs6.length : Int) = 6 := rfl
  have hz : ∀ (i : Nat) (out : List S39), ∃ ps : List (List UInt8 × Int), ps.map (·.1) = R6.drop i ∧ (∀ p ∈ ps, 0 ≤ p.2) ∧ (ps.map (·.2)).sum = 0 ∧ out ++ some_ ps = out := fun i out =>
    ⟨(R6.drop i).map fun n => (n, 0), by rw [List.map_map]; exact List.map_id _, fun p hp => by obtain ⟨n, _, rfl⟩ := List.mem_map.1 hp; exact Int.le_refl _, by rw [List.map_map]; exact (sum_fine (fun _ => (0 : Int)) 0 (by omega) (R6.drop i) (fun _ _ => ⟨by omega, by omega⟩)) |> fun h => by show ((R6.drop i).map fun _ => (0 : Int)).sum = 0; omega, by rw [some_zero, List.append_nil]⟩
  intro m
  induction m with
  | zero =>
    intro i hi L out h0 h1 hm _
    obtain rfl := hm rfl
    obtain rfl : i = 6 := by omega
    obtain ⟨ps, p1, p2, p3, p4⟩ := hz 6 out
    refine ⟨2, ps, p1, p2, p3, ?_⟩
    rw [p4]
    unfold damperlaw5_Shares.l0
    rw [hlen, if_neg (by omega)]
    unfold damperlaw5_Shares.j1
    rw [if_neg (by simp)]
  | succ m ih =>
    intro i hi L out h0 h1 _ hout
    have hi6 : i < 6 := by omega
    by_cases hL : L = 0
    · subst hL
      obtain ⟨ps, p1, p2, p3, p4⟩ := hz i out
      refine ⟨2, ps, p1, p2, p3, ?_⟩
      rw [p4]
      unfold damperlaw5_Shares.l0
      rw [hlen, if_pos (by omega), show decide ((0 : Int) > 0) = false from by decide]
      unfold damperlaw5_Shares.j1
      rw [if_neg (by simp)]
    · have hLp : 0 < L := by omega
      -- what is taken of it, w
      have hw : ∀ x7 : Int, ∃ w, 0 ≤ w ∧ w ≤ L ∧ (m = 0 → w = L) ∧ ∀ k, damperlaw5_Shares.j2 (k + 2) x0 out L revs6 (i : Int) x7 = damperlaw5_Shares.l0 k x0 (if 0 < w then out ++ [⟨bs (R6.getD i []), w⟩] else out) (L - w) revs6 ((i + 1 : Nat) : Int) := fun x7 => by
        have e1 : wrap64 (L + 1) = L + 1 := w64 (by omega) (by omega)
        have t0 := Int.emod_nonneg x7 (b := L + 1) (by omega)
        have t1 := Int.emod_lt_of_pos x7 (b := L + 1) (by omega)
        have hj3 : ∀ x8 : Int, 0 ≤ x8 → x8 ≤ L → ∃ w, 0 ≤ w ∧ w ≤ L ∧ (m = 0 → w = L) ∧ ∀ k, damperlaw5_Shares.j3 (k + 1) x0 out L revs6 (i : Int) x8 = damperlaw5_Shares.l0 k x0 (if 0 < w then out ++ [⟨bs (R6.getD i []), w⟩] else out) (L - w) revs6 ((i + 1 : Nat) : Int) := fun x8 h8 h9 => by
          have e2 : wrap64 ((i : Int) + 1) = ((i + 1 : Nat) : Int) := by rw [w64 (by omega) (by omega)]; omega
          have e3 : wrap64 ((revs6.length : Int) - 1) = 5 := by rw [hlen]; exact w64 (by omega) (by omega)
          by_cases h5 : m = 0
          · refine ⟨L, by omega, by omega, fun _ => rfl, fun k => ?_⟩
            unfold damperlaw5_Shares.j3
            rw [e3, if_pos (by omega), if_pos hLp, if_pos (by omega), hlen, if_pos (by omega), if_pos (by omega), if_pos hLp, revs6_at i hi6, e2, w64 (by omega) (by omega)]
          · refine ⟨x8, h8, h9, fun h => absurd h h5, fun k => ?_⟩
            unfold damperlaw5_Shares.j3
            rw [e3, if_neg (by omega)]
            by_cases hx : 0 < x8
            · rw [if_pos hx, if_pos (by omega), hlen, if_pos (by omega), if_pos (by omega), if_pos hx, revs6_at i hi6, e2, w64 (by omega) (by omega)]
            · rw [if_neg hx, if_neg hx, e2, w64 (by omega) (by omega)]
        have hj2 : ∀ k, damperlaw5_Shares.j2 (k + 1) x0 out L revs6 (i : Int) x7 = if (wrap64 (Int.tdiv x7 101)) % 3 = 0 then damperlaw5_Shares.j3 k x0 out L revs6 (i : Int) 0 else damperlaw5_Shares.j3 k x0 out L revs6 (i : Int) (x7 % (L + 1)) := fun k => by
          conv => lhs; unfold damperlaw5_Shares.j2
          rw [e1, within5 _ _ (by omega) (by omega), within5 _ 3 (by omega) (by omega)]
          rfl
        by_cases hc : (wrap64 (Int.tdiv x7 101)) % 3 = 0
        · obtain ⟨w, w0, w1, w2, w3⟩ := hj3 0 (by omega) (by omega)
          exact ⟨w, w0, w1, w2, fun k => by rw [hj2, if_pos hc, w3]⟩
        · obtain ⟨w, w0, w1, w2, w3⟩ := hj3 (x7 % (L + 1)) t0 (by omega)
          exact ⟨w, w0, w1, w2, fun k => by rw [hj2, if_neg hc, w3]⟩
      have hj1 : ∃ x7 : Int, ∀ k, damperlaw5_Shares.l0 (k + 2) x0 out L revs6 (i : Int) = damperlaw5_Shares.j2 k x0 out L revs6 (i : Int) x7 := by
        by_cases hx : (i : Int) < (x0.length : Int)
        · refine ⟨rd x0 i, fun k => ?_⟩
          conv => lhs; unfold damperlaw5_Shares.l0
          rw [hlen, if_pos (by omega), show decide (L > 0) = true from decide_eq_true hLp]
          conv => lhs; unfold damperlaw5_Shares.j1
          rw [if_pos rfl, if_pos hx, if_pos (by omega)]
        · refine ⟨wrap64 (7 * i), fun k => ?_⟩
          conv => lhs; unfold damperlaw5_Shares.l0
          rw [hlen, if_pos (by omega), show decide (L > 0) = true from decide_eq_true hLp]
          conv => lhs; unfold damperlaw5_Shares.j1
          rw [if_pos rfl, if_neg hx]
      obtain ⟨x7, hj1⟩ := hj1
      obtain ⟨w, w0, w1, w2, w3⟩ := hw x7
      have hol : (if 0 < w then out ++ [(⟨bs (R6.getD i []), w⟩ : S39)] else out).length ≤ i + 1 := by
        split
        · rw [List.length_append, List.length_singleton]; omega
        · omega
      obtain ⟨k, ps, p1, p2, p3, p4⟩ := ih (i + 1) (by omega) (L - w) (if 0 < w then out ++ [⟨bs (R6.getD i []), w⟩] else out) (by omega) (by omega) (fun h => by have := w2 h; omega) hol
      refine ⟨k + 2 + 2, (R6.getD i [], w) :: ps, by rw [List.map_cons, p1, R6_drop i hi6], fun p hp => ?_, by rw [List.map_cons, List.sum_cons, p3]; show w + (L - w) = L; omega, ?_⟩
      · rcases List.mem_cons.1 hp with rfl | hp
        · exact w0
        · exact p2 p hp
      · rw [hj1, w3, p4, some_cons]
        split <;> simp

theorem shares_tab (x0 : List Int) : ∃ k l, damperlaw5_Shares.f k x0 = some l ∧ Tab R6 l := by
  obtain ⟨k, ps, p1, p2, p3, p4⟩ := shares_rest x0 6 0 rfl 100 [] (by omega) (by omega) (fun h => by omega) (by simp)
  refine ⟨k, some_ ps, ?_, ps, p1, rfl, p2, p3⟩
  unfold damperlaw5_Shares.f
  rw [revs_f]
  exact p4

end Go.Proofs.Ytdbikchddonjnaa.PA
