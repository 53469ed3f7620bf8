import Derived.Test.YtdbikchddonjnaaPureMore
import Derived.Test.YtdbikchddonjnaaPAx5
namespace Go.Proofs.Ytdbikchddonjnaa.Pure
open Go.RowKit Go.Proofs.Ytdbikchddonjnaa.PA Go.Proofs.YtdbikchddonjnaaW.PrintWords Go.Proofs.YtdbikchddonjnaaW.PrintLast

theorem R2_less : R2.Pairwise (fun x y => Op.bytesLess x y = true) := by decide
theorem rev2 : ∀ n ∈ R2, damperref5_revision.f 100 (bs n) = some true := by
  intro n hn
  simp only [R2, List.mem_cons, List.not_mem_nil, or_false] at hn
  rcases hn with rfl | rfl <;> decide +kernel
theorem sound2 {l : List S39} (h : Tab R2 l) : damperref5_Sound.f l = some true := by
  unfold damperref5_Sound.f
  rw [if_pos]
  rw [Bool.and_eq_true, List.all_eq_true]
  refine ⟨soundB_iff.2 (h.sound R2_less), fun s hs => ?_⟩
  obtain ⟨_, _, n, hn, e⟩ := h.mem s hs
  rw [e, rev2 n hn]
  rfl

/-- What the new one has. -/
theorem one_new (p t n : Int) (p0 : 1 ≤ p) (p1 : p ≤ 100) (t0 : 0 ≤ t) (t1 : t ≤ n) (n0 : 1 ≤ n) : wn (rollL (some_ [(nA1, 100), (nA2, 0)]) (some_ [(nA1, 100 - p), (nA2, p)]) t n) nA2 = p * t / n := by
  have a2 := (wn2 100 0 (by omega) (by omega)).2
  have b2 := (wn2 (100 - p) p (by omega) (by omega)).2
  by_cases e1 : n ≤ t
  · obtain rfl : t = n := by omega
    have : rollL (some_ [(nA1, 100), (nA2, 0)]) (some_ [(nA1, 100 - p), (nA2, p)]) t t = some_ [(nA1, 100 - p), (nA2, p)] := by unfold rollL; rw [if_pos (.inr (by omega))]
    rw [this, b2, Int.mul_ediv_cancel _ (by omega)]
  · by_cases e2 : t ≤ 0
    · obtain rfl : t = 0 := by omega
      have : rollL (some_ [(nA1, 100), (nA2, 0)]) (some_ [(nA1, 100 - p), (nA2, p)]) 0 n = some_ [(nA1, 100), (nA2, 0)] := by unfold rollL; rw [if_neg (by omega), if_pos (by omega)]
      rw [this, a2]; simp
    · have h := ((roll_tab R2_rising (tab2 100 0 (by omega) (by omega) (by omega)) (tab2 (100 - p) p (by omega) (by omega) (by omega)) (gone := t) (whole := n) (by omega) (by omega)).2 nA2 (by simp [R2])).2 (by rw [a2, b2]; omega)
      rw [h, a2, b2]
      simp

theorem one_rest (p t n : Int) (p0 : 1 ≤ p) (p1 : p ≤ 100) (t0 : 0 ≤ t) (t1 : t ≤ n) (n0 : 1 ≤ n) (n1 : n ≤ 60) (K : Nat) (hK : 20 ≤ K) : damperlaw6_RollOne.j0 K n t p (some_ [(nA1, 100), (nA2, 0)]) (some_ [(nA1, 100 - p), (nA2, p)]) = some true := by
  obtain ⟨k, rfl⟩ : ∃ j, K = j + 1 := ⟨K - 1, by omega⟩
  have ta := tab2 100 0 (by omega) (by omega) (by omega)
  have tb := tab2 (100 - p) p (by omega) (by omega) (by omega)
  have hn := one_new p t n p0 p1 t0 t1 n0
  have r1 := roll_f (by decide) ta tb t n (by omega)
  have tl := roll_tab' R2_rising ta tb t n
  generalize rollL (some_ [(nA1, 100), (nA2, 0)]) (some_ [(nA1, 100 - p), (nA2, p)]) t n = l at hn r1 tl
  obtain ⟨_, hs, _, _⟩ := canon2 tl
  have ll := tl.len
  have ll' : l.length ≤ 2 := ll
  have h1 : wt l (bs nA1) + wt l (bs nA2) = 100 := hs
  have h2 : wt l (bs nA2) = p * t / n := hn
  have q0 : 0 ≤ p * t := Int.mul_nonneg (by omega) t0
  have q1 : p * t ≤ 100 * 60 := Int.mul_le_mul p1 (by omega) t0 (by omega)
  have q2 : 0 ≤ p * t / n := Int.ediv_nonneg q0 (by omega)
  have q3 : p * t / n ≤ p * t := Int.ediv_le_self _ q0
  have e1 : wrap64 (p * t) = p * t := w64 (by omega) (by omega)
  have e2 : (p * t).tdiv n = p * t / n := Int.tdiv_eq_ediv_of_nonneg q0
  have e3 : wrap64 (p * t / n) = p * t / n := w64 (by omega) (by omega)
  have e4 : wrap64 (100 - p * t / n) = 100 - p * t / n := w64 (by omega) (by omega)
  have w2 := refw_f (l := l) (by omega) (bs nA2) k (by omega)
  have w1 := refw_f (l := l) (by omega) (bs nA1) k (by omega)
  have s := sound2 tl
  unfold damperlaw6_RollOne.j0
  dsimp only
  rw [r1]
  simp only [Option.bind_some]
  rw [if_neg (by omega), show (⟨#[97, 45, 50]⟩ : ByteArray) = bs nA2 from rfl, show (⟨#[97, 45, 49]⟩ : ByteArray) = bs nA1 from rfl, w2]
  simp only [Option.bind_some]
  rw [e1, e2, e3, if_pos h2, w1]
  simp only [Option.bind_some]
  rw [e4, if_pos (by omega), if_pos (by omega), s]
  rfl

/-- The theorem that the row asks. -/
theorem RollOne : damperlaw6_RollOne.Pure := by
  intro a0 a1 a2 _ _ _
  have h1 := within6 a1 60 (by omega) (by omega)
  have n0 := Int.emod_nonneg a1 (b := 60) (by omega)
  have n1 := Int.emod_lt_of_pos a1 (b := 60) (by omega)
  generalize a1 % 60 = n at h1 n0 n1
  have h2 := within6 a0 (1 + n + 1) (by omega) (by omega)
  have t0 := Int.emod_nonneg a0 (b := 1 + n + 1) (by omega)
  have t1 := Int.emod_lt_of_pos a0 (b := 1 + n + 1) (by omega)
  generalize a0 % (1 + n + 1) = t at h2 t0 t1
  have h3 := within6 a2 100 (by omega) (by omega)
  have m0 := Int.emod_nonneg a2 (b := 100) (by omega)
  have m1 := Int.emod_lt_of_pos a2 (b := 100) (by omega)
  generalize a2 % 100 = m at h3 m0 m1
  have w1 : wrap64 (1 + n) = 1 + n := w64 (by omega) (by omega)
  have w2 : wrap64 (1 + n + 1) = 1 + n + 1 := w64 (by omega) (by omega)
  have w3 : wrap64 (1 + m) = 1 + m := w64 (by omega) (by omega)
  have w4 : wrap64 (100 - (1 + m)) = 100 - (1 + m) := w64 (by omega) (by omega)
  have lp := one_rest (1 + m) t (1 + n) (by omega) (by omega) t0 (by omega) (by omega) (by omega) 20 (by omega)
  have e0 : ([(⟨(⟨#[97, 45, 49]⟩ : ByteArray), 100⟩ : S39)] : List S39) = some_ [(nA1, 100), (nA2, 0)] := by
    rw [some_cons, if_pos (by omega), some_cons, if_neg (by omega)]; rfl
  refine ⟨20, ?_⟩
  unfold damperlaw6_RollOne.f
  simp only [known_f, Option.bind_some, if_true, h1, h2, h3, w1, w2, w3, w4, e0]
  by_cases e : 1 + m = 100
  · rw [if_pos e, if_pos (by simp)]
    have e1 : List.drop (Int.toNat 1) ([(⟨(⟨#[97, 45, 49]⟩ : ByteArray), 100 - (1 + m)⟩ : S39), (⟨(⟨#[97, 45, 50]⟩ : ByteArray), 1 + m⟩ : S39)] : List S39) = some_ [(nA1, 100 - (1 + m)), (nA2, 1 + m)] := by
      rw [some_cons, if_neg (by omega), some_cons, if_pos (by omega)]; rfl
    rw [e1]
    exact lp
  · rw [if_neg e]
    have e1 : ([(⟨(⟨#[97, 45, 49]⟩ : ByteArray), 100 - (1 + m)⟩ : S39), (⟨(⟨#[97, 45, 50]⟩ : ByteArray), 1 + m⟩ : S39)] : List S39) = some_ [(nA1, 100 - (1 + m)), (nA2, 1 + m)] := by
      rw [some_cons, if_pos (by omega), some_cons, if_pos (by omega)]; rfl
    rw [e1]
    exact lp

end Go.Proofs.Ytdbikchddonjnaa.Pure
