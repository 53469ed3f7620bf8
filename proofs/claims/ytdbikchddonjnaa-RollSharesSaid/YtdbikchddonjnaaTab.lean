/- Tables over a rising row of names; on the way from one to another. Plain. -/
import Derived.Test.YtdbikchddonjnaaMath
namespace Go.Proofs.Ytdbikchddonjnaa.PA
open Go.RowKit Go.Lib Go.Proofs.YtdbikchddonjnaaW.PrintWords

theorem bs_inj {n m : List UInt8} (h : (bs n).toList = (bs m).toList) : n = m := by
  rw [ByteArray.toList_eq, ByteArray.toList_eq] at h
  simpa [bs] using h

theorem keys_some (ps : List (List UInt8 × Int)) : ∀ n, n ∈ keys (some_ ps) → n ∈ ps.map (·.1) := fun n hn => by
  obtain ⟨s, hs, rfl⟩ := List.mem_map.1 hn
  obtain ⟨p, hp, rfl⟩ := List.mem_map.1 hs
  have : (bs p.1).toList = p.1 := by rw [ByteArray.toList_eq]; simp [bs]
  show (bs p.1).toList ∈ _
  rw [this]
  exact List.mem_map.2 ⟨p, (List.mem_filter.1 hp).1, rfl⟩

theorem wt_cons (s : S39) (t : List S39) (r : ByteArray) : wt (s :: t) r = if s.f0.toList = r.toList then s.f1 else wt t r := rfl

theorem wt_some : ∀ (ps : List (List UInt8 × Int)), (ps.map (·.1)).Nodup → (∀ p ∈ ps, 0 ≤ p.2) → ∀ p ∈ ps, wt (some_ ps) (bs p.1) = p.2
  | [], _, _, p, hp => by cases hp
  | q :: t, hn, h0, p, hp => by
    obtain ⟨n, c⟩ := q
    rw [List.map_cons, List.nodup_cons] at hn
    have ih := wt_some t hn.2 (fun p hp => h0 p (List.mem_cons_of_mem _ hp))
    have hc : 0 ≤ c := h0 (n, c) List.mem_cons_self
    have hno : ∀ m, m ∉ t.map (·.1) → wt (some_ t) (bs m) = 0 := fun m hm => wt_none (fun h => hm (keys_some t m h))
    rw [some_cons]
    rcases List.mem_cons.1 hp with rfl | hp'
    · by_cases h : 0 < c
      · rw [if_pos h, wt_cons, if_pos rfl]
      · rw [if_neg h, hno n hn.1]; show 0 = c; omega
    · by_cases h : 0 < c
      · rw [if_pos h, wt_cons, if_neg (fun e => hn.1 (by have := bs_inj e; subst this; exact List.mem_map.2 ⟨p, hp', rfl⟩))]
        exact ih p hp'
      · rw [if_neg h]; exact ih p hp'

/-- A table over the names R: each with its weight, a hundred in all. -/
def Tab (R : List (List UInt8)) (l : List S39) : Prop := ∃ ps : List (List UInt8 × Int), ps.map (·.1) = R ∧ l = some_ ps ∧ (∀ p ∈ ps, 0 ≤ p.2) ∧ (ps.map (·.2)).sum = 100

/-- What n weighs. -/
def wn (l : List S39) (n : List UInt8) : Int := wt l (bs n)

theorem Tab.canon {R : List (List UInt8)} {l : List S39} (hR : R.Nodup) (h : Tab R l) : l = some_ (R.map fun n => (n, wn l n)) ∧ (∀ n ∈ R, 0 ≤ wn l n) ∧ (R.map (wn l)).sum = 100 ∧ (∀ n ∈ keys l, n ∈ R) := by
  obtain ⟨ps, rfl, rfl, h0, hs⟩ := h
  have hw : ∀ p ∈ ps, wn (some_ ps) p.1 = p.2 := wt_some ps hR h0
  have e1 : (ps.map (·.1)).map (fun n => (n, wn (some_ ps) n)) = ps := by
    rw [List.map_map]
    conv => rhs; rw [← List.map_id ps]
    exact List.map_congr_left (fun p hp => by show (p.1, wn (some_ ps) p.1) = p; rw [hw p hp])
  have e2 : (ps.map (·.1)).map (wn (some_ ps)) = ps.map (·.2) := by
    rw [List.map_map]
    exact List.map_congr_left (fun p hp => hw p hp)
  refine ⟨by rw [e1], fun n hn => ?_, by rw [e2]; exact hs, fun n hn => keys_some ps n hn⟩
  obtain ⟨p, hp, rfl⟩ := List.mem_map.1 hn
  rw [hw p hp]; exact h0 p hp

theorem Tab.mk' {R : List (List UInt8)} {c : List UInt8 → Int} (h0 : ∀ n ∈ R, 0 ≤ c n) (hs : (R.map c).sum = 100) : Tab R (some_ (R.map fun n => (n, c n))) :=
  ⟨_, by rw [List.map_map]; exact List.map_id R, rfl, fun p hp => by obtain ⟨n, hn, rfl⟩ := List.mem_map.1 hp; exact h0 n hn, by rw [List.map_map]; exact hs⟩

theorem sum_le {α : Type} (f : α → Int) : ∀ (l : List α), (∀ x ∈ l, 0 ≤ f x) → 0 ≤ (l.map f).sum ∧ ∀ x ∈ l, f x ≤ (l.map f).sum
  | [], _ => ⟨by simp, fun x hx => by cases hx⟩
  | y :: t, h => by
    have ih := sum_le f t (fun x hx => h x (List.mem_cons_of_mem _ hx))
    have hy := h y List.mem_cons_self
    rw [List.map_cons, List.sum_cons]
    refine ⟨by omega, fun x hx => ?_⟩
    rcases List.mem_cons.1 hx with rfl | hx
    · omega
    · have := ih.2 x hx; omega

theorem Tab.bound {R : List (List UInt8)} {l : List S39} (hR : R.Nodup) (h : Tab R l) : ∀ n ∈ R, 0 ≤ wn l n ∧ wn l n ≤ 100 := fun n hn => by
  obtain ⟨_, h0, hs, _⟩ := h.canon hR
  have := (sum_le (wn l) R h0).2 n hn
  exact ⟨h0 n hn, by omega⟩

theorem Tab.mem {R : List (List UInt8)} {l : List S39} (h : Tab R l) : ∀ s ∈ l, 1 ≤ s.f1 ∧ s.f1 ≤ 100 ∧ ∃ n ∈ R, s.f0 = bs n := fun s hs => by
  obtain ⟨ps, rfl, rfl, h0, hsum⟩ := h
  obtain ⟨p, hp, rfl⟩ := List.mem_map.1 hs
  obtain ⟨hp1, hp2⟩ := List.mem_filter.1 hp
  have := (sum_le (fun q : List UInt8 × Int => q.2) ps h0).2 p hp1
  have h2 : (ps.map (fun q : List UInt8 × Int => q.2)).sum = 100 := hsum
  have h3 : 0 < p.2 := by simpa using hp2
  exact ⟨by show 1 ≤ p.2; omega, by show p.2 ≤ 100; omega, p.1, List.mem_map.2 ⟨p, hp1, rfl⟩, rfl⟩

theorem Tab.len {R : List (List UInt8)} {l : List S39} (h : Tab R l) : l.length ≤ R.length := by
  obtain ⟨ps, rfl, rfl, _, _⟩ := h
  unfold some_
  rw [List.length_map, List.length_map]
  exact List.length_filter_le _ _

theorem Tab.fine {R : List (List UInt8)} {l : List S39} (h : Tab R l) (hl : R.length ≤ 1000) : Fine l :=
  ⟨Nat.le_trans h.len hl, fun s hs => by have := h.mem s hs; omega⟩

/-- .. as the document's Sound has it. -/
theorem Tab.sound {R : List (List UInt8)} {l : List S39} (hB : R.Pairwise (fun x y => Op.bytesLess x y = true)) (h : Tab R l) : SoundL l := by
  have hm := h.mem
  obtain ⟨ps, rfl, rfl, h0, hsum⟩ := h
  refine ⟨fun s hs => by have := hm s hs; omega, ?_, ?_⟩
  · have e : keys (some_ ps) = (ps.filter (fun p => decide (0 < p.2))).map (·.1) := by
      unfold keys some_
      rw [List.map_map]
      exact List.map_congr_left (fun p _ => by show (bs p.1).toList = p.1; rw [ByteArray.toList_eq]; simp [bs])
    rw [e]
    exact hB.sublist (List.filter_sublist.map _)
  · have : ∀ ps : List (List UInt8 × Int), (∀ p ∈ ps, 0 ≤ p.2) → ((some_ ps).map (·.f1)).sum = (ps.map (·.2)).sum := fun ps => by
      induction ps with
      | nil => intro _; rfl
      | cons q t ih =>
        intro h
        obtain ⟨n, c⟩ := q
        have hc := h (n, c) List.mem_cons_self
        have := ih (fun p hp => h p (List.mem_cons_of_mem _ hp))
        rw [some_cons, List.map_cons, List.sum_cons]
        split
        · rw [List.map_cons, List.sum_cons, this]
        · rw [this]; show _ = c + _; have : 0 ≤ c := hc; omega
    rw [this ps h0]
    exact hsum

section
variable (a b gn : List UInt8 → Int)

theorem way_fst : ∀ (R : List (List UInt8)) (g : Int), (way a b gn R g).map (·.1) = R
  | [], _ => rfl
  | n :: t, g => by
    unfold way
    split <;> rw [List.map_cons, way_fst t]

/-- What is to be lost in all. -/
def loss (R : List (List UInt8)) : Int := (R.map fun n => if b n < a n then a n - b n else 0).sum

theorem loss_nonneg (R : List (List UInt8)) : 0 ≤ loss a b R := (sum_le _ R (fun n _ => by split <;> omega)).1

theorem way_sum : ∀ (R : List (List UInt8)) (g : Int), 0 ≤ g → ((way a b gn R g).map (·.2)).sum = (R.map a).sum + (R.map fun n => if b n < a n then 0 else gn n).sum - min (loss a b R) g
  | [], g, hg => by simp [way, loss]; omega
  | n :: t, g, hg => by
    have hl := loss_nonneg a b t
    unfold way
    have e : loss a b (n :: t) = (if b n < a n then a n - b n else 0) + loss a b t := by unfold loss; rw [List.map_cons, List.sum_cons]
    rw [e]
    by_cases h : b n < a n
    · simp only [if_pos h, List.map_cons, List.sum_cons]
      rw [way_sum t _ (by omega)]
      omega
    · simp only [if_neg h, List.map_cons, List.sum_cons]
      rw [way_sum t _ hg]
      omega

theorem way_mem : ∀ (R : List (List UInt8)) (g : Int), 0 ≤ g → ∀ p ∈ way a b gn R g, (b p.1 < a p.1 → b p.1 ≤ p.2 ∧ p.2 ≤ a p.1) ∧ (¬ b p.1 < a p.1 → p.2 = a p.1 + gn p.1)
  | [], g, _, p, hp => by cases hp
  | n :: t, g, hg, p, hp => by
    unfold way at hp
    by_cases h : b n < a n
    · rw [if_pos h] at hp
      rcases List.mem_cons.1 hp with rfl | hp
      · exact ⟨fun _ => by show b n ≤ a n - min (a n - b n) g ∧ a n - min (a n - b n) g ≤ a n; omega, fun h' => absurd h h'⟩
      · exact way_mem t _ (by omega) p hp
    · rw [if_neg h] at hp
      rcases List.mem_cons.1 hp with rfl | hp
      · exact ⟨fun h' => absurd h' h, fun _ => rfl⟩
      · exact way_mem t _ hg p hp
end

theorem sum_add {α : Type} (f g : α → Int) : ∀ l : List α, (l.map fun x => f x + g x).sum = (l.map f).sum + (l.map g).sum
  | [] => by simp
  | x :: t => by simp only [List.map_cons, List.sum_cons]; rw [sum_add f g t]; omega
theorem sum_mono {α : Type} (f g : α → Int) : ∀ l : List α, (∀ x ∈ l, f x ≤ g x) → (l.map f).sum ≤ (l.map g).sum
  | [], _ => by simp
  | x :: t, h => by
    have := sum_mono f g t (fun y hy => h y (List.mem_cons_of_mem _ hy))
    have := h x List.mem_cons_self
    simp only [List.map_cons, List.sum_cons]; omega

/-- A table on the way to another is a table; each weight is between the two; what grows has its part. -/
theorem roll_tab {R : List (List UInt8)} (hR : Rising R) {l0 l1 : List S39} (h0 : Tab R l0) (h1 : Tab R l1) {gone whole : Int} (g0 : 0 < gone) (g1 : gone < whole) :
    Tab R (rollL l0 l1 gone whole) ∧ ∀ n ∈ R, (wn l1 n < wn l0 n → wn l1 n ≤ wn (rollL l0 l1 gone whole) n ∧ wn (rollL l0 l1 gone whole) n ≤ wn l0 n) ∧ (¬ wn l1 n < wn l0 n → wn (rollL l0 l1 gone whole) n = wn l0 n + (wn l1 n - wn l0 n) * gone / whole) := by
  have hn := hR.nodup
  obtain ⟨_, a0, asum, ak⟩ := h0.canon hn
  obtain ⟨_, b0, bsum, bk⟩ := h1.canon hn
  have hg : ∀ n, gainI l0 l1 gone whole n = if wn l0 n < wn l1 n then (wn l1 n - wn l0 n) * gone / whole else 0 := fun n => by
    unfold gainI dOf wn
    by_cases h : wt l0 (bs n) < wt l1 (bs n)
    · rw [if_pos (by omega), if_pos h]
    · rw [if_neg (by omega), if_neg h]
  have hgb : ∀ n, wn l0 n < wn l1 n → 0 ≤ gainI l0 l1 gone whole n ∧ gainI l0 l1 gone whole n ≤ wn l1 n - wn l0 n := fun n h => by
    rw [hg, if_pos h]
    exact ⟨Int.ediv_nonneg (Int.mul_nonneg (by omega) (by omega)) (by omega), Int.ediv_le_of_le_mul (by omega) (Int.mul_le_mul_of_nonneg_left (by omega) (by omega))⟩
  have hgz : ∀ n, ¬ wn l0 n < wn l1 n → gainI l0 l1 gone whole n = 0 := fun n h => by rw [hg, if_neg h]
  have hgn : ∀ n, 0 ≤ gainI l0 l1 gone whole n := fun n => by
    by_cases h : wn l0 n < wn l1 n
    · exact (hgb n h).1
    · rw [hgz n h]; exact Int.le_refl _
  have hway := rollL_way hR ak bk g0 g1
  obtain ⟨G, hG⟩ : ∃ G, G = (gains l0 l1 gone whole R).sum := ⟨_, rfl⟩
  have hG0 : 0 ≤ G := by rw [hG]; exact (sum_le _ R (fun n _ => hgn n)).1
  have hG1 : G ≤ loss (wn l0) (wn l1) R := by
    have e : (R.map (gainI l0 l1 gone whole)).sum ≤ (R.map fun n => (if wn l1 n < wn l0 n then wn l0 n - wn l1 n else 0) + (wn l1 n - wn l0 n)).sum := sum_mono _ _ R (fun n _ => by
      by_cases h : wn l0 n < wn l1 n
      · have := (hgb n h).2; rw [if_neg (by omega)]; omega
      · rw [hgz n h]; split <;> omega)
    rw [sum_add] at e
    have e2 : (R.map fun n => wn l1 n - wn l0 n).sum = 0 := by
      have := sum_add (wn l0) (fun n => wn l1 n - wn l0 n) R
      rw [show (fun x => wn l0 x + (wn l1 x - wn l0 x)) = wn l1 from by funext x; omega] at this
      omega
    rw [e2] at e
    rw [hG]
    show (R.map (gainI l0 l1 gone whole)).sum ≤ (R.map fun n => if wn l1 n < wn l0 n then wn l0 n - wn l1 n else 0).sum
    omega
  rw [← hG] at hway
  have hfst := way_fst (wn l0) (wn l1) (gainI l0 l1 gone whole) R G
  have hmem := way_mem (wn l0) (wn l1) (gainI l0 l1 gone whole) R G hG0
  have hsum := way_sum (wn l0) (wn l1) (gainI l0 l1 gone whole) R G hG0
  have hps : rollL l0 l1 gone whole = some_ (way (wn l0) (wn l1) (gainI l0 l1 gone whole) R G) := hway
  have hin : ∀ p ∈ way (wn l0) (wn l1) (gainI l0 l1 gone whole) R G, p.1 ∈ R := fun p hp => by rw [← hfst]; exact List.mem_map.2 ⟨p, hp, rfl⟩
  have hpos : ∀ p ∈ way (wn l0) (wn l1) (gainI l0 l1 gone whole) R G, 0 ≤ p.2 := fun p hp => by
    have h1 := hmem p hp
    have h2 := a0 p.1 (hin p hp)
    have h3 := b0 p.1 (hin p hp)
    by_cases h : wn l1 p.1 < wn l0 p.1
    · have := h1.1 h; omega
    · have := h1.2 h; have := hgn p.1; omega
  have hs100 : ((way (wn l0) (wn l1) (gainI l0 l1 gone whole) R G).map (·.2)).sum = 100 := by
    rw [hsum, asum]
    have e3 : (R.map fun n => if wn l1 n < wn l0 n then 0 else gainI l0 l1 gone whole n).sum = G := by
      rw [hG]
      congr 1
      refine List.map_congr_left (fun n _ => ?_)
      split
      · exact (hgz n (by omega)).symm
      · rfl
    rw [e3]
    omega
  refine ⟨⟨_, hfst, hps, hpos, hs100⟩, fun n hn' => ?_⟩
  obtain ⟨p, hp, rfl⟩ := List.mem_map.1 (show n ∈ (way (wn l0) (wn l1) (gainI l0 l1 gone whole) R G).map (·.1) by rw [hfst]; exact hn')
  have hw : wn (rollL l0 l1 gone whole) p.1 = p.2 := by rw [hps]; exact wt_some _ (by rw [hfst]; exact hn) hpos p hp
  rw [hw]
  refine ⟨(hmem p hp).1, fun h => ?_⟩
  rw [(hmem p hp).2 h]
  congr 1
  rw [hg]
  by_cases h' : wn l0 p.1 < wn l1 p.1
  · rw [if_pos h']
  · rw [if_neg h', show wn l1 p.1 - wn l0 p.1 = 0 by omega]; simp

end Go.Proofs.Ytdbikchddonjnaa.PA
