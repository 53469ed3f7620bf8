/- Rolling, in plain numbers: over any rising row of names that holds all that there are. -/
import Derived.Test.YtdbikchddonjnaaRollC
namespace Go.Proofs.Ytdbikchddonjnaa.PA
open Go.RowKit Go.Lib Go.Proofs.YtdbikchddonjnaaW.PrintWords

/-- Rising, none twice. -/
def Rising (R : List (List UInt8)) : Prop := R.Pairwise (fun x y => x < y)

theorem Rising.nodup {R : List (List UInt8)} (h : Rising R) : R.Nodup := List.Pairwise.imp (fun hlt e => by subst e; exact absurd hlt (List.lt_irrefl _)) h

theorem rising_same {L R : List (List UInt8)} (hL : Rising L) (hR : Rising R) (h : ∀ x, x ∈ L ↔ x ∈ R) : L = R :=
  List.Perm.eq_of_pairwise (le := fun x y => x < y) (fun _ _ _ _ h1 h2 => absurd (List.lt_trans h1 h2) (List.lt_irrefl _)) hL hR ((List.perm_ext_iff_of_nodup hL.nodup hR.nodup).2 h)

theorem sorted_le (l : List (List UInt8)) : (l.mergeSort leS).Pairwise (fun x y => x ≤ y) := by
  have := List.pairwise_mergeSort (le := leS) (fun a b c h1 h2 => by simp only [leS, decide_eq_true_eq] at *; exact List.le_trans h1 h2) (fun a b => by simp only [leS, Bool.or_eq_true, decide_eq_true_eq]; exact List.le_total a b) l
  exact this.imp (fun h => by simpa [leS] using h)

theorem compact_rising {l : List (List UInt8)} (h : l.Pairwise (fun x y => x ≤ y)) : Rising (compact l) := by
  unfold Rising compact compactUpTo
  rw [List.pairwise_map]
  have h1 : ((List.range l.length).filter (keeps l.toArray)).Pairwise (fun a b => a < b) := List.pairwise_lt_range.filter _
  have hat : ∀ i, i < l.length → l.toArray[i]! = l.getD i [] := fun i hi => by simp [List.getD_eq_getElem?_getD, hi]
  have hle : ∀ i j, i ≤ j → j < l.length → l.getD i [] ≤ l.getD j [] := fun i j hij hj => by
    rcases Nat.lt_or_ge i j with hlt | hge
    · have := List.pairwise_iff_getElem.1 h i j (by omega) hj hlt
      simpa [List.getD_eq_getElem?_getD, hj, show i < l.length by omega] using this
    · rw [show i = j by omega]; exact List.le_refl _
  refine List.Pairwise.imp_of_mem (fun {a b} ha hb hab => ?_) h1
  obtain ⟨ha1, ha2⟩ := List.mem_filter.1 ha
  obtain ⟨hb1, hb2⟩ := List.mem_filter.1 hb
  have ha' := List.mem_range.1 ha1
  have hb' := List.mem_range.1 hb1
  have hk : l.toArray[b]! ≠ l.toArray[b - 1]! := by
    have : b = 0 ∨ l.toArray[b]! ≠ l.toArray[b - 1]! := by simpa [keeps] using hb2
    rcases this with e | e
    · omega
    · exact e
  rw [hat b hb', hat (b - 1) (by omega)] at hk
  rw [hat a ha', hat b hb']
  have h2 := hle a (b - 1) (by omega) (by omega)
  have h3 := hle (b - 1) b (by omega) hb'
  refine List.not_le.1 (fun h4 => hk ?_)
  exact List.le_antisymm (List.le_trans h4 h2) h3

theorem mem_compact {l : List (List UInt8)} {x : List UInt8} : x ∈ compact l ↔ x ∈ l := by
  unfold compact compactUpTo
  have hat : ∀ i, i < l.length → l.toArray[i]! = l.getD i [] := fun i hi => by simp [List.getD_eq_getElem?_getD, hi]
  constructor
  · intro hx
    obtain ⟨i, hi, rfl⟩ := List.mem_map.1 hx
    have := List.mem_range.1 (List.mem_filter.1 hi).1
    rw [hat i this, List.getD_eq_getElem?_getD, List.getElem?_eq_getElem this]
    exact List.getElem_mem this
  · intro hx
    have key : ∀ n, ∀ i, i ≤ n → i < l.length → ∃ j, j < l.length ∧ keeps l.toArray j = true ∧ l.toArray[j]! = l.toArray[i]! := fun n => by
      induction n with
      | zero => exact fun i hi hl => ⟨i, hl, by simp [keeps]; omega, rfl⟩
      | succ n ih =>
        intro i hi hl
        by_cases e : keeps l.toArray i = true
        · exact ⟨i, hl, e, rfl⟩
        · have : ¬ (i = 0 ∨ l.toArray[i]! ≠ l.toArray[i - 1]!) := by simpa [keeps] using e
          obtain ⟨j, h1, h2, h3⟩ := ih (i - 1) (by omega) (by omega)
          exact ⟨j, h1, h2, h3.trans (by simpa using (not_or.1 this).2 |> fun h => (Classical.not_not.1 h).symm)⟩
    obtain ⟨i, hi, rfl⟩ := List.getElem_of_mem hx
    obtain ⟨j, h1, h2, h3⟩ := key i i (Nat.le_refl _) hi
    refine List.mem_map.2 ⟨j, List.mem_filter.2 ⟨List.mem_range.2 h1, h2⟩, ?_⟩
    rw [h3, hat i hi]
    simp [List.getD_eq_getElem?_getD, hi]

theorem names_rising (l : List S39) : Rising (namesOf l) := compact_rising (sorted_le _)
theorem mem_names {l : List S39} {x : List UInt8} : x ∈ namesOf l ↔ x ∈ keys l := by
  unfold namesOf
  rw [mem_compact]
  exact List.mem_mergeSort

theorem wt_none {l : List S39} {n : List UInt8} (h : n ∉ keys l) : wt l (bs n) = 0 := by
  induction l with
  | nil => rfl
  | cons s t ih =>
    have h1 : s.f0.toList ≠ n := fun e => h (by rw [keys, List.map_cons, e]; exact List.mem_cons_self)
    have h2 : (bs n).toList = n := by rw [ByteArray.toList_eq]; simp [bs]
    unfold wt
    rw [h2, if_neg h1]
    exact ih (fun h' => h (by rw [keys, List.map_cons]; exact List.mem_cons_of_mem _ h'))

section
variable (a b gn : List UInt8 → Int)
/-- Each name with what it weighs on the way. -/
def way : List (List UInt8) → Int → List (List UInt8 × Int)
  | [], _ => []
  | n :: t, g => if b n < a n then (n, a n - min (a n - b n) g) :: way t (g - min (a n - b n) g) else (n, a n + gn n) :: way t g
/-- Those that weigh something. -/
def some_ (l : List (List UInt8 × Int)) : List S39 := (l.filter (fun p => decide (0 < p.2))).map (fun p => ⟨bs p.1, p.2⟩)
end

theorem some_cons (n : List UInt8) (c : Int) (t : List (List UInt8 × Int)) : some_ ((n, c) :: t) = if 0 < c then ⟨bs n, c⟩ :: some_ t else some_ t := by
  unfold some_
  by_cases h : 0 < c
  · rw [if_pos h, List.filter_cons_of_pos (by simpa using h), List.map_cons]
  · rw [if_neg h, List.filter_cons_of_neg (by simpa using h)]

theorem fold_way (l0 l1 : List S39) (gone whole : Int) : ∀ (R : List (List UInt8)) (g : Int) (out : List S39),
    (R.foldl (stepR l0 l1 gone whole) (g, out)).2 = out ++ some_ (way (fun n => wt l0 (bs n)) (fun n => wt l1 (bs n)) (gainI l0 l1 gone whole) R g)
  | [], g, out => by simp [way, some_]
  | n :: t, g, out => by
    rw [List.foldl_cons]
    unfold way
    by_cases e : wt l1 (bs n) < wt l0 (bs n)
    · have e1 : dOf l0 l1 n < 0 := by unfold dOf; omega
      have e2 : -dOf l0 l1 n = wt l0 (bs n) - wt l1 (bs n) := by unfold dOf; omega
      rw [if_pos e, show stepR l0 l1 gone whole (g, out) n = (g - min (wt l0 (bs n) - wt l1 (bs n)) g, if 0 < wt l0 (bs n) - min (wt l0 (bs n) - wt l1 (bs n)) g then out ++ [⟨bs n, wt l0 (bs n) - min (wt l0 (bs n) - wt l1 (bs n)) g⟩] else out) from by unfold stepR; simp only [if_pos e1, e2], fold_way l0 l1 gone whole t]
      rw [some_cons]
      split <;> simp
    · have e1 : ¬ dOf l0 l1 n < 0 := by unfold dOf; omega
      rw [if_neg e, show stepR l0 l1 gone whole (g, out) n = (g, if 0 < wt l0 (bs n) + gainI l0 l1 gone whole n then out ++ [⟨bs n, wt l0 (bs n) + gainI l0 l1 gone whole n⟩] else out) from by unfold stepR; simp only [if_neg e1], fold_way l0 l1 gone whole t]
      rw [some_cons]
      split <;> simp

/-- Names that are in neither are no matter. -/
theorem fold_skip (l0 l1 : List S39) (gone whole : Int) (p : List UInt8 → Bool) : ∀ (R : List (List UInt8)) (s : Int × List S39), (∀ n ∈ R, p n = false → wt l0 (bs n) = 0 ∧ wt l1 (bs n) = 0) →
    (R.filter p).foldl (stepR l0 l1 gone whole) s = R.foldl (stepR l0 l1 gone whole) s
  | [], _, _ => rfl
  | n :: t, s, h => by
    have ih := fun s => fold_skip l0 l1 gone whole p t s (fun m hm => h m (List.mem_cons_of_mem _ hm))
    by_cases e : p n = true
    · rw [List.filter_cons_of_pos e, List.foldl_cons, List.foldl_cons, ih]
    · rw [List.filter_cons_of_neg e, List.foldl_cons, ih]
      obtain ⟨h0, h1⟩ := h n List.mem_cons_self (by simpa using e)
      congr 1
      unfold stepR gainI dOf
      rw [h0, h1]
      simp

theorem gains_skip (l0 l1 : List S39) (gone whole : Int) (p : List UInt8 → Bool) : ∀ (R : List (List UInt8)), (∀ n ∈ R, p n = false → wt l0 (bs n) = 0 ∧ wt l1 (bs n) = 0) →
    (gains l0 l1 gone whole (R.filter p)).sum = (gains l0 l1 gone whole R).sum
  | [], _ => rfl
  | n :: t, h => by
    have ih := gains_skip l0 l1 gone whole p t (fun m hm => h m (List.mem_cons_of_mem _ hm))
    unfold gains at *
    by_cases e : p n = true
    · rw [List.filter_cons_of_pos e, List.map_cons, List.map_cons, List.sum_cons, List.sum_cons, ih]
    · rw [List.filter_cons_of_neg e, List.map_cons, List.sum_cons, ih]
      obtain ⟨h0, h1⟩ := h n List.mem_cons_self (by simpa using e)
      unfold gainI dOf
      rw [h0, h1]
      simp

theorem names_filter {R : List (List UInt8)} (hR : Rising R) {l : List S39} (h : ∀ n ∈ keys l, n ∈ R) : namesOf l = R.filter (fun n => decide (n ∈ keys l)) :=
  rising_same (names_rising l) (hR.filter _) (fun x => by
    rw [mem_names, List.mem_filter, decide_eq_true_eq]
    exact ⟨fun hx => ⟨h x hx, hx⟩, fun hx => hx.2⟩)

/-- The Shares on the way, over any rising row of names that holds all. -/
theorem rollL_way {R : List (List UInt8)} (hR : Rising R) {l0 l1 : List S39} (h0 : ∀ n ∈ keys l0, n ∈ R) (h1 : ∀ n ∈ keys l1, n ∈ R) {gone whole : Int} (g0 : 0 < gone) (g1 : gone < whole) :
    rollL l0 l1 gone whole = some_ (way (fun n => wt l0 (bs n)) (fun n => wt l1 (bs n)) (gainI l0 l1 gone whole) R (gains l0 l1 gone whole R).sum) := by
  have hk : ∀ n, n ∈ keys (l0 ++ l1) ↔ n ∈ keys l0 ∨ n ∈ keys l1 := fun n => by unfold keys; rw [List.map_append, List.mem_append]
  have hs : ∀ n ∈ R, decide (n ∈ keys (l0 ++ l1)) = false → wt l0 (bs n) = 0 ∧ wt l1 (bs n) = 0 := fun n _ hn => by
    rw [decide_eq_false_iff_not, hk] at hn
    exact ⟨wt_none (fun h => hn (.inl h)), wt_none (fun h => hn (.inr h))⟩
  unfold rollL
  rw [if_neg (by omega), if_neg (by omega), names_filter hR (fun n hn => ((hk n).1 hn).elim (h0 n) (h1 n)), fold_skip l0 l1 gone whole _ R _ hs, gains_skip l0 l1 gone whole _ R hs, fold_way]
  rfl

end Go.Proofs.Ytdbikchddonjnaa.PA
