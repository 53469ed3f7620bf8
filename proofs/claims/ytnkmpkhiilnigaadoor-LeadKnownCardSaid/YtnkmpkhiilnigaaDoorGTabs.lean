/- roll.Shares, whatever the time. And what the print wants. -/
import Derived.Test.YtnkmpkhiilnigaaDoorGSound
namespace Go.Proofs.YtnkmpkhiilnigaaDoor.PA
open Go.RowKit Go.Shelf Go.Lib Go.Sort Go.Proofs.YtnkmpkhiilnigaaDoorW.PrintWords Go.Proofs.YtnkmpkhiilnigaaDoorW.PrintLast

theorem shares_calls (A0 : Option Addr) (c0 : Nat) (l0 : List S45) (A1 : Option Addr) (c1 : Nat) (l1 : List S45) (gone whole : Int) (w : World) (hr0 : Kd.C k45 w A0 l0.length l0) (hr1 : Kd.C k45 w A1 l1.length l1)
    (hf0 : Fine l0) (hf1 : Fine l1) (hw : whole ≤ 1000000000) :
    Calls Tryd.prog 29 #[.slice A0 l0.length c0, .slice A1 l1.length c1, .int .i64 gone, .int .i64 whole] w fun e w' => ∃ v, e = .returned v ∧ RowG el45 w' w.heap.size v (rollL l0 l1 gone whole) ∧ Below w.heap.size w w' := by
  by_cases e1 : whole ≤ 0
  · have hu : rollL l0 l1 gone whole = l1 := by unfold rollL; rw [if_pos (.inl e1)]
    rw [hu]; clear hu
    have HC := Lib.hid (clone_calls A1 c1 l1 w hr1 (by have := hf1.1; omega))
    clear hr0 hr1 hf0 hf1
    go_enter Tryd.func29, Tryd.ntmps29
    go_wp2_with fail
    refine HC.out.mono ?_
    rintro e w1 ⟨v, rfl, h1, h2⟩
    go_wp2_with fail
    go_ret
    exact ⟨_, rfl, h1, h2⟩
  · by_cases e2 : whole ≤ gone
    · have hu : rollL l0 l1 gone whole = l1 := by unfold rollL; rw [if_pos (.inr e2)]
      rw [hu]; clear hu
      have HC := Lib.hid (clone_calls A1 c1 l1 w hr1 (by have := hf1.1; omega))
      clear hr0 hr1 hf0 hf1
      go_enter Tryd.func29, Tryd.ntmps29
      go_wp2_with fail
      refine HC.out.mono ?_
      rintro e w1 ⟨v, rfl, h1, h2⟩
      go_wp2_with fail
      go_ret
      exact ⟨_, rfl, h1, h2⟩
    · by_cases e3 : gone ≤ 0
      · have hu : rollL l0 l1 gone whole = l0 := by unfold rollL; rw [if_neg (by omega), if_pos e3]
        rw [hu]; clear hu
        have HC := Lib.hid (clone_calls A0 c0 l0 w hr0 (by have := hf0.1; omega))
        clear hr0 hr1 hf0 hf1
        go_enter Tryd.func29, Tryd.ntmps29
        go_wp2_with fail
        refine HC.out.mono ?_
        rintro e w1 ⟨v, rfl, h1, h2⟩
        go_wp2_with fail
        go_ret
        exact ⟨_, rfl, h1, h2⟩
      · have hu : rollL l0 l1 gone whole = ((namesOf (l0 ++ l1)).foldl (stepR l0 l1 gone whole) ((gains l0 l1 gone whole (namesOf (l0 ++ l1))).sum, [])).2 := by unfold rollL; rw [if_neg (by omega), if_neg e3]
        rw [hu]
        exact shares_way A0 c0 l0 A1 c1 l1 gone whole w hr0 hr1 hf0 hf1 (by omega) (by omega) hw _ rfl _ rfl

def fineB (l : List S45) : Bool := decide (l.length ≤ 1000) && l.all (fun s => decide (0 ≤ s.f1) && decide (s.f1 ≤ 1000))
theorem fineB_iff {l : List S45} : fineB l = true ↔ Fine l := by
  unfold fineB Fine
  simp only [Bool.and_eq_true, decide_eq_true_eq, List.all_eq_true]

def soundB (l : List S45) : Bool := l.all (fun s => decide (1 ≤ s.f1) && decide (s.f1 ≤ 100)) && decide ((keys l).Pairwise (fun x y => Op.bytesLess x y = true)) && decide ((l.map (·.f1)).sum = 100)
theorem soundB_iff {l : List S45} : soundB l = true ↔ SoundL l := by
  unfold soundB
  simp only [Bool.and_eq_true, decide_eq_true_eq, List.all_eq_true]
  exact ⟨fun h => ⟨h.1.1, h.1.2, h.2⟩, fun h => ⟨⟨h.one, h.names⟩, h.sum⟩⟩

end Go.Proofs.YtnkmpkhiilnigaaDoor.PA

/- Rolling, in plain numbers: over any rising row of names that holds all that there are. -/
namespace Go.Proofs.YtnkmpkhiilnigaaDoor.PA
open Go.RowKit Go.Lib Go.Proofs.YtnkmpkhiilnigaaDoorW.PrintWords

/-- Rising, none twice. -/
def Rising (R : List (List UInt8)) : Prop := R.Pairwise (fun x y => x < y)

theorem Rising.nodup {R : List (List UInt8)} (h : Rising R) : R.Nodup := List.Pairwise.imp (fun hlt e => by subst e; exact absurd hlt (List.lt_irrefl _)) h

theorem rising_same {L R : List (List UInt8)} (hL : Rising L) (hR : Rising R) (h : ∀ x, x ∈ L ↔ x ∈ R) : L = R :=
  List.Perm.eq_of_pairwise (le := fun x y => x < y) (fun _ _ _ _ h1 h2 => absurd (List.lt_trans h1 h2) (List.lt_irrefl _)) hL hR ((List.perm_ext_iff_of_nodup hL.nodup hR.nodup).2 h)

theorem sorted_le (l : List (List UInt8)) : (l.mergeSort leS).Pairwise (fun x y => x ≤ y) := by
  have := List.pairwise_mergeSort (le := leS) (fun a b c h1 h2 => by simp only [leS, decide_eq_true_eq] at *; exact List.le_trans h1 h2) (fun a b => by simp only [leS, Bool.or_eq_true, decide_eq_true_eq]; exact List.le_total a b) l
  exact this.imp (fun h => by simpa [leS] using h)

theorem compact_rising {l : List (List UInt8)} (h : l.Pairwise (fun x y => x ≤ y)) : Rising (compact l) := by
  unfold Rising compact compactUpTo
  rw [List.pairwise_map]
  have h1 : ((List.range l.length).filter (keeps l.toArray)).Pairwise (fun a b => a < b) := List.pairwise_lt_range.filter _
  have hat : ∀ i, i < l.length → l.toArray[i]! = l.getD i [] := fun i hi => by simp [List.getD_eq_getElem?_getD, hi]
  have hle : ∀ i j, i ≤ j → j < l.length → l.getD i [] ≤ l.getD j [] := fun i j hij hj => by
    rcases Nat.lt_or_ge i j with hlt | hge
    · have := List.pairwise_iff_getElem.1 h i j (by omega) hj hlt
      simpa [List.getD_eq_getElem?_getD, hj, show i < l.length by omega] using this
    · rw [show i = j by omega]; exact List.le_refl _
  refine List.Pairwise.imp_of_mem (fun {a b} ha hb hab => ?_) h1
  obtain ⟨ha1, ha2⟩ := List.mem_filter.1 ha
  obtain ⟨hb1, hb2⟩ := List.mem_filter.1 hb
  have ha' := List.mem_range.1 ha1
  have hb' := List.mem_range.1 hb1
  have hk : l.toArray[b]! ≠ l.toArray[b - 1]! := by
    have : b = 0 ∨ l.toArray[b]! ≠ l.toArray[b - 1]! := by simpa [keeps] using hb2
    rcases this with e | e
    · omega
    · exact e
  rw [hat b hb', hat (b - 1) (by omega)] at hk
  rw [hat a ha', hat b hb']
  have h2 := hle a (b - 1) (by omega) (by omega)
  have h3 := hle (b - 1) b (by omega) hb'
  refine List.not_le.1 (fun h4 => hk ?_)
  exact List.le_antisymm (List.le_trans h4 h2) h3

theorem mem_compact {l : List (List UInt8)} {x : List UInt8} : x ∈ compact l ↔ x ∈ l := by
  unfold compact compactUpTo
  have hat : ∀ i, i < l.length → l.toArray[i]! = l.getD i [] := fun i hi => by simp [List.getD_eq_getElem?_getD, hi]
  constructor
  · intro hx
    obtain ⟨i, hi, rfl⟩ := List.mem_map.1 hx
    have := List.mem_range.1 (List.mem_filter.1 hi).1
    rw [hat i this, List.getD_eq_getElem?_getD, List.getElem?_eq_getElem this]
    exact List.getElem_mem this
  · intro hx
    have key : ∀ n, ∀ i, i ≤ n → i < l.length → ∃ j, j < l.length ∧ keeps l.toArray j = true ∧ l.toArray[j]! = l.toArray[i]! := fun n => by
      induction n with
      | zero => exact fun i hi hl => ⟨i, hl, by simp [keeps]; omega, rfl⟩
      | succ n ih =>
        intro i hi hl
        by_cases e : keeps l.toArray i = true
        · exact ⟨i, hl, e, rfl⟩
        · have : ¬ (i = 0 ∨ l.toArray[i]! ≠ l.toArray[i - 1]!) := by simpa [keeps] using e
          obtain ⟨j, h1, h2, h3⟩ := ih (i - 1) (by omega) (by omega)
          exact ⟨j, h1, h2, h3.trans (by simpa using (not_or.1 this).2 |> fun h => (Classical.not_not.1 h).symm)⟩
    obtain ⟨i, hi, rfl⟩ := List.getElem_of_mem hx
    obtain ⟨j, h1, h2, h3⟩ := key i i (Nat.le_refl _) hi
    refine List.mem_map.2 ⟨j, List.mem_filter.2 ⟨List.mem_range.2 h1, h2⟩, ?_⟩
    rw [h3, hat i hi]
    simp [List.getD_eq_getElem?_getD, hi]

theorem names_rising (l : List S45) : Rising (namesOf l) := compact_rising (sorted_le _)
theorem mem_names {l : List S45} {x : List UInt8} : x ∈ namesOf l ↔ x ∈ keys l := by
  unfold namesOf
  rw [mem_compact]
  exact List.mem_mergeSort

theorem wt_none {l : List S45} {n : List UInt8} (h : n ∉ keys l) : wt l (bs n) = 0 := by
  induction l with
  | nil => rfl
  | cons s t ih =>
    have h1 : s.f0.toList ≠ n := fun e => h (by rw [keys, List.map_cons, e]; exact List.mem_cons_self)
    have h2 : (bs n).toList = n := by rw [ByteArray.toList_eq]; simp [bs]
    unfold wt
    rw [h2, if_neg h1]
    exact ih (fun h' => h (by rw [keys, List.map_cons]; exact List.mem_cons_of_mem _ h'))

section
variable (a b gn : List UInt8 → Int)
/-- Each name with what it weighs on the way. -/
def way : List (List UInt8) → Int → List (List UInt8 × Int)
  | [], _ => []
  | n :: t, g => if b n < a n then (n, a n - min (a n - b n) g) :: way t (g - min (a n - b n) g) else (n, a n + gn n) :: way t g
/-- Those that weigh something. -/
def some_ (l : List (List UInt8 × Int)) : List S45 := (l.filter (fun p => decide (0 < p.2))).map (fun p => ⟨bs p.1, p.2⟩)
end

theorem some_cons (n : List UInt8) (c : Int) (t : List (List UInt8 × Int)) : some_ ((n, c) :: t) = if 0 < c then ⟨bs n, c⟩ :: some_ t else some_ t := by
  unfold some_
  by_cases h : 0 < c
  · rw [if_pos h, List.filter_cons_of_pos (by simpa using h), List.map_cons]
  · rw [if_neg h, List.filter_cons_of_neg (by simpa using h)]

theorem fold_way (l0 l1 : List S45) (gone whole : Int) : ∀ (R : List (List UInt8)) (g : Int) (out : List S45),
    (R.foldl (stepR l0 l1 gone whole) (g, out)).2 = out ++ some_ (way (fun n => wt l0 (bs n)) (fun n => wt l1 (bs n)) (gainI l0 l1 gone whole) R g)
  | [], g, out => by simp [way, some_]
  | n :: t, g, out => by
    rw [List.foldl_cons]
    unfold way
    by_cases e : wt l1 (bs n) < wt l0 (bs n)
    · have e1 : dOf l0 l1 n < 0 := by unfold dOf; omega
      have e2 : -dOf l0 l1 n = wt l0 (bs n) - wt l1 (bs n) := by unfold dOf; omega
      rw [if_pos e, show stepR l0 l1 gone whole (g, out) n = (g - min (wt l0 (bs n) - wt l1 (bs n)) g, if 0 < wt l0 (bs n) - min (wt l0 (bs n) - wt l1 (bs n)) g then out ++ [⟨bs n, wt l0 (bs n) - min (wt l0 (bs n) - wt l1 (bs n)) g⟩] else out) from by unfold stepR; simp only [if_pos e1, e2], fold_way l0 l1 gone whole t]
      rw [some_cons]
      split <;> simp
    · have e1 : ¬ dOf l0 l1 n < 0 := by unfold dOf; omega
      rw [if_neg e, show stepR l0 l1 gone whole (g, out) n = (g, if 0 < wt l0 (bs n) + gainI l0 l1 gone whole n then out ++ [⟨bs n, wt l0 (bs n) + gainI l0 l1 gone whole n⟩] else out) from by unfold stepR; simp only [if_neg e1], fold_way l0 l1 gone whole t]
      rw [some_cons]
      split <;> simp

/-- Names that are in neither are no matter. -/
theorem fold_skip (l0 l1 : List S45) (gone whole : Int) (p : List UInt8 → Bool) : ∀ (R : List (List UInt8)) (s : Int × List S45), (∀ n ∈ R, p n = false → wt l0 (bs n) = 0 ∧ wt l1 (bs n) = 0) →
    (R.filter p).foldl (stepR l0 l1 gone whole) s = R.foldl (stepR l0 l1 gone whole) s
  | [], _, _ => rfl
  | n :: t, s, h => by
    have ih := fun s => fold_skip l0 l1 gone whole p t s (fun m hm => h m (List.mem_cons_of_mem _ hm))
    by_cases e : p n = true
    · rw [List.filter_cons_of_pos e, List.foldl_cons, List.foldl_cons, ih]
    · rw [List.filter_cons_of_neg e, List.foldl_cons, ih]
      obtain ⟨h0, h1⟩ := h n List.mem_cons_self (by simpa using e)
      congr 1
      unfold stepR gainI dOf
      rw [h0, h1]
      simp

theorem gains_skip (l0 l1 : List S45) (gone whole : Int) (p : List UInt8 → Bool) : ∀ (R : List (List UInt8)), (∀ n ∈ R, p n = false → wt l0 (bs n) = 0 ∧ wt l1 (bs n) = 0) →
    (gains l0 l1 gone whole (R.filter p)).sum = (gains l0 l1 gone whole R).sum
  | [], _ => rfl
  | n :: t, h => by
    have ih := gains_skip l0 l1 gone whole p t (fun m hm => h m (List.mem_cons_of_mem _ hm))
    unfold gains at *
    by_cases e : p n = true
    · rw [List.filter_cons_of_pos e, List.map_cons, List.map_cons, List.sum_cons, List.sum_cons, ih]
    · rw [List.filter_cons_of_neg e, List.map_cons, List.sum_cons, ih]
      obtain ⟨h0, h1⟩ := h n List.mem_cons_self (by simpa using e)
      unfold gainI dOf
      rw [h0, h1]
      simp

theorem names_filter {R : List (List UInt8)} (hR : Rising R) {l : List S45} (h : ∀ n ∈ keys l, n ∈ R) : namesOf l = R.filter (fun n => decide (n ∈ keys l)) :=
  rising_same (names_rising l) (hR.filter _) (fun x => by
    rw [mem_names, List.mem_filter, decide_eq_true_eq]
    exact ⟨fun hx => ⟨h x hx, hx⟩, fun hx => hx.2⟩)

/-- The Shares on the way, over any rising row of names that holds all. -/
theorem rollL_way {R : List (List UInt8)} (hR : Rising R) {l0 l1 : List S45} (h0 : ∀ n ∈ keys l0, n ∈ R) (h1 : ∀ n ∈ keys l1, n ∈ R) {gone whole : Int} (g0 : 0 < gone) (g1 : gone < whole) :
    rollL l0 l1 gone whole = some_ (way (fun n => wt l0 (bs n)) (fun n => wt l1 (bs n)) (gainI l0 l1 gone whole) R (gains l0 l1 gone whole R).sum) := by
  have hk : ∀ n, n ∈ keys (l0 ++ l1) ↔ n ∈ keys l0 ∨ n ∈ keys l1 := fun n => by unfold keys; rw [List.map_append, List.mem_append]
  have hs : ∀ n ∈ R, decide (n ∈ keys (l0 ++ l1)) = false → wt l0 (bs n) = 0 ∧ wt l1 (bs n) = 0 := fun n _ hn => by
    rw [decide_eq_false_iff_not, hk] at hn
    exact ⟨wt_none (fun h => hn (.inl h)), wt_none (fun h => hn (.inr h))⟩
  unfold rollL
  rw [if_neg (by omega), if_neg (by omega), names_filter hR (fun n hn => ((hk n).1 hn).elim (h0 n) (h1 n)), fold_skip l0 l1 gone whole _ R _ hs, gains_skip l0 l1 gone whole _ R hs, fold_way]
  rfl

end Go.Proofs.YtnkmpkhiilnigaaDoor.PA

/- Tables over a rising row of names; on the way from one to another. Plain. -/
namespace Go.Proofs.YtnkmpkhiilnigaaDoor.PA
open Go.RowKit Go.Lib Go.Proofs.YtnkmpkhiilnigaaDoorW.PrintWords

theorem bs_inj {n m : List UInt8} (h : (bs n).toList = (bs m).toList) : n = m := by
  rw [ByteArray.toList_eq, ByteArray.toList_eq] at h
  simpa [bs] using h

theorem keys_some (ps : List (List UInt8 × Int)) : ∀ n, n ∈ keys (some_ ps) → n ∈ ps.map (·.1) := fun n hn => by
  obtain ⟨s, hs, rfl⟩ := List.mem_map.1 hn
  obtain ⟨p, hp, rfl⟩ := List.mem_map.1 hs
  have : (bs p.1).toList = p.1 := by rw [ByteArray.toList_eq]; simp [bs]
  show (bs p.1).toList ∈ _
  rw [this]
  exact List.mem_map.2 ⟨p, (List.mem_filter.1 hp).1, rfl⟩

theorem wt_cons (s : S45) (t : List S45) (r : ByteArray) : wt (s :: t) r = if s.f0.toList = r.toList then s.f1 else wt t r := rfl

theorem wt_some : ∀ (ps : List (List UInt8 × Int)), (ps.map (·.1)).Nodup → (∀ p ∈ ps, 0 ≤ p.2) → ∀ p ∈ ps, wt (some_ ps) (bs p.1) = p.2
  | [], _, _, p, hp => by cases hp
  | q :: t, hn, h0, p, hp => by
    obtain ⟨n, c⟩ := q
    rw [List.map_cons, List.nodup_cons] at hn
    have ih := wt_some t hn.2 (fun p hp => h0 p (List.mem_cons_of_mem _ hp))
    have hc : 0 ≤ c := h0 (n, c) List.mem_cons_self
    have hno : ∀ m, m ∉ t.map (·.1) → wt (some_ t) (bs m) = 0 := fun m hm => wt_none (fun h => hm (keys_some t m h))
    rw [some_cons]
    rcases List.mem_cons.1 hp with rfl | hp'
    · by_cases h : 0 < c
      · rw [if_pos h, wt_cons, if_pos rfl]
      · rw [if_neg h, hno n hn.1]; show 0 = c; omega
    · by_cases h : 0 < c
      · rw [if_pos h, wt_cons, if_neg (fun e => hn.1 (by have := bs_inj e; subst this; exact List.mem_map.2 ⟨p, hp', rfl⟩))]
        exact ih p hp'
      · rw [if_neg h]; exact ih p hp'

/-- A table over the names R: each with its weight, a hundred in all. -/
def Tab (R : List (List UInt8)) (l : List S45) : Prop := ∃ ps : List (List UInt8 × Int), ps.map (·.1) = R ∧ l = some_ ps ∧ (∀ p ∈ ps, 0 ≤ p.2) ∧ (ps.map (·.2)).sum = 100

/-- What n weighs. -/
def wn (l : List S45) (n : List UInt8) : Int := wt l (bs n)

theorem Tab.canon {R : List (List UInt8)} {l : List S45} (hR : R.Nodup) (h : Tab R l) : l = some_ (R.map fun n => (n, wn l n)) ∧ (∀ n ∈ R, 0 ≤ wn l n) ∧ (R.map (wn l)).sum = 100 ∧ (∀ n ∈ keys l, n ∈ R) := by
  obtain ⟨ps, rfl, rfl, h0, hs⟩ := h
  have hw : ∀ p ∈ ps, wn (some_ ps) p.1 = p.2 := wt_some ps hR h0
  have e1 : (ps.map (·.1)).map (fun n => (n, wn (some_ ps) n)) = ps := by
    rw [List.map_map]
    conv => rhs; rw [← List.map_id ps]
    exact List.map_congr_left (fun p hp => by show (p.1, wn (some_ ps) p.1) = p; rw [hw p hp])
  have e2 : (ps.map (·.1)).map (wn (some_ ps)) = ps.map (·.2) := by
    rw [List.map_map]
    exact List.map_congr_left (fun p hp => hw p hp)
  refine ⟨by rw [e1], fun n hn => ?_, by rw [e2]; exact hs, fun n hn => keys_some ps n hn⟩
  obtain ⟨p, hp, rfl⟩ := List.mem_map.1 hn
  rw [hw p hp]; exact h0 p hp

theorem Tab.mk' {R : List (List UInt8)} {c : List UInt8 → Int} (h0 : ∀ n ∈ R, 0 ≤ c n) (hs : (R.map c).sum = 100) : Tab R (some_ (R.map fun n => (n, c n))) :=
  ⟨_, by rw [List.map_map]; exact List.map_id R, rfl, fun p hp => by obtain ⟨n, hn, rfl⟩ := List.mem_map.1 hp; exact h0 n hn, by rw [List.map_map]; exact hs⟩

theorem sum_le {α : Type} (f : α → Int) : ∀ (l : List α), (∀ x ∈ l, 0 ≤ f x) → 0 ≤ (l.map f).sum ∧ ∀ x ∈ l, f x ≤ (l.map f).sum
  | [], _ => ⟨by simp, fun x hx => by cases hx⟩
  | y :: t, h => by
    have ih := sum_le f t (fun x hx => h x (List.mem_cons_of_mem _ hx))
    have hy := h y List.mem_cons_self
    rw [List.map_cons, List.sum_cons]
    refine ⟨by omega, fun x hx => ?_⟩
    rcases List.mem_cons.1 hx with rfl | hx
    · omega
    · have := ih.2 x hx; omega

theorem Tab.bound {R : List (List UInt8)} {l : List S45} (hR : R.Nodup) (h : Tab R l) : ∀ n ∈ R, 0 ≤ wn l n ∧ wn l n ≤ 100 := fun n hn => by
  obtain ⟨_, h0, hs, _⟩ := h.canon hR
  have := (sum_le (wn l) R h0).2 n hn
  exact ⟨h0 n hn, by omega⟩

theorem Tab.mem {R : List (List UInt8)} {l : List S45} (h : Tab R l) : ∀ s ∈ l, 1 ≤ s.f1 ∧ s.f1 ≤ 100 ∧ ∃ n ∈ R, s.f0 = bs n := fun s hs => by
  obtain ⟨ps, rfl, rfl, h0, hsum⟩ := h
  obtain ⟨p, hp, rfl⟩ := List.mem_map.1 hs
  obtain ⟨hp1, hp2⟩ := List.mem_filter.1 hp
  have := (sum_le (fun q : List UInt8 × Int => q.2) ps h0).2 p hp1
  have h2 : (ps.map (fun q : List UInt8 × Int => q.2)).sum = 100 := hsum
  have h3 : 0 < p.2 := by simpa using hp2
  exact ⟨by show 1 ≤ p.2; omega, by show p.2 ≤ 100; omega, p.1, List.mem_map.2 ⟨p, hp1, rfl⟩, rfl⟩

theorem Tab.len {R : List (List UInt8)} {l : List S45} (h : Tab R l) : l.length ≤ R.length := by
  obtain ⟨ps, rfl, rfl, _, _⟩ := h
  unfold some_
  rw [List.length_map, List.length_map]
  exact List.length_filter_le _ _

theorem Tab.fine {R : List (List UInt8)} {l : List S45} (h : Tab R l) (hl : R.length ≤ 1000) : Fine l :=
  ⟨Nat.le_trans h.len hl, fun s hs => by have := h.mem s hs; omega⟩

/-- .. as the document's Sound has it. -/
theorem Tab.sound {R : List (List UInt8)} {l : List S45} (hB : R.Pairwise (fun x y => Op.bytesLess x y = true)) (h : Tab R l) : SoundL l := by
  have hm := h.mem
  obtain ⟨ps, rfl, rfl, h0, hsum⟩ := h
  refine ⟨fun s hs => by have := hm s hs; omega, ?_, ?_⟩
  · have e : keys (some_ ps) = (ps.filter (fun p => decide (0 < p.2))).map (·.1) := by
      unfold keys some_
      rw [List.map_map]
      exact List.map_congr_left (fun p _ => by show (bs p.1).toList = p.1; rw [ByteArray.toList_eq]; simp [bs])
    rw [e]
    exact hB.sublist (List.filter_sublist.map _)
  · have : ∀ ps : List (List UInt8 × Int), (∀ p ∈ ps, 0 ≤ p.2) → ((some_ ps).map (·.f1)).sum = (ps.map (·.2)).sum := fun ps => by
      induction ps with
      | nil => intro _; rfl
      | cons q t ih =>
        intro h
        obtain ⟨n, c⟩ := q
        have hc := h (n, c) List.mem_cons_self
        have := ih (fun p hp => h p (List.mem_cons_of_mem _ hp))
        rw [some_cons, List.map_cons, List.sum_cons]
        split
        · rw [List.map_cons, List.sum_cons, this]
        · rw [this]; show _ = c + _; have : 0 ≤ c := hc; omega
    rw [this ps h0]
    exact hsum

section
variable (a b gn : List UInt8 → Int)

theorem way_fst : ∀ (R : List (List UInt8)) (g : Int), (way a b gn R g).map (·.1) = R
  | [], _ => rfl
  | n :: t, g => by
    unfold way
    split <;> rw [List.map_cons, way_fst t]

/-- What is to be lost in all. -/
def loss (R : List (List UInt8)) : Int := (R.map fun n => if b n < a n then a n - b n else 0).sum

theorem loss_nonneg (R : List (List UInt8)) : 0 ≤ loss a b R := (sum_le _ R (fun n _ => by split <;> omega)).1

theorem way_sum : ∀ (R : List (List UInt8)) (g : Int), 0 ≤ g → ((way a b gn R g).map (·.2)).sum = (R.map a).sum + (R.map fun n => if b n < a n then 0 else gn n).sum - min (loss a b R) g
  | [], g, hg => by simp [way, loss]; omega
  | n :: t, g, hg => by
    have hl := loss_nonneg a b t
    unfold way
    have e : loss a b (n :: t) = (if b n < a n then a n - b n else 0) + loss a b t := by unfold loss; rw [List.map_cons, List.sum_cons]
    rw [e]
    by_cases h : b n < a n
    · simp only [if_pos h, List.map_cons, List.sum_cons]
      rw [way_sum t _ (by omega)]
      omega
    · simp only [if_neg h, List.map_cons, List.sum_cons]
      rw [way_sum t _ hg]
      omega

theorem way_mem : ∀ (R : List (List UInt8)) (g : Int), 0 ≤ g → ∀ p ∈ way a b gn R g, (b p.1 < a p.1 → b p.1 ≤ p.2 ∧ p.2 ≤ a p.1) ∧ (¬ b p.1 < a p.1 → p.2 = a p.1 + gn p.1)
  | [], g, _, p, hp => by cases hp
  | n :: t, g, hg, p, hp => by
    unfold way at hp
    by_cases h : b n < a n
    · rw [if_pos h] at hp
      rcases List.mem_cons.1 hp with rfl | hp
      · exact ⟨fun _ => by show b n ≤ a n - min (a n - b n) g ∧ a n - min (a n - b n) g ≤ a n; omega, fun h' => absurd h h'⟩
      · exact way_mem t _ (by omega) p hp
    · rw [if_neg h] at hp
      rcases List.mem_cons.1 hp with rfl | hp
      · exact ⟨fun h' => absurd h' h, fun _ => rfl⟩
      · exact way_mem t _ hg p hp
end

theorem sum_add {α : Type} (f g : α → Int) : ∀ l : List α, (l.map fun x => f x + g x).sum = (l.map f).sum + (l.map g).sum
  | [] => by simp
  | x :: t => by simp only [List.map_cons, List.sum_cons]; rw [sum_add f g t]; omega
theorem sum_mono {α : Type} (f g : α → Int) : ∀ l : List α, (∀ x ∈ l, f x ≤ g x) → (l.map f).sum ≤ (l.map g).sum
  | [], _ => by simp
  | x :: t, h => by
    have := sum_mono f g t (fun y hy => h y (List.mem_cons_of_mem _ hy))
    have := h x List.mem_cons_self
    simp only [List.map_cons, List.sum_cons]; omega

/-- A table on the way to another is a table; each weight is between the two; what grows has its part. -/
theorem roll_tab {R : List (List UInt8)} (hR : Rising R) {l0 l1 : List S45} (h0 : Tab R l0) (h1 : Tab R l1) {gone whole : Int} (g0 : 0 < gone) (g1 : gone < whole) :
    Tab R (rollL l0 l1 gone whole) ∧ ∀ n ∈ R, (wn l1 n < wn l0 n → wn l1 n ≤ wn (rollL l0 l1 gone whole) n ∧ wn (rollL l0 l1 gone whole) n ≤ wn l0 n) ∧ (¬ wn l1 n < wn l0 n → wn (rollL l0 l1 gone whole) n = wn l0 n + (wn l1 n - wn l0 n) * gone / whole) := by
  have hn := hR.nodup
  obtain ⟨_, a0, asum, ak⟩ := h0.canon hn
  obtain ⟨_, b0, bsum, bk⟩ := h1.canon hn
  have hg : ∀ n, gainI l0 l1 gone whole n = if wn l0 n < wn l1 n then (wn l1 n - wn l0 n) * gone / whole else 0 := fun n => by
    unfold gainI dOf wn
    by_cases h : wt l0 (bs n) < wt l1 (bs n)
    · rw [if_pos (by omega), if_pos h]
    · rw [if_neg (by omega), if_neg h]
  have hgb : ∀ n, wn l0 n < wn l1 n → 0 ≤ gainI l0 l1 gone whole n ∧ gainI l0 l1 gone whole n ≤ wn l1 n - wn l0 n := fun n h => by
    rw [hg, if_pos h]
    exact ⟨Int.ediv_nonneg (Int.mul_nonneg (by omega) (by omega)) (by omega), Int.ediv_le_of_le_mul (by omega) (Int.mul_le_mul_of_nonneg_left (by omega) (by omega))⟩
  have hgz : ∀ n, ¬ wn l0 n < wn l1 n → gainI l0 l1 gone whole n = 0 := fun n h => by rw [hg, if_neg h]
  have hgn : ∀ n, 0 ≤ gainI l0 l1 gone whole n := fun n => by
    by_cases h : wn l0 n < wn l1 n
    · exact (hgb n h).1
    · rw [hgz n h]; exact Int.le_refl _
  have hway := rollL_way hR ak bk g0 g1
  obtain ⟨G, hG⟩ : ∃ G, G = (gains l0 l1 gone whole R).sum := ⟨_, rfl⟩
  have hG0 : 0 ≤ G := by rw [hG]; exact (sum_le _ R (fun n _ => hgn n)).1
  have hG1 : G ≤ loss (wn l0) (wn l1) R := by
    have e : (R.map (gainI l0 l1 gone whole)).sum ≤ (R.map fun n => (if wn l1 n < wn l0 n then wn l0 n - wn l1 n else 0) + (wn l1 n - wn l0 n)).sum := sum_mono _ _ R (fun n _ => by
      by_cases h : wn l0 n < wn l1 n
      · have := (hgb n h).2; rw [if_neg (by omega)]; omega
      · rw [hgz n h]; split <;> omega)
    rw [sum_add] at e
    have e2 : (R.map fun n => wn l1 n - wn l0 n).sum = 0 := by
      have := sum_add (wn l0) (fun n => wn l1 n - wn l0 n) R
      rw [show (fun x => wn l0 x + (wn l1 x - wn l0 x)) = wn l1 from by funext x; omega] at this
      omega
    rw [e2] at e
    rw [hG]
    show (R.map (gainI l0 l1 gone whole)).sum ≤ (R.map fun n => if wn l1 n < wn l0 n then wn l0 n - wn l1 n else 0).sum
    omega
  rw [← hG] at hway
  have hfst := way_fst (wn l0) (wn l1) (gainI l0 l1 gone whole) R G
  have hmem := way_mem (wn l0) (wn l1) (gainI l0 l1 gone whole) R G hG0
  have hsum := way_sum (wn l0) (wn l1) (gainI l0 l1 gone whole) R G hG0
  have hps : rollL l0 l1 gone whole = some_ (way (wn l0) (wn l1) (gainI l0 l1 gone whole) R G) := hway
  have hin : ∀ p ∈ way (wn l0) (wn l1) (gainI l0 l1 gone whole) R G, p.1 ∈ R := fun p hp => by rw [← hfst]; exact List.mem_map.2 ⟨p, hp, rfl⟩
  have hpos : ∀ p ∈ way (wn l0) (wn l1) (gainI l0 l1 gone whole) R G, 0 ≤ p.2 := fun p hp => by
    have h1 := hmem p hp
    have h2 := a0 p.1 (hin p hp)
    have h3 := b0 p.1 (hin p hp)
    by_cases h : wn l1 p.1 < wn l0 p.1
    · have := h1.1 h; omega
    · have := h1.2 h; have := hgn p.1; omega
  have hs100 : ((way (wn l0) (wn l1) (gainI l0 l1 gone whole) R G).map (·.2)).sum = 100 := by
    rw [hsum, asum]
    have e3 : (R.map fun n => if wn l1 n < wn l0 n then 0 else gainI l0 l1 gone whole n).sum = G := by
      rw [hG]
      congr 1
      refine List.map_congr_left (fun n _ => ?_)
      split
      · exact (hgz n (by omega)).symm
      · rfl
    rw [e3]
    omega
  refine ⟨⟨_, hfst, hps, hpos, hs100⟩, fun n hn' => ?_⟩
  obtain ⟨p, hp, rfl⟩ := List.mem_map.1 (show n ∈ (way (wn l0) (wn l1) (gainI l0 l1 gone whole) R G).map (·.1) by rw [hfst]; exact hn')
  have hw : wn (rollL l0 l1 gone whole) p.1 = p.2 := by rw [hps]; exact wt_some _ (by rw [hfst]; exact hn) hpos p hp
  rw [hw]
  refine ⟨(hmem p hp).1, fun h => ?_⟩
  rw [(hmem p hp).2 h]
  congr 1
  rw [hg]
  by_cases h' : wn l0 p.1 < wn l1 p.1
  · rw [if_pos h']
  · rw [if_neg h', show wn l1 p.1 - wn l0 p.1 = 0 by omega]; simp

end Go.Proofs.YtnkmpkhiilnigaaDoor.PA

/- As time goes on what is to grow does not fall, what is to fall does not grow. Plain. -/
namespace Go.Proofs.YtnkmpkhiilnigaaDoor.PA
open Go.RowKit Go.Lib Go.Proofs.YtnkmpkhiilnigaaDoorW.PrintWords

theorem way_mono (a b gn gn' : List UInt8 → Int) : ∀ (R : List (List UInt8)) (g g' : Int), R.Nodup → g ≤ g' → ∀ p ∈ way a b gn R g, ∀ q ∈ way a b gn' R g', p.1 = q.1 → b p.1 < a p.1 → q.2 ≤ p.2
  | [], _, _, _, _, p, hp, _, _, _, _ => by cases hp
  | n :: t, g, g', hn, hg, p, hp, q, hq, e, hl => by
    have hno : ∀ (gg : List UInt8 → Int) (x : Int), ∀ r ∈ way a b gg t x, r.1 ≠ n := fun gg x r hr he => by
      have : r.1 ∈ (way a b gg t x).map (·.1) := List.mem_map.2 ⟨r, hr, rfl⟩
      rw [way_fst, he] at this
      exact (List.nodup_cons.1 hn).1 this
    have ht := (List.nodup_cons.1 hn).2
    unfold way at hp hq
    by_cases h : b n < a n
    · rw [if_pos h] at hp hq
      rcases List.mem_cons.1 hp with rfl | hp
      · rcases List.mem_cons.1 hq with rfl | hq
        · show a n - min (a n - b n) g' ≤ a n - min (a n - b n) g
          omega
        · exact absurd e.symm (hno _ _ q hq)
      · rcases List.mem_cons.1 hq with rfl | hq
        · exact absurd e (hno _ _ p hp)
        · exact way_mono a b gn gn' t _ _ ht (by omega) p hp q hq e hl
    · rw [if_neg h] at hp hq
      rcases List.mem_cons.1 hp with rfl | hp
      · exact absurd hl h
      · rcases List.mem_cons.1 hq with rfl | hq
        · exact absurd e (hno _ _ p hp)
        · exact way_mono a b gn gn' t _ _ ht hg p hp q hq e hl

theorem roll_from {l0 l1 : List S45} {g n : Int} (hn : 0 < n) (hg : g ≤ 0) : rollL l0 l1 g n = l0 := by unfold rollL; rw [if_neg (by omega), if_pos hg]
theorem roll_to {l0 l1 : List S45} {g n : Int} (hg : n ≤ g) : rollL l0 l1 g n = l1 := by unfold rollL; rw [if_pos (.inr hg)]

/-- Each weight is between the two. -/
theorem roll_between {R : List (List UInt8)} (hR : Rising R) {l0 l1 : List S45} (h0 : Tab R l0) (h1 : Tab R l1) {g n : Int} (hn : 0 < n) : ∀ x ∈ R,
    (wn l0 x ≤ wn l1 x → wn l0 x ≤ wn (rollL l0 l1 g n) x ∧ wn (rollL l0 l1 g n) x ≤ wn l1 x) ∧ (wn l1 x ≤ wn l0 x → wn l1 x ≤ wn (rollL l0 l1 g n) x ∧ wn (rollL l0 l1 g n) x ≤ wn l0 x) := fun x hx => by
  by_cases e0 : g ≤ 0
  · rw [roll_from hn e0]; omega
  · by_cases e1 : n ≤ g
    · rw [roll_to e1]; omega
    · obtain ⟨t1, t2⟩ := (roll_tab hR h0 h1 (gone := g) (whole := n) (by omega) (by omega)).2 x hx
      by_cases h : wn l1 x < wn l0 x
      · have := t1 h; omega
      · have h2 := t2 h
        have p0 : 0 ≤ (wn l1 x - wn l0 x) * g / n := Int.ediv_nonneg (Int.mul_nonneg (by omega) (by omega)) (by omega)
        have p1 : (wn l1 x - wn l0 x) * g / n ≤ wn l1 x - wn l0 x := Int.ediv_le_of_le_mul (by omega) (Int.mul_le_mul_of_nonneg_left (by omega) (by omega))
        omega

theorem roll_mono {R : List (List UInt8)} (hR : Rising R) {l0 l1 : List S45} (h0 : Tab R l0) (h1 : Tab R l1) {s t n : Int} (hn : 0 < n) (hst : s ≤ t) : ∀ x ∈ R,
    (wn l0 x ≤ wn l1 x → wn (rollL l0 l1 s n) x ≤ wn (rollL l0 l1 t n) x) ∧ (wn l1 x ≤ wn l0 x → wn (rollL l0 l1 t n) x ≤ wn (rollL l0 l1 s n) x) := fun x hx => by
  by_cases e1 : n ≤ t
  · rw [roll_to e1]
    have := roll_between hR h0 h1 (g := s) hn x hx
    exact ⟨fun h => (this.1 h).2, fun h => (this.2 h).1⟩
  · by_cases e0 : s ≤ 0
    · rw [roll_from hn e0]
      have := roll_between hR h0 h1 (g := t) hn x hx
      exact ⟨fun h => (this.1 h).1, fun h => (this.2 h).2⟩
    · obtain ⟨s1, s2⟩ := (roll_tab hR h0 h1 (gone := s) (whole := n) (by omega) (by omega)).2 x hx
      obtain ⟨t1, t2⟩ := (roll_tab hR h0 h1 (gone := t) (whole := n) (by omega) (by omega)).2 x hx
      by_cases h : wn l1 x < wn l0 x
      · refine ⟨fun h' => by omega, fun _ => ?_⟩
        have c0 := h0.canon hR.nodup
        have c1 := h1.canon hR.nodup
        have key : ∀ g : Int, 0 < g → g < n → ∃ p ∈ way (wn l0) (wn l1) (gainI l0 l1 g n) R (gains l0 l1 g n R).sum, p.1 = x ∧ wn (rollL l0 l1 g n) x = p.2 := fun g g0 g1 => by
          have hway : rollL l0 l1 g n = some_ (way (wn l0) (wn l1) (gainI l0 l1 g n) R (gains l0 l1 g n R).sum) := rollL_way hR c0.2.2.2 c1.2.2.2 g0 g1
          have hfst := way_fst (wn l0) (wn l1) (gainI l0 l1 g n) R (gains l0 l1 g n R).sum
          have hgf : ∀ y, 0 ≤ gainI l0 l1 g n y := fun y => by
            unfold gainI
            split
            · exact Int.ediv_nonneg (Int.mul_nonneg (by omega) (by omega)) (by omega)
            · omega
          have hG0 : 0 ≤ (gains l0 l1 g n R).sum := (sum_le _ R (fun y _ => hgf y)).1
          obtain ⟨p, hp, rfl⟩ := List.mem_map.1 (show x ∈ (way (wn l0) (wn l1) (gainI l0 l1 g n) R (gains l0 l1 g n R).sum).map (·.1) by rw [hfst]; exact hx)
          refine ⟨p, hp, rfl, ?_⟩
          rw [hway]
          refine wt_some _ (by rw [hfst]; exact hR.nodup) (fun q hq => ?_) p hp
          have hin : q.1 ∈ R := by rw [← hfst]; exact List.mem_map.2 ⟨q, hq, rfl⟩
          have m1 := way_mem (wn l0) (wn l1) (gainI l0 l1 g n) R _ hG0 q hq
          have m2 := c0.2.1 q.1 hin
          have m3 := c1.2.1 q.1 hin
          by_cases h : wn l1 q.1 < wn l0 q.1
          · have := m1.1 h; omega
          · have := m1.2 h; have := hgf q.1; omega
        obtain ⟨p, hp, ep, wp⟩ := key s (by omega) (by omega)
        obtain ⟨q, hq, eq, wq⟩ := key t (by omega) (by omega)
        rw [wp, wq]
        refine way_mono (wn l0) (wn l1) _ _ R _ _ hR.nodup ?_ p hp q hq (ep.trans eq.symm) (by rw [ep]; exact h)
        refine sum_mono _ _ R (fun y _ => ?_)
        unfold gainI
        split
        · exact Int.ediv_le_ediv (by omega) (Int.mul_le_mul_of_nonneg_left hst (by omega))
        · omega
      · rw [s2 h, t2 h]
        have : (wn l1 x - wn l0 x) * s / n ≤ (wn l1 x - wn l0 x) * t / n := Int.ediv_le_ediv (by omega) (Int.mul_le_mul_of_nonneg_left hst (by omega))
        refine ⟨fun _ => by omega, fun h' => ?_⟩
        rw [show wn l1 x - wn l0 x = 0 by omega]
        simp

end Go.Proofs.YtnkmpkhiilnigaaDoor.PA
