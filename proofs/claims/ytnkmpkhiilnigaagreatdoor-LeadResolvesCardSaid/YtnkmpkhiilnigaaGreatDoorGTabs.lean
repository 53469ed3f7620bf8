/- roll.Shares, whatever the time. And what the print wants. -/
import Derived.Test.YtnkmpkhiilnigaaGreatDoorGSound
namespace Go.Proofs.YtnkmpkhiilnigaaGreatDoor.PA
open Go.RowKit Go.Shelf Go.Lib Go.Sort Go.Proofs.YtnkmpkhiilnigaaGreatDoorW.PrintWords Go.Proofs.YtnkmpkhiilnigaaGreatDoorW.PrintLast

theorem shares_calls (A0 : Option Addr) (c0 : Nat) (l0 : List S51) (A1 : Option Addr) (c1 : Nat) (l1 : List S51) (gone whole : Int) (w : World) (hr0 : Kd.C k51 w A0 l0.length l0) (hr1 : Kd.C k51 w A1 l1.length l1)
    (hf0 : Fine l0) (hf1 : Fine l1) (hw : whole ≤ 1000000000) :
    Calls Tryz.prog 36 #[.slice A0 l0.length c0, .slice A1 l1.length c1, .int .i64 gone, .int .i64 whole] w fun e w' => ∃ v, e = .returned v ∧ RowG el51 w' w.heap.size v (rollL l0 l1 gone whole) ∧ Below w.heap.size w w' := by
  by_cases e1 : whole ≤ 0
  · have hu : rollL l0 l1 gone whole = l1 := by unfold rollL; rw [if_pos (.inl e1)]
    rw [hu]; clear hu
    have HC := Lib.hid (clone_calls A1 c1 l1 w hr1 (by have := hf1.1; omega))
    clear hr0 hr1 hf0 hf1
    go_enter Tryz.func36, Tryz.ntmps36
    go_wp2_with fail
    refine HC.out.mono ?_
    rintro e w1 ⟨v, rfl, h1, h2⟩
    go_wp2_with fail
    go_ret
    exact ⟨_, rfl, h1, h2⟩
  · by_cases e2 : whole ≤ gone
    · have hu : rollL l0 l1 gone whole = l1 := by unfold rollL; rw [if_pos (.inr e2)]
      rw [hu]; clear hu
      have HC := Lib.hid (clone_calls A1 c1 l1 w hr1 (by have := hf1.1; omega))
      clear hr0 hr1 hf0 hf1
      go_enter Tryz.func36, Tryz.ntmps36
      go_wp2_with fail
      refine HC.out.mono ?_
      rintro e w1 ⟨v, rfl, h1, h2⟩
      go_wp2_with fail
      go_ret
      exact ⟨_, rfl, h1, h2⟩
    · by_cases e3 : gone ≤ 0
      · have hu : rollL l0 l1 gone whole = l0 := by unfold rollL; rw [if_neg (by omega), if_pos e3]
        rw [hu]; clear hu
        have HC := Lib.hid (clone_calls A0 c0 l0 w hr0 (by have := hf0.1; omega))
        clear hr0 hr1 hf0 hf1
        go_enter Tryz.func36, Tryz.ntmps36
        go_wp2_with fail
        refine HC.out.mono ?_
        rintro e w1 ⟨v, rfl, h1, h2⟩
        go_wp2_with fail
        go_ret
        exact ⟨_, rfl, h1, h2⟩
      · have hu : rollL l0 l1 gone whole = ((namesOf (l0 ++ l1)).foldl (stepR l0 l1 gone whole) ((gains l0 l1 gone whole (namesOf (l0 ++ l1))).sum, [])).2 := by unfold rollL; rw [if_neg (by omega), if_neg e3]
        rw [hu]
        exact shares_way A0 c0 l0 A1 c1 l1 gone whole w hr0 hr1 hf0 hf1 (by omega) (by omega) hw _ rfl _ rfl

def soundB (l : List S51) : Bool := l.all (fun s => decide (1 ≤ s.f1) && decide (s.f1 ≤ 100)) && decide ((keys l).Pairwise (fun x y => Op.bytesLess x y = true)) && decide ((l.map (·.f1)).sum = 100)
theorem soundB_iff {l : List S51} : soundB l = true ↔ SoundL l := by
  unfold soundB
  simp only [Bool.and_eq_true, decide_eq_true_eq, List.all_eq_true]
  exact ⟨fun h => ⟨h.1.1, h.1.2, h.2⟩, fun h => ⟨⟨h.one, h.names⟩, h.sum⟩⟩

end Go.Proofs.YtnkmpkhiilnigaaGreatDoor.PA

/- Rolling, in plain numbers: over any rising row of names that holds all that there are. -/
namespace Go.Proofs.YtnkmpkhiilnigaaGreatDoor.PA
open Go.RowKit Go.Lib Go.Proofs.YtnkmpkhiilnigaaGreatDoorW.PrintWords

/-- Rising, none twice. -/
def Rising (R : List (List UInt8)) : Prop := R.Pairwise (fun x y => x < y)

theorem Rising.nodup {R : List (List UInt8)} (h : Rising R) : R.Nodup := List.Pairwise.imp (fun hlt e => by subst e; exact absurd hlt (List.lt_irrefl _)) h

theorem rising_same {L R : List (List UInt8)} (hL : Rising L) (hR : Rising R) (h : ∀ x, x ∈ L ↔ x ∈ R) : L = R :=
  List.Perm.eq_of_pairwise (le := fun x y => x < y) (fun _ _ _ _ h1 h2 => absurd (List.lt_trans h1 h2) (List.lt_irrefl _)) hL hR ((List.perm_ext_iff_of_nodup hL.nodup hR.nodup).2 h)

theorem sorted_le (l : List (List UInt8)) : (l.mergeSort leS).Pairwise (fun x y => x ≤ y) := by
  have := List.pairwise_mergeSort (le := leS) (fun a b c h1 h2 => by simp only [leS, decide_eq_true_eq] at *; exact List.le_trans h1 h2) (fun a b => by simp only [leS, Bool.or_eq_true, decide_eq_true_eq]; exact List.le_total a b) l
  exact this.imp (fun h => by simpa [leS] using h)

section
variable (a b gn : List UInt8 → Int)
/-- Those that weigh something. -/
def some_ (l : List (List UInt8 × Int)) : List S51 := (l.filter (fun p => decide (0 < p.2))).map (fun p => ⟨bs p.1, p.2⟩)
end

theorem some_cons (n : List UInt8) (c : Int) (t : List (List UInt8 × Int)) : some_ ((n, c) :: t) = if 0 < c then ⟨bs n, c⟩ :: some_ t else some_ t := by
  unfold some_
  by_cases h : 0 < c
  · rw [if_pos h, List.filter_cons_of_pos (by simpa using h), List.map_cons]
  · rw [if_neg h, List.filter_cons_of_neg (by simpa using h)]

end Go.Proofs.YtnkmpkhiilnigaaGreatDoor.PA

/- Tables over a rising row of names; on the way from one to another. Plain. -/
namespace Go.Proofs.YtnkmpkhiilnigaaGreatDoor.PA
open Go.RowKit Go.Lib Go.Proofs.YtnkmpkhiilnigaaGreatDoorW.PrintWords

/-- A table over the names R: each with its weight, a hundred in all. -/
def Tab (R : List (List UInt8)) (l : List S51) : Prop := ∃ ps : List (List UInt8 × Int), ps.map (·.1) = R ∧ l = some_ ps ∧ (∀ p ∈ ps, 0 ≤ p.2) ∧ (ps.map (·.2)).sum = 100

theorem Tab.mk' {R : List (List UInt8)} {c : List UInt8 → Int} (h0 : ∀ n ∈ R, 0 ≤ c n) (hs : (R.map c).sum = 100) : Tab R (some_ (R.map fun n => (n, c n))) :=
  ⟨_, by rw [List.map_map]; exact List.map_id R, rfl, fun p hp => by obtain ⟨n, hn, rfl⟩ := List.mem_map.1 hp; exact h0 n hn, by rw [List.map_map]; exact hs⟩

theorem sum_le {α : Type} (f : α → Int) : ∀ (l : List α), (∀ x ∈ l, 0 ≤ f x) → 0 ≤ (l.map f).sum ∧ ∀ x ∈ l, f x ≤ (l.map f).sum
  | [], _ => ⟨by simp, fun x hx => by cases hx⟩
  | y :: t, h => by
    have ih := sum_le f t (fun x hx => h x (List.mem_cons_of_mem _ hx))
    have hy := h y List.mem_cons_self
    rw [List.map_cons, List.sum_cons]
    refine ⟨by omega, fun x hx => ?_⟩
    rcases List.mem_cons.1 hx with rfl | hx
    · omega
    · have := ih.2 x hx; omega

theorem Tab.mem {R : List (List UInt8)} {l : List S51} (h : Tab R l) : ∀ s ∈ l, 1 ≤ s.f1 ∧ s.f1 ≤ 100 ∧ ∃ n ∈ R, s.f0 = bs n := fun s hs => by
  obtain ⟨ps, rfl, rfl, h0, hsum⟩ := h
  obtain ⟨p, hp, rfl⟩ := List.mem_map.1 hs
  obtain ⟨hp1, hp2⟩ := List.mem_filter.1 hp
  have := (sum_le (fun q : List UInt8 × Int => q.2) ps h0).2 p hp1
  have h2 : (ps.map (fun q : List UInt8 × Int => q.2)).sum = 100 := hsum
  have h3 : 0 < p.2 := by simpa using hp2
  exact ⟨by show 1 ≤ p.2; omega, by show p.2 ≤ 100; omega, p.1, List.mem_map.2 ⟨p, hp1, rfl⟩, rfl⟩

theorem Tab.len {R : List (List UInt8)} {l : List S51} (h : Tab R l) : l.length ≤ R.length := by
  obtain ⟨ps, rfl, rfl, _, _⟩ := h
  unfold some_
  rw [List.length_map, List.length_map]
  exact List.length_filter_le _ _

/-- .. as the document's Sound has it. -/
theorem Tab.sound {R : List (List UInt8)} {l : List S51} (hB : R.Pairwise (fun x y => Op.bytesLess x y = true)) (h : Tab R l) : SoundL l := by
  have hm := h.mem
  obtain ⟨ps, rfl, rfl, h0, hsum⟩ := h
  refine ⟨fun s hs => by have := hm s hs; omega, ?_, ?_⟩
  · have e : keys (some_ ps) = (ps.filter (fun p => decide (0 < p.2))).map (·.1) := by
      unfold keys some_
      rw [List.map_map]
      exact List.map_congr_left (fun p _ => by show (bs p.1).toList = p.1; rw [ByteArray.toList_eq]; simp [bs])
    rw [e]
    exact hB.sublist (List.filter_sublist.map _)
  · have : ∀ ps : List (List UInt8 × Int), (∀ p ∈ ps, 0 ≤ p.2) → ((some_ ps).map (·.f1)).sum = (ps.map (·.2)).sum := fun ps => by
      induction ps with
      | nil => intro _; rfl
      | cons q t ih =>
        intro h
        obtain ⟨n, c⟩ := q
        have hc := h (n, c) List.mem_cons_self
        have := ih (fun p hp => h p (List.mem_cons_of_mem _ hp))
        rw [some_cons, List.map_cons, List.sum_cons]
        split
        · rw [List.map_cons, List.sum_cons, this]
        · rw [this]; show _ = c + _; have : 0 ≤ c := hc; omega
    rw [this ps h0]
    exact hsum

section
variable (a b gn : List UInt8 → Int)

end

end Go.Proofs.YtnkmpkhiilnigaaGreatDoor.PA

/- As time goes on what is to grow does not fall, what is to fall does not grow. Plain. -/
namespace Go.Proofs.YtnkmpkhiilnigaaGreatDoor.PA
open Go.RowKit Go.Lib Go.Proofs.YtnkmpkhiilnigaaGreatDoorW.PrintWords

theorem roll_from {l0 l1 : List S51} {g n : Int} (hn : 0 < n) (hg : g ≤ 0) : rollL l0 l1 g n = l0 := by unfold rollL; rw [if_neg (by omega), if_pos hg]
end Go.Proofs.YtnkmpkhiilnigaaGreatDoor.PA
