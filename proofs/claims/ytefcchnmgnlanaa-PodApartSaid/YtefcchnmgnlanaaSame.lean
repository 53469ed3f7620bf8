/- The pod and the document's pod go alike. -/
import Derived.Test.YtefcchnmgnlanaaRefGive
namespace Go.Proofs.Ytefcchnmgnlanaa
open Go.RowKit Go.Maps Go.Sort

structure Same (m : PodM) (r : RefM) : Prop where
  st : m.st = r.st
  room : m.room = r.conc
  perm : m.S.Perm r.L
  sorted : r.L.Pairwise (· < ·)
  le : (m.S.length : Int) ≤ m.room
  top : m.room ≤ 8
  some : m.st = 3 → m.S ≠ []

theorem Same.len {m : PodM} {r : RefM} (h : Same m r) : m.S.length = r.L.length := h.perm.length_eq
theorem Same.short {m : PodM} {r : RefM} (h : Same m r) : m.S.length ≤ 1000 := by have := h.le; have := h.top; omega
theorem Same.short' {m : PodM} {r : RefM} (h : Same m r) : r.L.length ≤ 1000 := by have := h.le; have := h.top; have := h.len; omega
theorem Same.mem {m : PodM} {r : RefM} (h : Same m r) (x : Int) : x ∈ m.S ↔ x ∈ r.L := h.perm.mem_iff
theorem Same.empty {m : PodM} {r : RefM} (h : Same m r) : m.S = [] ↔ r.L = [] := ⟨fun e => List.eq_nil_of_length_eq_zero (by rw [← h.len, e]; rfl), fun e => List.eq_nil_of_length_eq_zero (by rw [h.len, e]; rfl)⟩

theorem Same.new (k : Int) (h0 : 0 ≤ k) (h8 : k ≤ 8) : Same ⟨1, k, []⟩ ⟨k, 1, []⟩ := ⟨rfl, rfl, .refl _, .nil, by simpa using h0, h8, fun h => by simp at h⟩

theorem Same.up {m : PodM} {r : RefM} (h : Same m r) : m.up.1 = r.up.1 ∧ Same m.up.2 r.up.2 := by
  unfold PodM.up RefM.up
  rw [h.st]
  by_cases e : r.st = 1
  · rw [if_pos e, if_pos e]; exact ⟨rfl, ⟨rfl, h.room, h.perm, h.sorted, h.le, h.top, fun h => by simp at h⟩⟩
  · rw [if_neg e, if_neg e]; exact ⟨rfl, h⟩

theorem Same.fin {m : PodM} {r : RefM} (h : Same m r) : m.fin = m := by
  unfold PodM.fin
  rw [if_neg (fun hh => h.some hh.1 hh.2)]

theorem Same.drain {m : PodM} {r : RefM} (h : Same m r) : m.drain.1 = r.drain.1 ∧ Same m.drain.2 r.drain.2 := by
  unfold PodM.drain RefM.drain
  rw [h.st]
  by_cases e : r.st = 1 ∨ r.st = 2
  · rw [if_pos e, if_pos e]
    refine ⟨rfl, ?_⟩
    unfold PodM.fin
    by_cases hn : m.S = []
    · simp only [hn, (h.empty.1 hn)]
      exact ⟨rfl, h.room, by simp, by simp, by simpa [hn] using h.le, h.top, fun h => by simp at h⟩
    · have hn' : ¬ r.L = [] := fun e => hn (h.empty.2 e)
      simp only [hn, hn', and_false, if_false]
      exact ⟨rfl, h.room, h.perm, h.sorted, h.le, h.top, fun _ => hn⟩
  · rw [if_neg e, if_neg e]; exact ⟨rfl, h⟩

theorem insI_cons (id y : Int) (t : List Int) : insI id (y :: t) = if y < id then y :: insI id t else id :: y :: t := by
  unfold insI
  by_cases e : y < id
  · simp [e]
  · simp [e]

theorem insI_perm (id : Int) : ∀ L : List Int, (insI id L).Perm (id :: L)
  | [] => by simp [insI]
  | y :: t => by
    rw [insI_cons]
    split
    · exact ((insI_perm id t).cons y).trans (List.Perm.swap id y t)
    · exact .refl _

theorem insI_sorted {id : Int} : ∀ {L : List Int}, L.Pairwise (· < ·) → id ∉ L → (insI id L).Pairwise (· < ·)
  | [], _, _ => by simp [insI]
  | y :: t, hs, hn => by
    rw [insI_cons]
    have h1 := List.pairwise_cons.1 hs
    have hne : y ≠ id := fun e => hn (by simp [e])
    split
    · rename_i e
      refine List.pairwise_cons.2 ⟨fun z hz => ?_, insI_sorted h1.2 (fun h => hn (List.mem_cons_of_mem _ h))⟩
      rcases List.mem_cons.1 ((insI_perm id t).mem_iff.1 hz) with hz | hz
      · omega
      · exact h1.1 z hz
    · rename_i e
      refine List.pairwise_cons.2 ⟨fun z hz => ?_, hs⟩
      rcases List.mem_cons.1 hz with hz | hz
      · omega
      · have := h1.1 z hz; omega

theorem Same.take {m : PodM} {r : RefM} (h : Same m r) (x : Int) : (m.take x).1 = (r.take x).1 ∧ Same (m.take x).2 (r.take x).2 := by
  unfold PodM.take RefM.take
  by_cases e : r.st = 2
  · have e' : m.st = 2 := h.st.trans e
    rw [if_neg (show ¬ m.st ≠ 2 from fun hh => hh e'), if_neg (show ¬ r.st ≠ 2 from fun hh => hh e)]
    by_cases hm : x ∈ r.L
    · rw [if_pos ((h.mem x).2 hm), if_pos hm]; exact ⟨rfl, h⟩
    · rw [if_neg (fun hh => hm ((h.mem x).1 hh)), if_neg hm]
      by_cases hr : r.conc ≤ r.L.length
      · rw [if_pos (show m.room ≤ m.S.length by rw [h.room, h.len]; exact hr), if_pos hr]; exact ⟨rfl, h⟩
      · rw [if_neg (show ¬ m.room ≤ m.S.length by rw [h.room, h.len]; exact hr), if_neg hr]
        refine ⟨rfl, ⟨h.st, h.room, (h.perm.cons x).trans (insI_perm x r.L).symm, insI_sorted h.sorted hm, ?_, h.top, fun _ => by simp⟩⟩
        have := h.room; have := h.len
        show (((x :: m.S).length : Nat) : Int) ≤ m.room
        rw [List.length_cons]; omega
  · have e' : m.st ≠ 2 := fun hh => e (h.st.symm.trans hh)
    rw [if_pos e', if_pos (show r.st ≠ 2 from e)]; exact ⟨rfl, h⟩

theorem Same.give {m : PodM} {r : RefM} (h : Same m r) (x : Int) : (m.give x).1 = (r.give x).1 ∧ Same (m.give x).2 (r.give x).2 := by
  have hd : r.L.Nodup := h.sorted.imp fun h => by omega
  unfold PodM.give RefM.give
  by_cases hm : x ∈ r.L
  · rw [if_pos ((h.mem x).2 hm), if_pos hm]
    refine ⟨rfl, ?_⟩
    have hp : (m.S.erase x).Perm (r.L.filter (fun y => decide (y ≠ x))) := by
      have h1 := h.perm.erase x
      rw [hd.erase_eq_filter x] at h1
      refine h1.trans ?_
      rw [show (fun y : Int => y != x) = (fun y => decide (y ≠ x)) from by funext y; by_cases e : y = x <;> simp [e]]
    have hso : (r.L.filter (fun y => decide (y ≠ x))).Pairwise (· < ·) := h.sorted.filter _
    have hle : ((m.S.erase x).length : Int) ≤ m.room := by have := List.length_erase_le (a := x) (l := m.S); have := h.le; omega
    have hst := h.st
    unfold PodM.fin
    by_cases hn : m.S.erase x = []
    · have hn' : r.L.filter (fun y => decide (y ≠ x)) = [] := by rw [hn] at hp; exact hp.symm.eq_nil
      simp only [hn, hn', and_true, hst]
      by_cases e : r.st = 3
      · simp only [e, if_true]
        exact ⟨rfl, h.room, by simp, by simp, by simpa [hn] using hle, h.top, fun h => by simp at h⟩
      · simp only [e, if_false]
        exact ⟨rfl, h.room, by simp, by simp, by simpa [hn] using hle, h.top, fun h => absurd h e⟩
    · have hn' : ¬ r.L.filter (fun y => decide (y ≠ x)) = [] := fun e => hn (by rw [e] at hp; exact hp.eq_nil)
      simp only [hn, hn', and_false, if_false]
      exact ⟨hst, h.room, hp, hso, hle, h.top, fun _ => hn⟩
  · rw [if_neg (fun hh => hm ((h.mem x).1 hh)), if_neg hm, h.fin]; exact ⟨rfl, h⟩

theorem Same.kill {m : PodM} {r : RefM} (h : Same m r) : Same { m with st := 4, S := [] } { r with st := 4, L := [] } := ⟨rfl, h.room, .refl _, .nil, by have := h.le; simp; omega, h.top, fun h => by simp at h⟩

theorem Same.sort {m : PodM} {r : RefM} (h : Same m r) : m.S.mergeSort leI = r.L := sort_same h.perm h.sorted

/-- Both do one thing: what the pod does, what the document's pod does (wherever it lies), one answer. -/
def Step (w : World) (p mb x : Nat) (r : RefM) (f g : Nat) (args : List Value) (v : Int) (m2 : PodM) (r2 : RefM) : Prop :=
  Calls Try.prog f (Value.pointer (some ⟨p, 0, none⟩) :: args).toArray w (fun e w' => e = .returned (.int .i64 v) ∧ PodAt w' p mb m2 ∧ Chg (PF p mb) w w') ∧
  (∀ w', RefAt w' x r → Calls Try.prog g (Value.pointer (some ⟨x, 0, none⟩) :: args).toArray w' (fun e w'' => e = .returned (.int .i64 v) ∧ RefAt w'' x r2 ∧ Chg (XF x) w' w'')) ∧ Same m2 r2

section
variable {w : World} {p mb x : Nat} {m : PodM} {r : RefM}

theorem both_up (h : PodAt w p mb m) (hs : Same m r) : ∃ v m2 r2, Step w p mb x r 12 20 [] v m2 r2 :=
  ⟨_, _, _, up_calls h, fun w' h' => by have := rup_calls h'; rw [← hs.up.1] at this; exact this, hs.up.2⟩
theorem both_drain (h : PodAt w p mb m) (hs : Same m r) : ∃ v m2 r2, Step w p mb x r 24 25 [] v m2 r2 :=
  ⟨_, _, _, drain_calls h, fun w' h' => by have := rdrain_calls h'; rw [← hs.drain.1] at this; exact this, hs.drain.2⟩
theorem both_take (h : PodAt w p mb m) (hs : Same m r) (id : Int) (hw : (Lit.int .i64 id).wf = true) : ∃ v m2 r2, Step w p mb x r 13 21 [.int .i64 id] v m2 r2 :=
  ⟨_, _, _, take_calls h id hw hs.short, fun w' h' => by have := rtake_calls h' id hs.short'; rw [← (hs.take id).1] at this; exact this, (hs.take id).2⟩
theorem both_give (h : PodAt w p mb m) (hs : Same m r) (id : Int) (hw : (Lit.int .i64 id).wf = true) : ∃ v m2 r2, Step w p mb x r 14 26 [.int .i64 id] v m2 r2 :=
  ⟨_, _, _, give_calls h id hw, fun w' h' => by have := rgive_calls h' id hs.short'; rw [← (hs.give id).1] at this; exact this, (hs.give id).2⟩
theorem same_state (h : RefAt w x r) (hs : Same m r) : Calls Try.prog 27 #[.pointer (some ⟨x, 0, none⟩)] w fun e w' => e = .returned (.int .i64 m.st) ∧ w = w' := by
  rw [hs.st]; exact rstate_calls h
theorem same_load (h : RefAt w x r) (hs : Same m r) : Calls Try.prog 22 #[.pointer (some ⟨x, 0, none⟩)] w fun e w' => e = .returned (.int .i64 m.S.length) ∧ w = w' := by
  rw [hs.len]; exact rload_calls h
end

end Go.Proofs.Ytefcchnmgnlanaa
