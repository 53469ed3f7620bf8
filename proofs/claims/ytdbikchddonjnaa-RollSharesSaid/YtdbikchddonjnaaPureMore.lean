/- More of it: the example, comparisons, rolling, Sound. -/
import Derived.Test.YtdbikchddonjnaaPureBase
import Derived.Test.YtdbikchddonjnaaPAx3
import Derived.Test.YtdbikchddonjnaaPAx4
namespace Go.Proofs.Ytdbikchddonjnaa.PA
open Go.RowKit Go.Lib Go.Proofs.YtdbikchddonjnaaW.PrintWords Go.Proofs.YtdbikchddonjnaaW.PrintLast

theorem le_up {α : Type} (f : Nat → Option α) (hm : ∀ k, LeO (f k) (f (k + 1))) {r : α} {k : Nat} (h : f k = some r) : ∀ j, k ≤ j → f j = some r := fun j => by
  induction j with
  | zero => intro hj; obtain rfl : k = 0 := by omega
            exact h
  | succ j ih =>
    intro hj
    by_cases e : k = j + 1
    · subst e; exact h
    · exact hm j _ (ih (by omega))

theorem l5_up {x0 : List Int} {k : Nat} {l : List S39} (h : damperlaw5_Shares.f k x0 = some l) : ∀ j, k ≤ j → damperlaw5_Shares.f j x0 = some l := le_up (fun k => damperlaw5_Shares.f k x0) (fun k => damperlaw5_Shares.mono x0 k) h

/-- The Shares are the same as themselves. -/
theorem same_rest (l : List S39) (hl : l.length ≤ 1000000) : ∀ m i : Nat, i + m = l.length → damperref5_Shares.l0 (m + 1) l l (i : Int) = some true := by
  intro m
  induction m with
  | zero =>
    intro i hi
    unfold damperref5_Shares.l0
    rw [if_neg (by omega)]
  | succ m ih =>
    intro i hi
    unfold damperref5_Shares.l0
    rw [if_pos (by omega), if_pos (by omega), if_pos (by omega), if_neg (by simp), w64 (by omega) (by omega)]
    have := ih (i + 1) (by omega)
    rw [show ((i + 1 : Nat) : Int) = (i : Int) + 1 by omega] at this
    exact this

theorem same_f {l : List S39} (hl : l.length ≤ 1000000) (k : Nat) (hk : l.length + 1 ≤ k) : damperref5_Shares.f k l l = some true := by
  refine le_up (fun k => damperref5_Shares.f k l l) (fun k => damperref5_Shares.mono l l k) (k := l.length + 1) ?_ k hk
  show damperref5_Shares.f _ l l = _
  unfold damperref5_Shares.f
  rw [if_pos rfl]
  exact same_rest l hl l.length 0 (by omega)

theorem roll_f {R : List (List UInt8)} (hR : R.length ≤ 1000) {l0 l1 : List S39} (h0 : Tab R l0) (h1 : Tab R l1) (g w : Int) (hw : w ≤ 1000000000) : roll_Shares.f l0 l1 g w = some (rollL l0 l1 g w) := by
  unfold roll_Shares.f
  rw [if_pos (by rw [fineB_iff.2 (h0.fine hR), fineB_iff.2 (h1.fine hR), decide_eq_true hw]; rfl)]

theorem roll_tab' {R : List (List UInt8)} (hR : Rising R) {l0 l1 : List S39} (h0 : Tab R l0) (h1 : Tab R l1) (g w : Int) : Tab R (rollL l0 l1 g w) := by
  by_cases e1 : w ≤ 0 ∨ w ≤ g
  · unfold rollL; rw [if_pos e1]; exact h1
  · by_cases e2 : g ≤ 0
    · unfold rollL; rw [if_neg e1, if_pos e2]; exact h0
    · exact (roll_tab hR h0 h1 (by omega) (by omega)).1

theorem rev6 : ∀ n ∈ R6, damperref5_revision.f 100 (bs n) = some true := by
  intro n hn
  have : ∀ r ∈ revs6, damperref5_revision.f 100 r = some true := by
    intro r hr
    simp only [revs6, R6, List.map_cons, List.map_nil, List.mem_cons, List.not_mem_nil, or_false] at hr
    rcases hr with rfl | rfl | rfl | rfl | rfl | rfl <;> decide +kernel
  exact this _ (List.mem_map.2 ⟨n, hn, rfl⟩)

theorem sound_f {l : List S39} (h : Tab R6 l) : damperref5_Sound.f l = some true := by
  unfold damperref5_Sound.f
  rw [if_pos]
  rw [Bool.and_eq_true, List.all_eq_true]
  refine ⟨soundB_iff.2 (h.sound R6_less), fun s hs => ?_⟩
  obtain ⟨_, _, n, hn, e⟩ := h.mem s hs
  rw [e, rev6 n hn]
  rfl

/-- Two names. -/
def nA1 : List UInt8 := [97, 45, 49]
def nA2 : List UInt8 := [97, 45, 50]
def R2 : List (List UInt8) := [nA1, nA2]
theorem R2_rising : Rising R2 := by unfold Rising; decide

/-- A table of the two. -/
theorem tab2 (x y : Int) (hx : 0 ≤ x) (hy : 0 ≤ y) (hs : x + y = 100) : Tab R2 (some_ [(nA1, x), (nA2, y)]) := ⟨_, rfl, rfl, fun p hp => by
  rcases List.mem_cons.1 hp with rfl | hp
  · exact hx
  · rw [List.mem_singleton.1 hp]; exact hy, by simp; omega⟩
theorem wn2 (x y : Int) (hx : 0 ≤ x) (hy : 0 ≤ y) : wn (some_ [(nA1, x), (nA2, y)]) nA1 = x ∧ wn (some_ [(nA1, x), (nA2, y)]) nA2 = y := by
  have h := wt_some [(nA1, x), (nA2, y)] (show [nA1, nA2].Nodup by decide) (fun p hp => by
    rcases List.mem_cons.1 hp with rfl | hp
    · exact hx
    · rw [List.mem_singleton.1 hp]; exact hy)
  exact ⟨h (nA1, x) (by simp), h (nA2, y) (by simp)⟩

theorem canon2 {l : List S39} (h : Tab R2 l) : l = some_ [(nA1, wn l nA1), (nA2, wn l nA2)] ∧ wn l nA1 + wn l nA2 = 100 ∧ 0 ≤ wn l nA1 ∧ 0 ≤ wn l nA2 := by
  obtain ⟨h1, h2, h3, _⟩ := h.canon R2_rising.nodup
  refine ⟨h1, by simpa [R2] using h3, h2 _ (by simp [R2]), h2 _ (by simp [R2])⟩

theorem known_f : damperlaw6_known.f = some true := by
  have e0 : ([(⟨(⟨#[97, 45, 49]⟩ : ByteArray), 100⟩ : S39)] : List S39) = some_ [(nA1, 100), (nA2, 0)] := by
    rw [some_cons, if_pos (by omega), some_cons, if_neg (by omega)]; rfl
  have e1 : ([(⟨(⟨#[97, 45, 50]⟩ : ByteArray), 100⟩ : S39)] : List S39) = some_ [(nA1, 0), (nA2, 100)] := by
    rw [some_cons, if_neg (by omega), some_cons, if_pos (by omega)]; rfl
  have t0 := tab2 100 0 (by omega) (by omega) (by omega)
  have t1 := tab2 0 100 (by omega) (by omega) (by omega)
  obtain ⟨tr, hr⟩ := roll_tab R2_rising t0 t1 (gone := 5) (whole := 10) (by omega) (by omega)
  have w2 := (hr nA2 (by simp [R2])).2 (by rw [(wn2 0 100 (by omega) (by omega)).2, (wn2 100 0 (by omega) (by omega)).2]; omega)
  rw [(wn2 0 100 (by omega) (by omega)).2, (wn2 100 0 (by omega) (by omega)).2] at w2
  obtain ⟨c1, c2, _, _⟩ := canon2 tr
  have hl : rollL (some_ [(nA1, 100), (nA2, 0)]) (some_ [(nA1, 0), (nA2, 100)]) 5 10 = [⟨bs nA1, 50⟩, ⟨bs nA2, 50⟩] := by
    rw [c1, show wn (rollL (some_ [(nA1, 100), (nA2, 0)]) (some_ [(nA1, 0), (nA2, 100)]) 5 10) nA1 = 50 by omega, show wn (rollL (some_ [(nA1, 100), (nA2, 0)]) (some_ [(nA1, 0), (nA2, 100)]) 5 10) nA2 = 50 by omega, some_cons, if_pos (by omega), some_cons, if_pos (by omega)]
    rfl
  unfold damperlaw6_known.f
  rw [e0, e1, roll_f (by decide) t0 t1 5 10 (by omega), hl]
  simp [rd_T39, bs, nA1, nA2, ByteArray.toList_eq, roll_Weight.f, wt]

/-- What the document's Weight tells. -/
theorem refw_rest (r : ByteArray) (l : List S39) (hl : l.length ≤ 1000000) : ∀ m i : Nat, i + m = l.length → damperref6_Weight.l0 (m + 1) l r (i : Int) = some (wt (l.drop i) r) := by
  intro m
  induction m with
  | zero =>
    intro i hi
    unfold damperref6_Weight.l0
    rw [if_neg (by omega), List.drop_of_length_le (by omega)]
    rfl
  | succ m ih =>
    intro i hi
    have hlt : i < l.length := by omega
    have hg : rd_T39 l (i : Int) = l[i] := by unfold rd_T39; simp [List.getD_eq_getElem?_getD, hlt]
    unfold damperref6_Weight.l0
    rw [if_pos (by omega), if_pos (by omega), hg, List.drop_eq_getElem_cons hlt, wt_cons]
    by_cases e : l[i].f0.toList = r.toList
    · rw [if_pos e, if_pos e]
    · rw [if_neg e, if_neg e, w64 (by omega) (by omega)]
      have := ih (i + 1) (by omega)
      rw [show ((i + 1 : Nat) : Int) = (i : Int) + 1 by omega] at this
      exact this

theorem refw_f {l : List S39} (hl : l.length ≤ 1000000) (r : ByteArray) (k : Nat) (hk : l.length + 1 ≤ k) : damperref6_Weight.f k l r = some (wt l r) := by
  refine le_up (fun k => damperref6_Weight.f k l r) (fun k => damperref6_Weight.mono l r k) (k := l.length + 1) ?_ k hk
  show damperref6_Weight.f _ l r = _
  unfold damperref6_Weight.f
  have := refw_rest r l hl l.length 0 (by omega)
  exact this

end Go.Proofs.Ytdbikchddonjnaa.PA
