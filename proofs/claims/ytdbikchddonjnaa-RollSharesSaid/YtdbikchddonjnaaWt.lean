/- roll.Weight, by its contract. -/
import Derived.Test.YtdbikchddonjnaaPAx0
import Derived.Test.YtdbikchddonjnaaLays
import Derived.WalkKit
import Derived.Lib.SliceRun
import Derived.Lib.Hide
namespace Go.Proofs.Ytdbikchddonjnaa.PA
open Go.RowKit Go.Shelf Go.Lib Go.Proofs.YtdbikchddonjnaaW.PrintWords Go.Proofs.YtdbikchddonjnaaW.PrintLast

/-- What a revision weighs among Shares. -/
def wt : List S39 → ByteArray → Int
  | [], _ => 0
  | s :: t, r => if s.f0.toList = r.toList then s.f1 else wt t r

instance : Inhabited S39 := ⟨z39⟩

/-- Its two cells. -/
def enc39 (x : S39) : List Value := [.string x.f0, .int .i64 x.f1]

theorem wt_idx (l : List S39) (r : ByteArray) : ∀ k : Nat, (idxByFrom (fun _ y => y.f0.toList == r.toList) z39 l k = -1 ∧ wt l r = 0) ∨ ∃ i : Nat, i < l.length ∧ idxByFrom (fun _ y => y.f0.toList == r.toList) z39 l k = ((k + i : Nat) : Int) ∧ wt l r = (l.getD i z39).f1 := by
  induction l with
  | nil => exact fun k => .inl ⟨rfl, rfl⟩
  | cons s t ih =>
    intro k
    by_cases e : s.f0.toList = r.toList
    · exact .inr ⟨0, by simp, by simp [idxByFrom, e], by simp [wt, e]⟩
    · rcases ih (k + 1) with ⟨h1, h2⟩ | ⟨i, h1, h2, h3⟩
      · exact .inl ⟨by simp [idxByFrom, e, h1], by simp [wt, e, h2]⟩
      · exact .inr ⟨i + 1, by simp; omega, by simp only [idxByFrom, beq_iff_eq, e, if_false]; rw [h2]; congr 1; omega, by simp [wt, e, h3]⟩

theorem pred29 (r : ByteArray) (B : Nat) (w : World) (hB : B < w.heap.size) (hcell : w.cell? ⟨B, 0, none⟩ = some (.string r)) :
    PredBelow Try.prog 29 #[.pointer (some ⟨B, 0, none⟩)] (fun x : S39 => .agg (enc39 x).toArray) (fun x => x.f0.toList == r.toList) w := fun W x hb => by
  have hc : W.cell? ⟨B, 0, none⟩ = some (.string r) := (hb.cell (p := ⟨B, 0, none⟩) hB).trans hcell
  have hBW : B < W.heap.size := Nat.lt_of_lt_of_le hB hb.size
  have hne : B ≠ W.heap.size := by omega
  show Calls Try.prog 29 #[.agg #[.string x.f0, .int .i64 x.f1], .pointer (some ⟨B, 0, none⟩)] W _
  go_enter Try.func29, Try.ntmps29
  go_wp2
  all_goals (go_ret; exact ⟨by simp_all, hb.alloc hb.size _⟩)

/-- A row of Shares that is read: its block, its cells. -/
theorem shares_at {w : World} {A : Option Addr} {n : Nat} {xs : List S39} (h : Kd.C k39 w A n xs) (hn : 0 < n) : ∃ b o, A = some ⟨b, o, none⟩ ∧ b < w.heap.size ∧ ∀ j, j < xs.length → w.cell? ⟨b, o + j * 2, none⟩ = some (.string (xs.getD j z39).f0) ∧ w.cell? ⟨b, o + j * 2 + 1, none⟩ = some (.int .i64 (xs.getD j z39).f1) := by
  obtain ⟨hl, _, hc⟩ := h
  obtain ⟨ad, rfl, hc2⟩ := hc hn
  obtain ⟨b, o, s⟩ := ad
  have hcell : ∀ j, j < xs.length → w.cell? ((⟨b, o, s⟩ : Addr).add (j * 2)) = some (.string (xs.getD j z39).f0) ∧ w.cell? ((⟨b, o, s⟩ : Addr).add (j * 2 + 1)) = some (.int .i64 (xs.getD j z39).f1) := fun j hj => by
    obtain ⟨c, _, hk, hcell⟩ := hc2 j _ (List.getElem?_eq_getElem hj)
    have e := k39_open hk
    have hg : xs.getD j z39 = xs[j] := by simp [List.getD_eq_getElem?_getD, hj]
    rw [hg]
    exact ⟨hcell 0 _ (by rw [e]; rfl), hcell 1 _ (by rw [e]; rfl)⟩
  have h0 := (hcell 0 (by omega)).1
  have hs : s = none := by simpa [Addr.add] using World.cell?_spot h0
  subst hs
  refine ⟨b, o, rfl, ?_, fun j hj => ?_⟩
  · rcases Nat.lt_or_ge b w.heap.size with hlt | hge
    · exact hlt
    · unfold Addr.add World.cell? at h0
      simp [Array.getElem?_eq_none hge] at h0
  · have h1 := hcell j hj
    have e0 : (⟨b, o, none⟩ : Addr).add (j * 2) = ⟨b, o + j * 2, none⟩ := by unfold Addr.add; split <;> simp_all
    have e1 : (⟨b, o, none⟩ : Addr).add (j * 2 + 1) = ⟨b, o + j * 2 + 1, none⟩ := by unfold Addr.add; split <;> simp_all <;> omega
    rw [e0, e1] at h1
    exact h1

theorem idx_none (A : Option Addr) (c : Nat) (fv : Value) (w : World) : Calls Try.prog 28 #[.slice A 0 c, fv] w fun e w' => e = .returned (.int .i64 (-1)) ∧ Below w.heap.size w w' := by
  go_enter Try.func28, Try.ntmps28
  go_wp2_with fail
  go_loop [8] (fun v => v = .int .i64 0) (fun _ => 0)
  case atStart => rfl
  case round =>
    obtain rfl := hrel
    go_wp2_with fail
    go_ret
    exact ⟨rfl, Below.refl _ _⟩

set_option maxHeartbeats 1000000 in
theorem weight_calls (A0 : Option Addr) (c0 : Nat) (l0 : List S39) (a1 : ByteArray) (w : World) (hr0 : Kd.C k39 w A0 l0.length l0) :
    Calls Try.prog 19 #[.slice A0 l0.length c0, .string a1] w fun e w' => e = .returned (.int .i64 (wt l0 a1)) ∧ Below w.heap.size w w' := by
  have hbig := hr0.2.1
  have hb1 : Below w.heap.size w (w.alloc (.cells #[.string a1] 9)) := (Below.refl _ w).alloc (Nat.le_refl _) _
  by_cases hl : l0 = []
  · subst hl
    clear hr0 hbig
    go_enter Try.func19, Try.ntmps19
    go_wp2_with fail
    refine (idx_none _ _ _ _).mono ?_
    rintro e w1 ⟨rfl, hb2⟩
    go_wp2_with fail
    go_ret
    exact ⟨rfl, hb1.trans (hb2.mono (by simp))⟩
  · obtain ⟨b, o, rfl, hb, hc⟩ := shares_at hr0 (List.length_pos_iff.2 hl)
    have eg : ∀ args w, (callFunc 29 args).run Try.prog w = .ok (.enter 29 args) w := enters_of Try.func29 (by kernel_rfl) rfl
    have hcon := AnyQ.slices_IndexFunc Try.idxA 2 Try.isAgg39 Try.sizeOf39 enc39 (fun _ => rfl) (fun x => x.f0.toList == a1.toList) 29 #[.pointer (some ⟨w.heap.size, 0, none⟩)] eg b o l0.length c0 l0 (w.alloc (.cells #[.string a1] 9))
      (pred29 a1 w.heap.size _ (by simp) (by simp)) (Nat.le_refl _) hbig (by simp; omega) (fun j hj i v hi => by
        refine Lib.cell?_alloc_some _ ?_
        have h1 := hc j hj
        have hg : l0.getD j z39 = l0[j]! := by simp [List.getD_eq_getElem?_getD, hj]
        rw [hg] at h1
        generalize l0[j]! = y at hi h1
        match i, hi with
        | 0, hi => simp [enc39] at hi; rw [← hi]; exact h1.1
        | 1, hi => simp [enc39] at hi; rw [← hi]; exact h1.2
        | i + 2, hi => simp [enc39] at hi)
    change Calls Try.prog 28 _ _ _ at hcon
    rw [List.take_length] at hcon
    rcases wt_idx l0 a1 0 with ⟨h1, h2⟩ | ⟨i, h1, h2, h3⟩
    · rw [show idxBy (fun _ y => y.f0.toList == a1.toList) l0 default = -1 from h1] at hcon
      rw [h2]
      have HCON := Lib.hid hcon
      clear hcon hc h1 h2 hl hr0
      go_enter Try.func19, Try.ntmps19
      go_wp2_with fail
      refine HCON.out.mono ?_
      rintro e w1 ⟨rfl, hb2⟩
      go_wp2_with fail
      go_ret
      exact ⟨rfl, hb1.trans (hb2.mono (by simp))⟩
    · rw [show idxBy (fun _ y => y.f0.toList == a1.toList) l0 default = ((0 + i : Nat) : Int) from h2, Nat.zero_add] at hcon
      rw [h3]
      have HCON := Lib.hid hcon
      have hce := (hc i h1).2
      generalize (l0.getD i z39).f1 = z at hce ⊢
      clear hcon hc h2 h3 hl hr0
      go_enter Try.func19, Try.ntmps19
      go_wp2_with fail
      refine HCON.out.mono ?_
      rintro e w1 ⟨rfl, hb2⟩
      have b2 := hb1.trans (hb2.mono (by simp))
      have hce1 := (b2.cell (p := ⟨b, o + i * 2 + 1, none⟩) hb).trans hce
      clear hb2 hce HCON
      go_wp2_with fail
      go_ret
      exact ⟨rfl, b2⟩

end Go.Proofs.Ytdbikchddonjnaa.PA
