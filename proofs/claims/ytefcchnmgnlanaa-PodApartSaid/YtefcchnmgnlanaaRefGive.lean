/- The document's pod: Give. -/
import Derived.Test.YtefcchnmgnlanaaRefOps
namespace Go.Proofs.Ytefcchnmgnlanaa
open Go.RowKit Go.Maps Go.Sort

/-- What is left when x is given back. -/
def less (x : Int) (l : List Int) : List Int := l.filter (fun y => decide (y ≠ x))

theorem less_step {L : List Int} {i : Nat} {x : Int} (h : i < L.length) : less x (L.take (i + 1)) = less x (L.take i) ++ (if L.getD i 0 = x then [] else [L.getD i 0]) := by
  unfold less
  rw [take_step h, List.filter_append]
  congr 1
  generalize L.getD i 0 = z
  by_cases e : z = x
  · rw [if_pos e]; simp [e]
  · rw [if_neg e]; simp [e]

theorem less_le (x : Int) (l : List Int) : (less x l).length ≤ l.length := List.length_filter_le _ _

set_option maxRecDepth 100000 in
theorem rgive_one {w : World} {x : Nat} {m : RefM} (h : RefAt w x m) (id : Int) (hr : m.L.length ≤ 1000) (hx : id ∈ m.L) :
    Calls Try.prog 26 #[.pointer (some ⟨x, 0, none⟩), .int .i64 id] w fun e w' => e = .returned (.int .i64 0) ∧ RefAt w' x ⟨m.conc, if m.st = 3 ∧ less id m.L = [] then 4 else m.st, less id m.L⟩ ∧ Chg (XF x) w w' := by
  have HAS := Lib.hid (has_calls h id hr true (decide_eq_true hx))
  obtain ⟨conc, st, L⟩ := m
  change L.length ≤ 1000 at hr
  change id ∈ L at hx
  obtain ⟨v, hb0, hrow, hnil⟩ := h
  have hb : Blk w x #[.int .i64 conc, .int .i64 st, v] 54 := hb0
  change Row w (x + 1) v L at hrow
  have hxl := hb.lt
  have hpos : 0 < L.length := List.length_pos_iff.2 (fun h => by rw [h] at hx; simp at hx)
  clear hb0 hnil hx
  obtain ⟨g, cp, rfl, hcp, hcm, hg0, hg1, hcells⟩ := hrow.shape3 hpos
  have HC := Lib.hid hcells
  clear hcells
  obtain ⟨B, hBe⟩ : ∃ B, w.heap.size = B := ⟨_, rfl⟩
  have hgB : g < B := by omega
  have hxB : x < B := by omega
  have hBw : B ≤ w.heap.size := by omega
  have hwB : w.heap.size ≤ B := by omega
  show Calls _ _ _ w fun e w' => e = .returned (.int .i64 0) ∧ RefAt w' x ⟨conc, if st = 3 ∧ less id L = [] then 4 else st, less id L⟩ ∧ Chg (XF x) w w'
  obtain ⟨m2, hm2⟩ : ∃ m2 : RefM, m2 = ⟨conc, if st = 3 ∧ less id L = [] then 4 else st, less id L⟩ := ⟨_, rfl⟩
  rw [← hm2]
  have HM2 := Lib.hid hm2
  clear hm2
  have b0 : Below B w w := Below.refl _ _
  clear hBe hg1 hxl
  go_enter Try.func26, Try.ntmps26
  go_wp2_with fail
  refine HAS.out.mono ?_
  rintro e w1 ⟨rfl, rfl⟩
  clear HAS
  go_wp2_with fail
  go_loopw [5, 6] (fun v5 v6 wr => ∃ (i : Nat) (M : List Int), i ≤ L.length ∧ v6 = .int .i64 i ∧ Hid (M = less id (L.take i)) ∧ Row wr B v5 M ∧ M.length ≤ i ∧ Hid (v5 = .slice none 0 0 ↔ M = []) ∧ Below B w wr ∧ B ≤ wr.heap.size) (fun _ v6 _ => L.length - (vInt v6).toNat)
  case atStart => exact ⟨0, [], by omega, rfl, Lib.hid (by simp [less]), World.ownsRow_nil _ _ _ _, by simp, Lib.hid (by simp), b0, hBw⟩
  case round =>
    clear b0 hBw
    obtain ⟨i, M, hi, rfl, hM, hrM, hMl, hnil, hb1, hBr⟩ := hrel
    have c2 : wr.cell? ⟨x, 2, none⟩ = some (.slice (some ⟨g, 0, none⟩) L.length cp) := (hb1.cell (p := ⟨x, 2, none⟩) hxB).trans (by have := hb.cell 2; simpa using this)
    by_cases hlt : i < L.length
    · have hce := (hb1.cell (p := ⟨g, i, none⟩) hgB).trans (HC.out i hlt)
      have HL := Lib.hid (less_step (x := id) hlt)
      by_cases e : L.getD i 0 = id
      · have hM2 := Lib.hid (show M = less id (L.take (i + 1)) from by rw [HL.out, if_pos e, List.append_nil]; exact hM.out)
        have e1 : (L.getD i 0 != id) = false := by simpa using e
        clear e HL hM
        generalize L.getD i 0 = z at hce e1
        go_wp2_with fail
        go_roundw
        case rel => exact ⟨i + 1, M, by omega, by go_num, hM2, hrM, by omega, hnil, hb1, hBr⟩
        case measure => simp [vInt]; omega
      · have hM2 := Lib.hid (show M ++ [L.getD i 0] = less id (L.take (i + 1)) from by rw [HL.out, if_neg e, hM.out])
        have e1 : (L.getD i 0 != id) = true := by simpa using e
        clear e HL hM
        generalize L.getD i 0 = z at hce e1 hM2
        obtain ⟨N, hN⟩ : ∃ N, wr.heap.size = N := ⟨_, rfl⟩
        have hBN : B ≤ N := by omega
        have k1 : (wr.alloc (.cells #[.int .i64 z] 3)).heap[N]? = some (.cells #[.int .i64 z] 3 (0, 0)) := by
          subst hN
          show (wr.heap.push _)[wr.heap.size]? = _
          simp
        have bA : Below N wr (wr.alloc (.cells #[.int .i64 z] 3)) := (Below.refl _ _).alloc (by omega) _
        have hrA := hrM.below bA (by omega)
        have hsz : B ≤ (wr.alloc (.cells #[.int .i64 z] 3)).heap.size := by simp; omega
        have b2 := hb1.trans (bA.mono hBN)
        have HN := Lib.hid hN
        clear hN bA
        go_wp2_with (at_builtin; refine list_app _ rfl (.tmp 29) (.tmp 37) rfl B _ M (by rfl) hrA (some ⟨wr.heap.size, 0, none⟩) 1 1 [z] (by rfl) rfl (SrcI.one (HN.out ▸ k1)) (by omega) (by omega) hsz ?_; intro v' w' r3 b3 z3)
        have b4 := b2.trans b3
        have hl3 : (M ++ [z]).length = M.length + 1 := by simp
        have z4 := b3.size
        simp at z4
        go_roundw
        case rel => exact ⟨i + 1, M ++ [z], by omega, by go_num, hM2, r3, by omega, Lib.hid ⟨fun h => absurd (z3.1 h).2 (by simp), fun h => absurd h (by simp)⟩, b4, by omega⟩
        case measure => simp [vInt]; omega
    · have hM2 : M = less id L := by have := hM.out; rw [List.take_of_length_le (by omega)] at this; exact this
      obtain ⟨A', c', rfl, hsh'⟩ := hrM.shape
      clear hsh'
      have hb2 := hb.below hb1 hxB
      have hc3 : Chg (XF x) w wr := Chg.of_below hb1 (fun k hk hk' => by omega)
      have c1 := hb2.cell 1
      have f1 := hb2.frozen 1
      have f2 := hb2.frozen 2
      simp at c1
      have HM := Lib.hid hM2
      clear hM2 hM
      by_cases e : st = 3
      · have e1 : (st == 3) = true := by simp [e]
        have E := Lib.hid e
        clear e
        by_cases hMn : M = []
        · subst hMn
          have HMN := Lib.hid (rfl : ([] : List Int) = [])
          go_wp2_with fail
          go_ret
          have hq : Chg (XF x) wr ((wr.setCell ⟨x, 2, none⟩ (.slice A' 0 c')).setCell ⟨x, 1, none⟩ (.int .i64 4)) := ((Chg.refl (XF x) wr).setCell (a := ⟨x, 2, none⟩) (fun _ => rfl) _).setCell (a := ⟨x, 1, none⟩) (fun _ => rfl) _
          have hs1 := hb2.set 2 (.slice A' 0 c') rfl
          have hst : (if st = 3 ∧ less id L = [] then 4 else st) = 4 := if_pos ⟨E.out, HM.out.symm⟩
          rw [HM2.out, hst]
          have hM3 := HM.out
          rw [← hM3]
          exact ⟨rfl, ⟨_, hs1.set 1 _ rfl, (hrM.base (show x + 1 ≤ B by omega)).chg hq (fun k hk hF => by have : k = x := hF; omega), by simpa using hnil.out⟩, hc3.trans hq (fun _ _ h => h)⟩
        · have hz : (((M.length : Nat) : Int) == 0) = false := by simp [hMn]
          have HMN := Lib.hid hMn
          clear hMn
          go_wp2_with fail
          go_ret
          have hq : Chg (XF x) wr (wr.setCell ⟨x, 2, none⟩ (.slice A' M.length c')) := (Chg.refl (XF x) wr).setCell (a := ⟨x, 2, none⟩) (fun _ => rfl) _
          have hst : (if st = 3 ∧ less id L = [] then 4 else st) = st := if_neg (fun h => HMN.out (by rw [HM.out]; exact h.2))
          rw [HM2.out, hst]
          have hM3 := HM.out
          clear HMN
          subst hM3
          exact ⟨rfl, ⟨_, hb2.set 2 _ rfl, (hrM.base (show x + 1 ≤ B by omega)).chg hq (fun k hk hF => by have : k = x := hF; omega), hnil.out⟩, hc3.trans hq (fun _ _ h => h)⟩
      · have e1 : (st == 3) = false := by simp [e]
        have E := Lib.hid e
        clear e
        go_wp2_with fail
        go_ret
        have hq : Chg (XF x) wr (wr.setCell ⟨x, 2, none⟩ (.slice A' M.length c')) := (Chg.refl (XF x) wr).setCell (a := ⟨x, 2, none⟩) (fun _ => rfl) _
        have hst : (if st = 3 ∧ less id L = [] then 4 else st) = st := if_neg (fun h => E.out h.1)
        rw [HM2.out, hst]
        have hM3 := HM.out
        subst hM3
        exact ⟨rfl, ⟨_, hb2.set 2 _ rfl, (hrM.base (show x + 1 ≤ B by omega)).chg hq (fun k hk hF => by have : k = x := hF; omega), hnil.out⟩, hc3.trans hq (fun _ _ h => h)⟩

theorem rgive_calls {w : World} {x : Nat} {m : RefM} (h : RefAt w x m) (id : Int) (hr : m.L.length ≤ 1000) :
    Calls Try.prog 26 #[.pointer (some ⟨x, 0, none⟩), .int .i64 id] w fun e w' => e = .returned (.int .i64 (m.give id).1) ∧ RefAt w' x (m.give id).2 ∧ Chg (XF x) w w' := by
  by_cases hx : id ∈ m.L
  · have hu : m.give id = (0, ⟨m.conc, if m.st = 3 ∧ less id m.L = [] then 4 else m.st, less id m.L⟩) := by unfold RefM.give; rw [if_pos hx]; rfl
    rw [hu]
    exact rgive_one h id hr hx
  · have hu : m.give id = (6, m) := by unfold RefM.give; rw [if_neg hx]
    rw [hu]; clear hu
    have HAS := Lib.hid (has_calls h id hr false (decide_eq_false hx))
    clear hx
    go_enter Try.func26, Try.ntmps26
    go_wp2_with fail
    refine HAS.out.mono ?_
    rintro e w1 ⟨rfl, rfl⟩
    clear HAS
    go_wp2_with fail
    go_ret
    exact ⟨rfl, h, Chg.refl _ _⟩

end Go.Proofs.Ytefcchnmgnlanaa
