/- PodApart: the walk. (Printed by gen.py from apart.src.) -/
import Derived.Test.YtefcchnmgnlanaaSame
namespace Go.Proofs.Ytefcchnmgnlanaa
open Go.RowKit Go.Maps Go.Sort

theorem take_st2 {m : PodM} (x : Int) (h : m.st = 2) : (m.take x).2.st = 2 ∧ ((m.take x).2.S.length : Int) ≤ m.S.length + 1 := by
  unfold PodM.take
  split
  · exact ⟨h, by simp; omega⟩
  · split
    · exact ⟨h, by simp; omega⟩
    · split
      · exact ⟨h, by simp; omega⟩
      · exact ⟨h, by simp⟩

theorem both_take2 {w : World} {p mb x : Nat} {m : PodM} {r : RefM} (h : PodAt w p mb m) (hs : Same m r) (id : Int) (hw : (Lit.int .i64 id).wf = true) : Step w p mb x r 13 21 [.int .i64 id] (m.take id).1 (m.take id).2 (r.take id).2 :=
  ⟨take_calls h id hw hs.short, fun w' h' => by have := rtake_calls h' id hs.short'; rw [← (hs.take id).1] at this; exact this, (hs.take id).2⟩

set_option maxRecDepth 100000 in
set_option maxHeartbeats 4000000 in
theorem apart_walk (conc : Int) (A : Option Addr) (n cap : Nat) (xs : List Int) (A2 : Option Addr) (n2 cap2 : Nat) (ys : List Int) (w : World) (hx : Ints w A n xs) (hy : Ints w A2 n2 ys) :
    Calls Try.prog 5 #[.int .i64 conc, .slice A n cap, .slice A2 n2 cap2] w fun e w' => e = .returned (.bool true) ∧ Below w.heap.size w w' := by
  have hroom := hx.room
  have hroom2 := hy.room
  go_enter Try.func5, Try.ntmps5
  go_wp2_with fail
  refine (known_calls _).mono ?_
  rintro e w1 ⟨rfl, hb1⟩
  go_wp2_with fail
  refine (within_calls _ _ _ (by omega) (by omega)).mono ?_
  rintro e w2 ⟨rfl, rfl⟩
  have hk0 := Wi.lo (a := conc) (n := 8) (by omega)
  have hk1 := Wi.hi (a := conc) (n := 8) (by omega)
  obtain ⟨R, hR⟩ : ∃ R : Int, R = 1 + Wi conc 8 := ⟨_, rfl⟩
  have hR0 : 0 ≤ R := by omega
  have hR8 : R ≤ 8 := by omega
  have HR := Lib.hid hR
  clear hR
  go_wp2_with fail
  rw [← HR.out]
  clear HR hk0 hk1
  refine (new_calls _ _).mono ?_
  rintro e w2 ⟨p, mb, rfl, h2, hp, hm, hb2⟩
  have b2 : Below w.heap.size w w2 := hb1.trans (hb2.mono hb1.size)
  have hp' : w.heap.size ≤ p := Nat.le_trans hb1.size hp
  have hm' : w.heap.size ≤ mb := Nat.le_trans hb1.size hm
  have hpl := h2.blk.lt
  have hml := h2.set.lt
  clear hp hm hb1 hb2
  go_wp2_with fail
  refine (new_calls _ _).mono ?_
  rintro e w3 ⟨q, qb, rfl, hq3, hp, hm, hb3⟩
  have b3 : Below w.heap.size w w3 := b2.trans (hb3.mono b2.size)
  have h3 : PodAt w3 p mb ⟨1, R, []⟩ := h2.chg (Chg.of_below hb3 (F := fun _ => False) (fun k hk hk' => by omega)) (fun h => h) (fun h => h)
  have hpq : p < q := Nat.lt_of_lt_of_le hpl hp
  have hmq : mb < q := Nat.lt_of_lt_of_le hml hp
  have hpqb : p < qb := Nat.lt_of_lt_of_le hpl hm
  have hmqb : mb < qb := Nat.lt_of_lt_of_le hml hm
  have hql := hq3.blk.lt
  have hqml := hq3.set.lt
  clear hp hm h2 b2 hb3 hpl hml
  go_wp2_with fail
  refine (rnew_calls _ _).mono ?_
  rintro e w4 ⟨x, rfl, hr4, hx4, hb4⟩
  have b4 : Below w.heap.size w w4 := b3.trans (hb4.mono b3.size)
  have h4 : PodAt w4 p mb ⟨1, R, []⟩ := h3.chg (Chg.of_below hb4 (F := fun _ => False) (fun k hk hk' => by omega)) (fun h => h) (fun h => h)
  have hq4 : PodAt w4 q qb ⟨1, R, []⟩ := hq3.chg (Chg.of_below hb4 (F := fun _ => False) (fun k hk hk' => by omega)) (fun h => h) (fun h => h)
  have hqx : q < x := Nat.lt_of_lt_of_le hql hx4
  have hqbx : qb < x := Nat.lt_of_lt_of_le hqml hx4
  have hpx : p < x := by omega
  have hmx : mb < x := by omega
  have hxw : w.heap.size ≤ x := by omega
  clear h3 hq3 b3 hb4 hql hqml hx4
  go_wp2_with fail
  have t := up_calls h4
  rw [show PodM.up ⟨1, R, []⟩ = (0, ⟨2, R, []⟩) from by simp [PodM.up]] at t
  refine t.mono ?_
  clear t
  rintro e w5 ⟨rfl, h5, hc5⟩
  have b5 := hc5.below_of b4 b4.size (fun k hk hF => by rcases hF with rfl | rfl <;> omega)
  have hq5 := hq4.chg hc5 (fun h => by rcases h with h | h <;> omega) (fun h => by rcases h with h | h <;> omega)
  have hr5 := hr4.chg hc5 (pf_no hpx hmx)
  clear hc5 h4 hq4 hr4 b4
  go_wp2_with fail
  have t := up_calls hq5
  rw [show PodM.up ⟨1, R, []⟩ = (0, ⟨2, R, []⟩) from by simp [PodM.up]] at t
  refine t.mono ?_
  clear t
  rintro e w6 ⟨rfl, hq6, hc6⟩
  have b6 := hc6.below_of b5 b5.size (fun k hk hF => by rcases hF with rfl | rfl <;> omega)
  have h6 := h5.chg hc6 (fun h => by rcases h with h | h <;> omega) (fun h => by rcases h with h | h <;> omega)
  have hr6 := hr5.chg hc6 (pf_no hqx hqbx)
  clear hc6 h5 hq5 hr5 b5
  go_wp2_with fail
  have t := rup_calls hr6
  rw [show RefM.up ⟨R, 1, []⟩ = (0, ⟨R, 2, []⟩) from by simp [RefM.up]] at t
  refine t.mono ?_
  clear t
  rintro e w7 ⟨rfl, hr7, hc7⟩
  have b7 := hc7.below_of b6 b6.size (fun k hk hF => by have : k = x := hF; omega)
  have h7 := h6.chg hc7 (fun h => by have : p = x := h; omega) (fun h => by have : mb = x := h; omega)
  have hq7 := hq6.chg hc7 (fun h => by have : q = x := h; omega) (fun h => by have : qb = x := h; omega)
  clear hc7 h6 hq6 hr6 b6
  have hS7 : Hid (Same ⟨2, R, []⟩ ⟨R, 2, []⟩) := Lib.hid ⟨rfl, rfl, .refl _, .nil, by simpa using hR0, hR8, fun h => by simp at h⟩
  clear hR0 hR8
  go_wp2_with fail
  go_loopw [11] (fun v wr => ∃ (j : Nat) (m m2 : PodM) (r : RefM), j ≤ n ∧ j ≤ 30 ∧ v = .int .i64 j ∧ PodAt wr p mb m ∧ PodAt wr q qb m2 ∧ RefAt wr x r ∧ Hid (Same m r) ∧ Hid (m.st = 2 ∧ m2.st = 2 ∧ (m2.S.length : Int) ≤ j) ∧ Below w.heap.size w wr) (fun v _ => n - (vInt v).toNat)
  case atStart => exact ⟨0, _, _, _, by omega, by omega, rfl, h7, hq7, hr7, hS7, Lib.hid ⟨rfl, rfl, by simp⟩, b7⟩
  case round =>
    clear h7 hq7 hr7 hS7 b7
    obtain ⟨j, m, m2, r, hj, hj30, rfl, hp1, hq1, hr1, hS, hT, hb⟩ := hrel
    by_cases hlt : j < n
    · by_cases h30 : j < 30
      · obtain ⟨b, o, rfl, hbl, hcell⟩ := hx.at_ (by omega)
        have hc := (hb.cell (p := ⟨b, o + j, none⟩) hbl).trans (hcell j hlt)
        have HX := Lib.hid hx
        clear hcell hx
        generalize xs.getD j 0 = y at hc
        go_wp2_with fail
        refine (within_calls _ _ _ (by omega) (by omega)).mono ?_
        rintro e w4 ⟨rfl, rfl⟩
        obtain ⟨q0, hq0⟩ : ∃ q0 : Int, q0 = Wi y 12 := ⟨_, rfl⟩
        have hi0 := Wi.lo (a := y) (n := 12) (by omega)
        have hi1 := Wi.hi (a := y) (n := 12) (by omega)
        rw [← hq0] at hi0 hi1 ⊢
        clear hq0
        obtain ⟨id, hid⟩ : ∃ id : Int, id = 1 + q0 := ⟨_, rfl⟩
        have hid0 : 0 ≤ id := by omega
        have hid1 : id ≤ 31 := by omega
        have HID := Lib.hid hid
        clear hid
        go_wp2_with fail
        rw [← HID.out]
        clear HID hi0 hi1
        have hw := wf_small id hid0 (by omega)
        obtain ⟨t1, t2, hS2⟩ := both_take2 (x := x) hp1 hS.out id hw
        have HME := Lib.hid (take_st2 (m := m) id hT.out.1)
        generalize (m.take id).1 = v at t1 t2
        generalize (m.take id).2 = m3 at t1 hS2 HME
        generalize (r.take id).2 = r3 at t2 hS2
        have T1 := Lib.hid t1
        have T2 := Lib.hid t2
        have HS2 := Lib.hid hS2
        clear t1 t2 hS2
        refine T1.out.mono ?_
        rintro e w4 ⟨rfl, h4, hc4⟩
        have b4 := hc4.below_of hb hb.size (fun k hk hF => by rcases hF with rfl | rfl <;> omega)
        have hr4 := hr1.chg hc4 (pf_no hpx hmx)
        have hq4 := hq1.chg hc4 (fun h => by rcases h with h | h <;> omega) (fun h => by rcases h with h | h <;> omega)
        clear T1 hc4 hp1 hr1 hq1 hb
        go_wp2_with fail
        refine (T2.out _ hr4).mono ?_
        rintro e w5 ⟨rfl, hr5, hc5⟩
        have b5 := hc5.below_of b4 b4.size (fun k hk hF => by have : k = x := hF; omega)
        have h5 := h4.chg hc5 (fun h => by have : p = x := h; omega) (fun h => by have : mb = x := h; omega)
        have hq5 := hq4.chg hc5 (fun h => by have : q = x := h; omega) (fun h => by have : qb = x := h; omega)
        clear T2 hc5 h4 hr4 hq4 b4
        by_cases hlt2 : j < n2
        · obtain ⟨b2, o2, rfl, hbl2, hcell2⟩ := hy.at_ (by omega)
          have hc2 := (b5.cell (p := ⟨b2, o2 + j, none⟩) hbl2).trans (hcell2 j hlt2)
          have HY := Lib.hid hy
          clear hcell2 hy
          generalize ys.getD j 0 = y2 at hc2
          go_wp2_with fail
          refine (within_calls _ _ _ (by omega) (by omega)).mono ?_
          rintro e w6 ⟨rfl, rfl⟩
          obtain ⟨q0, hq0⟩ : ∃ q0 : Int, q0 = Wi y2 12 := ⟨_, rfl⟩
          have hi0 := Wi.lo (a := y2) (n := 12) (by omega)
          have hi1 := Wi.hi (a := y2) (n := 12) (by omega)
          rw [← hq0] at hi0 hi1 ⊢
          clear hq0
          obtain ⟨id2, hid⟩ : ∃ id2 : Int, id2 = 1 + q0 := ⟨_, rfl⟩
          have hid0 : 0 ≤ id2 := by omega
          have hid1 : id2 ≤ 31 := by omega
          have HID := Lib.hid hid
          clear hid
          go_wp2_with fail
          rw [← HID.out]
          clear HID hi0 hi1
          have t := take_calls hq5 id2 (wf_small _ hid0 (by omega)) (by have := hT.out.2.2; omega)
          have hm4 := take_st2 (m := m2) id2 hT.out.2.1
          have HM4 := Lib.hid hm4
          clear hm4
          refine t.mono ?_
          clear t
          rintro e w6 ⟨rfl, hq6, hc6⟩
          have b6 := hc6.below_of b5 b5.size (fun k hk hF => by rcases hF with rfl | rfl <;> omega)
          have h6 := h5.chg hc6 (fun h => by rcases h with h | h <;> omega) (fun h => by rcases h with h | h <;> omega)
          have hr6 := hr5.chg hc6 (pf_no hqx hqbx)
          clear hc6 h5 hr5 hq5 b5
          generalize (m2.take id2).2 = m4 at hq6 HM4
          generalize (m2.take id2).1 = v2
          go_wp2_with fail
          go_roundw
          case rel => exact ⟨j + 1, _, m4, _, by omega, by omega, by go_num, h6, hq6, hr6, HS2, Lib.hid ⟨HME.out.1, HM4.out.1, by have := HM4.out.2; have := hT.out.2.2; omega⟩, b6⟩
          case measure => simp [vInt]; omega
        · go_wp2_with fail
          go_roundw
          case rel => exact ⟨j + 1, _, m2, _, by omega, by omega, by go_num, h5, hq5, hr5, HS2, Lib.hid ⟨HME.out.1, hT.out.2.1, by have := hT.out.2.2; omega⟩, b5⟩
          case measure => simp [vInt]; omega
      · skip
        have h2 : m.st = 2 := hT.out.1
        have hK0 := Lib.hid (kill_calls hq1 (by rw [hT.out.2.1]; decide) (by have := hT.out.2.2; omega))
        have hK1 := Lib.hid hS.out.sort
        have hsh := hS.out.short
        have hsh' := hS.out.short'
        have hrs : r.st ≠ 4 := by rw [← hS.out.st, h2]; decide
        have H2 := Lib.hid h2
        clear h2
        go_wp2_with fail
        refine hK0.out.mono ?_
        rintro e w4 ⟨v0, rfl, hrow0, hq4, hc4⟩
        have b4 := hc4.below_of hb hb.size (fun k hk hF => by rcases hF with rfl | rfl <;> omega)
        have h4 := hp1.chg hc4 (fun h => by rcases h with h | h <;> omega) (fun h => by rcases h with h | h <;> omega)
        have hr4 := hr1.chg hc4 (pf_no hqx hqbx)
        clear hK0 hc4 hp1 hr1 hq1 hb hrow0 hq4
        go_wp2_with fail
        refine (load_calls h4).mono ?_
        rintro e w5 ⟨rfl, rfl⟩
        go_wp2_with fail
        refine (same_load hr4 hS.out).mono ?_
        rintro e w5 ⟨rfl, rfl⟩
        go_wp2_with fail
        refine (state_calls h4).mono ?_
        rintro e w5 ⟨rfl, rfl⟩
        rw [H2.out]
        go_wp2_with fail
        have t := kill_calls h4 (by rw [H2.out]; decide) hsh
        rw [hK1.out] at t
        refine t.mono ?_
        clear t
        rintro e w5 ⟨v1, rfl, hrow1, h5, hc5⟩
        have b5 := hc5.below_of b4 b4.size (fun k hk hF => by rcases hF with rfl | rfl <;> omega)
        have hr5 := hr4.chg hc5 (pf_no hpx hmx)
        have hxl := (hr4.choose_spec.1).lt
        clear hc5 hr4 h4 b4 h5
        obtain ⟨A1, c1, rfl, _⟩ := hrow1.shape
        go_wp2_with fail
        refine (rkill_calls hr5 hrs).mono ?_
        rintro e w6 ⟨v2, rfl, hrow2, hr6, hc6⟩
        have b6 := hc6.below_of b5 b5.size (fun k hk hF => by have : k = x := hF; omega)
        have hrow1' := hrow1.chg hc6 (fun k hk h => by have : k = x := h; omega)
        clear hc6 hr5 hr6 hrow1 b5
        obtain ⟨A1', c1', he, hR1⟩ := hrow1'.reads hsh'
        obtain ⟨rfl, rfl⟩ : A1' = A1 ∧ c1' = c1 := by simpa [eq_comm] using he
        obtain ⟨A2', c2, rfl, hR2⟩ := hrow2.reads hsh'
        clear hrow1' hrow2 he
        go_wp2_with fail
        refine (ints_same hR1 hR2).mono ?_
        rintro e w7 ⟨rfl, nq, rfl⟩
        go_wp2_with fail
        go_ret
        exact ⟨rfl, ⟨b6.os, b6.tape, b6.output, b6.size, b6.block⟩⟩
    · skip
      have h2 : m.st = 2 := hT.out.1
      have hK0 := Lib.hid (kill_calls hq1 (by rw [hT.out.2.1]; decide) (by have := hT.out.2.2; omega))
      have hK1 := Lib.hid hS.out.sort
      have hsh := hS.out.short
      have hsh' := hS.out.short'
      have hrs : r.st ≠ 4 := by rw [← hS.out.st, h2]; decide
      have H2 := Lib.hid h2
      clear h2
      go_wp2_with fail
      refine hK0.out.mono ?_
      rintro e w4 ⟨v0, rfl, hrow0, hq4, hc4⟩
      have b4 := hc4.below_of hb hb.size (fun k hk hF => by rcases hF with rfl | rfl <;> omega)
      have h4 := hp1.chg hc4 (fun h => by rcases h with h | h <;> omega) (fun h => by rcases h with h | h <;> omega)
      have hr4 := hr1.chg hc4 (pf_no hqx hqbx)
      clear hK0 hc4 hp1 hr1 hq1 hb hrow0 hq4
      go_wp2_with fail
      refine (load_calls h4).mono ?_
      rintro e w5 ⟨rfl, rfl⟩
      go_wp2_with fail
      refine (same_load hr4 hS.out).mono ?_
      rintro e w5 ⟨rfl, rfl⟩
      go_wp2_with fail
      refine (state_calls h4).mono ?_
      rintro e w5 ⟨rfl, rfl⟩
      rw [H2.out]
      go_wp2_with fail
      have t := kill_calls h4 (by rw [H2.out]; decide) hsh
      rw [hK1.out] at t
      refine t.mono ?_
      clear t
      rintro e w5 ⟨v1, rfl, hrow1, h5, hc5⟩
      have b5 := hc5.below_of b4 b4.size (fun k hk hF => by rcases hF with rfl | rfl <;> omega)
      have hr5 := hr4.chg hc5 (pf_no hpx hmx)
      have hxl := (hr4.choose_spec.1).lt
      clear hc5 hr4 h4 b4 h5
      obtain ⟨A1, c1, rfl, _⟩ := hrow1.shape
      go_wp2_with fail
      refine (rkill_calls hr5 hrs).mono ?_
      rintro e w6 ⟨v2, rfl, hrow2, hr6, hc6⟩
      have b6 := hc6.below_of b5 b5.size (fun k hk hF => by have : k = x := hF; omega)
      have hrow1' := hrow1.chg hc6 (fun k hk h => by have : k = x := h; omega)
      clear hc6 hr5 hr6 hrow1 b5
      obtain ⟨A1', c1', he, hR1⟩ := hrow1'.reads hsh'
      obtain ⟨rfl, rfl⟩ : A1' = A1 ∧ c1' = c1 := by simpa [eq_comm] using he
      obtain ⟨A2', c2, rfl, hR2⟩ := hrow2.reads hsh'
      clear hrow1' hrow2 he
      go_wp2_with fail
      refine (ints_same hR1 hR2).mono ?_
      rintro e w7 ⟨rfl, nq, rfl⟩
      go_wp2_with fail
      go_ret
      exact ⟨rfl, ⟨b6.os, b6.tape, b6.output, b6.size, b6.block⟩⟩

end Go.Proofs.Ytefcchnmgnlanaa
