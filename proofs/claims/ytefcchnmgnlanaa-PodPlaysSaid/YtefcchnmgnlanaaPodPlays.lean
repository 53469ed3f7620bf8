/- PodPlays: the walk. (Printed by gen.py from plays.src.) -/
import Derived.Test.YtefcchnmgnlanaaSame
namespace Go.Proofs.Ytefcchnmgnlanaa
open Go.RowKit Go.Maps Go.Sort

set_option maxRecDepth 100000 in
set_option maxHeartbeats 4000000 in
theorem plays_walk (conc : Int) (A : Option Addr) (n cap : Nat) (xs : List Int) (w : World) (hx : Ints w A n xs) :
    Calls Try.prog 6 #[.int .i64 conc, .slice A n cap] w fun e w' => e = .returned (.bool true) ∧ Below w.heap.size w w' := by
  have hroom := hx.room
  go_enter Try.func6, Try.ntmps6
  go_wp2_with fail
  refine (known_calls _).mono ?_
  rintro e w1 ⟨rfl, hb1⟩
  go_wp2_with fail
  refine (within_calls _ _ _ (by omega) (by omega)).mono ?_
  rintro e w2 ⟨rfl, rfl⟩
  have hk0 := Wi.lo (a := conc) (n := 8) (by omega)
  have hk1 := Wi.hi (a := conc) (n := 8) (by omega)
  obtain ⟨R, hR⟩ : ∃ R : Int, R = 1 + Wi conc 8 := ⟨_, rfl⟩
  have hR0 : 0 ≤ R := by omega
  have hR8 : R ≤ 8 := by omega
  have HR := Lib.hid hR
  clear hR
  go_wp2_with fail
  rw [← HR.out]
  clear HR hk0 hk1
  refine (new_calls _ _).mono ?_
  rintro e w2 ⟨p, mb, rfl, h2, hp, hm, hb2⟩
  have b2 : Below w.heap.size w w2 := hb1.trans (hb2.mono hb1.size)
  have hp' : w.heap.size ≤ p := Nat.le_trans hb1.size hp
  have hm' : w.heap.size ≤ mb := Nat.le_trans hb1.size hm
  have hpl := h2.blk.lt
  have hml := h2.set.lt
  clear hp hm hb1 hb2
  go_wp2_with fail
  refine (rnew_calls _ _).mono ?_
  rintro e w3 ⟨x, rfl, hr3, hx3, hb3⟩
  have b3 : Below w.heap.size w w3 := b2.trans (hb3.mono b2.size)
  have h3 : PodAt w3 p mb ⟨1, R, []⟩ := h2.chg (Chg.of_below hb3 (F := fun _ => False) (fun k hk hk' => by omega)) (fun h => h) (fun h => h)
  have hpx : p < x := Nat.lt_of_lt_of_le hpl hx3
  have hmx : mb < x := Nat.lt_of_lt_of_le hml hx3
  have hxw : w.heap.size ≤ x := by omega
  have hS3 := Lib.hid (Same.new R hR0 hR8)
  clear h2 b2 hb3 hpl hml hx3 hR0 hR8
  go_wp2_with fail
  go_loopw [8] (fun v wr => ∃ (j : Nat) (m : PodM) (r : RefM), j ≤ n ∧ v = .int .i64 j ∧ PodAt wr p mb m ∧ RefAt wr x r ∧ Hid (Same m r) ∧ Below w.heap.size w wr) (fun v _ => n - (vInt v).toNat)
  case atStart => exact ⟨0, _, _, by omega, rfl, h3, hr3, hS3, b3⟩
  case round =>
    clear h3 hr3 hS3 b3
    obtain ⟨j, m, r, hj, rfl, hp1, hr1, hS, hb⟩ := hrel
    by_cases hlt : j < n
    · by_cases h80 : j < 80
      · obtain ⟨b, o, rfl, hbl, hcell⟩ := hx.at_ (by omega)
        have hc := (hb.cell (p := ⟨b, o + j, none⟩) hbl).trans (hcell j hlt)
        have HX := Lib.hid hx
        clear hcell hx
        generalize xs.getD j 0 = y at hc
        go_wp2_with fail
        refine (within_calls _ _ _ (by omega) (by omega)).mono ?_
        rintro e w4 ⟨rfl, rfl⟩
        obtain ⟨q, hq⟩ : ∃ q : Int, q = Wi (wrap64 (y.tdiv 16)) 10 := ⟨_, rfl⟩
        have hi0 := Wi.lo (a := wrap64 (y.tdiv 16)) (n := 10) (by omega)
        have hi1 := Wi.hi (a := wrap64 (y.tdiv 16)) (n := 10) (by omega)
        rw [← hq] at hi0 hi1 ⊢
        clear hq
        obtain ⟨id, hid⟩ : ∃ id : Int, id = 1 + q := ⟨_, rfl⟩
        have hid0 : 0 ≤ id := by omega
        have hid1 : id ≤ 31 := by omega
        have HID := Lib.hid hid
        clear hid
        go_wp2_with fail
        rw [← HID.out]
        clear HID hi0 hi1
        refine (within_calls _ _ _ (by omega) (by omega)).mono ?_
        rintro e w4 ⟨rfl, rfl⟩
        obtain ⟨k, hk⟩ : ∃ k : Int, k = Wi y 16 := ⟨_, rfl⟩
        have hk0 := Wi.lo (a := y) (n := 16) (by omega)
        have hk1 := Wi.hi (a := y) (n := 16) (by omega)
        rw [← hk] at hk0 hk1 ⊢
        clear hk
        have hw := wf_small id hid0 (by omega)
        rcases (show k = 0 ∨ k = 1 ∨ k = 2 ∨ k = 3 ∨ k = 4 ∨ k = 5 ∨ k = 6 ∨ k = 7 ∨ k = 8 ∨ 9 ≤ k by omega) with rfl | rfl | rfl | rfl | rfl | rfl | rfl | rfl | rfl | hk9
        · skip
          obtain ⟨v, m2, r2, t1, t2, hS2⟩ := both_up (x := x) hp1 hS.out
          have T1 := Lib.hid t1
          have T2 := Lib.hid t2
          have HS2 := Lib.hid hS2
          clear t1 t2 hS2
          go_wp2_with fail
          refine T1.out.mono ?_
          rintro e w4 ⟨rfl, h4, hc4⟩
          have b4 := hc4.below_of hb hb.size (fun k hk hF => by rcases hF with rfl | rfl <;> omega)
          have hr4 := hr1.chg hc4 (pf_no hpx hmx)
          clear T1 hc4 hp1 hr1 hb
          go_wp2_with fail
          refine (T2.out _ hr4).mono ?_
          rintro e w5 ⟨rfl, hr5, hc5⟩
          have b5 := hc5.below_of b4 b4.size (fun k hk hF => by have : k = x := hF; omega)
          have h5 := h4.chg hc5 (fun h => by have : p = x := h; omega) (fun h => by have : mb = x := h; omega)
          clear T2 hc5 h4 hr4 b4
          go_wp2_with fail
          refine (state_calls h5).mono ?_
          rintro e w6 ⟨rfl, rfl⟩
          go_wp2_with fail
          refine (same_state hr5 HS2.out).mono ?_
          rintro e w6 ⟨rfl, rfl⟩
          go_wp2_with fail
          refine (load_calls h5).mono ?_
          rintro e w6 ⟨rfl, rfl⟩
          go_wp2_with fail
          refine (same_load hr5 HS2.out).mono ?_
          rintro e w6 ⟨rfl, rfl⟩
          go_wp2_with fail
          go_roundw
          case rel => exact ⟨j + 1, m2, r2, by omega, by go_num, h5, hr5, HS2, b5⟩
          case measure => simp [vInt]; omega
        · skip
          obtain ⟨v, m2, r2, t1, t2, hS2⟩ := both_up (x := x) hp1 hS.out
          have T1 := Lib.hid t1
          have T2 := Lib.hid t2
          have HS2 := Lib.hid hS2
          clear t1 t2 hS2
          go_wp2_with fail
          refine T1.out.mono ?_
          rintro e w4 ⟨rfl, h4, hc4⟩
          have b4 := hc4.below_of hb hb.size (fun k hk hF => by rcases hF with rfl | rfl <;> omega)
          have hr4 := hr1.chg hc4 (pf_no hpx hmx)
          clear T1 hc4 hp1 hr1 hb
          go_wp2_with fail
          refine (T2.out _ hr4).mono ?_
          rintro e w5 ⟨rfl, hr5, hc5⟩
          have b5 := hc5.below_of b4 b4.size (fun k hk hF => by have : k = x := hF; omega)
          have h5 := h4.chg hc5 (fun h => by have : p = x := h; omega) (fun h => by have : mb = x := h; omega)
          clear T2 hc5 h4 hr4 b4
          go_wp2_with fail
          refine (state_calls h5).mono ?_
          rintro e w6 ⟨rfl, rfl⟩
          go_wp2_with fail
          refine (same_state hr5 HS2.out).mono ?_
          rintro e w6 ⟨rfl, rfl⟩
          go_wp2_with fail
          refine (load_calls h5).mono ?_
          rintro e w6 ⟨rfl, rfl⟩
          go_wp2_with fail
          refine (same_load hr5 HS2.out).mono ?_
          rintro e w6 ⟨rfl, rfl⟩
          go_wp2_with fail
          go_roundw
          case rel => exact ⟨j + 1, m2, r2, by omega, by go_num, h5, hr5, HS2, b5⟩
          case measure => simp [vInt]; omega
        · skip
          obtain ⟨v, m2, r2, t1, t2, hS2⟩ := both_drain (x := x) hp1 hS.out
          have T1 := Lib.hid t1
          have T2 := Lib.hid t2
          have HS2 := Lib.hid hS2
          clear t1 t2 hS2
          go_wp2_with fail
          refine T1.out.mono ?_
          rintro e w4 ⟨rfl, h4, hc4⟩
          have b4 := hc4.below_of hb hb.size (fun k hk hF => by rcases hF with rfl | rfl <;> omega)
          have hr4 := hr1.chg hc4 (pf_no hpx hmx)
          clear T1 hc4 hp1 hr1 hb
          go_wp2_with fail
          refine (T2.out _ hr4).mono ?_
          rintro e w5 ⟨rfl, hr5, hc5⟩
          have b5 := hc5.below_of b4 b4.size (fun k hk hF => by have : k = x := hF; omega)
          have h5 := h4.chg hc5 (fun h => by have : p = x := h; omega) (fun h => by have : mb = x := h; omega)
          clear T2 hc5 h4 hr4 b4
          go_wp2_with fail
          refine (state_calls h5).mono ?_
          rintro e w6 ⟨rfl, rfl⟩
          go_wp2_with fail
          refine (same_state hr5 HS2.out).mono ?_
          rintro e w6 ⟨rfl, rfl⟩
          go_wp2_with fail
          refine (load_calls h5).mono ?_
          rintro e w6 ⟨rfl, rfl⟩
          go_wp2_with fail
          refine (same_load hr5 HS2.out).mono ?_
          rintro e w6 ⟨rfl, rfl⟩
          go_wp2_with fail
          go_roundw
          case rel => exact ⟨j + 1, m2, r2, by omega, by go_num, h5, hr5, HS2, b5⟩
          case measure => simp [vInt]; omega
        · go_wp2_with fail
          refine (within_calls _ _ _ (by omega) (by omega)).mono ?_
          rintro e w4 ⟨rfl, rfl⟩
          obtain ⟨k, hk⟩ : ∃ k : Int, k = Wi (wrap64 (y.tdiv 160)) 4 := ⟨_, rfl⟩
          rw [← hk]
          clear hk
          by_cases hk : k = 0
          · subst hk
            by_cases h4 : m.st = 4
            · have hr4 : r.st = 4 := hS.out.st ▸ h4
              have K1 := Lib.hid (kill_dead hp1 h4)
              have K2 := Lib.hid (rkill_dead hr1 hr4)
              clear h4 hr4
              go_wp2_with fail
              refine K1.out.mono ?_
              rintro e w4 ⟨rfl, rfl⟩
              go_wp2_with fail
              refine K2.out.mono ?_
              rintro e w4 ⟨rfl, rfl⟩
              clear K1 K2
              have hR : Reads wr none [] := ⟨by simp, fun h => absurd h (by simp)⟩
              go_wp2_with fail
              refine (ints_same (c := 0) (d := 0) hR hR).mono ?_
              rintro e w4 ⟨rfl, nq, rfl⟩
              have h5 := hp1.chg ((Chg.refl (fun _ => False) _).drewN nq) (fun h => h) (fun h => h)
              have hr5 := hr1.chg ((Chg.refl (fun _ => False) _).drewN nq) (fun _ _ h => h)
              have b5 : Below w.heap.size w (wr.drewN nq) := ⟨hb.os, hb.tape, hb.output, hb.size, hb.block⟩
              clear hp1 hr1 hb hR
              generalize wr.drewN nq = w5 at h5 hr5 b5 ⊢
              go_wp2_with fail
              refine (state_calls h5).mono ?_
              rintro e w6 ⟨rfl, rfl⟩
              go_wp2_with fail
              refine (same_state hr5 hS.out).mono ?_
              rintro e w6 ⟨rfl, rfl⟩
              go_wp2_with fail
              refine (load_calls h5).mono ?_
              rintro e w6 ⟨rfl, rfl⟩
              go_wp2_with fail
              refine (same_load hr5 hS.out).mono ?_
              rintro e w6 ⟨rfl, rfl⟩
              go_wp2_with fail
              go_roundw
              case rel => exact ⟨j + 1, m, r, by omega, by go_num, h5, hr5, hS, b5⟩
              case measure => simp [vInt]; omega
            · have hr4 : r.st ≠ 4 := hS.out.st ▸ h4
              have K1 := Lib.hid (hS.out.sort ▸ kill_calls hp1 h4 hS.out.short)
              have hsk := Lib.hid hS.out.kill
              have hsh := hS.out.short'
              clear h4
              go_wp2_with fail
              refine K1.out.mono ?_
              rintro e w4 ⟨v1, rfl, hrow1, h4, hc4⟩
              have b4 := hc4.below_of hb hb.size (fun k hk hF => by rcases hF with rfl | rfl <;> omega)
              have hr4x := hr1.chg hc4 (pf_no hpx hmx)
              have hxl := (hr1.choose_spec.1).lt
              clear K1 hc4 hp1 hr1
              have K2 := Lib.hid (rkill_calls hr4x hr4)
              clear hr4
              obtain ⟨A1, c1, rfl, _⟩ := hrow1.shape
              go_wp2_with fail
              refine K2.out.mono ?_
              rintro e w5 ⟨v2, rfl, hrow2, hr5, hc5⟩
              have b5 := hc5.below_of b4 b4.size (fun k hk hF => by have : k = x := hF; omega)
              have h5 := h4.chg hc5 (fun h => by have : p = x := h; omega) (fun h => by have : mb = x := h; omega)
              have hrow1' := hrow1.chg hc5 (fun k hk h => by have : k = x := h; omega)
              clear K2 hc5 hr4x hrow1 h4 b4
              obtain ⟨A1', c1', he, hR1⟩ := hrow1'.reads hsh
              obtain ⟨rfl, rfl⟩ : A1' = A1 ∧ c1' = c1 := by simpa [eq_comm] using he
              obtain ⟨A2, c2, rfl, hR2⟩ := hrow2.reads hsh
              clear hrow1' hrow2 he
              go_wp2_with fail
              refine (ints_same hR1 hR2).mono ?_
              rintro e w6 ⟨rfl, nq, rfl⟩
              have h6 := h5.chg ((Chg.refl (fun _ => False) _).drewN nq) (fun h => h) (fun h => h)
              have hr6 := hr5.chg ((Chg.refl (fun _ => False) _).drewN nq) (fun _ _ h => h)
              have b6 : Below w.heap.size w (w5.drewN nq) := ⟨b5.os, b5.tape, b5.output, b5.size, b5.block⟩
              clear h5 hr5 b5 hR1 hR2 hb
              have h5 := h6; have hr5 := hr6; have b5 := b6
              clear h6 hr6 b6
              generalize w5.drewN nq = w5 at h5 hr5 b5 ⊢
              go_wp2_with fail
              refine (state_calls h5).mono ?_
              rintro e w6 ⟨rfl, rfl⟩
              go_wp2_with fail
              refine (same_state hr5 hsk.out).mono ?_
              rintro e w6 ⟨rfl, rfl⟩
              go_wp2_with fail
              refine (load_calls h5).mono ?_
              rintro e w6 ⟨rfl, rfl⟩
              go_wp2_with fail
              refine (same_load hr5 hsk.out).mono ?_
              rintro e w6 ⟨rfl, rfl⟩
              go_wp2_with fail
              go_roundw
              case rel => exact ⟨j + 1, _, _, by omega, by go_num, h5, hr5, hsk, b5⟩
              case measure => simp [vInt]; omega
          · have hk' : (k == 0) = false := by simp [hk]
            clear hk
            go_wp2_with fail
            have h5 := hp1; have hr5 := hr1; have b5 := hb
            clear hp1 hr1 hb
            refine (state_calls h5).mono ?_
            rintro e w6 ⟨rfl, rfl⟩
            go_wp2_with fail
            refine (same_state hr5 hS.out).mono ?_
            rintro e w6 ⟨rfl, rfl⟩
            go_wp2_with fail
            refine (load_calls h5).mono ?_
            rintro e w6 ⟨rfl, rfl⟩
            go_wp2_with fail
            refine (same_load hr5 hS.out).mono ?_
            rintro e w6 ⟨rfl, rfl⟩
            go_wp2_with fail
            go_roundw
            case rel => exact ⟨j + 1, m, r, by omega, by go_num, h5, hr5, hS, b5⟩
            case measure => simp [vInt]; omega
        · skip
          obtain ⟨v, m2, r2, t1, t2, hS2⟩ := both_give (x := x) hp1 hS.out id hw
          have T1 := Lib.hid t1
          have T2 := Lib.hid t2
          have HS2 := Lib.hid hS2
          clear t1 t2 hS2
          go_wp2_with fail
          refine T1.out.mono ?_
          rintro e w4 ⟨rfl, h4, hc4⟩
          have b4 := hc4.below_of hb hb.size (fun k hk hF => by rcases hF with rfl | rfl <;> omega)
          have hr4 := hr1.chg hc4 (pf_no hpx hmx)
          clear T1 hc4 hp1 hr1 hb
          go_wp2_with fail
          refine (T2.out _ hr4).mono ?_
          rintro e w5 ⟨rfl, hr5, hc5⟩
          have b5 := hc5.below_of b4 b4.size (fun k hk hF => by have : k = x := hF; omega)
          have h5 := h4.chg hc5 (fun h => by have : p = x := h; omega) (fun h => by have : mb = x := h; omega)
          clear T2 hc5 h4 hr4 b4
          go_wp2_with fail
          refine (state_calls h5).mono ?_
          rintro e w6 ⟨rfl, rfl⟩
          go_wp2_with fail
          refine (same_state hr5 HS2.out).mono ?_
          rintro e w6 ⟨rfl, rfl⟩
          go_wp2_with fail
          refine (load_calls h5).mono ?_
          rintro e w6 ⟨rfl, rfl⟩
          go_wp2_with fail
          refine (same_load hr5 HS2.out).mono ?_
          rintro e w6 ⟨rfl, rfl⟩
          go_wp2_with fail
          go_roundw
          case rel => exact ⟨j + 1, m2, r2, by omega, by go_num, h5, hr5, HS2, b5⟩
          case measure => simp [vInt]; omega
        · skip
          obtain ⟨v, m2, r2, t1, t2, hS2⟩ := both_give (x := x) hp1 hS.out id hw
          have T1 := Lib.hid t1
          have T2 := Lib.hid t2
          have HS2 := Lib.hid hS2
          clear t1 t2 hS2
          go_wp2_with fail
          refine T1.out.mono ?_
          rintro e w4 ⟨rfl, h4, hc4⟩
          have b4 := hc4.below_of hb hb.size (fun k hk hF => by rcases hF with rfl | rfl <;> omega)
          have hr4 := hr1.chg hc4 (pf_no hpx hmx)
          clear T1 hc4 hp1 hr1 hb
          go_wp2_with fail
          refine (T2.out _ hr4).mono ?_
          rintro e w5 ⟨rfl, hr5, hc5⟩
          have b5 := hc5.below_of b4 b4.size (fun k hk hF => by have : k = x := hF; omega)
          have h5 := h4.chg hc5 (fun h => by have : p = x := h; omega) (fun h => by have : mb = x := h; omega)
          clear T2 hc5 h4 hr4 b4
          go_wp2_with fail
          refine (state_calls h5).mono ?_
          rintro e w6 ⟨rfl, rfl⟩
          go_wp2_with fail
          refine (same_state hr5 HS2.out).mono ?_
          rintro e w6 ⟨rfl, rfl⟩
          go_wp2_with fail
          refine (load_calls h5).mono ?_
          rintro e w6 ⟨rfl, rfl⟩
          go_wp2_with fail
          refine (same_load hr5 HS2.out).mono ?_
          rintro e w6 ⟨rfl, rfl⟩
          go_wp2_with fail
          go_roundw
          case rel => exact ⟨j + 1, m2, r2, by omega, by go_num, h5, hr5, HS2, b5⟩
          case measure => simp [vInt]; omega
        · skip
          obtain ⟨v, m2, r2, t1, t2, hS2⟩ := both_give (x := x) hp1 hS.out id hw
          have T1 := Lib.hid t1
          have T2 := Lib.hid t2
          have HS2 := Lib.hid hS2
          clear t1 t2 hS2
          go_wp2_with fail
          refine T1.out.mono ?_
          rintro e w4 ⟨rfl, h4, hc4⟩
          have b4 := hc4.below_of hb hb.size (fun k hk hF => by rcases hF with rfl | rfl <;> omega)
          have hr4 := hr1.chg hc4 (pf_no hpx hmx)
          clear T1 hc4 hp1 hr1 hb
          go_wp2_with fail
          refine (T2.out _ hr4).mono ?_
          rintro e w5 ⟨rfl, hr5, hc5⟩
          have b5 := hc5.below_of b4 b4.size (fun k hk hF => by have : k = x := hF; omega)
          have h5 := h4.chg hc5 (fun h => by have : p = x := h; omega) (fun h => by have : mb = x := h; omega)
          clear T2 hc5 h4 hr4 b4
          go_wp2_with fail
          refine (state_calls h5).mono ?_
          rintro e w6 ⟨rfl, rfl⟩
          go_wp2_with fail
          refine (same_state hr5 HS2.out).mono ?_
          rintro e w6 ⟨rfl, rfl⟩
          go_wp2_with fail
          refine (load_calls h5).mono ?_
          rintro e w6 ⟨rfl, rfl⟩
          go_wp2_with fail
          refine (same_load hr5 HS2.out).mono ?_
          rintro e w6 ⟨rfl, rfl⟩
          go_wp2_with fail
          go_roundw
          case rel => exact ⟨j + 1, m2, r2, by omega, by go_num, h5, hr5, HS2, b5⟩
          case measure => simp [vInt]; omega
        · skip
          obtain ⟨v, m2, r2, t1, t2, hS2⟩ := both_give (x := x) hp1 hS.out id hw
          have T1 := Lib.hid t1
          have T2 := Lib.hid t2
          have HS2 := Lib.hid hS2
          clear t1 t2 hS2
          go_wp2_with fail
          refine T1.out.mono ?_
          rintro e w4 ⟨rfl, h4, hc4⟩
          have b4 := hc4.below_of hb hb.size (fun k hk hF => by rcases hF with rfl | rfl <;> omega)
          have hr4 := hr1.chg hc4 (pf_no hpx hmx)
          clear T1 hc4 hp1 hr1 hb
          go_wp2_with fail
          refine (T2.out _ hr4).mono ?_
          rintro e w5 ⟨rfl, hr5, hc5⟩
          have b5 := hc5.below_of b4 b4.size (fun k hk hF => by have : k = x := hF; omega)
          have h5 := h4.chg hc5 (fun h => by have : p = x := h; omega) (fun h => by have : mb = x := h; omega)
          clear T2 hc5 h4 hr4 b4
          go_wp2_with fail
          refine (state_calls h5).mono ?_
          rintro e w6 ⟨rfl, rfl⟩
          go_wp2_with fail
          refine (same_state hr5 HS2.out).mono ?_
          rintro e w6 ⟨rfl, rfl⟩
          go_wp2_with fail
          refine (load_calls h5).mono ?_
          rintro e w6 ⟨rfl, rfl⟩
          go_wp2_with fail
          refine (same_load hr5 HS2.out).mono ?_
          rintro e w6 ⟨rfl, rfl⟩
          go_wp2_with fail
          go_roundw
          case rel => exact ⟨j + 1, m2, r2, by omega, by go_num, h5, hr5, HS2, b5⟩
          case measure => simp [vInt]; omega
        · skip
          obtain ⟨v, m2, r2, t1, t2, hS2⟩ := both_give (x := x) hp1 hS.out id hw
          have T1 := Lib.hid t1
          have T2 := Lib.hid t2
          have HS2 := Lib.hid hS2
          clear t1 t2 hS2
          go_wp2_with fail
          refine T1.out.mono ?_
          rintro e w4 ⟨rfl, h4, hc4⟩
          have b4 := hc4.below_of hb hb.size (fun k hk hF => by rcases hF with rfl | rfl <;> omega)
          have hr4 := hr1.chg hc4 (pf_no hpx hmx)
          clear T1 hc4 hp1 hr1 hb
          go_wp2_with fail
          refine (T2.out _ hr4).mono ?_
          rintro e w5 ⟨rfl, hr5, hc5⟩
          have b5 := hc5.below_of b4 b4.size (fun k hk hF => by have : k = x := hF; omega)
          have h5 := h4.chg hc5 (fun h => by have : p = x := h; omega) (fun h => by have : mb = x := h; omega)
          clear T2 hc5 h4 hr4 b4
          go_wp2_with fail
          refine (state_calls h5).mono ?_
          rintro e w6 ⟨rfl, rfl⟩
          go_wp2_with fail
          refine (same_state hr5 HS2.out).mono ?_
          rintro e w6 ⟨rfl, rfl⟩
          go_wp2_with fail
          refine (load_calls h5).mono ?_
          rintro e w6 ⟨rfl, rfl⟩
          go_wp2_with fail
          refine (same_load hr5 HS2.out).mono ?_
          rintro e w6 ⟨rfl, rfl⟩
          go_wp2_with fail
          go_roundw
          case rel => exact ⟨j + 1, m2, r2, by omega, by go_num, h5, hr5, HS2, b5⟩
          case measure => simp [vInt]; omega
        · have e0 : (k == 0) = false := by simp; omega
          have e1 : (k == 1) = false := by simp; omega
          have e2 : (k == 2) = false := by simp; omega
          have e3 : (k == 3) = false := by simp; omega
          have e4 : (k == 4) = false := by simp; omega
          have e5 : (k == 5) = false := by simp; omega
          have e6 : (k == 6) = false := by simp; omega
          have e7 : (k == 7) = false := by simp; omega
          have e8 : (k == 8) = false := by simp; omega
          clear hk9
          obtain ⟨v, m2, r2, t1, t2, hS2⟩ := both_take (x := x) hp1 hS.out id hw
          have T1 := Lib.hid t1
          have T2 := Lib.hid t2
          have HS2 := Lib.hid hS2
          clear t1 t2 hS2
          go_wp2_with fail
          refine T1.out.mono ?_
          rintro e w4 ⟨rfl, h4, hc4⟩
          have b4 := hc4.below_of hb hb.size (fun k hk hF => by rcases hF with rfl | rfl <;> omega)
          have hr4 := hr1.chg hc4 (pf_no hpx hmx)
          clear T1 hc4 hp1 hr1 hb
          go_wp2_with fail
          refine (T2.out _ hr4).mono ?_
          rintro e w5 ⟨rfl, hr5, hc5⟩
          have b5 := hc5.below_of b4 b4.size (fun k hk hF => by have : k = x := hF; omega)
          have h5 := h4.chg hc5 (fun h => by have : p = x := h; omega) (fun h => by have : mb = x := h; omega)
          clear T2 hc5 h4 hr4 b4
          go_wp2_with fail
          refine (state_calls h5).mono ?_
          rintro e w6 ⟨rfl, rfl⟩
          go_wp2_with fail
          refine (same_state hr5 HS2.out).mono ?_
          rintro e w6 ⟨rfl, rfl⟩
          go_wp2_with fail
          refine (load_calls h5).mono ?_
          rintro e w6 ⟨rfl, rfl⟩
          go_wp2_with fail
          refine (same_load hr5 HS2.out).mono ?_
          rintro e w6 ⟨rfl, rfl⟩
          go_wp2_with fail
          go_roundw
          case rel => exact ⟨j + 1, m2, r2, by omega, by go_num, h5, hr5, HS2, b5⟩
          case measure => simp [vInt]; omega
      · go_wp2_with fail
        go_ret
        exact ⟨rfl, hb⟩
    · go_wp2_with fail
      go_ret
      exact ⟨rfl, hb⟩

end Go.Proofs.Ytefcchnmgnlanaa
