/- LeadAgain: the walk. (Printed by leadlaws.py and genx.py.) -/
import Derived.Test.YtnkmpkhiilnigaaGLeadS
namespace Go.Proofs.Ytnkmpkhiilnigaa.PA
open Go.RowKit Go.Shelf Go.Lib Go.Sort Go.Proofs.YtnkmpkhiilnigaaW.PrintWords Go.Proofs.YtnkmpkhiilnigaaW.PrintLast

def nmFront : ByteArray := ⟨#[102, 114, 111, 110, 116]⟩
def nmBack : ByteArray := ⟨#[98, 97, 99, 107]⟩
def nmStill : ByteArray := ⟨#[115, 116, 105, 108, 108]⟩

set_option maxRecDepth 100000 in
set_option maxHeartbeats 4000000 in
theorem again_law (A0 : Option Addr) (c0 : Nat) (l0 : List Int) (A1 : Option Addr) (c1 : Nat) (l1 : List Int) (A2 : Option Addr) (c2 : Nat) (l2 : List Int) (a3 : Int) (w : World) (hr0 : Kd.C (Kd.int .i64) w A0 l0.length l0) (hc0 : l0.length ≤ c0) (hr1 : Kd.C (Kd.int .i64) w A1 l1.length l1) (hc1 : l1.length ≤ c1) (hr2 : Kd.C (Kd.int .i64) w A2 l2.length l2) (_hc2 : l2.length ≤ c2) :
    Calls Try.prog 6 #[.slice A0 l0.length c0, .slice A1 l1.length c1, .slice A2 l2.length c2, .int .i64 a3] w fun e w' => e = .returned (.bool true) ∧ Below w.heap.size w w' := by

  obtain ⟨k0, a, ha, ta⟩ := shares_tab l0
  obtain ⟨k1, y, hy, ty⟩ := shares_tab l1
  have HA := Lib.hid ha
  have HY := Lib.hid hy
  have TA := Lib.hid ta
  have TY := Lib.hid ty
  have HR0 := Lib.hid hr0
  have HR1 := Lib.hid hr1
  have HR2 := Lib.hid hr2
  clear hr2
  clear ha hy ta ty hr0 hr1
  go_enter Try.func6, Try.ntmps6
  go_wp2_with fail
  refine (known13 _).mono ?_
  rintro e w1 ⟨rfl, hb1⟩
  go_wp2_with fail
  refine (newS _).mono ?_
  rintro e w2 ⟨p, b, rfl, R2, hp, hb, hb2⟩
  have b2 := hb1.trans (hb2.mono hb1.size)
  have hbw : w.heap.size ≤ b := Nat.le_trans hb1.size hb
  have hbl2 := R2.lt.2.1
  go_wp2_with fail
  refine (make_nil A0 c0 l0 _ (Kd.C_below HR0.out b2) hc0 k0 a HA.out).mono ?_
  rintro e w3 ⟨Ax, cx, rfl, hx0, hx1, hx2, hb3⟩
  have b3 := b2.trans (hb3.mono b2.size)
  have R3 := R2.below hb3
  go_wp2_with fail
  refine (make_nil A1 c1 l1 _ (Kd.C_below HR1.out b3) hc1 k1 y HY.out).mono ?_
  rintro e w4 ⟨Ay, cy, rfl, hy0, hy1, hy2, hb4⟩
  have b4 := b3.trans (hb4.mono b3.size)
  have R4 := R3.below hb4
  obtain ⟨gx, hgx⟩ : ∃ gx, gx = w4.heap.size := ⟨_, rfl⟩
  obtain ⟨W5, hW5⟩ : ∃ W5, W5 = (w4.alloc (.cells #[.slice Ax a.length cx, .slice none 0 0] 29)).alloc (.cells #[.slice Ay y.length cy, .slice none 0 0] 29) := ⟨_, rfl⟩
  have bW5 : Below w4.heap.size w4 W5 := by rw [hW5]; exact ((Below.refl _ _).alloc (Nat.le_refl _) _).alloc (by simp) _
  have kx : Blk W5 gx #[.slice Ax a.length cx, .slice none 0 0] 29 := by rw [hW5, hgx]; exact (Blk.new _ _ _).alloc _
  have ky : Blk W5 (gx + 1) #[.slice Ay y.length cy, .slice none 0 0] 29 := by
    rw [hW5, hgx]
    have := Blk.new (w4.alloc (.cells #[.slice Ax a.length cx, .slice none 0 0] 29)) #[.slice Ay y.length cy, .slice none 0 0] 29
    simpa using this
  have R5 := Lib.hid (R4.below bW5)
  have z23 := hb3.size
  have z34 := hb4.size
  have hbgx : b < gx := by omega
  have hgb : gx ≠ b := by omega
  have hgb1 : gx + 1 ≠ b := by omega
  obtain ⟨P, hst, hex, hP5⟩ : ∃ P : World → Prop, Stable b P ∧ (∀ W, P W → RowS b Ax a W ∧ RowS b Ay y W ∧ Blk W gx #[.slice Ax a.length cx, .slice none 0 0] 29 ∧ Blk W (gx + 1) #[.slice Ay y.length cy, .slice none 0 0] 29 ∧ Below w.heap.size w W) ∧ P W5 :=
    ⟨_, (Stable.rowS b Ax a).and ((Stable.rowS b Ay y).and ((Stable.blk hgb _ _).and ((Stable.blk hgb1 _ _).and (Stable.below w hbw)))), fun W h => h,
      ⟨Kd.C_below (Kd.C_below hx1 hb4) bW5, hx2.mono (fun k (hk : w2.heap.size ≤ k) _ _ _ _ => by omega)⟩, ⟨Kd.C_below hy1 bW5, hy2.mono (fun k (hk : w3.heap.size ≤ k) _ _ _ _ => by omega)⟩, kx, ky, b4.trans (bW5.mono b4.size)⟩
  have HST := Lib.hid hst
  have HEX := Lib.hid hex
  have P5 := Lib.hid hP5
  clear hx1 hy1 hx2 hy2 hb1 hb2 hb3 hb4 b2 b3 b4 R2 R3 R4 kx ky bW5 hst hex hP5
  go_wp2_with fail
  rw [← hW5, ← hgx]
  clear hW5 hgx hp hb hbl2 z23 z34
  have hwi := Lib.hid (within13 a3 61 (by omega) (by omega))
  have wh0 := Int.emod_nonneg a3 (b := 61) (by omega)
  have wh1 := Int.emod_lt_of_pos a3 (b := 61) (by omega)
  refine (damperlaw13_within.calls a3 61 (a3 % 61) _ hwi.out).mono ?_
  rintro e W6 ⟨rfl, hd_⟩
  have hd_ := hd_.below
  clear hwi
  have R6 := Lib.hid (R5.out.below hd_)
  have P6 := Lib.hid (HST.out _ _ (chg_below hd_) P5.out)
  obtain ⟨wh, hwh⟩ : ∃ wh, wh = a3 % 61 := ⟨_, rfl⟩
  rw [← hwh] at wh0 wh1 ⊢
  clear hwh hd_ R5 P5
  have f_ := HEX.out _ P6.out
  have qx0 := f_.2.2.1.cell 0
  have qx1 := f_.2.2.1.cell 1
  simp only [List.getElem?_toArray, List.getElem?_cons_zero, List.getElem?_cons_succ] at qx0 qx1
  clear f_
  go_wp2_with fail
  refine (turn0 R6.out (OkM.none 0) nmFront (by decide) (by decide) Ax cx a (HEX.out _ P6.out).1 TA.out 0 wh (by omega) (by omega) (by omega) (by omega)).mono ?_
  rintro e W7 ⟨A7, c7, B7, d7, rfl, _, R7, O7, hc7⟩
  have hstl : Hid (Still a wh (setWay nmFront.data.toList (some (turnW (noWays nmFront.data.toList) a [] 0 wh)) noWays nmStill.data.toList)) := Lib.hid (fun m e => by
    rw [setWay_other (by decide)] at e
    cases e)
  generalize setWay nmFront.data.toList (some (turnW (noWays nmFront.data.toList) a [] 0 wh)) noWays = M at R7 O7 hstl
  have HR7 := Lib.hid R7
  have HO7 := Lib.hid O7
  clear R7 O7
  have P7 := Lib.hid (HST.out _ _ hc7 P6.out)
  clear qx0 qx1
  clear hc7 R6 P6
  go_wp2_with fail
  go_loopw [13, 14] (fun v13 v14 wr => ∃ (i : Nat) (t : Int) (M : List UInt8 → Option WayM), i ≤ l2.length ∧ i ≤ 20 ∧ v13 = .int .i64 t ∧ 0 ≤ t ∧ t ≤ 3 * (i : Int) ∧ v14 = .int .i64 i ∧ Hid (RollerS wr p b M) ∧ Hid (OkM M t) ∧ Hid (Still a wh (M nmStill.data.toList)) ∧ Hid (P wr)) (fun _ v14 _ => l2.length - (vI v14).toNat)
  case atStart => exact ⟨0, 0, M, by omega, by omega, rfl, by omega, by omega, rfl, HR7, HO7, hstl, P7⟩
  case round =>
    clear HR7 HO7 hstl P7 M
    obtain ⟨i, t, M, hi, hi20, rfl, ht0, ht1, rfl, RR, OO, SS, PP⟩ := hrel
    by_cases hlt : i < l2.length
    · by_cases h20 : i < 20
      · have hlt' : (i : Int) < (l2.length : Int) := by omega
        obtain ⟨ad, rfl, hce⟩ := Kd.at_int (Kd.C_below HR2.out (HEX.out _ PP.out).2.2.2.2) (i : Int) (by omega) hlt'
        rw [Int.toNat_natCast] at hce
        generalize rd l2 i = nx at hce
        go_wp2_with fail
        have hwi := Lib.hid (within13 nx 4 (by omega) (by omega))
        have q0 := Int.emod_nonneg nx (b := 4) (by omega)
        have q1 := Int.emod_lt_of_pos nx (b := 4) (by omega)
        refine (damperlaw13_within.calls nx 4 (nx % 4) _ hwi.out).mono ?_
        rintro e W8 ⟨rfl, hd_⟩
        have hd_ := hd_.below
        clear hwi
        have RR := Lib.hid (RR.out.below hd_)
        have PP := Lib.hid (HST.out _ _ (chg_below hd_) PP.out)
        generalize nx % 4 = q at q0 q1 ⊢
        obtain ⟨u, hu⟩ : ∃ u, u = t + q := ⟨_, rfl⟩
        have hu0 : 0 ≤ u := by omega
        have hu1 : u ≤ 3 * ((i : Int) + 1) := by omega
        have htu : t ≤ u := by omega
        have HU := Lib.hid hu
        clear hu hce hd_
        have f_ := HEX.out _ PP.out
        have qy0 := f_.2.2.2.1.cell 0
        have qy1 := f_.2.2.2.1.cell 1
        simp only [List.getElem?_toArray, List.getElem?_cons_zero, List.getElem?_cons_succ] at qy0 qy1
        clear f_
        go_wp2_with fail
        rw [← HU.out]
        clear HU q0 q1
        refine (turn0 RR.out OO.out nmFront (by decide) (by decide) Ay cy y (HEX.out _ PP.out).2.1 TY.out u wh (by omega) htu (by omega) (by omega)).mono ?_
        rintro e W9 ⟨A9, c9, B9, d9, rfl, ⟨r9, z9, t9⟩, R9, O9, hc9⟩
        have h1 := Lib.hid (show (setWay nmFront.data.toList (some (turnW (M nmFront.data.toList) y [] u wh)) M nmFront.data.toList) = some (turnW (M nmFront.data.toList) y [] u wh) from setWay_same _ _ _)
        have hS1 := Lib.hid (show Still a wh (setWay nmFront.data.toList (some (turnW (M nmFront.data.toList) y [] u wh)) M nmStill.data.toList) from by rw [setWay_other (by decide)]; exact SS.out)
        have hag := Lib.hid (turn_again (M nmFront.data.toList) y [] [] u wh)
        have tw := turn_ok (o := M nmFront.data.toList) (fun m e => OO.out _ m e) TY.out (tg := []) (by simp) (by omega) htu wh
        have TW := Lib.hid tw
        clear tw
        generalize turnW (M nmFront.data.toList) y [] u wh = m1 at r9 z9 R9 O9 h1 hS1 hag TW
        generalize setWay nmFront.data.toList (some m1) M = M1 at R9 O9 h1 hS1
        have PP9 := Lib.hid (HST.out _ _ hc9 PP.out)
        have h9r := Lib.hid r9
        have h9t := Lib.hid t9
        have h9R := Lib.hid R9
        have h9O := Lib.hid O9
        clear r9 t9 R9 O9
        clear qy0 qy1
        obtain ⟨gs, hgs⟩ : ∃ gs, gs = W9.heap.size := ⟨_, rfl⟩
        obtain ⟨Wa, hWa⟩ : ∃ Wa, Wa = W9.alloc (.cells #[.slice A9 m1.now.length c9, .slice B9 0 d9] 29) := ⟨_, rfl⟩
        have bWa : Below W9.heap.size W9 Wa := by rw [hWa]; exact (Below.refl _ _).alloc (Nat.le_refl _) _
        have ks : Blk Wa gs #[.slice A9 m1.now.length c9, .slice B9 0 d9] 29 := by rw [hWa, hgs]; exact Blk.new _ _ _
        have Ra := Lib.hid (h9R.out.below bWa)
        have Pa := Lib.hid (HST.out _ _ (chg_below bWa) PP9.out)
        have hsb : gs ≠ b := by have := h9R.out.lt.2.1; omega
        have ra := Lib.hid (Stable.rowS b A9 m1.now _ _ (chg_below bWa) h9r.out)
        have tta := Lib.hid (Stable.rowT b B9 [] _ _ (chg_below bWa) h9t.out)
        have KS := Lib.hid ks
        clear hc9 RR OO SS PP PP9 h9r h9t h9R bWa ks
        go_wp2_with fail
        rw [← hWa, ← hgs]
        clear hWa hgs
        have Pd := Lib.hid (HST.out _ _ ((Chg.refl (fun k => k = b) Wa).drew) Pa.out)
        have Kd_ := Lib.hid (Stable.blk hsb _ _ _ _ ((Chg.refl (fun k => k = b) Wa).drew) KS.out)
        have rd_ := Lib.hid (Stable.rowS b A9 m1.now _ _ ((Chg.refl (fun k => k = b) Wa).drew) ra.out)
        have td_ := Lib.hid (Stable.rowT b B9 [] _ _ ((Chg.refl (fun k => k = b) Wa).drew) tta.out)
        have Rd := Lib.hid (Ra.out.below ((Below.refl Wa.heap.size Wa).drew))
        refine start_ (n := 18) (S := fun w' => w'.cell? ⟨gx, 0, none⟩ = some (.slice Ax a.length cx) ∧ w'.cell? ⟨gx, 1, none⟩ = some (.slice none 0 0) ∧ w'.cell? ⟨gx + 1, 0, none⟩ = some (.slice Ay y.length cy) ∧ w'.cell? ⟨gx + 1, 1, none⟩ = some (.slice none 0 0) ∧ w'.cell? ⟨gs, 0, none⟩ = some (.slice A9 m1.now.length c9) ∧ w'.cell? ⟨gs, 1, none⟩ = some (.slice B9 0 d9)) (ds := []) #[false, false, false, false, false, false, false, false, false, false, false, false, false, false, false, false, false, false] (by kernel_rfl) rfl rfl ⟨(HEX.out _ Pd.out).2.2.1.cell 0, (HEX.out _ Pd.out).2.2.1.cell 1, (HEX.out _ Pd.out).2.2.2.1.cell 0, (HEX.out _ Pd.out).2.2.2.1.cell 1, Kd_.out.cell 0, Kd_.out.cell 1⟩ (fun hHeld => ?_)
        refine pure_ (i := 0) (N := some 53) (v := ?_) (a' := ?_) #[true, false, false, false, false, false, false, false, false, false, false, false, false, false, false, false, false, false] rfl rfl (by kernel_rfl) (fun _ _ _ h => h) (Or.inl ⟨by rfl, ?_⟩) ?_ ?_
        rotate_left
        · intro w'
          go_simp
          with_reducible rfl
        rotate_left
        · simp only [Act.put, List.setIfInBounds_toArray, List.set_cons_zero, List.set_cons_succ]
          rfl
        refine pure_ (i := 2) (N := some 55) (v := ?_) (a' := ?_) #[true, false, true, false, false, false, false, false, false, false, false, false, false, false, false, false, false, false] rfl rfl (by kernel_rfl) (fun _ _ _ h => h) (Or.inl ⟨by rfl, ?_⟩) ?_ ?_
        rotate_left
        · intro w'
          go_simp
          with_reducible rfl
        rotate_left
        · simp only [Act.put, List.setIfInBounds_toArray, List.set_cons_zero, List.set_cons_succ]
          rfl
        refine pure_ (i := 3) (N := some 56) (v := ?_) (a' := ?_) #[true, false, true, true, false, false, false, false, false, false, false, false, false, false, false, false, false, false] rfl rfl (by kernel_rfl) (fun _ _ _ h => h) (Or.inl ⟨by rfl, ?_⟩) ?_ ?_
        rotate_left
        · intro w'
          go_simp
          with_reducible rfl
        rotate_left
        · simp only [Act.put, List.setIfInBounds_toArray, List.set_cons_zero, List.set_cons_succ]
          rfl
        refine take_ (i := 1) (N := some 54) (v := ?_) (a' := ?_) #[true, true, true, true, false, false, false, false, false, false, false, false, false, false, false, false, false, false] rfl rfl (by kernel_rfl) (fun _ _ _ h => h) (Or.inl ⟨by rfl, ?_⟩) hHeld ?_ ?_
        rotate_left
        · rintro w' ⟨s0, s1, s2, s3, s4, s5⟩
          go_simp
          with_reducible rfl
        rotate_left
        · simp only [Act.put, List.setIfInBounds_toArray, List.set_cons_zero, List.set_cons_succ]
          rfl
        refine take_ (i := 5) (N := some 58) (v := ?_) (a' := ?_) #[true, true, true, true, false, true, false, false, false, false, false, false, false, false, false, false, false, false] rfl rfl (by kernel_rfl) (fun _ _ _ h => h) (Or.inl ⟨by rfl, ?_⟩) hHeld ?_ ?_
        rotate_left
        · rintro w' ⟨s0, s1, s2, s3, s4, s5⟩
          go_simp
          with_reducible rfl
        rotate_left
        · simp only [Act.put, List.setIfInBounds_toArray, List.set_cons_zero, List.set_cons_succ]
          rfl
        refine one_ (i := 4) (N := some 57) #[true, true, true, true, true, true, false, false, false, false, false, false, false, false, false, false, false, false] rfl rfl (by kernel_rfl) (by decide) (fun K hK => ?_)
        refine goes_ Try.func14 (by kernel_rfl) rfl #[.pointer (some ⟨p, 0, none⟩), .string nmFront, .agg #[.slice Ay y.length cy, .slice none 0 0], .int .i64 u, .int .i64 wh] (by rfl) rfl rfl (by simp only [List.map_toArray, List.map_cons, List.map_nil]; rfl) ?_
        with_reducible refine (turn0 Rd.out h9O.out nmFront (by decide) (by decide) Ay cy y (HEX.out _ Pd.out).2.1 TY.out u wh (by omega) (Int.le_refl _) (by omega) (by omega)).mono ?_
        rintro e Wb ⟨Ab, cb, Bb, db, rfl, ⟨rb, zb, tb⟩, Rb, Ob, hcb⟩
        rw [h1.out] at rb zb Rb Ob
        rw [h1.out]
        have hS2 := Lib.hid (show Still a wh (setWay nmFront.data.toList (some (turnW (some m1) y [] u wh)) M1 nmStill.data.toList) from by rw [setWay_other (by decide)]; exact hS1.out)
        have Pb := Lib.hid (HST.out _ _ hcb Pd.out)
        have Kb := Lib.hid (Stable.blk hsb _ _ _ _ hcb Kd_.out)
        have r9b := Lib.hid (Stable.rowS b A9 m1.now _ _ hcb rd_.out)
        have t9b := Lib.hid (Stable.rowT b B9 [] _ _ hcb td_.out)
        generalize setWay nmFront.data.toList (some (turnW (some m1) y [] u wh)) M1 = M2 at Rb Ob hS2
        generalize turnW (some m1) y [] u wh = m2 at rb zb hag
        refine ⟨_, rfl, ?_⟩
        refine hK.out _ _ ⟨(HEX.out _ Pb.out).2.2.1.cell 0, (HEX.out _ Pb.out).2.2.1.cell 1, (HEX.out _ Pb.out).2.2.2.1.cell 0, (HEX.out _ Pb.out).2.2.2.1.cell 1, Kb.out.cell 0, Kb.out.cell 1⟩ (fun hHeld => ?_)
        clear hK K
        refine norm_ (a' := ?_) ?_ ?_
        rotate_left
        · show Act.put _ (some 57) _ = _
          simp only [Act.put, List.setIfInBounds_toArray, List.set_cons_zero, List.set_cons_succ]
          rfl
        refine one_ (i := 6) (N := some 59) #[true, true, true, true, true, true, true, false, false, false, false, false, false, false, false, false, false, false] rfl rfl (by kernel_rfl) (by decide) (fun K hK => ?_)
        refine goes_ Try.func18 (by kernel_rfl) rfl #[.agg #[.slice Ab m2.now.length cb, .slice Bb 0 db], .agg #[.slice A9 m1.now.length c9, .slice B9 0 d9]] (by rfl) rfl rfl (by simp only [List.map_toArray, List.map_cons, List.map_nil]; rfl) ?_
        with_reducible refine (same0 _ rb zb tb r9b.out z9 t9b.out (by rw [hag.out]; have := tab_len TW.out.cur; omega) hag.out).mono ?_
        rintro e Wc ⟨rfl, hbc⟩
        have Pc := Lib.hid (HST.out _ _ (chg_below hbc) Pb.out)
        have Kc := Lib.hid (Stable.blk hsb _ _ _ _ (chg_below hbc) Kb.out)
        have Rc := Lib.hid (Rb.below hbc)
        refine ⟨_, rfl, ?_⟩
        refine hK.out _ _ ⟨(HEX.out _ Pc.out).2.2.1.cell 0, (HEX.out _ Pc.out).2.2.1.cell 1, (HEX.out _ Pc.out).2.2.2.1.cell 0, (HEX.out _ Pc.out).2.2.2.1.cell 1, Kc.out.cell 0, Kc.out.cell 1⟩ (fun hHeld => ?_)
        clear hK K
        refine norm_ (a' := ?_) ?_ ?_
        rotate_left
        · show Act.put _ (some 59) _ = _
          simp only [Act.put, List.setIfInBounds_toArray, List.set_cons_zero, List.set_cons_succ]
          rfl
        refine pure_ (i := 7) (N := some 60) (v := ?_) (a' := ?_) #[true, true, true, true, true, true, true, true, false, false, false, false, false, false, false, false, false, false] rfl rfl (by kernel_rfl) (fun _ _ _ h => h) (Or.inl ⟨by rfl, ?_⟩) ?_ ?_
        rotate_left
        · intro w'
          go_simp
          with_reducible rfl
        rotate_left
        · simp only [Act.put, List.setIfInBounds_toArray, List.set_cons_zero, List.set_cons_succ]
          rfl
        refine pure_ (i := 8) (N := some 61) (v := ?_) (a' := ?_) #[true, true, true, true, true, true, true, true, true, false, false, false, false, false, false, false, false, false] rfl rfl (by kernel_rfl) (fun _ _ _ h => h) (Or.inl ⟨by rfl, ?_⟩) ?_ ?_
        rotate_left
        · intro w'
          go_simp
          with_reducible rfl
        rotate_left
        · simp only [Act.put, List.setIfInBounds_toArray, List.set_cons_zero, List.set_cons_succ]
          rfl
        refine pure_ (i := 9) (N := some 62) (v := ?_) (a' := ?_) #[true, true, true, true, true, true, true, true, true, true, false, false, false, false, false, false, false, false] rfl rfl (by kernel_rfl) (fun _ _ _ h => h) (Or.inl ⟨by rfl, ?_⟩) ?_ ?_
        rotate_left
        · intro w'
          go_simp
          with_reducible rfl
        rotate_left
        · simp only [Act.put, List.setIfInBounds_toArray, List.set_cons_zero, List.set_cons_succ]
          rfl
        refine pure_ (i := 11) (N := some 64) (v := ?_) (a' := ?_) #[true, true, true, true, true, true, true, true, true, true, false, true, false, false, false, false, false, false] rfl rfl (by kernel_rfl) (fun _ _ _ h => h) (Or.inl ⟨by rfl, ?_⟩) ?_ ?_
        rotate_left
        · intro w'
          go_simp
          with_reducible rfl
        rotate_left
        · simp only [Act.put, List.setIfInBounds_toArray, List.set_cons_zero, List.set_cons_succ]
          rfl
        refine pure_ (i := 12) (N := some 65) (v := ?_) (a' := ?_) #[true, true, true, true, true, true, true, true, true, true, false, true, true, false, false, false, false, false] rfl rfl (by kernel_rfl) (fun _ _ _ h => h) (Or.inl ⟨by rfl, ?_⟩) ?_ ?_
        rotate_left
        · intro w'
          go_simp
          with_reducible rfl
        rotate_left
        · simp only [Act.put, List.setIfInBounds_toArray, List.set_cons_zero, List.set_cons_succ]
          rfl
        refine take_ (i := 10) (N := some 63) (v := ?_) (a' := ?_) #[true, true, true, true, true, true, true, true, true, true, true, true, true, false, false, false, false, false] rfl rfl (by kernel_rfl) (fun _ _ _ h => h) (Or.inl ⟨by rfl, ?_⟩) hHeld ?_ ?_
        rotate_left
        · rintro w' ⟨s0, s1, s2, s3, s4, s5⟩
          go_simp
          with_reducible rfl
        rotate_left
        · simp only [Act.put, List.setIfInBounds_toArray, List.set_cons_zero, List.set_cons_succ]
          rfl
        refine take_ (i := 14) (N := some 67) (v := ?_) (a' := ?_) #[true, true, true, true, true, true, true, true, true, true, true, true, true, false, true, false, false, false] rfl rfl (by kernel_rfl) (fun _ _ _ h => h) (Or.inl ⟨by rfl, ?_⟩) hHeld ?_ ?_
        rotate_left
        · rintro w' ⟨s0, s1, s2, s3, s4, s5⟩
          go_simp
          with_reducible rfl
        rotate_left
        · simp only [Act.put, List.setIfInBounds_toArray, List.set_cons_zero, List.set_cons_succ]
          rfl
        refine one_ (i := 13) (N := some 66) #[true, true, true, true, true, true, true, true, true, true, true, true, true, true, true, false, false, false] rfl rfl (by kernel_rfl) (by decide) (fun K hK => ?_)
        refine goes_ Try.func14 (by kernel_rfl) rfl #[.pointer (some ⟨p, 0, none⟩), .string nmStill, .agg #[.slice Ax a.length cx, .slice none 0 0], .int .i64 u, .int .i64 wh] (by rfl) rfl rfl (by simp only [List.map_toArray, List.map_cons, List.map_nil]; rfl) ?_
        with_reducible refine (turn0 Rc.out Ob nmStill (by decide) (by decide) Ax cx a (HEX.out _ Pc.out).1 TA.out u wh (by omega) (Int.le_refl _) (by omega) (by omega)).mono ?_
        rintro e Wd ⟨Ad, cd, Bd, dd, rfl, ⟨rd2, zd, td2⟩, Re, Oe, hcd⟩
        obtain ⟨ts1, ts2⟩ := turn_still hS2.out TA.out [] u
        have hS3 := Lib.hid (show Still a wh (setWay nmStill.data.toList (some (turnW (M2 nmStill.data.toList) a [] u wh)) M2 nmStill.data.toList) from by rw [setWay_same]; exact ts2)
        have Pe := Lib.hid (HST.out _ _ hcd Pc.out)
        have Ke := Lib.hid (Stable.blk hsb _ _ _ _ hcd Kc.out)
        generalize setWay nmStill.data.toList (some (turnW (M2 nmStill.data.toList) a [] u wh)) M2 = M3 at Re Oe hS3
        generalize turnW (M2 nmStill.data.toList) a [] u wh = m3 at rd2 zd ts1 ⊢
        have HT1 := Lib.hid ts1
        clear ts1
        refine ⟨_, rfl, ?_⟩
        refine hK.out _ _ ⟨(HEX.out _ Pe.out).2.2.1.cell 0, (HEX.out _ Pe.out).2.2.1.cell 1, (HEX.out _ Pe.out).2.2.2.1.cell 0, (HEX.out _ Pe.out).2.2.2.1.cell 1, Ke.out.cell 0, Ke.out.cell 1⟩ (fun hHeld => ?_)
        clear hK K
        refine norm_ (a' := ?_) ?_ ?_
        rotate_left
        · show Act.put _ (some 66) _ = _
          simp only [Act.put, List.setIfInBounds_toArray, List.set_cons_zero, List.set_cons_succ]
          rfl
        refine one_ (i := 15) (N := some 68) #[true, true, true, true, true, true, true, true, true, true, true, true, true, true, true, true, false, false] rfl rfl (by kernel_rfl) (by decide) (fun K hK => ?_)
        refine goes_ Try.func18 (by kernel_rfl) rfl #[.agg #[.slice Ad m3.now.length cd, .slice Bd 0 dd], .agg #[.slice Ax a.length cx, .slice none 0 0]] (by rfl) rfl rfl (by simp only [List.map_toArray, List.map_cons, List.map_nil]; rfl) ?_
        with_reducible refine (same0 (b := b) _ rd2 zd td2 (HEX.out _ Pe.out).1 hx0 (rowT_nil b _) (by rw [HT1.out]; have := tab_len TA.out; omega) HT1.out).mono ?_
        rintro e We ⟨rfl, hbe⟩
        have Pf := Lib.hid (HST.out _ _ (chg_below hbe) Pe.out)
        have Rf := Lib.hid (Re.below hbe)
        have Kf := Lib.hid (Stable.blk hsb _ _ _ _ (chg_below hbe) Ke.out)
        refine ⟨_, rfl, ?_⟩
        refine hK.out _ _ ⟨(HEX.out _ Pf.out).2.2.1.cell 0, (HEX.out _ Pf.out).2.2.1.cell 1, (HEX.out _ Pf.out).2.2.2.1.cell 0, (HEX.out _ Pf.out).2.2.2.1.cell 1, Kf.out.cell 0, Kf.out.cell 1⟩ (fun hHeld => ?_)
        clear hK K
        refine norm_ (a' := ?_) ?_ ?_
        rotate_left
        · show Act.put _ (some 68) _ = _
          simp only [Act.put, List.setIfInBounds_toArray, List.set_cons_zero, List.set_cons_succ]
          rfl
        refine pure_ (i := 16) (N := some 69) (v := ?_) (a' := ?_) #[true, true, true, true, true, true, true, true, true, true, true, true, true, true, true, true, true, false] rfl rfl (by kernel_rfl) (fun _ _ _ h => h) (Or.inl ⟨by rfl, ?_⟩) ?_ ?_
        rotate_left
        · intro w'
          go_simp
          with_reducible rfl
        rotate_left
        · simp only [Act.put, List.setIfInBounds_toArray, List.set_cons_zero, List.set_cons_succ]
          rfl
        refine pure_ (i := 17) (N := some 70) (v := ?_) (a' := ?_) #[true, true, true, true, true, true, true, true, true, true, true, true, true, true, true, true, true, true] rfl rfl (by kernel_rfl) (fun _ _ _ h => h) (Or.inl ⟨by rfl, ?_⟩) ?_ ?_
        rotate_left
        · intro w'
          go_simp
          with_reducible rfl
        rotate_left
        · simp only [Act.put, List.setIfInBounds_toArray, List.set_cons_zero, List.set_cons_succ]
          rfl
        refine done_ (by kernel_rfl) ?_
        have Of := Lib.hid Oe
        clear hHeld
        go_wp2_with fail
        go_roundw
        case rel => exact ⟨i + 1, u, M3, by omega, by omega, rfl, hu0, by omega, by go_num, Rf, Of, hS3, Pf⟩
        case measure => simp [vI]; omega
      · obtain rfl : i = 20 := by omega
        go_wp2_with fail
        go_ret
        exact ⟨rfl, (HEX.out _ PP.out).2.2.2.2⟩
    · obtain rfl : i = l2.length := by omega
      go_wp2_with fail
      go_ret
      exact ⟨rfl, (HEX.out _ PP.out).2.2.2.2⟩

end Go.Proofs.Ytnkmpkhiilnigaa.PA
