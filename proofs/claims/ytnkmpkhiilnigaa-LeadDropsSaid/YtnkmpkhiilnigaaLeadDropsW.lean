/- LeadDrops: the walk. (Printed by leadlaws.py and genx.py.) -/
import Derived.Test.YtnkmpkhiilnigaaRefTwo
set_option linter.unusedSimpArgs false
set_option linter.unusedVariables false
namespace Go.Proofs.Ytnkmpkhiilnigaa.PA
open Go.RowKit Go.Shelf Go.Lib Go.Sort Go.Proofs.YtnkmpkhiilnigaaW.PrintWords Go.Proofs.YtnkmpkhiilnigaaW.PrintLast

def nmFront : ByteArray := ⟨#[102, 114, 111, 110, 116]⟩
def nmBack : ByteArray := ⟨#[98, 97, 99, 107]⟩
def nmStill : ByteArray := ⟨#[115, 116, 105, 108, 108]⟩

theorem turn_first (y : List S40) (tg : List S42) {now whole : Int} (h : 1 ≤ whole) : (turnW none y tg now whole).now = y := by
  show rollL y y (now - now) whole = y
  exact roll_from (by omega) (by omega)

set_option maxRecDepth 100000 in
set_option maxHeartbeats 8000000 in
theorem drops_law (A0 : Option Addr) (c0 : Nat) (l0 : List Int) (A1 : Option Addr) (c1 : Nat) (l1 : List Int) (a2 : Int) (a3 : Int) (w : World) (hr0 : Kd.C (Kd.int .i64) w A0 l0.length l0) (hc0 : l0.length ≤ c0) (hr1 : Kd.C (Kd.int .i64) w A1 l1.length l1) (hc1 : l1.length ≤ c1) :
    Calls Try.prog 9 #[.slice A0 l0.length c0, .slice A1 l1.length c1, .int .i64 a2, .int .i64 a3] w fun e w' => e = .returned (.bool true) ∧ Below w.heap.size w w' := by

  obtain ⟨k0, a, ha, ta⟩ := shares_tab l0
  obtain ⟨k1, y, hy, ty⟩ := shares_tab l1
  have HA := Lib.hid ha
  have HY := Lib.hid hy
  have TA := Lib.hid ta
  have TY := Lib.hid ty
  have HR0 := Lib.hid hr0
  have HR1 := Lib.hid hr1
  clear ha hy ta ty hr0 hr1
  go_enter Try.func9, Try.ntmps9
  go_wp2_with fail
  refine (known13 _).mono ?_
  rintro e w1 ⟨rfl, hb1⟩
  go_wp2_with fail
  refine (newS _).mono ?_
  rintro e w2 ⟨p, b, rfl, R2, hp, hb, hb2⟩
  have b2 := hb1.trans (hb2.mono hb1.size)
  have hbw : w.heap.size ≤ b := Nat.le_trans hb1.size hb
  have hbl2 := R2.lt.2.1
  go_wp2_with fail
  refine (make_nil A0 c0 l0 _ (Kd.C_below HR0.out b2) hc0 k0 a HA.out).mono ?_
  rintro e w3 ⟨Ax, cx, rfl, hx0, hx1, hx2, hb3⟩
  have b3 := b2.trans (hb3.mono b2.size)
  have R3 := R2.below hb3
  go_wp2_with fail
  refine (make_nil A1 c1 l1 _ (Kd.C_below HR1.out b3) hc1 k1 y HY.out).mono ?_
  rintro e w4 ⟨Ay, cy, rfl, hy0, hy1, hy2, hb4⟩
  have b4 := b3.trans (hb4.mono b3.size)
  have R4 := R3.below hb4
  obtain ⟨gx, hgx⟩ : ∃ gx, gx = w4.heap.size := ⟨_, rfl⟩
  obtain ⟨W5, hW5⟩ : ∃ W5, W5 = (w4.alloc (.cells #[.slice Ax a.length cx, .slice none 0 0] 29)).alloc (.cells #[.slice Ay y.length cy, .slice none 0 0] 29) := ⟨_, rfl⟩
  have bW5 : Below w4.heap.size w4 W5 := by rw [hW5]; exact ((Below.refl _ _).alloc (Nat.le_refl _) _).alloc (by simp) _
  have kx : Blk W5 gx #[.slice Ax a.length cx, .slice none 0 0] 29 := by rw [hW5, hgx]; exact (Blk.new _ _ _).alloc _
  have ky : Blk W5 (gx + 1) #[.slice Ay y.length cy, .slice none 0 0] 29 := by
    rw [hW5, hgx]
    have := Blk.new (w4.alloc (.cells #[.slice Ax a.length cx, .slice none 0 0] 29)) #[.slice Ay y.length cy, .slice none 0 0] 29
    simpa using this
  have R5 := Lib.hid (R4.below bW5)
  have z23 := hb3.size
  have z34 := hb4.size
  have hbgx : b < gx := by omega
  have hgb : gx ≠ b := by omega
  have hgb1 : gx + 1 ≠ b := by omega
  obtain ⟨P, hst, hex, hP5⟩ : ∃ P : World → Prop, Stable b P ∧ (∀ W, P W → RowS b Ax a W ∧ RowS b Ay y W ∧ Blk W gx #[.slice Ax a.length cx, .slice none 0 0] 29 ∧ Blk W (gx + 1) #[.slice Ay y.length cy, .slice none 0 0] 29 ∧ Below w.heap.size w W) ∧ P W5 :=
    ⟨_, (Stable.rowS b Ax a).and ((Stable.rowS b Ay y).and ((Stable.blk hgb _ _).and ((Stable.blk hgb1 _ _).and (Stable.below w hbw)))), fun W h => h,
      ⟨Kd.C_below (Kd.C_below hx1 hb4) bW5, hx2.mono (fun k (hk : w2.heap.size ≤ k) _ _ _ _ => by omega)⟩, ⟨Kd.C_below hy1 bW5, hy2.mono (fun k (hk : w3.heap.size ≤ k) _ _ _ _ => by omega)⟩, kx, ky, b4.trans (bW5.mono b4.size)⟩
  have HST := Lib.hid hst
  have HEX := Lib.hid hex
  have P5 := Lib.hid hP5
  clear hx1 hy1 hx2 hy2 hb1 hb2 hb3 hb4 b2 b3 b4 R2 R3 R4 kx ky bW5 hst hex hP5
  go_wp2_with fail
  rw [← hW5, ← hgx]
  clear hW5 hgx hp hb hbl2 z23 z34
  have hwi := Lib.hid (within13 a2 60 (by omega) (by omega))
  have wh0 := Int.emod_nonneg a2 (b := 60) (by omega)
  have wh1 := Int.emod_lt_of_pos a2 (b := 60) (by omega)
  refine (damperlaw13_within.calls a2 60 (a2 % 60) _ hwi.out).mono ?_
  rintro e W6 ⟨rfl, hd_⟩
  have hd_ := hd_.below
  clear hwi
  have R6_ := Lib.hid (R5.out.below hd_)
  have P6 := Lib.hid (HST.out _ _ (chg_below hd_) P5.out)
  obtain ⟨wq, hwq⟩ : ∃ wq, wq = a2 % 60 := ⟨_, rfl⟩
  rw [← hwq] at wh0 wh1 ⊢
  obtain ⟨wv, hwv⟩ : ∃ wv, wv = 1 + wq := ⟨_, rfl⟩
  have hwv0 : 1 ≤ wv := by omega
  have hwv1 : wv ≤ 60 := by omega
  have HWV := Lib.hid hwv
  clear hwq hwv hd_ R5 P5
  go_wp2_with fail
  rw [← HWV.out]
  clear HWV wh0 wh1
  have hwi := Lib.hid (within13 a3 wv (by omega) (by omega))
  have tt0 := Int.emod_nonneg a3 (b := wv) (by omega)
  have tt1 := Int.emod_lt_of_pos a3 (b := wv) (by omega)
  refine (damperlaw13_within.calls a3 wv (a3 % wv) _ hwi.out).mono ?_
  rintro e W7 ⟨rfl, hd_⟩
  have hd_ := hd_.below
  clear hwi
  have R7 := Lib.hid (R6_.out.below hd_)
  have P7 := Lib.hid (HST.out _ _ (chg_below hd_) P6.out)
  obtain ⟨t, ht⟩ : ∃ t, t = a3 % wv := ⟨_, rfl⟩
  rw [← ht] at tt0 tt1 ⊢
  clear ht hd_ R6_ P6
  obtain ⟨m1, hm1⟩ : ∃ m1, m1 = turnW none a [] 0 wv := ⟨_, rfl⟩
  obtain ⟨m2, hm2⟩ : ∃ m2, m2 = turnW (some m1) y [] 0 wv := ⟨_, rfl⟩
  obtain ⟨m3, hm3⟩ : ∃ m3, m3 = turnW (some m2) y [] t wv := ⟨_, rfl⟩
  have HM1 := Lib.hid hm1
  have HM2 := Lib.hid hm2
  have HM3 := Lib.hid hm3
  clear hm1 hm2 hm3
  have O7 := Lib.hid (OkM.none 0)
  have B7 : Hid (noWays nmBack.data.toList = none) := Lib.hid rfl
  have f_ := HEX.out _ P7.out
  have qx0 := f_.2.2.1.cell 0
  have qx1 := f_.2.2.1.cell 1
  simp only [List.getElem?_toArray, List.getElem?_cons_zero, List.getElem?_cons_succ] at qx0 qx1
  clear f_
  go_wp2_with fail
  refine (turn0 R7.out O7.out nmFront (by decide) (by decide) Ax cx a (HEX.out _ P7.out).1 TA.out 0 wv (by omega) (by omega) (by omega) (by omega)).mono ?_
  rintro e W8 ⟨A8, c8, B8_, d8, rfl, _, R8, O8, hc8⟩
  have hb8 : setWay nmFront.data.toList (some (turnW (noWays nmFront.data.toList) a [] 0 wv)) noWays nmBack.data.toList = none := by rw [setWay_other (by decide)]; exact B7.out
  generalize setWay nmFront.data.toList (some (turnW (noWays nmFront.data.toList) a [] 0 wv)) noWays = M8 at R8 O8 hb8
  have R8 := Lib.hid R8
  have O8 := Lib.hid O8
  have B8 := Lib.hid hb8
  have P8 := Lib.hid (HST.out _ _ hc8 P7.out)
  clear qx0 qx1
  clear hc8 hb8 R7 O7 P7 B7
  have f_ := HEX.out _ P8.out
  have qx0 := f_.2.2.1.cell 0
  have qx1 := f_.2.2.1.cell 1
  simp only [List.getElem?_toArray, List.getElem?_cons_zero, List.getElem?_cons_succ] at qx0 qx1
  clear f_
  go_wp2_with fail
  refine (turn0 R8.out O8.out nmBack (by decide) (by decide) Ax cx a (HEX.out _ P8.out).1 TA.out 0 wv (by omega) (by omega) (by omega) (by omega)).mono ?_
  rintro e W9 ⟨A9, c9, B9_, d9, rfl, _, R9, O9, hc9⟩
  have hb9 : setWay nmBack.data.toList (some (turnW (M8 nmBack.data.toList) a [] 0 wv)) M8 nmBack.data.toList = some m1 := by rw [setWay_same, B8.out, ← HM1.out]
  generalize setWay nmBack.data.toList (some (turnW (M8 nmBack.data.toList) a [] 0 wv)) M8 = M9 at R9 O9 hb9
  have R9 := Lib.hid R9
  have O9 := Lib.hid O9
  have B9 := Lib.hid hb9
  have P9 := Lib.hid (HST.out _ _ hc9 P8.out)
  clear qx0 qx1
  clear hc9 hb9 R8 O8 P8 B8
  have f_ := HEX.out _ P9.out
  have qy0 := f_.2.2.2.1.cell 0
  have qy1 := f_.2.2.2.1.cell 1
  simp only [List.getElem?_toArray, List.getElem?_cons_zero, List.getElem?_cons_succ] at qy0 qy1
  clear f_
  go_wp2_with fail
  refine (turn0 R9.out O9.out nmFront (by decide) (by decide) Ay cy y (HEX.out _ P9.out).2.1 TY.out 0 wv (by omega) (by omega) (by omega) (by omega)).mono ?_
  rintro e W10 ⟨A10, c10, B10_, d10, rfl, _, R10, O10, hc10⟩
  have hb10 : setWay nmFront.data.toList (some (turnW (M9 nmFront.data.toList) y [] 0 wv)) M9 nmBack.data.toList = some m1 := by rw [setWay_other (by decide)]; exact B9.out
  generalize setWay nmFront.data.toList (some (turnW (M9 nmFront.data.toList) y [] 0 wv)) M9 = M10 at R10 O10 hb10
  have R10 := Lib.hid R10
  have O10 := Lib.hid O10
  have B10 := Lib.hid hb10
  have P10 := Lib.hid (HST.out _ _ hc10 P9.out)
  clear qy0 qy1
  clear hc10 hb10 R9 O9 P9 B9
  have f_ := HEX.out _ P10.out
  have qy0 := f_.2.2.2.1.cell 0
  have qy1 := f_.2.2.2.1.cell 1
  simp only [List.getElem?_toArray, List.getElem?_cons_zero, List.getElem?_cons_succ] at qy0 qy1
  clear f_
  go_wp2_with fail
  refine (turn0 R10.out O10.out nmBack (by decide) (by decide) Ay cy y (HEX.out _ P10.out).2.1 TY.out 0 wv (by omega) (by omega) (by omega) (by omega)).mono ?_
  rintro e W11 ⟨A11, c11, B11_, d11, rfl, _, R11, O11, hc11⟩
  have hb11 : setWay nmBack.data.toList (some (turnW (M10 nmBack.data.toList) y [] 0 wv)) M10 nmBack.data.toList = some m2 := by rw [setWay_same, B10.out, ← HM2.out]
  generalize setWay nmBack.data.toList (some (turnW (M10 nmBack.data.toList) y [] 0 wv)) M10 = M11 at R11 O11 hb11
  have R11 := Lib.hid R11
  have O11 := Lib.hid O11
  have B11 := Lib.hid hb11
  have P11 := Lib.hid (HST.out _ _ hc11 P10.out)
  clear qy0 qy1
  clear hc11 hb11 R10 O10 P10 B10
  go_wp2_with fail
  obtain ⟨okd, hRd, hkd⟩ := R11.out
  refine (drop_calls hRd nmFront (by decide)).mono ?_
  rintro e W12 ⟨rfl, hR12, hc12⟩
  have R12 := Lib.hid (show RollerS W12 p b (setWay nmFront.data.toList none M11) from ⟨okd, hR12, fun k hk => hkd k (Nat.le_trans hc12.size hk)⟩)
  have O12 := Lib.hid (OkM.set O11.out nmFront.data.toList)
  have F12 := Lib.hid (show setWay nmFront.data.toList none M11 nmFront.data.toList = none from setWay_same _ _ _)
  have B12 := Lib.hid (show setWay nmFront.data.toList none M11 nmBack.data.toList = some m2 from by rw [setWay_other (by decide)]; exact B11.out)
  have P12 := Lib.hid (HST.out _ _ hc12 P11.out)
  generalize setWay nmFront.data.toList none M11 = M12 at R12 O12 F12 B12
  clear hRd hkd hR12 hc12 R11 O11 B11 P11 okd
  go_wp2_with fail
  obtain ⟨okd, hRd, hkd⟩ := R12.out
  refine (table_none hRd nmFront (by decide) F12.out).mono ?_
  rintro e W13 ⟨rfl, hb13⟩
  clear hRd hkd okd
  obtain ⟨W14, hW14⟩ : ∃ W14, W14 = W13.alloc (.cells #[.slice none 0 0, .slice none 0 0] 29) := ⟨_, rfl⟩
  have b14 := below_step hb13 (show Below W13.heap.size W13 W14 from by rw [hW14]; exact (Below.refl _ _).alloc (Nat.le_refl _) _)
  have R14 := Lib.hid (R12.out.below b14)
  have P14 := Lib.hid (HST.out _ _ (chg_below b14) P12.out)
  clear b14 hb13 R12 P12
  go_upto_region 15 with fail
  rw [← hW14]
  clear hW14
  have f_ := HEX.out _ P14.out
  have qy0 := f_.2.2.2.1.cell 0
  have qy1 := f_.2.2.2.1.cell 1
  simp only [List.getElem?_toArray, List.getElem?_cons_zero, List.getElem?_cons_succ] at qy0 qy1
  clear f_
  go_wp2_with fail
  refine (turn0 R14.out O12.out nmFront (by decide) (by decide) Ay cy y (HEX.out _ P14.out).2.1 TY.out t wv (by omega) (by omega) (by omega) (by omega)).mono ?_
  rintro e W15 ⟨Ap, cp, Bp, dp, rfl, ⟨rp, zp, tp⟩, R15, O15, hc15⟩
  have hb15 : setWay nmFront.data.toList (some (turnW (M12 nmFront.data.toList) y [] t wv)) M12 nmBack.data.toList = some m2 := by rw [setWay_other (by decide)]; exact B12.out
  generalize setWay nmFront.data.toList (some (turnW (M12 nmFront.data.toList) y [] t wv)) M12 = M15 at R15 O15 hb15
  rw [F12.out, turn_first y [] hwv0] at rp zp ⊢
  obtain ⟨g16, hg16⟩ : ∃ g16, g16 = W15.heap.size := ⟨_, rfl⟩
  obtain ⟨W16, hW16⟩ : ∃ W16, W16 = W15.alloc (.cells #[.slice Ap y.length cp, .slice Bp 0 dp] 29) := ⟨_, rfl⟩
  have b16 : Below W15.heap.size W15 W16 := by rw [hW16]; exact (Below.refl _ _).alloc (Nat.le_refl _) _
  have k16 : Blk W16 g16 #[.slice Ap y.length cp, .slice Bp 0 dp] 29 := by rw [hW16, hg16]; exact Blk.new _ _ _
  have R16 := Lib.hid (R15.below b16)
  have O16 := Lib.hid O15
  have B16 := Lib.hid hb15
  have P16 := Lib.hid (HST.out _ _ (chg_below b16) (HST.out _ _ hc15 P14.out))
  have rp16 := Lib.hid (Stable.rowS b Ap y _ _ (chg_below b16) rp)
  have tp16 := Lib.hid (Stable.rowT b Bp [] _ _ (chg_below b16) tp)
  have K16 := Lib.hid k16
  have hgb16 : g16 ≠ b := by have := R15.lt.2.1; omega
  clear rp tp R15 O15 hc15 hb15 b16 k16 R14 P14 O12 F12 B12
  clear qy0 qy1
  go_upto_region 16 with fail
  rw [← hW16, ← hg16]
  clear hW16 hg16
  have f_ := HEX.out _ P16.out
  have qy0 := f_.2.2.2.1.cell 0
  have qy1 := f_.2.2.2.1.cell 1
  simp only [List.getElem?_toArray, List.getElem?_cons_zero, List.getElem?_cons_succ] at qy0 qy1
  clear f_
  go_wp2_with fail
  refine (turn0 R16.out O16.out nmBack (by decide) (by decide) Ay cy y (HEX.out _ P16.out).2.1 TY.out t wv (by omega) (by omega) (by omega) (by omega)).mono ?_
  rintro e W17 ⟨Aq, cq, Bq, dq, rfl, ⟨rq, zq, tq⟩, R17, _, hc17⟩
  rw [B16.out, ← HM3.out] at rq zq ⊢
  obtain ⟨g17, hg17⟩ : ∃ g17, g17 = W17.heap.size := ⟨_, rfl⟩
  obtain ⟨W18, hW18⟩ : ∃ W18, W18 = W17.alloc (.cells #[.slice Aq m3.now.length cq, .slice Bq 0 dq] 29) := ⟨_, rfl⟩
  have b18 : Below W17.heap.size W17 W18 := by rw [hW18]; exact (Below.refl _ _).alloc (Nat.le_refl _) _
  have k17 : Blk W18 g17 #[.slice Aq m3.now.length cq, .slice Bq 0 dq] 29 := by rw [hW18, hg17]; exact Blk.new _ _ _
  obtain ⟨q, hq⟩ : ∃ q, q = W18.heap.size := ⟨_, rfl⟩
  obtain ⟨W19, hW19⟩ : ∃ W19, W19 = W18.alloc (.cells #[.slice none 0 0] 52) := ⟨_, rfl⟩
  have b19 : Below W18.heap.size W18 W19 := by rw [hW19]; exact (Below.refl _ _).alloc (Nat.le_refl _) _
  have kq : Blk W19 q #[.slice none 0 0] 52 := by rw [hW19, hq]; exact Blk.new _ _ _
  have bb := below_step b18 b19
  have hq2 : g17 + 1 = q := by rw [hq, hW18, hg17]; simp
  have f17 := HST.out _ _ hc17 P16.out
  have f19 := HEX.out _ (HST.out _ _ (chg_below bb) f17)
  have zq_ : W17.heap.size < q := by have := k17.lt; omega
  have hnew : ∀ k, k < W17.heap.size → k ≠ q := fun k hk => by omega
  have f17 := HEX.out _ f17
  have kk16 := K16.out.chg hc17 hgb16
  have r16 := Stable.rowS b Ap y _ _ hc17 rp16.out
  have t16 := Stable.rowT b Bp [] _ _ hc17 tp16.out
  obtain ⟨ok, hok⟩ : ∃ ok : Nat → Prop, ok = fun k => k ≠ q := ⟨_, rfl⟩
  obtain ⟨Q, hqk, hqx, hQ⟩ : ∃ Q : (Nat → Prop) → World → Prop, Kept Q ∧ (∀ K W, Q K W → RowK Ax a K W ∧ RowK Ay y K W ∧ RowK Ap y K W ∧ RowKT Bp [] K W ∧ RowK Aq m3.now K W ∧ RowKT Bq [] K W ∧ BlkK gx #[.slice Ax a.length cx, .slice none 0 0] 29 K W ∧ BlkK (gx + 1) #[.slice Ay y.length cy, .slice none 0 0] 29 K W ∧ BlkK g16 #[.slice Ap y.length cp, .slice Bp 0 dp] 29 K W ∧ BlkK g17 #[.slice Aq m3.now.length cq, .slice Bq 0 dq] 29 K W ∧ BelowK w K W) ∧ Q ok W19 :=
    ⟨_, (Kept.row Ax a).and ((Kept.row Ay y).and ((Kept.row Ap y).and ((Kept.rowT Bp []).and ((Kept.row Aq m3.now).and ((Kept.rowT Bq []).and ((Kept.blk gx _ _).and ((Kept.blk (gx + 1) _ _).and ((Kept.blk g16 _ _).and ((Kept.blk g17 _ _).and (Kept.below w)))))))))), fun K W h => h, by
      subst hok
      exact ⟨⟨f19.1.1, fun hp ad e => hnew _ (share_lt f17.1.1 hp ad e)⟩, ⟨f19.2.1.1, fun hp ad e => hnew _ (share_lt f17.2.1.1 hp ad e)⟩, ⟨Kd.C_below r16.1 bb, fun hp ad e => hnew _ (share_lt r16.1 hp ad e)⟩, ⟨Kd.C_below t16.1 bb, fun hp ad e => hnew _ (tag_lt t16.1 hp ad e)⟩, ⟨Kd.C_below rq.1 bb, fun hp ad e => hnew _ (share_lt rq.1 hp ad e)⟩, ⟨Kd.C_below tq.1 bb, fun hp ad e => hnew _ (tag_lt tq.1 hp ad e)⟩, ⟨hnew _ f17.2.2.1.lt, f19.2.2.1⟩, ⟨hnew _ f17.2.2.2.1.lt, f19.2.2.2.1⟩, ⟨hnew _ kk16.lt, kk16.below bb kk16.lt⟩, ⟨by have := k17.lt; show g17 ≠ q; omega, k17.below b19 k17.lt⟩, f19.2.2.2.2, fun k hk => hnew k (Nat.lt_of_lt_of_le hk f17.2.2.2.2.size)⟩⟩
  have hD := DocS.first kq
  rw [← hok] at hD
  clear hok
  have HQK := Lib.hid hqk
  have HQX := Lib.hid hqx
  have Q19 := Lib.hid hQ
  have D19 := Lib.hid hD
  clear hqk hqx hQ hD f17 f19 kk16 r16 t16 bb b18 b19 k17 kq rq tq hc17 R17 R16 O16 P16 B16 rp16 tp16 K16 hnew zq_
  clear qy0 qy1
  go_upto_region 18 with fail
  rw [← hW18, ← hg17, ← hW19, hq2]
  clear hW18 hg17 hW19 hq hq2
  have f_ := HQX.out _ _ Q19.out
  have qx0 := f_.2.2.2.2.2.2.1.2.cell 0
  have qx1 := f_.2.2.2.2.2.2.1.2.cell 1
  simp only [List.getElem?_toArray, List.getElem?_cons_zero, List.getElem?_cons_succ] at qx0 qx1
  clear f_
  go_wp2_with fail
  refine (docS_turn0 D19.out (by omega) (OkM.none 0) nmBack Ax cx a (HQX.out _ _ Q19.out).1.1 hx0 TA.out 0 wv (by omega) (by omega) (by omega) (by omega)).mono ?_
  rintro e W20 ⟨A20, c20, B20, d20, rfl, _, ok20, D20, O20, hk20, hc20⟩
  have Q20 := Lib.hid (HQK.out ok ok20 _ _ hk20 hc20 Q19.out)
  have hb20 : setWay nmBack.data.toList (some (turnW (noWays nmBack.data.toList) a [] 0 wv)) noWays nmBack.data.toList = some m1 := by rw [setWay_same, HM1.out]; rfl
  generalize setWay nmBack.data.toList (some (turnW (noWays nmBack.data.toList) a [] 0 wv)) noWays = N20 at D20 O20 hb20
  have D20 := Lib.hid D20
  have O20 := Lib.hid O20
  have B20x := Lib.hid hb20
  clear hk20 hc20 Q19 D19 hb20
  clear qx0 qx1
  have f_ := HQX.out _ _ Q20.out
  have qy0 := f_.2.2.2.2.2.2.2.1.2.cell 0
  have qy1 := f_.2.2.2.2.2.2.2.1.2.cell 1
  simp only [List.getElem?_toArray, List.getElem?_cons_zero, List.getElem?_cons_succ] at qy0 qy1
  clear f_
  go_wp2_with fail
  refine (docS_turn0 D20.out (by omega) O20.out nmBack Ay cy y (HQX.out _ _ Q20.out).2.1.1 hy0 TY.out 0 wv (by omega) (by omega) (by omega) (by omega)).mono ?_
  rintro e W21 ⟨A21, c21, B21, d21, rfl, _, ok21, D21, O21, hk21, hc21⟩
  have Q21 := Lib.hid (HQK.out ok20 ok21 _ _ hk21 hc21 Q20.out)
  have hb21 : setWay nmBack.data.toList (some (turnW (N20 nmBack.data.toList) y [] 0 wv)) N20 nmBack.data.toList = some m2 := by rw [setWay_same, B20x.out, HM2.out]
  generalize setWay nmBack.data.toList (some (turnW (N20 nmBack.data.toList) y [] 0 wv)) N20 = N21 at D21 O21 hb21
  have D21 := Lib.hid D21
  have O21 := Lib.hid O21
  have B21x := Lib.hid hb21
  have TQ := Lib.hid (show m3.now.length ≤ 100000 from by rw [HM3.out]; have := tab_len (turn_ok (o := some m2) (t := 0) (fun m e => O21.out nmBack.data.toList m (by rw [B21x.out]; exact e)) TY.out (tg := []) (by simp) (by omega) tt0 wv).cur; omega)
  have TYL := Lib.hid (show y.length ≤ 100000 from by have := tab_len TY.out; omega)
  clear hk21 hc21 Q20 D20 O20 hb21 B20x
  clear qy0 qy1
  go_wp2_with fail
  have Qd := Lib.hid (HQK.out.step ((Below.refl W21.heap.size W21).drew) Q21.out)
  have Dd := Lib.hid (D21.out.below ((Below.refl W21.heap.size W21).drew))
  refine start_ (n := 17) (S := fun w' => w'.cell? ⟨g16, 0, none⟩ = some (.slice Ap y.length cp) ∧ w'.cell? ⟨g16, 1, none⟩ = some (.slice Bp 0 dp) ∧ w'.cell? ⟨gx + 1, 0, none⟩ = some (.slice Ay y.length cy) ∧ w'.cell? ⟨gx + 1, 1, none⟩ = some (.slice none 0 0) ∧ w'.cell? ⟨g17, 0, none⟩ = some (.slice Aq m3.now.length cq) ∧ w'.cell? ⟨g17, 1, none⟩ = some (.slice Bq 0 dq)) (ds := []) #[false, false, false, false, false, false, false, false, false, false, false, false, false, false, false, false, false] (by kernel_rfl) rfl rfl ⟨(HQX.out _ _ Qd.out).2.2.2.2.2.2.2.2.1.2.cell 0, (HQX.out _ _ Qd.out).2.2.2.2.2.2.2.2.1.2.cell 1, (HQX.out _ _ Qd.out).2.2.2.2.2.2.2.1.2.cell 0, (HQX.out _ _ Qd.out).2.2.2.2.2.2.2.1.2.cell 1, (HQX.out _ _ Qd.out).2.2.2.2.2.2.2.2.2.1.2.cell 0, (HQX.out _ _ Qd.out).2.2.2.2.2.2.2.2.2.1.2.cell 1⟩ (fun hHeld => ?_)
  refine pure_ (i := 0) (N := some 77) (v := ?_) (a' := ?_) #[true, false, false, false, false, false, false, false, false, false, false, false, false, false, false, false, false] rfl rfl (by kernel_rfl) (fun _ _ _ h => h) (Or.inl ⟨by rfl, ?_⟩) ?_ ?_
  rotate_left
  · intro w'
    go_simp
    with_reducible rfl
  rotate_left
  · simp only [Act.put, List.setIfInBounds_toArray, List.set_cons_zero, List.set_cons_succ]
    rfl
  refine pure_ (i := 1) (N := some 78) (v := ?_) (a' := ?_) #[true, true, false, false, false, false, false, false, false, false, false, false, false, false, false, false, false] rfl rfl (by kernel_rfl) (fun _ _ _ h => h) (Or.inl ⟨by rfl, ?_⟩) ?_ ?_
  rotate_left
  · intro w'
    go_simp
    with_reducible rfl
  rotate_left
  · simp only [Act.put, List.setIfInBounds_toArray, List.set_cons_zero, List.set_cons_succ]
    rfl
  refine pure_ (i := 2) (N := some 79) (v := ?_) (a' := ?_) #[true, true, true, false, false, false, false, false, false, false, false, false, false, false, false, false, false] rfl rfl (by kernel_rfl) (fun _ _ _ h => h) (Or.inl ⟨by rfl, ?_⟩) ?_ ?_
  rotate_left
  · intro w'
    go_simp
    with_reducible rfl
  rotate_left
  · simp only [Act.put, List.setIfInBounds_toArray, List.set_cons_zero, List.set_cons_succ]
    rfl
  refine take_ (i := 3) (N := some 80) (v := ?_) (a' := ?_) #[true, true, true, true, false, false, false, false, false, false, false, false, false, false, false, false, false] rfl rfl (by kernel_rfl) (fun _ _ _ h => h) (Or.inl ⟨by rfl, ?_⟩) hHeld ?_ ?_
  rotate_left
  · rintro w' ⟨s0, s1, s2, s3, s4, s5⟩
    go_simp
    with_reducible rfl
  rotate_left
  · simp only [Act.put, List.setIfInBounds_toArray, List.set_cons_zero, List.set_cons_succ]
    rfl
  refine take_ (i := 4) (N := some 81) (v := ?_) (a' := ?_) #[true, true, true, true, true, false, false, false, false, false, false, false, false, false, false, false, false] rfl rfl (by kernel_rfl) (fun _ _ _ h => h) (Or.inl ⟨by rfl, ?_⟩) hHeld ?_ ?_
  rotate_left
  · rintro w' ⟨s0, s1, s2, s3, s4, s5⟩
    go_simp
    with_reducible rfl
  rotate_left
  · simp only [Act.put, List.setIfInBounds_toArray, List.set_cons_zero, List.set_cons_succ]
    rfl
  refine one_ (i := 5) (N := some 82) #[true, true, true, true, true, true, false, false, false, false, false, false, false, false, false, false, false] rfl rfl (by kernel_rfl) (by decide) (fun K hK => ?_)
  refine goes_ Try.func18 (by kernel_rfl) rfl #[.agg #[.slice Ap y.length cp, .slice Bp 0 dp], .agg #[.slice Ay y.length cy, .slice none 0 0]] (by rfl) rfl rfl (by simp only [List.map_toArray, List.map_cons, List.map_nil]; rfl) ?_
  with_reducible refine (sameC _ (HQX.out _ _ Qd.out).2.2.1.c zp (HQX.out _ _ Qd.out).2.2.2.1.c0 (HQX.out _ _ Qd.out).2.1.c hy0 (Kd.C_nil _ _) TYL.out rfl).mono ?_
  rintro e We ⟨rfl, hbe⟩
  have Qe := Lib.hid (HQK.out.step hbe Qd.out)
  have De := Lib.hid (Dd.out.below hbe)
  refine ⟨_, rfl, ?_⟩
  refine hK.out _ _ ⟨(HQX.out _ _ Qe.out).2.2.2.2.2.2.2.2.1.2.cell 0, (HQX.out _ _ Qe.out).2.2.2.2.2.2.2.2.1.2.cell 1, (HQX.out _ _ Qe.out).2.2.2.2.2.2.2.1.2.cell 0, (HQX.out _ _ Qe.out).2.2.2.2.2.2.2.1.2.cell 1, (HQX.out _ _ Qe.out).2.2.2.2.2.2.2.2.2.1.2.cell 0, (HQX.out _ _ Qe.out).2.2.2.2.2.2.2.2.2.1.2.cell 1⟩ (fun hHeld => ?_)
  clear hK K
  refine norm_ (a' := ?_) ?_ ?_
  rotate_left
  · show Act.put _ (some 82) _ = _
    simp only [Act.put, List.setIfInBounds_toArray, List.set_cons_zero, List.set_cons_succ]
    rfl
  refine pure_ (i := 6) (N := some 83) (v := ?_) (a' := ?_) #[true, true, true, true, true, true, true, false, false, false, false, false, false, false, false, false, false] rfl rfl (by kernel_rfl) (fun _ _ _ h => h) (Or.inl ⟨by rfl, ?_⟩) ?_ ?_
  rotate_left
  · intro w'
    go_simp
    with_reducible rfl
  rotate_left
  · simp only [Act.put, List.setIfInBounds_toArray, List.set_cons_zero, List.set_cons_succ]
    rfl
  refine pure_ (i := 7) (N := some 84) (v := ?_) (a' := ?_) #[true, true, true, true, true, true, true, true, false, false, false, false, false, false, false, false, false] rfl rfl (by kernel_rfl) (fun _ _ _ h => h) (Or.inl ⟨by rfl, ?_⟩) ?_ ?_
  rotate_left
  · intro w'
    go_simp
    with_reducible rfl
  rotate_left
  · simp only [Act.put, List.setIfInBounds_toArray, List.set_cons_zero, List.set_cons_succ]
    rfl
  refine pure_ (i := 9) (N := some 86) (v := ?_) (a' := ?_) #[true, true, true, true, true, true, true, true, false, true, false, false, false, false, false, false, false] rfl rfl (by kernel_rfl) (fun _ _ _ h => h) (Or.inl ⟨by rfl, ?_⟩) ?_ ?_
  rotate_left
  · intro w'
    go_simp
    with_reducible rfl
  rotate_left
  · simp only [Act.put, List.setIfInBounds_toArray, List.set_cons_zero, List.set_cons_succ]
    rfl
  refine pure_ (i := 11) (N := some 88) (v := ?_) (a' := ?_) #[true, true, true, true, true, true, true, true, false, true, false, true, false, false, false, false, false] rfl rfl (by kernel_rfl) (fun _ _ _ h => h) (Or.inl ⟨by rfl, ?_⟩) ?_ ?_
  rotate_left
  · intro w'
    go_simp
    with_reducible rfl
  rotate_left
  · simp only [Act.put, List.setIfInBounds_toArray, List.set_cons_zero, List.set_cons_succ]
    rfl
  refine pure_ (i := 12) (N := some 89) (v := ?_) (a' := ?_) #[true, true, true, true, true, true, true, true, false, true, false, true, true, false, false, false, false] rfl rfl (by kernel_rfl) (fun _ _ _ h => h) (Or.inl ⟨by rfl, ?_⟩) ?_ ?_
  rotate_left
  · intro w'
    go_simp
    with_reducible rfl
  rotate_left
  · simp only [Act.put, List.setIfInBounds_toArray, List.set_cons_zero, List.set_cons_succ]
    rfl
  refine take_ (i := 8) (N := some 85) (v := ?_) (a' := ?_) #[true, true, true, true, true, true, true, true, true, true, false, true, true, false, false, false, false] rfl rfl (by kernel_rfl) (fun _ _ _ h => h) (Or.inl ⟨by rfl, ?_⟩) hHeld ?_ ?_
  rotate_left
  · rintro w' ⟨s0, s1, s2, s3, s4, s5⟩
    go_simp
    with_reducible rfl
  rotate_left
  · simp only [Act.put, List.setIfInBounds_toArray, List.set_cons_zero, List.set_cons_succ]
    rfl
  refine take_ (i := 10) (N := some 87) (v := ?_) (a' := ?_) #[true, true, true, true, true, true, true, true, true, true, true, true, true, false, false, false, false] rfl rfl (by kernel_rfl) (fun _ _ _ h => h) (Or.inl ⟨by rfl, ?_⟩) hHeld ?_ ?_
  rotate_left
  · rintro w' ⟨s0, s1, s2, s3, s4, s5⟩
    go_simp
    with_reducible rfl
  rotate_left
  · simp only [Act.put, List.setIfInBounds_toArray, List.set_cons_zero, List.set_cons_succ]
    rfl
  refine one_ (i := 13) (N := some 90) #[true, true, true, true, true, true, true, true, true, true, true, true, true, true, false, false, false] rfl rfl (by kernel_rfl) (by decide) (fun K hK => ?_)
  refine goes_ Try.func21 (by kernel_rfl) rfl #[.pointer (some ⟨q, 0, none⟩), .string nmBack, .agg #[.slice Ay y.length cy, .slice none 0 0], .int .i64 t, .int .i64 wv] (by rfl) rfl rfl (by simp only [List.map_toArray, List.map_cons, List.map_nil]; rfl) ?_
  with_reducible refine (docS_turn0 De.out (by omega) O21.out nmBack Ay cy y (HQX.out _ _ Qe.out).2.1.c hy0 TY.out t wv (by omega) tt0 (by omega) (by omega)).mono ?_
  rintro e Wf ⟨Af, cf, Bf, df, rfl, ⟨vf0, vf1, vf2⟩, okf, _, _, hkf, hcf⟩
  rw [B21x.out, ← HM3.out] at vf0 vf1 ⊢
  have Qf := Lib.hid (HQK.out ok21 okf _ _ hkf hcf Qe.out)
  refine ⟨_, rfl, ?_⟩
  refine hK.out _ _ ⟨(HQX.out _ _ Qf.out).2.2.2.2.2.2.2.2.1.2.cell 0, (HQX.out _ _ Qf.out).2.2.2.2.2.2.2.2.1.2.cell 1, (HQX.out _ _ Qf.out).2.2.2.2.2.2.2.1.2.cell 0, (HQX.out _ _ Qf.out).2.2.2.2.2.2.2.1.2.cell 1, (HQX.out _ _ Qf.out).2.2.2.2.2.2.2.2.2.1.2.cell 0, (HQX.out _ _ Qf.out).2.2.2.2.2.2.2.2.2.1.2.cell 1⟩ (fun hHeld => ?_)
  clear hK K
  refine norm_ (a' := ?_) ?_ ?_
  rotate_left
  · show Act.put _ (some 90) _ = _
    simp only [Act.put, List.setIfInBounds_toArray, List.set_cons_zero, List.set_cons_succ]
    rfl
  refine one_ (i := 14) (N := some 91) #[true, true, true, true, true, true, true, true, true, true, true, true, true, true, true, false, false] rfl rfl (by kernel_rfl) (by decide) (fun K hK => ?_)
  refine goes_ Try.func18 (by kernel_rfl) rfl #[.agg #[.slice Aq m3.now.length cq, .slice Bq 0 dq], .agg #[.slice Af m3.now.length cf, .slice Bf 0 df]] (by rfl) rfl rfl (by simp only [List.map_toArray, List.map_cons, List.map_nil]; rfl) ?_
  with_reducible refine (sameC _ (HQX.out _ _ Qf.out).2.2.2.2.1.c zq (HQX.out _ _ Qf.out).2.2.2.2.2.1.c0 vf0 vf1 vf2 TQ.out rfl).mono ?_
  rintro e Wg ⟨rfl, hbg⟩
  have Qg := Lib.hid (HQK.out.step hbg Qf.out)
  refine ⟨_, rfl, ?_⟩
  refine hK.out _ _ ⟨(HQX.out _ _ Qg.out).2.2.2.2.2.2.2.2.1.2.cell 0, (HQX.out _ _ Qg.out).2.2.2.2.2.2.2.2.1.2.cell 1, (HQX.out _ _ Qg.out).2.2.2.2.2.2.2.1.2.cell 0, (HQX.out _ _ Qg.out).2.2.2.2.2.2.2.1.2.cell 1, (HQX.out _ _ Qg.out).2.2.2.2.2.2.2.2.2.1.2.cell 0, (HQX.out _ _ Qg.out).2.2.2.2.2.2.2.2.2.1.2.cell 1⟩ (fun hHeld => ?_)
  clear hK K
  refine norm_ (a' := ?_) ?_ ?_
  rotate_left
  · show Act.put _ (some 91) _ = _
    simp only [Act.put, List.setIfInBounds_toArray, List.set_cons_zero, List.set_cons_succ]
    rfl
  refine pure_ (i := 15) (N := some 92) (v := ?_) (a' := ?_) #[true, true, true, true, true, true, true, true, true, true, true, true, true, true, true, true, false] rfl rfl (by kernel_rfl) (fun _ _ _ h => h) (Or.inl ⟨by rfl, ?_⟩) ?_ ?_
  rotate_left
  · intro w'
    go_simp
    with_reducible rfl
  rotate_left
  · simp only [Act.put, List.setIfInBounds_toArray, List.set_cons_zero, List.set_cons_succ]
    rfl
  refine pure_ (i := 16) (N := some 8) (v := ?_) (a' := ?_) #[true, true, true, true, true, true, true, true, true, true, true, true, true, true, true, true, true] rfl rfl (by kernel_rfl) (fun _ _ _ h => h) (Or.inl ⟨by rfl, ?_⟩) ?_ ?_
  rotate_left
  · intro w'
    go_simp
    with_reducible rfl
  rotate_left
  · simp only [Act.put, List.setIfInBounds_toArray, List.set_cons_zero, List.set_cons_succ]
    rfl
  refine done_ (by kernel_rfl) ?_
  go_wp2_with fail
  go_ret
  exact ⟨rfl, (HQX.out _ _ Qg.out).2.2.2.2.2.2.2.2.2.2.1⟩

end Go.Proofs.Ytnkmpkhiilnigaa.PA
