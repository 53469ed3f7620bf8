/- LeadRight: the walk. (Printed by leadlaws.py and genx.py.) -/
import Derived.Test.YtnkmpkhiilnigaaGLeadS
namespace Go.Proofs.Ytnkmpkhiilnigaa.PA
open Go.RowKit Go.Shelf Go.Lib Go.Sort Go.Proofs.YtnkmpkhiilnigaaW.PrintWords Go.Proofs.YtnkmpkhiilnigaaW.PrintLast

def nmFront : ByteArray := ⟨#[102, 114, 111, 110, 116]⟩
def nmBack : ByteArray := ⟨#[98, 97, 99, 107]⟩
def nmStill : ByteArray := ⟨#[115, 116, 105, 108, 108]⟩

theorem right_facts {a y : List S40} (ta : Tab R6 a) (ty : Tab R6 y) {wh s t : Int} (hst : s ≤ t) (x : List UInt8) (hx : x ∈ R6) (h : wn a x ≤ wn y x) : wn (rollL a y s wh) x ≤ wn (rollL a y t wh) x := by
  by_cases e : wh ≤ 0
  · have h1 : ∀ g, rollL a y g wh = y := fun g => by unfold rollL; rw [if_pos (.inl e)]
    rw [h1, h1]
    exact Int.le_refl _
  · exact (roll_mono R6_rising ta ty (by omega) hst x hx).1 h
theorem right_end {a y : List S40} {wh t : Int} (h : wh ≤ t) : rollL a y t wh = y := roll_to h

set_option maxRecDepth 100000 in
set_option maxHeartbeats 8000000 in
theorem right_law (A0 : Option Addr) (c0 : Nat) (l0 : List Int) (A1 : Option Addr) (c1 : Nat) (l1 : List Int) (a2 : Int) (A3 : Option Addr) (c3 : Nat) (l3 : List Int) (w : World) (hr0 : Kd.C (Kd.int .i64) w A0 l0.length l0) (hc0 : l0.length ≤ c0) (hr1 : Kd.C (Kd.int .i64) w A1 l1.length l1) (hc1 : l1.length ≤ c1) (hr3 : Kd.C (Kd.int .i64) w A3 l3.length l3) (_hc3 : l3.length ≤ c3) :
    Calls Try.prog 3 #[.slice A0 l0.length c0, .slice A1 l1.length c1, .int .i64 a2, .slice A3 l3.length c3] w fun e w' => e = .returned (.bool true) ∧ Below w.heap.size w w' := by

  obtain ⟨k0, a, ha, ta⟩ := shares_tab l0
  obtain ⟨k1, y, hy, ty⟩ := shares_tab l1
  have HA := Lib.hid ha
  have HY := Lib.hid hy
  have TA := Lib.hid ta
  have TY := Lib.hid ty
  have HR0 := Lib.hid hr0
  have HR1 := Lib.hid hr1
  have HR3 := Lib.hid hr3
  clear hr3
  clear ha hy ta ty hr0 hr1
  go_enter Try.func3, Try.ntmps3
  go_wp2_with fail
  refine (known13 _).mono ?_
  rintro e w1 ⟨rfl, hb1⟩
  go_wp2_with fail
  refine (newS _).mono ?_
  rintro e w2 ⟨p, b, rfl, R2, hp, hb, hb2⟩
  have b2 := hb1.trans (hb2.mono hb1.size)
  have hbw : w.heap.size ≤ b := Nat.le_trans hb1.size hb
  have hbl2 := R2.lt.2.1
  go_wp2_with fail
  refine (make_nil A0 c0 l0 _ (Kd.C_below HR0.out b2) hc0 k0 a HA.out).mono ?_
  rintro e w3 ⟨Ax, cx, rfl, hx0, hx1, hx2, hb3⟩
  have b3 := b2.trans (hb3.mono b2.size)
  have R3 := R2.below hb3
  go_wp2_with fail
  refine (make_nil A1 c1 l1 _ (Kd.C_below HR1.out b3) hc1 k1 y HY.out).mono ?_
  rintro e w4 ⟨Ay, cy, rfl, hy0, hy1, hy2, hb4⟩
  have b4 := b3.trans (hb4.mono b3.size)
  have R4 := R3.below hb4
  obtain ⟨gx, hgx⟩ : ∃ gx, gx = w4.heap.size := ⟨_, rfl⟩
  obtain ⟨W5, hW5⟩ : ∃ W5, W5 = (w4.alloc (.cells #[.slice Ax a.length cx, .slice none 0 0] 29)).alloc (.cells #[.slice Ay y.length cy, .slice none 0 0] 29) := ⟨_, rfl⟩
  have bW5 : Below w4.heap.size w4 W5 := by rw [hW5]; exact ((Below.refl _ _).alloc (Nat.le_refl _) _).alloc (by simp) _
  have kx : Blk W5 gx #[.slice Ax a.length cx, .slice none 0 0] 29 := by rw [hW5, hgx]; exact (Blk.new _ _ _).alloc _
  have ky : Blk W5 (gx + 1) #[.slice Ay y.length cy, .slice none 0 0] 29 := by
    rw [hW5, hgx]
    have := Blk.new (w4.alloc (.cells #[.slice Ax a.length cx, .slice none 0 0] 29)) #[.slice Ay y.length cy, .slice none 0 0] 29
    simpa using this
  have R5 := Lib.hid (R4.below bW5)
  have z23 := hb3.size
  have z34 := hb4.size
  have hbgx : b < gx := by omega
  have hgb : gx ≠ b := by omega
  have hgb1 : gx + 1 ≠ b := by omega
  obtain ⟨P, hst, hex, hP5⟩ : ∃ P : World → Prop, Stable b P ∧ (∀ W, P W → RowS b Ax a W ∧ RowS b Ay y W ∧ Blk W gx #[.slice Ax a.length cx, .slice none 0 0] 29 ∧ Blk W (gx + 1) #[.slice Ay y.length cy, .slice none 0 0] 29 ∧ Below w.heap.size w W) ∧ P W5 :=
    ⟨_, (Stable.rowS b Ax a).and ((Stable.rowS b Ay y).and ((Stable.blk hgb _ _).and ((Stable.blk hgb1 _ _).and (Stable.below w hbw)))), fun W h => h,
      ⟨Kd.C_below (Kd.C_below hx1 hb4) bW5, hx2.mono (fun k (hk : w2.heap.size ≤ k) _ _ _ _ => by omega)⟩, ⟨Kd.C_below hy1 bW5, hy2.mono (fun k (hk : w3.heap.size ≤ k) _ _ _ _ => by omega)⟩, kx, ky, b4.trans (bW5.mono b4.size)⟩
  have HST := Lib.hid hst
  have HEX := Lib.hid hex
  have P5 := Lib.hid hP5
  clear hx1 hy1 hx2 hy2 hb1 hb2 hb3 hb4 b2 b3 b4 R2 R3 R4 kx ky bW5 hst hex hP5
  go_wp2_with fail
  rw [← hW5, ← hgx]
  clear hW5 hgx hp hb hbl2 z23 z34
  have hwi := Lib.hid (within13 a2 40 (by omega) (by omega))
  have wh0 := Int.emod_nonneg a2 (b := 40) (by omega)
  have wh1 := Int.emod_lt_of_pos a2 (b := 40) (by omega)
  refine (damperlaw13_within.calls a2 40 (a2 % 40) _ hwi.out).mono ?_
  rintro e W6 ⟨rfl, hd_⟩
  have hd_ := hd_.below
  clear hwi
  have R6_ := Lib.hid (R5.out.below hd_)
  have P6 := Lib.hid (HST.out _ _ (chg_below hd_) P5.out)
  obtain ⟨wh, hwh⟩ : ∃ wh, wh = a2 % 40 := ⟨_, rfl⟩
  rw [← hwh] at wh0 wh1 ⊢
  clear hwh hd_ R5 P5
  have f_ := HEX.out _ P6.out
  have qx0 := f_.2.2.1.cell 0
  have qx1 := f_.2.2.1.cell 1
  have qy0 := f_.2.2.2.1.cell 0
  have qy1 := f_.2.2.2.1.cell 1
  simp only [List.getElem?_toArray, List.getElem?_cons_zero, List.getElem?_cons_succ] at qx0 qx1 qy0 qy1
  clear f_
  go_wp2_with fail
  refine (turn0 R6_.out (OkM.none 0) nmFront (by decide) (by decide) Ax cx a (HEX.out _ P6.out).1 TA.out 0 wh (by omega) (by omega) (by omega) (by omega)).mono ?_
  rintro e W7 ⟨A7, c7, B7, d7, rfl, _, R7, O7, hc7⟩
  have P7 := Lib.hid (HST.out _ _ hc7 P6.out)
  have hg7 : Hid ((setWay nmFront.data.toList (some (turnW (noWays nmFront.data.toList) a [] 0 wh)) noWays) nmFront.data.toList = some (turnW none a [] 0 wh)) := Lib.hid (setWay_same _ _ _)
  generalize setWay nmFront.data.toList (some (turnW (noWays nmFront.data.toList) a [] 0 wh)) noWays = M7 at R7 O7 hg7
  have HR7 := Lib.hid R7
  have HO7 := Lib.hid O7
  clear qx0 qx1 qy0 qy1
  clear hc7 R6_ P6 R7 O7
  have f_ := HEX.out _ P7.out
  have qy0 := f_.2.2.2.1.cell 0
  have qy1 := f_.2.2.2.1.cell 1
  simp only [List.getElem?_toArray, List.getElem?_cons_zero, List.getElem?_cons_succ] at qy0 qy1
  clear f_
  go_wp2_with fail
  refine (turn0 HR7.out HO7.out nmFront (by decide) (by decide) Ay cy y (HEX.out _ P7.out).2.1 TY.out 0 wh (by omega) (by omega) (by omega) (by omega)).mono ?_
  rintro e W8 ⟨A8, c8, B8, d8, rfl, ⟨r8, z8, t8⟩, R8, O8, hc8⟩
  have P8 := Lib.hid (HST.out _ _ hc8 P7.out)
  have hgo : Hid (Goes a y wh ((setWay nmFront.data.toList (some (turnW (M7 nmFront.data.toList) y [] 0 wh)) M7) nmFront.data.toList) ∧ (turnW (M7 nmFront.data.toList) y [] 0 wh).now = rollL a y 0 wh) := Lib.hid (by
    rw [setWay_same, hg7.out]
    have hgf := goes_first (a := a) (y := y) TA.out wh [] []
    refine ⟨hgf, ?_⟩
    have h2 := (goes_on hgf [] 0).1
    rw [turn_again] at h2
    exact h2)
  generalize setWay nmFront.data.toList (some (turnW (M7 nmFront.data.toList) y [] 0 wh)) M7 = M8 at R8 O8 hgo
  generalize turnW (M7 nmFront.data.toList) y [] 0 wh = m8 at r8 z8 hgo ⊢
  obtain ⟨la, hla⟩ : ∃ la, la = m8.now := ⟨_, rfl⟩
  rw [← hla] at r8 z8 hgo ⊢
  obtain ⟨gl, hgl⟩ : ∃ gl, gl = W8.heap.size := ⟨_, rfl⟩
  obtain ⟨W9, hW9⟩ : ∃ W9, W9 = W8.alloc (.cells #[.slice A8 la.length c8, .slice B8 0 d8] 29) := ⟨_, rfl⟩
  have bW9 : Below W8.heap.size W8 W9 := by rw [hW9]; exact (Below.refl _ _).alloc (Nat.le_refl _) _
  have kl : Blk W9 gl #[.slice A8 la.length c8, .slice B8 0 d8] 29 := by rw [hW9, hgl]; exact Blk.new _ _ _
  have hFb : ∀ k, k < W8.heap.size → k = b ∨ k = gl → k = b := fun k hk h => by rcases h with h | h <;> omega
  have p8 := HEX.out _ P8.out
  have hgl0 : b < gl := by have := R8.lt.2.1; omega
  have hgx : gx + 1 < gl := by have := p8.2.2.2.1.lt; omega
  obtain ⟨Q, hqt, hqx, hQ9⟩ : ∃ Q : World → Prop, StableF (fun k => k = b ∨ k = gl) Q ∧ (∀ W, Q W → RowF (fun k => k = b ∨ k = gl) Ax a W ∧ RowF (fun k => k = b ∨ k = gl) Ay y W ∧ Blk W gx #[.slice Ax a.length cx, .slice none 0 0] 29 ∧ Blk W (gx + 1) #[.slice Ay y.length cy, .slice none 0 0] 29 ∧ Below w.heap.size w W) ∧ Q W9 :=
    ⟨_, (StableF.rowF _ Ax a).and ((StableF.rowF _ Ay y).and ((StableF.blk (g := gx) (show ¬ (gx = b ∨ gx = gl) by omega) _ _).and ((StableF.blk (g := gx + 1) (show ¬ (gx + 1 = b ∨ gx + 1 = gl) by omega) _ _).and (StableF.below w (fun k (hk : k = b ∨ k = gl) => by rcases hk with h | h <;> omega))))), fun W h => h,
      StableF.rowF _ Ax a _ _ (Chg.of_below bW9 (fun k hk hk' => by omega)) (p8.1.toF hFb), StableF.rowF _ Ay y _ _ (Chg.of_below bW9 (fun k hk hk' => by omega)) (p8.2.1.toF hFb), p8.2.2.1.below bW9 (by omega), p8.2.2.2.1.below bW9 (by omega), p8.2.2.2.2.trans (bW9.mono p8.2.2.2.2.size)⟩
  have HQT := Lib.hid hqt
  have HQX := Lib.hid hqx
  have Q9 := Lib.hid hQ9
  have R9 := Lib.hid (R8.below bW9)
  have O9 := Lib.hid O8
  have rl9 := Lib.hid (StableF.rowF _ A8 la _ _ (Chg.of_below bW9 (fun k hk hk' => by omega)) (r8.toF hFb))
  have tl9 := Lib.hid (StableF.rowTF _ B8 [] _ _ (Chg.of_below bW9 (fun k hk hk' => by omega)) (t8.toF hFb))
  have KL9 := Lib.hid kl
  have zl9 := Lib.hid z8
  have HLA := Lib.hid (show la = rollL a y 0 wh from hgo.out.2)
  have HGO := Lib.hid hgo.out.1
  clear hqt hqx hQ9 R8 O8 r8 t8 z8 hc8 kl bW9 hFb p8 hgo hla P8 P7 HR7 HO7 hg7 HST HEX hgx
  clear qy0 qy1
  go_wp2_with fail
  rw [← hW9, ← hgl]
  clear hW9 hgl
  refine (damperlaw5_Revs.calls revs6 _ revs_f).mono ?_
  rintro e Wr ⟨vr, rfl, hrr, hbr⟩
  obtain ⟨Ar, cr, rfl, hlr, hCr⟩ := Kd.R_reads hrr
  have hIr : InOk (fun k => ¬ (k = b ∨ k = gl)) Ar revs6.length := fun hp ad e hf => by
    obtain ⟨inner, ho⟩ := Kd.R_own hrr
    have h1 := own_base ho ad.block (by rw [e]; rfl)
    have h2 := KL9.out.lt
    rcases hf with h | h <;> omega
  have SR := Lib.hid (show RowStr (fun k => k = b ∨ k = gl) Ar revs6 Wr from ⟨hCr, hIr⟩)
  have cF := Lib.hid (Chg.of_below hbr (F := (fun k => k = b ∨ k = gl)) (fun k hk hk' => by omega))
  have Qr := Lib.hid (HQT.out _ _ cF.out Q9.out)
  have Rr := Lib.hid (R9.out.below hbr)
  have rlr := Lib.hid (StableF.rowF _ A8 la _ _ cF.out rl9.out)
  have tlr := Lib.hid (StableF.rowTF _ B8 [] _ _ cF.out tl9.out)
  have KLr := Lib.hid (KL9.out.below hbr KL9.out.lt)
  obtain ⟨nr, hnr⟩ : ∃ nr : Nat, nr = revs6.length := ⟨_, rfl⟩
  rw [← hnr] at hlr ⊢
  have HNR := Lib.hid hnr
  have hnr6 : nr ≤ 6 := by rw [hnr]; exact Nat.le_refl _
  clear hrr hbr hCr hIr cF Q9 R9 rl9 tl9 KL9 hnr hlr
  go_wp2_with fail
  go_loopw [14, 16] (fun v14 v16 wr => ∃ (i : Nat) (t : Int) (la : List S40) (Al : Option Addr) (cl : Nat) (Bl : Option Addr) (dl : Nat) (M : List UInt8 → Option WayM), i ≤ l3.length ∧ i ≤ 30 ∧ v14 = .int .i64 t ∧ 0 ≤ t ∧ t ≤ 4 * (i : Int) ∧ v16 = .int .i64 i ∧ Hid (RollerS wr p b M) ∧ Hid (OkM M t) ∧ Hid (Goes a y wh (M nmFront.data.toList)) ∧ Hid (la = rollL a y t wh) ∧ Hid (la.length ≤ cl) ∧ Hid (RowF (fun k => k = b ∨ k = gl) Al la wr) ∧ Hid (RowTF (fun k => k = b ∨ k = gl) Bl [] wr) ∧ Hid (Blk wr gl #[.slice Al la.length cl, .slice Bl 0 dl] 29) ∧ Hid (RowStr (fun k => k = b ∨ k = gl) Ar revs6 wr) ∧ Hid (Q wr)) (fun _ v16 _ => l3.length - (vI v16).toNat)
  case atStart => exact ⟨0, 0, la, A8, c8, B8, d8, M8, by omega, by omega, rfl, by omega, by omega, rfl, Rr, O9, HGO, HLA, zl9, rlr, tlr, KLr, SR, Qr⟩
  case round =>
    clear Rr O9 HGO HLA zl9 rlr tlr KLr SR Qr
    obtain ⟨i, t, lb, Al, cl, Bl, dl, M, hi, hi30, rfl, ht0, ht1, rfl, RR, OO, GG, LL, zl, rl, tl, KL, SR, QQ⟩ := hrel
    by_cases hlt : i < l3.length
    · by_cases h30 : i < 30
      · have hlt' : (i : Int) < (l3.length : Int) := by omega
        obtain ⟨ad, rfl, hce⟩ := Kd.at_int (Kd.C_below HR3.out (HQX.out _ QQ.out).2.2.2.2) (i : Int) (by omega) hlt'
        rw [Int.toNat_natCast] at hce
        generalize rd l3 i = nx at hce
        go_wp2_with fail
        have hwi := Lib.hid (within13 nx 5 (by omega) (by omega))
        have q0 := Int.emod_nonneg nx (b := 5) (by omega)
        have q1 := Int.emod_lt_of_pos nx (b := 5) (by omega)
        refine (damperlaw13_within.calls nx 5 (nx % 5) _ hwi.out).mono ?_
        rintro e W1 ⟨rfl, hd_⟩
        have hd_ := hd_.below
        clear hwi
        have cFd := Chg.of_below hd_ (F := (fun k => k = b ∨ k = gl)) (fun k hk hk' => by omega)
        have Q1 := Lib.hid (HQT.out _ _ cFd QQ.out)
        have R1 := Lib.hid (RR.out.below hd_)
        have rl1 := Lib.hid (StableF.rowF _ Al lb _ _ cFd rl.out)
        have tl1 := Lib.hid (StableF.rowTF _ Bl [] _ _ cFd tl.out)
        have KL1 := Lib.hid (KL.out.below hd_ KL.out.lt)
        have SR1 := Lib.hid (StableF.rowStr _ Ar revs6 _ _ cFd SR.out)
        generalize nx % 5 = q at q0 q1 ⊢
        obtain ⟨u, hu⟩ : ∃ u, u = t + q := ⟨_, rfl⟩
        have hu0 : 0 ≤ u := by omega
        have hu1 : u ≤ 4 * ((i : Int) + 1) := by omega
        have htu : t ≤ u := by omega
        have HU := Lib.hid hu
        clear hu hce hd_ cFd QQ RR rl tl KL SR
        have f_ := HQX.out _ Q1.out
        have qy0 := f_.2.2.2.1.cell 0
        have qy1 := f_.2.2.2.1.cell 1
        simp only [List.getElem?_toArray, List.getElem?_cons_zero, List.getElem?_cons_succ] at qy0 qy1
        clear f_
        go_wp2_with fail
        rw [← HU.out]
        clear HU q0 q1
        refine (turn0 R1.out OO.out nmFront (by decide) (by decide) Ay cy y ((HQX.out _ Q1.out).2.1.toS (.inl rfl)) TY.out u wh (by omega) htu (by omega) (by omega)).mono ?_
        rintro e W2 ⟨A2, c2, B2, d2, rfl, ⟨r2, z2, t2⟩, R2, O2, hc2⟩
        have hgo := goes_on GG.out [] u
        rw [← setWay_same nmFront.data.toList (some (turnW (M nmFront.data.toList) y [] u wh)) M] at hgo
        have HGO := Lib.hid hgo.2
        have HNW := Lib.hid hgo.1
        have tw := Lib.hid (turn_ok (o := M nmFront.data.toList) (fun m e => OO.out _ m e) TY.out (tg := []) (by simp) (by omega) htu wh).cur
        clear hgo
        generalize setWay nmFront.data.toList (some (turnW (M nmFront.data.toList) y [] u wh)) M = M2 at R2 O2 HGO
        obtain ⟨ln, hln⟩ : ∃ ln, ln = (turnW (M nmFront.data.toList) y [] u wh).now := ⟨_, rfl⟩
        rw [← hln] at r2 z2 HNW tw ⊢
        clear hln
        obtain ⟨gt, hgt⟩ : ∃ gt, gt = W2.heap.size := ⟨_, rfl⟩
        obtain ⟨W3, hW3⟩ : ∃ W3, W3 = W2.alloc (.cells #[.slice A2 ln.length c2, .slice B2 0 d2] 29) := ⟨_, rfl⟩
        have bW3 : Below W2.heap.size W2 W3 := by rw [hW3]; exact (Below.refl _ _).alloc (Nat.le_refl _) _
        have kt : Blk W3 gt #[.slice A2 ln.length c2, .slice B2 0 d2] 29 := by rw [hW3, hgt]; exact Blk.new _ _ _
        have c2F : Chg (fun k => k = b ∨ k = gl) _ W2 := hc2.mono (fun k _ h => .inl h)
        have c3F := c2F.trans (Chg.of_below bW3 (F := (fun k => k = b ∨ k = gl)) (fun k hk hk' => by omega)) (fun _ _ h => h)
        have hFb : ∀ k, k < W2.heap.size → k = b ∨ k = gl → k = b ∨ k = gl := fun _ _ h => h
        have Q3 := Lib.hid (HQT.out _ _ c3F Q1.out)
        have rl3 := Lib.hid (StableF.rowF _ Al lb _ _ c3F rl1.out)
        have tl3 := Lib.hid (StableF.rowTF _ Bl [] _ _ c3F tl1.out)
        have hglt := KL1.out.lt
        have KL3 := Lib.hid ((KL1.out.chg hc2 (fun e => by omega)).below bW3 (by have := hc2.size; omega))
        have SR3 := Lib.hid (StableF.rowStr _ Ar revs6 _ _ c3F SR1.out)
        have R3 := Lib.hid (R2.below bW3)
        have O3 := Lib.hid O2
        have hb2 := R2.lt.2.1
        have rn3 := Lib.hid (show RowS b A2 ln W3 from Stable.rowS b A2 ln _ _ (chg_below bW3) r2)
        have tn3 := Lib.hid (Stable.rowT b B2 [] _ _ (chg_below bW3) t2)
        have zn := Lib.hid z2
        have KT3 := Lib.hid kt
        have hgt0 : gt ≠ b ∧ gt ≠ gl := ⟨by omega, by have := hc2.size; omega⟩
        have hlnew := Lib.hid hFb
        clear hFb r2 t2 z2 R2 O2 hc2 kt bW3 c2F c3F Q1 R1 rl1 tl1 KL1 SR1 OO GG hglt hb2
        clear qy0 qy1
        go_wp2_with fail
        rw [← hW3, ← hgt]
        clear hW3 hgt
        refine (right0 (b := b) _ rn3.out zn.out tn3.out tw.out).mono ?_
        rintro e W4 ⟨rfl, hb4⟩
        have c4F := Chg.of_below hb4 (F := (fun k => k = b ∨ k = gl)) (fun k hk hk' => by omega)
        have Q4 := Lib.hid (HQT.out _ _ c4F Q3.out)
        have rl4 := Lib.hid (StableF.rowF _ Al lb _ _ c4F rl3.out)
        have tl4 := Lib.hid (StableF.rowTF _ Bl [] _ _ c4F tl3.out)
        have KL4 := Lib.hid (KL3.out.below hb4 KL3.out.lt)
        have KT4 := Lib.hid (KT3.out.below hb4 KT3.out.lt)
        have SR4 := Lib.hid (StableF.rowStr _ Ar revs6 _ _ c4F SR3.out)
        have R4 := Lib.hid (R3.out.below hb4)
        have rn4 := Lib.hid (Stable.rowS b A2 ln _ _ (chg_below hb4) rn3.out)
        have tn4 := Lib.hid (Stable.rowT b B2 [] _ _ (chg_below hb4) tn3.out)
        clear hb4 c4F Q3 rl3 tl3 KL3 KT3 SR3 R3 rn3 tn3
        go_wp2_with fail
        go_loopw [18] (fun v18 wz => ∃ (j : Nat), j ≤ nr ∧ v18 = .int .i64 j ∧ Hid (Drawn0 W4 wz)) (fun v18 _ => nr - (vI v18).toNat)
        case atStart => exact ⟨0, by omega, rfl, Lib.hid (Drawn0.refl _)⟩
        case round =>
          obtain ⟨j, hj, rfl, hD⟩ := hrel
          have hbz := hD.out.below
          have czF := Chg.of_below hbz (F := (fun k => k = b ∨ k = gl)) (fun k hk hk' => by omega)
          by_cases hjn : j < nr
          · have hj' : (j : Int) < (nr : Int) := by omega
            have srz := (StableF.rowStr _ Ar revs6 _ _ czF SR4.out).1
            obtain ⟨ar, hea, hcs⟩ := Kd.at_string srz (j : Int) (by omega) (by rw [← HNR.out]; exact hj')
            subst hea
            have hj6 : j < 6 := by omega
            rw [revs6_at j hj6, Int.toNat_natCast] at hcs
            have hmem := R6_mem j hj6
            have hrf := Lib.hid (fun h => right_facts TA.out TY.out (wh := wh) htu _ hmem h)
            rw [← LL.out, ← HNW.out] at hrf
            generalize R6.getD j [] = nm at hcs hrf
            unfold wn at hrf
            have kl0 := (KL4.out.below hbz KL4.out.lt).cell 0
            have kt0 := (KT4.out.below hbz KT4.out.lt).cell 0
            have qz := HQX.out _ (HQT.out _ _ czF Q4.out)
            have kx0 := qz.2.2.1.cell 0
            have ky0 := qz.2.2.2.1.cell 0
            simp only [List.getElem?_toArray, List.getElem?_cons_zero] at kl0 kt0 kx0 ky0
            have CL := Lib.hid (StableF.rowF _ Al lb _ _ czF rl4.out).1
            have CT := Lib.hid (Stable.rowS b A2 ln _ _ (chg_below hbz) rn4.out).1
            have CX := Lib.hid qz.1.1
            have CY := Lib.hid qz.2.1.1
            have lb6 := Lib.hid (show lb.length ≤ 1000000 from by rw [LL.out]; have := tab_len (roll_tab' R6_rising TA.out TY.out t wh); omega)
            have QL := Lib.hid (refw_q lb6.out Al cl (bs nm))
            have QT := Lib.hid (refw_q (l := ln) (by have := tab_len tw.out; omega) A2 c2 (bs nm))
            have QX := Lib.hid (refw_q (l := a) (by have := tab_len TA.out; omega) Ax cx (bs nm))
            have QY := Lib.hid (refw_q (l := y) (by have := tab_len TY.out; omega) Ay cy (bs nm))
            clear qz srz lb6 hmem
            generalize wt lb (bs nm) = vp at QL hrf
            generalize wt ln (bs nm) = vq at QT hrf
            generalize wt a (bs nm) = vx at QX hrf
            generalize wt y (bs nm) = vy at QY hrf
            have Drz : ∀ n, Drawn0 W4 (wr.drewN n) := fun n => hD.out.step n
            have HDRZ := Lib.hid Drz
            clear Drz hbz czF
            go_wp2_with fail
            go_quiet (first
              | (go_at_call 17; (with_reducible refine (QL.out _ ?side1 zl.out).mono ?_); (case side1 => repeat (first | exact CL.out | (with_reducible refine Kd.C_drewN ?_ _) | (with_reducible refine Kd.C_drew ?_))); rintro e w' ⟨rfl, ⟨nd, rfl⟩⟩; (try first | exact ⟨rfl, _, World.drewN_drewN _ _ _⟩ | exact ⟨rfl, _, Eq.trans (World.drewN_drewN _ _ _) (congrArg (World.drewN _) (Nat.add_assoc _ _ _))⟩))
              | (go_at_call 17; (with_reducible refine (QT.out _ ?side1 zn.out).mono ?_); (case side1 => repeat (first | exact CT.out | (with_reducible refine Kd.C_drewN ?_ _) | (with_reducible refine Kd.C_drew ?_))); rintro e w' ⟨rfl, ⟨nd, rfl⟩⟩; (try first | exact ⟨rfl, _, World.drewN_drewN _ _ _⟩ | exact ⟨rfl, _, Eq.trans (World.drewN_drewN _ _ _) (congrArg (World.drewN _) (Nat.add_assoc _ _ _))⟩)))
            by_cases hxy : vx ≤ vy
            · have g1 : decide (vx ≤ vy) = true := decide_eq_true hxy
              have g2 : decide (vq < vp) = false := decide_eq_false (by have := hrf.out hxy; omega)
              clear hxy
              go_wp2_with fail
              go_quiet (first
                | (go_at_call 17; (with_reducible refine (QY.out _ ?side1 hy0).mono ?_); (case side1 => repeat (first | exact CY.out | (with_reducible refine Kd.C_drewN ?_ _) | (with_reducible refine Kd.C_drew ?_))); rintro e w' ⟨rfl, ⟨nd, rfl⟩⟩; (try first | exact ⟨rfl, _, World.drewN_drewN _ _ _⟩ | exact ⟨rfl, _, Eq.trans (World.drewN_drewN _ _ _) (congrArg (World.drewN _) (Nat.add_assoc _ _ _))⟩))
                | (go_at_call 17; (with_reducible refine (QX.out _ ?side1 hx0).mono ?_); (case side1 => repeat (first | exact CX.out | (with_reducible refine Kd.C_drewN ?_ _) | (with_reducible refine Kd.C_drew ?_))); rintro e w' ⟨rfl, ⟨nd, rfl⟩⟩; (try first | exact ⟨rfl, _, World.drewN_drewN _ _ _⟩ | exact ⟨rfl, _, Eq.trans (World.drewN_drewN _ _ _) (congrArg (World.drewN _) (Nat.add_assoc _ _ _))⟩)))
              go_wp2_with fail
              go_roundw
              case rel => exact ⟨j + 1, by omega, by go_num, Lib.hid (HDRZ.out _)⟩
              case measure => simp [vI]; omega
            · have g1 : decide (vx ≤ vy) = false := decide_eq_false hxy
              clear hxy
              go_wp2_with fail
              go_quiet (first
                | (go_at_call 17; (with_reducible refine (QY.out _ ?side1 hy0).mono ?_); (case side1 => repeat (first | exact CY.out | (with_reducible refine Kd.C_drewN ?_ _) | (with_reducible refine Kd.C_drew ?_))); rintro e w' ⟨rfl, ⟨nd, rfl⟩⟩; (try first | exact ⟨rfl, _, World.drewN_drewN _ _ _⟩ | exact ⟨rfl, _, Eq.trans (World.drewN_drewN _ _ _) (congrArg (World.drewN _) (Nat.add_assoc _ _ _))⟩))
                | (go_at_call 17; (with_reducible refine (QX.out _ ?side1 hx0).mono ?_); (case side1 => repeat (first | exact CX.out | (with_reducible refine Kd.C_drewN ?_ _) | (with_reducible refine Kd.C_drew ?_))); rintro e w' ⟨rfl, ⟨nd, rfl⟩⟩; (try first | exact ⟨rfl, _, World.drewN_drewN _ _ _⟩ | exact ⟨rfl, _, Eq.trans (World.drewN_drewN _ _ _) (congrArg (World.drewN _) (Nat.add_assoc _ _ _))⟩)))
              go_wp2_with fail
              go_roundw
              case rel => exact ⟨j + 1, by omega, by go_num, Lib.hid (HDRZ.out _)⟩
              case measure => simp [vI]; omega
          · obtain rfl : j = nr := by omega
            have Q5 := Lib.hid (HQT.out _ _ czF Q4.out)
            have rn5 := Lib.hid (Stable.rowS b A2 ln _ _ (chg_below hbz) rn4.out)
            have tn5 := Lib.hid (Stable.rowT b B2 [] _ _ (chg_below hbz) tn4.out)
            have KL5 := Lib.hid (KL4.out.below hbz KL4.out.lt)
            have KT5 := Lib.hid (KT4.out.below hbz KT4.out.lt)
            have SR5 := Lib.hid (StableF.rowStr _ Ar revs6 _ _ czF SR4.out)
            have R5_ := Lib.hid (R4.out.below hbz)
            clear hbz czF hD
            have qy5 := (HQX.out _ Q5.out).2.2.2.1
            by_cases hwu : wh ≤ u
            · have g1 : decide (wh ≤ u) = true := decide_eq_true hwu
              have hey := Lib.hid (show ln = y from by rw [HNW.out]; exact right_end hwu)
              have py0 := qy5.cell 0
              have py1 := qy5.cell 1
              have pt0 := KT5.out.cell 0
              have pt1 := KT5.out.cell 1
              simp only [List.getElem?_toArray, List.getElem?_cons_zero, List.getElem?_cons_succ] at py0 py1 pt0 pt1
              clear qy5 hwu
              go_wp2_with fail
              refine (same0 (b := b) _ rn5.out zn.out tn5.out ((HQX.out _ Q5.out).2.1.toS (.inl rfl)) hy0 (rowT_nil b _) (by have := tab_len tw.out; omega) hey.out).mono ?_
              rintro e W6 ⟨rfl, hb6⟩
              have c6F := Chg.of_below hb6 (F := (fun k => k = b ∨ k = gl)) (fun k hk hk' => by omega)
              have Q6 := Lib.hid (HQT.out _ _ c6F Q5.out)
              have rn6 := Lib.hid (Stable.rowS b A2 ln _ _ (chg_below hb6) rn5.out)
              have tn6 := Lib.hid (Stable.rowT b B2 [] _ _ (chg_below hb6) tn5.out)
              have KL6 := Lib.hid (KL5.out.below hb6 KL5.out.lt)
              have KT6 := Lib.hid (KT5.out.below hb6 KT5.out.lt)
              have SR6 := Lib.hid (StableF.rowStr _ Ar revs6 _ _ c6F SR5.out)
              have R6x := Lib.hid (R5_.out.below hb6)
              clear c6F hb6 py0 py1 pt0 pt1 Q5 rn5 tn5 KL5 KT5 SR5 R5_
              have klx := KL6.out
              have ktx := KT6.out
              have e0 := klx.cell 0
              have e1 := klx.cell 1
              have f0 := klx.frozen 0
              have f1 := klx.frozen 1
              have d0 := ktx.cell 0
              have d1 := ktx.cell 1
              simp only [List.getElem?_toArray, List.getElem?_cons_zero, List.getElem?_cons_succ] at e0 e1 d0 d1
              clear klx ktx
              go_wp2_with fail
              have k6 := (KL6.out.set 0 (.slice A2 ln.length c2) (cs' := #[.slice A2 ln.length c2, .slice Bl 0 dl]) rfl).set 1 (.slice B2 0 d2) (cs' := #[.slice A2 ln.length c2, .slice B2 0 d2]) rfl
              have hcg : Chg (fun k => k = gl) W6 ((W6.setCell ⟨gl, 0, none⟩ (.slice A2 ln.length c2)).setCell ⟨gl, 1, none⟩ (.slice B2 0 d2)) := ((Chg.refl (fun k => k = gl) W6).setCell (a := ⟨gl, 0, none⟩) (fun _ => rfl) _).setCell (a := ⟨gl, 1, none⟩) (fun _ => rfl) _
              have hcF : Chg (fun k => k = b ∨ k = gl) W6 ((W6.setCell ⟨gl, 0, none⟩ (.slice A2 ln.length c2)).setCell ⟨gl, 1, none⟩ (.slice B2 0 d2)) := hcg.mono (fun k _ h => .inr h)
              have rF := StableF.rowF _ A2 ln _ _ hcF (rn6.out.andF KL6.out)
              have sF := StableF.rowStr _ Ar revs6 _ _ hcF SR6.out
              have qF := HQT.out _ _ hcF Q6.out
              have RF : RollerS ((W6.setCell ⟨gl, 0, none⟩ (.slice A2 ln.length c2)).setCell ⟨gl, 1, none⟩ (.slice B2 0 d2)) p b M2 := RollerS.chgG R6x.out hcg (by omega) KL6.out
              go_roundw
              case rel => exact ⟨i + 1, u, ln, A2, c2, B2, d2, M2, by omega, by omega, rfl, hu0, by omega, by go_num, Lib.hid RF, O3, HGO, HNW, zn, Lib.hid rF, Lib.hid (rowTF_nil _ _ _ _ tn6.out.1), Lib.hid k6, Lib.hid sF, Lib.hid qF⟩
              case measure => simp [vI]; omega
            · have g1 : decide (wh ≤ u) = false := decide_eq_false hwu
              clear qy5 hwu
              have klx := KL5.out
              have ktx := KT5.out
              have e0 := klx.cell 0
              have e1 := klx.cell 1
              have f0 := klx.frozen 0
              have f1 := klx.frozen 1
              have d0 := ktx.cell 0
              have d1 := ktx.cell 1
              simp only [List.getElem?_toArray, List.getElem?_cons_zero, List.getElem?_cons_succ] at e0 e1 d0 d1
              clear klx ktx
              go_wp2_with fail
              have k6 := (KL5.out.set 0 (.slice A2 ln.length c2) (cs' := #[.slice A2 ln.length c2, .slice Bl 0 dl]) rfl).set 1 (.slice B2 0 d2) (cs' := #[.slice A2 ln.length c2, .slice B2 0 d2]) rfl
              have hcg : Chg (fun k => k = gl) wr ((wr.setCell ⟨gl, 0, none⟩ (.slice A2 ln.length c2)).setCell ⟨gl, 1, none⟩ (.slice B2 0 d2)) := ((Chg.refl (fun k => k = gl) wr).setCell (a := ⟨gl, 0, none⟩) (fun _ => rfl) _).setCell (a := ⟨gl, 1, none⟩) (fun _ => rfl) _
              have hcF : Chg (fun k => k = b ∨ k = gl) wr ((wr.setCell ⟨gl, 0, none⟩ (.slice A2 ln.length c2)).setCell ⟨gl, 1, none⟩ (.slice B2 0 d2)) := hcg.mono (fun k _ h => .inr h)
              have rF := StableF.rowF _ A2 ln _ _ hcF (rn5.out.andF KL5.out)
              have sF := StableF.rowStr _ Ar revs6 _ _ hcF SR5.out
              have qF := HQT.out _ _ hcF Q5.out
              have RF : RollerS ((wr.setCell ⟨gl, 0, none⟩ (.slice A2 ln.length c2)).setCell ⟨gl, 1, none⟩ (.slice B2 0 d2)) p b M2 := RollerS.chgG R5_.out hcg (by omega) KL5.out
              go_roundw
              case rel => exact ⟨i + 1, u, ln, A2, c2, B2, d2, M2, by omega, by omega, rfl, hu0, by omega, by go_num, Lib.hid RF, O3, HGO, HNW, zn, Lib.hid rF, Lib.hid (rowTF_nil _ _ _ _ tn5.out.1), Lib.hid k6, Lib.hid sF, Lib.hid qF⟩
              case measure => simp [vI]; omega
      · obtain rfl : i = 30 := by omega
        go_wp2_with fail
        have hsum : IntKind.i64.wrap (t + wh) = t + wh := IntWalk.i64_in _ (by omega)
        have hsum0 : 0 ≤ t + wh := by omega
        have Qd := Lib.hid (HQT.out _ _ ((Chg.refl (fun k => k = b ∨ k = gl) wr).drew) QQ.out)
        have Rd := Lib.hid (RR.out.below ((Below.refl wr.heap.size wr).drew))
        have hge := goes_on GG.out [] (t + wh)
        have hey := Lib.hid (hge.1.trans (right_end (by omega)))
        clear hge
        refine start_ (n := 10) (S := fun w' => w'.cell? ⟨gx + 1, 0, none⟩ = some (.slice Ay y.length cy) ∧ w'.cell? ⟨gx + 1, 1, none⟩ = some (.slice none 0 0)) (ds := []) #[false, false, false, false, false, false, false, false, false, false] (by kernel_rfl) rfl rfl ⟨(HQX.out _ Qd.out).2.2.2.1.cell 0, (HQX.out _ Qd.out).2.2.2.1.cell 1⟩ (fun hHeld => ?_)
        refine pure_ (i := 0) (N := some 116) (v := ?_) (a' := ?_) #[true, false, false, false, false, false, false, false, false, false] rfl rfl (by kernel_rfl) (fun _ _ _ h => h) (Or.inl ⟨by rfl, ?_⟩) ?_ ?_
        rotate_left
        · intro w'
          go_simp
          with_reducible rfl
        rotate_left
        · simp only [Act.put, List.setIfInBounds_toArray, List.set_cons_zero, List.set_cons_succ]
          rfl
        refine pure_ (i := 2) (N := some 118) (v := ?_) (a' := ?_) #[true, false, true, false, false, false, false, false, false, false] rfl rfl (by kernel_rfl) (fun _ _ _ h => h) (Or.inl ⟨by rfl, ?_⟩) ?_ ?_
        rotate_left
        · intro w'
          go_simp
          with_reducible rfl
        rotate_left
        · simp only [Act.put, List.setIfInBounds_toArray, List.set_cons_zero, List.set_cons_succ]
          rfl
        refine pure_ (i := 3) (N := some 119) (v := ?_) (a' := ?_) #[true, false, true, true, false, false, false, false, false, false] rfl rfl (by kernel_rfl) (fun _ _ _ h => h) (Or.inl ⟨by rfl, ?_⟩) ?_ ?_
        rotate_left
        · intro w'
          go_simp
          with_reducible rfl
        rotate_left
        · simp only [Act.put, List.setIfInBounds_toArray, List.set_cons_zero, List.set_cons_succ]
          rfl
        refine pure_ (i := 4) (N := some 120) (v := ?_) (a' := ?_) #[true, false, true, true, true, false, false, false, false, false] rfl rfl (by kernel_rfl) (fun _ _ _ h => h) (Or.inl ⟨by rfl, ?_⟩) ?_ ?_
        rotate_left
        · intro w'
          go_simp
          with_reducible rfl
        rotate_left
        · simp only [Act.put, List.setIfInBounds_toArray, List.set_cons_zero, List.set_cons_succ]
          rfl
        refine pure_ (i := 5) (N := some 121) (v := ?_) (a' := ?_) #[true, false, true, true, true, true, false, false, false, false] rfl rfl (by kernel_rfl) (fun _ _ _ h => h) (Or.inl ⟨by rfl, ?_⟩) ?_ ?_
        rotate_left
        · intro w'
          go_simp
          with_reducible rfl
        rotate_left
        · simp only [Act.put, List.setIfInBounds_toArray, List.set_cons_zero, List.set_cons_succ]
          rfl
        refine take_ (i := 1) (N := some 117) (v := ?_) (a' := ?_) #[true, true, true, true, true, true, false, false, false, false] rfl rfl (by kernel_rfl) (fun _ _ _ h => h) (Or.inl ⟨by rfl, ?_⟩) hHeld ?_ ?_
        rotate_left
        · rintro w' ⟨s0, s1⟩
          go_simp
          with_reducible rfl
        rotate_left
        · simp only [Act.put, List.setIfInBounds_toArray, List.set_cons_zero, List.set_cons_succ]
          rfl
        refine take_ (i := 7) (N := some 123) (v := ?_) (a' := ?_) #[true, true, true, true, true, true, false, true, false, false] rfl rfl (by kernel_rfl) (fun _ _ _ h => h) (Or.inl ⟨by rfl, ?_⟩) hHeld ?_ ?_
        rotate_left
        · rintro w' ⟨s0, s1⟩
          go_simp
          with_reducible rfl
        rotate_left
        · simp only [Act.put, List.setIfInBounds_toArray, List.set_cons_zero, List.set_cons_succ]
          rfl
        refine one_ (i := 6) (N := some 122) #[true, true, true, true, true, true, true, true, false, false] rfl rfl (by kernel_rfl) (by decide) (fun K hK => ?_)
        refine goes_ Try.func14 (by kernel_rfl) rfl #[.pointer (some ⟨p, 0, none⟩), .string nmFront, .agg #[.slice Ay y.length cy, .slice none 0 0], .int .i64 (t + wh), .int .i64 wh] (by rfl) rfl rfl (by simp only [List.map_toArray, List.map_cons, List.map_nil]; rfl) ?_
        with_reducible refine (turn0 Rd.out OO.out nmFront (by decide) (by decide) Ay cy y ((HQX.out _ Qd.out).2.1.toS (.inl rfl)) TY.out (t + wh) wh (by omega) (by omega) (by omega) (by omega)).mono ?_
        rintro e We ⟨Ae, ce, Be, de, rfl, ⟨re, ze, te⟩, _, _, hce⟩
        have Qe := Lib.hid (HQT.out _ _ (hce.mono (fun k _ h => .inl h)) Qd.out)
        obtain ⟨le, hle⟩ : ∃ le, le = (turnW (M nmFront.data.toList) y [] (t + wh) wh).now := ⟨_, rfl⟩
        rw [← hle] at hey re ze ⊢
        have HEY := Lib.hid hey.out
        refine ⟨_, rfl, ?_⟩
        refine hK.out _ _ ⟨(HQX.out _ Qe.out).2.2.2.1.cell 0, (HQX.out _ Qe.out).2.2.2.1.cell 1⟩ (fun hHeld => ?_)
        clear hK K
        refine norm_ (a' := ?_) ?_ ?_
        rotate_left
        · show Act.put _ (some 122) _ = _
          simp only [Act.put, List.setIfInBounds_toArray, List.set_cons_zero, List.set_cons_succ]
          rfl
        refine one_ (i := 8) (N := some 124) #[true, true, true, true, true, true, true, true, true, false] rfl rfl (by kernel_rfl) (by decide) (fun K hK => ?_)
        refine goes_ Try.func18 (by kernel_rfl) rfl #[.agg #[.slice Ae le.length ce, .slice Be 0 de], .agg #[.slice Ay y.length cy, .slice none 0 0]] (by rfl) rfl rfl (by simp only [List.map_toArray, List.map_cons, List.map_nil]; rfl) ?_
        with_reducible refine (same0 (b := b) _ re ze te ((HQX.out _ Qe.out).2.1.toS (.inl rfl)) hy0 (rowT_nil b _) (by rw [HEY.out]; have := tab_len TY.out; omega) HEY.out).mono ?_
        rintro e Wf ⟨rfl, hbf⟩
        have Qf := Lib.hid (HQT.out _ _ (Chg.of_below hbf (F := (fun k => k = b ∨ k = gl)) (fun k hk hk' => by omega)) Qe.out)
        refine ⟨_, rfl, ?_⟩
        refine hK.out _ _ ⟨(HQX.out _ Qf.out).2.2.2.1.cell 0, (HQX.out _ Qf.out).2.2.2.1.cell 1⟩ (fun hHeld => ?_)
        clear hK K
        refine norm_ (a' := ?_) ?_ ?_
        rotate_left
        · show Act.put _ (some 124) _ = _
          simp only [Act.put, List.setIfInBounds_toArray, List.set_cons_zero, List.set_cons_succ]
          rfl
        refine pure_ (i := 9) (N := some 8) (v := ?_) (a' := ?_) #[true, true, true, true, true, true, true, true, true, true] rfl rfl (by kernel_rfl) (fun _ _ _ h => h) (Or.inl ⟨by rfl, ?_⟩) ?_ ?_
        rotate_left
        · intro w'
          go_simp
          with_reducible rfl
        rotate_left
        · simp only [Act.put, List.setIfInBounds_toArray, List.set_cons_zero, List.set_cons_succ]
          rfl
        refine done_ (by kernel_rfl) ?_
        go_wp2_with fail
        go_ret
        exact ⟨rfl, (HQX.out _ Qf.out).2.2.2.2⟩
    · obtain rfl : i = l3.length := by omega
      go_wp2_with fail
      have hsum : IntKind.i64.wrap (t + wh) = t + wh := IntWalk.i64_in _ (by omega)
      have hsum0 : 0 ≤ t + wh := by omega
      have Qd := Lib.hid (HQT.out _ _ ((Chg.refl (fun k => k = b ∨ k = gl) wr).drew) QQ.out)
      have Rd := Lib.hid (RR.out.below ((Below.refl wr.heap.size wr).drew))
      have hge := goes_on GG.out [] (t + wh)
      have hey := Lib.hid (hge.1.trans (right_end (by omega)))
      clear hge
      refine start_ (n := 10) (S := fun w' => w'.cell? ⟨gx + 1, 0, none⟩ = some (.slice Ay y.length cy) ∧ w'.cell? ⟨gx + 1, 1, none⟩ = some (.slice none 0 0)) (ds := []) #[false, false, false, false, false, false, false, false, false, false] (by kernel_rfl) rfl rfl ⟨(HQX.out _ Qd.out).2.2.2.1.cell 0, (HQX.out _ Qd.out).2.2.2.1.cell 1⟩ (fun hHeld => ?_)
      refine pure_ (i := 0) (N := some 116) (v := ?_) (a' := ?_) #[true, false, false, false, false, false, false, false, false, false] rfl rfl (by kernel_rfl) (fun _ _ _ h => h) (Or.inl ⟨by rfl, ?_⟩) ?_ ?_
      rotate_left
      · intro w'
        go_simp
        with_reducible rfl
      rotate_left
      · simp only [Act.put, List.setIfInBounds_toArray, List.set_cons_zero, List.set_cons_succ]
        rfl
      refine pure_ (i := 2) (N := some 118) (v := ?_) (a' := ?_) #[true, false, true, false, false, false, false, false, false, false] rfl rfl (by kernel_rfl) (fun _ _ _ h => h) (Or.inl ⟨by rfl, ?_⟩) ?_ ?_
      rotate_left
      · intro w'
        go_simp
        with_reducible rfl
      rotate_left
      · simp only [Act.put, List.setIfInBounds_toArray, List.set_cons_zero, List.set_cons_succ]
        rfl
      refine pure_ (i := 3) (N := some 119) (v := ?_) (a' := ?_) #[true, false, true, true, false, false, false, false, false, false] rfl rfl (by kernel_rfl) (fun _ _ _ h => h) (Or.inl ⟨by rfl, ?_⟩) ?_ ?_
      rotate_left
      · intro w'
        go_simp
        with_reducible rfl
      rotate_left
      · simp only [Act.put, List.setIfInBounds_toArray, List.set_cons_zero, List.set_cons_succ]
        rfl
      refine pure_ (i := 4) (N := some 120) (v := ?_) (a' := ?_) #[true, false, true, true, true, false, false, false, false, false] rfl rfl (by kernel_rfl) (fun _ _ _ h => h) (Or.inl ⟨by rfl, ?_⟩) ?_ ?_
      rotate_left
      · intro w'
        go_simp
        with_reducible rfl
      rotate_left
      · simp only [Act.put, List.setIfInBounds_toArray, List.set_cons_zero, List.set_cons_succ]
        rfl
      refine pure_ (i := 5) (N := some 121) (v := ?_) (a' := ?_) #[true, false, true, true, true, true, false, false, false, false] rfl rfl (by kernel_rfl) (fun _ _ _ h => h) (Or.inl ⟨by rfl, ?_⟩) ?_ ?_
      rotate_left
      · intro w'
        go_simp
        with_reducible rfl
      rotate_left
      · simp only [Act.put, List.setIfInBounds_toArray, List.set_cons_zero, List.set_cons_succ]
        rfl
      refine take_ (i := 1) (N := some 117) (v := ?_) (a' := ?_) #[true, true, true, true, true, true, false, false, false, false] rfl rfl (by kernel_rfl) (fun _ _ _ h => h) (Or.inl ⟨by rfl, ?_⟩) hHeld ?_ ?_
      rotate_left
      · rintro w' ⟨s0, s1⟩
        go_simp
        with_reducible rfl
      rotate_left
      · simp only [Act.put, List.setIfInBounds_toArray, List.set_cons_zero, List.set_cons_succ]
        rfl
      refine take_ (i := 7) (N := some 123) (v := ?_) (a' := ?_) #[true, true, true, true, true, true, false, true, false, false] rfl rfl (by kernel_rfl) (fun _ _ _ h => h) (Or.inl ⟨by rfl, ?_⟩) hHeld ?_ ?_
      rotate_left
      · rintro w' ⟨s0, s1⟩
        go_simp
        with_reducible rfl
      rotate_left
      · simp only [Act.put, List.setIfInBounds_toArray, List.set_cons_zero, List.set_cons_succ]
        rfl
      refine one_ (i := 6) (N := some 122) #[true, true, true, true, true, true, true, true, false, false] rfl rfl (by kernel_rfl) (by decide) (fun K hK => ?_)
      refine goes_ Try.func14 (by kernel_rfl) rfl #[.pointer (some ⟨p, 0, none⟩), .string nmFront, .agg #[.slice Ay y.length cy, .slice none 0 0], .int .i64 (t + wh), .int .i64 wh] (by rfl) rfl rfl (by simp only [List.map_toArray, List.map_cons, List.map_nil]; rfl) ?_
      with_reducible refine (turn0 Rd.out OO.out nmFront (by decide) (by decide) Ay cy y ((HQX.out _ Qd.out).2.1.toS (.inl rfl)) TY.out (t + wh) wh (by omega) (by omega) (by omega) (by omega)).mono ?_
      rintro e We ⟨Ae, ce, Be, de, rfl, ⟨re, ze, te⟩, _, _, hce⟩
      have Qe := Lib.hid (HQT.out _ _ (hce.mono (fun k _ h => .inl h)) Qd.out)
      obtain ⟨le, hle⟩ : ∃ le, le = (turnW (M nmFront.data.toList) y [] (t + wh) wh).now := ⟨_, rfl⟩
      rw [← hle] at hey re ze ⊢
      have HEY := Lib.hid hey.out
      refine ⟨_, rfl, ?_⟩
      refine hK.out _ _ ⟨(HQX.out _ Qe.out).2.2.2.1.cell 0, (HQX.out _ Qe.out).2.2.2.1.cell 1⟩ (fun hHeld => ?_)
      clear hK K
      refine norm_ (a' := ?_) ?_ ?_
      rotate_left
      · show Act.put _ (some 122) _ = _
        simp only [Act.put, List.setIfInBounds_toArray, List.set_cons_zero, List.set_cons_succ]
        rfl
      refine one_ (i := 8) (N := some 124) #[true, true, true, true, true, true, true, true, true, false] rfl rfl (by kernel_rfl) (by decide) (fun K hK => ?_)
      refine goes_ Try.func18 (by kernel_rfl) rfl #[.agg #[.slice Ae le.length ce, .slice Be 0 de], .agg #[.slice Ay y.length cy, .slice none 0 0]] (by rfl) rfl rfl (by simp only [List.map_toArray, List.map_cons, List.map_nil]; rfl) ?_
      with_reducible refine (same0 (b := b) _ re ze te ((HQX.out _ Qe.out).2.1.toS (.inl rfl)) hy0 (rowT_nil b _) (by rw [HEY.out]; have := tab_len TY.out; omega) HEY.out).mono ?_
      rintro e Wf ⟨rfl, hbf⟩
      have Qf := Lib.hid (HQT.out _ _ (Chg.of_below hbf (F := (fun k => k = b ∨ k = gl)) (fun k hk hk' => by omega)) Qe.out)
      refine ⟨_, rfl, ?_⟩
      refine hK.out _ _ ⟨(HQX.out _ Qf.out).2.2.2.1.cell 0, (HQX.out _ Qf.out).2.2.2.1.cell 1⟩ (fun hHeld => ?_)
      clear hK K
      refine norm_ (a' := ?_) ?_ ?_
      rotate_left
      · show Act.put _ (some 124) _ = _
        simp only [Act.put, List.setIfInBounds_toArray, List.set_cons_zero, List.set_cons_succ]
        rfl
      refine pure_ (i := 9) (N := some 8) (v := ?_) (a' := ?_) #[true, true, true, true, true, true, true, true, true, true] rfl rfl (by kernel_rfl) (fun _ _ _ h => h) (Or.inl ⟨by rfl, ?_⟩) ?_ ?_
      rotate_left
      · intro w'
        go_simp
        with_reducible rfl
      rotate_left
      · simp only [Act.put, List.setIfInBounds_toArray, List.set_cons_zero, List.set_cons_succ]
        rfl
      refine done_ (by kernel_rfl) ?_
      go_wp2_with fail
      go_ret
      exact ⟨rfl, (HQX.out _ Qf.out).2.2.2.2⟩

end Go.Proofs.Ytnkmpkhiilnigaa.PA
