/- LeadTags: the walk. (Printed by leadlaws.py and genx.py.) -/
import Derived.Test.YtnkmpkhiilnigaaMakeT
namespace Go.Proofs.Ytnkmpkhiilnigaa.PA
open Go.RowKit Go.Shelf Go.Lib Go.Sort Go.Proofs.YtnkmpkhiilnigaaW.PrintWords Go.Proofs.YtnkmpkhiilnigaaW.PrintLast

def nmFront : ByteArray := ⟨#[102, 114, 111, 110, 116]⟩
def nmBack : ByteArray := ⟨#[98, 97, 99, 107]⟩
def nmStill : ByteArray := ⟨#[115, 116, 105, 108, 108]⟩

theorem RowT.andF {w : World} {A : Option Addr} {l : List S42} {g b' : Nat} {a b : Option Addr} {n c m d : Nat} {T : TypeId} (h : RowT b' A l w) (hk : Blk w g #[.slice a n c, .slice b m d] T) : RowTF (fun k => k = b' ∨ k = g) A l w :=
  ⟨h.1, fun hp ad e hf => hf.elim (h.2 hp ad e) (tag_ne_tab h.1 hk hp ad e)⟩
theorem hold_tab {w : World} : ∃ g w5, w5 = w.alloc (.cells #[.slice none 0 0, .slice none 0 0] 29) ∧ g = w.heap.size ∧ Blk w5 g #[.slice none 0 0, .slice none 0 0] 29 ∧ Below w.heap.size w w5 :=
  ⟨_, _, rfl, rfl, Blk.new w _ _, (Below.refl _ _).alloc (Nat.le_refl _) _⟩
theorem hold_tabD {w : World} : ∃ g w5, w5 = (w.alloc (.cells #[.slice none 0 0, .slice none 0 0] 29)).drew ∧ g = w.heap.size ∧ Blk w5 g #[.slice none 0 0, .slice none 0 0] 29 ∧ Below w.drew.heap.size w.drew w5 :=
  ⟨_, _, rfl, rfl, Blk.new w.drew _ _, (Below.refl _ _).alloc (Nat.le_refl _) _⟩

/-- The second turn's Shares are the first's. -/
theorem tags_now {a y : List S40} (ta : Tab R6 a) (tx ty : List S42) (u : Int) : (turnW (some (turnW none a tx 0 50)) y ty u 50).now = a := by
  have h0 : (turnW none a tx 0 50).fr = a ∧ (turnW none a tx 0 50).dst = a ∧ (turnW none a tx 0 50).whole = 50 ∧ (turnW none a tx 0 50).now = a := ⟨rfl, rfl, rfl, by show rollL a a (0 - 0) 50 = a; exact stays R6_rising ta _ _⟩
  generalize turnW none a tx 0 50 = m at h0
  obtain ⟨h1, h2, h3, h4⟩ := h0
  unfold turnW baseW
  by_cases e : eqL m.dst y = true ∧ m.whole = 50
  · simp only [if_pos e]
    have e1 : a = y := by
      have := e.1
      rw [h2] at this
      exact eqL_iff.1 this
    rw [h1, h2, e1]
    exact stays R6_rising (e1 ▸ ta) _ _
  · simp only [if_neg e]
    rw [h4]
    exact roll_from (by omega) (by omega)

set_option maxRecDepth 100000 in
set_option maxHeartbeats 8000000 in
theorem tags_law (A0 : Option Addr) (c0 : Nat) (l0 : List Int) (A1 : Option Addr) (c1 : Nat) (l1 : List Int) (A2 : Option Addr) (c2 : Nat) (l2 : List Int) (A3 : Option Addr) (c3 : Nat) (l3 : List Int) (a4 : Int) (w : World) (hr0 : Kd.C (Kd.int .i64) w A0 l0.length l0) (hc0 : l0.length ≤ c0) (hr1 : Kd.C (Kd.int .i64) w A1 l1.length l1) (hc1 : l1.length ≤ c1) (hr2 : Kd.C (Kd.int .i64) w A2 l2.length l2) (_hc2 : l2.length ≤ c2) (hr3 : Kd.C (Kd.int .i64) w A3 l3.length l3) (_hc3 : l3.length ≤ c3) :
    Calls Try.prog 5 #[.slice A0 l0.length c0, .slice A1 l1.length c1, .slice A2 l2.length c2, .slice A3 l3.length c3, .int .i64 a4] w fun e w' => e = .returned (.bool true) ∧ Below w.heap.size w w' := by

  obtain ⟨k0, a, ha, ta⟩ := shares_tab l0
  obtain ⟨k1, y, hy, ty_⟩ := shares_tab l1
  obtain ⟨tx, htx⟩ : ∃ tx, tx = tagsOf l2 := ⟨_, rfl⟩
  obtain ⟨ty, hty⟩ : ∃ ty, ty = tagsOf l3 := ⟨_, rfl⟩
  have htxl : tx.length ≤ 4 := by rw [htx]; exact tagsOf_len _
  have htyl : ty.length ≤ 4 := by rw [hty]; exact tagsOf_len _
  have HTX := Lib.hid htx
  have HTY := Lib.hid hty
  have HA := Lib.hid ha
  have HY := Lib.hid hy
  have TA := Lib.hid ta
  have TY := Lib.hid ty_
  have HR0 := Lib.hid hr0
  have HR1 := Lib.hid hr1
  have HR2 := Lib.hid hr2
  have HR3 := Lib.hid hr3
  clear ha hy ta ty_ hr0 hr1 hr2 hr3 htx hty
  go_enter Try.func5, Try.ntmps5
  go_wp2_with fail
  refine (known13 _).mono ?_
  rintro e w1 ⟨rfl, hb1⟩
  go_wp2_with fail
  refine (newS _).mono ?_
  rintro e w2 ⟨p, b, rfl, R2, hp, hb, hb2⟩
  have b2 := hb1.trans (hb2.mono hb1.size)
  have hbw : w.heap.size ≤ b := Nat.le_trans hb1.size hb
  have hbl2 := R2.lt.2.1
  go_wp2_with fail
  refine (make_tags A0 c0 l0 A2 c2 l2 _ (Kd.C_below HR0.out b2) hc0 (Kd.C_below HR2.out b2) k0 a HA.out).mono ?_
  rintro e w3 ⟨Ax, cx, Bx, dx, rfl, ⟨hx0, hx0'⟩, ⟨hx1, hx1'⟩, ⟨hx2, hx2'⟩, hb3⟩
  rw [← HTX.out] at hx0' hx1' hx2' ⊢
  have b3 := b2.trans (hb3.mono b2.size)
  have R3 := R2.below hb3
  go_wp2_with fail
  refine (make_tags A1 c1 l1 A3 c3 l3 _ (Kd.C_below HR1.out b3) hc1 (Kd.C_below HR3.out b3) k1 y HY.out).mono ?_
  rintro e w4 ⟨Ay, cy, By, dy, rfl, ⟨hy0, hy0'⟩, ⟨hy1, hy1'⟩, ⟨hy2, hy2'⟩, hb4⟩
  rw [← HTY.out] at hy0' hy1' hy2' ⊢
  have b4 := b3.trans (hb4.mono b3.size)
  have R4 := R3.below hb4
  obtain ⟨gx, hgx⟩ : ∃ gx, gx = w4.heap.size := ⟨_, rfl⟩
  obtain ⟨W5, hW5⟩ : ∃ W5, W5 = (w4.alloc (.cells #[.slice Ax a.length cx, .slice Bx tx.length dx] 29)).alloc (.cells #[.slice Ay y.length cy, .slice By ty.length dy] 29) := ⟨_, rfl⟩
  have bW5 : Below w4.heap.size w4 W5 := by rw [hW5]; exact ((Below.refl _ _).alloc (Nat.le_refl _) _).alloc (by simp) _
  have kx : Blk W5 gx #[.slice Ax a.length cx, .slice Bx tx.length dx] 29 := by rw [hW5, hgx]; exact (Blk.new _ _ _).alloc _
  have ky : Blk W5 (gx + 1) #[.slice Ay y.length cy, .slice By ty.length dy] 29 := by
    rw [hW5, hgx]
    have := Blk.new (w4.alloc (.cells #[.slice Ax a.length cx, .slice Bx tx.length dx] 29)) #[.slice Ay y.length cy, .slice By ty.length dy] 29
    simpa using this
  have R5 := Lib.hid (R4.below bW5)
  have z23 := hb3.size
  have z34 := hb4.size
  have hbgx : b < gx := by omega
  have hgb : gx ≠ b := by omega
  have hgb1 : gx + 1 ≠ b := by omega
  obtain ⟨P, hst, hex, hP5⟩ : ∃ P : World → Prop, Stable b P ∧ (∀ W, P W → RowS b Ax a W ∧ RowS b Ay y W ∧ RowT b Bx tx W ∧ RowT b By ty W ∧ Blk W gx #[.slice Ax a.length cx, .slice Bx tx.length dx] 29 ∧ Blk W (gx + 1) #[.slice Ay y.length cy, .slice By ty.length dy] 29 ∧ Below w.heap.size w W) ∧ P W5 :=
    ⟨_, (Stable.rowS b Ax a).and ((Stable.rowS b Ay y).and ((Stable.rowT b Bx tx).and ((Stable.rowT b By ty).and ((Stable.blk hgb _ _).and ((Stable.blk hgb1 _ _).and (Stable.below w hbw)))))), fun W h => h,
      ⟨Kd.C_below (Kd.C_below hx1 hb4) bW5, hx2.mono (fun k (hk : w2.heap.size ≤ k) _ _ _ _ => by omega)⟩, ⟨Kd.C_below hy1 bW5, hy2.mono (fun k (hk : w3.heap.size ≤ k) _ _ _ _ => by omega)⟩,
      ⟨Kd.C_below (Kd.C_below hx1' hb4) bW5, hx2'.mono (fun k (hk : w2.heap.size ≤ k) _ _ _ _ => by omega)⟩, ⟨Kd.C_below hy1' bW5, hy2'.mono (fun k (hk : w3.heap.size ≤ k) _ _ _ _ => by omega)⟩, kx, ky, b4.trans (bW5.mono b4.size)⟩
  have HST := Lib.hid hst
  have HEX := Lib.hid hex
  have P5 := Lib.hid hP5
  clear hx1 hy1 hx2 hy2 hx1' hy1' hx2' hy2' hb1 hb2 hb3 hb4 b2 b3 b4 R2 R3 R4 kx ky bW5 hst hex hP5
  go_wp2_with fail
  rw [← hW5, ← hgx]
  clear hW5 hgx hp hb hbl2 z23 z34
  have f_ := HEX.out _ P5.out
  have qx0 := f_.2.2.2.2.1.cell 0
  have qx1 := f_.2.2.2.2.1.cell 1
  simp only [List.getElem?_toArray, List.getElem?_cons_zero, List.getElem?_cons_succ] at qx0 qx1
  clear f_
  go_wp2_with fail
  refine (turnS R5.out (OkM.none 0) nmFront (by decide) (by decide) Ax cx a Bx dx tx (HEX.out _ P5.out).1 (HEX.out _ P5.out).2.2.1 TA.out (by omega) 0 50 (by omega) (by omega) (by omega) (by omega)).mono ?_
  rintro e W7 ⟨A7, c7, B7, d7, rfl, _, R7, O7, hc7⟩
  have hmf : Hid (setWay nmFront.data.toList (some (turnW (noWays nmFront.data.toList) a tx 0 50)) noWays nmFront.data.toList = some (turnW none a tx 0 50)) := Lib.hid (by rw [setWay_same]; rfl)
  generalize setWay nmFront.data.toList (some (turnW (noWays nmFront.data.toList) a tx 0 50)) noWays = M at R7 O7 hmf
  have P7 := Lib.hid (HST.out _ _ hc7 P5.out)
  have HR7 := Lib.hid R7
  have HO7 := Lib.hid O7
  clear R7 O7 hc7 P5 R5 qx0 qx1
  obtain ⟨u, hu⟩ : ∃ u, u = a4 % 50 := ⟨_, rfl⟩
  have hwi := Lib.hid (show damperlaw13_within.f a4 50 = some u from by rw [hu]; exact within13 a4 50 (by omega) (by omega))
  have hu0 : 0 ≤ u := by omega
  have hu1 : u < 50 := by omega
  clear hu
  obtain ⟨m2, hm2⟩ : ∃ m2, m2 = turnW (M nmFront.data.toList) y ty u 50 := ⟨_, rfl⟩
  have HN := Lib.hid (show m2.now = a from by rw [hm2, hmf.out]; exact tags_now TA.out tx ty u)
  have HT := Lib.hid (show m2.tags = ty from by rw [hm2]; rfl)
  have HM2 := Lib.hid hm2
  clear hm2
  go_wp2_with fail
  have PC := Lib.hid (HST.out _ _ (chg_below ((Below.refl W7.heap.size W7).drew)) P7.out)
  have RC := Lib.hid (HR7.out.below ((Below.refl W7.heap.size W7).drew))
  refine start_ (n := 7) (S := fun w' => w'.cell? ⟨gx + 1, 0, none⟩ = some (.slice Ay y.length cy) ∧ w'.cell? ⟨gx + 1, 1, none⟩ = some (.slice By ty.length dy)) (ds := [6]) #[false, false, false, false, false, false, false] (by kernel_rfl) rfl rfl ⟨(HEX.out _ PC.out).2.2.2.2.2.1.cell 0, (HEX.out _ PC.out).2.2.2.2.2.1.cell 1⟩ (fun hHeld => ?_)
  refine pure_ (i := 0) (N := some 32) (v := ?_) (a' := ?_) #[true, false, false, false, false, false, false] rfl rfl (by kernel_rfl) (fun _ _ _ h => h) (Or.inl ⟨by rfl, ?_⟩) ?_ ?_
  rotate_left
  · intro w'
    go_simp
    with_reducible rfl
  rotate_left
  · simp only [Act.put, List.setIfInBounds_toArray, List.set_cons_zero, List.set_cons_succ]
    rfl
  refine pure_ (i := 2) (N := some 34) (v := ?_) (a' := ?_) #[true, false, true, false, false, false, false] rfl rfl (by kernel_rfl) (fun _ _ _ h => h) (Or.inl ⟨by rfl, ?_⟩) ?_ ?_
  rotate_left
  · intro w'
    go_simp
    with_reducible rfl
  rotate_left
  · simp only [Act.put, List.setIfInBounds_toArray, List.set_cons_zero, List.set_cons_succ]
    rfl
  refine take_ (i := 1) (N := some 33) (v := ?_) (a' := ?_) #[true, true, true, false, false, false, false] rfl rfl (by kernel_rfl) (fun _ _ _ h => h) (Or.inl ⟨by rfl, ?_⟩) hHeld ?_ ?_
  rotate_left
  · rintro w' ⟨s0, s1⟩
    go_simp
    with_reducible rfl
  rotate_left
  · simp only [Act.put, List.setIfInBounds_toArray, List.set_cons_zero, List.set_cons_succ]
    rfl
  refine join_ (σ := Option Addr × Nat × Option Addr × Nat × Nat) 1 #[true, true, true, true, true, true, false] (fun s => [(14, .pointer (some ⟨s.2.2.2.2, 0, none⟩)), (35, .int .i64 u), (36, .agg #[.slice s.1 m2.now.length s.2.1, .slice s.2.2.1 ty.length s.2.2.2.1])]) (fun s w' => (RowS b s.1 m2.now w' ∧ m2.now.length ≤ s.2.1 ∧ RowT b s.2.2.1 ty w' ∧ ty.length ≤ s.2.2.2.1) ∧ Blk w' s.2.2.2.2 #[.slice none 0 0, .slice none 0 0] 29 ∧ gx + 1 < s.2.2.2.2 ∧ RollerS w' p b (setWay nmFront.data.toList (some m2) M) ∧ OkM (setWay nmFront.data.toList (some m2) M) u ∧ P w') ?_ ?_
  rotate_left
  · intro hCont
    refine two_ (i := 3) (j := 5) (Ni := some 35) (Nj := some 14) #[true, true, true, true, false, false, false] #[true, true, true, false, false, true, false] rfl rfl rfl rfl (by kernel_rfl) (by decide) (by decide) (fun K hK => ?_) (fun K hK => ?_)
    · skip
      refine goes_ Try.func13 (by kernel_rfl) rfl #[.int .i64 a4, .int .i64 50] (by rfl) rfl rfl (by simp only [List.map_toArray, List.map_cons, List.map_nil]; rfl) ?_
      with_reducible refine (damperlaw13_within.calls a4 50 u _ hwi.out).mono ?_
      rintro e w3 ⟨rfl, hd⟩
      have hd := hd.below
      have PC := Lib.hid (HST.out _ _ (chg_below hd) PC.out)
      have RC := Lib.hid (RC.out.below hd)
      refine ⟨_, rfl, ?_⟩
      refine hK.out _ _ ⟨(HEX.out _ PC.out).2.2.2.2.2.1.cell 0, (HEX.out _ PC.out).2.2.2.2.2.1.cell 1⟩ (fun hHeld => ?_)
      clear hK K
      refine norm_ (a' := ?_) ?_ ?_
      rotate_left
      · show Act.put _ (some 35) _ = _
        simp only [Act.put, List.setIfInBounds_toArray, List.set_cons_zero, List.set_cons_succ]
        rfl
      refine two_ (i := 4) (j := 5) (Ni := some 36) (Nj := some 14) #[true, true, true, true, true, false, false] #[true, true, true, true, false, true, false] rfl rfl rfl rfl (by kernel_rfl) (by decide) (by decide) (fun K hK => ?_) (fun K hK => ?_)
      · skip
        refine goes_ Try.func14 (by kernel_rfl) rfl #[.pointer (some ⟨p, 0, none⟩), .string nmFront, .agg #[.slice Ay y.length cy, .slice By ty.length dy], .int .i64 u, .int .i64 50] (by rfl) rfl rfl (by simp only [List.map_toArray, List.map_cons, List.map_nil]; rfl) ?_
        with_reducible refine (turnS RC.out HO7.out nmFront (by decide) (by decide) Ay cy y By dy ty (HEX.out _ PC.out).2.1 (HEX.out _ PC.out).2.2.2.1 TY.out (by omega) u 50 (by omega) (by omega) (by omega) (by omega)).mono ?_
        rintro e w8 ⟨At, ct, Bt, dt, rfl, ⟨rt, zt, tt, ztt⟩, RC, OC, hct⟩
        rw [← HM2.out] at rt zt RC OC
        rw [← HM2.out]
        have PC := Lib.hid (HST.out _ _ hct PC.out)
        have RC := Lib.hid RC
        refine ⟨_, rfl, ?_⟩
        refine hK.out _ _ ⟨(HEX.out _ PC.out).2.2.2.2.2.1.cell 0, (HEX.out _ PC.out).2.2.2.2.2.1.cell 1⟩ (fun hHeld => ?_)
        clear hK K
        refine norm_ (a' := ?_) ?_ ?_
        rotate_left
        · show Act.put _ (some 36) _ = _
          simp only [Act.put, List.setIfInBounds_toArray, List.set_cons_zero, List.set_cons_succ]
          rfl
        refine one_ (i := 5) (N := some 14) #[true, true, true, true, true, true, false] rfl rfl (by kernel_rfl) (by decide) (fun K hK => ?_)
        refine value_ (w1 := ?_) (v := ?_) (by rfl) rfl ?_ ?_
        rotate_left 2
        · go_simp
          constructor
          · rfl
          · rfl
        obtain ⟨g14, w5, hw5, hg14', KC, b5⟩ := hold_tab (w := w8)
        rw [← hw5, ← hg14']
        have hg14 : gx + 1 < g14 := by rw [hg14']; exact (HEX.out _ PC.out).2.2.2.2.2.1.lt
        have KC := Lib.hid KC
        have PC := Lib.hid (HST.out _ _ (chg_below b5) PC.out)
        have RC := Lib.hid (RC.out.below b5)
        have rt := Stable.rowS b At m2.now _ _ (chg_below b5) rt
        have tt := Stable.rowT b Bt ty _ _ (chg_below b5) tt
        clear hw5 hg14'
        refine hK.out _ _ ⟨(HEX.out _ PC.out).2.2.2.2.2.1.cell 0, (HEX.out _ PC.out).2.2.2.2.2.1.cell 1⟩ (fun hHeld => ?_)
        clear hK K
        refine norm_ (a' := ?_) ?_ ?_
        rotate_left
        · show Act.put _ (some 14) _ = _
          simp only [Act.put, List.setIfInBounds_toArray, List.set_cons_zero, List.set_cons_succ]
          rfl
        exact norm_ (by simp only [putAll, Act.put, List.setIfInBounds_toArray, List.set_cons_zero, List.set_cons_succ]) (hCont (At, ct, Bt, dt, g14) _ ⟨⟨rt, zt, tt, ztt⟩, KC.out, hg14, RC.out, OC, PC.out⟩)
      · skip
        refine value_ (w1 := ?_) (v := ?_) (by rfl) rfl ?_ ?_
        rotate_left 2
        · go_simp
          constructor
          · rfl
          · rfl
        obtain ⟨g14, w5, hw5, hg14', KC, b5⟩ := hold_tab (w := w3)
        rw [← hw5, ← hg14']
        have hg14 : gx + 1 < g14 := by rw [hg14']; exact (HEX.out _ PC.out).2.2.2.2.2.1.lt
        have KC := Lib.hid KC
        have PC := Lib.hid (HST.out _ _ (chg_below b5) PC.out)
        have RC := Lib.hid (RC.out.below b5)
        clear hw5 hg14'
        refine hK.out _ _ ⟨(HEX.out _ PC.out).2.2.2.2.2.1.cell 0, (HEX.out _ PC.out).2.2.2.2.2.1.cell 1⟩ (fun hHeld => ?_)
        clear hK K
        refine norm_ (a' := ?_) ?_ ?_
        rotate_left
        · show Act.put _ (some 14) _ = _
          simp only [Act.put, List.setIfInBounds_toArray, List.set_cons_zero, List.set_cons_succ]
          rfl
        refine one_ (i := 4) (N := some 36) #[true, true, true, true, true, true, false] rfl rfl (by kernel_rfl) (by decide) (fun K hK => ?_)
        refine goes_ Try.func14 (by kernel_rfl) rfl #[.pointer (some ⟨p, 0, none⟩), .string nmFront, .agg #[.slice Ay y.length cy, .slice By ty.length dy], .int .i64 u, .int .i64 50] (by rfl) rfl rfl (by simp only [List.map_toArray, List.map_cons, List.map_nil]; rfl) ?_
        with_reducible refine (turnS RC.out HO7.out nmFront (by decide) (by decide) Ay cy y By dy ty (HEX.out _ PC.out).2.1 (HEX.out _ PC.out).2.2.2.1 TY.out (by omega) u 50 (by omega) (by omega) (by omega) (by omega)).mono ?_
        rintro e w8 ⟨At, ct, Bt, dt, rfl, ⟨rt, zt, tt, ztt⟩, RC, OC, hct⟩
        rw [← HM2.out] at rt zt RC OC
        rw [← HM2.out]
        have PC := Lib.hid (HST.out _ _ hct PC.out)
        have RC := Lib.hid RC
        have KC := Lib.hid (KC.out.chg hct (show ¬ g14 = b by omega))
        refine ⟨_, rfl, ?_⟩
        refine hK.out _ _ ⟨(HEX.out _ PC.out).2.2.2.2.2.1.cell 0, (HEX.out _ PC.out).2.2.2.2.2.1.cell 1⟩ (fun hHeld => ?_)
        clear hK K
        refine norm_ (a' := ?_) ?_ ?_
        rotate_left
        · show Act.put _ (some 36) _ = _
          simp only [Act.put, List.setIfInBounds_toArray, List.set_cons_zero, List.set_cons_succ]
          rfl
        exact norm_ (by simp only [putAll, Act.put, List.setIfInBounds_toArray, List.set_cons_zero, List.set_cons_succ]) (hCont (At, ct, Bt, dt, g14) _ ⟨⟨rt, zt, tt, ztt⟩, KC.out, hg14, RC.out, OC, PC.out⟩)
    · skip
      refine value_ (w1 := ?_) (v := ?_) (by rfl) rfl ?_ ?_
      rotate_left 2
      · go_simp
        constructor
        · rfl
        · rfl
      obtain ⟨g14, w5, hw5, hg14', KC, b5⟩ := hold_tabD (w := W7)
      rw [← hw5, ← hg14']
      have hg14 : gx + 1 < g14 := by rw [hg14']; exact (HEX.out _ PC.out).2.2.2.2.2.1.lt
      have KC := Lib.hid KC
      have PC := Lib.hid (HST.out _ _ (chg_below b5) PC.out)
      have RC := Lib.hid (RC.out.below b5)
      clear hw5 hg14'
      refine hK.out _ _ ⟨(HEX.out _ PC.out).2.2.2.2.2.1.cell 0, (HEX.out _ PC.out).2.2.2.2.2.1.cell 1⟩ (fun hHeld => ?_)
      clear hK K
      refine norm_ (a' := ?_) ?_ ?_
      rotate_left
      · show Act.put _ (some 14) _ = _
        simp only [Act.put, List.setIfInBounds_toArray, List.set_cons_zero, List.set_cons_succ]
        rfl
      refine one_ (i := 3) (N := some 35) #[true, true, true, true, false, true, false] rfl rfl (by kernel_rfl) (by decide) (fun K hK => ?_)
      refine goes_ Try.func13 (by kernel_rfl) rfl #[.int .i64 a4, .int .i64 50] (by rfl) rfl rfl (by simp only [List.map_toArray, List.map_cons, List.map_nil]; rfl) ?_
      with_reducible refine (damperlaw13_within.calls a4 50 u _ hwi.out).mono ?_
      rintro e w3 ⟨rfl, hd⟩
      have hd := hd.below
      have PC := Lib.hid (HST.out _ _ (chg_below hd) PC.out)
      have RC := Lib.hid (RC.out.below hd)
      have KC := Lib.hid (KC.out.below hd KC.out.lt)
      refine ⟨_, rfl, ?_⟩
      refine hK.out _ _ ⟨(HEX.out _ PC.out).2.2.2.2.2.1.cell 0, (HEX.out _ PC.out).2.2.2.2.2.1.cell 1⟩ (fun hHeld => ?_)
      clear hK K
      refine norm_ (a' := ?_) ?_ ?_
      rotate_left
      · show Act.put _ (some 35) _ = _
        simp only [Act.put, List.setIfInBounds_toArray, List.set_cons_zero, List.set_cons_succ]
        rfl
      refine one_ (i := 4) (N := some 36) #[true, true, true, true, true, true, false] rfl rfl (by kernel_rfl) (by decide) (fun K hK => ?_)
      refine goes_ Try.func14 (by kernel_rfl) rfl #[.pointer (some ⟨p, 0, none⟩), .string nmFront, .agg #[.slice Ay y.length cy, .slice By ty.length dy], .int .i64 u, .int .i64 50] (by rfl) rfl rfl (by simp only [List.map_toArray, List.map_cons, List.map_nil]; rfl) ?_
      with_reducible refine (turnS RC.out HO7.out nmFront (by decide) (by decide) Ay cy y By dy ty (HEX.out _ PC.out).2.1 (HEX.out _ PC.out).2.2.2.1 TY.out (by omega) u 50 (by omega) (by omega) (by omega) (by omega)).mono ?_
      rintro e w8 ⟨At, ct, Bt, dt, rfl, ⟨rt, zt, tt, ztt⟩, RC, OC, hct⟩
      rw [← HM2.out] at rt zt RC OC
      rw [← HM2.out]
      have PC := Lib.hid (HST.out _ _ hct PC.out)
      have RC := Lib.hid RC
      have KC := Lib.hid (KC.out.chg hct (show ¬ g14 = b by omega))
      refine ⟨_, rfl, ?_⟩
      refine hK.out _ _ ⟨(HEX.out _ PC.out).2.2.2.2.2.1.cell 0, (HEX.out _ PC.out).2.2.2.2.2.1.cell 1⟩ (fun hHeld => ?_)
      clear hK K
      refine norm_ (a' := ?_) ?_ ?_
      rotate_left
      · show Act.put _ (some 36) _ = _
        simp only [Act.put, List.setIfInBounds_toArray, List.set_cons_zero, List.set_cons_succ]
        rfl
      exact norm_ (by simp only [putAll, Act.put, List.setIfInBounds_toArray, List.set_cons_zero, List.set_cons_succ]) (hCont (At, ct, Bt, dt, g14) _ ⟨⟨rt, zt, tt, ztt⟩, KC.out, hg14, RC.out, OC, PC.out⟩)
  rintro ⟨At, ct, Bt, dt, g14⟩ W8 ⟨⟨rt, zt, tt, ztt⟩, k14, hg14, R8, O8, P8⟩
  dsimp only at rt zt tt ztt k14 hg14
  have hHeld : W8.cell? ⟨gx + 1, 0, none⟩ = some (.slice Ay y.length cy) ∧ W8.cell? ⟨gx + 1, 1, none⟩ = some (.slice By ty.length dy) := ⟨(HEX.out _ P8).2.2.2.2.2.1.cell 0, (HEX.out _ P8).2.2.2.2.2.1.cell 1⟩
  refine norm_ (a' := ?_) ?_ ?_
  rotate_left
  · simp only [putAll, Act.put, List.setIfInBounds_toArray, List.set_cons_zero, List.set_cons_succ]
    rfl
  refine last_ (i := 6) (N := none) #[true, true, true, true, true, true, true] rfl rfl (by kernel_rfl) (by decide) (fun K hK => ?_)
  have e0 := k14.cell 0
  have e1 := k14.cell 1
  simp only [List.getElem?_toArray, List.getElem?_cons_zero, List.getElem?_cons_succ] at e0 e1
  have f0 := k14.frozen 0
  have f1 := k14.frozen 1
  refine skip_ (w1 := ?_) (by rfl) rfl ?_ ?_
  rotate_left
  · go_simp
    rfl
  refine hK.out _ _ ?_
  clear hK K
  refine done_ (by kernel_rfl) ?_
  obtain ⟨W9, hW9⟩ : ∃ W9, W9 = (W8.setCell ⟨g14, 0, none⟩ (.slice At m2.now.length ct)).setCell ⟨g14, 1, none⟩ (.slice Bt ty.length dt) := ⟨_, rfl⟩
  have c9 : Chg (fun k => k = b ∨ k = g14) W8 W9 := by rw [hW9]; exact ((Chg.refl (fun k => k = b ∨ k = g14) W8).setCell (a := ⟨g14, 0, none⟩) (fun _ => .inr rfl) _).setCell (a := ⟨g14, 1, none⟩) (fun _ => .inr rfl) _
  have c9g : Chg (fun k => k = g14) W8 W9 := by rw [hW9]; exact ((Chg.refl (fun k => k = g14) W8).setCell (a := ⟨g14, 0, none⟩) (fun _ => rfl) _).setCell (a := ⟨g14, 1, none⟩) (fun _ => rfl) _
  have k9 : Blk W9 g14 #[.slice At m2.now.length ct, .slice Bt ty.length dt] 29 := by
    rw [hW9]
    exact (k14.set 0 (.slice At m2.now.length ct) (cs' := #[.slice At m2.now.length ct, .slice none 0 0]) rfl).set 1 (.slice Bt ty.length dt) (cs' := #[.slice At m2.now.length ct, .slice Bt ty.length dt]) rfl
  have R9 := Lib.hid (R8.chgG c9g (by omega) k14)
  have p8 := HEX.out _ P8
  obtain ⟨Q, hqt, hqx, hQ9⟩ : ∃ Q : World → Prop, Stable b Q ∧ (∀ W, Q W → RowS b At m2.now W ∧ RowT b Bt ty W ∧ Blk W g14 #[.slice At m2.now.length ct, .slice Bt ty.length dt] 29 ∧ RowT b By ty W ∧ Blk W (gx + 1) #[.slice Ay y.length cy, .slice By ty.length dy] 29 ∧ RowS b Ax a W ∧ Blk W gx #[.slice Ax a.length cx, .slice Bx tx.length dx] 29 ∧ Below w.heap.size w W) ∧ Q W9 :=
    ⟨_, (Stable.rowS b At m2.now).and ((Stable.rowT b Bt ty).and ((Stable.blk (show g14 ≠ b by omega) _ _).and ((Stable.rowT b By ty).and ((Stable.blk hgb1 _ _).and ((Stable.rowS b Ax a).and ((Stable.blk hgb _ _).and (Stable.below w hbw))))))), fun W h => h,
      (StableF.rowF _ At m2.now _ _ c9 (rt.andF k14)).toS (.inl rfl), (StableF.rowTF _ Bt ty _ _ c9 (tt.andF k14)).toT (.inl rfl), k9, (StableF.rowTF _ By ty _ _ c9 (p8.2.2.2.1.andF k14)).toT (.inl rfl), p8.2.2.2.2.2.1.chg c9g (by omega), (StableF.rowF _ Ax a _ _ c9 (p8.1.andF k14)).toS (.inl rfl), p8.2.2.2.2.1.chg c9g (by omega), c9g.below_of p8.2.2.2.2.2.2 p8.2.2.2.2.2.2.size (fun k hk e => by omega)⟩
  have HQT := Lib.hid hqt
  have HQX := Lib.hid hqx
  have Q9 := Lib.hid hQ9
  have O9 := Lib.hid O8
  have HZT := Lib.hid zt
  have HZTT := Lib.hid ztt
  clear hqt hqx hQ9 R8 O8 rt tt k14 k9 c9 c9g p8 P8 HR7 HO7 P7 HST HEX e0 e1 f0 f1 hHeld zt ztt
  go_wp2_with fail
  rw [← hW9]
  clear hW9
  refine (tableS R9.out O9.out nmFront (by decide) m2 (setWay_same _ _ _)).mono ?_
  rintro e Wa ⟨Aa, ca, Ba, da, rfl, ⟨ra, za, ta, zta⟩, hba⟩
  rw [HT.out] at ta zta ⊢
  have Qa := Lib.hid (HQT.out _ _ (chg_below hba) Q9.out)
  obtain ⟨g15, hg15⟩ : ∃ g15, g15 = Wa.heap.size := ⟨_, rfl⟩
  obtain ⟨Wb, hWb⟩ : ∃ Wb, Wb = Wa.alloc (.cells #[.slice Aa m2.now.length ca, .slice Ba ty.length da] 29) := ⟨_, rfl⟩
  have bWb : Below Wa.heap.size Wa Wb := by rw [hWb]; exact (Below.refl _ _).alloc (Nat.le_refl _) _
  have k15 : Blk Wb g15 #[.slice Aa m2.now.length ca, .slice Ba ty.length da] 29 := by rw [hWb, hg15]; exact Blk.new _ _ _
  have Qb := Lib.hid (HQT.out _ _ (chg_below bWb) Qa.out)
  have rb := Lib.hid (Stable.rowS b Aa m2.now _ _ (chg_below bWb) ra)
  have tb := Lib.hid (Stable.rowT b Ba ty _ _ (chg_below bWb) ta)
  have f_ := HQX.out _ Qb.out
  have q0 := f_.2.2.1.cell 0
  have q1 := f_.2.2.1.cell 1
  have q2 := f_.2.2.2.2.1.cell 1
  have q3 := f_.2.2.2.2.1.cell 0
  have q4 := k15.cell 0
  have q5 := k15.cell 1
  simp only [List.getElem?_toArray, List.getElem?_cons_zero, List.getElem?_cons_succ] at q0 q1 q2 q3 q4 q5
  clear f_ ra ta hba bWb R9 O9 Q9 Qa
  go_upto_region 10 with fail
  rw [← hWb, ← hg15]
  clear hWb hg15
  have hne : ((ty.length : Int) != (ty.length : Int)) = false := by simp
  go_wp2_with fail
  refine (sameS _ (HQX.out _ Qb.out).1.1 HZT.out (HQX.out _ Qb.out).2.1.1 HZTT.out rb.out.1 za tb.out.1 zta (by rw [HN.out]; have := tab_len TA.out; omega) (by omega) rfl rfl).mono ?_
  rintro e Wc ⟨rfl, hbc⟩
  have Qc := Lib.hid (HQT.out _ _ (chg_below hbc) Qb.out)
  clear q0 q1 q2 q3 q4 q5 hbc rb tb k15 Qb za zta
  go_wp2_with fail
  go_loopw [17] (fun v17 wr => ∃ i : Nat, i ≤ ty.length ∧ v17 = .int .i64 i ∧ Hid (Q wr)) (fun v17 _ => ty.length - (vI v17).toNat)
  case atStart => exact ⟨0, by omega, rfl, Qc⟩
  case round =>
    clear Qc
    obtain ⟨i, hi, rfl, QQ⟩ := hrel
    have f_ := HQX.out _ QQ.out
    have q1 := f_.2.2.1.cell 1
    have q0 := f_.2.2.1.cell 0
    have q2 := f_.2.2.2.2.1.cell 1
    have q3 := f_.2.2.2.2.2.2.1.cell 0
    simp only [List.getElem?_toArray, List.getElem?_cons_zero, List.getElem?_cons_succ] at q0 q1 q2 q3
    by_cases hlt : i < ty.length
    · have hlt' : (i : Int) < (ty.length : Int) := by omega
      obtain ⟨ga, oa, rfl, _, ca⟩ := tags_at f_.2.1.1 (by omega)
      obtain ⟨gb, ob, rfl, _, cb⟩ := tags_at f_.2.2.2.1.1 (by omega)
      obtain ⟨ca0, ca1⟩ := ca i hlt
      obtain ⟨cb0, cb1⟩ := cb i hlt
      generalize ty.getD i z42 = tg at ca0 ca1 cb0 cb1
      clear f_ ca cb
      go_wp2_with fail
      refine start_ (n := 11) (S := fun w' => w'.cell? ⟨g14, 1, none⟩ = some (.slice (some ⟨ga, oa, none⟩) ty.length dt) ∧ w'.cell? ⟨gx + 1, 1, none⟩ = some (.slice (some ⟨gb, ob, none⟩) ty.length dy) ∧ w'.cell? ⟨ga, oa + i * 2, none⟩ = some (.string tg.f0) ∧ w'.cell? ⟨ga, oa + i * 2 + 1, none⟩ = some (.string tg.f1) ∧ w'.cell? ⟨gb, ob + i * 2, none⟩ = some (.string tg.f0) ∧ w'.cell? ⟨gb, ob + i * 2 + 1, none⟩ = some (.string tg.f1)) (ds := []) #[false, false, false, false, false, false, false, false, false, false, false] (by kernel_rfl) rfl rfl ⟨q1, q2, ca0, ca1, cb0, cb1⟩ (fun hHeld => ?_)
      refine pure_ (i := 0) (N := some 66) (v := ?_) (a' := ?_) #[true, false, false, false, false, false, false, false, false, false, false] rfl rfl (by kernel_rfl) (fun _ _ _ h => h) (Or.inl ⟨by rfl, ?_⟩) ?_ ?_
      rotate_left
      · intro w'
        go_simp
        with_reducible rfl
      rotate_left
      · simp only [Act.put, List.setIfInBounds_toArray, List.set_cons_zero, List.set_cons_succ]
        rfl
      refine pure_ (i := 2) (N := some 68) (v := ?_) (a' := ?_) #[true, false, true, false, false, false, false, false, false, false, false] rfl rfl (by kernel_rfl) (fun _ _ _ h => h) (Or.inl ⟨by rfl, ?_⟩) ?_ ?_
      rotate_left
      · intro w'
        go_simp
        with_reducible rfl
      rotate_left
      · simp only [Act.put, List.setIfInBounds_toArray, List.set_cons_zero, List.set_cons_succ]
        rfl
      refine pure_ (i := 5) (N := some 71) (v := ?_) (a' := ?_) #[true, false, true, false, false, true, false, false, false, false, false] rfl rfl (by kernel_rfl) (fun _ _ _ h => h) (Or.inl ⟨by rfl, ?_⟩) ?_ ?_
      rotate_left
      · intro w'
        go_simp
        with_reducible rfl
      rotate_left
      · simp only [Act.put, List.setIfInBounds_toArray, List.set_cons_zero, List.set_cons_succ]
        rfl
      refine pure_ (i := 7) (N := some 73) (v := ?_) (a' := ?_) #[true, false, true, false, false, true, false, true, false, false, false] rfl rfl (by kernel_rfl) (fun _ _ _ h => h) (Or.inl ⟨by rfl, ?_⟩) ?_ ?_
      rotate_left
      · intro w'
        go_simp
        with_reducible rfl
      rotate_left
      · simp only [Act.put, List.setIfInBounds_toArray, List.set_cons_zero, List.set_cons_succ]
        rfl
      refine take_ (i := 1) (N := some 67) (v := ?_) (a' := ?_) #[true, true, true, false, false, true, false, true, false, false, false] rfl rfl (by kernel_rfl) (fun _ _ _ h => h) (Or.inl ⟨by rfl, ?_⟩) hHeld ?_ ?_
      rotate_left
      · rintro w' ⟨s0, s1, s2, s3, s4, s5⟩
        go_simp
        with_reducible rfl
      rotate_left
      · simp only [Act.put, List.setIfInBounds_toArray, List.set_cons_zero, List.set_cons_succ]
        rfl
      refine pure_ (i := 3) (N := some 69) (v := ?_) (a' := ?_) #[true, true, true, true, false, true, false, true, false, false, false] rfl rfl (by kernel_rfl) (fun _ _ _ h => h) (Or.inl ⟨by rfl, ?_⟩) ?_ ?_
      rotate_left
      · intro w'
        go_simp
        with_reducible rfl
      rotate_left
      · simp only [Act.put, List.setIfInBounds_toArray, List.set_cons_zero, List.set_cons_succ]
        rfl
      refine take_ (i := 4) (N := some 70) (v := ?_) (a' := ?_) #[true, true, true, true, true, true, false, true, false, false, false] rfl rfl (by kernel_rfl) (fun _ _ _ h => h) (Or.inl ⟨by rfl, ?_⟩) hHeld ?_ ?_
      rotate_left
      · rintro w' ⟨s0, s1, s2, s3, s4, s5⟩
        go_simp
        with_reducible rfl
      rotate_left
      · simp only [Act.put, List.setIfInBounds_toArray, List.set_cons_zero, List.set_cons_succ]
        rfl
      refine take_ (i := 6) (N := some 72) (v := ?_) (a' := ?_) #[true, true, true, true, true, true, true, true, false, false, false] rfl rfl (by kernel_rfl) (fun _ _ _ h => h) (Or.inl ⟨by rfl, ?_⟩) hHeld ?_ ?_
      rotate_left
      · rintro w' ⟨s0, s1, s2, s3, s4, s5⟩
        go_simp
        with_reducible rfl
      rotate_left
      · simp only [Act.put, List.setIfInBounds_toArray, List.set_cons_zero, List.set_cons_succ]
        rfl
      refine pure_ (i := 8) (N := some 74) (v := ?_) (a' := ?_) #[true, true, true, true, true, true, true, true, true, false, false] rfl rfl (by kernel_rfl) (fun _ _ _ h => h) (Or.inl ⟨by rfl, ?_⟩) ?_ ?_
      rotate_left
      · intro w'
        go_simp
        with_reducible rfl
      rotate_left
      · simp only [Act.put, List.setIfInBounds_toArray, List.set_cons_zero, List.set_cons_succ]
        rfl
      refine take_ (i := 9) (N := some 75) (v := ?_) (a' := ?_) #[true, true, true, true, true, true, true, true, true, true, false] rfl rfl (by kernel_rfl) (fun _ _ _ h => h) (Or.inl ⟨by rfl, ?_⟩) hHeld ?_ ?_
      rotate_left
      · rintro w' ⟨s0, s1, s2, s3, s4, s5⟩
        go_simp
        with_reducible rfl
      rotate_left
      · simp only [Act.put, List.setIfInBounds_toArray, List.set_cons_zero, List.set_cons_succ]
        rfl
      refine pure_ (i := 10) (N := some 76) (v := ?_) (a' := ?_) #[true, true, true, true, true, true, true, true, true, true, true] rfl rfl (by kernel_rfl) (fun _ _ _ h => h) (Or.inl ⟨by rfl, ?_⟩) ?_ ?_
      rotate_left
      · intro w'
        go_simp
        with_reducible rfl
      rotate_left
      · simp only [Act.put, List.setIfInBounds_toArray, List.set_cons_zero, List.set_cons_succ]
        rfl
      refine done_ (by kernel_rfl) ?_
      clear hHeld
      go_wp2_with fail
      go_roundw
      case rel => exact ⟨i + 1, by omega, by go_num, Lib.hid (HQT.out _ _ ((Chg.refl (fun k => k = b) _).drew) QQ.out)⟩
      case measure => simp [vI]; omega
    · obtain rfl : i = ty.length := by omega
      clear f_
      go_wp2_with fail
      refine (damperref5_Shares.calls (m2.now.length + a.length + 2) At ct m2.now Ax cx a true _ (HQX.out _ QQ.out).1.1 HZT.out (HQX.out _ QQ.out).2.2.2.2.2.1.1 hx0 (by rw [HN.out]; exact same_f (by have := tab_len TA.out; omega) _ (by omega))).mono ?_
      rintro e Wd ⟨rfl, hd⟩
      have hd := hd.below
      go_wp2_with fail
      go_ret
      exact ⟨rfl, below_step (HQX.out _ QQ.out).2.2.2.2.2.2.2 hd⟩

end Go.Proofs.Ytnkmpkhiilnigaa.PA
