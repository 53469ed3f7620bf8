/- LeadOwn: the walk. (Printed by leadlaws.py and genx.py.) -/
import Derived.Test.YtnkmpkhiilnigaaMakeT
namespace Go.Proofs.Ytnkmpkhiilnigaa.PA
open Go.RowKit Go.Shelf Go.Lib Go.Sort Go.Proofs.YtnkmpkhiilnigaaW.PrintWords Go.Proofs.YtnkmpkhiilnigaaW.PrintLast

def nmFront : ByteArray := ⟨#[102, 114, 111, 110, 116]⟩
def nmBack : ByteArray := ⟨#[98, 97, 99, 107]⟩
def nmStill : ByteArray := ⟨#[115, 116, 105, 108, 108]⟩

theorem RollerO.chgF {w w' : World} {p b g : Nat} {F : Nat → Prop} {M : List UInt8 → Option WayM} (h : RollerO w p b F M) (hc : Chg (fun k => k = g) w w') (hF : F g) (hp : p ≠ g) (hb : b ≠ g) : RollerO w' p b F M := by
  obtain ⟨ok, h1, h2, h3⟩ := h
  exact ⟨ok, h1.chg hc hp hb (fun k hk _ e => h3 _ hF (e ▸ hk)), fun k hk => h2 k (Nat.le_trans hc.size hk), h3⟩

theorem RollerO.again {w : World} {p b : Nat} {F : Nat → Prop} (h : RollerO w p b F noWays) : RollerO w p b (fun k => k < w.heap.size) noWays := by
  obtain ⟨ok, h1, _⟩ := h
  exact RollerO.first h1

/-- It stays while memory is made, and while cells of rows that belong to nobody else are written. -/
def Steady (lo : Nat) (F : Nat → Prop) (P : World → Prop) : Prop := (∀ w w', Below w.heap.size w w' → P w → P w') ∧ ∀ w g i u cur, lo ≤ g → F g → (Blk w g cur 40 ∨ Blk w g cur 42) → P w → P (w.setCell ⟨g, i, none⟩ u)
theorem Steady.and {lo : Nat} {F : Nat → Prop} {P Q : World → Prop} (hp : Steady lo F P) (hq : Steady lo F Q) : Steady lo F (fun w => P w ∧ Q w) := ⟨fun w w' h ⟨a, c⟩ => ⟨hp.1 w w' h a, hq.1 w w' h c⟩, fun w g i u cur h1 h2 h3 ⟨a, c⟩ => ⟨hp.2 w g i u cur h1 h2 h3 a, hq.2 w g i u cur h1 h2 h3 c⟩⟩
theorem Steady.roller {lo p b : Nat} {F : Nat → Prop} (M : List UInt8 → Option WayM) (hp : p < lo) (hb : b < lo) : Steady lo F (fun w => RollerO w p b F M) := ⟨fun _ _ hc h => h.below hc, fun _ g _ u _ h1 h2 _ h => h.set u h2 (show p < g by omega) (show b < g by omega)⟩
theorem Steady.arr {lo : Nat} {F : Nat → Prop} (e : TypeId) (A : Option Addr) (n : Nat) : Steady lo F (fun w => ArrO w lo F e A n) := ⟨fun _ _ hc h => h.below hc, fun _ g i u _ _ _ _ h => h.set g i u⟩
theorem Steady.tab {lo g0 : Nat} {F : Nat → Prop} (cs : Array Value) : Steady lo F (fun w => Blk w g0 cs 29) := ⟨fun _ _ hc h => h.below hc h.lt, fun _ g _ u _ _ _ h3 h => h.far (show g0 ≠ g from by rcases h3 with h3 | h3 <;> exact blk_ne h h3 (by decide)) u⟩
theorem Steady.world {lo : Nat} {F : Nat → Prop} (w0 : World) (h : w0.heap.size ≤ lo) : Steady lo F (fun w => Below w0.heap.size w0 w) := ⟨fun _ _ hc h => below_step h hc, fun _ g _ u _ h1 _ _ h => ((Chg.refl (fun k => k = g) _).setCell (fun _ => rfl) u).below_of h h.size (fun k hk e => by omega)⟩

theorem own_now {a : List S40} (ta : Tab R6 a) (tg : List S42) (wh : Int) : (turnW none a tg 0 wh).now = a ∧ (turnW (some (turnW none a tg 0 wh)) a tg 3 wh).now = a := by
  obtain ⟨h1, h2⟩ := turn_still (a := a) (wh := wh) (o := none) (fun m e => by cases e) ta tg 0
  exact ⟨h1, (turn_still h2 ta tg 3).1⟩

set_option maxRecDepth 100000 in
set_option maxHeartbeats 8000000 in
theorem own_law (A0 : Option Addr) (c0 : Nat) (l0 : List Int) (A1 : Option Addr) (c1 : Nat) (l1 : List Int) (a2 : Int) (w : World) (hr0 : Kd.C (Kd.int .i64) w A0 l0.length l0) (hc0 : l0.length ≤ c0) (hr1 : Kd.C (Kd.int .i64) w A1 l1.length l1) (_hc1 : l1.length ≤ c1) :
    Calls Try.prog 4 #[.slice A0 l0.length c0, .slice A1 l1.length c1, .int .i64 a2] w fun e w' => e = .returned (.bool true) ∧ Below w.heap.size w w' := by

  obtain ⟨k0, a, ha, ta⟩ := shares_tab l0
  obtain ⟨tg, htg⟩ : ∃ tg, tg = tagsOf l1 := ⟨_, rfl⟩
  have htl : tg.length ≤ 4 := by rw [htg]; exact tagsOf_len _
  have HTG := Lib.hid htg
  have HA := Lib.hid ha
  have TA := Lib.hid ta
  have HR0 := Lib.hid hr0
  have HR1 := Lib.hid hr1
  clear ha ta hr0 hr1 htg
  go_enter Try.func4, Try.ntmps4
  go_wp2_with fail
  refine (known13 _).mono ?_
  rintro e w1 ⟨rfl, hb1⟩
  go_wp2_with fail
  refine (new_calls _).mono ?_
  rintro e w2 ⟨p, b, rfl, R2, hp, hb, hb2⟩
  have b2 := below_step hb1 hb2
  have R2 := RollerO.first R2
  go_wp2_with fail
  refine (new_calls _).mono ?_
  rintro e w3 ⟨q, d, rfl, S3, hq, hd, hb3⟩
  have b3 := below_step b2 hb3
  have R3 := R2.free hb3
  have S3 := RollerO.first S3
  have hlR := R3.lt
  have hlS := S3.lt
  have hlb := R2.lt
  go_wp2_with fail
  obtain ⟨wh, hwh⟩ : ∃ wh, wh = a2 % 61 := ⟨_, rfl⟩
  have hwi := Lib.hid (show damperlaw13_within.f a2 61 = some wh from by rw [hwh]; exact within13 a2 61 (by omega) (by omega))
  have hw0 : 0 ≤ wh := by omega
  have hw1 : wh < 61 := by omega
  clear hwh
  refine (damperlaw13_within.calls a2 61 wh _ hwi.out).mono ?_
  rintro e w4 ⟨rfl, hd4⟩
  have hd4 := hd4.below
  have b4 := below_step b3 hd4
  have R4 := R3.free hd4
  have S4 := S3.free hd4
  have hsz4 := hd4.size
  clear hwi
  go_wp2_with fail
  refine (make_tags A0 c0 l0 A1 c1 l1 _ (Kd.C_below HR0.out b4) hc0 (Kd.C_below HR1.out b4) k0 a HA.out).mono ?_
  rintro e w5 ⟨At, ct, Bt, dt, rfl, ⟨ht0, ht0'⟩, ⟨ht1, ht1'⟩, _, hta, hb5⟩
  rw [← HTG.out] at ht0' ht1' ⊢
  obtain ⟨lo, hlo⟩ : ∃ lo, lo = w4.heap.size := ⟨_, rfl⟩
  obtain ⟨g10, hg10⟩ : ∃ g10, g10 = w5.heap.size := ⟨_, rfl⟩
  obtain ⟨W6, hW6⟩ : ∃ W6, W6 = w5.alloc (.cells #[.slice At a.length ct, .slice Bt tg.length dt] 29) := ⟨_, rfl⟩
  have bW6 : Below w5.heap.size w5 W6 := by rw [hW6]; exact (Below.refl _ _).alloc (Nat.le_refl _) _
  have k10 : Blk W6 g10 #[.slice At a.length ct, .slice Bt tg.length dt] 29 := by rw [hW6, hg10]; exact Blk.new _ _ _
  have b56 := below_step hb5 bW6
  have z5 := hb5.size
  have z6 := bW6.size
  have z10 : lo ≤ g10 := by omega
  have R6 := Lib.hid ((R4.free b56).mono (G := fun k => k < W6.heap.size) (fun k hk => by omega))
  have S6 := Lib.hid ((S4.free b56).mono (G := fun k => k < W6.heap.size) (fun k hk => by omega))
  have T6 := Lib.hid ((hta.below bW6).mono (G := fun k => k < W6.heap.size) (fun k _ hk _ => hk))
  have C6 := Lib.hid (Kd.C_below ht1 bW6)
  have D6 := Lib.hid (Kd.C_below ht1' bW6)
  have K10 := Lib.hid k10
  have B6 := Lib.hid (below_step b4 b56)
  have e0 := k10.cell 0
  have e1 := k10.cell 1
  simp only [List.getElem?_toArray, List.getElem?_cons_zero, List.getElem?_cons_succ] at e0 e1
  have zlo : w.heap.size ≤ lo := by have := b4.size; omega
  have zp : p < lo := by omega
  have zwb : w.heap.size ≤ b := by have := hb1.size; omega
  have zb : b < lo := by omega
  have zq : q < lo := by omega
  have zd : d < lo := by omega
  have hdb : d ≠ b := by omega
  have hqb : q ≠ b := by omega
  have zlo6 : lo ≤ W6.heap.size := by omega
  clear b2 b3 b4 b56 R2 R3 S3 R4 S4 hlR hlS hlb hta ht1 ht1' k10 hb1 hb2 hb3 hd4 hb5 hp hb hq hd hsz4 z5 z6 bW6
  go_upto_region 8 with fail
  rw [← hW6, ← hg10]
  clear hW6 hg10
  go_wp2_with fail
  refine (turnO R6.out (OkM.none 0) nmFront (by decide) (by decide) At ct a Bt dt tg C6.out D6.out TA.out (by omega) 0 wh (by omega) (by omega) (by omega) (by omega)).mono ?_
  rintro e w7 ⟨Au, cu, Bu, du, rfl, _, G, ⟨hu, hut⟩, R7, O7, hc7⟩
  obtain ⟨m1, hm1⟩ : ∃ m1, m1 = turnW (noWays nmFront.data.toList) a tg 0 wh := ⟨_, rfl⟩
  rw [← hm1] at hu R7 O7 ⊢
  have HN1 := Lib.hid (show m1.now = a from by rw [hm1]; exact (own_now TA.out tg wh).1)
  have HT1 := Lib.hid (show m1.tags = tg from by rw [hm1]; rfl)
  have HN3 := Lib.hid (show (turnW (some m1) a tg 3 wh).now = a from by rw [hm1]; exact (own_now TA.out tg wh).2)
  have HM := Lib.hid (setWay_same nmFront.data.toList (some m1) noWays)
  generalize setWay nmFront.data.toList (some m1) noWays = M at R7 O7 HM
  have HO := Lib.hid O7
  have hal := tab_len TA.out
  have hnl : m1.now.length ≤ 6 := by rw [HN1.out]; exact hal
  obtain ⟨g11, hg11⟩ : ∃ g11, g11 = w7.heap.size := ⟨_, rfl⟩
  obtain ⟨W8, hW8⟩ : ∃ W8, W8 = w7.alloc (.cells #[.slice Au m1.now.length cu, .slice Bu tg.length du] 29) := ⟨_, rfl⟩
  have bW8 : Below w7.heap.size w7 W8 := by rw [hW8]; exact (Below.refl _ _).alloc (Nat.le_refl _) _
  have k11 : Blk W8 g11 #[.slice Au m1.now.length cu, .slice Bu tg.length du] 29 := by rw [hW8, hg11]; exact Blk.new _ _ _
  have z67 := hc7.size
  have z78 := bW8.size
  obtain ⟨F, hF⟩ : ∃ F : Nat → Prop, F = fun k => (k < W6.heap.size ∨ G k) ∧ k < W8.heap.size := ⟨_, rfl⟩
  have hFi : ∀ k, F k → (k < W6.heap.size ∨ G k) ∧ k < W8.heap.size := fun k hk => by rw [hF] at hk; exact hk
  have hFm : ∀ k, (k < W6.heap.size ∨ G k) → k < W8.heap.size → F k := fun k h1 h2 => by rw [hF]; exact ⟨h1, h2⟩
  clear hF
  have r8 : RollerO W8 p b F M := (R7.below bW8).mono (fun k hk => (hFi k hk).1)
  have s8 : RollerO W8 q d F noWays := ((S6.out.chgF hc7 (show b < W6.heap.size by omega) hqb hdb).below bW8).again.mono (fun k hk => (hFi k hk).2)
  have t8 : ArrO W8 lo F 40 At a.length := ((T6.out.lower (show lo ≤ w4.heap.size by omega)).chg hc7 (fun k hk _ e => by omega)).below bW8 |>.mono (fun k _ hk h => hFm k (.inl h) hk)
  have u8 : ArrO W8 lo F 40 Au m1.now.length := ((hu.below bW8).lower zlo6).mono (fun k _ hk h => hFm k (.inr h) hk)
  have v8 : ArrO W8 lo F 42 Bu tg.length := ((hut.below bW8).lower zlo6).mono (fun k _ hk h => hFm k (.inr h) hk)
  have hb10 : g10 ≠ b := by omega
  have k10' : Blk W8 g10 #[.slice At a.length ct, .slice Bt tg.length dt] 29 := (K10.out.chg hc7 hb10).below bW8 (by have := K10.out.lt; omega)
  have w8 : Below w.heap.size w W8 := (hc7.below_of B6.out B6.out.size (fun k hk e => by omega)).trans (bW8.mono (by have := B6.out.size; omega))
  obtain ⟨P, hst, hex, hP8⟩ : ∃ P : World → Prop, Steady lo F P ∧ (∀ W, P W → RollerO W p b F M ∧ RollerO W q d F noWays ∧ ArrO W lo F 40 At a.length ∧ ArrO W lo F 40 Au m1.now.length ∧ ArrO W lo F 42 Bu tg.length ∧ Blk W g10 #[.slice At a.length ct, .slice Bt tg.length dt] 29 ∧ Blk W g11 #[.slice Au m1.now.length cu, .slice Bu tg.length du] 29 ∧ Below w.heap.size w W) ∧ P W8 :=
    ⟨_, (Steady.roller M zp zb).and ((Steady.roller noWays zq zd).and ((Steady.arr _ At a.length).and ((Steady.arr _ Au m1.now.length).and ((Steady.arr _ Bu tg.length).and ((Steady.tab _).and ((Steady.tab _).and (Steady.world w zlo))))))), fun W h => h, r8, s8, t8, u8, v8, k10', k11, w8⟩
  have HST := Lib.hid hst
  have HEX := Lib.hid hex
  have P8 := Lib.hid hP8
  clear hst hex hP8 r8 s8 t8 u8 v8 k10' w8 hb10 hu hut R7 O7 hc7 hFi hFm bW8 k11 z67 z78 R6 S6 T6 C6 D6 K10 B6 e0 e1 G hm1
  go_upto_region 9 with fail
  rw [← hW8, ← hg11]
  clear hW8 hg11
  go_wp2_with fail
  go_loopw [12] (fun v wr => ∃ i : Nat, i ≤ a.length ∧ v = .int .i64 i ∧ Hid (P wr)) (fun v _ => a.length - (vI v).toNat)
  case atStart => exact ⟨0, by omega, rfl, P8⟩
  case round =>
    clear P8
    obtain ⟨i, hi, rfl, PP⟩ := hrel
    have f_ := HEX.out _ PP.out
    have e0 := f_.2.2.2.2.2.1.cell 0
    simp only [List.getElem?_toArray, List.getElem?_cons_zero] at e0
    by_cases hlt : i < a.length
    · have hlt' : (i : Int) < (a.length : Int) := by omega
      obtain ⟨g, cur, v, rfl, hg0, hgF, hgk, hcv, hcf⟩ := f_.2.2.1.at_ hlt 1 (by omega)
      clear f_
      go_wp2_with fail
      have PN := Lib.hid (HST.out.2 _ g (i * 2 + 1) (.int .i64 1) cur hg0 hgF (.inl hgk) PP.out)
      go_roundw
      case rel => exact ⟨i + 1, by omega, by go_num, PN⟩
      case measure => simp [vI]; omega
    · obtain rfl : i = a.length := by omega
      clear f_
      go_wp2_with fail
      go_loopw [13] (fun v wr => ∃ i : Nat, i ≤ m1.now.length ∧ v = .int .i64 i ∧ Hid (P wr)) (fun v _ => m1.now.length - (vI v).toNat)
      case atStart => exact ⟨0, by omega, rfl, PP⟩
      case round =>
        clear PP
        obtain ⟨i, hi, rfl, PP⟩ := hrel
        have f_ := HEX.out _ PP.out
        have e0 := f_.2.2.2.2.2.2.1.cell 0
        simp only [List.getElem?_toArray, List.getElem?_cons_zero] at e0
        by_cases hlt : i < m1.now.length
        · have hlt' : (i : Int) < (m1.now.length : Int) := by omega
          obtain ⟨g, cur, v, rfl, hg0, hgF, hgk, hcv, hcf⟩ := f_.2.2.2.1.at_ hlt 0 (by omega)
          rw [Nat.add_zero] at hcv hcf
          clear f_
          go_wp2_with fail
          have PN := Lib.hid (HST.out.2 _ g (i * 2) (.string ⟨#[113, 45, 49]⟩) cur hg0 hgF (.inl hgk) PP.out)
          go_roundw
          case rel => exact ⟨i + 1, by omega, by go_num, PN⟩
          case measure => simp [vI]; omega
        · obtain rfl : i = m1.now.length := by omega
          clear f_
          go_wp2_with fail
          go_loopw [14] (fun v wr => ∃ i : Nat, i ≤ tg.length ∧ v = .int .i64 i ∧ Hid (P wr)) (fun v _ => tg.length - (vI v).toNat)
          case atStart => exact ⟨0, by omega, rfl, PP⟩
          case round =>
            clear PP
            obtain ⟨i, hi, rfl, PP⟩ := hrel
            have f_ := HEX.out _ PP.out
            have e0 := f_.2.2.2.2.2.2.1.cell 1
            simp only [List.getElem?_toArray, List.getElem?_cons_zero, List.getElem?_cons_succ] at e0
            by_cases hlt : i < tg.length
            · have hlt' : (i : Int) < (tg.length : Int) := by omega
              obtain ⟨g, cur, v, rfl, hg0, hgF, hgk, hcv, hcf⟩ := f_.2.2.2.2.1.at_ hlt 1 (by omega)
              clear f_
              go_wp2_with fail
              have PN := Lib.hid (HST.out.2 _ g (i * 2 + 1) (.string ⟨#[113, 45, 49]⟩) cur hg0 hgF (.inr hgk) PP.out)
              go_roundw
              case rel => exact ⟨i + 1, by omega, by go_num, PN⟩
              case measure => simp [vI]; omega
            · obtain rfl : i = tg.length := by omega
              clear f_
              go_wp2_with fail
              have f_ := HEX.out _ PP.out
              have zr : lo ≤ wr.heap.size := by have := f_.2.2.2.2.2.1.lt; omega
              refine (tableO f_.1 HO.out nmFront (by decide) m1 HM.out).mono ?_
              rintro e wa ⟨Av, cv, Bv, dv, rfl, ⟨va0, va1, va2, va3⟩, av, Ra, hba⟩
              rw [HT1.out] at va2 va3 ⊢
              obtain ⟨g15, hg15⟩ : ∃ g15, g15 = wa.heap.size := ⟨_, rfl⟩
              obtain ⟨Wb, hWb⟩ : ∃ Wb, Wb = wa.alloc (.cells #[.slice Av m1.now.length cv, .slice Bv tg.length dv] 29) := ⟨_, rfl⟩
              have bWb : Below wa.heap.size wa Wb := by rw [hWb]; exact (Below.refl _ _).alloc (Nat.le_refl _) _
              have k15 : Blk Wb g15 #[.slice Av m1.now.length cv, .slice Bv tg.length dv] 29 := by rw [hWb, hg15]; exact Blk.new _ _ _
              obtain ⟨F2, hF2⟩ : ∃ F2 : Nat → Prop, F2 = fun k => F k ∨ wr.heap.size ≤ k ∧ k < wa.heap.size := ⟨_, rfl⟩
              have rB : RollerO Wb p b F2 M := by rw [hF2]; exact Ra.below bWb
              have sB : RollerO Wb q d F2 noWays := by rw [hF2]; exact (f_.2.1.free hba).below bWb
              have aB : ArrO Wb lo F2 40 Av m1.now.length := by rw [hF2]; exact ((av.below bWb).lower zr).mono (fun k _ _ h => .inr h)
              obtain ⟨Q, hqt, hqx, hQb⟩ : ∃ Q : World → Prop, Steady lo F2 Q ∧ (∀ W, Q W → RollerO W p b F2 M ∧ RollerO W q d F2 noWays ∧ ArrO W lo F2 40 Av m1.now.length ∧ Blk W g15 #[.slice Av m1.now.length cv, .slice Bv tg.length dv] 29 ∧ Below w.heap.size w W) ∧ Q Wb :=
                ⟨_, (Steady.roller M zp zb).and ((Steady.roller noWays zq zd).and ((Steady.arr _ Av m1.now.length).and ((Steady.tab _).and (Steady.world w zlo)))), fun W h => h, rB, sB, aB, k15, below_step (below_step f_.2.2.2.2.2.2.2 hba) bWb⟩
              have HQT := Lib.hid hqt
              have HQX := Lib.hid hqx
              have Qb := Lib.hid hQb
              have Cv := Lib.hid (Kd.C_below va0 bWb)
              have Dv := Lib.hid (Kd.C_below va2 bWb)
              have e0 := k15.cell 0
              have e1 := k15.cell 1
              simp only [List.getElem?_toArray, List.getElem?_cons_zero, List.getElem?_cons_succ] at e0 e1
              have z15 : lo ≤ g15 := by have := hba.size; omega
              clear f_ hqt hqx hQb va0 va2 av Ra hba bWb k15 hF2 rB sB aB HST HEX PP
              go_upto_region 22 with fail
              rw [← hWb, ← hg15]
              clear hWb hg15
              go_wp2_with fail
              have Qd := Lib.hid (HQT.out.1 _ _ ((Below.refl Wb.heap.size Wb).drew) Qb.out)
              refine start_ (n := 10) (S := fun w' => w'.cell? ⟨g15, 0, none⟩ = some (.slice Av m1.now.length cv) ∧ w'.cell? ⟨g15, 1, none⟩ = some (.slice Bv tg.length dv)) (ds := []) #[false, false, false, false, false, false, false, false, false, false] (by kernel_rfl) rfl rfl ⟨(HQX.out _ Qd.out).2.2.2.1.cell 0, (HQX.out _ Qd.out).2.2.2.1.cell 1⟩ (fun hHeld => ?_)
              refine pure_ (i := 0) (N := some 82) (v := ?_) (a' := ?_) #[true, false, false, false, false, false, false, false, false, false] rfl rfl (by kernel_rfl) (fun _ _ _ h => h) (Or.inl ⟨by rfl, ?_⟩) ?_ ?_
              rotate_left
              · intro w'
                go_simp
                with_reducible rfl
              rotate_left
              · simp only [Act.put, List.setIfInBounds_toArray, List.set_cons_zero, List.set_cons_succ]
                rfl
              refine pure_ (i := 1) (N := some 83) (v := ?_) (a' := ?_) #[true, true, false, false, false, false, false, false, false, false] rfl rfl (by kernel_rfl) (fun _ _ _ h => h) (Or.inl ⟨by rfl, ?_⟩) ?_ ?_
              rotate_left
              · intro w'
                go_simp
                with_reducible rfl
              rotate_left
              · simp only [Act.put, List.setIfInBounds_toArray, List.set_cons_zero, List.set_cons_succ]
                rfl
              refine pure_ (i := 2) (N := some 84) (v := ?_) (a' := ?_) #[true, true, true, false, false, false, false, false, false, false] rfl rfl (by kernel_rfl) (fun _ _ _ h => h) (Or.inl ⟨by rfl, ?_⟩) ?_ ?_
              rotate_left
              · intro w'
                go_simp
                with_reducible rfl
              rotate_left
              · simp only [Act.put, List.setIfInBounds_toArray, List.set_cons_zero, List.set_cons_succ]
                rfl
              refine pure_ (i := 4) (N := some 86) (v := ?_) (a' := ?_) #[true, true, true, false, true, false, false, false, false, false] rfl rfl (by kernel_rfl) (fun _ _ _ h => h) (Or.inl ⟨by rfl, ?_⟩) ?_ ?_
              rotate_left
              · intro w'
                go_simp
                with_reducible rfl
              rotate_left
              · simp only [Act.put, List.setIfInBounds_toArray, List.set_cons_zero, List.set_cons_succ]
                rfl
              refine pure_ (i := 5) (N := some 87) (v := ?_) (a' := ?_) #[true, true, true, false, true, true, false, false, false, false] rfl rfl (by kernel_rfl) (fun _ _ _ h => h) (Or.inl ⟨by rfl, ?_⟩) ?_ ?_
              rotate_left
              · intro w'
                go_simp
                with_reducible rfl
              rotate_left
              · simp only [Act.put, List.setIfInBounds_toArray, List.set_cons_zero, List.set_cons_succ]
                rfl
              refine take_ (i := 3) (N := some 85) (v := ?_) (a' := ?_) #[true, true, true, true, true, true, false, false, false, false] rfl rfl (by kernel_rfl) (fun _ _ _ h => h) (Or.inl ⟨by rfl, ?_⟩) hHeld ?_ ?_
              rotate_left
              · rintro w' ⟨s0, s1⟩
                go_simp
                with_reducible rfl
              rotate_left
              · simp only [Act.put, List.setIfInBounds_toArray, List.set_cons_zero, List.set_cons_succ]
                rfl
              refine one_ (i := 6) (N := some 88) #[true, true, true, true, true, true, true, false, false, false] rfl rfl (by kernel_rfl) (by decide) (fun K hK => ?_)
              refine goes_ Try.func12 (by kernel_rfl) rfl #[.slice A0 l0.length c0, .slice A1 l1.length c1] (by rfl) rfl rfl (by simp only [List.map_toArray, List.map_cons, List.map_nil]; rfl) ?_
              with_reducible refine (make_tags A0 c0 l0 A1 c1 l1 _ (Kd.C_below HR0.out (HQX.out _ Qd.out).2.2.2.2) hc0 (Kd.C_below HR1.out (HQX.out _ Qd.out).2.2.2.2) k0 a HA.out).mono ?_
              rintro e w9 ⟨Ay, cy, By, dy, rfl, ⟨y0, y0'⟩, ⟨y1, y1'⟩, _, _, h9⟩
              rw [← HTG.out] at y0' y1' ⊢
              have Q9 := Lib.hid (HQT.out.1 _ _ h9 Qd.out)
              refine ⟨_, rfl, ?_⟩
              refine hK.out _ _ ⟨(HQX.out _ Q9.out).2.2.2.1.cell 0, (HQX.out _ Q9.out).2.2.2.1.cell 1⟩ (fun hHeld => ?_)
              clear hK K
              refine norm_ (a' := ?_) ?_ ?_
              rotate_left
              · show Act.put _ (some 88) _ = _
                simp only [Act.put, List.setIfInBounds_toArray, List.set_cons_zero, List.set_cons_succ]
                rfl
              refine one_ (i := 7) (N := some 89) #[true, true, true, true, true, true, true, true, false, false] rfl rfl (by kernel_rfl) (by decide) (fun K hK => ?_)
              refine goes_ Try.func18 (by kernel_rfl) rfl #[.agg #[.slice Av m1.now.length cv, .slice Bv tg.length dv], .agg #[.slice Ay a.length cy, .slice By tg.length dy]] (by rfl) rfl rfl (by simp only [List.map_toArray, List.map_cons, List.map_nil]; rfl) ?_
              with_reducible refine (sameS _ (Kd.C_below (Kd.C_below Cv.out ((Below.refl _ _).drew)) h9) va1 (Kd.C_below (Kd.C_below Dv.out ((Below.refl _ _).drew)) h9) va3 y1 y0 y1' y0' (by omega) (by omega) HN1.out rfl).mono ?_
              rintro e w10 ⟨rfl, h10⟩
              have Q10 := Lib.hid (HQT.out.1 _ _ h10 Q9.out)
              refine ⟨_, rfl, ?_⟩
              refine hK.out _ _ ⟨(HQX.out _ Q10.out).2.2.2.1.cell 0, (HQX.out _ Q10.out).2.2.2.1.cell 1⟩ (fun hHeld => ?_)
              clear hK K
              refine norm_ (a' := ?_) ?_ ?_
              rotate_left
              · show Act.put _ (some 89) _ = _
                simp only [Act.put, List.setIfInBounds_toArray, List.set_cons_zero, List.set_cons_succ]
                rfl
              refine pure_ (i := 8) (N := some 90) (v := ?_) (a' := ?_) #[true, true, true, true, true, true, true, true, true, false] rfl rfl (by kernel_rfl) (fun _ _ _ h => h) (Or.inl ⟨by rfl, ?_⟩) ?_ ?_
              rotate_left
              · intro w'
                go_simp
                with_reducible rfl
              rotate_left
              · simp only [Act.put, List.setIfInBounds_toArray, List.set_cons_zero, List.set_cons_succ]
                rfl
              refine pure_ (i := 9) (N := some 91) (v := ?_) (a' := ?_) #[true, true, true, true, true, true, true, true, true, true] rfl rfl (by kernel_rfl) (fun _ _ _ h => h) (Or.inl ⟨by rfl, ?_⟩) ?_ ?_
              rotate_left
              · intro w'
                go_simp
                with_reducible rfl
              rotate_left
              · simp only [Act.put, List.setIfInBounds_toArray, List.set_cons_zero, List.set_cons_succ]
                rfl
              refine done_ (by kernel_rfl) ?_
              clear hHeld e0 e1 y1 y1' h9 h10 Qb Qd Q9 Cv Dv
              go_wp2_with fail
              go_loopw [17] (fun v wr => ∃ i : Nat, i ≤ m1.now.length ∧ v = .int .i64 i ∧ Hid (Q wr)) (fun v _ => m1.now.length - (vI v).toNat)
              case atStart => exact ⟨0, by omega, rfl, Q10⟩
              case round =>
                clear Q10
                obtain ⟨i, hi, rfl, QQ⟩ := hrel
                have f_ := HQX.out _ QQ.out
                have e0 := f_.2.2.2.1.cell 0
                simp only [List.getElem?_toArray, List.getElem?_cons_zero] at e0
                by_cases hlt : i < m1.now.length
                · have hlt' : (i : Int) < (m1.now.length : Int) := by omega
                  obtain ⟨g, cur, v, rfl, hg0, hgF, hgk, hcv, hcf⟩ := f_.2.2.1.at_ hlt 0 (by omega)
                  rw [Nat.add_zero] at hcv hcf
                  clear f_
                  go_wp2_with fail
                  have PN := Lib.hid (HQT.out.2 _ g (i * 2) (.string ⟨#[113, 45, 49]⟩) cur hg0 hgF (.inl hgk) QQ.out)
                  go_roundw
                  case rel => exact ⟨i + 1, by omega, by go_num, PN⟩
                  case measure => simp [vI]; omega
                · obtain rfl : i = m1.now.length := by omega
                  clear f_
                  go_wp2_with fail
                  have f_ := HQX.out _ QQ.out
                  have zr2 : lo ≤ wr.heap.size := by have := f_.2.2.2.1.lt; omega
                  refine (tableO f_.1 HO.out nmFront (by decide) m1 HM.out).mono ?_
                  rintro e wa ⟨Ax, cx, Bx, dx, rfl, ⟨xa0, xa1, xa2, xa3⟩, _, Ra, hba⟩
                  rw [HT1.out] at xa2 xa3 ⊢
                  obtain ⟨g18, hg18⟩ : ∃ g18, g18 = wa.heap.size := ⟨_, rfl⟩
                  obtain ⟨Wb, hWb⟩ : ∃ Wb, Wb = wa.alloc (.cells #[.slice Ax m1.now.length cx, .slice Bx tg.length dx] 29) := ⟨_, rfl⟩
                  have bWb : Below wa.heap.size wa Wb := by rw [hWb]; exact (Below.refl _ _).alloc (Nat.le_refl _) _
                  have k18 : Blk Wb g18 #[.slice Ax m1.now.length cx, .slice Bx tg.length dx] 29 := by rw [hWb, hg18]; exact Blk.new _ _ _
                  have rB := Lib.hid (Ra.below bWb)
                  have sB := Lib.hid ((f_.2.1.below hba).below bWb)
                  have xC := Lib.hid (Kd.C_below xa0 bWb)
                  have xD := Lib.hid (Kd.C_below xa2 bWb)
                  have B8 := Lib.hid (below_step (below_step f_.2.2.2.2 hba) bWb)
                  have K18 := Lib.hid k18
                  have z18 : lo ≤ g18 := by have := hba.size; omega
                  clear f_ xa0 xa2 Ra hba bWb k18 HQT HQX QQ
                  go_upto_region 29 with fail
                  rw [← hWb, ← hg18]
                  clear hWb hg18
                  go_wp2_with fail
                  obtain ⟨ok, hS, _⟩ := sB.out
                  refine (table_none hS nmFront (by decide) rfl).mono ?_
                  rintro e wc ⟨rfl, hbc⟩
                  obtain ⟨g20, hg20⟩ : ∃ g20, g20 = wc.heap.size := ⟨_, rfl⟩
                  obtain ⟨Wd, hWd⟩ : ∃ Wd, Wd = wc.alloc (.cells #[.slice none 0 0, .slice none 0 0] 29) := ⟨_, rfl⟩
                  have bWd : Below wc.heap.size wc Wd := by rw [hWd]; exact (Below.refl _ _).alloc (Nat.le_refl _) _
                  have bb := below_step hbc bWd
                  have rD := Lib.hid (rB.out.below bb)
                  have xC := Lib.hid (Kd.C_below xC.out bb)
                  have xD := Lib.hid (Kd.C_below xD.out bb)
                  have B8 := Lib.hid (below_step B8.out bb)
                  have K18 := Lib.hid (K18.out.below bb K18.out.lt)
                  clear hbc bWd bb hS sB rB
                  go_upto_region 30 with fail
                  rw [← hWd, ← hg20]
                  clear hWd hg20
                  go_wp2_with fail
                  have dr := Lib.hid ((Below.refl Wd.heap.size Wd).drew)
                  have rE := Lib.hid (rD.out.below dr.out)
                  have xC := Lib.hid (Kd.C_below xC.out dr.out)
                  have xD := Lib.hid (Kd.C_below xD.out dr.out)
                  have B8 := Lib.hid (below_step B8.out dr.out)
                  have K18 := Lib.hid (K18.out.below dr.out K18.out.lt)
                  refine start_ (n := 22) (S := fun w' => w'.cell? ⟨g18, 0, none⟩ = some (.slice Ax m1.now.length cx) ∧ w'.cell? ⟨g18, 1, none⟩ = some (.slice Bx tg.length dx)) (ds := []) #[false, false, false, false, false, false, false, false, false, false, false, false, false, false, false, false, false, false, false, false, false, false] (by kernel_rfl) rfl rfl ⟨K18.out.cell 0, K18.out.cell 1⟩ (fun hHeld => ?_)
                  refine pure_ (i := 1) (N := some 115) (v := ?_) (a' := ?_) #[false, true, false, false, false, false, false, false, false, false, false, false, false, false, false, false, false, false, false, false, false, false] rfl rfl (by kernel_rfl) (fun _ _ _ h => h) (Or.inl ⟨by rfl, ?_⟩) ?_ ?_
                  rotate_left
                  · intro w'
                    go_simp
                    with_reducible rfl
                  rotate_left
                  · simp only [Act.put, List.setIfInBounds_toArray, List.set_cons_zero, List.set_cons_succ]
                    rfl
                  refine pure_ (i := 2) (N := some 116) (v := ?_) (a' := ?_) #[false, true, true, false, false, false, false, false, false, false, false, false, false, false, false, false, false, false, false, false, false, false] rfl rfl (by kernel_rfl) (fun _ _ _ h => h) (Or.inl ⟨by rfl, ?_⟩) ?_ ?_
                  rotate_left
                  · intro w'
                    go_simp
                    with_reducible rfl
                  rotate_left
                  · simp only [Act.put, List.setIfInBounds_toArray, List.set_cons_zero, List.set_cons_succ]
                    rfl
                  refine take_ (i := 0) (N := some 114) (v := ?_) (a' := ?_) #[true, true, true, false, false, false, false, false, false, false, false, false, false, false, false, false, false, false, false, false, false, false] rfl rfl (by kernel_rfl) (fun _ _ _ h => h) (Or.inl ⟨by rfl, ?_⟩) hHeld ?_ ?_
                  rotate_left
                  · rintro w' ⟨s0, s1⟩
                    go_simp
                    with_reducible rfl
                  rotate_left
                  · simp only [Act.put, List.setIfInBounds_toArray, List.set_cons_zero, List.set_cons_succ]
                    rfl
                  refine one_ (i := 3) (N := some 117) #[true, true, true, true, false, false, false, false, false, false, false, false, false, false, false, false, false, false, false, false, false, false] rfl rfl (by kernel_rfl) (by decide) (fun K hK => ?_)
                  refine goes_ Try.func12 (by kernel_rfl) rfl #[.slice A0 l0.length c0, .slice A1 l1.length c1] (by rfl) rfl rfl (by simp only [List.map_toArray, List.map_cons, List.map_nil]; rfl) ?_
                  with_reducible refine (make_tags A0 c0 l0 A1 c1 l1 _ (Kd.C_below HR0.out B8.out) hc0 (Kd.C_below HR1.out B8.out) k0 a HA.out).mono ?_
                  rintro e x3 ⟨Ay, cy, By, dy, rfl, ⟨y0, y0'⟩, ⟨y1, y1'⟩, _, _, h3⟩
                  rw [← HTG.out] at y0' y1' ⊢
                  have K3 := Lib.hid (K18.out.below h3 K18.out.lt)
                  have r3 := Lib.hid (rE.out.below h3)
                  have B3 := Lib.hid (below_step B8.out h3)
                  refine ⟨_, rfl, ?_⟩
                  refine hK.out _ _ ⟨K3.out.cell 0, K3.out.cell 1⟩ (fun hHeld => ?_)
                  clear hK K
                  refine norm_ (a' := ?_) ?_ ?_
                  rotate_left
                  · show Act.put _ (some 117) _ = _
                    simp only [Act.put, List.setIfInBounds_toArray, List.set_cons_zero, List.set_cons_succ]
                    rfl
                  refine one_ (i := 4) (N := some 118) #[true, true, true, true, true, false, false, false, false, false, false, false, false, false, false, false, false, false, false, false, false, false] rfl rfl (by kernel_rfl) (by decide) (fun K hK => ?_)
                  refine goes_ Try.func18 (by kernel_rfl) rfl #[.agg #[.slice Ax m1.now.length cx, .slice Bx tg.length dx], .agg #[.slice Ay a.length cy, .slice By tg.length dy]] (by rfl) rfl rfl (by simp only [List.map_toArray, List.map_cons, List.map_nil]; rfl) ?_
                  with_reducible refine (sameS _ (Kd.C_below xC.out h3) xa1 (Kd.C_below xD.out h3) xa3 y1 y0 y1' y0' (by omega) (by omega) HN1.out rfl).mono ?_
                  rintro e x4 ⟨rfl, h4⟩
                  have K4 := Lib.hid (K3.out.below h4 K3.out.lt)
                  have r4 := Lib.hid (r3.out.below h4)
                  have B4 := Lib.hid (below_step B3.out h4)
                  refine ⟨_, rfl, ?_⟩
                  refine hK.out _ _ ⟨K4.out.cell 0, K4.out.cell 1⟩ (fun hHeld => ?_)
                  clear hK K
                  refine norm_ (a' := ?_) ?_ ?_
                  rotate_left
                  · show Act.put _ (some 118) _ = _
                    simp only [Act.put, List.setIfInBounds_toArray, List.set_cons_zero, List.set_cons_succ]
                    rfl
                  refine pure_ (i := 5) (N := some 119) (v := ?_) (a' := ?_) #[true, true, true, true, true, true, false, false, false, false, false, false, false, false, false, false, false, false, false, false, false, false] rfl rfl (by kernel_rfl) (fun _ _ _ h => h) (Or.inl ⟨by rfl, ?_⟩) ?_ ?_
                  rotate_left
                  · intro w'
                    go_simp
                    with_reducible rfl
                  rotate_left
                  · simp only [Act.put, List.setIfInBounds_toArray, List.set_cons_zero, List.set_cons_succ]
                    rfl
                  refine pure_ (i := 6) (N := some 120) (v := ?_) (a' := ?_) #[true, true, true, true, true, true, true, false, false, false, false, false, false, false, false, false, false, false, false, false, false, false] rfl rfl (by kernel_rfl) (fun _ _ _ h => h) (Or.inl ⟨by rfl, ?_⟩) ?_ ?_
                  rotate_left
                  · intro w'
                    go_simp
                    with_reducible rfl
                  rotate_left
                  · simp only [Act.put, List.setIfInBounds_toArray, List.set_cons_zero, List.set_cons_succ]
                    rfl
                  refine pure_ (i := 7) (N := some 121) (v := ?_) (a' := ?_) #[true, true, true, true, true, true, true, true, false, false, false, false, false, false, false, false, false, false, false, false, false, false] rfl rfl (by kernel_rfl) (fun _ _ _ h => h) (Or.inl ⟨by rfl, ?_⟩) ?_ ?_
                  rotate_left
                  · intro w'
                    go_simp
                    with_reducible rfl
                  rotate_left
                  · simp only [Act.put, List.setIfInBounds_toArray, List.set_cons_zero, List.set_cons_succ]
                    rfl
                  refine pure_ (i := 8) (N := some 122) (v := ?_) (a' := ?_) #[true, true, true, true, true, true, true, true, true, false, false, false, false, false, false, false, false, false, false, false, false, false] rfl rfl (by kernel_rfl) (fun _ _ _ h => h) (Or.inl ⟨by rfl, ?_⟩) ?_ ?_
                  rotate_left
                  · intro w'
                    go_simp
                    with_reducible rfl
                  rotate_left
                  · simp only [Act.put, List.setIfInBounds_toArray, List.set_cons_zero, List.set_cons_succ]
                    rfl
                  refine pure_ (i := 9) (N := some 123) (v := ?_) (a' := ?_) #[true, true, true, true, true, true, true, true, true, true, false, false, false, false, false, false, false, false, false, false, false, false] rfl rfl (by kernel_rfl) (fun _ _ _ h => h) (Or.inl ⟨by rfl, ?_⟩) ?_ ?_
                  rotate_left
                  · intro w'
                    go_simp
                    with_reducible rfl
                  rotate_left
                  · simp only [Act.put, List.setIfInBounds_toArray, List.set_cons_zero, List.set_cons_succ]
                    rfl
                  refine pure_ (i := 10) (N := some 124) (v := ?_) (a' := ?_) #[true, true, true, true, true, true, true, true, true, true, true, false, false, false, false, false, false, false, false, false, false, false] rfl rfl (by kernel_rfl) (fun _ _ _ h => h) (Or.inl ⟨by rfl, ?_⟩) ?_ ?_
                  rotate_left
                  · intro w'
                    go_simp
                    with_reducible rfl
                  rotate_left
                  · simp only [Act.put, List.setIfInBounds_toArray, List.set_cons_zero, List.set_cons_succ]
                    rfl
                  refine pure_ (i := 11) (N := some 125) (v := ?_) (a' := ?_) #[true, true, true, true, true, true, true, true, true, true, true, true, false, false, false, false, false, false, false, false, false, false] rfl rfl (by kernel_rfl) (fun _ _ _ h => h) (Or.inl ⟨by rfl, ?_⟩) ?_ ?_
                  rotate_left
                  · intro w'
                    go_simp
                    with_reducible rfl
                  rotate_left
                  · simp only [Act.put, List.setIfInBounds_toArray, List.set_cons_zero, List.set_cons_succ]
                    rfl
                  refine pure_ (i := 12) (N := some 126) (v := ?_) (a' := ?_) #[true, true, true, true, true, true, true, true, true, true, true, true, true, false, false, false, false, false, false, false, false, false] rfl rfl (by kernel_rfl) (fun _ _ _ h => h) (Or.inl ⟨by rfl, ?_⟩) ?_ ?_
                  rotate_left
                  · intro w'
                    go_simp
                    with_reducible rfl
                  rotate_left
                  · simp only [Act.put, List.setIfInBounds_toArray, List.set_cons_zero, List.set_cons_succ]
                    rfl
                  refine pure_ (i := 14) (N := some 128) (v := ?_) (a' := ?_) #[true, true, true, true, true, true, true, true, true, true, true, true, true, false, true, false, false, false, false, false, false, false] rfl rfl (by kernel_rfl) (fun _ _ _ h => h) (Or.inl ⟨by rfl, ?_⟩) ?_ ?_
                  rotate_left
                  · intro w'
                    go_simp
                    with_reducible rfl
                  rotate_left
                  · simp only [Act.put, List.setIfInBounds_toArray, List.set_cons_zero, List.set_cons_succ]
                    rfl
                  refine pure_ (i := 16) (N := some 130) (v := ?_) (a' := ?_) #[true, true, true, true, true, true, true, true, true, true, true, true, true, false, true, false, true, false, false, false, false, false] rfl rfl (by kernel_rfl) (fun _ _ _ h => h) (Or.inl ⟨by rfl, ?_⟩) ?_ ?_
                  rotate_left
                  · intro w'
                    go_simp
                    with_reducible rfl
                  rotate_left
                  · simp only [Act.put, List.setIfInBounds_toArray, List.set_cons_zero, List.set_cons_succ]
                    rfl
                  refine pure_ (i := 17) (N := some 131) (v := ?_) (a' := ?_) #[true, true, true, true, true, true, true, true, true, true, true, true, true, false, true, false, true, true, false, false, false, false] rfl rfl (by kernel_rfl) (fun _ _ _ h => h) (Or.inl ⟨by rfl, ?_⟩) ?_ ?_
                  rotate_left
                  · intro w'
                    go_simp
                    with_reducible rfl
                  rotate_left
                  · simp only [Act.put, List.setIfInBounds_toArray, List.set_cons_zero, List.set_cons_succ]
                    rfl
                  refine one_ (i := 13) (N := some 127) #[true, true, true, true, true, true, true, true, true, true, true, true, true, true, true, false, true, true, false, false, false, false] rfl rfl (by kernel_rfl) (by decide) (fun K hK => ?_)
                  refine goes_ Try.func12 (by kernel_rfl) rfl #[.slice A0 l0.length c0, .slice A1 l1.length c1] (by rfl) rfl rfl (by simp only [List.map_toArray, List.map_cons, List.map_nil]; rfl) ?_
                  with_reducible refine (make_tags A0 c0 l0 A1 c1 l1 _ (Kd.C_below HR0.out B4.out) hc0 (Kd.C_below HR1.out B4.out) k0 a HA.out).mono ?_
                  rintro e x5 ⟨As, cs, Bs, ds, rfl, ⟨s0_, s0'⟩, ⟨s1_, s1'⟩, _, _, h5⟩
                  rw [← HTG.out] at s0' s1' ⊢
                  have K5 := Lib.hid (K4.out.below h5 K4.out.lt)
                  have r5 := Lib.hid (r4.out.below h5)
                  have B5 := Lib.hid (below_step B4.out h5)
                  refine ⟨_, rfl, ?_⟩
                  refine hK.out _ _ ⟨K5.out.cell 0, K5.out.cell 1⟩ (fun hHeld => ?_)
                  clear hK K
                  refine norm_ (a' := ?_) ?_ ?_
                  rotate_left
                  · show Act.put _ (some 127) _ = _
                    simp only [Act.put, List.setIfInBounds_toArray, List.set_cons_zero, List.set_cons_succ]
                    rfl
                  refine one_ (i := 15) (N := some 129) #[true, true, true, true, true, true, true, true, true, true, true, true, true, true, true, true, true, true, false, false, false, false] rfl rfl (by kernel_rfl) (by decide) (fun K hK => ?_)
                  refine goes_ Try.func14 (by kernel_rfl) rfl #[.pointer (some ⟨p, 0, none⟩), .string nmFront, .agg #[.slice As a.length cs, .slice Bs tg.length ds], .int .i64 3, .int .i64 wh] (by rfl) rfl rfl (by simp only [List.map_toArray, List.map_cons, List.map_nil]; rfl) ?_
                  with_reducible refine (turnO r5.out HO.out nmFront (by decide) (by decide) As cs a Bs ds tg s1_ s1' TA.out (by omega) 3 wh (by omega) (by omega) (by omega) (by omega)).mono ?_
                  rintro e x6 ⟨Aw, cw, Bw, dw, rfl, ⟨w0_, w0', w1_, w1'⟩, _, _, _, _, h6⟩
                  rw [HM.out] at w0_ w0' ⊢
                  have K6 := Lib.hid (K5.out.chg h6 (by omega))
                  have B6 := Lib.hid (h6.below_of B5.out B5.out.size (fun k hk e => by omega))
                  generalize turnW (some m1) a tg 3 wh = m3 at w0_ w0' HN3 ⊢
                  refine ⟨_, rfl, ?_⟩
                  refine hK.out _ _ ⟨K6.out.cell 0, K6.out.cell 1⟩ (fun hHeld => ?_)
                  clear hK K
                  refine norm_ (a' := ?_) ?_ ?_
                  rotate_left
                  · show Act.put _ (some 129) _ = _
                    simp only [Act.put, List.setIfInBounds_toArray, List.set_cons_zero, List.set_cons_succ]
                    rfl
                  refine one_ (i := 18) (N := some 132) #[true, true, true, true, true, true, true, true, true, true, true, true, true, true, true, true, true, true, true, false, false, false] rfl rfl (by kernel_rfl) (by decide) (fun K hK => ?_)
                  refine goes_ Try.func12 (by kernel_rfl) rfl #[.slice A0 l0.length c0, .slice A1 l1.length c1] (by rfl) rfl rfl (by simp only [List.map_toArray, List.map_cons, List.map_nil]; rfl) ?_
                  with_reducible refine (make_tags A0 c0 l0 A1 c1 l1 _ (Kd.C_below HR0.out B6.out) hc0 (Kd.C_below HR1.out B6.out) k0 a HA.out).mono ?_
                  rintro e x7 ⟨Az, cz, Bz, dz, rfl, ⟨z0_, z0'⟩, ⟨z1_, z1'⟩, _, _, h7⟩
                  rw [← HTG.out] at z0' z1' ⊢
                  have K7 := Lib.hid (K6.out.below h7 K6.out.lt)
                  have B7 := Lib.hid (below_step B6.out h7)
                  refine ⟨_, rfl, ?_⟩
                  refine hK.out _ _ ⟨K7.out.cell 0, K7.out.cell 1⟩ (fun hHeld => ?_)
                  clear hK K
                  refine norm_ (a' := ?_) ?_ ?_
                  rotate_left
                  · show Act.put _ (some 132) _ = _
                    simp only [Act.put, List.setIfInBounds_toArray, List.set_cons_zero, List.set_cons_succ]
                    rfl
                  refine one_ (i := 19) (N := some 133) #[true, true, true, true, true, true, true, true, true, true, true, true, true, true, true, true, true, true, true, true, false, false] rfl rfl (by kernel_rfl) (by decide) (fun K hK => ?_)
                  refine goes_ Try.func18 (by kernel_rfl) rfl #[.agg #[.slice Aw m3.now.length cw, .slice Bw tg.length dw], .agg #[.slice Az a.length cz, .slice Bz tg.length dz]] (by rfl) rfl rfl (by simp only [List.map_toArray, List.map_cons, List.map_nil]; rfl) ?_
                  with_reducible refine (sameS _ (Kd.C_below w0_ h7) w0' (Kd.C_below w1_ h7) w1' z1_ z0_ z1' z0' (by rw [HN3.out]; omega) (by omega) HN3.out rfl).mono ?_
                  rintro e x8 ⟨rfl, h8⟩
                  have K8 := Lib.hid (K7.out.below h8 K7.out.lt)
                  have B9 := Lib.hid (below_step B7.out h8)
                  refine ⟨_, rfl, ?_⟩
                  refine hK.out _ _ ⟨K8.out.cell 0, K8.out.cell 1⟩ (fun hHeld => ?_)
                  clear hK K
                  refine norm_ (a' := ?_) ?_ ?_
                  rotate_left
                  · show Act.put _ (some 133) _ = _
                    simp only [Act.put, List.setIfInBounds_toArray, List.set_cons_zero, List.set_cons_succ]
                    rfl
                  refine pure_ (i := 20) (N := some 134) (v := ?_) (a' := ?_) #[true, true, true, true, true, true, true, true, true, true, true, true, true, true, true, true, true, true, true, true, true, false] rfl rfl (by kernel_rfl) (fun _ _ _ h => h) (Or.inl ⟨by rfl, ?_⟩) ?_ ?_
                  rotate_left
                  · intro w'
                    go_simp
                    with_reducible rfl
                  rotate_left
                  · simp only [Act.put, List.setIfInBounds_toArray, List.set_cons_zero, List.set_cons_succ]
                    rfl
                  refine pure_ (i := 21) (N := some 6) (v := ?_) (a' := ?_) #[true, true, true, true, true, true, true, true, true, true, true, true, true, true, true, true, true, true, true, true, true, true] rfl rfl (by kernel_rfl) (fun _ _ _ h => h) (Or.inl ⟨by rfl, ?_⟩) ?_ ?_
                  rotate_left
                  · intro w'
                    go_simp
                    with_reducible rfl
                  rotate_left
                  · simp only [Act.put, List.setIfInBounds_toArray, List.set_cons_zero, List.set_cons_succ]
                    rfl
                  refine done_ (by kernel_rfl) ?_
                  go_wp2_with fail
                  go_ret
                  exact ⟨rfl, B9.out⟩

end Go.Proofs.Ytnkmpkhiilnigaa.PA
