/- lead's Turn. (Printed by genx.py from turn.src.) -/
import Derived.Test.YtnkmpkhiilnigaaGreatDoorGLead
import Derived.Deep.CutRange
import Derived.Deep.CutBlock
import Derived.Deep.DeepCutAuto
import Derived.IntWalk
import Derived.Test.YtnkmpkhiilnigaaGreatDoorGLMore
namespace Go.Proofs.YtnkmpkhiilnigaaGreatDoor.PA
open Go.RowKit Go.Shelf Go.Lib Go.Sort Go.Proofs.YtnkmpkhiilnigaaGreatDoorW.PrintWords Go.Proofs.YtnkmpkhiilnigaaGreatDoorW.PrintLast

/-- The way that a turn goes on with. -/
def baseW (o : Option WayM) (sh : List S51) (now whole : Int) : WayM :=
  match o with
  | none => ⟨sh, sh, now, whole, [], []⟩
  | some m => if eqL m.dst sh = true ∧ m.whole = whole then m else ⟨m.now, sh, now, whole, [], []⟩
/-- .. and what it is then. -/
def turnW (o : Option WayM) (sh : List S51) (tg : List S83) (now whole : Int) : WayM :=
  { baseW o sh now whole with now := rollL (baseW o sh now whole).fr (baseW o sh now whole).dst (now - (baseW o sh now whole).since) whole, tags := tg }

/-- The way's first four cells, its rows. -/
def Half (w : World) (ok : Nat → Prop) (g : Nat) (m : WayM) : Prop := ∃ A0 c0 A1 c1 x y, Blk w g #[.slice A0 m.fr.length c0, .slice A1 m.dst.length c1, .int .i64 m.since, .int .i64 m.whole, x, y] 99 ∧
  (Kd.C k51 w A0 m.fr.length m.fr ∧ Kd.C k51 w A1 m.dst.length m.dst) ∧ (InOk ok A0 m.fr.length ∧ InOk ok A1 m.dst.length) ∧ x.oneCell' = true ∧ y.oneCell' = true

theorem RowG.inok {w : World} {base : Nat} {A : Option Addr} {c : Nat} {l : List S51} (h : RowG el51 w base (.slice A l.length c) l) : InOk (fun k => base ≤ k) A l.length := fun hp a e => by
  obtain ⟨A', c', he, _, hs⟩ := h.shape
  obtain ⟨g, cur, hA, hg, _⟩ := hs hp
  cases he
  rw [hA] at e
  cases e
  exact hg
theorem RowG.inokT {w : World} {base : Nat} {A : Option Addr} {c : Nat} {l : List S83} (h : RowG el83 w base (.slice A l.length c) l) : InOk (fun k => base ≤ k) A l.length := fun hp a e => by
  obtain ⟨A', c', he, _, hs⟩ := h.shape
  obtain ⟨g, cur, hA, hg, _⟩ := hs hp
  cases he
  rw [hA] at e
  cases e
  exact hg

theorem set6_chg (w : World) (G : Nat) (a b c d e f : Value) : Chg (fun k => k = G) w ((((((w.setCell ⟨G, 0, none⟩ a).setCell ⟨G, 1, none⟩ b).setCell ⟨G, 2, none⟩ c).setCell ⟨G, 3, none⟩ d).setCell ⟨G, 4, none⟩ e).setCell ⟨G, 5, none⟩ f) :=
  ((((((Chg.refl (fun k => k = G) w).setCell (a := ⟨G, 0, none⟩) (fun _ => rfl) _).setCell (a := ⟨G, 1, none⟩) (fun _ => rfl) _).setCell (a := ⟨G, 2, none⟩) (fun _ => rfl) _).setCell (a := ⟨G, 3, none⟩) (fun _ => rfl) _).setCell (a := ⟨G, 4, none⟩) (fun _ => rfl) _).setCell (a := ⟨G, 5, none⟩) (fun _ => rfl) _

/-- A way's block, written whole. -/
theorem half_set {w : World} {ok : Nat → Prop} {G : Nat} {m : WayM} {v0 v1 v2 v3 v4 v5 x y : Value} (kg : Blk w G #[v0, v1, v2, v3, v4, v5] 99) (A0 : Option Addr) (c0 : Nat) (A1 : Option Addr) (c1 : Nat)
    (h0 : Kd.C k51 w A0 m.fr.length m.fr) (h1 : Kd.C k51 w A1 m.dst.length m.dst) (o0 : InOk (fun k => ok k ∧ k ≠ G) A0 m.fr.length) (o1 : InOk (fun k => ok k ∧ k ≠ G) A1 m.dst.length) (hx : x.oneCell' = true) (hy : y.oneCell' = true) :
    Half ((((((w.setCell ⟨G, 0, none⟩ (.slice A0 m.fr.length c0)).setCell ⟨G, 1, none⟩ (.slice A1 m.dst.length c1)).setCell ⟨G, 2, none⟩ (.int .i64 m.since)).setCell ⟨G, 3, none⟩ (.int .i64 m.whole)).setCell ⟨G, 4, none⟩ x).setCell ⟨G, 5, none⟩ y) ok G m := by
  have hc := set6_chg w G (.slice A0 m.fr.length c0) (.slice A1 m.dst.length c1) (.int .i64 m.since) (.int .i64 m.whole) x y
  have k0 := kg.set 0 (.slice A0 m.fr.length c0) (cs' := #[.slice A0 m.fr.length c0, v1, v2, v3, v4, v5]) rfl
  have k1 := k0.set 1 (.slice A1 m.dst.length c1) (cs' := #[.slice A0 m.fr.length c0, .slice A1 m.dst.length c1, v2, v3, v4, v5]) rfl
  have k2 := k1.set 2 (.int .i64 m.since) (cs' := #[.slice A0 m.fr.length c0, .slice A1 m.dst.length c1, .int .i64 m.since, v3, v4, v5]) rfl
  have k3 := k2.set 3 (.int .i64 m.whole) (cs' := #[.slice A0 m.fr.length c0, .slice A1 m.dst.length c1, .int .i64 m.since, .int .i64 m.whole, v4, v5]) rfl
  have k4 := k3.set 4 x (cs' := #[.slice A0 m.fr.length c0, .slice A1 m.dst.length c1, .int .i64 m.since, .int .i64 m.whole, x, v5]) rfl
  have hk := k4.set 5 y (cs' := #[.slice A0 m.fr.length c0, .slice A1 m.dst.length c1, .int .i64 m.since, .int .i64 m.whole, x, y]) rfl
  exact ⟨A0, c0, A1, c1, x, y, hk, ⟨c_chg h0 o0 hc (fun k hk _ => hk.2), c_chg h1 o1 hc (fun k hk _ => hk.2)⟩, ⟨fun hp a e => (o0 hp a e).1, fun hp a e => (o1 hp a e).1⟩, hx, hy⟩

theorem fld0 (A : Option Addr) (n c : Nat) (D : Option Addr) (m g : Nat) (w : World) : (Instr.field 36 (.agg #[.slice A n c, .slice D m g]) 0).run Tryz.prog w = .ok (.slice A n c) w := by kernel_rfl
theorem fld1 (A : Option Addr) (n c : Nat) (D : Option Addr) (m g : Nat) (w : World) : (Instr.field 36 (.agg #[.slice A n c, .slice D m g]) 1).run Tryz.prog w = .ok (.slice D m g) w := by kernel_rfl
attribute [local go_sem high] fld0 fld1

set_option maxRecDepth 100000 in
set_option maxHeartbeats 4000000 in
theorem turn_calls {w : World} {p b : Nat} {ok : Nat → Prop} {M : List UInt8 → Option WayM} (h : RollerAt w p b ok M) (hok : ∀ k, w.heap.size ≤ k → ok k) (name : ByteArray) (hs : name.size ≤ 1000) (hroute : name.data.toList ∈ routes)
    (At : Option Addr) (ct : Nat) (sh : List S51) (Au : Option Addr) (cu : Nat) (tg : List S83) (hsh : Kd.C k51 w At sh.length sh) (htg : Kd.C k83 w Au tg.length tg) (hl0 : sh.length ≤ 1000) (hl1 : tg.length ≤ 1000)
    (now whole : Int) (hn0 : -1000000000 ≤ now) (hn1 : now ≤ 1000000000) (hw1 : whole ≤ 1000000000)
    (hf0 : Fine (baseW (M name.data.toList) sh now whole).fr) (hf1 : Fine (baseW (M name.data.toList) sh now whole).dst) (hs0 : -1000000000 ≤ (baseW (M name.data.toList) sh now whole).since) (hs1 : (baseW (M name.data.toList) sh now whole).since ≤ 1000000000)
    (hlr : (turnW (M name.data.toList) sh tg now whole).now.length ≤ 1000) (hlm : ∀ m, M name.data.toList = some m → m.dst.length ≤ 1000) :
    Calls Tryz.prog 13 #[.pointer (some ⟨p, 0, none⟩), .string name, .agg #[.slice At sh.length ct, .slice Au tg.length cu], .int .i64 now, .int .i64 whole] w fun e w' => ∃ v0 v1, e = .returned (.agg #[v0, v1]) ∧ RowG el51 w' w.heap.size v0 (turnW (M name.data.toList) sh tg now whole).now ∧ RowG el83 w' w.heap.size v1 tg ∧
      RollerAt w' p b (fun k => ok k ∧ v0.ownBlock ≠ some k ∧ v1.ownBlock ≠ some k) (setWay name.data.toList (some (turnW (M name.data.toList) sh tg now whole)) M) ∧ Chg (fun k => k = b) w w' := by
  have HR := Lib.hid h
  obtain ⟨hb, hne, hap, S, f, hS, hm, hMS, hW⟩ := h
  have c0 := hb.cell 0
  have hpl := hb.lt
  simp only [List.getElem?_toArray, List.getElem?_cons_zero] at c0
  -- what is looked up
  obtain ⟨is, A0, n0, d0, A1, n1, d1, si, wh, A2, n2, d2, A3, n3, d3, his, hx, hcase⟩ : ∃ (is : Bool) (A0 : Option Addr) (n0 d0 : Nat) (A1 : Option Addr) (n1 d1 : Nat) (si wh : Int) (A2 : Option Addr) (n2 d2 : Nat) (A3 : Option Addr) (n3 d3 : Nat), decide (name.data.toList ∈ S) = is ∧ (if name.data.toList ∈ S then f name.data.toList else .agg #[.slice none 0 0, .slice none 0 0, .int .i64 0, .int .i64 0, .slice none 0 0, .slice none 0 0]) = .agg #[.slice A0 n0 d0, .slice A1 n1 d1, .int .i64 si, .int .i64 wh, .slice A2 n2 d2, .slice A3 n3 d3] ∧
      Hid ((is = false ∧ M name.data.toList = none) ∨ ∃ m, is = true ∧ M name.data.toList = some m ∧ (n0 = m.fr.length ∧ n1 = m.dst.length ∧ si = m.since ∧ wh = m.whole ∧ n2 = m.now.length ∧ n3 = m.tags.length) ∧
        (Kd.C k51 w A0 m.fr.length m.fr ∧ Kd.C k51 w A1 m.dst.length m.dst ∧ Kd.C k51 w A2 m.now.length m.now ∧ Kd.C k83 w A3 m.tags.length m.tags) ∧ (InOk ok A0 m.fr.length ∧ InOk ok A1 m.dst.length ∧ InOk ok A2 m.now.length ∧ InOk ok A3 m.tags.length)) := by
    cases hM : M name.data.toList with
    | none =>
      have hno : name.data.toList ∉ S := fun hin => by have := (hMS _).1 hin; rw [hM] at this; cases this
      exact ⟨false, none, 0, 0, none, 0, 0, 0, 0, none, 0, 0, none, 0, 0, decide_eq_false hno, if_neg hno, Lib.hid (.inl ⟨rfl, rfl⟩)⟩
    | some m =>
      have hin : name.data.toList ∈ S := (hMS _).2 (by rw [hM]; rfl)
      obtain ⟨A0, d0, A1, d1, A2, d2, A3, d3, hv, hC, hO⟩ := hW _ _ hM
      exact ⟨true, _, _, _, _, _, _, _, _, _, _, _, _, _, _, decide_eq_true hin, (if_pos hin).trans hv, Lib.hid (.inr ⟨m, rfl, rfl, ⟨rfl, rfl, rfl, rfl, rfl, rfl⟩, hC, hO⟩)⟩
  have HIS := Lib.hid his
  have HX := Lib.hid hx
  have HSH := Lib.hid hsh
  have HTG := Lib.hid htg
  have HF0 := Lib.hid hf0
  have HF1 := Lib.hid hf1
  have HLR := Lib.hid hlr
  have HLM := Lib.hid hlm
  have HMS := Lib.hid hMS
  have HW := Lib.hid hW
  have HOK := Lib.hid hok
  have hbl := hm.lt
  obtain ⟨W0, hW0⟩ : ∃ W0, W0 = ((w.alloc (.cells #[.slice At sh.length ct, .slice Au tg.length cu] 36)).alloc (.cells #[.slice none 0 0, .slice none 0 0] 36)) := ⟨_, rfl⟩
  have bW0 : Below w.heap.size w W0 := by rw [hW0]; exact ((Below.refl _ _).alloc (Nat.le_refl _) _).alloc (by simp) _
  have k7 : Blk W0 w.heap.size #[.slice At sh.length ct, .slice Au tg.length cu] 36 := by rw [hW0]; exact (Blk.new w _ _).alloc _
  have k10 : Blk W0 (w.heap.size + 1) #[.slice none 0 0, .slice none 0 0] 36 := by
    rw [hW0]
    have := Blk.new (w.alloc (.cells #[.slice At sh.length ct, .slice Au tg.length cu] 36)) #[.slice none 0 0, .slice none 0 0] 36
    simpa using this
  have zW0 : w.heap.size + 2 = W0.heap.size := by rw [hW0]; simp
  have hm0 := Lib.hid (hm.same (bW0.block b hbl))
  have HM := Lib.hid hm
  have hb0 := hb.below bW0 hpl
  have c00 := hb0.cell 0
  simp only [List.getElem?_toArray, List.getElem?_cons_zero] at c00
  clear his hx hsh htg hf0 hf1 hlr hlm hMS hW hok hm c0 hb0
  have HW0 := Lib.hid hW0
  clear hW0
  have K7 := Lib.hid k7
  have K10 := Lib.hid k10
  have BW0 := Lib.hid bW0
  clear k7 k10 bW0
  go_enter Tryz.func13, Tryz.ntmps13
  go_upto_region 1 with fail
  rw [← HW0.out]
  clear HW0
  go_upto_block 0 with (at_lookup; refine wpList_lookokM _ rfl _ _ 95 rfl 9 99 Tryz.underlying9 Tryz.underlying95 _ (zeroWay _) b S f rfl hm0.out name rfl (by unfold maxLen; omega) is HIS.out _ HX.out ?_)
  obtain ⟨G, hG⟩ : ∃ G, G = W0.heap.size := ⟨_, rfl⟩
  obtain ⟨W1, hW1⟩ : ∃ W1, W1 = W0.alloc (.cells #[.slice A0 n0 d0, .slice A1 n1 d1, .int .i64 si, .int .i64 wh, .slice A2 n2 d2, .slice A3 n3 d3] 99) := ⟨_, rfl⟩
  have kG : Blk W1 G #[.slice A0 n0 d0, .slice A1 n1 d1, .int .i64 si, .int .i64 wh, .slice A2 n2 d2, .slice A3 n3 d3] 99 := by rw [hW1, hG]; exact Blk.new _ _ _
  have bW1 : Below W0.heap.size W0 W1 := by rw [hW1]; exact (Below.refl _ _).alloc (Nat.le_refl _) _
  have zW1 : G < W1.heap.size := kG.lt
  have zB0 : w.heap.size < W1.heap.size := by omega
  have zB1 : w.heap.size + 1 < W1.heap.size := by omega
  have BW1 := Lib.hid (BW0.out.trans (bW1.mono BW0.out.size))
  have K7 := Lib.hid (K7.out.below bW1 (by omega))
  have K10 := Lib.hid (K10.out.below bW1 (by omega))
  have KG := Lib.hid kG
  have zG : w.heap.size + 2 = G := by omega
  rw [← hW1, ← hG]
  clear hW1 hG kG bW1 zW0 BW0 hm0 c00
  go_cut [] from 22 to 55 (fun wx => Hid (Half wx (fun k => ok k ∧ (k < w.heap.size ∨ G < k)) G (baseW (M name.data.toList) sh now whole) ∧ Blk wx w.heap.size #[.slice At sh.length ct, .slice Au tg.length cu] 36 ∧ Blk wx (w.heap.size + 1) #[.slice none 0 0, .slice none 0 0] 36 ∧ Below w.heap.size w wx))
  case first =>
    rcases hcase.out with ⟨rfl, hM⟩ | ⟨m, rfl, hM, ⟨rfl, rfl, rfl, rfl, rfl, rfl⟩, hC, hO⟩
    · have HMN := Lib.hid hM
      clear hM hcase HIS HX
      go_wp2_with fail
      have b0_ := Lib.hid ((Below.refl W1.heap.size W1).drew)
      refine start_ (n := 10) (S := fun w' => w'.cell? ⟨w.heap.size, 0, none⟩ = some (.slice At sh.length ct) ∧ w'.cell? ⟨w.heap.size, 1, none⟩ = some (.slice Au tg.length cu)) (ds := [9]) #[false, false, false, false, false, false, false, false, false, false] (by kernel_rfl) rfl rfl ⟨K7.out.cell 0, K7.out.cell 1⟩ (fun hHeld => ?_)
      refine pure_ (i := 6) (N := some 31) (v := ?_) (a' := ?_) #[false, false, false, false, false, false, true, false, false, false] rfl rfl (by kernel_rfl) (fun _ _ _ h => h) (Or.inl ⟨by rfl, ?_⟩) ?_ ?_
      rotate_left
      · intro w'
        go_simp
        with_reducible rfl
      rotate_left
      · simp only [Act.put, List.setIfInBounds_toArray, List.set_cons_zero, List.set_cons_succ]
        rfl
      refine pure_ (i := 7) (N := some 32) (v := ?_) (a' := ?_) #[false, false, false, false, false, false, true, true, false, false] rfl rfl (by kernel_rfl) (fun _ _ _ h => h) (Or.inl ⟨by rfl, ?_⟩) ?_ ?_
      rotate_left
      · intro w'
        go_simp
        with_reducible rfl
      rotate_left
      · simp only [Act.put, List.setIfInBounds_toArray, List.set_cons_zero, List.set_cons_succ]
        rfl
      refine take_ (i := 0) (N := some 25) (v := ?_) (a' := ?_) #[true, false, false, false, false, false, true, true, false, false] rfl rfl (by kernel_rfl) (fun _ _ _ h => h) (Or.inl ⟨by rfl, ?_⟩) hHeld ?_ ?_
      rotate_left
      · rintro w' ⟨s0, s1⟩
        go_simp
        with_reducible rfl
      rotate_left
      · simp only [Act.put, List.setIfInBounds_toArray, List.set_cons_zero, List.set_cons_succ]
        rfl
      refine take_ (i := 3) (N := some 28) (v := ?_) (a' := ?_) #[true, false, false, true, false, false, true, true, false, false] rfl rfl (by kernel_rfl) (fun _ _ _ h => h) (Or.inl ⟨by rfl, ?_⟩) hHeld ?_ ?_
      rotate_left
      · rintro w' ⟨s0, s1⟩
        go_simp
        with_reducible rfl
      rotate_left
      · simp only [Act.put, List.setIfInBounds_toArray, List.set_cons_zero, List.set_cons_succ]
        rfl
      refine one_ (i := 1) (N := some 26) #[true, true, false, true, false, false, true, true, false, false] rfl rfl (by kernel_rfl) (by decide) (fun K hK => ?_)
      refine goes_ Tryz.func26 (by kernel_rfl) rfl #[.agg #[.slice At sh.length ct, .slice Au tg.length cu]] (by rfl) rfl rfl (by simp only [List.map_toArray, List.map_cons, List.map_nil]; rfl) ?_
      with_reducible refine (own_calls At ct sh Au cu tg _ (Kd.C_below (Kd.C_below HSH.out BW1.out) b0_.out) (Kd.C_below (Kd.C_below HTG.out BW1.out) b0_.out) hl0 hl1).mono ?_
      rintro e w5 ⟨v5, u5, rfl, r5, t5, h5⟩
      obtain ⟨A5, c5, rfl, _, hC5⟩ := RowG.toC r5
      obtain ⟨D5, g5, rfl, _, hD5⟩ := RowG.toCT t5
      clear hD5
      have b5 := Lib.hid (below_step b0_.out h5)
      have HI5 := Lib.hid (RowG.inok r5)
      have HC5 := Lib.hid hC5
      clear hC5
      refine ⟨_, rfl, ?_⟩
      refine hK.out _ _ ⟨(b5.out.cell (p := ⟨w.heap.size, 0, none⟩) zB0).trans (K7.out.cell 0), (b5.out.cell (p := ⟨w.heap.size, 1, none⟩) zB0).trans (K7.out.cell 1)⟩ (fun hHeld => ?_)
      clear hK K
      refine norm_ (a' := ?_) ?_ ?_
      rotate_left
      · show Act.put _ (some 26) _ = _
        simp only [Act.put, List.setIfInBounds_toArray, List.set_cons_zero, List.set_cons_succ]
        rfl
      refine pure_ (i := 2) (N := some 27) (v := ?_) (a' := ?_) #[true, true, true, true, false, false, true, true, false, false] rfl rfl (by kernel_rfl) (fun _ _ _ h => h) (Or.inl ⟨by rfl, ?_⟩) ?_ ?_
      rotate_left
      · intro w'
        go_simp
        with_reducible rfl
      rotate_left
      · simp only [Act.put, List.setIfInBounds_toArray, List.set_cons_zero, List.set_cons_succ]
        rfl
      refine one_ (i := 4) (N := some 29) #[true, true, true, true, true, false, true, true, false, false] rfl rfl (by kernel_rfl) (by decide) (fun K hK => ?_)
      refine goes_ Tryz.func26 (by kernel_rfl) rfl #[.agg #[.slice At sh.length ct, .slice Au tg.length cu]] (by rfl) rfl rfl (by simp only [List.map_toArray, List.map_cons, List.map_nil]; rfl) ?_
      with_reducible refine (own_calls At ct sh Au cu tg _ (Kd.C_below (Kd.C_below HSH.out BW1.out) b5.out) (Kd.C_below (Kd.C_below HTG.out BW1.out) b5.out) hl0 hl1).mono ?_
      rintro e w6 ⟨v6, u6, rfl, r6, t6, h6⟩
      obtain ⟨A6, c6, rfl, _, hC6⟩ := RowG.toC r6
      obtain ⟨D6, g6, rfl, _, hD6⟩ := RowG.toCT t6
      clear hD6
      have b6 := Lib.hid (below_step b5.out h6)
      have HI6 := Lib.hid (RowG.inok r6)
      have HC6 := Lib.hid hC6
      clear hC6
      refine ⟨_, rfl, ?_⟩
      refine hK.out _ _ ⟨(b6.out.cell (p := ⟨w.heap.size, 0, none⟩) zB0).trans (K7.out.cell 0), (b6.out.cell (p := ⟨w.heap.size, 1, none⟩) zB0).trans (K7.out.cell 1)⟩ (fun hHeld => ?_)
      clear hK K
      refine norm_ (a' := ?_) ?_ ?_
      rotate_left
      · show Act.put _ (some 29) _ = _
        simp only [Act.put, List.setIfInBounds_toArray, List.set_cons_zero, List.set_cons_succ]
        rfl
      refine pure_ (i := 5) (N := some 30) (v := ?_) (a' := ?_) #[true, true, true, true, true, true, true, true, false, false] rfl rfl (by kernel_rfl) (fun _ _ _ h => h) (Or.inl ⟨by rfl, ?_⟩) ?_ ?_
      rotate_left
      · intro w'
        go_simp
        with_reducible rfl
      rotate_left
      · simp only [Act.put, List.setIfInBounds_toArray, List.set_cons_zero, List.set_cons_succ]
        rfl
      refine pure_ (i := 8) (N := some 33) (v := ?_) (a' := ?_) #[true, true, true, true, true, true, true, true, true, false] rfl rfl (by kernel_rfl) (fun _ _ _ h => h) (Or.inl ⟨by rfl, ?_⟩) ?_ ?_
      rotate_left
      · intro w'
        go_simp
        with_reducible rfl
      rotate_left
      · simp only [Act.put, List.setIfInBounds_toArray, List.set_cons_zero, List.set_cons_succ]
        rfl
      refine last_ (i := 9) (N := none) #[true, true, true, true, true, true, true, true, true, true] rfl rfl (by kernel_rfl) (by decide) (fun K hK => ?_)
      have kg := KG.out.below b6.out zW1
      have e0 := kg.cell 0
      have e1 := kg.cell 1
      have e2 := kg.cell 2
      have e3 := kg.cell 3
      have e4 := kg.cell 4
      have e5 := kg.cell 5
      simp only [List.getElem?_toArray, List.getElem?_cons_zero, List.getElem?_cons_succ] at e0 e1 e2 e3 e4 e5
      have f0 := kg.frozen 0
      have f1 := kg.frozen 1
      have f2 := kg.frozen 2
      have f3 := kg.frozen 3
      have f4 := kg.frozen 4
      have f5 := kg.frozen 5
      refine skip_ (w1 := ?_) (by rfl) rfl ?_ ?_
      rotate_left
      · go_simp
        rfl
      refine hK.out _ _ ?_
      clear hK K
      refine done_ (by kernel_rfl) ?_
      go_wp2_with fail
      go_meet
      have hbm : baseW (M name.data.toList) sh now whole = ⟨sh, sh, now, whole, [], []⟩ := by rw [HMN.out]; rfl
      have hc9 := set6_chg w6 G (.slice A5 sh.length c5) (.slice A6 sh.length c6) (.int .i64 now) (.int .i64 whole) (.slice none 0 0) (.slice none 0 0)
      refine Lib.hid ⟨?_, (K7.out.below b6.out zB0).chg hc9 (fun e => by omega), (K10.out.below b6.out zB1).chg hc9 (fun e => by omega), hc9.below_of (BW1.out.trans (b6.out.mono BW1.out.size)) (by have := b6.out.size; omega) (fun k hk e => by omega)⟩
      rw [hbm]
      exact half_set (m := ⟨sh, sh, now, whole, [], []⟩) kg A5 c5 A6 c6 (Kd.C_below HC5.out h6) HC6.out (HI5.out.mono (fun k hk _ _ _ _ => ⟨⟨HOK.out k (by have := BW1.out.size; have := b0_.out.size; omega), .inr (by have := b0_.out.size; omega)⟩, by have := b0_.out.size; omega⟩)) (HI6.out.mono (fun k hk _ _ _ _ => ⟨⟨HOK.out k (by have := BW1.out.size; have := b5.out.size; omega), .inr (by have := b5.out.size; omega)⟩, by have := b5.out.size; omega⟩)) rfl rfl
    · have HMN := Lib.hid hM
      have HC := Lib.hid hC
      have HO := Lib.hid hO
      clear hM hcase HIS HX hC hO
      have heq := equal_calls A1 d1 m.dst At ct sh W1 (Kd.C_below HC.out.2.1 BW1.out) (Kd.C_below HSH.out BW1.out) (Nat.le_trans (HLM.out m HMN.out) (by omega)) (by omega)
      by_cases hq : eqL m.dst sh = true
      · rw [hq] at heq
        have HEQ := Lib.hid heq
        have HQ := Lib.hid hq
        clear heq hq
        have kc1 := KG.out.cell 1
        have kc3 := KG.out.cell 3
        have kc7 := K7.out.cell 0
        simp only [List.getElem?_toArray, List.getElem?_cons_zero, List.getElem?_cons_succ] at kc1 kc3 kc7
        by_cases hwh : m.whole = whole
        · have hne_ : (m.whole != whole) = false := by simp [hwh]
          have HWH := Lib.hid hwh
          clear hwh
          go_wp2_with fail
          refine HEQ.out.mono ?_
          rintro e w5 ⟨rfl, nq, rfl⟩
          go_wp2_with fail
          go_meet
          have hbm : baseW (M name.data.toList) sh now whole = m := by rw [HMN.out]; exact if_pos ⟨HQ.out, HWH.out⟩
          have bn := ((⟨⟨nq, rfl⟩⟩ : Drawn0 W1 (W1.drewN nq)).below)
          refine Lib.hid ⟨?_, K7.out.below bn zB0, K10.out.below bn zB1, BW1.out.trans (bn.mono BW1.out.size)⟩
          rw [hbm]
          exact ⟨A0, d0, A1, d1, _, _, KG.out.below bn zW1, ⟨Kd.C_below (Kd.C_below HC.out.1 BW1.out) bn, Kd.C_below (Kd.C_below HC.out.2.1 BW1.out) bn⟩, ⟨fun hp a e => ⟨HO.out.1 hp a e, .inl (share_lt HC.out.1 hp a e)⟩, fun hp a e => ⟨HO.out.2.1 hp a e, .inl (share_lt HC.out.2.1 hp a e)⟩⟩, rfl, rfl⟩
        · have hnb : (m.whole != whole) = true := by simp [hwh]
          have hne_ := Lib.hid (show ¬ (eqL m.dst sh = true ∧ m.whole = whole) from fun h => hwh h.2)
          clear hwh
          go_wp2_with fail
          refine HEQ.out.mono ?_
          rintro e w5 ⟨rfl, nq, rfl⟩
          go_wp2_with fail
          have b0_ := Lib.hid (((⟨⟨nq, rfl⟩⟩ : Drawn0 W1 (W1.drewN nq)).below).drew)
          have kn := Lib.hid (KG.out.below ((⟨⟨nq, rfl⟩⟩ : Drawn0 W1 (W1.drewN nq)).below) zW1)
          refine start_ (n := 10) (S := fun w' => w'.cell? ⟨w.heap.size, 0, none⟩ = some (.slice At sh.length ct) ∧ w'.cell? ⟨w.heap.size, 1, none⟩ = some (.slice Au tg.length cu) ∧ w'.cell? ⟨G, 4, none⟩ = some (.slice A2 m.now.length d2)) (ds := [9]) #[false, false, false, false, false, false, false, false, false, false] (by kernel_rfl) rfl rfl ⟨K7.out.cell 0, K7.out.cell 1, KG.out.cell 4⟩ (fun hHeld => ?_)
          refine pure_ (i := 0) (N := some 47) (v := ?_) (a' := ?_) #[true, false, false, false, false, false, false, false, false, false] rfl rfl (by kernel_rfl) (fun _ _ _ h => h) (Or.inl ⟨by rfl, ?_⟩) ?_ ?_
          rotate_left
          · intro w'
            go_simp
            with_reducible rfl
          rotate_left
          · simp only [Act.put, List.setIfInBounds_toArray, List.set_cons_zero, List.set_cons_succ]
            rfl
          refine pure_ (i := 1) (N := some 48) (v := ?_) (a' := ?_) #[true, true, false, false, false, false, false, false, false, false] rfl rfl (by kernel_rfl) (fun _ _ _ h => h) (Or.inl ⟨by rfl, ?_⟩) ?_ ?_
          rotate_left
          · intro w'
            go_simp
            with_reducible rfl
          rotate_left
          · simp only [Act.put, List.setIfInBounds_toArray, List.set_cons_zero, List.set_cons_succ]
            rfl
          refine pure_ (i := 6) (N := some 53) (v := ?_) (a' := ?_) #[true, true, false, false, false, false, true, false, false, false] rfl rfl (by kernel_rfl) (fun _ _ _ h => h) (Or.inl ⟨by rfl, ?_⟩) ?_ ?_
          rotate_left
          · intro w'
            go_simp
            with_reducible rfl
          rotate_left
          · simp only [Act.put, List.setIfInBounds_toArray, List.set_cons_zero, List.set_cons_succ]
            rfl
          refine pure_ (i := 7) (N := some 54) (v := ?_) (a' := ?_) #[true, true, false, false, false, false, true, true, false, false] rfl rfl (by kernel_rfl) (fun _ _ _ h => h) (Or.inl ⟨by rfl, ?_⟩) ?_ ?_
          rotate_left
          · intro w'
            go_simp
            with_reducible rfl
          rotate_left
          · simp only [Act.put, List.setIfInBounds_toArray, List.set_cons_zero, List.set_cons_succ]
            rfl
          refine take_ (i := 2) (N := some 49) (v := ?_) (a' := ?_) #[true, true, true, false, false, false, true, true, false, false] rfl rfl (by kernel_rfl) (fun _ _ _ h => h) (Or.inl ⟨by rfl, ?_⟩) hHeld ?_ ?_
          rotate_left
          · rintro w' ⟨s0, s1, s2⟩
            go_simp
            with_reducible rfl
          rotate_left
          · simp only [Act.put, List.setIfInBounds_toArray, List.set_cons_zero, List.set_cons_succ]
            rfl
          refine take_ (i := 3) (N := some 50) (v := ?_) (a' := ?_) #[true, true, true, true, false, false, true, true, false, false] rfl rfl (by kernel_rfl) (fun _ _ _ h => h) (Or.inl ⟨by rfl, ?_⟩) hHeld ?_ ?_
          rotate_left
          · rintro w' ⟨s0, s1, s2⟩
            go_simp
            with_reducible rfl
          rotate_left
          · simp only [Act.put, List.setIfInBounds_toArray, List.set_cons_zero, List.set_cons_succ]
            rfl
          refine one_ (i := 4) (N := some 51) #[true, true, true, true, true, false, true, true, false, false] rfl rfl (by kernel_rfl) (by decide) (fun K hK => ?_)
          refine goes_ Tryz.func26 (by kernel_rfl) rfl #[.agg #[.slice At sh.length ct, .slice Au tg.length cu]] (by rfl) rfl rfl (by simp only [List.map_toArray, List.map_cons, List.map_nil]; rfl) ?_
          with_reducible refine (own_calls At ct sh Au cu tg _ (Kd.C_below (Kd.C_below HSH.out BW1.out) b0_.out) (Kd.C_below (Kd.C_below HTG.out BW1.out) b0_.out) hl0 hl1).mono ?_
          rintro e w5 ⟨v5, u5, rfl, r5, t5, h5⟩
          obtain ⟨A5, c5, rfl, _, hC5⟩ := RowG.toC r5
          obtain ⟨D5, g5, rfl, _, hD5⟩ := RowG.toCT t5
          clear hD5
          have b5 := Lib.hid (below_step b0_.out h5)
          have HI5 := Lib.hid (RowG.inok r5)
          have HC5 := Lib.hid hC5
          clear hC5
          refine ⟨_, rfl, ?_⟩
          refine hK.out _ _ ⟨(b5.out.cell (p := ⟨w.heap.size, 0, none⟩) zB0).trans (K7.out.cell 0), (b5.out.cell (p := ⟨w.heap.size, 1, none⟩) zB0).trans (K7.out.cell 1), (b5.out.cell (p := ⟨G, 4, none⟩) zW1).trans (KG.out.cell 4)⟩ (fun hHeld => ?_)
          clear hK K
          refine norm_ (a' := ?_) ?_ ?_
          rotate_left
          · show Act.put _ (some 51) _ = _
            simp only [Act.put, List.setIfInBounds_toArray, List.set_cons_zero, List.set_cons_succ]
            rfl
          refine pure_ (i := 5) (N := some 52) (v := ?_) (a' := ?_) #[true, true, true, true, true, true, true, true, false, false] rfl rfl (by kernel_rfl) (fun _ _ _ h => h) (Or.inl ⟨by rfl, ?_⟩) ?_ ?_
          rotate_left
          · intro w'
            go_simp
            with_reducible rfl
          rotate_left
          · simp only [Act.put, List.setIfInBounds_toArray, List.set_cons_zero, List.set_cons_succ]
            rfl
          refine pure_ (i := 8) (N := some 55) (v := ?_) (a' := ?_) #[true, true, true, true, true, true, true, true, true, false] rfl rfl (by kernel_rfl) (fun _ _ _ h => h) (Or.inl ⟨by rfl, ?_⟩) ?_ ?_
          rotate_left
          · intro w'
            go_simp
            with_reducible rfl
          rotate_left
          · simp only [Act.put, List.setIfInBounds_toArray, List.set_cons_zero, List.set_cons_succ]
            rfl
          refine last_ (i := 9) (N := none) #[true, true, true, true, true, true, true, true, true, true] rfl rfl (by kernel_rfl) (by decide) (fun K hK => ?_)
          have kg := KG.out.below b5.out zW1
          have e0 := kg.cell 0
          have e1 := kg.cell 1
          have e2 := kg.cell 2
          have e3 := kg.cell 3
          have e4 := kg.cell 4
          have e5 := kg.cell 5
          simp only [List.getElem?_toArray, List.getElem?_cons_zero, List.getElem?_cons_succ] at e0 e1 e2 e3 e4 e5
          have f0 := kg.frozen 0
          have f1 := kg.frozen 1
          have f2 := kg.frozen 2
          have f3 := kg.frozen 3
          have f4 := kg.frozen 4
          have f5 := kg.frozen 5
          refine skip_ (w1 := ?_) (by rfl) rfl ?_ ?_
          rotate_left
          · go_simp
            rfl
          refine hK.out _ _ ?_
          clear hK K
          refine done_ (by kernel_rfl) ?_
          go_wp2_with fail
          go_meet
          have hbm : baseW (M name.data.toList) sh now whole = ⟨m.now, sh, now, whole, [], []⟩ := by rw [HMN.out]; exact if_neg hne_.out
          have hc9 := set6_chg w5 G (.slice A2 m.now.length d2) (.slice A5 sh.length c5) (.int .i64 now) (.int .i64 whole) (.slice none 0 0) (.slice none 0 0)
          refine Lib.hid ⟨?_, (K7.out.below b5.out zB0).chg hc9 (fun e => by omega), (K10.out.below b5.out zB1).chg hc9 (fun e => by omega), hc9.below_of (BW1.out.trans (b5.out.mono BW1.out.size)) (by have := b5.out.size; omega) (fun k hk e => by omega)⟩
          rw [hbm]
          exact half_set (m := ⟨m.now, sh, now, whole, [], []⟩) kg A2 d2 A5 c5 (Kd.C_below (Kd.C_below HC.out.2.2.1 BW1.out) b5.out) HC5.out (fun hp a e => ⟨⟨HO.out.2.2.1 hp a e, .inl (share_lt HC.out.2.2.1 hp a e)⟩, by have := share_lt HC.out.2.2.1 hp a e; omega⟩) (HI5.out.mono (fun k hk _ _ _ _ => ⟨⟨HOK.out k (by have := BW1.out.size; have := b0_.out.size; omega), .inr (by have := b0_.out.size; omega)⟩, by have := b0_.out.size; omega⟩)) rfl rfl
      · have hq' : eqL m.dst sh = false := by simpa using hq
        have hne_ := Lib.hid (show ¬ (eqL m.dst sh = true ∧ m.whole = whole) from fun h => hq h.1)
        rw [hq'] at heq
        have HEQ := Lib.hid heq
        clear heq hq hq'
        have kc1 := KG.out.cell 1
        have kc3 := KG.out.cell 3
        have kc7 := K7.out.cell 0
        simp only [List.getElem?_toArray, List.getElem?_cons_zero, List.getElem?_cons_succ] at kc1 kc3 kc7
        go_wp2_with fail
        refine HEQ.out.mono ?_
        rintro e w5 ⟨rfl, nq, rfl⟩
        go_wp2_with fail
        have b0_ := Lib.hid (((⟨⟨nq, rfl⟩⟩ : Drawn0 W1 (W1.drewN nq)).below).drew)
        have kn := Lib.hid (KG.out.below ((⟨⟨nq, rfl⟩⟩ : Drawn0 W1 (W1.drewN nq)).below) zW1)
        refine start_ (n := 10) (S := fun w' => w'.cell? ⟨w.heap.size, 0, none⟩ = some (.slice At sh.length ct) ∧ w'.cell? ⟨w.heap.size, 1, none⟩ = some (.slice Au tg.length cu) ∧ w'.cell? ⟨G, 4, none⟩ = some (.slice A2 m.now.length d2)) (ds := [9]) #[false, false, false, false, false, false, false, false, false, false] (by kernel_rfl) rfl rfl ⟨K7.out.cell 0, K7.out.cell 1, KG.out.cell 4⟩ (fun hHeld => ?_)
        refine pure_ (i := 0) (N := some 47) (v := ?_) (a' := ?_) #[true, false, false, false, false, false, false, false, false, false] rfl rfl (by kernel_rfl) (fun _ _ _ h => h) (Or.inl ⟨by rfl, ?_⟩) ?_ ?_
        rotate_left
        · intro w'
          go_simp
          with_reducible rfl
        rotate_left
        · simp only [Act.put, List.setIfInBounds_toArray, List.set_cons_zero, List.set_cons_succ]
          rfl
        refine pure_ (i := 1) (N := some 48) (v := ?_) (a' := ?_) #[true, true, false, false, false, false, false, false, false, false] rfl rfl (by kernel_rfl) (fun _ _ _ h => h) (Or.inl ⟨by rfl, ?_⟩) ?_ ?_
        rotate_left
        · intro w'
          go_simp
          with_reducible rfl
        rotate_left
        · simp only [Act.put, List.setIfInBounds_toArray, List.set_cons_zero, List.set_cons_succ]
          rfl
        refine pure_ (i := 6) (N := some 53) (v := ?_) (a' := ?_) #[true, true, false, false, false, false, true, false, false, false] rfl rfl (by kernel_rfl) (fun _ _ _ h => h) (Or.inl ⟨by rfl, ?_⟩) ?_ ?_
        rotate_left
        · intro w'
          go_simp
          with_reducible rfl
        rotate_left
        · simp only [Act.put, List.setIfInBounds_toArray, List.set_cons_zero, List.set_cons_succ]
          rfl
        refine pure_ (i := 7) (N := some 54) (v := ?_) (a' := ?_) #[true, true, false, false, false, false, true, true, false, false] rfl rfl (by kernel_rfl) (fun _ _ _ h => h) (Or.inl ⟨by rfl, ?_⟩) ?_ ?_
        rotate_left
        · intro w'
          go_simp
          with_reducible rfl
        rotate_left
        · simp only [Act.put, List.setIfInBounds_toArray, List.set_cons_zero, List.set_cons_succ]
          rfl
        refine take_ (i := 2) (N := some 49) (v := ?_) (a' := ?_) #[true, true, true, false, false, false, true, true, false, false] rfl rfl (by kernel_rfl) (fun _ _ _ h => h) (Or.inl ⟨by rfl, ?_⟩) hHeld ?_ ?_
        rotate_left
        · rintro w' ⟨s0, s1, s2⟩
          go_simp
          with_reducible rfl
        rotate_left
        · simp only [Act.put, List.setIfInBounds_toArray, List.set_cons_zero, List.set_cons_succ]
          rfl
        refine take_ (i := 3) (N := some 50) (v := ?_) (a' := ?_) #[true, true, true, true, false, false, true, true, false, false] rfl rfl (by kernel_rfl) (fun _ _ _ h => h) (Or.inl ⟨by rfl, ?_⟩) hHeld ?_ ?_
        rotate_left
        · rintro w' ⟨s0, s1, s2⟩
          go_simp
          with_reducible rfl
        rotate_left
        · simp only [Act.put, List.setIfInBounds_toArray, List.set_cons_zero, List.set_cons_succ]
          rfl
        refine one_ (i := 4) (N := some 51) #[true, true, true, true, true, false, true, true, false, false] rfl rfl (by kernel_rfl) (by decide) (fun K hK => ?_)
        refine goes_ Tryz.func26 (by kernel_rfl) rfl #[.agg #[.slice At sh.length ct, .slice Au tg.length cu]] (by rfl) rfl rfl (by simp only [List.map_toArray, List.map_cons, List.map_nil]; rfl) ?_
        with_reducible refine (own_calls At ct sh Au cu tg _ (Kd.C_below (Kd.C_below HSH.out BW1.out) b0_.out) (Kd.C_below (Kd.C_below HTG.out BW1.out) b0_.out) hl0 hl1).mono ?_
        rintro e w5 ⟨v5, u5, rfl, r5, t5, h5⟩
        obtain ⟨A5, c5, rfl, _, hC5⟩ := RowG.toC r5
        obtain ⟨D5, g5, rfl, _, hD5⟩ := RowG.toCT t5
        clear hD5
        have b5 := Lib.hid (below_step b0_.out h5)
        have HI5 := Lib.hid (RowG.inok r5)
        have HC5 := Lib.hid hC5
        clear hC5
        refine ⟨_, rfl, ?_⟩
        refine hK.out _ _ ⟨(b5.out.cell (p := ⟨w.heap.size, 0, none⟩) zB0).trans (K7.out.cell 0), (b5.out.cell (p := ⟨w.heap.size, 1, none⟩) zB0).trans (K7.out.cell 1), (b5.out.cell (p := ⟨G, 4, none⟩) zW1).trans (KG.out.cell 4)⟩ (fun hHeld => ?_)
        clear hK K
        refine norm_ (a' := ?_) ?_ ?_
        rotate_left
        · show Act.put _ (some 51) _ = _
          simp only [Act.put, List.setIfInBounds_toArray, List.set_cons_zero, List.set_cons_succ]
          rfl
        refine pure_ (i := 5) (N := some 52) (v := ?_) (a' := ?_) #[true, true, true, true, true, true, true, true, false, false] rfl rfl (by kernel_rfl) (fun _ _ _ h => h) (Or.inl ⟨by rfl, ?_⟩) ?_ ?_
        rotate_left
        · intro w'
          go_simp
          with_reducible rfl
        rotate_left
        · simp only [Act.put, List.setIfInBounds_toArray, List.set_cons_zero, List.set_cons_succ]
          rfl
        refine pure_ (i := 8) (N := some 55) (v := ?_) (a' := ?_) #[true, true, true, true, true, true, true, true, true, false] rfl rfl (by kernel_rfl) (fun _ _ _ h => h) (Or.inl ⟨by rfl, ?_⟩) ?_ ?_
        rotate_left
        · intro w'
          go_simp
          with_reducible rfl
        rotate_left
        · simp only [Act.put, List.setIfInBounds_toArray, List.set_cons_zero, List.set_cons_succ]
          rfl
        refine last_ (i := 9) (N := none) #[true, true, true, true, true, true, true, true, true, true] rfl rfl (by kernel_rfl) (by decide) (fun K hK => ?_)
        have kg := KG.out.below b5.out zW1
        have e0 := kg.cell 0
        have e1 := kg.cell 1
        have e2 := kg.cell 2
        have e3 := kg.cell 3
        have e4 := kg.cell 4
        have e5 := kg.cell 5
        simp only [List.getElem?_toArray, List.getElem?_cons_zero, List.getElem?_cons_succ] at e0 e1 e2 e3 e4 e5
        have f0 := kg.frozen 0
        have f1 := kg.frozen 1
        have f2 := kg.frozen 2
        have f3 := kg.frozen 3
        have f4 := kg.frozen 4
        have f5 := kg.frozen 5
        refine skip_ (w1 := ?_) (by rfl) rfl ?_ ?_
        rotate_left
        · go_simp
          rfl
        refine hK.out _ _ ?_
        clear hK K
        refine done_ (by kernel_rfl) ?_
        go_wp2_with fail
        go_meet
        have hbm : baseW (M name.data.toList) sh now whole = ⟨m.now, sh, now, whole, [], []⟩ := by rw [HMN.out]; exact if_neg hne_.out
        have hc9 := set6_chg w5 G (.slice A2 m.now.length d2) (.slice A5 sh.length c5) (.int .i64 now) (.int .i64 whole) (.slice none 0 0) (.slice none 0 0)
        refine Lib.hid ⟨?_, (K7.out.below b5.out zB0).chg hc9 (fun e => by omega), (K10.out.below b5.out zB1).chg hc9 (fun e => by omega), hc9.below_of (BW1.out.trans (b5.out.mono BW1.out.size)) (by have := b5.out.size; omega) (fun k hk e => by omega)⟩
        rw [hbm]
        exact half_set (m := ⟨m.now, sh, now, whole, [], []⟩) kg A2 d2 A5 c5 (Kd.C_below (Kd.C_below HC.out.2.2.1 BW1.out) b5.out) HC5.out (fun hp a e => ⟨⟨HO.out.2.2.1 hp a e, .inl (share_lt HC.out.2.2.1 hp a e)⟩, by have := share_lt HC.out.2.2.1 hp a e; omega⟩) (HI5.out.mono (fun k hk _ _ _ _ => ⟨⟨HOK.out k (by have := BW1.out.size; have := b0_.out.size; omega), .inr (by have := b0_.out.size; omega)⟩, by have := b0_.out.size; omega⟩)) rfl rfl
  case rest =>
    clear hcase HIS HX K7 K10 KG BW1 zW1 zB0 zB1
    obtain ⟨⟨A0', c0', A1', c1', x, y, hG, ⟨hC0, hC1⟩, ⟨hO0, hO1⟩, _, _⟩, h7, h10, hbc⟩ := hcut.out
    clear hcut
    obtain ⟨bm, hbm⟩ : ∃ bm, bm = baseW (M name.data.toList) sh now whole := ⟨_, rfl⟩
    have htw : turnW (M name.data.toList) sh tg now whole = { bm with now := rollL bm.fr bm.dst (now - bm.since) whole, tags := tg } := by rw [hbm]; rfl
    rw [← hbm] at hs0 hs1 hG hC0 hC1 hO0 hO1 HF0 HF1
    rw [htw] at HLR
    have HTW := Lib.hid htw
    clear htw hbm
    obtain ⟨L, hL⟩ : ∃ L, L = rollL bm.fr bm.dst (now - bm.since) whole := ⟨_, rfl⟩
    rw [← hL] at HTW HLR
    have HL := Lib.hid hL
    clear hL
    have zGc : G < wc.heap.size := hG.lt
    have zBc : w.heap.size < wc.heap.size := by omega
    have HG := Lib.hid hG
    have H7 := Lib.hid h7
    have H10 := Lib.hid h10
    have HC0 := Lib.hid hC0
    have HC1 := Lib.hid hC1
    have HO0 := Lib.hid hO0
    have HO1 := Lib.hid hO1
    have HBC := Lib.hid hbc
    have hsub : IntKind.i64.wrap (now - bm.since) = now - bm.since := IntWalk.i64_in _ (by omega)
    clear hG h7 h10 hC0 hC1 hO0 hO1 hbc
    have b0_ := Lib.hid ((Below.refl wc.heap.size wc).drew)
    go_wp2_with fail
    refine start_ (n := 16) (S := fun w' => w'.cell? ⟨G, 0, none⟩ = some (.slice A0' bm.fr.length c0') ∧ w'.cell? ⟨G, 1, none⟩ = some (.slice A1' bm.dst.length c1') ∧ w'.cell? ⟨G, 2, none⟩ = some (.int .i64 bm.since) ∧ w'.cell? ⟨w.heap.size, 0, none⟩ = some (.slice At sh.length ct) ∧ w'.cell? ⟨w.heap.size, 1, none⟩ = some (.slice Au tg.length cu)) (ds := [15]) #[false, false, false, false, false, false, false, false, false, false, false, false, false, false, false, false] (by kernel_rfl) rfl rfl ⟨HG.out.cell 0, HG.out.cell 1, HG.out.cell 2, H7.out.cell 0, H7.out.cell 1⟩ (fun hHeld => ?_)
    refine pure_ (i := 0) (N := some 56) (v := ?_) (a' := ?_) #[true, false, false, false, false, false, false, false, false, false, false, false, false, false, false, false] rfl rfl (by kernel_rfl) (fun _ _ _ h => h) (Or.inl ⟨by rfl, ?_⟩) ?_ ?_
    rotate_left
    · intro w'
      go_simp
      with_reducible rfl
    rotate_left
    · simp only [Act.put, List.setIfInBounds_toArray, List.set_cons_zero, List.set_cons_succ]
      rfl
    refine pure_ (i := 2) (N := some 58) (v := ?_) (a' := ?_) #[true, false, true, false, false, false, false, false, false, false, false, false, false, false, false, false] rfl rfl (by kernel_rfl) (fun _ _ _ h => h) (Or.inl ⟨by rfl, ?_⟩) ?_ ?_
    rotate_left
    · intro w'
      go_simp
      with_reducible rfl
    rotate_left
    · simp only [Act.put, List.setIfInBounds_toArray, List.set_cons_zero, List.set_cons_succ]
      rfl
    refine pure_ (i := 4) (N := some 60) (v := ?_) (a' := ?_) #[true, false, true, false, true, false, false, false, false, false, false, false, false, false, false, false] rfl rfl (by kernel_rfl) (fun _ _ _ h => h) (Or.inl ⟨by rfl, ?_⟩) ?_ ?_
    rotate_left
    · intro w'
      go_simp
      with_reducible rfl
    rotate_left
    · simp only [Act.put, List.setIfInBounds_toArray, List.set_cons_zero, List.set_cons_succ]
      rfl
    refine pure_ (i := 5) (N := some 61) (v := ?_) (a' := ?_) #[true, false, true, false, true, true, false, false, false, false, false, false, false, false, false, false] rfl rfl (by kernel_rfl) (fun _ _ _ h => h) (Or.inl ⟨by rfl, ?_⟩) ?_ ?_
    rotate_left
    · intro w'
      go_simp
      with_reducible rfl
    rotate_left
    · simp only [Act.put, List.setIfInBounds_toArray, List.set_cons_zero, List.set_cons_succ]
      rfl
    refine pure_ (i := 8) (N := some 64) (v := ?_) (a' := ?_) #[true, false, true, false, true, true, false, false, true, false, false, false, false, false, false, false] rfl rfl (by kernel_rfl) (fun _ _ _ h => h) (Or.inl ⟨by rfl, ?_⟩) ?_ ?_
    rotate_left
    · intro w'
      go_simp
      with_reducible rfl
    rotate_left
    · simp only [Act.put, List.setIfInBounds_toArray, List.set_cons_zero, List.set_cons_succ]
      rfl
    refine take_ (i := 1) (N := some 57) (v := ?_) (a' := ?_) #[true, true, true, false, true, true, false, false, true, false, false, false, false, false, false, false] rfl rfl (by kernel_rfl) (fun _ _ _ h => h) (Or.inl ⟨by rfl, ?_⟩) hHeld ?_ ?_
    rotate_left
    · rintro w' ⟨s0, s1, s2, s3, s4⟩
      go_simp
      with_reducible rfl
    rotate_left
    · simp only [Act.put, List.setIfInBounds_toArray, List.set_cons_zero, List.set_cons_succ]
      rfl
    refine take_ (i := 3) (N := some 59) (v := ?_) (a' := ?_) #[true, true, true, true, true, true, false, false, true, false, false, false, false, false, false, false] rfl rfl (by kernel_rfl) (fun _ _ _ h => h) (Or.inl ⟨by rfl, ?_⟩) hHeld ?_ ?_
    rotate_left
    · rintro w' ⟨s0, s1, s2, s3, s4⟩
      go_simp
      with_reducible rfl
    rotate_left
    · simp only [Act.put, List.setIfInBounds_toArray, List.set_cons_zero, List.set_cons_succ]
      rfl
    refine take_ (i := 6) (N := some 62) (v := ?_) (a' := ?_) #[true, true, true, true, true, true, true, false, true, false, false, false, false, false, false, false] rfl rfl (by kernel_rfl) (fun _ _ _ h => h) (Or.inl ⟨by rfl, ?_⟩) hHeld ?_ ?_
    rotate_left
    · rintro w' ⟨s0, s1, s2, s3, s4⟩
      go_simp
      with_reducible rfl
    rotate_left
    · simp only [Act.put, List.setIfInBounds_toArray, List.set_cons_zero, List.set_cons_succ]
      rfl
    refine pure_ (i := 7) (N := some 63) (v := ?_) (a' := ?_) #[true, true, true, true, true, true, true, true, true, false, false, false, false, false, false, false] rfl rfl (by kernel_rfl) (fun _ _ _ h => h) (Or.inl ⟨by rfl, ?_⟩) ?_ ?_
    rotate_left
    · intro w'
      go_simp
      with_reducible rfl
    rotate_left
    · simp only [Act.put, List.setIfInBounds_toArray, List.set_cons_zero, List.set_cons_succ]
      rfl
    refine take_ (i := 10) (N := some 66) (v := ?_) (a' := ?_) #[true, true, true, true, true, true, true, true, true, false, true, false, false, false, false, false] rfl rfl (by kernel_rfl) (fun _ _ _ h => h) (Or.inl ⟨by rfl, ?_⟩) hHeld ?_ ?_
    rotate_left
    · rintro w' ⟨s0, s1, s2, s3, s4⟩
      go_simp
      with_reducible rfl
    rotate_left
    · simp only [Act.put, List.setIfInBounds_toArray, List.set_cons_zero, List.set_cons_succ]
      rfl
    refine one_ (i := 9) (N := some 65) #[true, true, true, true, true, true, true, true, true, true, true, false, false, false, false, false] rfl rfl (by kernel_rfl) (by decide) (fun K hK => ?_)
    refine goes_ Tryz.func36 (by kernel_rfl) rfl #[.slice A0' bm.fr.length c0', .slice A1' bm.dst.length c1', .int .i64 (now - bm.since), .int .i64 whole] (by rfl) rfl rfl (by simp only [List.map_toArray, List.map_cons, List.map_nil]; rfl) ?_
    with_reducible refine (shares_calls A0' c0' bm.fr A1' c1' bm.dst (now - bm.since) whole _ (Kd.C_below HC0.out b0_.out) (Kd.C_below HC1.out b0_.out) HF0.out HF1.out hw1).mono ?_
    rintro e w5 ⟨v5, rfl, r5, h5⟩
    rw [← HL.out] at r5
    obtain ⟨A5, c5, rfl, hc5, hC5⟩ := RowG.toC r5
    have b5 := Lib.hid (below_step b0_.out h5)
    have HI5 := Lib.hid (RowG.inok r5)
    have HC5 := Lib.hid hC5
    clear hC5
    refine ⟨_, rfl, ?_⟩
    refine hK.out _ _ ⟨(b5.out.cell (p := ⟨G, 0, none⟩) zGc).trans (HG.out.cell 0), (b5.out.cell (p := ⟨G, 1, none⟩) zGc).trans (HG.out.cell 1), (b5.out.cell (p := ⟨G, 2, none⟩) zGc).trans (HG.out.cell 2), (b5.out.cell (p := ⟨w.heap.size, 0, none⟩) zBc).trans (H7.out.cell 0), (b5.out.cell (p := ⟨w.heap.size, 1, none⟩) zBc).trans (H7.out.cell 1)⟩ (fun hHeld => ?_)
    clear hK K
    refine norm_ (a' := ?_) ?_ ?_
    rotate_left
    · show Act.put _ (some 65) _ = _
      simp only [Act.put, List.setIfInBounds_toArray, List.set_cons_zero, List.set_cons_succ]
      rfl
    refine one_ (i := 11) (N := some 67) #[true, true, true, true, true, true, true, true, true, true, true, true, false, false, false, false] rfl rfl (by kernel_rfl) (by decide) (fun K hK => ?_)
    refine goes_ Tryz.func26 (by kernel_rfl) rfl #[.agg #[.slice At sh.length ct, .slice Au tg.length cu]] (by rfl) rfl rfl (by simp only [List.map_toArray, List.map_cons, List.map_nil]; rfl) ?_
    with_reducible refine (own_calls At ct sh Au cu tg _ (Kd.C_below (Kd.C_below HSH.out HBC.out) b5.out) (Kd.C_below (Kd.C_below HTG.out HBC.out) b5.out) hl0 hl1).mono ?_
    rintro e w6 ⟨v6, u6, rfl, r6, t6, h6⟩
    obtain ⟨A6, c6, rfl, _, hC6⟩ := RowG.toC r6
    obtain ⟨D6, g6, rfl, _, hD6⟩ := RowG.toCT t6
    clear hC6
    have b6 := Lib.hid (below_step b5.out h6)
    have HT6 := Lib.hid (RowG.inokT t6)
    have HD6 := Lib.hid hD6
    clear hD6
    refine ⟨_, rfl, ?_⟩
    refine hK.out _ _ ⟨(b6.out.cell (p := ⟨G, 0, none⟩) zGc).trans (HG.out.cell 0), (b6.out.cell (p := ⟨G, 1, none⟩) zGc).trans (HG.out.cell 1), (b6.out.cell (p := ⟨G, 2, none⟩) zGc).trans (HG.out.cell 2), (b6.out.cell (p := ⟨w.heap.size, 0, none⟩) zBc).trans (H7.out.cell 0), (b6.out.cell (p := ⟨w.heap.size, 1, none⟩) zBc).trans (H7.out.cell 1)⟩ (fun hHeld => ?_)
    clear hK K
    refine norm_ (a' := ?_) ?_ ?_
    rotate_left
    · show Act.put _ (some 67) _ = _
      simp only [Act.put, List.setIfInBounds_toArray, List.set_cons_zero, List.set_cons_succ]
      rfl
    refine pure_ (i := 12) (N := some 68) (v := ?_) (a' := ?_) #[true, true, true, true, true, true, true, true, true, true, true, true, true, false, false, false] rfl rfl (by kernel_rfl) (fun _ _ _ h => h) (Or.inl ⟨by rfl, ?_⟩) ?_ ?_
    rotate_left
    · intro w'
      go_simp
      with_reducible rfl
    rotate_left
    · simp only [Act.put, List.setIfInBounds_toArray, List.set_cons_zero, List.set_cons_succ]
      rfl
    refine pure_ (i := 13) (N := some 69) (v := ?_) (a' := ?_) #[true, true, true, true, true, true, true, true, true, true, true, true, true, true, false, false] rfl rfl (by kernel_rfl) (fun _ _ _ h => h) (Or.inl ⟨by rfl, ?_⟩) ?_ ?_
    rotate_left
    · intro w'
      go_simp
      with_reducible rfl
    rotate_left
    · simp only [Act.put, List.setIfInBounds_toArray, List.set_cons_zero, List.set_cons_succ]
      rfl
    refine pure_ (i := 14) (N := some 70) (v := ?_) (a' := ?_) #[true, true, true, true, true, true, true, true, true, true, true, true, true, true, true, false] rfl rfl (by kernel_rfl) (fun _ _ _ h => h) (Or.inl ⟨by rfl, ?_⟩) ?_ ?_
    rotate_left
    · intro w'
      go_simp
      with_reducible rfl
    rotate_left
    · simp only [Act.put, List.setIfInBounds_toArray, List.set_cons_zero, List.set_cons_succ]
      rfl
    refine last_ (i := 15) (N := none) #[true, true, true, true, true, true, true, true, true, true, true, true, true, true, true, true] rfl rfl (by kernel_rfl) (by decide) (fun K hK => ?_)
    have kg := HG.out.below b6.out zGc
    have e4 := kg.cell 4
    have e5 := kg.cell 5
    simp only [List.getElem?_toArray, List.getElem?_cons_zero, List.getElem?_cons_succ] at e4 e5
    have f4 := kg.frozen 4
    have f5 := kg.frozen 5
    refine skip_ (w1 := ?_) (by rfl) rfl ?_ ?_
    rotate_left
    · go_simp
      rfl
    refine hK.out _ _ ?_
    clear hK K
    refine done_ (by kernel_rfl) ?_
    have k4 := kg.set 4 (.slice A5 L.length c5) (cs' := #[.slice A0' bm.fr.length c0', .slice A1' bm.dst.length c1', .int .i64 bm.since, .int .i64 bm.whole, .slice A5 L.length c5, y]) rfl
    have k5 := k4.set 5 (.slice D6 tg.length g6) (cs' := #[.slice A0' bm.fr.length c0', .slice A1' bm.dst.length c1', .int .i64 bm.since, .int .i64 bm.whole, .slice A5 L.length c5, .slice D6 tg.length g6]) rfl
    have hc7 : Chg (fun k => k = G) w6 ((w6.setCell ⟨G, 4, none⟩ (.slice A5 L.length c5)).setCell ⟨G, 5, none⟩ (.slice D6 tg.length g6)) := ((Chg.refl (fun k => k = G) w6).setCell (a := ⟨G, 4, none⟩) (fun _ => rfl) _).setCell (a := ⟨G, 5, none⟩) (fun _ => rfl) _
    have HC5' := Lib.hid (c_chg (Kd.C_below HC5.out h6) HI5.out hc7 (fun k hk _ e => by have := b0_.out.size; omega))
    have HD6' := Lib.hid (ct_chg HD6.out HT6.out hc7 (fun k hk _ e => by have := b5.out.size; omega))
    have HC0' := Lib.hid (c_chg (Kd.C_below HC0.out b6.out) HO0.out hc7 (fun k hk _ e => by omega))
    have HC1' := Lib.hid (c_chg (Kd.C_below HC1.out b6.out) HO1.out hc7 (fun k hk _ e => by omega))
    have bAll := hc7.below_of (HBC.out.trans (b6.out.mono HBC.out.size)) (by have := b6.out.size; have := HBC.out.size; omega) (fun k hk e => by omega)
    have H10' := Lib.hid ((H10.out.below b6.out (by omega)).chg hc7 (fun e => by omega))
    have zz5 : wc.heap.size ≤ w5.heap.size := b5.out.size
    have zz6 := hc7.size
    have zz6' : wc.heap.size ≤ w6.heap.size := b6.out.size
    clear e4 e5 f4 f5 kg k4 hc7 hHeld r5 h5 r6 t6 h6 hc5
    generalize (w6.setCell ⟨G, 4, none⟩ (.slice A5 L.length c5)).setCell ⟨G, 5, none⟩ (.slice D6 tg.length g6) = W7 at *
    have K7 := Lib.hid k5
    have BA := Lib.hid bAll
    have hp7 := hb.below bAll hpl
    have HP7 := Lib.hid hp7
    have HM7 := Lib.hid (HM.out.same (bAll.block b hbl))
    have hS5 : S.length ≤ 5 := nodup_len HM.out.nodup hS
    have zG7 : G < W7.heap.size := k5.lt
    clear k5 bAll hp7 H7 b5 b6 HC0 HC1 HC5 HD6 HG H10 HBC
    go_wp2_with fail
    refine start_ (n := 7) (S := fun w' => w'.cell? ⟨p, 0, none⟩ = some (.map (some b)) ∧ w'.cell? ⟨G, 0, none⟩ = some (.slice A0' bm.fr.length c0') ∧ w'.cell? ⟨G, 1, none⟩ = some (.slice A1' bm.dst.length c1') ∧ w'.cell? ⟨G, 2, none⟩ = some (.int .i64 bm.since) ∧ w'.cell? ⟨G, 3, none⟩ = some (.int .i64 bm.whole) ∧ w'.cell? ⟨G, 4, none⟩ = some (.slice A5 L.length c5) ∧ w'.cell? ⟨G, 5, none⟩ = some (.slice D6 tg.length g6)) (ds := [6]) #[false, false, false, false, false, false, false] (by kernel_rfl) rfl rfl ⟨HP7.out.cell 0, K7.out.cell 0, K7.out.cell 1, K7.out.cell 2, K7.out.cell 3, K7.out.cell 4, K7.out.cell 5⟩ (fun hHeld => ?_)
    refine pure_ (i := 0) (N := some 71) (v := ?_) (a' := ?_) #[true, false, false, false, false, false, false] rfl rfl (by kernel_rfl) (fun _ _ _ h => h) (Or.inl ⟨by rfl, ?_⟩) ?_ ?_
    rotate_left
    · intro w'
      go_simp
      with_reducible rfl
    rotate_left
    · simp only [Act.put, List.setIfInBounds_toArray, List.set_cons_zero, List.set_cons_succ]
      rfl
    refine pure_ (i := 1) (N := some 72) (v := ?_) (a' := ?_) #[true, true, false, false, false, false, false] rfl rfl (by kernel_rfl) (fun _ _ _ h => h) (Or.inl ⟨by rfl, ?_⟩) ?_ ?_
    rotate_left
    · intro w'
      go_simp
      with_reducible rfl
    rotate_left
    · simp only [Act.put, List.setIfInBounds_toArray, List.set_cons_zero, List.set_cons_succ]
      rfl
    refine pure_ (i := 2) (N := some 73) (v := ?_) (a' := ?_) #[true, true, true, false, false, false, false] rfl rfl (by kernel_rfl) (fun _ _ _ h => h) (Or.inl ⟨by rfl, ?_⟩) ?_ ?_
    rotate_left
    · intro w'
      go_simp
      with_reducible rfl
    rotate_left
    · simp only [Act.put, List.setIfInBounds_toArray, List.set_cons_zero, List.set_cons_succ]
      rfl
    refine pure_ (i := 4) (N := some 75) (v := ?_) (a' := ?_) #[true, true, true, false, true, false, false] rfl rfl (by kernel_rfl) (fun _ _ _ h => h) (Or.inl ⟨by rfl, ?_⟩) ?_ ?_
    rotate_left
    · intro w'
      go_simp
      with_reducible rfl
    rotate_left
    · simp only [Act.put, List.setIfInBounds_toArray, List.set_cons_zero, List.set_cons_succ]
      rfl
    refine take_ (i := 3) (N := some 74) (v := ?_) (a' := ?_) #[true, true, true, true, true, false, false] rfl rfl (by kernel_rfl) (fun _ _ _ h => h) (Or.inl ⟨by rfl, ?_⟩) hHeld ?_ ?_
    rotate_left
    · rintro w' ⟨s0, s1, s2, s3, s4, s5, s6⟩
      go_simp
      with_reducible rfl
    rotate_left
    · simp only [Act.put, List.setIfInBounds_toArray, List.set_cons_zero, List.set_cons_succ]
      rfl
    refine take_ (i := 5) (N := some 76) (v := ?_) (a' := ?_) #[true, true, true, true, true, true, false] rfl rfl (by kernel_rfl) (fun _ _ _ h => h) (Or.inl ⟨by rfl, ?_⟩) hHeld ?_ ?_
    rotate_left
    · rintro w' ⟨s0, s1, s2, s3, s4, s5, s6⟩
      go_simp
      with_reducible rfl
    rotate_left
    · simp only [Act.put, List.setIfInBounds_toArray, List.set_cons_zero, List.set_cons_succ]
      rfl
    refine last_ (i := 6) (N := none) #[true, true, true, true, true, true, true] rfl rfl (by kernel_rfl) (by decide) (fun K hK => ?_)
    refine step_putM _ rfl rfl (.tmp 74) (.tmp 75) (.tmp 76) 95 rfl 9 99 Tryz.underlying9 Tryz.underlying95 b S f (by rfl) (HM7.out.chg ((Chg.refl (fun _ => False) W7).drew) id) (by unfold maxLen; omega) name (by rfl) (by unfold maxLen; omega) (.agg #[.slice A0' bm.fr.length c0', .slice A1' bm.dst.length c1', .int .i64 bm.since, .int .i64 bm.whole, .slice A5 L.length c5, .slice D6 tg.length g6]) (by rfl) ?_
    intro w8 hs8 ht8
    refine hK.out _ _ ?_
    clear hK K
    refine done_ (by kernel_rfl) ?_
    have zd : wc.heap.size ≤ wc.drew.heap.size := b0_.out.size
    have hc8 := Chg.of_turned (F := fun k => k = b) ht8 rfl
    have hGb : G ≠ b := by omega
    have K8 := Lib.hid (K7.out.chg ((Chg.refl (fun _ => False) W7).drew) id |>.chg hc8 hGb)
    have cW8 : Chg (fun k => k = b) W7 w8 := ((Chg.refl (fun k => k = b) W7).drew).trans hc8 (fun _ _ h => h)
    have HP8 := Lib.hid (HP7.out.chg cW8 hne)
    have HC5 := Lib.hid (c_chg HC5'.out HI5.out cW8 (fun k hk _ e => by omega))
    have HD6 := Lib.hid (ct_chg HD6'.out HT6.out cW8 (fun k hk _ e => by omega))
    have HC0 := Lib.hid (c_chg HC0'.out HO0.out cW8 (fun k hk _ e => hap k hk.1 e))
    have HC1 := Lib.hid (c_chg HC1'.out HO1.out cW8 (fun k hk _ e => hap k hk.1 e))
    have H10 := Lib.hid (H10'.out.chg cW8 (by omega))
    have zW8 := cW8.size
    have CW := Lib.hid (Chg.trans (F := fun k => k = b) (Chg.of_below BA.out (F := fun _ => False) (fun k hk hk' => by omega) |>.mono (fun _ _ h => h.elim)) cW8 (fun _ _ h => h))
    have HS8 := Lib.hid hs8
    have g4 := K8.out.cell 4
    have g5 := K8.out.cell 5
    simp only [List.getElem?_toArray, List.getElem?_cons_zero, List.getElem?_cons_succ] at g4 g5
    clear hs8 ht8 hc8 cW8 hHeld HC5' HD6' HC0' HC1' H10' K7 HP7 HM7 BA
    go_wp2_with fail
    refine (own_calls A5 c5 L D6 g6 tg _ HC5.out HD6.out HLR.out hl1).mono ?_
    rintro e w9 ⟨v9, u9, rfl, r9, t9, h9⟩
    obtain ⟨A9, c9, rfl, _, hC9⟩ := RowG.toC r9
    obtain ⟨D9, d9, rfl, _, hD9⟩ := RowG.toCT t9
    clear hC9 hD9
    have R9 := Lib.hid r9
    have T9 := Lib.hid t9
    have H9 := Lib.hid h9
    have zB8 : w.heap.size + 1 < w8.heap.size := by omega
    have k10 := H10.out.below h9 zB8
    have e0 := k10.cell 0
    have e1 := k10.cell 1
    simp only [List.getElem?_toArray, List.getElem?_cons_zero, List.getElem?_cons_succ] at e0 e1
    have f0 := k10.frozen 0
    have f1 := k10.frozen 1
    have K10 := Lib.hid k10
    clear r9 t9 h9 k10
    go_wp2_with fail
    have k11 := (K10.out.set 0 (.slice A9 L.length c9) (cs' := #[.slice A9 L.length c9, .slice none 0 0]) rfl).set 1 (.slice D9 tg.length d9) (cs' := #[.slice A9 L.length c9, .slice D9 tg.length d9]) rfl
    have hcA : Chg (fun k => k = w.heap.size + 1) w9 ((w9.setCell ⟨w.heap.size + 1, 0, none⟩ (.slice A9 L.length c9)).setCell ⟨w.heap.size + 1, 1, none⟩ (.slice D9 tg.length d9)) := ((Chg.refl (fun k => k = w.heap.size + 1) w9).setCell (a := ⟨w.heap.size + 1, 0, none⟩) (fun _ => rfl) _).setCell (a := ⟨w.heap.size + 1, 1, none⟩) (fun _ => rfl) _
    have e0 := k11.cell 0
    have e1 := k11.cell 1
    simp only [List.getElem?_toArray, List.getElem?_cons_zero, List.getElem?_cons_succ] at e0 e1
    have R8 : RollerAt w8 p b (fun k => ok k ∧ (k < w.heap.size ∨ G < k)) (setWay name.data.toList (some (turnW (M name.data.toList) sh tg now whole)) M) := by
      refine ⟨HP8.out, hne, fun k hk => hap k hk.1, _, _, fun x hx => (mem_addKey.1 hx).elim (fun e => e ▸ hroute) (hS x), HS8.out, fun x => ?_, fun x m e => ?_⟩
      · rw [mem_addKey]
        unfold setWay
        by_cases e : x = name.data.toList
        · rw [if_pos e]; simp [e]
        · rw [if_neg e, HMS.out]; simp [e]
      · unfold setWay at e
        unfold setKey
        by_cases e' : x = name.data.toList
        · rw [if_pos e'] at e ⊢
          cases e
          rw [HTW.out]
          exact ⟨A0', c0', A1', c1', A5, c5, D6, g6, rfl, ⟨HC0.out, HC1.out, HC5.out, HD6.out⟩, HO0.out, HO1.out, HI5.out.mono (fun k hk _ _ _ _ => ⟨HOK.out k (by omega), .inr (by omega)⟩), HT6.out.mono (fun k hk _ _ _ _ => ⟨HOK.out k (by omega), .inr (by omega)⟩)⟩
        · rw [if_neg e'] at e ⊢
          exact ((HW.out x m e).okm (ok' := fun k => ok k ∧ (k < w.heap.size ∨ G < k)) (fun k hk hlt => ⟨hk, .inl hlt⟩)).chg CW.out (fun k hk _ e => hap k hk.1 e)
    have R9' := ((R8.okm (ok' := fun k => (ok k ∧ (k < w.heap.size ∨ G < k)) ∧ k < w8.heap.size) (fun k hk => hap k hk.1.1) (fun k hk hlt => ⟨hk, hlt⟩)).below H9.out).chg hcA (by omega) (by omega) (fun k hk _ e => by omega)
    have RF := Lib.hid (R9'.okm (ok' := fun k => ok k ∧ (Value.slice A9 L.length c9).ownBlock ≠ some k ∧ (Value.slice D9 tg.length d9).ownBlock ≠ some k) (fun k hk => hap k hk.1) (fun k hk _ => ⟨hk.1.1, fun e => by have := own_base R9.out k e; omega, fun e => by have := own_base T9.out k e; have := H9.out.size; omega⟩))
    have RR := Lib.hid ((R9.out.moved (fun k hk hlt => hcA.block k hlt (fun e => by omega))).lower (show w.heap.size ≤ w8.heap.size by omega))
    have RT := Lib.hid ((T9.out.moved (fun k hk hlt => hcA.block k hlt (fun e => by omega))).lower (show w.heap.size ≤ w8.heap.size by omega))
    have HF := Lib.hid (CW.out.trans ((Chg.of_below H9.out (F := fun k => k = w.heap.size + 1) (fun k hk hk' => by omega)).trans hcA (fun _ _ h => h)) (fun k hk e => by omega))
    exact bodyPost_ret (v := .agg #[.slice A9 L.length c9, .slice D9 tg.length d9]) (by simp [results, Tryz.results13, go_sem, e0, e1]) rfl ⟨_, _, rfl, by rw [HTW.out]; exact RR.out, RT.out, RF.out, HF.out⟩

end Go.Proofs.YtnkmpkhiilnigaaGreatDoor.PA
