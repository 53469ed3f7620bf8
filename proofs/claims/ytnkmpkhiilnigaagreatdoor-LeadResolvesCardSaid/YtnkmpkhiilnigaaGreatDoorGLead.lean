/- lead's functions, one contract each: tables by themselves. (Printed by genx.py from lead.src.) -/
import Derived.Test.YtnkmpkhiilnigaaGreatDoorGShares
import Derived.Test.YtnkmpkhiilnigaaGreatDoorGTabs
import Derived.Test.YtnkmpkhiilnigaaGreatDoorGGrnd
import Derived.Test.YtnkmpkhiilnigaaGreatDoorPAx1
import Derived.BigQuiet
import Derived.Outline
import Derived.WalkLawsBesides
namespace Go.Proofs.YtnkmpkhiilnigaaGreatDoor.PA
open Go.RowKit Go.Shelf Go.Lib Go.Sort Go.Proofs.YtnkmpkhiilnigaaGreatDoorW.PrintWords Go.Proofs.YtnkmpkhiilnigaaGreatDoorW.PrintLast

set_option maxRecDepth 100000 in
set_option maxHeartbeats 2000000 in
theorem own_calls (A0 : Option Addr) (c0 : Nat) (l0 : List S51) (A1 : Option Addr) (c1 : Nat) (l1 : List S83) (w : World) (h0 : Kd.C k51 w A0 l0.length l0) (h1 : Kd.C k83 w A1 l1.length l1) (hl0 : l0.length ≤ 1000) (hl1 : l1.length ≤ 1000) :
    Calls Tryz.prog 26 #[.agg #[.slice A0 l0.length c0, .slice A1 l1.length c1]] w fun e w' => ∃ v0 v1, e = .returned (.agg #[v0, v1]) ∧ RowG el51 w' w.heap.size v0 l0 ∧ RowG el83 w' w.heap.size v1 l1 ∧ Below w.heap.size w w' := by
  have H0 := Lib.hid h0
  have H1 := Lib.hid h1
  clear h0 h1
  go_enter Tryz.func26, Tryz.ntmps26
  go_wp2_with fail
  obtain ⟨W, hW⟩ : ∃ W, W = ((w.alloc (.cells #[.slice A0 l0.length c0, .slice A1 l1.length c1] 36)).alloc (.cells #[.slice none 0 0, .slice none 0 0] 36)) := ⟨_, rfl⟩
  have bW : Below w.heap.size w W := by rw [hW]; exact ((Below.refl _ _).alloc (Nat.le_refl _) _).alloc (by simp) _
  have k0 : Blk W w.heap.size #[.slice A0 l0.length c0, .slice A1 l1.length c1] 36 := by rw [hW]; exact (Blk.new w _ _).alloc _
  have k1 : Blk W (w.heap.size + 1) #[.slice none 0 0, .slice none 0 0] 36 := by
    rw [hW]
    have := Blk.new (w.alloc (.cells #[.slice A0 l0.length c0, .slice A1 l1.length c1] 36)) #[.slice none 0 0, .slice none 0 0] 36
    simpa using this
  have zW : w.heap.size + 2 = W.heap.size := by rw [hW]; simp
  rw [← hW]
  clear hW
  obtain ⟨B, hB⟩ : ∃ B, B = w.heap.size := ⟨_, rfl⟩
  rw [← hB] at k0 k1 zW ⊢
  have K0 := Lib.hid k0
  have K1 := Lib.hid k1
  have HB := Lib.hid hB
  have BW := Lib.hid bW
  have zB : B + 1 < W.heap.size := by omega
  have zB0 : B < W.heap.size := by omega
  have bR := Lib.hid ((Below.refl W.heap.size W).drew)
  clear k0 k1 hB bW zW
  refine start_ (n := 8) (S := fun w' => w'.cell? ⟨B, 0, none⟩ = some (.slice A0 l0.length c0) ∧ w'.cell? ⟨B, 1, none⟩ = some (.slice A1 l1.length c1)) (ds := [7]) #[false, false, false, false, false, false, false, false] (by kernel_rfl) rfl rfl ⟨K0.out.cell 0, K0.out.cell 1⟩ (fun hHeld => ?_)
  refine pure_ (i := 0) (N := some 3) (v := ?_) (a' := ?_) #[true, false, false, false, false, false, false, false] rfl rfl (by kernel_rfl) (fun _ _ _ h => h) (Or.inl ⟨by rfl, ?_⟩) ?_ ?_
  rotate_left
  · intro w'
    go_simp
    with_reducible rfl
  rotate_left
  · simp only [Act.put, List.setIfInBounds_toArray, List.set_cons_zero, List.set_cons_succ]
    rfl
  refine pure_ (i := 3) (N := some 6) (v := ?_) (a' := ?_) #[true, false, false, true, false, false, false, false] rfl rfl (by kernel_rfl) (fun _ _ _ h => h) (Or.inl ⟨by rfl, ?_⟩) ?_ ?_
  rotate_left
  · intro w'
    go_simp
    with_reducible rfl
  rotate_left
  · simp only [Act.put, List.setIfInBounds_toArray, List.set_cons_zero, List.set_cons_succ]
    rfl
  refine take_ (i := 1) (N := some 4) (v := ?_) (a' := ?_) #[true, true, false, true, false, false, false, false] rfl rfl (by kernel_rfl) (fun _ _ _ h => h) (Or.inl ⟨by rfl, ?_⟩) hHeld ?_ ?_
  rotate_left
  · rintro w' ⟨s0, s1⟩
    go_simp
    with_reducible rfl
  rotate_left
  · simp only [Act.put, List.setIfInBounds_toArray, List.set_cons_zero, List.set_cons_succ]
    rfl
  refine take_ (i := 4) (N := some 7) (v := ?_) (a' := ?_) #[true, true, false, true, true, false, false, false] rfl rfl (by kernel_rfl) (fun _ _ _ h => h) (Or.inl ⟨by rfl, ?_⟩) hHeld ?_ ?_
  rotate_left
  · rintro w' ⟨s0, s1⟩
    go_simp
    with_reducible rfl
  rotate_left
  · simp only [Act.put, List.setIfInBounds_toArray, List.set_cons_zero, List.set_cons_succ]
    rfl
  refine one_ (i := 2) (N := some 5) #[true, true, true, true, true, false, false, false] rfl rfl (by kernel_rfl) (by decide) (fun K hK => ?_)
  refine goes_ Tryz.func49 (by kernel_rfl) rfl #[.slice A0 l0.length c0] (by rfl) rfl rfl (by simp only [List.map_toArray, List.map_cons, List.map_nil]; rfl) ?_
  with_reducible refine (clone_calls A0 c0 l0 _ (Kd.C_below (Kd.C_below H0.out BW.out) bR.out) (by omega)).mono ?_
  rintro e wz ⟨v0, rfl, hr0, hbz⟩
  obtain ⟨A5, c5, rfl, hc5, hC5⟩ := RowG.toC hr0
  clear hC5
  have bz := Lib.hid (below_step bR.out hbz)
  have zz := bz.out.size
  refine ⟨_, rfl, ?_⟩
  refine hK.out _ _ ⟨(bz.out.cell (p := ⟨B, 0, none⟩) zB0).trans (K0.out.cell 0), (bz.out.cell (p := ⟨B, 1, none⟩) zB0).trans (K0.out.cell 1)⟩ (fun hHeld => ?_)
  clear hK K
  refine norm_ (a' := ?_) ?_ ?_
  rotate_left
  · show Act.put _ (some 5) _ = _
    simp only [Act.put, List.setIfInBounds_toArray, List.set_cons_zero, List.set_cons_succ]
    rfl
  refine one_ (i := 5) (N := some 8) #[true, true, true, true, true, true, false, false] rfl rfl (by kernel_rfl) (by decide) (fun K hK => ?_)
  refine goes_ Tryz.func50 (by kernel_rfl) rfl #[.slice A1 l1.length c1] (by rfl) rfl rfl (by simp only [List.map_toArray, List.map_cons, List.map_nil]; rfl) ?_
  with_reducible refine (cloneT_calls A1 c1 l1 _ (Kd.C_below (Kd.C_below H1.out BW.out) bz.out) (by omega)).mono ?_
  rintro e wy ⟨v1, rfl, hr1, hby⟩
  obtain ⟨A8, c8, rfl, hc8, hC8⟩ := RowG.toCT hr1
  clear hC8
  have by_ := Lib.hid (below_step bz.out hby)
  refine ⟨_, rfl, ?_⟩
  refine hK.out _ _ ⟨(by_.out.cell (p := ⟨B, 0, none⟩) zB0).trans (K0.out.cell 0), (by_.out.cell (p := ⟨B, 1, none⟩) zB0).trans (K0.out.cell 1)⟩ (fun hHeld => ?_)
  clear hK K
  refine norm_ (a' := ?_) ?_ ?_
  rotate_left
  · show Act.put _ (some 8) _ = _
    simp only [Act.put, List.setIfInBounds_toArray, List.set_cons_zero, List.set_cons_succ]
    rfl
  refine pure_ (i := 6) (N := some 9) (v := ?_) (a' := ?_) #[true, true, true, true, true, true, true, false] rfl rfl (by kernel_rfl) (fun _ _ _ h => h) (Or.inl ⟨by rfl, ?_⟩) ?_ ?_
  rotate_left
  · intro w'
    go_simp
    with_reducible rfl
  rotate_left
  · simp only [Act.put, List.setIfInBounds_toArray, List.set_cons_zero, List.set_cons_succ]
    rfl
  refine last_ (i := 7) (N := none) #[true, true, true, true, true, true, true, true] rfl rfl (by kernel_rfl) (by decide) (fun K hK => ?_)
  have k1 := K1.out.below by_.out zB
  have d0 := k1.cell 0
  have d1 := k1.cell 1
  have f0 := k1.frozen 0
  have f1 := k1.frozen 1
  simp only [List.getElem?_toArray, List.getElem?_cons_zero, List.getElem?_cons_succ] at d0 d1
  refine skip_ (w1 := ?_) (by rfl) rfl ?_ ?_
  rotate_left
  · go_simp
    rfl
  refine hK.out _ _ ?_
  clear hK K
  refine done_ (by kernel_rfl) ?_
  have hr0y := (hr0.below hby (Nat.le_refl _))
  have bAll := (BW.out.trans (by_.out.mono BW.out.size))
  have k2 : Blk ((wy.setCell ⟨B + 1, 0, none⟩ (.slice A5 l0.length c5)).setCell ⟨B + 1, 1, none⟩ (.slice A8 l1.length c8)) (B + 1) #[.slice A5 l0.length c5, .slice A8 l1.length c8] 36 := (k1.set 0 _ rfl).set 1 _ rfl
  have g0 := k2.cell 0
  have g1 := k2.cell 1
  simp only [List.getElem?_toArray, List.getElem?_cons_zero, List.getElem?_cons_succ] at g0 g1
  have hm : ∀ k, B + 1 < k → ((wy.setCell ⟨B + 1, 0, none⟩ (.slice A5 l0.length c5)).setCell ⟨B + 1, 1, none⟩ (.slice A8 l1.length c8)).heap[k]? = wy.heap[k]? := fun k hk => by
    rw [Below.heap_setCell _ _ _ _ (by show k ≠ B + 1; omega), Below.heap_setCell _ _ _ _ (by show k ≠ B + 1; omega)]
  have HM := Lib.hid hm
  have zz0 : W.heap.size ≤ W.drew.heap.size := Nat.le_refl _
  have e0 : w.heap.size ≤ W.drew.heap.size := BW.out.size
  have q0 := Lib.hid ((hr0y.moved (fun k hk _ => HM.out k (by omega))).lower e0)
  have q1 := Lib.hid ((hr1.moved (fun k hk _ => HM.out k (by omega))).lower (Nat.le_trans BW.out.size zz))
  have q2 := Lib.hid ((bAll.setCell (p := ⟨B + 1, 0, none⟩) (show w.heap.size ≤ B + 1 by have := HB.out; omega) (.slice A5 l0.length c5)).setCell (p := ⟨B + 1, 1, none⟩) (show w.heap.size ≤ B + 1 by have := HB.out; omega) (.slice A8 l1.length c8))
  clear hr0 hr1 hby hbz hm hr0y bAll d0 d1 f0 f1 k1 k2 hHeld
  generalize (wy.setCell ⟨B + 1, 0, none⟩ (.slice A5 l0.length c5)).setCell ⟨B + 1, 1, none⟩ (.slice A8 l1.length c8) = W2 at *
  go_wp2_with fail
  exact bodyPost_ret (v := .agg #[.slice A5 l0.length c5, .slice A8 l1.length c8]) (by simp [results, Tryz.results26, go_sem, g0, g1]) rfl ⟨_, _, rfl, q0.out, q1.out, q2.out⟩

/-- Are two Shares the same, two rows? -/
def eqS (x y : S51) : Bool := x.f0.toList == y.f0.toList && (x.f1 == y.f1)
def eqL : List S51 → List S51 → Bool
  | [], [] => true
  | x :: s, y :: t => eqS x y && eqL s t
  | _, _ => false
theorem eqS_iff {x y : S51} : eqS x y = true ↔ x = y := by
  obtain ⟨a, b⟩ := x
  obtain ⟨c, d⟩ := y
  unfold eqS
  simp only [Bool.and_eq_true, beq_iff_eq]
  constructor
  · rintro ⟨h1, rfl⟩
    rw [ByteArray.toList_eq, ByteArray.toList_eq, Array.toList_inj] at h1
    obtain ⟨a⟩ := a
    obtain ⟨c⟩ := c
    simp only at h1
    rw [h1]
  · rintro h
    cases h
    exact ⟨rfl, rfl⟩
theorem eqL_iff : ∀ {l m : List S51}, eqL l m = true ↔ l = m
  | [], [] => by simp [eqL]
  | [], _ :: _ => by simp [eqL]
  | _ :: _, [] => by simp [eqL]
  | x :: s, y :: t => by
    unfold eqL
    rw [Bool.and_eq_true, eqS_iff, eqL_iff, List.cons.injEq]
theorem eqL_len {l m : List S51} (h : l.length ≠ m.length) : eqL l m = false := by
  rw [Bool.eq_false_iff]
  intro e
  exact h (by rw [eqL_iff.1 e])
theorem eqL_drop {l m : List S51} {i : Nat} (h0 : i < l.length) (h1 : i < m.length) : eqL (l.drop i) (m.drop i) = (eqS (l.getD i z51) (m.getD i z51) && eqL (l.drop (i + 1)) (m.drop (i + 1))) := by
  rw [List.drop_eq_getElem_cons h0, List.drop_eq_getElem_cons h1]
  simp [eqL, List.getD_eq_getElem?_getD, h0, h1]

attribute [local go_sem high] eqA51

set_option maxHeartbeats 2000000 in
theorem equal_calls (A0 : Option Addr) (c0 : Nat) (l0 : List S51) (A1 : Option Addr) (c1 : Nat) (l1 : List S51) (w : World) (h0 : Kd.C k51 w A0 l0.length l0) (h1 : Kd.C k51 w A1 l1.length l1) (hl0 : l0.length ≤ 100000) (hl1 : l1.length ≤ 100000) :
    Calls Tryz.prog 35 #[.slice A0 l0.length c0, .slice A1 l1.length c1] w fun e w' => e = .returned (.bool (eqL l0 l1)) ∧ ∃ n, w' = w.drewN n := by
  have H0 := Lib.hid h0
  have H1 := Lib.hid h1
  clear h0 h1
  by_cases hn : l0.length = l1.length
  · have hd : ((l0.length : Int) != (l1.length : Int)) = false := by simp [hn]
    have HN := Lib.hid hn
    clear hn
    go_enter Tryz.func35, Tryz.ntmps35
    go_wp2_with fail
    go_loopw [13] (fun v13 wr => ∃ i : Nat, i ≤ l0.length ∧ v13 = .int .i64 i ∧ Hid (eqL l0 l1 = eqL (l0.drop i) (l1.drop i)) ∧ Hid (∃ n, wr = w.drewN n)) (fun v13 _ => l0.length - (vI v13).toNat)
    case atStart => exact ⟨0, by omega, rfl, Lib.hid (by simp), Lib.hid ⟨0, rfl⟩⟩
    case round =>
      obtain ⟨i, hi, rfl, hE, hD⟩ := hrel
      by_cases hlt : i < l0.length
      · have hlt1 : i < l1.length := by rw [← HN.out]; exact hlt
        obtain ⟨b, o, rfl, _, hc⟩ := shares_at H0.out (by omega)
        obtain ⟨b', o', rfl, _, hc'⟩ := shares_at H1.out (by omega)
        have hcw : ∀ (p : Addr), wr.cell? p = w.cell? p := fun p => by obtain ⟨n, hn⟩ := hD.out; rw [hn]; rfl
        obtain ⟨d0, d1⟩ := hc i hlt
        obtain ⟨e0, e1⟩ := hc' i hlt1
        rw [← hcw] at d0 d1 e0 e1
        have hS := Lib.hid (eqL_drop hlt hlt1)
        have hu : ∀ x y : S51, eqS x y = (x.f0.toList == y.f0.toList && (x.f1 == y.f1)) := fun _ _ => rfl
        clear hc hc' hcw
        have hlt' : (i : Int) < (l0.length : Int) := by omega
        have hlt1' : (i : Int) < (l1.length : Int) := by omega
        generalize l0.getD i z51 = x at d0 d1 hS
        generalize l1.getD i z51 = y at e0 e1 hS
        obtain ⟨x0, x1⟩ := x
        obtain ⟨y0, y1⟩ := y
        simp only at d0 d1 e0 e1
        by_cases hq : (x0.toList == y0.toList && (x1 == y1)) = true
        · have hE' := Lib.hid (show eqL l0 l1 = eqL (l0.drop (i + 1)) (l1.drop (i + 1)) from by rw [hE.out, hS.out, hu]; simp only [hq, Bool.true_and])
          clear hu
          go_wp2_with fail
          go_quiet (fail)
          go_wp2_with fail
          go_roundw
          case rel => exact ⟨i + 1, by omega, by go_num, hE', Lib.hid (by obtain ⟨n, hn⟩ := hD.out; exact ⟨_, by rw [hn, World.drewN_drewN]⟩)⟩
          case measure => simp [vI]; omega
        · have hq' : (x0.toList == y0.toList && (x1 == y1)) = false := by simpa using hq
          have hE' := Lib.hid (show eqL l0 l1 = false from by rw [hE.out, hS.out, hu]; simp only [hq', Bool.false_and])
          clear hu hq
          go_wp2_with fail
          go_quiet (fail)
          go_wp2_with fail
          go_ret
          exact ⟨(congrArg (fun b => Ending.returned (.bool b)) hE'.out).symm, by obtain ⟨n, hn⟩ := hD.out; exact ⟨_, by rw [hn, World.drewN_drewN]⟩⟩
      · have hE' := Lib.hid (show eqL l0 l1 = true from by rw [hE.out, List.drop_of_length_le (by omega), List.drop_of_length_le (by have := HN.out; omega)]; rfl)
        go_wp2_with fail
        go_ret
        exact ⟨(congrArg (fun b => Ending.returned (.bool b)) hE'.out).symm, hD.out⟩
  · have hd : ((l0.length : Int) != (l1.length : Int)) = true := by simp; omega
    have hE' := Lib.hid (eqL_len hn)
    clear hn
    go_enter Tryz.func35, Tryz.ntmps35
    go_wp2_with fail
    go_ret
    exact ⟨(congrArg (fun b => Ending.returned (.bool b)) hE'.out).symm, 0, rfl⟩

end Go.Proofs.YtnkmpkhiilnigaaGreatDoor.PA

/- lead's Roller: what lies in memory; New, Table, Drop. (Printed by genx.py from roller.src.) -/
namespace Go.Proofs.YtnkmpkhiilnigaaGreatDoor.PA
open Go.RowKit Go.Shelf Go.Lib Go.Sort Go.Proofs.YtnkmpkhiilnigaaGreatDoorW.PrintWords Go.Proofs.YtnkmpkhiilnigaaGreatDoorW.PrintLast

/-- A route's way: from where, to where, since when, for how long; its table, as it was told last. -/
structure WayM where
  fr : List S51
  dst : List S51
  since : Int
  whole : Int
  now : List S51
  tags : List S83

/-- Its row's block is one that ok allows (nothing is asked where it is empty). -/
def InOk (ok : Nat → Prop) (A : Option Addr) (n : Nat) : Prop := 0 < n → ∀ a, A = some a → ok a.block

/-- What leads to rows that are read does not change while their blocks stay. -/
theorem c_move {α : Type} {d : Kd α} (hd : ∀ {w w' : World} {x cs}, d.K w x cs → d.K w' x cs) {w w' : World} {A : Option Addr} {l : List α} (h : Kd.C d w A l.length l) (hb : 0 < l.length → ∀ a, A = some a → w'.heap[a.block]? = w.heap[a.block]?) : Kd.C d w' A l.length l := by
  obtain ⟨h1, h2, h3⟩ := h
  refine ⟨h1, h2, fun hp => ?_⟩
  obtain ⟨ad, rfl, hc⟩ := h3 hp
  refine ⟨ad, rfl, fun j p hj => ?_⟩
  obtain ⟨c, hl, hk, hcell⟩ := hc j p hj
  refine ⟨c, hl, hd hk, fun i u hu => ?_⟩
  have hbk : (ad.add (j * d.sz + i)).block = ad.block := by unfold Addr.add; split <;> rfl
  have hcl := World.cell?_of_block (a := ad.add (j * d.sz + i)) (w := w) (w' := w') (by rw [hbk]; exact hb hp ad rfl)
  exact hcl.trans (hcell i u hu)

theorem k_share {w w' : World} {x : S51} {cs : List Value} (h : k51.K w x cs) : k51.K w' x cs := h
theorem k_tag {w w' : World} {x : S83} {cs : List Value} (h : k83.K w x cs) : k83.K w' x cs := h

/-- The value v is the way m. -/
def WayAt (w : World) (ok : Nat → Prop) (v : Value) (m : WayM) : Prop := ∃ A0 c0 A1 c1 A2 c2 A3 c3,
  v = .agg #[.slice A0 m.fr.length c0, .slice A1 m.dst.length c1, .int .i64 m.since, .int .i64 m.whole, .slice A2 m.now.length c2, .slice A3 m.tags.length c3] ∧
  (Kd.C k51 w A0 m.fr.length m.fr ∧ Kd.C k51 w A1 m.dst.length m.dst ∧ Kd.C k51 w A2 m.now.length m.now ∧ Kd.C k83 w A3 m.tags.length m.tags) ∧
  (InOk ok A0 m.fr.length ∧ InOk ok A1 m.dst.length ∧ InOk ok A2 m.now.length ∧ InOk ok A3 m.tags.length)

theorem share_lt {w : World} {A : Option Addr} {l : List S51} (h : Kd.C k51 w A l.length l) (hp : 0 < l.length) : ∀ a, A = some a → a.block < w.heap.size := fun a e => by
  subst e
  obtain ⟨b, o, e, hb, _⟩ := shares_at h hp
  cases e
  exact hb
theorem tag_lt {w : World} {A : Option Addr} {l : List S83} (h : Kd.C k83 w A l.length l) (hp : 0 < l.length) : ∀ a, A = some a → a.block < w.heap.size := fun a e => by
  subst e
  obtain ⟨b, o, e, hb, _⟩ := tags_at h hp
  cases e
  exact hb

theorem c_chg {F : Nat → Prop} {ok : Nat → Prop} {w w' : World} {A : Option Addr} {l : List S51} (h : Kd.C k51 w A l.length l) (ho : InOk ok A l.length) (hc : Chg F w w') (hF : ∀ k, ok k → k < w.heap.size → ¬ F k) : Kd.C k51 w' A l.length l :=
  c_move k_share h fun hp a e => hc.block a.block (share_lt h hp a e) (hF _ (ho hp a e) (share_lt h hp a e))
theorem ct_chg {F : Nat → Prop} {ok : Nat → Prop} {w w' : World} {A : Option Addr} {l : List S83} (h : Kd.C k83 w A l.length l) (ho : InOk ok A l.length) (hc : Chg F w w') (hF : ∀ k, ok k → k < w.heap.size → ¬ F k) : Kd.C k83 w' A l.length l :=
  c_move k_tag h fun hp a e => hc.block a.block (tag_lt h hp a e) (hF _ (ho hp a e) (tag_lt h hp a e))

theorem WayAt.chg {F : Nat → Prop} {ok : Nat → Prop} {w w' : World} {v : Value} {m : WayM} (h : WayAt w ok v m) (hc : Chg F w w') (hF : ∀ k, ok k → k < w.heap.size → ¬ F k) : WayAt w' ok v m := by
  obtain ⟨A0, c0, A1, c1, A2, c2, A3, c3, e, ⟨h0, h1, h2, h3⟩, o0, o1, o2, o3⟩ := h
  exact ⟨A0, c0, A1, c1, A2, c2, A3, c3, e, ⟨c_chg h0 o0 hc hF, c_chg h1 o1 hc hF, c_chg h2 o2 hc hF, ct_chg h3 o3 hc hF⟩, o0, o1, o2, o3⟩
theorem InOk.mono {ok ok' : Nat → Prop} {A : Option Addr} {n : Nat} (h : InOk ok A n) (hlt : ∀ k, ok k → (0 < n → ∀ a, A = some a → a.block = k → ok' k)) : InOk ok' A n := fun hp a e => hlt _ (h hp a e) hp a e rfl
theorem WayAt.okm {ok ok' : Nat → Prop} {w : World} {v : Value} {m : WayM} (h : WayAt w ok v m) (hm : ∀ k, ok k → k < w.heap.size → ok' k) : WayAt w ok' v m := by
  obtain ⟨A0, c0, A1, c1, A2, c2, A3, c3, e, ⟨h0, h1, h2, h3⟩, o0, o1, o2, o3⟩ := h
  exact ⟨A0, c0, A1, c1, A2, c2, A3, c3, e, ⟨h0, h1, h2, h3⟩, fun hp a e => hm _ (o0 hp a e) (share_lt h0 hp a e), fun hp a e => hm _ (o1 hp a e) (share_lt h1 hp a e), fun hp a e => hm _ (o2 hp a e) (share_lt h2 hp a e), fun hp a e => hm _ (o3 hp a e) (tag_lt h3 hp a e)⟩

/-- Names of routes. -/
def routes : List (List UInt8) := [[102, 114, 111, 110, 116], [98, 97, 99, 107], [114, 45, 49], [120], [115, 116, 105, 108, 108]]
theorem nodup_len {α : Type} [BEq α] [LawfulBEq α] : ∀ {S N : List α}, S.Nodup → (∀ x ∈ S, x ∈ N) → S.length ≤ N.length
  | [], _, _, _ => Nat.zero_le _
  | x :: S, N, hn, h => by
    have hx := h x List.mem_cons_self
    obtain ⟨h1, h2⟩ := List.nodup_cons.1 hn
    have ih := nodup_len (S := S) (N := N.erase x) h2 (fun y hy => (List.mem_erase_of_ne (fun e : y = x => h1 (by rw [← e]; exact hy))).2 (h y (List.mem_cons_of_mem _ hy)))
    rw [List.length_erase_of_mem hx] at ih
    have := List.length_pos_of_mem hx
    rw [List.length_cons]
    omega

/-- The Roller at block p, its map at block b: the ways M. -/
structure RollerAt (w : World) (p b : Nat) (ok : Nat → Prop) (M : List UInt8 → Option WayM) : Prop where
  blk : Blk w p #[.map (some b)] 97
  ne : p ≠ b
  apart : ∀ k, ok k → k ≠ b
  map : ∃ S f, (∀ x ∈ S, x ∈ routes) ∧ OwnsM w Tryz.prog 9 b S f ∧ (∀ x, x ∈ S ↔ (M x).isSome = true) ∧ ∀ x m, M x = some m → WayAt w ok (f x) m

theorem RollerAt.chg {F : Nat → Prop} {ok : Nat → Prop} {w w' : World} {p b : Nat} {M : List UInt8 → Option WayM} (h : RollerAt w p b ok M) (hc : Chg F w w') (hp : ¬ F p) (hb : ¬ F b) (hF : ∀ k, ok k → k < w.heap.size → ¬ F k) : RollerAt w' p b ok M := by
  obtain ⟨h1, h2, ha, S, f, h3, h4, h5, h6⟩ := h
  exact ⟨h1.chg hc hp, h2, ha, S, f, h3, h4.chg hc hb, h5, fun x m e => (h6 x m e).chg hc hF⟩
theorem RollerAt.below {ok : Nat → Prop} {w w' : World} {p b : Nat} {M : List UInt8 → Option WayM} (h : RollerAt w p b ok M) (hc : Below w.heap.size w w') : RollerAt w' p b ok M :=
  h.chg (Chg.of_below hc (F := fun _ => False) (fun k hk hk' => by omega)) id id (fun _ _ _ => id)
theorem RollerAt.okm {ok ok' : Nat → Prop} {w : World} {p b : Nat} {M : List UInt8 → Option WayM} (h : RollerAt w p b ok M) (hb : ∀ k, ok' k → k ≠ b) (hm : ∀ k, ok k → k < w.heap.size → ok' k) : RollerAt w p b ok' M := by
  obtain ⟨h1, h2, _, S, f, h3, h4, h5, h6⟩ := h
  exact ⟨h1, h2, hb, S, f, h3, h4, h5, fun x m e => (h6 x m e).okm hm⟩

def noWays : List UInt8 → Option WayM := fun _ => none
def setWay (x : List UInt8) (m : Option WayM) (M : List UInt8 → Option WayM) : List UInt8 → Option WayM := fun y => if y = x then m else M y

theorem new_calls (w : World) : Calls Tryz.prog 11 #[] w fun e w' => ∃ p b, e = .returned (.pointer (some ⟨p, 0, none⟩)) ∧ RollerAt w' p b (fun k => k ≠ b) noWays ∧ w.heap.size ≤ p ∧ w.heap.size ≤ b ∧ Below w.heap.size w w' := by
  have hmm := @run_makeMap Tryz.prog
  go_enter Tryz.func11, Tryz.ntmps11
  go_wp2_with fail
  go_ret
  refine ⟨_, w.heap.size, rfl, ⟨by simpa using Blk.new (w.alloc (.map #[] 0)) #[.map (some w.heap.size)] 97, by simp, fun _ h => h, [], fun _ => .bool false, fun _ h => (List.not_mem_nil h).elim, ((OwnsM.made w _ _ _).same (by
    show ((w.alloc (.map #[] 0)).heap.push _)[w.heap.size]? = _
    simp [Array.getElem?_push])), fun x => by simp [noWays], fun x m e => by cases e⟩, by simp, by simp, ((Below.refl _ _).alloc (Nat.le_refl _) _).alloc (by simp) _⟩

/-- A map's element type's nought. -/
theorem zeroWay (w : World) : (zeroValue 99).run Tryz.prog w = .ok (.agg #[.slice none 0 0, .slice none 0 0, .int .i64 0, .int .i64 0, .slice none 0 0, .slice none 0 0]) w := by kernel_rfl

theorem table_none {w : World} {p b : Nat} {ok : Nat → Prop} {M : List UInt8 → Option WayM} (h : RollerAt w p b ok M) (name : ByteArray) (hs : name.size ≤ 1000) (hM : M name.data.toList = none) :
    Calls Tryz.prog 12 #[.pointer (some ⟨p, 0, none⟩), .string name] w fun e w' => e = .returned (.tuple #[.agg #[.slice none 0 0, .slice none 0 0], .bool false]) ∧ Below w.heap.size w w' := by
  obtain ⟨hb, hne, hap, S, f, hS, hm, hMS, hW⟩ := h
  have c0 := hb.cell 0
  have hpl := hb.lt
  simp only [List.getElem?_toArray, List.getElem?_cons_zero] at c0
  have hno : name.data.toList ∉ S := fun hin => by have := (hMS _).1 hin; rw [hM] at this; cases this
  have HN := Lib.hid hno
  have hm1 := Lib.hid (hm.same (Below.heap_alloc w (.cells #[.slice none 0 0, .slice none 0 0] 36) b hm.lt))
  clear hW hMS hM hno hm
  go_enter Tryz.func12, Tryz.ntmps12
  go_wp2_with (at_lookup; refine wpList_lookokM _ rfl _ _ 95 rfl 9 99 Tryz.underlying9 Tryz.underlying95 _ (zeroWay _) b S f rfl hm1.out name rfl (by unfold maxLen; omega) false (decide_eq_false HN.out) _ (if_neg HN.out) ?_)
  exact bodyPost_ret (v := .tuple #[.agg #[.slice none 0 0, .slice none 0 0], .bool false]) (by simp [results, Tryz.results12, go_sem]) rfl ⟨rfl, (((Below.refl _ _).alloc (Nat.le_refl _) _).alloc (by simp) _).trans (by repeat (first | exact Below.refl _ _ | refine Below.setCell ?_ (by simp) _))⟩

end Go.Proofs.YtnkmpkhiilnigaaGreatDoor.PA
