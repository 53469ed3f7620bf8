/- roll.Shares: the walk. -/
import Derived.Test.YtnkmpkhiilnigaaGreatDoorGShares
import Derived.IntWalk
namespace Go.Proofs.YtnkmpkhiilnigaaGreatDoor.PA
open Go.RowKit Go.Shelf Go.Lib Go.Sort Go.Proofs.YtnkmpkhiilnigaaGreatDoorW.PrintWords Go.Proofs.YtnkmpkhiilnigaaGreatDoorW.PrintLast

theorem new_at (w : World) (o : Obj) : (w.alloc o).heap[w.heap.size]? = some o := by show (w.heap.push _)[w.heap.size]? = _; simp

/-- A block of numbers. -/
def NumsAt (w : World) (b : Nat) (M : List Int) : Prop := Blk w b (M.map (Value.int .i64)).toArray 3

theorem NumsAt.cell {w : World} {b : Nat} {M : List Int} (h : NumsAt w b M) (i : Nat) (hi : i < M.length) : w.cell? ⟨b, i, none⟩ = some (.int .i64 (M.getD i 0)) := by
  rw [Blk.cell h i]
  simp [List.getD_eq_getElem?_getD, hi]
theorem NumsAt.set {w : World} {b : Nat} {M : List Int} (h : NumsAt w b M) (i : Nat) (v : Int) : NumsAt (w.setCell ⟨b, i, none⟩ (.int .i64 v)) b (M.set i v) :=
  Blk.set h i _ (by simp [List.map_set])
theorem NumsAt.of_own {w : World} {base g n : Nat} (h : w.ownsRow base 3 1 (.slice (some ⟨g, 0, none⟩) n n) n (madeCells (Value.int .i64 0).cells (n * 1)).toList) : NumsAt w g (List.replicate n 0) ∧ base ≤ g := by
  rcases h.2 with ⟨h0, _⟩ | ⟨g', cap', cur, he, hb, hh, h3, h4, h5, h6⟩
  · simp at h0
  · simp only [Value.slice.injEq, Option.some.injEq, Addr.mk.injEq, and_true, true_and] at he
    obtain ⟨rfl, rfl⟩ := he
    refine ⟨?_, hb⟩
    unfold NumsAt Blk
    rw [hh]
    congr 2
    rw [List.take_of_length_le (by simp [h5])] at h6
    have : cur = (madeCells (Value.int .i64 0).cells (n * 1)) := by rw [← Array.toList_inj]; exact h6
    rw [this]
    apply Array.ext_getElem?
    intro j
    by_cases hj : j < n
    · simp [madeCells, Value.cells, hj, Nat.mod_one]
    · rw [Array.getElem?_eq_none (by rw [size_madeCells]; omega), Array.getElem?_eq_none (by simp; omega)]

theorem infoInt : (Tryz.prog.info? 3).map (fun i => (i.zero, i.size, i.bytes)) = some (some (.int .i64 0), 1, 8) := by kernel_rfl

/-- The first loop's list so far: the gains, then noughts. -/
def mv1 (gs : List Int) (i : Nat) : List Int := gs.take i ++ List.replicate (gs.length - i) 0
theorem mv1_len (gs : List Int) (i : Nat) (hi : i ≤ gs.length) : (mv1 gs i).length = gs.length := by simp [mv1]; omega
theorem mv1_skip (gs : List Int) (i : Nat) (hi : i < gs.length) (h0 : gs.getD i 0 = 0) : mv1 gs (i + 1) = mv1 gs i := by
  apply List.ext_getElem?
  intro j
  unfold mv1
  have hl : (List.take i gs).length = i := by simp; omega
  have hl1 : (List.take (i + 1) gs).length = i + 1 := by simp; omega
  have hg : gs.getD i 0 = gs[i] := by simp [List.getD_eq_getElem?_getD, hi]
  by_cases h1 : j < i
  · rw [List.getElem?_append_left (by omega), List.getElem?_append_left (by omega), List.getElem?_take_of_lt h1, List.getElem?_take_of_lt (by omega)]
  · rw [List.getElem?_append_right (by omega : (List.take i gs).length ≤ j), hl, List.getElem?_replicate]
    by_cases e : i = j
    · subst e
      rw [List.getElem?_append_left (by omega), List.getElem?_take_of_lt (by omega), List.getElem?_eq_getElem hi, ← hg, h0, if_pos (by omega)]
    · rw [List.getElem?_append_right (by omega), hl1, List.getElem?_replicate]
      by_cases h2 : j < gs.length
      · rw [if_pos (by omega), if_pos (by omega)]
      · rw [if_neg (by omega), if_neg (by omega)]
theorem mv1_set (gs : List Int) (i : Nat) (hi : i < gs.length) : (mv1 gs i).set i (gs.getD i 0) = mv1 gs (i + 1) := by
  apply List.ext_getElem?
  intro j
  unfold mv1
  rw [List.getElem?_set]
  have hl : (List.take i gs).length = i := by simp; omega
  have hl1 : (List.take (i + 1) gs).length = i + 1 := by simp; omega
  have hg : gs.getD i 0 = gs[i] := by simp [List.getD_eq_getElem?_getD, hi]
  by_cases e : i = j
  · subst e
    rw [if_pos rfl, if_pos (by simp; omega), List.getElem?_append_left (by omega), List.getElem?_take_of_lt (by omega), List.getElem?_eq_getElem hi, hg]
  · rw [if_neg e]
    by_cases h1 : j < i
    · rw [List.getElem?_append_left (by omega), List.getElem?_append_left (by omega), List.getElem?_take_of_lt h1, List.getElem?_take_of_lt (by omega)]
    · rw [List.getElem?_append_right (by omega), List.getElem?_append_right (by omega), hl, hl1, List.getElem?_replicate, List.getElem?_replicate]
      by_cases h2 : j < gs.length
      · rw [if_pos (by omega), if_pos (by omega)]
      · rw [if_neg (by omega), if_neg (by omega)]

theorem below_step {w0 w1 w2 : World} (h : Below w0.heap.size w0 w1) (k : Below w1.heap.size w1 w2) : Below w0.heap.size w0 w2 := h.trans (k.mono h.size)

theorem keepB {w w' : World} {g i : Nat} {v : Value} (hc : w.cell? ⟨g, i, none⟩ = some v) (hg : g < w.heap.size) (hb : Below w.heap.size w w') : w'.cell? ⟨g, i, none⟩ = some v ∧ Below w.heap.size w w' := ⟨(hb.cell (p := ⟨g, i, none⟩) hg).trans hc, hb⟩

theorem c_at {w wr W : World} {A : Option Addr} {n : Nat} {l : List S51} (h : Kd.C k51 w A n l) (b : Below w.heap.size w wr) (k : Below wr.heap.size wr W) : Kd.C k51 W A n l := Kd.C_below h (below_step b k)

set_option maxRecDepth 100000 in
set_option maxHeartbeats 4000000 in
theorem shares_way (A0 : Option Addr) (c0 : Nat) (l0 : List S51) (A1 : Option Addr) (c1 : Nat) (l1 : List S51) (gone whole : Int) (w : World) (hr0 : Kd.C k51 w A0 l0.length l0) (hr1 : Kd.C k51 w A1 l1.length l1)
    (hf0 : Fine l0) (hf1 : Fine l1) (g0 : 0 < gone) (g1 : gone < whole) (hw : whole ≤ 1000000000) (ns : List (List UInt8)) (hns : ns = namesOf (l0 ++ l1)) (gs : List Int) (hgs : gs = gains l0 l1 gone whole ns) :
    Calls Tryz.prog 36 #[.slice A0 l0.length c0, .slice A1 l1.length c1, .int .i64 gone, .int .i64 whole] w fun e w' => ∃ v, e = .returned v ∧ RowG el51 w' w.heap.size v (ns.foldl (stepR l0 l1 gone whole) (gs.sum, [])).2 ∧ Below w.heap.size w w' := by
  have hl0 := hf0.1
  have hl1 := hf1.1
  have hnl : ns.length ≤ 2000 := by have := names_le (l0 ++ l1); rw [← hns, List.length_append] at this; omega
  have hgl : gs.length = ns.length := by rw [hgs]; simp [gains]
  have HNS := Lib.hid hns
  have HGS := Lib.hid hgs
  have HGL := Lib.hid hgl
  have HF0 := Lib.hid hf0
  have HF1 := Lib.hid hf1
  have HR0 := Lib.hid hr0
  have HR1 := Lib.hid hr1
  clear hns hgs hgl hf0 hf1 hr0 hr1
  have nl1 : ¬ whole ≤ 0 := by omega
  have nl2 : ¬ whole ≤ gone := by omega
  have nl3 : ¬ gone ≤ 0 := by omega
  have b0 : Below w.heap.size w w := Below.refl _ _
  go_enter Tryz.func36, Tryz.ntmps36
  go_wp2_with fail
  have bA : Below w.heap.size w (w.alloc (.cells #[.slice A0 l0.length c0, .slice A1 l1.length c1] 33)) := (Below.refl _ w).alloc (Nat.le_refl _) _
  refine (sorted_calls w.heap.size A0 c0 l0 A1 c1 l1 _ (by show (w.heap.push _)[w.heap.size]? = _; simp) (Kd.C_below HR0.out bA) (Kd.C_below HR1.out bA) hl0 hl1).mono ?_
  rintro e w1 ⟨v9, rfl, hrow0, hb1⟩
  rw [← HNS.out] at hrow0
  have b1 := bA.trans (hb1.mono bA.size)
  have hrowN := hrow0.lower bA.size
  have z1 := b1.size
  clear hb1 bA b0 hrow0
  obtain ⟨A9, c9, rfl, hc9, hsh⟩ := hrowN.shape
  clear hsh
  obtain ⟨i0, hi, hz0, hz1, hz2⟩ := info_parts infoInt
  have HR := Lib.hid hrowN
  clear hrowN
  go_wp2_with (at_make; refine wpList_make_full _ rfl _ _ 23 rfl w.heap.size 3 i0 (.int .i64 0) 1 Tryz.underlying23 hi hz0 hz1 .i64 .i64 _ _ ns.length (by rfl) (by rfl) rfl rfl (by rw [hz2]; omega) (by unfold maxLen; omega) z1 ?_; intro w2 hm hg2)
  obtain ⟨hN0, hmv⟩ := NumsAt.of_own hm
  obtain ⟨mv, hmve⟩ : ∃ mv, mv = w1.heap.size := ⟨_, rfl⟩
  rw [← hmve] at hN0 hmv
  have hb2 : Below w1.heap.size w1 w2 := ⟨hg2.os, hg2.tape, hg2.output, hg2.size, fun k hk => hg2.block k hk (by simp)⟩
  have b2 := b1.trans (hb2.mono z1)
  have hrow2 := Lib.hid (HR.out.below hb2 (Nat.le_refl _))
  have hcells : 0 < ns.length → ∃ g9, A9 = some ⟨g9, 0, none⟩ ∧ g9 < mv ∧ w.heap.size ≤ g9 ∧ ∀ j (hj : j < ns.length), w2.cell? ⟨g9, j, none⟩ = some (.string (bs ns[j])) := fun hp => by
    obtain ⟨g, c, he, _, _, h1, h2, h3⟩ := HR.out.cells hp
    cases he
    refine ⟨g, rfl, hmve ▸ h2, h1, fun j hj => ?_⟩
    rw [hb2.cell (p := ⟨g, j, none⟩) h2]
    have := h3 j hj 0 (by show 0 < 1; omega)
    rw [show j * elS.size + 0 = j from by show j * 1 + 0 = j; omega] at this
    rw [this]
    rfl
  have HCE := Lib.hid hcells
  have hmlt : mv < w2.heap.size := Blk.lt hN0
  have HMV := Lib.hid hmve
  have c2 : Chg (fun k => k = mv) w2 w2 := Chg.refl _ _
  clear hm hg2 hi hz0 hz1 hz2 hb2 b1 HR hcells hmve z1 hrow2
  rw [show List.replicate ns.length 0 = mv1 gs 0 from by rw [← HGL.out]; simp [mv1]] at hN0
  rw [← HMV.out]
  go_wp2_with fail
  go_loopw [11, 42] (fun v11 v42 wr => ∃ (i : Nat), i ≤ ns.length ∧ v42 = .int .i64 i ∧ v11 = .int .i64 ((gs.take i).sum) ∧ NumsAt wr mv (mv1 gs i) ∧ Chg (fun k => k = mv) w2 wr) (fun _ v42 _ => ns.length - (vI v42).toNat)
  case atStart => exact ⟨0, by omega, rfl, by simp, hN0, c2⟩
  case round =>
    clear hN0 c2
    obtain ⟨i, hi, rfl, rfl, hN, hc⟩ := hrel
    by_cases hlt : i < ns.length
    · obtain ⟨g9, rfl, hg9, hg9w, hcs⟩ := HCE.out (by omega)
      have hce := (World.cell?_of_block (a := ⟨g9, i, none⟩) (hc.block g9 (by omega) (by omega))).trans (hcs i hlt)
      have hlt' : (i : Int) < (ns.length : Int) := by omega
      clear hcs
      have hgw : g9 < wr.heap.size := by have := hc.size; omega
      have bwr : Below w.heap.size w wr := b2.trans ⟨hc.os, hc.tape, hc.output, hc.size, fun k hk => hc.block k (by have := b2.size; omega) (by omega)⟩
      have hcd : NumsAt wr mv (mv1 gs i) := hN
      generalize hnm : ns[i] = nm at hce
      have HNM := Lib.hid hnm
      clear hnm
      obtain ⟨x0, x1⟩ := wt_fine HF0.out.2 (bs nm)
      obtain ⟨y0, y1⟩ := wt_fine HF1.out.2 (bs nm)
      have hsub : IntKind.i64.wrap (wt l1 (bs nm) - wt l0 (bs nm)) = wt l1 (bs nm) - wt l0 (bs nm) := IntWalk.i64_in _ (by omega)
      have HX := Lib.hid (show -1000 ≤ dOf l0 l1 nm ∧ dOf l0 l1 nm ≤ 1000 from by unfold dOf; omega)
      go_upto_region 11 with fail
      go_cut [13] from 43 to 74 (fun s wx => s = .int .i64 (dOf l0 l1 nm) ∧ Below wr.heap.size wr wx)
      case first =>
        go_region_held3 (fun w' => w'.cell? ⟨g9, i, none⟩ = some (.string (bs nm)) ∧ Below wr.heap.size wr w')
          (((try dsimp only at *)
            (try go_split_ands)
            refine keepB hce hgw ?_
            (first
              | assumption
              | exact (Below.refl _ _).drew
              | exact below_step (by assumption) hbz)))
          (first
            | ((try dsimp only at *); (try go_split_ands); go_at_call 54; with_reducible refine (weight_calls A1 c1 l1 _ _ ?_).mono ?_; exact c_at HR1.out bwr (by assumption); rintro e wz ⟨rfl, hbz⟩)
            | ((try dsimp only at *); (try go_split_ands); go_at_call 54; with_reducible refine (weight_calls A0 c0 l0 _ _ ?_).mono ?_; exact c_at HR0.out bwr (by assumption); rintro e wz ⟨rfl, hbz⟩))
        all_goals (
          go_wp2_with fail
          go_meet
          exact ⟨rfl, below_step (by assumption) hbz⟩)
      case rest =>
        obtain ⟨rfl, hbx⟩ := hcut
        clear hsub x0 x1 y0 y1 hce bwr
        have hcx : Chg (fun k => k = mv) w2 wc := hc.trans (Chg.of_below hbx (F := fun _ => False) (fun k hk hk' => by omega)) (fun _ _ h => h.elim)
        have hNx : NumsAt wc mv (mv1 gs i) := hN.chg (Chg.of_below hbx (F := fun _ => False) (fun k hk hk' => by omega)) (fun h => h)
        clear hcd hN hc hbx hgw
        have hsum : (gs.take (i + 1)).sum = (gs.take i).sum + gs.getD i 0 := by
          have hi' : i < gs.length := by rw [HGL.out]; exact hlt
          rw [List.take_succ_eq_append_getElem hi', List.sum_append]
          simp [List.getD_eq_getElem?_getD, hi']
        have hgi : gs.getD i 0 = gainI l0 l1 gone whole nm := by
          rw [HGS.out]
          simp [gains, List.getD_eq_getElem?_getD, hlt, HNM.out]
        have HGI := Lib.hid hgi
        have HSUM := Lib.hid hsum
        clear hsum hgi
        have hmc := hNx.cell i (by rw [mv1_len gs i (by rw [HGL.out]; omega), HGL.out]; exact hlt)
        have hmf := Blk.frozen hNx i
        have hmset := mv1_set gs i (by rw [HGL.out]; exact hlt)
        have HMS := Lib.hid hmset
        clear hmset
        have hgf := Lib.hid (gain_fine HF0.out HF1.out g0 g1 nm)
        have hsb := Lib.hid (show 0 ≤ (gs.take i).sum ∧ (gs.take i).sum ≤ 2000000 from by
          have h1 := sum_fine (gainI l0 l1 gone whole) 1000 (by omega) (ns.take i) (fun x _ => ⟨(gain_fine HF0.out HF1.out g0 g1 x).1, (gain_fine HF0.out HF1.out g0 g1 x).2.1⟩)
          rw [HGS.out]
          unfold gains
          rw [← List.map_take]
          have : (ns.take i).length ≤ 2000 := by simp; omega
          omega)
        generalize hd : dOf l0 l1 nm = d at HX
        have HD := Lib.hid hd
        clear hd
        by_cases hd0 : 0 < d
        · have hq : gainI l0 l1 gone whole nm = d * gone / whole := by unfold gainI; rw [HD.out, if_pos hd0]
          have hp0 : 0 ≤ d * gone := Int.mul_nonneg (by omega) (by omega)
          have hp1 : d * gone ≤ 1000 * 1000000000 := Int.mul_le_mul HX.out.2 (by omega) (by omega) (by omega)
          obtain ⟨q0, q1, _⟩ := hgf.out
          obtain ⟨s0, s1⟩ := hsb.out
          have hwm : IntKind.i64.wrap (d * gone) = d * gone := IntWalk.i64_in _ (by omega)
          have hdv : (d * gone).tdiv whole = gs.getD i 0 := by rw [HGI.out, hq, Int.tdiv_eq_ediv_of_nonneg hp0]
          rw [← HGI.out] at q0 q1
          clear hq
          obtain ⟨q, hqe⟩ : ∃ q, q = gs.getD i 0 := ⟨_, rfl⟩
          rw [← hqe] at hdv q0 q1
          have HQ := Lib.hid hqe
          clear hqe
          go_wp2_with fail
          go_roundw
          case rel => exact ⟨i + 1, by omega, by go_num, by rw [HSUM.out, HQ.out], by rw [← HMS.out, ← HQ.out]; exact hNx.set i q, hcx.setCell (a := ⟨mv, i, none⟩) (fun _ => rfl) _⟩
          case measure => simp [vI]; omega
        · have hq : gs.getD i 0 = 0 := by rw [HGI.out]; unfold gainI; rw [HD.out, if_neg hd0]
          have hd1 : d ≤ 0 := by omega
          have HMK := Lib.hid (mv1_skip gs i (by rw [HGL.out]; exact hlt) hq)
          have HQ := Lib.hid hq
          clear hq hd0
          go_wp2_with fail
          go_roundw
          case rel => exact ⟨i + 1, by omega, by go_num, by rw [HSUM.out, HQ.out]; simp, by rw [HMK.out]; exact hNx, hcx⟩
          case measure => simp [vI]; omega
    · obtain rfl : ns.length = i := by omega
      have hsumE : (gs.take ns.length).sum = gs.sum := by rw [List.take_of_length_le (by rw [HGL.out]; omega)]
      have hmvE : mv1 gs ns.length = gs := by unfold mv1; rw [HGL.out]; simp [List.take_of_length_le (show gs.length ≤ ns.length by rw [HGL.out]; omega)]
      rw [hsumE]
      rw [hmvE] at hN
      clear hsumE hmvE
      obtain ⟨Bo, hBo⟩ : ∃ Bo, Bo = wr.heap.size := ⟨_, rfl⟩
      have hBo1 : Bo ≤ wr.heap.size := by omega
      have hBo2 : w2.heap.size ≤ Bo := by have := hc.size; omega
      clear hBo
      have hss := Lib.hid (show 0 ≤ gs.sum ∧ gs.sum ≤ 2000000 from by
        have h1 := sum_fine (gainI l0 l1 gone whole) 1000 (by omega) ns (fun x _ => ⟨(gain_fine HF0.out HF1.out g0 g1 x).1, (gain_fine HF0.out HF1.out g0 g1 x).2.1⟩)
        rw [HGS.out]
        unfold gains
        omega)
      have hnM : ∃ M : List Int, NumsAt wr mv M ∧ M.length = ns.length ∧ Hid (∀ j, 0 ≤ j → M.getD j 0 = gs.getD j 0) := ⟨gs, hN, HGL.out, Lib.hid (fun _ _ => rfl)⟩
      go_wp2_with fail
      go_loopw [11, 14, 77] (fun v11 v14 v77 wr => ∃ (i : Nat) (g : Int) (L : List S51) (M : List Int), i ≤ ns.length ∧ v77 = .int .i64 i ∧ v11 = .int .i64 g ∧ Hid ((ns.take i).foldl (stepR l0 l1 gone whole) (gs.sum, []) = (g, L)) ∧ 0 ≤ g ∧ g ≤ 2000000 ∧ L.length ≤ i ∧ RowG el51 wr Bo v14 L ∧ NumsAt wr mv M ∧ Hid (M.length = ns.length) ∧ Hid (∀ j, i ≤ j → M.getD j 0 = gs.getD j 0) ∧ Chg (fun k => k = mv) w2 wr ∧ Bo ≤ wr.heap.size) (fun _ _ v77 _ => ns.length - (vI v77).toNat)
      case atStart =>
        obtain ⟨M, h1, h2, h3⟩ := hnM
        exact ⟨0, gs.sum, [], M, by omega, rfl, rfl, Lib.hid rfl, hss.out.1, hss.out.2, by simp, RowG.nil _ _ _, h1, Lib.hid h2, Lib.hid (fun j _ => h3.out j (by omega)), hc, hBo1⟩
      case round =>
        clear hN hc hnM hBo1
        obtain ⟨i, g, L, M, hi, rfl, rfl, hF, hg0, hg1, hLl, hrow, hN, hMl, hM, hc, hBr⟩ := hrel
        by_cases hlt : i < ns.length
        · obtain ⟨g9, rfl, hg9, hg9w, hcs⟩ := HCE.out (by omega)
          have hce := (World.cell?_of_block (a := ⟨g9, i, none⟩) (hc.block g9 (by omega) (by omega))).trans (hcs i hlt)
          have hlt' : (i : Int) < (ns.length : Int) := by omega
          clear hcs
          have hgw : g9 < wr.heap.size := by have := hc.size; omega
          have bwr : Below w.heap.size w wr := b2.trans ⟨hc.os, hc.tape, hc.output, hc.size, fun k hk => hc.block k (by have := b2.size; omega) (by omega)⟩
          have hst := Lib.hid (show (ns.take (i + 1)).foldl (stepR l0 l1 gone whole) (gs.sum, []) = stepR l0 l1 gone whole (g, L) ns[i] from by
            rw [List.take_succ_eq_append_getElem hlt, List.foldl_append, hF.out]
            rfl)
          have hgi := Lib.hid (show gs.getD i 0 = gainI l0 l1 gone whole ns[i] from by
            rw [HGS.out]
            simp [gains, List.getD_eq_getElem?_getD, hlt])
          generalize hnm : ns[i] = nm at hce hst hgi
          clear hnm
          have hgf := Lib.hid (gain_fine HF0.out HF1.out g0 g1 nm)
          obtain ⟨x0, x1⟩ := wt_fine HF0.out.2 (bs nm)
          obtain ⟨y0, y1⟩ := wt_fine HF1.out.2 (bs nm)
          go_wp2_with fail
          with_reducible refine (weight_calls A0 c0 l0 _ _ ?_).mono ?_
          exact Kd.C_below HR0.out bwr
          rintro e w4 ⟨rfl, hb4⟩
          have hce4 := (hb4.cell (p := ⟨g9, i, none⟩) hgw).trans hce
          have bw4 := below_step bwr hb4
          have z4 := hb4.size
          clear hce
          go_wp2_with fail
          with_reducible refine (weight_calls A1 c1 l1 _ _ ?_).mono ?_
          exact Kd.C_below HR1.out bw4
          rintro e w5 ⟨rfl, hb5⟩
          have hb45 := below_step hb4 hb5
          have hgw4 : g9 < w4.heap.size := by omega
          have hce := (hb5.cell (p := ⟨g9, i, none⟩) hgw4).trans hce4
          have z5 := hb45.size
          have hc5 : Chg (fun k => k = mv) w2 w5 := hc.trans (Chg.of_below hb45 (F := fun _ => False) (fun k hk hk' => by omega)) (fun _ _ h => h.elim)
          have hN5 : NumsAt w5 mv M := hN.chg (Chg.of_below hb45 (F := fun _ => False) (fun k hk hk' => by omega)) (fun h => h)
          have hrow5 := hrow.below hb45 (Nat.le_refl _)
          have hBr5 : Bo ≤ w5.heap.size := by omega
          have hg95 : g9 < w5.heap.size := by omega
          have hmc := hN5.cell i (by rw [hMl.out]; exact hlt)
          have hmf := Blk.frozen hN5 i
          clear hb4 hb5 hb45 bw4 z4 z5 hce4 hgw bwr hc hN hrow hBr
          obtain ⟨a, hae⟩ : ∃ a, a = wt l0 (bs nm) := ⟨_, rfl⟩
          obtain ⟨b, hbe⟩ : ∃ b, b = wt l1 (bs nm) := ⟨_, rfl⟩
          have hdo : dOf l0 l1 nm = b - a := by unfold dOf; rw [hae, hbe]
          rw [← hae] at x0 x1 ⊢
          rw [← hbe] at y0 y1 ⊢
          have hsx : stepR l0 l1 gone whole (g, L) nm = if b - a < 0 then (g - min (-(b - a)) g, if 0 < a - min (-(b - a)) g then L ++ [⟨bs nm, a - min (-(b - a)) g⟩] else L) else (g, if 0 < a + gainI l0 l1 gone whole nm then L ++ [⟨bs nm, a + gainI l0 l1 gone whole nm⟩] else L) := by
            unfold stepR
            simp only [hdo, ← hae]
          have HSX := Lib.hid hsx
          have HDO := Lib.hid hdo
          clear hsx hdo hae hbe
          have hslt : M.length = ns.length := hMl.out
          have hmsame : M.getD i 0 = gs.getD i 0 := hM.out i (Nat.le_refl _)
          have HSM := Lib.hid hmsame
          have HSL := Lib.hid hslt
          clear hslt hmsame
          by_cases hd0 : b < a
          · skip
            obtain ⟨m, hme⟩ : ∃ m, m = min (a - b) g := ⟨_, rfl⟩
            have hm0 : 0 ≤ m := by omega
            have hm1 : m ≤ a - b := by omega
            have hm2 : m ≤ g := by omega
            have HS2 := Lib.hid (show (ns.take (i + 1)).foldl (stepR l0 l1 gone whole) (gs.sum, []) = (g + -m, if 0 < a + -m then L ++ [⟨bs nm, a + -m⟩] else L) from by
              rw [hst.out, HSX.out, if_pos (by omega), show min (-(b - a)) g = m by omega, ← Int.sub_eq_add_neg, ← Int.sub_eq_add_neg])
            have hmin := hme.symm
            clear hme
            have hN6 := hN5.set i (-m)
            have hc6 : Chg (fun k => k = mv) w2 (w5.setCell ⟨mv, i, none⟩ (.int .i64 (-m))) := hc5.setCell (a := ⟨mv, i, none⟩) (fun _ => rfl) _
            have hMl6 := Lib.hid (show (M.set i (-m)).length = ns.length from by rw [List.length_set]; exact HSL.out)
            have hM6 := Lib.hid (show ∀ j, i + 1 ≤ j → (M.set i (-m)).getD j 0 = gs.getD j 0 from fun j hj => by
              rw [← hM.out j (by omega)]
              simp only [List.getD_eq_getElem?_getD]
              rw [List.getElem?_set_ne (by omega)])
            have hrow6 : RowG el51 (w5.setCell ⟨mv, i, none⟩ (.int .i64 (-m))) Bo _ L := hrow5.moved (fun k hk _ => Below.heap_setCell _ _ _ _ (by show k ≠ mv; omega))
            have hBr6 : Bo ≤ (w5.setCell ⟨mv, i, none⟩ (.int .i64 (-m))).heap.size := by simpa [World.setCell] using hBr5
            have HN5 := Lib.hid hN5
            have HC5 := Lib.hid hc5
            clear hN5 hc5 hrow5
            by_cases hw0 : 0 < a + -m
            · skip
              have HS3 := Lib.hid (show (ns.take (i + 1)).foldl (stepR l0 l1 gone whole) (gs.sum, []) = ((g + -m), L ++ [⟨bs nm, (a + -m)⟩]) from by rw [HS2.out, if_pos hw0])
              have hXs : (w5.setCell ⟨mv, i, none⟩ (.int .i64 (-m))).heap.size = w5.heap.size := (by simp [World.setCell])
              have k4 : ((w5.setCell ⟨mv, i, none⟩ (.int .i64 (-m))).alloc (.cells #[.string (bs nm), .int .i64 ((a + -m))] 51)).heap[w5.heap.size]? = some (.cells (el51.enc ⟨bs nm, (a + -m)⟩).toArray el51.e (0, 0)) := by
                rw [← hXs]
                exact new_at _ _
              have bA : Below w5.heap.size (w5.setCell ⟨mv, i, none⟩ (.int .i64 (-m))) ((w5.setCell ⟨mv, i, none⟩ (.int .i64 (-m))).alloc (.cells #[.string (bs nm), .int .i64 ((a + -m))] 51)) := (Below.refl _ _).alloc (by rw [hXs]; exact Nat.le_refl _) _
              have hBN : Bo ≤ w5.heap.size := hBr5
              have hrA := hrow6.below bA (by rw [hXs]; exact Nat.le_refl _)
              have hszA : Bo ≤ ((w5.setCell ⟨mv, i, none⟩ (.int .i64 (-m))).alloc (.cells #[.string (bs nm), .int .i64 ((a + -m))] 51)).heap.size := by have := bA.size; omega
              have hcA : Chg (fun k => k = mv) w2 ((w5.setCell ⟨mv, i, none⟩ (.int .i64 (-m))).alloc (.cells #[.string (bs nm), .int .i64 ((a + -m))] 51)) := hc6.alloc _
              have hNA : NumsAt ((w5.setCell ⟨mv, i, none⟩ (.int .i64 (-m))).alloc (.cells #[.string (bs nm), .int .i64 ((a + -m))] 51)) mv ((M.set i (-m))) := Blk.same hN6 (bA.block mv (by rw [← hXs]; exact Blk.lt hN6))
              have HNN := Lib.hid hN6
              have HNA := Lib.hid hNA
              have HXS := Lib.hid hXs
              have HSZ := Lib.hid hszA
              have HCA := Lib.hid hcA
              clear bA hNA hXs hcA
              go_wp2_with (at_builtin; refine list_appG el51 _ rfl (.tmp 117) (.tmp 124) rfl Bo _ L (by rfl) hrA (some ⟨w5.heap.size, 0, none⟩) 1 1 [⟨bs nm, (a + -m)⟩] (by rfl) rfl (SrcG.one k4) (by omega) (by omega) hszA ?_; intro v' w' r3 b3 z3)
              have b4 := b3.size
              have hl3 : (L ++ [(⟨bs nm, (a + -m)⟩ : S51)]).length = L.length + 1 := by simp
              go_roundw
              case rel => exact ⟨i + 1, (g + -m), L ++ [⟨bs nm, (a + -m)⟩], (M.set i (-m)), by omega, by go_num, rfl, HS3, by omega, by omega, by omega, r3, Blk.same HNA.out (b3.block mv (by omega)), hMl6, hM6, HCA.out.trans (Chg.of_below b3 (F := fun k => Bo ≤ k) (fun k hk _ => hk)) (fun k hk hB => by omega), Nat.le_trans HSZ.out b3.size⟩
              case measure => simp [vI]; omega
            · have hw1 : a + -m ≤ 0 := by omega
              clear hw0
              have HS3 := Lib.hid (show (ns.take (i + 1)).foldl (stepR l0 l1 gone whole) (gs.sum, []) = (g + -m, L) from by rw [HS2.out, if_neg (by omega)])
              go_wp2_with fail
              go_roundw
              case rel => exact ⟨i + 1, g + -m, L, M.set i (-m), by omega, by go_num, rfl, HS3, by omega, by omega, by omega, hrow6, hN6, hMl6, hM6, hc6, hBr6⟩
              case measure => simp [vI]; omega
          · have hba : a ≤ b := by omega
            have hgv : gs.getD i 0 = gainI l0 l1 gone whole nm := hgi.out
            obtain ⟨q0, q1, _⟩ := hgf.out
            obtain ⟨q, hqe⟩ : ∃ q, q = gainI l0 l1 gone whole nm := ⟨_, rfl⟩
            rw [HSM.out, hgv, ← hqe] at hmc
            rw [← hqe] at q0 q1
            have HQ := Lib.hid hqe
            have HS2 := Lib.hid (show (ns.take (i + 1)).foldl (stepR l0 l1 gone whole) (gs.sum, []) = (g, if 0 < a + q then L ++ [⟨bs nm, a + q⟩] else L) from by
              rw [hst.out, HSX.out, if_neg (by omega), ← HQ.out])
            clear hqe hgv hd0
            by_cases hw0 : 0 < a + q
            · skip
              have HS3 := Lib.hid (show (ns.take (i + 1)).foldl (stepR l0 l1 gone whole) (gs.sum, []) = (g, L ++ [⟨bs nm, (a + q)⟩]) from by rw [HS2.out, if_pos hw0])
              have hXs : w5.heap.size = w5.heap.size := rfl
              have k4 : (w5.alloc (.cells #[.string (bs nm), .int .i64 ((a + q))] 51)).heap[w5.heap.size]? = some (.cells (el51.enc ⟨bs nm, (a + q)⟩).toArray el51.e (0, 0)) := by
                rw [← hXs]
                exact new_at _ _
              have bA : Below w5.heap.size w5 (w5.alloc (.cells #[.string (bs nm), .int .i64 ((a + q))] 51)) := (Below.refl _ _).alloc (by rw [hXs]; exact Nat.le_refl _) _
              have hBN : Bo ≤ w5.heap.size := hBr5
              have hrA := hrow5.below bA (by rw [hXs]; exact Nat.le_refl _)
              have hszA : Bo ≤ (w5.alloc (.cells #[.string (bs nm), .int .i64 ((a + q))] 51)).heap.size := by have := bA.size; omega
              have hcA : Chg (fun k => k = mv) w2 (w5.alloc (.cells #[.string (bs nm), .int .i64 ((a + q))] 51)) := hc5.alloc _
              have hNA : NumsAt (w5.alloc (.cells #[.string (bs nm), .int .i64 ((a + q))] 51)) mv (M) := Blk.same hN5 (bA.block mv (by rw [← hXs]; exact Blk.lt hN5))
              have HNN := Lib.hid hN5
              have HNA := Lib.hid hNA
              have HXS := Lib.hid hXs
              have HSZ := Lib.hid hszA
              have HCA := Lib.hid hcA
              clear bA hNA hXs hcA
              go_wp2_with (at_builtin; refine list_appG el51 _ rfl (.tmp 117) (.tmp 124) rfl Bo _ L (by rfl) hrA (some ⟨w5.heap.size, 0, none⟩) 1 1 [⟨bs nm, (a + q)⟩] (by rfl) rfl (SrcG.one k4) (by omega) (by omega) hszA ?_; intro v' w' r3 b3 z3)
              have b4 := b3.size
              have hl3 : (L ++ [(⟨bs nm, (a + q)⟩ : S51)]).length = L.length + 1 := by simp
              go_roundw
              case rel => exact ⟨i + 1, g, L ++ [⟨bs nm, (a + q)⟩], M, by omega, by go_num, rfl, HS3, by omega, by omega, by omega, r3, Blk.same HNA.out (b3.block mv (by omega)), hMl, (Lib.hid (fun j hj => hM.out j (by omega))), HCA.out.trans (Chg.of_below b3 (F := fun k => Bo ≤ k) (fun k hk _ => hk)) (fun k hk hB => by omega), Nat.le_trans HSZ.out b3.size⟩
              case measure => simp [vI]; omega
            · have hw1 : a + q ≤ 0 := by omega
              clear hw0
              have HS3 := Lib.hid (show (ns.take (i + 1)).foldl (stepR l0 l1 gone whole) (gs.sum, []) = (g, L) from by rw [HS2.out, if_neg (by omega)])
              go_wp2_with fail
              go_roundw
              case rel => exact ⟨i + 1, g, L, M, by omega, by go_num, rfl, HS3, hg0, hg1, by omega, hrow5, hN5, hMl, Lib.hid (fun j hj => hM.out j (by omega)), hc5, hBr5⟩
              case measure => simp [vI]; omega
        · obtain rfl : ns.length = i := by omega
          have hfin : (ns.foldl (stepR l0 l1 gone whole) (gs.sum, [])).2 = L := by
            have := hF.out
            rw [List.take_of_length_le (Nat.le_refl _)] at this
            rw [this]
          have HFIN := Lib.hid hfin
          clear hfin
          have bwr : Below w.heap.size w wr := b2.trans ⟨hc.os, hc.tape, hc.output, hc.size, fun k hk => hc.block k (by have := b2.size; omega) (by omega)⟩
          obtain ⟨A14, c14, rfl, hc14, hC14⟩ := RowG.toC hrow
          clear hrow hN hc
          go_wp2_with fail
          with_reducible refine (clone_calls A14 c14 L _ hC14 (by omega)).mono ?_
          rintro e w4 ⟨v4, rfl, r4, hb4⟩
          go_wp2_with fail
          go_ret
          exact ⟨_, rfl, by rw [HFIN.out]; exact r4.lower bwr.size, below_step bwr hb4⟩

end Go.Proofs.YtnkmpkhiilnigaaGreatDoor.PA
