/- StampPlays: the walk. (Printed by stamplaws.py and genx.py.) -/
import Derived.Test.YtmiojmnifnnncaaDoorSCfg
set_option linter.unusedSimpArgs false
set_option linter.unusedVariables false
namespace Go.Proofs.YtmiojmnifnnncaaDoor.PA
open Go.RowKit Go.Shelf Go.Lib Go.Sort Go.Maps Go.Proofs.YtmiojmnifnnncaaDoorW.PrintWords Go.Proofs.YtmiojmnifnnncaaDoorW.PrintLast

theorem hold_cfg {wr w : World} (h : Below wr.heap.size wr w) : ∃ g w5, w5 = w.alloc (.cells #[.string ⟨#[]⟩, .int .i64 0, .int .i64 0, .int .i64 0, .int .i64 0, .int .i64 0] 27) ∧ g = w.heap.size ∧ Blk w5 g #[.string ⟨#[]⟩, .int .i64 0, .int .i64 0, .int .i64 0, .int .i64 0, .int .i64 0] 27 ∧ wr.heap.size ≤ g ∧ Below wr.heap.size wr w5 ∧ Below w.heap.size w w5 :=
  ⟨_, _, rfl, rfl, Blk.new _ _ _, h.size, h.alloc h.size _, (Below.refl _ _).alloc (Nat.le_refl _) _⟩
theorem hold_cfgD {wr w : World} (h : Below wr.heap.size wr w.drew) : ∃ g w5, w5 = (w.alloc (.cells #[.string ⟨#[]⟩, .int .i64 0, .int .i64 0, .int .i64 0, .int .i64 0, .int .i64 0] 27)).drew ∧ g = w.heap.size ∧ Blk w5 g #[.string ⟨#[]⟩, .int .i64 0, .int .i64 0, .int .i64 0, .int .i64 0, .int .i64 0] 27 ∧ wr.heap.size ≤ g ∧ Below wr.heap.size wr w5 ∧ Below w.drew.heap.size w.drew w5 :=
  ⟨_, _, rfl, rfl, Blk.new w.drew _ _, h.size, h.alloc h.size _, (Below.refl _ _).alloc (Nat.le_refl _) _⟩
theorem Blk.set6 {w : World} {p : Nat} {t : TypeId} {a0 a1 a2 a3 a4 a5 : Value} (h : Blk w p #[a0, a1, a2, a3, a4, a5] t) (v0 v1 v2 v3 v4 v5 : Value) :
    Blk ((((((w.setCell ⟨p, 0, none⟩ v0).setCell ⟨p, 1, none⟩ v1).setCell ⟨p, 2, none⟩ v2).setCell ⟨p, 3, none⟩ v3).setCell ⟨p, 4, none⟩ v4).setCell ⟨p, 5, none⟩ v5) p #[v0, v1, v2, v3, v4, v5] t :=
  (((((h.set 0 v0 rfl).set 1 v1 rfl).set 2 v2 rfl).set 3 v3 rfl).set 4 v4 rfl).set 5 v5 rfl
theorem Chg.set6 (w : World) (p : Nat) (v0 v1 v2 v3 v4 v5 : Value) : Chg (fun k => k = p) w ((((((w.setCell ⟨p, 0, none⟩ v0).setCell ⟨p, 1, none⟩ v1).setCell ⟨p, 2, none⟩ v2).setCell ⟨p, 3, none⟩ v3).setCell ⟨p, 4, none⟩ v4).setCell ⟨p, 5, none⟩ v5) :=
  ((((((Chg.refl (fun k => k = p) w).setCell (a := ⟨p, 0, none⟩) (fun _ => rfl) _).setCell (a := ⟨p, 1, none⟩) (fun _ => rfl) _).setCell (a := ⟨p, 2, none⟩) (fun _ => rfl) _).setCell (a := ⟨p, 3, none⟩) (fun _ => rfl) _).setCell (a := ⟨p, 4, none⟩) (fun _ => rfl) _).setCell (a := ⟨p, 5, none⟩) (fun _ => rfl) _
set_option maxRecDepth 100000 in
set_option maxHeartbeats 16000000 in
theorem plays_law (A0 : Option Addr) (c0 : Nat) (l0 : List StepM) (w : World) (ht : ∀ w', Below w.heap.size w w' → Pow10 w') (hr0 : StepsAt w A0 l0) (hc0 : l0.length ≤ c0) :
    Calls Tryd.prog 8 #[.slice A0 l0.length c0] w fun e w' => e = .returned (.bool true) ∧ Below w.heap.size w w' := by
  have HT := Lib.hid ht
  have HR0 := Lib.hid hr0
  clear hr0
  clear ht
  go_enter Tryd.func8, Tryd.ntmps8
  go_wp2_with fail
  refine (known12 w HT.out).mono ?_
  rintro e w1 ⟨rfl, hb1⟩
  go_wp2_with fail
  refine (new_calls w1).mono ?_
  rintro e w2 ⟨p, b1, b2, rfl, hB, ⟨hp, h1, h2⟩, hb2⟩
  have z1 := hb1.size
  have hp : w.heap.size ≤ p := by omega
  have h1 : w.heap.size ≤ b1 := by omega
  have h2 : w.heap.size ≤ b2 := by omega
  have HB2 := Lib.hid hB
  have B2 := Lib.hid (below_step hb1 hb2)
  clear hB hb1 hb2 z1
  obtain ⟨W3, hW3⟩ : ∃ W3, W3 = w2.alloc (.cells #[.slice none 0 0, .slice none 0 0] 57) := ⟨_, rfl⟩
  have bW3 : Below w2.heap.size w2 W3 := by rw [hW3]; exact (Below.refl _ _).alloc (Nat.le_refl _) _
  have hdd : DBook W3 w.heap.size w2.heap.size [] := by rw [hW3]; exact DBook.first B2.out.size
  obtain ⟨q, hq⟩ : ∃ q, q = w2.heap.size := ⟨_, rfl⟩
  rw [← hq] at hdd
  have HD3 := Lib.hid hdd
  have HB3 := Lib.hid (HB2.out.below bW3)
  have B3 := Lib.hid (below_step B2.out bW3)
  clear bW3 hdd HB2 B2
  go_upto_region 4 with fail
  rw [← hW3, ← hq]
  clear hW3 hq
  go_wp2_with fail
  go_loopw [5] (fun v5 wr => ∃ (i : Nat) (L : List RevM), i ≤ l0.length ∧ i ≤ 50 ∧ v5 = .int .i64 i ∧ Hid (BookAt wr p b1 b2 L) ∧ Hid (DBook wr w.heap.size q L) ∧ Hid (OkL L) ∧ L.length ≤ i ∧ Hid (Below w.heap.size w wr)) (fun v5 _ => l0.length - (vI v5).toNat)
  case atStart => exact ⟨0, [], by omega, by omega, rfl, HB3, HD3, Lib.hid OkL.nil, by simp, B3⟩
  case round =>
    clear HB3 HD3 B3
    obtain ⟨i, L, hi, hi50, rfl, HB, HD, HL, hLi, BB⟩ := hrel
    by_cases hlt : i < l0.length
    · by_cases h50 : i < 50
      · have hlt' : (i : Int) < (l0.length : Int) := by omega
        obtain ⟨ga, oa, rfl, _, hcs⟩ := HR0.out (fun e => by rw [e] at hlt; exact absurd hlt (Nat.not_lt_zero _))
        obtain ⟨sk, sn, sm, sc, hst⟩ : ∃ sk sn sm sc, l0[i] = ⟨sk, sn, sm, sc⟩ := ⟨_, _, _, _, rfl⟩
        have HC := Lib.hid (show ∀ (w' : World) (j : Nat), Below w.heap.size w w' → j < 9 → w'.cell? ⟨ga, oa + i * 9 + j, none⟩ = (cellsS ⟨sk, sn, sm, sc⟩)[j]? from fun w' j hb hj => by
          obtain ⟨g', o', e', _, hc⟩ := (HR0.out.below hb) (fun e => by rw [e] at hlt; exact absurd hlt (Nat.not_lt_zero _))
          cases e'
          rw [← hst]
          exact hc i hlt j hj)
        have e0 : wr.cell? ⟨ga, oa + i * 9, none⟩ = some (.int .i64 sk) := HC.out _ 0 BB.out (by omega)
        have e1 : wr.cell? ⟨ga, oa + i * 9 + 1, none⟩ = some (.int .i64 sn) := HC.out _ 1 BB.out (by omega)
        clear hcs hst
        go_wp2_with fail
        have hwi := Lib.hid (within12 sn 12 (by omega) (by omega))
        have y0 := Int.emod_nonneg sn (b := 12) (by omega)
        have y1 := Int.emod_lt_of_pos sn (b := 12) (by omega)
        refine (damperlaw12_within.calls sn 12 (sn % 12) _ hwi.out).mono ?_
        rintro e w4 ⟨rfl, hdr_⟩
        have hd_ := hdr_.below
        clear hdr_
        clear hwi
        have HB4 := Lib.hid (HB.out.below hd_)
        have HD4 := Lib.hid (HD.out.below hd_)
        have B4 := Lib.hid (below_step BB.out hd_)
        generalize sn % 12 = y at y0 y1 ⊢
        obtain ⟨g, hg⟩ : ∃ g, g = 1 + y := ⟨_, rfl⟩
        have hg0 : 1 ≤ g := by omega
        have hg1 : g ≤ 999999 := by omega
        have HG := Lib.hid hg
        clear hd_ HB HD BB hg e0 e1
        go_upto_region 10 with fail
        rw [← HG.out]
        clear HG y0 y1
        have e1 : w4.cell? ⟨ga, oa + i * 9 + 1, none⟩ = some (.int .i64 sn) := HC.out _ 1 B4.out (by omega)
        go_wp2_with fail
        have hwi := Lib.hid (within12 sn 19 (by omega) (by omega))
        have z0 := Int.emod_nonneg sn (b := 19) (by omega)
        have z1 := Int.emod_lt_of_pos sn (b := 19) (by omega)
        refine (damperlaw12_within.calls sn 19 (sn % 19) _ hwi.out).mono ?_
        rintro e w5 ⟨rfl, hdr_⟩
        have hd_ := hdr_.below
        clear hdr_
        clear hwi
        have HB5 := Lib.hid (HB4.out.below hd_)
        have HD5 := Lib.hid (HD4.out.below hd_)
        have B5 := Lib.hid (below_step B4.out hd_)
        generalize sn % 19 = z at z0 z1 ⊢
        clear hd_ HB4 HD4 B4 e1
        by_cases hz : z = 0
        · have hzb : (z == 0) = true := by simp [hz]
          have e0 : w5.cell? ⟨ga, oa + i * 9, none⟩ = some (.int .i64 sk) := HC.out _ 0 B5.out (by omega)
          clear hz hg0 hg1
          go_wp2_with fail
          have hwi := Lib.hid (within12 sk 3 (by omega) (by omega))
          have x0 := Int.emod_nonneg sk (b := 3) (by omega)
          have x1 := Int.emod_lt_of_pos sk (b := 3) (by omega)
          refine (damperlaw12_within.calls sk 3 (sk % 3) _ hwi.out).mono ?_
          rintro e w6 ⟨rfl, hdr_⟩
          have hd_ := hdr_.below
          clear hdr_
          clear hwi
          have HBr := Lib.hid (HB5.out.below hd_)
          have HDr := Lib.hid (HD5.out.below hd_)
          have Br := Lib.hid (below_step B5.out hd_)
          generalize sk % 3 = x at x0 x1 ⊢
          obtain ⟨gg, hgg⟩ : ∃ gg, gg = 999999 - x := ⟨_, rfl⟩
          have hg0 : 1 ≤ gg := by omega
          have hg1 : gg ≤ 999999 := by omega
          have HGG := Lib.hid hgg
          clear hd_ HB5 HD5 B5 hgg e0
          go_upto_region 12 with fail
          rw [← HGG.out]
          clear HGG x0 x1 hzb z0 z1
          have dr := (Below.refl w6.heap.size w6).drew
          have HBd := Lib.hid (HBr.out.below dr)
          have HDd := Lib.hid (HDr.out.below dr)
          have BD := Lib.hid (below_step Br.out dr)
          clear dr HBr HDr Br
          obtain ⟨cn, hcn⟩ : ∃ cn, cn = cfgOf sc sm := ⟨_, rfl⟩
          have hv : ValidN cn.nm := hcn ▸ cfgOf_valid sc sm
          have CCF := Lib.hid (fun w' => cfg_calls sc sm w' (v := .agg #[.string sc.nm, .int .i64 sc.img, .int .i64 sc.conc, .int .i64 sc.mn, .int .i64 sc.mx, .int .i64 sc.grc]) rfl (r := .agg #[.string cn.nm, .int .i64 cn.img, .int .i64 cn.conc, .int .i64 cn.mn, .int .i64 cn.mx, .int .i64 cn.grc]) (by rw [← hcn]; rfl))
          clear hcn
          go_wp2_with fail
          refine start_ (n := 13) (S := fun w' => w'.cell? ⟨ga, oa + i * 9 + 3, none⟩ = some (.string sc.nm) ∧ w'.cell? ⟨ga, oa + i * 9 + 4, none⟩ = some (.int .i64 sc.img) ∧ w'.cell? ⟨ga, oa + i * 9 + 5, none⟩ = some (.int .i64 sc.conc) ∧ w'.cell? ⟨ga, oa + i * 9 + 6, none⟩ = some (.int .i64 sc.mn) ∧ w'.cell? ⟨ga, oa + i * 9 + 7, none⟩ = some (.int .i64 sc.mx) ∧ w'.cell? ⟨ga, oa + i * 9 + 8, none⟩ = some (.int .i64 sc.grc) ∧ w'.cell? ⟨ga, oa + i * 9 + 2, none⟩ = some (.int .i64 sm) ∧ Below w6.drew.heap.size w6.drew w') (ds := [12]) #[false, false, false, false, false, false, false, false, false, false, false, false, false] (by kernel_rfl) rfl rfl ⟨HC.out _ 3 BD.out (by omega), HC.out _ 4 BD.out (by omega), HC.out _ 5 BD.out (by omega), HC.out _ 6 BD.out (by omega), HC.out _ 7 BD.out (by omega), HC.out _ 8 BD.out (by omega), HC.out _ 2 BD.out (by omega), Below.refl _ _⟩ (fun hHeld => ?_)
          refine pure_ (i := 0) (N := some 50) (v := ?_) (a' := ?_) #[true, false, false, false, false, false, false, false, false, false, false, false, false] rfl rfl (by kernel_rfl) (fun _ _ _ h => h) (Or.inl ⟨by rfl, ?_⟩) ?_ ?_
          rotate_left
          · intro w'
            go_simp
            with_reducible rfl
          rotate_left
          · simp only [Act.put, List.setIfInBounds_toArray, List.set_cons_zero, List.set_cons_succ, i64_w, i32_w]
            rfl
          refine pure_ (i := 1) (N := some 51) (v := ?_) (a' := ?_) #[true, true, false, false, false, false, false, false, false, false, false, false, false] rfl rfl (by kernel_rfl) (fun _ _ _ h => h) (Or.inl ⟨by rfl, ?_⟩) ?_ ?_
          rotate_left
          · intro w'
            go_simp
            with_reducible rfl
          rotate_left
          · simp only [Act.put, List.setIfInBounds_toArray, List.set_cons_zero, List.set_cons_succ, i64_w, i32_w]
            rfl
          refine pure_ (i := 2) (N := some 52) (v := ?_) (a' := ?_) #[true, true, true, false, false, false, false, false, false, false, false, false, false] rfl rfl (by kernel_rfl) (fun _ _ _ h => h) (Or.inl ⟨by rfl, ?_⟩) ?_ ?_
          rotate_left
          · intro w'
            go_simp
            with_reducible rfl
          rotate_left
          · simp only [Act.put, List.setIfInBounds_toArray, List.set_cons_zero, List.set_cons_succ, i64_w, i32_w]
            rfl
          refine pure_ (i := 3) (N := some 53) (v := ?_) (a' := ?_) #[true, true, true, true, false, false, false, false, false, false, false, false, false] rfl rfl (by kernel_rfl) (fun _ _ _ h => h) (Or.inl ⟨by rfl, ?_⟩) ?_ ?_
          rotate_left
          · intro w'
            go_simp
            with_reducible rfl
          rotate_left
          · simp only [Act.put, List.setIfInBounds_toArray, List.set_cons_zero, List.set_cons_succ, i64_w, i32_w]
            rfl
          refine pure_ (i := 5) (N := some 55) (v := ?_) (a' := ?_) #[true, true, true, true, false, true, false, false, false, false, false, false, false] rfl rfl (by kernel_rfl) (fun _ _ _ h => h) (Or.inl ⟨by rfl, ?_⟩) ?_ ?_
          rotate_left
          · intro w'
            go_simp
            with_reducible rfl
          rotate_left
          · simp only [Act.put, List.setIfInBounds_toArray, List.set_cons_zero, List.set_cons_succ, i64_w, i32_w]
            rfl
          refine pure_ (i := 6) (N := some 56) (v := ?_) (a' := ?_) #[true, true, true, true, false, true, true, false, false, false, false, false, false] rfl rfl (by kernel_rfl) (fun _ _ _ h => h) (Or.inl ⟨by rfl, ?_⟩) ?_ ?_
          rotate_left
          · intro w'
            go_simp
            with_reducible rfl
          rotate_left
          · simp only [Act.put, List.setIfInBounds_toArray, List.set_cons_zero, List.set_cons_succ, i64_w, i32_w]
            rfl
          refine pure_ (i := 7) (N := some 57) (v := ?_) (a' := ?_) #[true, true, true, true, false, true, true, true, false, false, false, false, false] rfl rfl (by kernel_rfl) (fun _ _ _ h => h) (Or.inl ⟨by rfl, ?_⟩) ?_ ?_
          rotate_left
          · intro w'
            go_simp
            with_reducible rfl
          rotate_left
          · simp only [Act.put, List.setIfInBounds_toArray, List.set_cons_zero, List.set_cons_succ, i64_w, i32_w]
            rfl
          refine pure_ (i := 8) (N := some 58) (v := ?_) (a' := ?_) #[true, true, true, true, false, true, true, true, true, false, false, false, false] rfl rfl (by kernel_rfl) (fun _ _ _ h => h) (Or.inl ⟨by rfl, ?_⟩) ?_ ?_
          rotate_left
          · intro w'
            go_simp
            with_reducible rfl
          rotate_left
          · simp only [Act.put, List.setIfInBounds_toArray, List.set_cons_zero, List.set_cons_succ, i64_w, i32_w]
            rfl
          refine take_ (i := 4) (N := some 54) (v := ?_) (a' := ?_) #[true, true, true, true, true, true, true, true, true, false, false, false, false] rfl rfl (by kernel_rfl) (fun _ _ _ h => h) (Or.inl ⟨by rfl, ?_⟩) hHeld ?_ ?_
          rotate_left
          · rintro w' ⟨s0, s1, s2, s3, s4, s5, s6, s7⟩
            go_simp
            with_reducible rfl
          rotate_left
          · simp only [Act.put, List.setIfInBounds_toArray, List.set_cons_zero, List.set_cons_succ, i64_w, i32_w]
            rfl
          refine take_ (i := 9) (N := some 59) (v := ?_) (a' := ?_) #[true, true, true, true, true, true, true, true, true, true, false, false, false] rfl rfl (by kernel_rfl) (fun _ _ _ h => h) (Or.inl ⟨by rfl, ?_⟩) hHeld ?_ ?_
          rotate_left
          · rintro w' ⟨s0, s1, s2, s3, s4, s5, s6, s7⟩
            go_simp
            with_reducible rfl
          rotate_left
          · simp only [Act.put, List.setIfInBounds_toArray, List.set_cons_zero, List.set_cons_succ, i64_w, i32_w]
            rfl
          refine join_ (σ := Nat) 1 #[true, true, true, true, true, true, true, true, true, true, true, true, false] (fun s => [(60, .agg #[.string cn.nm, .int .i64 cn.img, .int .i64 cn.conc, .int .i64 cn.mn, .int .i64 cn.mx, .int .i64 cn.grc]), (7, .pointer (some ⟨s, 0, none⟩))]) (fun s w' => Blk w' s #[.string ⟨#[]⟩, .int .i64 0, .int .i64 0, .int .i64 0, .int .i64 0, .int .i64 0] 27 ∧ w6.drew.heap.size ≤ s ∧ Below w6.drew.heap.size w6.drew w') ?_ ?_
          rotate_left
          · intro hCont
            refine two_ (i := 10) (j := 11) (Ni := some 60) (Nj := some 7) #[true, true, true, true, true, true, true, true, true, true, true, false, false] #[true, true, true, true, true, true, true, true, true, true, false, true, false] rfl rfl rfl rfl (by kernel_rfl) (by decide) (by decide) (fun K hK => ?_) (fun K hK => ?_)
            · skip
              refine goes_ Tryd.func18 (by kernel_rfl) rfl #[.agg #[.string sc.nm, .int .i64 sc.img, .int .i64 sc.conc, .int .i64 sc.mn, .int .i64 sc.mx, .int .i64 sc.grc], .int .i64 sm] (by rfl) rfl rfl (by simp only [List.map_toArray, List.map_cons, List.map_nil]; rfl) ?_
              with_reducible refine (CCF.out _).mono ?_
              rintro e wc ⟨rfl, hcc⟩
              have hbl := below_step hHeld.2.2.2.2.2.2.2 hcc
              refine ⟨_, rfl, ?_⟩
              refine hK.out _ _ ⟨HC.out _ 3 (below_step BD.out hbl) (by omega), HC.out _ 4 (below_step BD.out hbl) (by omega), HC.out _ 5 (below_step BD.out hbl) (by omega), HC.out _ 6 (below_step BD.out hbl) (by omega), HC.out _ 7 (below_step BD.out hbl) (by omega), HC.out _ 8 (below_step BD.out hbl) (by omega), HC.out _ 2 (below_step BD.out hbl) (by omega), hbl⟩ (fun hHeld => ?_)
              clear hK K
              refine norm_ (a' := ?_) ?_ ?_
              rotate_left
              · show Act.put _ (some 60) _ = _
                simp only [Act.put, List.setIfInBounds_toArray, List.set_cons_zero, List.set_cons_succ, i64_w, i32_w]
                rfl
              refine one_ (i := 11) (N := some 7) #[true, true, true, true, true, true, true, true, true, true, true, true, false] rfl rfl (by kernel_rfl) (by decide) (fun K hK => ?_)
              refine value_ (w1 := ?_) (v := ?_) (by rfl) rfl ?_ ?_
              rotate_left 2
              · go_simp
                constructor
                · rfl
                · rfl
              obtain ⟨gr, wa, hwa, hga, kr, hgr, hbl, _⟩ := hold_cfg hHeld.2.2.2.2.2.2.2
              rw [← hwa, ← hga]
              clear hwa hga
              refine hK.out _ _ ⟨HC.out _ 3 (below_step BD.out hbl) (by omega), HC.out _ 4 (below_step BD.out hbl) (by omega), HC.out _ 5 (below_step BD.out hbl) (by omega), HC.out _ 6 (below_step BD.out hbl) (by omega), HC.out _ 7 (below_step BD.out hbl) (by omega), HC.out _ 8 (below_step BD.out hbl) (by omega), HC.out _ 2 (below_step BD.out hbl) (by omega), hbl⟩ (fun hHeld => ?_)
              clear hK K
              refine norm_ (a' := ?_) ?_ ?_
              rotate_left
              · show Act.put _ (some 7) _ = _
                simp only [Act.put, List.setIfInBounds_toArray, List.set_cons_zero, List.set_cons_succ, i64_w, i32_w]
                rfl
              exact norm_ (by simp only [putAll, Act.put, List.setIfInBounds_toArray, List.set_cons_zero, List.set_cons_succ]) (hCont gr _ ⟨kr, hgr, hbl⟩)
            · skip
              refine value_ (w1 := ?_) (v := ?_) (by rfl) rfl ?_ ?_
              rotate_left 2
              · go_simp
                constructor
                · rfl
                · rfl
              obtain ⟨gr, wa, hwa, hga, kr, hgr, hbl, _⟩ := hold_cfgD hHeld.2.2.2.2.2.2.2
              rw [← hwa, ← hga]
              clear hwa hga
              refine hK.out _ _ ⟨HC.out _ 3 (below_step BD.out hbl) (by omega), HC.out _ 4 (below_step BD.out hbl) (by omega), HC.out _ 5 (below_step BD.out hbl) (by omega), HC.out _ 6 (below_step BD.out hbl) (by omega), HC.out _ 7 (below_step BD.out hbl) (by omega), HC.out _ 8 (below_step BD.out hbl) (by omega), HC.out _ 2 (below_step BD.out hbl) (by omega), hbl⟩ (fun hHeld => ?_)
              clear hK K
              refine norm_ (a' := ?_) ?_ ?_
              rotate_left
              · show Act.put _ (some 7) _ = _
                simp only [Act.put, List.setIfInBounds_toArray, List.set_cons_zero, List.set_cons_succ, i64_w, i32_w]
                rfl
              refine one_ (i := 10) (N := some 60) #[true, true, true, true, true, true, true, true, true, true, true, true, false] rfl rfl (by kernel_rfl) (by decide) (fun K hK => ?_)
              refine goes_ Tryd.func18 (by kernel_rfl) rfl #[.agg #[.string sc.nm, .int .i64 sc.img, .int .i64 sc.conc, .int .i64 sc.mn, .int .i64 sc.mx, .int .i64 sc.grc], .int .i64 sm] (by rfl) rfl rfl (by simp only [List.map_toArray, List.map_cons, List.map_nil]; rfl) ?_
              with_reducible refine (CCF.out _).mono ?_
              rintro e wc ⟨rfl, hcc⟩
              have hbl := below_step hHeld.2.2.2.2.2.2.2 hcc
              have kr := kr.below hcc kr.lt
              refine ⟨_, rfl, ?_⟩
              refine hK.out _ _ ⟨HC.out _ 3 (below_step BD.out hbl) (by omega), HC.out _ 4 (below_step BD.out hbl) (by omega), HC.out _ 5 (below_step BD.out hbl) (by omega), HC.out _ 6 (below_step BD.out hbl) (by omega), HC.out _ 7 (below_step BD.out hbl) (by omega), HC.out _ 8 (below_step BD.out hbl) (by omega), HC.out _ 2 (below_step BD.out hbl) (by omega), hbl⟩ (fun hHeld => ?_)
              clear hK K
              refine norm_ (a' := ?_) ?_ ?_
              rotate_left
              · show Act.put _ (some 60) _ = _
                simp only [Act.put, List.setIfInBounds_toArray, List.set_cons_zero, List.set_cons_succ, i64_w, i32_w]
                rfl
              exact norm_ (by simp only [putAll, Act.put, List.setIfInBounds_toArray, List.set_cons_zero, List.set_cons_succ]) (hCont gr _ ⟨kr, hgr, hbl⟩)
          rintro gr wx ⟨kr, hgr, hbx⟩
          have hHeld : True := trivial
          refine norm_ (a' := ?_) ?_ ?_
          rotate_left
          · simp only [putAll, Act.put, List.setIfInBounds_toArray, List.set_cons_zero, List.set_cons_succ]
            rfl
          refine last_ (i := 12) (N := none) #[true, true, true, true, true, true, true, true, true, true, true, true, true] rfl rfl (by kernel_rfl) (by decide) (fun K hK => ?_)
          obtain ⟨d0, d1, d2, d3, d4, d5⟩ := cells6 kr
          have f0 := kr.frozen 0
          have f1 := kr.frozen 1
          have f2 := kr.frozen 2
          have f3 := kr.frozen 3
          have f4 := kr.frozen 4
          have f5 := kr.frozen 5
          refine skip_ (w1 := ?_) (by rfl) rfl ?_ ?_
          rotate_left
          · go_simp
            rfl
          refine hK.out _ _ ?_
          clear hK K
          refine done_ (by kernel_rfl) ?_
          have k6 := Blk.set6 kr (.string cn.nm) (.int .i64 cn.img) (.int .i64 cn.conc) (.int .i64 cn.mn) (.int .i64 cn.mx) (.int .i64 cn.grc)
          have c6 := Chg.set6 wx gr (.string cn.nm) (.int .i64 cn.img) (.int .i64 cn.conc) (.int .i64 cn.mn) (.int .i64 cn.mx) (.int .i64 cn.grc)
          generalize ((((((wx.setCell ⟨gr, 0, none⟩ (.string cn.nm)).setCell ⟨gr, 1, none⟩ (.int .i64 cn.img)).setCell ⟨gr, 2, none⟩ (.int .i64 cn.conc)).setCell ⟨gr, 3, none⟩ (.int .i64 cn.mn)).setCell ⟨gr, 4, none⟩ (.int .i64 cn.mx)).setCell ⟨gr, 5, none⟩ (.int .i64 cn.grc)) = W7 at k6 c6 ⊢
          have HBx := HBd.out.below hbx
          have HDx := HDd.out.below hbx
          have hBx := below_step BD.out hbx
          have hgw : w.heap.size ≤ gr := Nat.le_trans BD.out.size hgr
          have HB7 := Lib.hid (HBx.typ c6 (fun k e => ⟨_, e ▸ kr⟩) (by decide))
          have HD7 := Lib.hid (HDx.typ c6 (fun k e => ⟨_, e ▸ kr⟩) (by decide))
          have B7 := Lib.hid (c6.below_of hBx hBx.size (fun k hk e => by omega))
          have KR7 := Lib.hid k6
          clear k6 c6 kr HBx HDx hBx d0 d1 d2 d3 d4 d5 f0 f1 f2 f3 f4 f5 HBd HDd BD hbx hgr CCF
          have e0 : W7.cell? ⟨ga, oa + i * 9, none⟩ = some (.int .i64 sk) := HC.out _ 0 B7.out (by omega)
          go_wp2_with fail
          have hwi := Lib.hid (within12 sk 3 (by omega) (by omega))
          have u0 := Int.emod_nonneg sk (b := 3) (by omega)
          have u1 := Int.emod_lt_of_pos sk (b := 3) (by omega)
          refine (damperlaw12_within.calls sk 3 (sk % 3) _ hwi.out).mono ?_
          rintro e w8 ⟨rfl, hdr_⟩
          have hd_ := hdr_.below
          clear hdr_
          clear hwi
          have HB8 := Lib.hid (HB7.out.below hd_)
          have HD8 := Lib.hid (HD7.out.below hd_)
          have B8 := Lib.hid (below_step B7.out hd_)
          have KR8 := Lib.hid (KR7.out.below hd_ KR7.out.lt)
          clear hd_ HB7 HD7 B7 KR7 e0
          generalize sk % 3 = u at u0 u1 ⊢
          by_cases hu : 0 < u
          · have hud : decide (0 < u) = true := decide_eq_true hu
            clear hu u0 u1
            obtain ⟨d0, d1, d2, d3, d4, d5⟩ := cells6 KR8.out
            go_wp2_with fail
            with_reducible refine (stamp_callsE HB8.out HL.out cn hv gg hg0 hg1 (fun w' hb => HT.out w' (below_step B8.out hb)) (v := .agg #[.string cn.nm, .int .i64 cn.img, .int .i64 cn.conc, .int .i64 cn.mn, .int .i64 cn.mx, .int .i64 cn.grc]) rfl (nm := cn.nm) rfl).mono ?_
            rintro e w9 ⟨rfl, hB9, hc9⟩
            have HB9 := Lib.hid hB9
            have HD9 := Lib.hid (HD8.out.book HB8.out hc9)
            have B9 := Lib.hid (hc9.below_of B8.out B8.out.size (fun k hk e => by omega))
            have KR9 := Lib.hid (KR8.out.chg hc9 (map_ne HB8.out KR8.out))
            clear hB9 hc9 HB8 HD8 B8 KR8 d0 d1 d2 d3 d4 d5
            obtain ⟨d0, d1, d2, d3, d4, d5⟩ := cells6 KR9.out
            obtain ⟨nb, hnb⟩ : ∃ b, b = (findR L (revN cn.nm gg).data.toList).isNone := ⟨_, rfl⟩
            have HNB := Lib.hid hnb
            rw [← hnb]
            clear hnb
            go_wp2_with fail
            with_reducible refine (dstamp_calls HD9.out HL.out cn hv gg hg0 hg1 (cv := .agg #[.string cn.nm, .int .i64 cn.img, .int .i64 cn.conc, .int .i64 cn.mn, .int .i64 cn.mx, .int .i64 cn.grc]) rfl).mono ?_
            rintro e w10 ⟨rfl, hD10, hc10⟩
            rw [← HNB.out]
            have HD10 := Lib.hid hD10
            have HB10 := Lib.hid (HB9.out.doc hc10)
            have B10 := Lib.hid (hc10.below_of B9.out B9.out.size (fun k hk e => by have := e.1; omega))
            have HL10 := Lib.hid (HL.out.stamp hv hg0 hg1 (by omega))
            have hLl := stampL_len L cn gg
            clear hD10 hc10 HB9 HD9 B9 KR9 d0 d1 d2 d3 d4 d5 HNB
            generalize stampL L cn gg = L' at HB10 HD10 HL10 hLl
            go_wp2_with fail
            with_reducible refine (sameB_calls HB10.out HD10.out HL10.out).mono ?_
            rintro e wz ⟨rfl, hz'⟩
            have HBz := Lib.hid (HB10.out.below hz')
            have HDz := Lib.hid (HD10.out.below hz')
            have Bz := Lib.hid (below_step B10.out hz')
            clear hz' HB10 HD10 B10
            go_wp2_with fail
            go_roundw
            case rel => exact ⟨i + 1, L', by omega, by omega, by go_num, HBz, HDz, HL10, by omega, Bz⟩
            case measure => simp [vI]; omega
          · have hud : decide (0 < u) = false := decide_eq_false hu
            clear hu u0 u1
            have dr := (Below.refl w8.heap.size w8).drew
            have HBd := Lib.hid (HB8.out.below dr)
            have HDd := Lib.hid (HD8.out.below dr)
            have BD := Lib.hid (below_step B8.out dr)
            have KRd := Lib.hid (KR8.out.below dr KR8.out.lt)
            clear dr HB8 HD8 B8 KR8
            have hsz := revN_size cn.nm hv.hi gg (by omega) hg1
            obtain ⟨rr, hrr⟩ : ∃ rr : Int, rr = (if (findR L (revN cn.nm gg).data.toList).isSome then 0 else 6) := ⟨_, rfl⟩
            have PR := Lib.hid (fun w' (hb : BookAt w' p b1 b2 L) => prove_calls hb HL.out (revN cn.nm gg) (by omega))
            have PD := Lib.hid (fun w' (hd : DBook w' w.heap.size q L) => dprove_calls hd (revN cn.nm gg) HL.out)
            rw [← hrr] at PR PD
            clear hrr
            go_wp2_with fail
            refine start_ (n := 13) (S := fun w' => w'.cell? ⟨gr, 0, none⟩ = some (.string cn.nm)) (ds := []) #[false, false, false, false, false, false, false, false, false, false, false, false, false] (by kernel_rfl) rfl rfl (KRd.out.cell 0) (fun hHeld => ?_)
            refine pure_ (i := 0) (N := some 90) (v := ?_) (a' := ?_) #[true, false, false, false, false, false, false, false, false, false, false, false, false] rfl rfl (by kernel_rfl) (fun _ _ _ h => h) (Or.inl ⟨by rfl, ?_⟩) ?_ ?_
            rotate_left
            · intro w'
              go_simp
              with_reducible rfl
            rotate_left
            · simp only [Act.put, List.setIfInBounds_toArray, List.set_cons_zero, List.set_cons_succ, i64_w, i32_w]
              rfl
            refine pure_ (i := 1) (N := some 91) (v := ?_) (a' := ?_) #[true, true, false, false, false, false, false, false, false, false, false, false, false] rfl rfl (by kernel_rfl) (fun _ _ _ h => h) (Or.inl ⟨by rfl, ?_⟩) ?_ ?_
            rotate_left
            · intro w'
              go_simp
              with_reducible rfl
            rotate_left
            · simp only [Act.put, List.setIfInBounds_toArray, List.set_cons_zero, List.set_cons_succ, i64_w, i32_w]
              rfl
            refine pure_ (i := 3) (N := some 93) (v := ?_) (a' := ?_) #[true, true, false, true, false, false, false, false, false, false, false, false, false] rfl rfl (by kernel_rfl) (fun _ _ _ h => h) (Or.inl ⟨by rfl, ?_⟩) ?_ ?_
            rotate_left
            · intro w'
              go_simp
              with_reducible rfl
            rotate_left
            · simp only [Act.put, List.setIfInBounds_toArray, List.set_cons_zero, List.set_cons_succ, i64_w, i32_w]
              rfl
            refine pure_ (i := 6) (N := some 96) (v := ?_) (a' := ?_) #[true, true, false, true, false, false, true, false, false, false, false, false, false] rfl rfl (by kernel_rfl) (fun _ _ _ h => h) (Or.inl ⟨by rfl, ?_⟩) ?_ ?_
            rotate_left
            · intro w'
              go_simp
              with_reducible rfl
            rotate_left
            · simp only [Act.put, List.setIfInBounds_toArray, List.set_cons_zero, List.set_cons_succ, i64_w, i32_w]
              rfl
            refine pure_ (i := 7) (N := some 97) (v := ?_) (a' := ?_) #[true, true, false, true, false, false, true, true, false, false, false, false, false] rfl rfl (by kernel_rfl) (fun _ _ _ h => h) (Or.inl ⟨by rfl, ?_⟩) ?_ ?_
            rotate_left
            · intro w'
              go_simp
              with_reducible rfl
            rotate_left
            · simp only [Act.put, List.setIfInBounds_toArray, List.set_cons_zero, List.set_cons_succ, i64_w, i32_w]
              rfl
            refine pure_ (i := 9) (N := some 99) (v := ?_) (a' := ?_) #[true, true, false, true, false, false, true, true, false, true, false, false, false] rfl rfl (by kernel_rfl) (fun _ _ _ h => h) (Or.inl ⟨by rfl, ?_⟩) ?_ ?_
            rotate_left
            · intro w'
              go_simp
              with_reducible rfl
            rotate_left
            · simp only [Act.put, List.setIfInBounds_toArray, List.set_cons_zero, List.set_cons_succ, i64_w, i32_w]
              rfl
            refine take_ (i := 2) (N := some 92) (v := ?_) (a' := ?_) #[true, true, true, true, false, false, true, true, false, true, false, false, false] rfl rfl (by kernel_rfl) (fun _ _ _ h => h) (Or.inl ⟨by rfl, ?_⟩) hHeld ?_ ?_
            rotate_left
            · intro w' s0
              go_simp
              with_reducible rfl
            rotate_left
            · simp only [Act.put, List.setIfInBounds_toArray, List.set_cons_zero, List.set_cons_succ, i64_w, i32_w]
              rfl
            refine take_ (i := 8) (N := some 98) (v := ?_) (a' := ?_) #[true, true, true, true, false, false, true, true, true, true, false, false, false] rfl rfl (by kernel_rfl) (fun _ _ _ h => h) (Or.inl ⟨by rfl, ?_⟩) hHeld ?_ ?_
            rotate_left
            · intro w' s0
              go_simp
              with_reducible rfl
            rotate_left
            · simp only [Act.put, List.setIfInBounds_toArray, List.set_cons_zero, List.set_cons_succ, i64_w, i32_w]
              rfl
            refine one_ (i := 4) (N := some 94) #[true, true, true, true, true, false, true, true, true, true, false, false, false] rfl rfl (by kernel_rfl) (by decide) (fun K hK => ?_)
            refine goes_ Tryd.func16 (by kernel_rfl) rfl #[.string cn.nm, .int .i64 gg] (by rfl) rfl rfl (by simp only [List.map_toArray, List.map_cons, List.map_nil]; rfl) ?_
            with_reducible refine (rrev_calls cn.nm hv gg hg0 hg1 _).mono ?_
            rintro e w9 ⟨rfl, h9⟩
            have HB9 := Lib.hid (HBd.out.below h9)
            have HD9 := Lib.hid (HDd.out.below h9)
            have B9 := Lib.hid (below_step BD.out h9)
            have KR9 := Lib.hid (KRd.out.below h9 KRd.out.lt)
            refine ⟨_, rfl, ?_⟩
            refine hK.out _ _ (KR9.out.cell 0) (fun hHeld => ?_)
            clear hK K
            refine norm_ (a' := ?_) ?_ ?_
            rotate_left
            · show Act.put _ (some 94) _ = _
              simp only [Act.put, List.setIfInBounds_toArray, List.set_cons_zero, List.set_cons_succ, i64_w, i32_w]
              rfl
            refine one_ (i := 5) (N := some 95) #[true, true, true, true, true, true, true, true, true, true, false, false, false] rfl rfl (by kernel_rfl) (by decide) (fun K hK => ?_)
            refine goes_ Tryd.func15 (by kernel_rfl) rfl #[.pointer (some ⟨p, 0, none⟩), .string (revN cn.nm gg)] (by rfl) rfl rfl (by simp only [List.map_toArray, List.map_cons, List.map_nil]; rfl) ?_
            with_reducible refine (PR.out _ HB9.out).mono ?_
            rintro e w10 ⟨rfl, hB10, hc10⟩
            have HB10 := Lib.hid hB10
            have HD10 := Lib.hid (HD9.out.book HB9.out hc10)
            have B10 := Lib.hid (hc10.below_of B9.out B9.out.size (fun k hk e => by omega))
            have KR10 := Lib.hid (KR9.out.chg hc10 (map_ne HB9.out KR9.out))
            clear hB10 hc10
            refine ⟨_, rfl, ?_⟩
            refine hK.out _ _ (KR10.out.cell 0) (fun hHeld => ?_)
            clear hK K
            refine norm_ (a' := ?_) ?_ ?_
            rotate_left
            · show Act.put _ (some 95) _ = _
              simp only [Act.put, List.setIfInBounds_toArray, List.set_cons_zero, List.set_cons_succ, i64_w, i32_w]
              rfl
            refine one_ (i := 10) (N := some 100) #[true, true, true, true, true, true, true, true, true, true, true, false, false] rfl rfl (by kernel_rfl) (by decide) (fun K hK => ?_)
            refine goes_ Tryd.func16 (by kernel_rfl) rfl #[.string cn.nm, .int .i64 gg] (by rfl) rfl rfl (by simp only [List.map_toArray, List.map_cons, List.map_nil]; rfl) ?_
            with_reducible refine (rrev_calls cn.nm hv gg hg0 hg1 _).mono ?_
            rintro e w11 ⟨rfl, h11⟩
            have HB11 := Lib.hid (HB10.out.below h11)
            have HD11 := Lib.hid (HD10.out.below h11)
            have B11 := Lib.hid (below_step B10.out h11)
            have KR11 := Lib.hid (KR10.out.below h11 KR10.out.lt)
            refine ⟨_, rfl, ?_⟩
            refine hK.out _ _ (KR11.out.cell 0) (fun hHeld => ?_)
            clear hK K
            refine norm_ (a' := ?_) ?_ ?_
            rotate_left
            · show Act.put _ (some 100) _ = _
              simp only [Act.put, List.setIfInBounds_toArray, List.set_cons_zero, List.set_cons_succ, i64_w, i32_w]
              rfl
            refine one_ (i := 11) (N := some 101) #[true, true, true, true, true, true, true, true, true, true, true, true, false] rfl rfl (by kernel_rfl) (by decide) (fun K hK => ?_)
            refine goes_ Tryd.func25 (by kernel_rfl) rfl #[.pointer (some ⟨q, 0, none⟩), .string (revN cn.nm gg)] (by rfl) rfl rfl (by simp only [List.map_toArray, List.map_cons, List.map_nil]; rfl) ?_
            with_reducible refine (PD.out _ HD11.out).mono ?_
            rintro e w12 ⟨rfl, hD12, hc12⟩
            have HD12 := Lib.hid hD12
            have HB12 := Lib.hid (HB11.out.doc hc12)
            have B12 := Lib.hid (hc12.below_of B11.out B11.out.size (fun k hk e => by have := e.1; omega))
            have KR12 := Lib.hid (KR11.out.chg hc12 (doc_ne KR11.out (by decide)))
            clear hD12 hc12
            refine ⟨_, rfl, ?_⟩
            refine hK.out _ _ (KR12.out.cell 0) (fun hHeld => ?_)
            clear hK K
            refine norm_ (a' := ?_) ?_ ?_
            rotate_left
            · show Act.put _ (some 101) _ = _
              simp only [Act.put, List.setIfInBounds_toArray, List.set_cons_zero, List.set_cons_succ, i64_w, i32_w]
              rfl
            refine pure_ (i := 12) (N := some 102) (v := ?_) (a' := ?_) #[true, true, true, true, true, true, true, true, true, true, true, true, true] rfl rfl (by kernel_rfl) (fun _ _ _ h => h) (Or.inl ⟨by rfl, ?_⟩) ?_ ?_
            rotate_left
            · intro w'
              go_simp
              with_reducible rfl
            rotate_left
            · simp only [Act.put, List.setIfInBounds_toArray, List.set_cons_zero, List.set_cons_succ, i64_w, i32_w]
              rfl
            refine done_ (by kernel_rfl) ?_
            have HL12 := Lib.hid (HL.out.prove (revN cn.nm gg).data.toList)
            have hLl : (proveL L (revN cn.nm gg).data.toList).length ≤ L.length + 1 := by rw [proveL_len]; omega
            clear HB9 HD9 B9 KR9 HB10 HD10 B10 KR10 HB11 HD11 B11 KR11 HBd HDd BD KRd KR12 PR PD
            have HB10 := HB12
            have HD10 := HD12
            have B10 := B12
            have HL10 := HL12
            clear HB12 HD12 B12 HL12
            generalize proveL L (revN cn.nm gg).data.toList = L' at HB10 HD10 HL10 hLl
            go_wp2_with fail
            with_reducible refine (sameB_calls HB10.out HD10.out HL10.out).mono ?_
            rintro e wz ⟨rfl, hz'⟩
            have HBz := Lib.hid (HB10.out.below hz')
            have HDz := Lib.hid (HD10.out.below hz')
            have Bz := Lib.hid (below_step B10.out hz')
            clear hz' HB10 HD10 B10
            go_wp2_with fail
            go_roundw
            case rel => exact ⟨i + 1, L', by omega, by omega, by go_num, HBz, HDz, HL10, by omega, Bz⟩
            case measure => simp [vI]; omega
        · have hzb : (z == 0) = false := by simp [hz]
          clear hz
          go_upto_region 12 with fail
          clear hzb z0 z1
          have HBr := HB5
          have HDr := HD5
          have Br := B5
          clear HB5 HD5 B5
          have dr := (Below.refl w5.heap.size w5).drew
          have HBd := Lib.hid (HBr.out.below dr)
          have HDd := Lib.hid (HDr.out.below dr)
          have BD := Lib.hid (below_step Br.out dr)
          clear dr HBr HDr Br
          obtain ⟨cn, hcn⟩ : ∃ cn, cn = cfgOf sc sm := ⟨_, rfl⟩
          have hv : ValidN cn.nm := hcn ▸ cfgOf_valid sc sm
          have CCF := Lib.hid (fun w' => cfg_calls sc sm w' (v := .agg #[.string sc.nm, .int .i64 sc.img, .int .i64 sc.conc, .int .i64 sc.mn, .int .i64 sc.mx, .int .i64 sc.grc]) rfl (r := .agg #[.string cn.nm, .int .i64 cn.img, .int .i64 cn.conc, .int .i64 cn.mn, .int .i64 cn.mx, .int .i64 cn.grc]) (by rw [← hcn]; rfl))
          clear hcn
          go_wp2_with fail
          refine start_ (n := 13) (S := fun w' => w'.cell? ⟨ga, oa + i * 9 + 3, none⟩ = some (.string sc.nm) ∧ w'.cell? ⟨ga, oa + i * 9 + 4, none⟩ = some (.int .i64 sc.img) ∧ w'.cell? ⟨ga, oa + i * 9 + 5, none⟩ = some (.int .i64 sc.conc) ∧ w'.cell? ⟨ga, oa + i * 9 + 6, none⟩ = some (.int .i64 sc.mn) ∧ w'.cell? ⟨ga, oa + i * 9 + 7, none⟩ = some (.int .i64 sc.mx) ∧ w'.cell? ⟨ga, oa + i * 9 + 8, none⟩ = some (.int .i64 sc.grc) ∧ w'.cell? ⟨ga, oa + i * 9 + 2, none⟩ = some (.int .i64 sm) ∧ Below w5.drew.heap.size w5.drew w') (ds := [12]) #[false, false, false, false, false, false, false, false, false, false, false, false, false] (by kernel_rfl) rfl rfl ⟨HC.out _ 3 BD.out (by omega), HC.out _ 4 BD.out (by omega), HC.out _ 5 BD.out (by omega), HC.out _ 6 BD.out (by omega), HC.out _ 7 BD.out (by omega), HC.out _ 8 BD.out (by omega), HC.out _ 2 BD.out (by omega), Below.refl _ _⟩ (fun hHeld => ?_)
          refine pure_ (i := 0) (N := some 50) (v := ?_) (a' := ?_) #[true, false, false, false, false, false, false, false, false, false, false, false, false] rfl rfl (by kernel_rfl) (fun _ _ _ h => h) (Or.inl ⟨by rfl, ?_⟩) ?_ ?_
          rotate_left
          · intro w'
            go_simp
            with_reducible rfl
          rotate_left
          · simp only [Act.put, List.setIfInBounds_toArray, List.set_cons_zero, List.set_cons_succ, i64_w, i32_w]
            rfl
          refine pure_ (i := 1) (N := some 51) (v := ?_) (a' := ?_) #[true, true, false, false, false, false, false, false, false, false, false, false, false] rfl rfl (by kernel_rfl) (fun _ _ _ h => h) (Or.inl ⟨by rfl, ?_⟩) ?_ ?_
          rotate_left
          · intro w'
            go_simp
            with_reducible rfl
          rotate_left
          · simp only [Act.put, List.setIfInBounds_toArray, List.set_cons_zero, List.set_cons_succ, i64_w, i32_w]
            rfl
          refine pure_ (i := 2) (N := some 52) (v := ?_) (a' := ?_) #[true, true, true, false, false, false, false, false, false, false, false, false, false] rfl rfl (by kernel_rfl) (fun _ _ _ h => h) (Or.inl ⟨by rfl, ?_⟩) ?_ ?_
          rotate_left
          · intro w'
            go_simp
            with_reducible rfl
          rotate_left
          · simp only [Act.put, List.setIfInBounds_toArray, List.set_cons_zero, List.set_cons_succ, i64_w, i32_w]
            rfl
          refine pure_ (i := 3) (N := some 53) (v := ?_) (a' := ?_) #[true, true, true, true, false, false, false, false, false, false, false, false, false] rfl rfl (by kernel_rfl) (fun _ _ _ h => h) (Or.inl ⟨by rfl, ?_⟩) ?_ ?_
          rotate_left
          · intro w'
            go_simp
            with_reducible rfl
          rotate_left
          · simp only [Act.put, List.setIfInBounds_toArray, List.set_cons_zero, List.set_cons_succ, i64_w, i32_w]
            rfl
          refine pure_ (i := 5) (N := some 55) (v := ?_) (a' := ?_) #[true, true, true, true, false, true, false, false, false, false, false, false, false] rfl rfl (by kernel_rfl) (fun _ _ _ h => h) (Or.inl ⟨by rfl, ?_⟩) ?_ ?_
          rotate_left
          · intro w'
            go_simp
            with_reducible rfl
          rotate_left
          · simp only [Act.put, List.setIfInBounds_toArray, List.set_cons_zero, List.set_cons_succ, i64_w, i32_w]
            rfl
          refine pure_ (i := 6) (N := some 56) (v := ?_) (a' := ?_) #[true, true, true, true, false, true, true, false, false, false, false, false, false] rfl rfl (by kernel_rfl) (fun _ _ _ h => h) (Or.inl ⟨by rfl, ?_⟩) ?_ ?_
          rotate_left
          · intro w'
            go_simp
            with_reducible rfl
          rotate_left
          · simp only [Act.put, List.setIfInBounds_toArray, List.set_cons_zero, List.set_cons_succ, i64_w, i32_w]
            rfl
          refine pure_ (i := 7) (N := some 57) (v := ?_) (a' := ?_) #[true, true, true, true, false, true, true, true, false, false, false, false, false] rfl rfl (by kernel_rfl) (fun _ _ _ h => h) (Or.inl ⟨by rfl, ?_⟩) ?_ ?_
          rotate_left
          · intro w'
            go_simp
            with_reducible rfl
          rotate_left
          · simp only [Act.put, List.setIfInBounds_toArray, List.set_cons_zero, List.set_cons_succ, i64_w, i32_w]
            rfl
          refine pure_ (i := 8) (N := some 58) (v := ?_) (a' := ?_) #[true, true, true, true, false, true, true, true, true, false, false, false, false] rfl rfl (by kernel_rfl) (fun _ _ _ h => h) (Or.inl ⟨by rfl, ?_⟩) ?_ ?_
          rotate_left
          · intro w'
            go_simp
            with_reducible rfl
          rotate_left
          · simp only [Act.put, List.setIfInBounds_toArray, List.set_cons_zero, List.set_cons_succ, i64_w, i32_w]
            rfl
          refine take_ (i := 4) (N := some 54) (v := ?_) (a' := ?_) #[true, true, true, true, true, true, true, true, true, false, false, false, false] rfl rfl (by kernel_rfl) (fun _ _ _ h => h) (Or.inl ⟨by rfl, ?_⟩) hHeld ?_ ?_
          rotate_left
          · rintro w' ⟨s0, s1, s2, s3, s4, s5, s6, s7⟩
            go_simp
            with_reducible rfl
          rotate_left
          · simp only [Act.put, List.setIfInBounds_toArray, List.set_cons_zero, List.set_cons_succ, i64_w, i32_w]
            rfl
          refine take_ (i := 9) (N := some 59) (v := ?_) (a' := ?_) #[true, true, true, true, true, true, true, true, true, true, false, false, false] rfl rfl (by kernel_rfl) (fun _ _ _ h => h) (Or.inl ⟨by rfl, ?_⟩) hHeld ?_ ?_
          rotate_left
          · rintro w' ⟨s0, s1, s2, s3, s4, s5, s6, s7⟩
            go_simp
            with_reducible rfl
          rotate_left
          · simp only [Act.put, List.setIfInBounds_toArray, List.set_cons_zero, List.set_cons_succ, i64_w, i32_w]
            rfl
          refine join_ (σ := Nat) 1 #[true, true, true, true, true, true, true, true, true, true, true, true, false] (fun s => [(60, .agg #[.string cn.nm, .int .i64 cn.img, .int .i64 cn.conc, .int .i64 cn.mn, .int .i64 cn.mx, .int .i64 cn.grc]), (7, .pointer (some ⟨s, 0, none⟩))]) (fun s w' => Blk w' s #[.string ⟨#[]⟩, .int .i64 0, .int .i64 0, .int .i64 0, .int .i64 0, .int .i64 0] 27 ∧ w5.drew.heap.size ≤ s ∧ Below w5.drew.heap.size w5.drew w') ?_ ?_
          rotate_left
          · intro hCont
            refine two_ (i := 10) (j := 11) (Ni := some 60) (Nj := some 7) #[true, true, true, true, true, true, true, true, true, true, true, false, false] #[true, true, true, true, true, true, true, true, true, true, false, true, false] rfl rfl rfl rfl (by kernel_rfl) (by decide) (by decide) (fun K hK => ?_) (fun K hK => ?_)
            · skip
              refine goes_ Tryd.func18 (by kernel_rfl) rfl #[.agg #[.string sc.nm, .int .i64 sc.img, .int .i64 sc.conc, .int .i64 sc.mn, .int .i64 sc.mx, .int .i64 sc.grc], .int .i64 sm] (by rfl) rfl rfl (by simp only [List.map_toArray, List.map_cons, List.map_nil]; rfl) ?_
              with_reducible refine (CCF.out _).mono ?_
              rintro e wc ⟨rfl, hcc⟩
              have hbl := below_step hHeld.2.2.2.2.2.2.2 hcc
              refine ⟨_, rfl, ?_⟩
              refine hK.out _ _ ⟨HC.out _ 3 (below_step BD.out hbl) (by omega), HC.out _ 4 (below_step BD.out hbl) (by omega), HC.out _ 5 (below_step BD.out hbl) (by omega), HC.out _ 6 (below_step BD.out hbl) (by omega), HC.out _ 7 (below_step BD.out hbl) (by omega), HC.out _ 8 (below_step BD.out hbl) (by omega), HC.out _ 2 (below_step BD.out hbl) (by omega), hbl⟩ (fun hHeld => ?_)
              clear hK K
              refine norm_ (a' := ?_) ?_ ?_
              rotate_left
              · show Act.put _ (some 60) _ = _
                simp only [Act.put, List.setIfInBounds_toArray, List.set_cons_zero, List.set_cons_succ, i64_w, i32_w]
                rfl
              refine one_ (i := 11) (N := some 7) #[true, true, true, true, true, true, true, true, true, true, true, true, false] rfl rfl (by kernel_rfl) (by decide) (fun K hK => ?_)
              refine value_ (w1 := ?_) (v := ?_) (by rfl) rfl ?_ ?_
              rotate_left 2
              · go_simp
                constructor
                · rfl
                · rfl
              obtain ⟨gr, wa, hwa, hga, kr, hgr, hbl, _⟩ := hold_cfg hHeld.2.2.2.2.2.2.2
              rw [← hwa, ← hga]
              clear hwa hga
              refine hK.out _ _ ⟨HC.out _ 3 (below_step BD.out hbl) (by omega), HC.out _ 4 (below_step BD.out hbl) (by omega), HC.out _ 5 (below_step BD.out hbl) (by omega), HC.out _ 6 (below_step BD.out hbl) (by omega), HC.out _ 7 (below_step BD.out hbl) (by omega), HC.out _ 8 (below_step BD.out hbl) (by omega), HC.out _ 2 (below_step BD.out hbl) (by omega), hbl⟩ (fun hHeld => ?_)
              clear hK K
              refine norm_ (a' := ?_) ?_ ?_
              rotate_left
              · show Act.put _ (some 7) _ = _
                simp only [Act.put, List.setIfInBounds_toArray, List.set_cons_zero, List.set_cons_succ, i64_w, i32_w]
                rfl
              exact norm_ (by simp only [putAll, Act.put, List.setIfInBounds_toArray, List.set_cons_zero, List.set_cons_succ]) (hCont gr _ ⟨kr, hgr, hbl⟩)
            · skip
              refine value_ (w1 := ?_) (v := ?_) (by rfl) rfl ?_ ?_
              rotate_left 2
              · go_simp
                constructor
                · rfl
                · rfl
              obtain ⟨gr, wa, hwa, hga, kr, hgr, hbl, _⟩ := hold_cfgD hHeld.2.2.2.2.2.2.2
              rw [← hwa, ← hga]
              clear hwa hga
              refine hK.out _ _ ⟨HC.out _ 3 (below_step BD.out hbl) (by omega), HC.out _ 4 (below_step BD.out hbl) (by omega), HC.out _ 5 (below_step BD.out hbl) (by omega), HC.out _ 6 (below_step BD.out hbl) (by omega), HC.out _ 7 (below_step BD.out hbl) (by omega), HC.out _ 8 (below_step BD.out hbl) (by omega), HC.out _ 2 (below_step BD.out hbl) (by omega), hbl⟩ (fun hHeld => ?_)
              clear hK K
              refine norm_ (a' := ?_) ?_ ?_
              rotate_left
              · show Act.put _ (some 7) _ = _
                simp only [Act.put, List.setIfInBounds_toArray, List.set_cons_zero, List.set_cons_succ, i64_w, i32_w]
                rfl
              refine one_ (i := 10) (N := some 60) #[true, true, true, true, true, true, true, true, true, true, true, true, false] rfl rfl (by kernel_rfl) (by decide) (fun K hK => ?_)
              refine goes_ Tryd.func18 (by kernel_rfl) rfl #[.agg #[.string sc.nm, .int .i64 sc.img, .int .i64 sc.conc, .int .i64 sc.mn, .int .i64 sc.mx, .int .i64 sc.grc], .int .i64 sm] (by rfl) rfl rfl (by simp only [List.map_toArray, List.map_cons, List.map_nil]; rfl) ?_
              with_reducible refine (CCF.out _).mono ?_
              rintro e wc ⟨rfl, hcc⟩
              have hbl := below_step hHeld.2.2.2.2.2.2.2 hcc
              have kr := kr.below hcc kr.lt
              refine ⟨_, rfl, ?_⟩
              refine hK.out _ _ ⟨HC.out _ 3 (below_step BD.out hbl) (by omega), HC.out _ 4 (below_step BD.out hbl) (by omega), HC.out _ 5 (below_step BD.out hbl) (by omega), HC.out _ 6 (below_step BD.out hbl) (by omega), HC.out _ 7 (below_step BD.out hbl) (by omega), HC.out _ 8 (below_step BD.out hbl) (by omega), HC.out _ 2 (below_step BD.out hbl) (by omega), hbl⟩ (fun hHeld => ?_)
              clear hK K
              refine norm_ (a' := ?_) ?_ ?_
              rotate_left
              · show Act.put _ (some 60) _ = _
                simp only [Act.put, List.setIfInBounds_toArray, List.set_cons_zero, List.set_cons_succ, i64_w, i32_w]
                rfl
              exact norm_ (by simp only [putAll, Act.put, List.setIfInBounds_toArray, List.set_cons_zero, List.set_cons_succ]) (hCont gr _ ⟨kr, hgr, hbl⟩)
          rintro gr wx ⟨kr, hgr, hbx⟩
          have hHeld : True := trivial
          refine norm_ (a' := ?_) ?_ ?_
          rotate_left
          · simp only [putAll, Act.put, List.setIfInBounds_toArray, List.set_cons_zero, List.set_cons_succ]
            rfl
          refine last_ (i := 12) (N := none) #[true, true, true, true, true, true, true, true, true, true, true, true, true] rfl rfl (by kernel_rfl) (by decide) (fun K hK => ?_)
          obtain ⟨d0, d1, d2, d3, d4, d5⟩ := cells6 kr
          have f0 := kr.frozen 0
          have f1 := kr.frozen 1
          have f2 := kr.frozen 2
          have f3 := kr.frozen 3
          have f4 := kr.frozen 4
          have f5 := kr.frozen 5
          refine skip_ (w1 := ?_) (by rfl) rfl ?_ ?_
          rotate_left
          · go_simp
            rfl
          refine hK.out _ _ ?_
          clear hK K
          refine done_ (by kernel_rfl) ?_
          have k6 := Blk.set6 kr (.string cn.nm) (.int .i64 cn.img) (.int .i64 cn.conc) (.int .i64 cn.mn) (.int .i64 cn.mx) (.int .i64 cn.grc)
          have c6 := Chg.set6 wx gr (.string cn.nm) (.int .i64 cn.img) (.int .i64 cn.conc) (.int .i64 cn.mn) (.int .i64 cn.mx) (.int .i64 cn.grc)
          generalize ((((((wx.setCell ⟨gr, 0, none⟩ (.string cn.nm)).setCell ⟨gr, 1, none⟩ (.int .i64 cn.img)).setCell ⟨gr, 2, none⟩ (.int .i64 cn.conc)).setCell ⟨gr, 3, none⟩ (.int .i64 cn.mn)).setCell ⟨gr, 4, none⟩ (.int .i64 cn.mx)).setCell ⟨gr, 5, none⟩ (.int .i64 cn.grc)) = W7 at k6 c6 ⊢
          have HBx := HBd.out.below hbx
          have HDx := HDd.out.below hbx
          have hBx := below_step BD.out hbx
          have hgw : w.heap.size ≤ gr := Nat.le_trans BD.out.size hgr
          have HB7 := Lib.hid (HBx.typ c6 (fun k e => ⟨_, e ▸ kr⟩) (by decide))
          have HD7 := Lib.hid (HDx.typ c6 (fun k e => ⟨_, e ▸ kr⟩) (by decide))
          have B7 := Lib.hid (c6.below_of hBx hBx.size (fun k hk e => by omega))
          have KR7 := Lib.hid k6
          clear k6 c6 kr HBx HDx hBx d0 d1 d2 d3 d4 d5 f0 f1 f2 f3 f4 f5 HBd HDd BD hbx hgr CCF
          have e0 : W7.cell? ⟨ga, oa + i * 9, none⟩ = some (.int .i64 sk) := HC.out _ 0 B7.out (by omega)
          go_wp2_with fail
          have hwi := Lib.hid (within12 sk 3 (by omega) (by omega))
          have u0 := Int.emod_nonneg sk (b := 3) (by omega)
          have u1 := Int.emod_lt_of_pos sk (b := 3) (by omega)
          refine (damperlaw12_within.calls sk 3 (sk % 3) _ hwi.out).mono ?_
          rintro e w8 ⟨rfl, hdr_⟩
          have hd_ := hdr_.below
          clear hdr_
          clear hwi
          have HB8 := Lib.hid (HB7.out.below hd_)
          have HD8 := Lib.hid (HD7.out.below hd_)
          have B8 := Lib.hid (below_step B7.out hd_)
          have KR8 := Lib.hid (KR7.out.below hd_ KR7.out.lt)
          clear hd_ HB7 HD7 B7 KR7 e0
          generalize sk % 3 = u at u0 u1 ⊢
          by_cases hu : 0 < u
          · have hud : decide (0 < u) = true := decide_eq_true hu
            clear hu u0 u1
            obtain ⟨d0, d1, d2, d3, d4, d5⟩ := cells6 KR8.out
            go_wp2_with fail
            with_reducible refine (stamp_callsE HB8.out HL.out cn hv g hg0 hg1 (fun w' hb => HT.out w' (below_step B8.out hb)) (v := .agg #[.string cn.nm, .int .i64 cn.img, .int .i64 cn.conc, .int .i64 cn.mn, .int .i64 cn.mx, .int .i64 cn.grc]) rfl (nm := cn.nm) rfl).mono ?_
            rintro e w9 ⟨rfl, hB9, hc9⟩
            have HB9 := Lib.hid hB9
            have HD9 := Lib.hid (HD8.out.book HB8.out hc9)
            have B9 := Lib.hid (hc9.below_of B8.out B8.out.size (fun k hk e => by omega))
            have KR9 := Lib.hid (KR8.out.chg hc9 (map_ne HB8.out KR8.out))
            clear hB9 hc9 HB8 HD8 B8 KR8 d0 d1 d2 d3 d4 d5
            obtain ⟨d0, d1, d2, d3, d4, d5⟩ := cells6 KR9.out
            obtain ⟨nb, hnb⟩ : ∃ b, b = (findR L (revN cn.nm g).data.toList).isNone := ⟨_, rfl⟩
            have HNB := Lib.hid hnb
            rw [← hnb]
            clear hnb
            go_wp2_with fail
            with_reducible refine (dstamp_calls HD9.out HL.out cn hv g hg0 hg1 (cv := .agg #[.string cn.nm, .int .i64 cn.img, .int .i64 cn.conc, .int .i64 cn.mn, .int .i64 cn.mx, .int .i64 cn.grc]) rfl).mono ?_
            rintro e w10 ⟨rfl, hD10, hc10⟩
            rw [← HNB.out]
            have HD10 := Lib.hid hD10
            have HB10 := Lib.hid (HB9.out.doc hc10)
            have B10 := Lib.hid (hc10.below_of B9.out B9.out.size (fun k hk e => by have := e.1; omega))
            have HL10 := Lib.hid (HL.out.stamp hv hg0 hg1 (by omega))
            have hLl := stampL_len L cn g
            clear hD10 hc10 HB9 HD9 B9 KR9 d0 d1 d2 d3 d4 d5 HNB
            generalize stampL L cn g = L' at HB10 HD10 HL10 hLl
            go_wp2_with fail
            with_reducible refine (sameB_calls HB10.out HD10.out HL10.out).mono ?_
            rintro e wz ⟨rfl, hz'⟩
            have HBz := Lib.hid (HB10.out.below hz')
            have HDz := Lib.hid (HD10.out.below hz')
            have Bz := Lib.hid (below_step B10.out hz')
            clear hz' HB10 HD10 B10
            go_wp2_with fail
            go_roundw
            case rel => exact ⟨i + 1, L', by omega, by omega, by go_num, HBz, HDz, HL10, by omega, Bz⟩
            case measure => simp [vI]; omega
          · have hud : decide (0 < u) = false := decide_eq_false hu
            clear hu u0 u1
            have dr := (Below.refl w8.heap.size w8).drew
            have HBd := Lib.hid (HB8.out.below dr)
            have HDd := Lib.hid (HD8.out.below dr)
            have BD := Lib.hid (below_step B8.out dr)
            have KRd := Lib.hid (KR8.out.below dr KR8.out.lt)
            clear dr HB8 HD8 B8 KR8
            have hsz := revN_size cn.nm hv.hi g (by omega) hg1
            obtain ⟨rr, hrr⟩ : ∃ rr : Int, rr = (if (findR L (revN cn.nm g).data.toList).isSome then 0 else 6) := ⟨_, rfl⟩
            have PR := Lib.hid (fun w' (hb : BookAt w' p b1 b2 L) => prove_calls hb HL.out (revN cn.nm g) (by omega))
            have PD := Lib.hid (fun w' (hd : DBook w' w.heap.size q L) => dprove_calls hd (revN cn.nm g) HL.out)
            rw [← hrr] at PR PD
            clear hrr
            go_wp2_with fail
            refine start_ (n := 13) (S := fun w' => w'.cell? ⟨gr, 0, none⟩ = some (.string cn.nm)) (ds := []) #[false, false, false, false, false, false, false, false, false, false, false, false, false] (by kernel_rfl) rfl rfl (KRd.out.cell 0) (fun hHeld => ?_)
            refine pure_ (i := 0) (N := some 90) (v := ?_) (a' := ?_) #[true, false, false, false, false, false, false, false, false, false, false, false, false] rfl rfl (by kernel_rfl) (fun _ _ _ h => h) (Or.inl ⟨by rfl, ?_⟩) ?_ ?_
            rotate_left
            · intro w'
              go_simp
              with_reducible rfl
            rotate_left
            · simp only [Act.put, List.setIfInBounds_toArray, List.set_cons_zero, List.set_cons_succ, i64_w, i32_w]
              rfl
            refine pure_ (i := 1) (N := some 91) (v := ?_) (a' := ?_) #[true, true, false, false, false, false, false, false, false, false, false, false, false] rfl rfl (by kernel_rfl) (fun _ _ _ h => h) (Or.inl ⟨by rfl, ?_⟩) ?_ ?_
            rotate_left
            · intro w'
              go_simp
              with_reducible rfl
            rotate_left
            · simp only [Act.put, List.setIfInBounds_toArray, List.set_cons_zero, List.set_cons_succ, i64_w, i32_w]
              rfl
            refine pure_ (i := 3) (N := some 93) (v := ?_) (a' := ?_) #[true, true, false, true, false, false, false, false, false, false, false, false, false] rfl rfl (by kernel_rfl) (fun _ _ _ h => h) (Or.inl ⟨by rfl, ?_⟩) ?_ ?_
            rotate_left
            · intro w'
              go_simp
              with_reducible rfl
            rotate_left
            · simp only [Act.put, List.setIfInBounds_toArray, List.set_cons_zero, List.set_cons_succ, i64_w, i32_w]
              rfl
            refine pure_ (i := 6) (N := some 96) (v := ?_) (a' := ?_) #[true, true, false, true, false, false, true, false, false, false, false, false, false] rfl rfl (by kernel_rfl) (fun _ _ _ h => h) (Or.inl ⟨by rfl, ?_⟩) ?_ ?_
            rotate_left
            · intro w'
              go_simp
              with_reducible rfl
            rotate_left
            · simp only [Act.put, List.setIfInBounds_toArray, List.set_cons_zero, List.set_cons_succ, i64_w, i32_w]
              rfl
            refine pure_ (i := 7) (N := some 97) (v := ?_) (a' := ?_) #[true, true, false, true, false, false, true, true, false, false, false, false, false] rfl rfl (by kernel_rfl) (fun _ _ _ h => h) (Or.inl ⟨by rfl, ?_⟩) ?_ ?_
            rotate_left
            · intro w'
              go_simp
              with_reducible rfl
            rotate_left
            · simp only [Act.put, List.setIfInBounds_toArray, List.set_cons_zero, List.set_cons_succ, i64_w, i32_w]
              rfl
            refine pure_ (i := 9) (N := some 99) (v := ?_) (a' := ?_) #[true, true, false, true, false, false, true, true, false, true, false, false, false] rfl rfl (by kernel_rfl) (fun _ _ _ h => h) (Or.inl ⟨by rfl, ?_⟩) ?_ ?_
            rotate_left
            · intro w'
              go_simp
              with_reducible rfl
            rotate_left
            · simp only [Act.put, List.setIfInBounds_toArray, List.set_cons_zero, List.set_cons_succ, i64_w, i32_w]
              rfl
            refine take_ (i := 2) (N := some 92) (v := ?_) (a' := ?_) #[true, true, true, true, false, false, true, true, false, true, false, false, false] rfl rfl (by kernel_rfl) (fun _ _ _ h => h) (Or.inl ⟨by rfl, ?_⟩) hHeld ?_ ?_
            rotate_left
            · intro w' s0
              go_simp
              with_reducible rfl
            rotate_left
            · simp only [Act.put, List.setIfInBounds_toArray, List.set_cons_zero, List.set_cons_succ, i64_w, i32_w]
              rfl
            refine take_ (i := 8) (N := some 98) (v := ?_) (a' := ?_) #[true, true, true, true, false, false, true, true, true, true, false, false, false] rfl rfl (by kernel_rfl) (fun _ _ _ h => h) (Or.inl ⟨by rfl, ?_⟩) hHeld ?_ ?_
            rotate_left
            · intro w' s0
              go_simp
              with_reducible rfl
            rotate_left
            · simp only [Act.put, List.setIfInBounds_toArray, List.set_cons_zero, List.set_cons_succ, i64_w, i32_w]
              rfl
            refine one_ (i := 4) (N := some 94) #[true, true, true, true, true, false, true, true, true, true, false, false, false] rfl rfl (by kernel_rfl) (by decide) (fun K hK => ?_)
            refine goes_ Tryd.func16 (by kernel_rfl) rfl #[.string cn.nm, .int .i64 g] (by rfl) rfl rfl (by simp only [List.map_toArray, List.map_cons, List.map_nil]; rfl) ?_
            with_reducible refine (rrev_calls cn.nm hv g hg0 hg1 _).mono ?_
            rintro e w9 ⟨rfl, h9⟩
            have HB9 := Lib.hid (HBd.out.below h9)
            have HD9 := Lib.hid (HDd.out.below h9)
            have B9 := Lib.hid (below_step BD.out h9)
            have KR9 := Lib.hid (KRd.out.below h9 KRd.out.lt)
            refine ⟨_, rfl, ?_⟩
            refine hK.out _ _ (KR9.out.cell 0) (fun hHeld => ?_)
            clear hK K
            refine norm_ (a' := ?_) ?_ ?_
            rotate_left
            · show Act.put _ (some 94) _ = _
              simp only [Act.put, List.setIfInBounds_toArray, List.set_cons_zero, List.set_cons_succ, i64_w, i32_w]
              rfl
            refine one_ (i := 5) (N := some 95) #[true, true, true, true, true, true, true, true, true, true, false, false, false] rfl rfl (by kernel_rfl) (by decide) (fun K hK => ?_)
            refine goes_ Tryd.func15 (by kernel_rfl) rfl #[.pointer (some ⟨p, 0, none⟩), .string (revN cn.nm g)] (by rfl) rfl rfl (by simp only [List.map_toArray, List.map_cons, List.map_nil]; rfl) ?_
            with_reducible refine (PR.out _ HB9.out).mono ?_
            rintro e w10 ⟨rfl, hB10, hc10⟩
            have HB10 := Lib.hid hB10
            have HD10 := Lib.hid (HD9.out.book HB9.out hc10)
            have B10 := Lib.hid (hc10.below_of B9.out B9.out.size (fun k hk e => by omega))
            have KR10 := Lib.hid (KR9.out.chg hc10 (map_ne HB9.out KR9.out))
            clear hB10 hc10
            refine ⟨_, rfl, ?_⟩
            refine hK.out _ _ (KR10.out.cell 0) (fun hHeld => ?_)
            clear hK K
            refine norm_ (a' := ?_) ?_ ?_
            rotate_left
            · show Act.put _ (some 95) _ = _
              simp only [Act.put, List.setIfInBounds_toArray, List.set_cons_zero, List.set_cons_succ, i64_w, i32_w]
              rfl
            refine one_ (i := 10) (N := some 100) #[true, true, true, true, true, true, true, true, true, true, true, false, false] rfl rfl (by kernel_rfl) (by decide) (fun K hK => ?_)
            refine goes_ Tryd.func16 (by kernel_rfl) rfl #[.string cn.nm, .int .i64 g] (by rfl) rfl rfl (by simp only [List.map_toArray, List.map_cons, List.map_nil]; rfl) ?_
            with_reducible refine (rrev_calls cn.nm hv g hg0 hg1 _).mono ?_
            rintro e w11 ⟨rfl, h11⟩
            have HB11 := Lib.hid (HB10.out.below h11)
            have HD11 := Lib.hid (HD10.out.below h11)
            have B11 := Lib.hid (below_step B10.out h11)
            have KR11 := Lib.hid (KR10.out.below h11 KR10.out.lt)
            refine ⟨_, rfl, ?_⟩
            refine hK.out _ _ (KR11.out.cell 0) (fun hHeld => ?_)
            clear hK K
            refine norm_ (a' := ?_) ?_ ?_
            rotate_left
            · show Act.put _ (some 100) _ = _
              simp only [Act.put, List.setIfInBounds_toArray, List.set_cons_zero, List.set_cons_succ, i64_w, i32_w]
              rfl
            refine one_ (i := 11) (N := some 101) #[true, true, true, true, true, true, true, true, true, true, true, true, false] rfl rfl (by kernel_rfl) (by decide) (fun K hK => ?_)
            refine goes_ Tryd.func25 (by kernel_rfl) rfl #[.pointer (some ⟨q, 0, none⟩), .string (revN cn.nm g)] (by rfl) rfl rfl (by simp only [List.map_toArray, List.map_cons, List.map_nil]; rfl) ?_
            with_reducible refine (PD.out _ HD11.out).mono ?_
            rintro e w12 ⟨rfl, hD12, hc12⟩
            have HD12 := Lib.hid hD12
            have HB12 := Lib.hid (HB11.out.doc hc12)
            have B12 := Lib.hid (hc12.below_of B11.out B11.out.size (fun k hk e => by have := e.1; omega))
            have KR12 := Lib.hid (KR11.out.chg hc12 (doc_ne KR11.out (by decide)))
            clear hD12 hc12
            refine ⟨_, rfl, ?_⟩
            refine hK.out _ _ (KR12.out.cell 0) (fun hHeld => ?_)
            clear hK K
            refine norm_ (a' := ?_) ?_ ?_
            rotate_left
            · show Act.put _ (some 101) _ = _
              simp only [Act.put, List.setIfInBounds_toArray, List.set_cons_zero, List.set_cons_succ, i64_w, i32_w]
              rfl
            refine pure_ (i := 12) (N := some 102) (v := ?_) (a' := ?_) #[true, true, true, true, true, true, true, true, true, true, true, true, true] rfl rfl (by kernel_rfl) (fun _ _ _ h => h) (Or.inl ⟨by rfl, ?_⟩) ?_ ?_
            rotate_left
            · intro w'
              go_simp
              with_reducible rfl
            rotate_left
            · simp only [Act.put, List.setIfInBounds_toArray, List.set_cons_zero, List.set_cons_succ, i64_w, i32_w]
              rfl
            refine done_ (by kernel_rfl) ?_
            have HL12 := Lib.hid (HL.out.prove (revN cn.nm g).data.toList)
            have hLl : (proveL L (revN cn.nm g).data.toList).length ≤ L.length + 1 := by rw [proveL_len]; omega
            clear HB9 HD9 B9 KR9 HB10 HD10 B10 KR10 HB11 HD11 B11 KR11 HBd HDd BD KRd KR12 PR PD
            have HB10 := HB12
            have HD10 := HD12
            have B10 := B12
            have HL10 := HL12
            clear HB12 HD12 B12 HL12
            generalize proveL L (revN cn.nm g).data.toList = L' at HB10 HD10 HL10 hLl
            go_wp2_with fail
            with_reducible refine (sameB_calls HB10.out HD10.out HL10.out).mono ?_
            rintro e wz ⟨rfl, hz'⟩
            have HBz := Lib.hid (HB10.out.below hz')
            have HDz := Lib.hid (HD10.out.below hz')
            have Bz := Lib.hid (below_step B10.out hz')
            clear hz' HB10 HD10 B10
            go_wp2_with fail
            go_roundw
            case rel => exact ⟨i + 1, L', by omega, by omega, by go_num, HBz, HDz, HL10, by omega, Bz⟩
            case measure => simp [vI]; omega
      · obtain rfl : i = 50 := by omega
        go_wp2_with fail
        go_ret
        exact ⟨rfl, BB.out⟩
    · obtain rfl : i = l0.length := by omega
      go_wp2_with fail
      go_ret
      exact ⟨rfl, BB.out⟩

end Go.Proofs.YtmiojmnifnnncaaDoor.PA
