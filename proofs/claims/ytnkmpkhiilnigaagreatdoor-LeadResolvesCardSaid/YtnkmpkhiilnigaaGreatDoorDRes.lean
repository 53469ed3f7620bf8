/- The document's Resolve: the walk. (Printed by dres.py, genx.py.) -/
import Derived.Test.YtnkmpkhiilnigaaGreatDoorDResM
set_option linter.unusedSimpArgs false
set_option linter.unusedVariables false
namespace Go.Proofs.YtnkmpkhiilnigaaGreatDoor.PR
open Go.RowKit Go.Shelf Go.Lib Go.Sort Go.Maps Go.Proofs.YtnkmpkhiilnigaaGreatDoor.PA Go.Proofs.YtnkmpkhiilnigaaGreatDoorW.PrintWords Go.Proofs.YtnkmpkhiilnigaaGreatDoorW.PrintLast

theorem new_str (W : World) (s : ByteArray) : (W.alloc (.cells #[.string s] 9)).heap[W.heap.size]? = some (.cells (elS.enc s.toList).toArray elS.e (0, 0)) := by
  have h := Blk.new W #[.string s] 9
  rw [show elS.enc s.toList = [.string s] from congrArg (fun v => [v]) (PB.enc_bs s)]
  exact h
theorem rdS {w : World} {B c : Nat} {A : Option Addr} {xs : List (List UInt8)} (h : RowG elS w B (.slice A xs.length c) xs) {j : Nat} (hj : j < xs.length) : ∃ g, A = some ⟨g, 0, none⟩ ∧ g < w.heap.size ∧ w.cell? ⟨g, j, none⟩ = some (.string ⟨xs[j].toArray⟩) := by
  obtain ⟨g, c', hv, _, _, _, hg, hc⟩ := h.cells (by omega)
  cases hv
  have h2 : w.cell? ⟨g, j * 1 + 0, none⟩ = some (encStr xs[j]) := hc j hj 0 (by show 0 < 1; omega)
  rw [Nat.mul_one, Nat.add_zero] at h2
  exact ⟨g, rfl, hg, h2⟩
theorem rdH {w : World} {B c : Nat} {A : Option Addr} {xs : List S51} (h : RowG el51 w B (.slice A xs.length c) xs) {j : Nat} (hj : j < xs.length) : ∃ g, A = some ⟨g, 0, none⟩ ∧ g < w.heap.size ∧ w.cell? ⟨g, j * 2, none⟩ = some (.string xs[j].f0) ∧ w.cell? ⟨g, j * 2 + 1, none⟩ = some (.int .i64 xs[j].f1) := by
  obtain ⟨g, c', hv, _, _, _, hg, hc⟩ := h.cells (by omega)
  cases hv
  have h0 := hc j hj 0 (by show 0 < 2; omega)
  have h1 := hc j hj 1 (by show 1 < 2; omega)
  exact ⟨g, rfl, hg, h0, h1⟩
theorem hold_share (w : World) (n : ByteArray) (x : Int) : ∃ g w5, w5 = (w.alloc (.cells #[.string n, .int .i64 x] 51)).drew ∧ g = w.heap.size ∧ w5.heap[g]? = some (.cells (el51.enc ⟨n, x⟩).toArray el51.e (0, 0)) ∧ Below w.drew.heap.size w.drew w5 := by
  have h1 := Blk.new w.drew #[.string n, .int .i64 x] 51
  have h2 : Below w.drew.heap.size w.drew (w.drew.alloc (.cells #[.string n, .int .i64 x] 51)) := (Below.refl _ _).alloc (Nat.le_refl _) _
  exact ⟨_, _, rfl, rfl, h1, h2⟩
theorem hold_tag (w : World) (n x : ByteArray) : ∃ g w5, w5 = (w.alloc (.cells #[.string n, .string x] 83)).drew ∧ g = w.heap.size ∧ w5.heap[g]? = some (.cells (el83.enc ⟨n, x⟩).toArray el83.e (0, 0)) ∧ Below w.drew.heap.size w.drew w5 := by
  have h1 := Blk.new w.drew #[.string n, .string x] 83
  have h2 : Below w.drew.heap.size w.drew (w.drew.alloc (.cells #[.string n, .string x] 83)) := (Below.refl _ _).alloc (Nat.le_refl _) _
  exact ⟨_, _, rfl, rfl, h1, h2⟩

set_option maxRecDepth 100000 in
set_option maxHeartbeats 8000000 in
theorem dresolve_calls {w : World} {q b : Nat} {L : List PB.RevM} (hD : PB.DBook w b q L) (hL : PB.OkL L) (nm cfg : ByteArray) (roll : Int) (T : Option Addr) (c : Nat) (ts : List TgM) (hT : TgsAt w T ts) (hts : ∀ t ∈ ts, TgOk t) (hn : ts.length ≤ 100) :
    Calls Tryz.prog 8 #[.agg #[.string nm, .string cfg, .slice T ts.length c, .int .i64 roll], .pointer (some ⟨q, 0, none⟩)] w (DPost w L cfg ts) := by
  have HT := Lib.hid hT
  have HTS := Lib.hid hts
  have HL := Lib.hid hL
  obtain ⟨g, hg⟩ : ∃ g, g = w.heap.size := ⟨_, rfl⟩
  obtain ⟨W, hW⟩ : ∃ W, W = (w.alloc (.cells #[.string nm, .string cfg, .slice T ts.length c, .int .i64 roll] 31)).alloc (.cells #[.slice none 0 0, .slice none 0 0] 36) := ⟨_, rfl⟩
  have bW : Below w.heap.size w W := by rw [hW]; exact ((Below.refl _ _).alloc (Nat.le_refl _) _).alloc (by simp) _
  have kr : Blk W g #[.string nm, .string cfg, .slice T ts.length c, .int .i64 roll] 31 := by rw [hW, hg]; exact (Blk.new _ _ _).alloc _
  have kx : Blk W (g + 1) #[.slice none 0 0, .slice none 0 0] 36 := by
    rw [hW, hg]
    have := Blk.new (w.alloc (.cells #[.string nm, .string cfg, .slice T ts.length c, .int .i64 roll] 31)) #[.slice none 0 0, .slice none 0 0] 36
    simpa using this
  have RD0 : Hid (RDoc w b q g (g + 1) L #[.string nm, .string cfg, .slice T ts.length c, .int .i64 roll] W (.slice none 0 0) (.slice none 0 0) (.slice none 0 0) (.slice none 0 0) (dN L cfg (ts.take 0)) (dT (ts.take 0)) (dTo L cfg (ts.take 0)) (dSum L cfg (ts.take 0))) :=
    Lib.hid ⟨kr, kx, hD.below bW, RowG.nil _ _ _, RowG.nil _ _ _, RowG.nil _ _ _, RowG.nil _ _ _, (fun k e => by cases e), bW⟩
  have hgw : w.heap.size ≤ g := by omega
  clear hT hts hL hD bW kr kx
  go_enter Tryz.func8, Tryz.ntmps8
  go_upto_region 3 with fail
  rw [← hW, ← hg]
  clear hW hg
  obtain ⟨gx, hgx⟩ : ∃ gx, gx = g + 1 := ⟨_, rfl⟩
  have hgx1 : g < gx := by omega
  rw [← hgx] at RD0 ⊢
  clear hgx
  go_wp2_with fail
  go_loopw [6, 7, 8, 9, 10] (fun v6 v7 v8 v9 v10 wr => ∃ (i : Nat), i ≤ ts.length ∧ v10 = .int .i64 i ∧ Hid (RDoc w b q g gx L #[.string nm, .string cfg, .slice T ts.length c, .int .i64 roll] wr v6 v7 v8 v9 (dN L cfg (ts.take i)) (dT (ts.take i)) (dTo L cfg (ts.take i)) (dSum L cfg (ts.take i))) ∧ Hid (∀ j (hj : j < ts.length), j < i → (tgt L cfg ts[j].rev).2 = 0)) (fun _ _ _ _ v10 _ => ts.length - (PB.vI v10).toNat)
  case atStart => exact ⟨0, by omega, rfl, RD0, Lib.hid (fun j _ h => absurd h (Nat.not_lt_zero _))⟩
  case round =>
    clear RD0
    obtain ⟨i, hi, rfl, RD, HP⟩ := hrel
    have q2 := RD.out.kr.cell 2
    simp only [List.getElem?_toArray, List.getElem?_cons_zero, List.getElem?_cons_succ] at q2
    by_cases hlt : i < ts.length
    · have hlt' : (i : Int) < (ts.length : Int) := by omega
      obtain ⟨ga, oa, rfl, hga, hcs⟩ := HT.out (fun e => by rw [e] at hlt; exact absurd hlt (Nat.not_lt_zero _))
      have hsu1 := dN_succ L cfg hlt
      have hsu2 := dTo_succ L cfg hlt
      have hsu3 := dSum_succ L cfg hlt
      have hsu4 := dT_succ hlt
      have hok := HTS.out ts[i] (List.getElem_mem hlt)
      have hfe := fun hne => firstErr_at (L := L) (cfg := cfg) hlt HP.out hne
      have hp' : (tgt L cfg ts[i].rev).2 = 0 → ∀ j (hj : j < ts.length), j < i + 1 → (tgt L cfg ts[j].rev).2 = 0 := fun h0 j hj hji => by
        rcases Nat.lt_or_ge j i with h | h
        · exact HP.out j hj h
        · have : j = i := by omega
          subst this
          exact h0
      obtain ⟨c0, c1, c2⟩ := hcs i hlt
      obtain ⟨tr, tt, tp, htm⟩ : ∃ a b d, ts[i] = ⟨a, b, d⟩ := ⟨_, _, _, rfl⟩
      rw [htm] at hsu1 hsu2 hsu3 hsu4 hok hfe hp' c0 c1 c2
      have e0 : wr.cell? ⟨ga, oa + i * 3, none⟩ = some (.string tr) := (RD.out.bl.cell (p := ⟨ga, oa + i * 3, none⟩) hga).trans c0
      have e1 : wr.cell? ⟨ga, oa + i * 3 + 1, none⟩ = some (.string tt) := (RD.out.bl.cell (p := ⟨ga, oa + i * 3 + 1, none⟩) hga).trans c1
      have e2 : wr.cell? ⟨ga, oa + i * 3 + 2, none⟩ = some (.int .i64 tp) := (RD.out.bl.cell (p := ⟨ga, oa + i * 3 + 2, none⟩) hga).trans c2
      have HSU1 := Lib.hid hsu1
      have HSU2 := Lib.hid hsu2
      have HSU3 := Lib.hid hsu3
      have HSU4 := Lib.hid hsu4
      have HOK := Lib.hid hok
      have HFE := Lib.hid hfe
      have HPP := Lib.hid hp'
      clear hsu1 hsu2 hsu3 hsu4 hok hfe hp' c0 c1 c2 htm hcs HP
      obtain ⟨gt, hgt⟩ : ∃ gt, gt = wr.heap.size := ⟨_, rfl⟩
      obtain ⟨W1, hW1⟩ : ∃ W1, W1 = wr.alloc (.cells #[.string tr, .string tt, .int .i64 tp] 70) := ⟨_, rfl⟩
      have bW1 : Below wr.heap.size wr W1 := by rw [hW1]; exact (Below.refl _ _).alloc (Nat.le_refl _) _
      have k1 : Blk W1 gt #[.string tr, .string tt, .int .i64 tp] 70 := by rw [hW1, hgt]; exact Blk.new _ _ _
      have KT1 := Lib.hid k1
      have RD1 := Lib.hid (RD.out.below bW1)
      clear k1 bW1 RD
      go_upto_region 7 with fail
      rw [← hW1, ← hgt]
      clear hW1 hgt e0 e1 e2 q2
      have t0 := KT1.out.cell 0
      have r1 := RD1.out.kr.cell 1
      simp only [List.getElem?_toArray, List.getElem?_cons_zero, List.getElem?_cons_succ] at t0 r1
      by_cases hz : tr.size = 0
      · obtain rfl := str_eq hz
        clear hz
        have HLT := Lib.hid (PB.dlatest_calls RD1.out.db HL.out cfg)
        go_wp2_with fail
        with_reducible refine HLT.out.mono ?_
        rintro e W2 ⟨rfl, hb2⟩
        have RD2 := Lib.hid (RD1.out.below hb2)
        have KT2 := Lib.hid (KT1.out.below hb2 KT1.out.lt)
        clear hb2 RD1 KT1 t0 r1 HLT
        have HLD := Lib.hid (leads_late (L := L) HL.out (cfg := cfg) (ts := ts))
        have HTE := Lib.hid (show (PB.latestN L cfg (PB.provedL L)).size = 0 → firstErr L cfg ts = some 9 from fun h => by
          have ht : tgt L cfg ⟨#[]⟩ = (⟨#[]⟩, 9) := by unfold tgt; exact (if_pos rfl).trans (if_pos h)
          have := HFE.out
          rw [ht] at this
          exact this (by decide))
        obtain ⟨rv, hrv⟩ : ∃ rv, rv = PB.latestN L cfg (PB.provedL L) := ⟨_, rfl⟩
        rw [← hrv] at HLD HTE ⊢
        clear hrv
        by_cases hz : rv.size = 0
        · have HE := Lib.hid (HTE.out hz)
          obtain rfl := str_eq hz
          clear hz HTE HLD KT2
          have x0 := RD2.out.kx.cell 0
          have x1 := RD2.out.kx.cell 1
          have f0 := RD2.out.kx.frozen 0
          have f1 := RD2.out.kx.frozen 1
          simp only [List.getElem?_toArray, List.getElem?_cons_zero, List.getElem?_cons_succ] at x0 x1
          have kx' : Blk ((W2.setCell ⟨gx, 0, none⟩ (.slice none 0 0)).setCell ⟨gx, 1, none⟩ (.slice none 0 0)) gx #[.slice none 0 0, .slice none 0 0] 36 := (RD2.out.kx.set 0 _ rfl).set 1 _ rfl
          have bx' : Below w.heap.size w ((W2.setCell ⟨gx, 0, none⟩ (.slice none 0 0)).setCell ⟨gx, 1, none⟩ (.slice none 0 0)) := (RD2.out.bl.setCell (p := ⟨gx, 0, none⟩) (by show w.heap.size ≤ gx; omega) _).setCell (p := ⟨gx, 1, none⟩) (by show w.heap.size ≤ gx; omega) _
          have KX3 := Lib.hid kx'
          have BX3 := Lib.hid bx'
          clear kx' bx'
          go_wp2_with fail
          have y0 := KX3.out.cell 0
          have y1 := KX3.out.cell 1
          simp only [List.getElem?_toArray, List.getElem?_cons_zero, List.getElem?_cons_succ] at y0 y1
          exact bodyPost_ret (v := .tuple #[.agg #[.slice none 0 0, .slice none 0 0], .int .i64 9]) (by simp [results, Tryz.results8, go_sem, y0, y1]) rfl ⟨BX3.out, by rw [HE.out]⟩
        · have LD := Lib.hid (HLD.out hz)
          obtain ⟨z1, z2⟩ := str_ne hz
          clear HLD HTE hz
          have hrz := LD.out.size
          cases hf : PB.findR L rv.data.toList with
          | none =>
            have HE := Lib.hid (LD.out.e6 hf)
            have GN := Lib.hid (PB.dget_agg RD2.out.db rv HL.out.len (v := .agg #[.string ⟨#[]⟩, .int .i64 0, .string ⟨#[]⟩, .int .i64 0, .int .i64 0, .int .i64 0, .int .i64 0, .int .i64 0]) (b := false) (by rw [hf]; rfl) (by rw [hf]; rfl))
            clear hf LD hrz
            go_wp2_with fail
            with_reducible refine GN.out.mono ?_
            rintro e W3 ⟨rfl, hb3⟩
            obtain ⟨W4, hW4⟩ : ∃ W4, W4 = W3.alloc (.cells #[.string ⟨#[]⟩, .int .i64 0, .string ⟨#[]⟩, .int .i64 0, .int .i64 0, .int .i64 0, .int .i64 0, .int .i64 0] 88) := ⟨_, rfl⟩
            have bW4 : Below W3.heap.size W3 W4 := by rw [hW4]; exact (Below.refl _ _).alloc (Nat.le_refl _) _
            have RD4 := Lib.hid (RD2.out.below (stepB hb3 bW4))
            clear hb3 bW4 RD2 KT2 GN
            go_upto_region 13 with fail
            rw [← hW4]
            clear hW4
            have x0 := RD4.out.kx.cell 0
            have x1 := RD4.out.kx.cell 1
            have f0 := RD4.out.kx.frozen 0
            have f1 := RD4.out.kx.frozen 1
            simp only [List.getElem?_toArray, List.getElem?_cons_zero, List.getElem?_cons_succ] at x0 x1
            have kx' : Blk ((W4.setCell ⟨gx, 0, none⟩ (.slice none 0 0)).setCell ⟨gx, 1, none⟩ (.slice none 0 0)) gx #[.slice none 0 0, .slice none 0 0] 36 := (RD4.out.kx.set 0 _ rfl).set 1 _ rfl
            have bx' : Below w.heap.size w ((W4.setCell ⟨gx, 0, none⟩ (.slice none 0 0)).setCell ⟨gx, 1, none⟩ (.slice none 0 0)) := (RD4.out.bl.setCell (p := ⟨gx, 0, none⟩) (by show w.heap.size ≤ gx; omega) _).setCell (p := ⟨gx, 1, none⟩) (by show w.heap.size ≤ gx; omega) _
            have KX3 := Lib.hid kx'
            have BX3 := Lib.hid bx'
            clear kx' bx'
            go_wp2_with fail
            have y0 := KX3.out.cell 0
            have y1 := KX3.out.cell 1
            simp only [List.getElem?_toArray, List.getElem?_cons_zero, List.getElem?_cons_succ] at y0 y1
            exact bodyPost_ret (v := .tuple #[.agg #[.slice none 0 0, .slice none 0 0], .int .i64 6]) (by simp [results, Tryz.results8, go_sem, y0, y1]) rfl ⟨BX3.out, by rw [HE.out]⟩
          | some r =>
            have hne : PB.findR L rv.data.toList ≠ none := by rw [hf]; exact fun e => by cases e
            have GS := Lib.hid (PB.dget_agg RD2.out.db rv HL.out.len (v := .agg #[.string r.nm, .int .i64 r.g, .string r.c.nm, .int .i64 r.c.img, .int .i64 r.c.conc, .int .i64 r.c.mn, .int .i64 r.c.mx, .int .i64 r.c.grc]) (b := true) (by rw [hf]; rfl) (by rw [hf]; rfl))
            have HE9 := Lib.hid (LD.out.e9 hne)
            have HOK9 := Lib.hid (LD.out.ok hne)
            clear hf hne LD
            go_wp2_with fail
            with_reducible refine GS.out.mono ?_
            rintro e W3 ⟨rfl, hb3⟩
            obtain ⟨W4, hW4⟩ : ∃ W4, W4 = W3.alloc (.cells #[.string r.nm, .int .i64 r.g, .string r.c.nm, .int .i64 r.c.img, .int .i64 r.c.conc, .int .i64 r.c.mn, .int .i64 r.c.mx, .int .i64 r.c.grc] 88) := ⟨_, rfl⟩
            have bW4 : Below W3.heap.size W3 W4 := by rw [hW4]; exact (Below.refl _ _).alloc (Nat.le_refl _) _
            have RD4 := Lib.hid (RD2.out.below (stepB hb3 bW4))
            have KT4 := Lib.hid (KT2.out.below (stepB hb3 bW4) KT2.out.lt)
            clear hb3 bW4 RD2 KT2 GS
            go_upto_region 13 with fail
            rw [← hW4]
            clear hW4
            have PX := PB.dproved_calls RD4.out.db rv HL.out
            obtain ⟨pv, hpv⟩ : ∃ pv, pv = PB.provedL L rv.data.toList := ⟨_, rfl⟩
            rw [← hpv] at PX HE9 HOK9
            have PX := Lib.hid PX
            clear hpv
            cases pv with
            | false =>
              have HE := Lib.hid (HE9.out rfl)
              clear HE9 HOK9 KT4
              go_wp2_with fail
              with_reducible refine PX.out.mono ?_
              rintro e W5 ⟨rfl, hw5⟩
              rw [hw5]
              clear hw5
              have x0 := RD4.out.kx.cell 0
              have x1 := RD4.out.kx.cell 1
              have f0 := RD4.out.kx.frozen 0
              have f1 := RD4.out.kx.frozen 1
              simp only [List.getElem?_toArray, List.getElem?_cons_zero, List.getElem?_cons_succ] at x0 x1
              have kx' : Blk ((W4.setCell ⟨gx, 0, none⟩ (.slice none 0 0)).setCell ⟨gx, 1, none⟩ (.slice none 0 0)) gx #[.slice none 0 0, .slice none 0 0] 36 := (RD4.out.kx.set 0 _ rfl).set 1 _ rfl
              have bx' : Below w.heap.size w ((W4.setCell ⟨gx, 0, none⟩ (.slice none 0 0)).setCell ⟨gx, 1, none⟩ (.slice none 0 0)) := (RD4.out.bl.setCell (p := ⟨gx, 0, none⟩) (by show w.heap.size ≤ gx; omega) _).setCell (p := ⟨gx, 1, none⟩) (by show w.heap.size ≤ gx; omega) _
              have KX3 := Lib.hid kx'
              have BX3 := Lib.hid bx'
              clear kx' bx'
              go_wp2_with fail
              have y0 := KX3.out.cell 0
              have y1 := KX3.out.cell 1
              simp only [List.getElem?_toArray, List.getElem?_cons_zero, List.getElem?_cons_succ] at y0 y1
              exact bodyPost_ret (v := .tuple #[.agg #[.slice none 0 0, .slice none 0 0], .int .i64 9]) (by simp [results, Tryz.results8, go_sem, y0, y1]) rfl ⟨BX3.out, by rw [HE.out]⟩
            | true =>
              have htg := HOK9.out rfl
              have HNN := Lib.hid (show dN L cfg (ts.take (i + 1)) = PB.insS rv.toList (dN L cfg (ts.take i)) from by rw [HSU1.out, htg])
              have HTO := Lib.hid (show dTo L cfg (ts.take (i + 1)) = dTo L cfg (ts.take i) ++ [rv.toList] from by rw [HSU2.out, htg])
              have HSM := Lib.hid (show dSum L cfg (ts.take (i + 1)) = dSum L cfg (ts.take i) ++ [⟨rv, tp⟩] from by rw [HSU3.out, htg])
              have HEZ := Lib.hid (HPP.out (by rw [htg]))
              clear htg HE9 HOK9 HPP HFE
              have hl6 := dN_len L cfg ts i (by omega)
              have PT := Lib.hid (PB.put2_calls w.heap.size _ _ rv W4 RD4.out.n6 RD4.out.bl.size (by omega))
              clear hl6
              go_wp2_with fail
              with_reducible refine PX.out.mono ?_
              rintro e W5 ⟨rfl, hw5⟩
              rw [hw5]
              clear hw5 PX
              go_wp2_with fail
              with_reducible refine PT.out.mono ?_
              rintro e W6 ⟨v6', rfl, hr6, ho6, hb6⟩
              rw [← HNN.out] at hr6
              have RD6 := Lib.hid (RD4.out.put6 hb6 hr6 ho6)
              have KT6 := Lib.hid (KT4.out.below hb6 KT4.out.lt)
              clear hr6 ho6 hb6 PT RD4 KT4 HNN
              have t1 := KT6.out.cell 1
              have t2 := KT6.out.cell 2
              simp only [List.getElem?_toArray, List.getElem?_cons_zero, List.getElem?_cons_succ] at t1 t2
              obtain ⟨A9, c9, rfl, _⟩ := RD6.out.n9.shape
              have b9 : Below W6.heap.size W6 (W6.alloc (.cells #[.string rv, .int .i64 tp] 51)) := (Below.refl _ _).alloc (Nat.le_refl _) _
              have RE6 := Lib.hid (RD6.out.below b9)
              have KE6 := Lib.hid (SrcG.one (E := el51) (x := ⟨rv, tp⟩) (Blk.new W6 #[.string rv, .int .i64 tp] 51))
              have KT7 := Lib.hid (KT6.out.below b9 KT6.out.lt)
              have hz9 : w.heap.size ≤ (W6.alloc (.cells #[.string rv, .int .i64 tp] 51)).heap.size := RE6.out.bl.size
              have hl9 : (dSum L cfg (ts.take i)).length ≤ 1000000 := by rw [dSum_len L cfg ts i (by omega)]; omega
              have HZ9 := Lib.hid (And.intro hz9 hl9)
              clear b9 hz9 hl9 RD6 KT6
              go_upto_region 19 with (at_builtin; refine list_appN el51 _ rfl (.tmp 64) (.tmp 69) rfl w.heap.size _ _ (by rfl) RE6.out.n9 (some ⟨W6.heap.size, 0, none⟩) 1 1 [⟨rv, tp⟩] (by rfl) rfl KE6.out HZ9.out.2 (by omega) HZ9.out.1 ?_; intro v9' w9 r9 ch9 o9)
              have KT9 := Lib.hid (KT7.out.chg ch9 (fun e => by
                obtain ⟨_, cs, hk⟩ := PB.own_at RE6.out.n9 e
                exact PB.blk_neT hk KT7.out (by decide) rfl))
              have RD9 := Lib.hid (RE6.out.push9 ch9 (l9' := dSum L cfg (ts.take (i + 1))) (by rw [HSM.out]; exact r9))
              clear RE6 KE6 HZ9 r9 ch9 o9 KT7 HSM t1 t2
              have t1 := KT9.out.cell 1
              simp only [List.getElem?_toArray, List.getElem?_cons_zero, List.getElem?_cons_succ] at t1
              by_cases hz : tt.size = 0
              · have eT : dT (ts.take i) = dT (ts.take (i + 1)) := by rw [HSU4.out]; exact (if_pos hz).symm
                rw [eT] at RD9
                obtain rfl := str_eq hz
                clear eT HSU4 HOK
                obtain ⟨A8, c8, rfl, _⟩ := RD9.out.n8.shape
                have b8 : Below w9.heap.size w9 (w9.alloc (.cells #[.string rv] 9)) := (Below.refl _ _).alloc (Nat.le_refl _) _
                have RE := Lib.hid (RD9.out.below b8)
                have KE := Lib.hid (SrcG.one (E := elS) (x := rv.toList) (new_str w9 rv))
                have hz8 : w.heap.size ≤ (w9.alloc (.cells #[.string rv] 9)).heap.size := RE.out.bl.size
                have hl8 : (dTo L cfg (ts.take i)).length ≤ 1000000 := by rw [dTo_len L cfg ts i (by omega)]; omega
                have HZ := Lib.hid (And.intro hz8 hl8)
                clear b8 hz8 hl8
                go_wp2_with (at_builtin; refine list_appN elS _ rfl (.tmp 78) (.tmp 80) rfl w.heap.size _ _ (by rfl) RE.out.n8 (some ⟨w9.heap.size, 0, none⟩) 1 1 [rv.toList] (by rfl) rfl KE.out HZ.out.2 (by omega) HZ.out.1 ?_; intro v8' w8 r8 ch8 o8)
                have RL := Lib.hid (RE.out.push8 ch8 (l' := dTo L cfg (ts.take (i + 1))) (by rw [HTO.out]; exact r8) o8)
                clear RE KE HZ r8 ch8 o8
                go_roundw
                case rel => exact ⟨i + 1, by omega, by go_num, RL, HEZ⟩
                case measure => simp [PB.vI]; omega
              · obtain ⟨z1, z2⟩ := str_ne hz
                have eT : PB.insS tt.toList (dT (ts.take i)) = dT (ts.take (i + 1)) := by rw [HSU4.out]; exact (if_neg hz).symm
                have HET := Lib.hid eT
                have hl7 := dT_len ts i (by omega)
                have PT := Lib.hid (PB.put2_calls w.heap.size _ _ tt w9 RD9.out.n7 RD9.out.bl.size (by omega))
                clear eT HSU4 HOK hz hl7
                go_wp2_with fail
                with_reducible refine PT.out.mono ?_
                rintro e W10 ⟨v7', rfl, hr7, ho7, hb7⟩
                rw [HET.out] at hr7
                have RDa := Lib.hid (RD9.out.put7 hb7 hr7 ho7)
                clear hr7 ho7 hb7 PT RD9 KT9 HET t1 z1 z2
                obtain ⟨A8, c8, rfl, _⟩ := RDa.out.n8.shape
                have b8 : Below W10.heap.size W10 (W10.alloc (.cells #[.string rv] 9)) := (Below.refl _ _).alloc (Nat.le_refl _) _
                have RE := Lib.hid (RDa.out.below b8)
                have KE := Lib.hid (SrcG.one (E := elS) (x := rv.toList) (new_str W10 rv))
                have hz8 : w.heap.size ≤ (W10.alloc (.cells #[.string rv] 9)).heap.size := RE.out.bl.size
                have hl8 : (dTo L cfg (ts.take i)).length ≤ 1000000 := by rw [dTo_len L cfg ts i (by omega)]; omega
                have HZ := Lib.hid (And.intro hz8 hl8)
                clear b8 hz8 hl8
                go_wp2_with (at_builtin; refine list_appN elS _ rfl (.tmp 78) (.tmp 80) rfl w.heap.size _ _ (by rfl) RE.out.n8 (some ⟨W10.heap.size, 0, none⟩) 1 1 [rv.toList] (by rfl) rfl KE.out HZ.out.2 (by omega) HZ.out.1 ?_; intro v8' w8 r8 ch8 o8)
                have RL := Lib.hid (RE.out.push8 ch8 (l' := dTo L cfg (ts.take (i + 1))) (by rw [HTO.out]; exact r8) o8)
                clear RE KE HZ r8 ch8 o8
                go_roundw
                case rel => exact ⟨i + 1, by omega, by go_num, RL, HEZ⟩
                case measure => simp [PB.vI]; omega
      · obtain ⟨z1, z2⟩ := str_ne hz
        have LD := Lib.hid (leads_own hz HOK.out.rev HFE.out)
        obtain ⟨rv, hrv⟩ : ∃ rv, rv = tr := ⟨_, rfl⟩
        rw [← hrv] at t0
        have RD2 := RD1
        have KT2 := KT1
        obtain rfl := hrv
        clear hz RD1 KT1
        have hrz := LD.out.size
        cases hf : PB.findR L rv.data.toList with
        | none =>
          have HE := Lib.hid (LD.out.e6 hf)
          have GN := Lib.hid (PB.dget_agg RD2.out.db rv HL.out.len (v := .agg #[.string ⟨#[]⟩, .int .i64 0, .string ⟨#[]⟩, .int .i64 0, .int .i64 0, .int .i64 0, .int .i64 0, .int .i64 0]) (b := false) (by rw [hf]; rfl) (by rw [hf]; rfl))
          clear hf LD hrz
          go_wp2_with fail
          with_reducible refine GN.out.mono ?_
          rintro e W3 ⟨rfl, hb3⟩
          obtain ⟨W4, hW4⟩ : ∃ W4, W4 = W3.alloc (.cells #[.string ⟨#[]⟩, .int .i64 0, .string ⟨#[]⟩, .int .i64 0, .int .i64 0, .int .i64 0, .int .i64 0, .int .i64 0] 88) := ⟨_, rfl⟩
          have bW4 : Below W3.heap.size W3 W4 := by rw [hW4]; exact (Below.refl _ _).alloc (Nat.le_refl _) _
          have RD4 := Lib.hid (RD2.out.below (stepB hb3 bW4))
          clear hb3 bW4 RD2 KT2 GN
          go_upto_region 13 with fail
          rw [← hW4]
          clear hW4
          have x0 := RD4.out.kx.cell 0
          have x1 := RD4.out.kx.cell 1
          have f0 := RD4.out.kx.frozen 0
          have f1 := RD4.out.kx.frozen 1
          simp only [List.getElem?_toArray, List.getElem?_cons_zero, List.getElem?_cons_succ] at x0 x1
          have kx' : Blk ((W4.setCell ⟨gx, 0, none⟩ (.slice none 0 0)).setCell ⟨gx, 1, none⟩ (.slice none 0 0)) gx #[.slice none 0 0, .slice none 0 0] 36 := (RD4.out.kx.set 0 _ rfl).set 1 _ rfl
          have bx' : Below w.heap.size w ((W4.setCell ⟨gx, 0, none⟩ (.slice none 0 0)).setCell ⟨gx, 1, none⟩ (.slice none 0 0)) := (RD4.out.bl.setCell (p := ⟨gx, 0, none⟩) (by show w.heap.size ≤ gx; omega) _).setCell (p := ⟨gx, 1, none⟩) (by show w.heap.size ≤ gx; omega) _
          have KX3 := Lib.hid kx'
          have BX3 := Lib.hid bx'
          clear kx' bx'
          go_wp2_with fail
          have y0 := KX3.out.cell 0
          have y1 := KX3.out.cell 1
          simp only [List.getElem?_toArray, List.getElem?_cons_zero, List.getElem?_cons_succ] at y0 y1
          exact bodyPost_ret (v := .tuple #[.agg #[.slice none 0 0, .slice none 0 0], .int .i64 6]) (by simp [results, Tryz.results8, go_sem, y0, y1]) rfl ⟨BX3.out, by rw [HE.out]⟩
        | some r =>
          have hne : PB.findR L rv.data.toList ≠ none := by rw [hf]; exact fun e => by cases e
          have GS := Lib.hid (PB.dget_agg RD2.out.db rv HL.out.len (v := .agg #[.string r.nm, .int .i64 r.g, .string r.c.nm, .int .i64 r.c.img, .int .i64 r.c.conc, .int .i64 r.c.mn, .int .i64 r.c.mx, .int .i64 r.c.grc]) (b := true) (by rw [hf]; rfl) (by rw [hf]; rfl))
          have HE9 := Lib.hid (LD.out.e9 hne)
          have HOK9 := Lib.hid (LD.out.ok hne)
          clear hf hne LD
          go_wp2_with fail
          with_reducible refine GS.out.mono ?_
          rintro e W3 ⟨rfl, hb3⟩
          obtain ⟨W4, hW4⟩ : ∃ W4, W4 = W3.alloc (.cells #[.string r.nm, .int .i64 r.g, .string r.c.nm, .int .i64 r.c.img, .int .i64 r.c.conc, .int .i64 r.c.mn, .int .i64 r.c.mx, .int .i64 r.c.grc] 88) := ⟨_, rfl⟩
          have bW4 : Below W3.heap.size W3 W4 := by rw [hW4]; exact (Below.refl _ _).alloc (Nat.le_refl _) _
          have RD4 := Lib.hid (RD2.out.below (stepB hb3 bW4))
          have KT4 := Lib.hid (KT2.out.below (stepB hb3 bW4) KT2.out.lt)
          clear hb3 bW4 RD2 KT2 GS
          go_upto_region 13 with fail
          rw [← hW4]
          clear hW4
          have PX := PB.dproved_calls RD4.out.db rv HL.out
          obtain ⟨pv, hpv⟩ : ∃ pv, pv = PB.provedL L rv.data.toList := ⟨_, rfl⟩
          rw [← hpv] at PX HE9 HOK9
          have PX := Lib.hid PX
          clear hpv
          cases pv with
          | false =>
            have HE := Lib.hid (HE9.out rfl)
            clear HE9 HOK9 KT4
            go_wp2_with fail
            with_reducible refine PX.out.mono ?_
            rintro e W5 ⟨rfl, hw5⟩
            rw [hw5]
            clear hw5
            have x0 := RD4.out.kx.cell 0
            have x1 := RD4.out.kx.cell 1
            have f0 := RD4.out.kx.frozen 0
            have f1 := RD4.out.kx.frozen 1
            simp only [List.getElem?_toArray, List.getElem?_cons_zero, List.getElem?_cons_succ] at x0 x1
            have kx' : Blk ((W4.setCell ⟨gx, 0, none⟩ (.slice none 0 0)).setCell ⟨gx, 1, none⟩ (.slice none 0 0)) gx #[.slice none 0 0, .slice none 0 0] 36 := (RD4.out.kx.set 0 _ rfl).set 1 _ rfl
            have bx' : Below w.heap.size w ((W4.setCell ⟨gx, 0, none⟩ (.slice none 0 0)).setCell ⟨gx, 1, none⟩ (.slice none 0 0)) := (RD4.out.bl.setCell (p := ⟨gx, 0, none⟩) (by show w.heap.size ≤ gx; omega) _).setCell (p := ⟨gx, 1, none⟩) (by show w.heap.size ≤ gx; omega) _
            have KX3 := Lib.hid kx'
            have BX3 := Lib.hid bx'
            clear kx' bx'
            go_wp2_with fail
            have y0 := KX3.out.cell 0
            have y1 := KX3.out.cell 1
            simp only [List.getElem?_toArray, List.getElem?_cons_zero, List.getElem?_cons_succ] at y0 y1
            exact bodyPost_ret (v := .tuple #[.agg #[.slice none 0 0, .slice none 0 0], .int .i64 9]) (by simp [results, Tryz.results8, go_sem, y0, y1]) rfl ⟨BX3.out, by rw [HE.out]⟩
          | true =>
            have htg := HOK9.out rfl
            have HNN := Lib.hid (show dN L cfg (ts.take (i + 1)) = PB.insS rv.toList (dN L cfg (ts.take i)) from by rw [HSU1.out, htg])
            have HTO := Lib.hid (show dTo L cfg (ts.take (i + 1)) = dTo L cfg (ts.take i) ++ [rv.toList] from by rw [HSU2.out, htg])
            have HSM := Lib.hid (show dSum L cfg (ts.take (i + 1)) = dSum L cfg (ts.take i) ++ [⟨rv, tp⟩] from by rw [HSU3.out, htg])
            have HEZ := Lib.hid (HPP.out (by rw [htg]))
            clear htg HE9 HOK9 HPP HFE
            have hl6 := dN_len L cfg ts i (by omega)
            have PT := Lib.hid (PB.put2_calls w.heap.size _ _ rv W4 RD4.out.n6 RD4.out.bl.size (by omega))
            clear hl6
            go_wp2_with fail
            with_reducible refine PX.out.mono ?_
            rintro e W5 ⟨rfl, hw5⟩
            rw [hw5]
            clear hw5 PX
            go_wp2_with fail
            with_reducible refine PT.out.mono ?_
            rintro e W6 ⟨v6', rfl, hr6, ho6, hb6⟩
            rw [← HNN.out] at hr6
            have RD6 := Lib.hid (RD4.out.put6 hb6 hr6 ho6)
            have KT6 := Lib.hid (KT4.out.below hb6 KT4.out.lt)
            clear hr6 ho6 hb6 PT RD4 KT4 HNN
            have t1 := KT6.out.cell 1
            have t2 := KT6.out.cell 2
            simp only [List.getElem?_toArray, List.getElem?_cons_zero, List.getElem?_cons_succ] at t1 t2
            obtain ⟨A9, c9, rfl, _⟩ := RD6.out.n9.shape
            have b9 : Below W6.heap.size W6 (W6.alloc (.cells #[.string rv, .int .i64 tp] 51)) := (Below.refl _ _).alloc (Nat.le_refl _) _
            have RE6 := Lib.hid (RD6.out.below b9)
            have KE6 := Lib.hid (SrcG.one (E := el51) (x := ⟨rv, tp⟩) (Blk.new W6 #[.string rv, .int .i64 tp] 51))
            have KT7 := Lib.hid (KT6.out.below b9 KT6.out.lt)
            have hz9 : w.heap.size ≤ (W6.alloc (.cells #[.string rv, .int .i64 tp] 51)).heap.size := RE6.out.bl.size
            have hl9 : (dSum L cfg (ts.take i)).length ≤ 1000000 := by rw [dSum_len L cfg ts i (by omega)]; omega
            have HZ9 := Lib.hid (And.intro hz9 hl9)
            clear b9 hz9 hl9 RD6 KT6
            go_upto_region 19 with (at_builtin; refine list_appN el51 _ rfl (.tmp 64) (.tmp 69) rfl w.heap.size _ _ (by rfl) RE6.out.n9 (some ⟨W6.heap.size, 0, none⟩) 1 1 [⟨rv, tp⟩] (by rfl) rfl KE6.out HZ9.out.2 (by omega) HZ9.out.1 ?_; intro v9' w9 r9 ch9 o9)
            have KT9 := Lib.hid (KT7.out.chg ch9 (fun e => by
              obtain ⟨_, cs, hk⟩ := PB.own_at RE6.out.n9 e
              exact PB.blk_neT hk KT7.out (by decide) rfl))
            have RD9 := Lib.hid (RE6.out.push9 ch9 (l9' := dSum L cfg (ts.take (i + 1))) (by rw [HSM.out]; exact r9))
            clear RE6 KE6 HZ9 r9 ch9 o9 KT7 HSM t1 t2
            have t1 := KT9.out.cell 1
            simp only [List.getElem?_toArray, List.getElem?_cons_zero, List.getElem?_cons_succ] at t1
            by_cases hz : tt.size = 0
            · have eT : dT (ts.take i) = dT (ts.take (i + 1)) := by rw [HSU4.out]; exact (if_pos hz).symm
              rw [eT] at RD9
              obtain rfl := str_eq hz
              clear eT HSU4 HOK
              obtain ⟨A8, c8, rfl, _⟩ := RD9.out.n8.shape
              have b8 : Below w9.heap.size w9 (w9.alloc (.cells #[.string rv] 9)) := (Below.refl _ _).alloc (Nat.le_refl _) _
              have RE := Lib.hid (RD9.out.below b8)
              have KE := Lib.hid (SrcG.one (E := elS) (x := rv.toList) (new_str w9 rv))
              have hz8 : w.heap.size ≤ (w9.alloc (.cells #[.string rv] 9)).heap.size := RE.out.bl.size
              have hl8 : (dTo L cfg (ts.take i)).length ≤ 1000000 := by rw [dTo_len L cfg ts i (by omega)]; omega
              have HZ := Lib.hid (And.intro hz8 hl8)
              clear b8 hz8 hl8
              go_wp2_with (at_builtin; refine list_appN elS _ rfl (.tmp 78) (.tmp 80) rfl w.heap.size _ _ (by rfl) RE.out.n8 (some ⟨w9.heap.size, 0, none⟩) 1 1 [rv.toList] (by rfl) rfl KE.out HZ.out.2 (by omega) HZ.out.1 ?_; intro v8' w8 r8 ch8 o8)
              have RL := Lib.hid (RE.out.push8 ch8 (l' := dTo L cfg (ts.take (i + 1))) (by rw [HTO.out]; exact r8) o8)
              clear RE KE HZ r8 ch8 o8
              go_roundw
              case rel => exact ⟨i + 1, by omega, by go_num, RL, HEZ⟩
              case measure => simp [PB.vI]; omega
            · obtain ⟨z1, z2⟩ := str_ne hz
              have eT : PB.insS tt.toList (dT (ts.take i)) = dT (ts.take (i + 1)) := by rw [HSU4.out]; exact (if_neg hz).symm
              have HET := Lib.hid eT
              have hl7 := dT_len ts i (by omega)
              have PT := Lib.hid (PB.put2_calls w.heap.size _ _ tt w9 RD9.out.n7 RD9.out.bl.size (by omega))
              clear eT HSU4 HOK hz hl7
              go_wp2_with fail
              with_reducible refine PT.out.mono ?_
              rintro e W10 ⟨v7', rfl, hr7, ho7, hb7⟩
              rw [HET.out] at hr7
              have RDa := Lib.hid (RD9.out.put7 hb7 hr7 ho7)
              clear hr7 ho7 hb7 PT RD9 KT9 HET t1 z1 z2
              obtain ⟨A8, c8, rfl, _⟩ := RDa.out.n8.shape
              have b8 : Below W10.heap.size W10 (W10.alloc (.cells #[.string rv] 9)) := (Below.refl _ _).alloc (Nat.le_refl _) _
              have RE := Lib.hid (RDa.out.below b8)
              have KE := Lib.hid (SrcG.one (E := elS) (x := rv.toList) (new_str W10 rv))
              have hz8 : w.heap.size ≤ (W10.alloc (.cells #[.string rv] 9)).heap.size := RE.out.bl.size
              have hl8 : (dTo L cfg (ts.take i)).length ≤ 1000000 := by rw [dTo_len L cfg ts i (by omega)]; omega
              have HZ := Lib.hid (And.intro hz8 hl8)
              clear b8 hz8 hl8
              go_wp2_with (at_builtin; refine list_appN elS _ rfl (.tmp 78) (.tmp 80) rfl w.heap.size _ _ (by rfl) RE.out.n8 (some ⟨W10.heap.size, 0, none⟩) 1 1 [rv.toList] (by rfl) rfl KE.out HZ.out.2 (by omega) HZ.out.1 ?_; intro v8' w8 r8 ch8 o8)
              have RL := Lib.hid (RE.out.push8 ch8 (l' := dTo L cfg (ts.take (i + 1))) (by rw [HTO.out]; exact r8) o8)
              clear RE KE HZ r8 ch8 o8
              go_roundw
              case rel => exact ⟨i + 1, by omega, by go_num, RL, HEZ⟩
              case measure => simp [PB.vI]; omega
    · obtain rfl : i = ts.length := by omega
      rw [List.take_length] at RD
      obtain ⟨wz, hwz0⟩ : ∃ wz, wz = wr := ⟨_, rfl⟩
      subst hwz0
      have hfn := firstErr_none (L := L) (cfg := cfg) (ts := ts) (fun j hj => HP.out j hj hj)
      have HFN := Lib.hid hfn
      have n6 := dN_len L cfg ts ts.length (Nat.le_refl _)
      have n7 := dT_len ts ts.length (Nat.le_refl _)
      have n8 := dTo_len L cfg ts ts.length (Nat.le_refl _)
      have n9 := dSum_len L cfg ts ts.length (Nat.le_refl _)
      rw [List.take_length] at n6 n7 n8 n9
      have HS9 : ∀ s ∈ dSum L cfg ts, 0 ≤ s.f1 ∧ s.f1 ≤ 100 := fun s hs => by
        obtain ⟨t, ht, rfl⟩ := List.mem_map.1 hs
        exact ⟨(HTS.out t ht).lo, (HTS.out t ht).hi⟩
      have HDS := Lib.hid (show dSh L cfg ts = dShOf (dSum L cfg ts) (dN L cfg ts) from rfl)
      have HDT := Lib.hid (show dTg L cfg ts = dTgOf (ts.zip (dTo L cfg ts)) (dT ts) from rfl)
      clear hfn HP hlt hi HL
      obtain ⟨l6, hl6⟩ : ∃ l6, l6 = dN L cfg ts := ⟨_, rfl⟩
      obtain ⟨l7, hl7⟩ : ∃ l7, l7 = dT ts := ⟨_, rfl⟩
      obtain ⟨l8, hl8⟩ : ∃ l8, l8 = dTo L cfg ts := ⟨_, rfl⟩
      obtain ⟨l9, hl9⟩ : ∃ l9, l9 = dSum L cfg ts := ⟨_, rfl⟩
      rw [← hl6] at RD n6 HDS
      rw [← hl7] at RD n7 HDT
      rw [← hl8] at RD n8 HDT
      rw [← hl9] at RD n9 HS9 HDS
      have HS9 := Lib.hid HS9
      have N8 := Lib.hid n8
      have N9 := Lib.hid n9
      have n6b : l6.length ≤ 100 := by omega
      have n7b : l7.length ≤ 100 := by omega
      have n9b : l9.length ≤ 100 := by omega
      clear hl6 hl7 hl8 hl9 n8 n9 n6 n7
      obtain ⟨A6, c6, rfl, _⟩ := RD.out.n6.shape
      obtain ⟨A7, c7, rfl, _⟩ := RD.out.n7.shape
      obtain ⟨A8, c8, rfl, _⟩ := RD.out.n8.shape
      obtain ⟨A9, c9, rfl, _⟩ := RD.out.n9.shape
      have C6 := Lib.hid (fun j (hj : j < l6.length) => rdS RD.out.n6 hj)
      have C7 := Lib.hid (fun j (hj : j < l7.length) => rdS RD.out.n7 hj)
      have C8 := Lib.hid (fun j (hj : j < l8.length) => rdS RD.out.n8 hj)
      have C9 := Lib.hid (fun j (hj : j < l9.length) => rdH RD.out.n9 hj)
      have hgxl := RD.out.kx.lt
      have hgl := RD.out.kr.lt
      obtain ⟨gt, hgt⟩ : ∃ gt, gt = wz.heap.size := ⟨_, rfl⟩
      obtain ⟨W2, hW2⟩ : ∃ W2, W2 = wz.alloc (.cells #[.slice none 0 0, .slice none 0 0] 36) := ⟨_, rfl⟩
      have b2 : Below wz.heap.size wz W2 := by rw [hW2]; exact (Below.refl _ _).alloc (Nat.le_refl _) _
      have k2 : Blk W2 gt #[.slice none 0 0, .slice none 0 0] 36 := by rw [hW2, hgt]; exact Blk.new _ _ _
      have hwz := RD.out.bl.size
      rw [← hgt] at hgxl hgl b2 hwz
      have KT2 := Lib.hid k2
      have BB2 := Lib.hid b2
      have HGT := Lib.hid hgt
      clear k2 b2
      go_upto_region 23 with fail
      rw [← hW2, ← hgt]
      clear hW2 hgt q2
      go_wp2_with fail
      go_loopw [16] (fun v16 w1 => ∃ (j : Nat) (v : Value), j ≤ l6.length ∧ v16 = .int .i64 j ∧ Hid (Blk w1 gt #[v, .slice none 0 0] 36) ∧ Hid (RowG el51 w1 gt v (dShOf l9 (l6.take j))) ∧ Hid (Below gt wz w1)) (fun v16 _ => l6.length - (PB.vI v16).toNat)
      case atStart => exact ⟨0, _, by omega, rfl, KT2, Lib.hid (RowG.nil _ _ _), BB2⟩
      case round =>
        clear KT2 BB2
        obtain ⟨j, v, hj, rfl, KT, HR, BB⟩ := hrel
        by_cases hlt : j < l6.length
        · have hlt' : (j : Int) < (l6.length : Int) := by omega
          obtain ⟨g6, rfl, hg6, hx6⟩ := C6.out j hlt
          obtain ⟨nb, hnb⟩ : ∃ nb : ByteArray, nb = ⟨l6[j].toArray⟩ := ⟨_, rfl⟩
          have hsu := dShOf_succ l9 hlt
          rw [← hnb] at hx6 hsu
          rw [← HGT.out] at hg6
          have HSU := Lib.hid hsu
          have HX6 := Lib.hid hx6
          clear hnb hsu hx6
          go_wp2_with fail
          go_loopw [17, 18] (fun v17 v18 w2 => ∃ (k : Nat), k ≤ l9.length ∧ v17 = .int .i64 (wOf (l9.take k) nb) ∧ v18 = .int .i64 k ∧ Hid (Blk w2 gt #[v, .slice none 0 0] 36) ∧ Hid (RowG el51 w2 gt v (dShOf l9 (l6.take j))) ∧ Hid (Below gt wz w2)) (fun _ v18 _ => l9.length - (PB.vI v18).toNat)
          case atStart => exact ⟨0, by omega, rfl, rfl, KT, HR, BB⟩
          case round =>
            clear KT HR BB
            obtain ⟨k, hk, rfl, rfl, KT, HR, BB⟩ := hrel
            have hgs : gt ≤ wr.heap.size := Nat.le_trans (Nat.le_of_eq HGT.out) BB.out.size
            obtain ⟨wo0, wo1⟩ := wOf_fine HS9.out nb k hk
            by_cases hlk : k < l9.length
            · have hlk' : (k : Int) < (l9.length : Int) := by omega
              obtain ⟨g9, rfl, hg9, hy0, hy1⟩ := C9.out k hlk
              rw [← HGT.out] at hg9
              have s9 := HS9.out _ (List.getElem_mem hlk)
              have hws := wOf_succ hlk nb
              obtain ⟨sb, sp, hsb⟩ : ∃ a b, l9[k] = ⟨a, b⟩ := ⟨_, _, rfl⟩
              rw [hsb] at s9 hws hy0 hy1
              obtain ⟨s90, s91⟩ := s9
              obtain ⟨u, hu⟩ : ∃ u, u = wOf (l9.take k) nb := ⟨_, rfl⟩
              rw [← hu] at wo0 wo1 hws ⊢
              have HWS := Lib.hid hws
              have HY := Lib.hid (And.intro hy0 hy1)
              clear hu hws hy0 hy1 hsb
              have dr := (Below.refl wr.heap.size wr).drew
              have KTd := Lib.hid (KT.out.below dr KT.out.lt)
              have HRd := Lib.hid (HR.out.below dr (Nat.le_refl _))
              have BBd := Lib.hid (BB.out.trans (dr.mono hgs))
              clear dr KT HR BB
              go_wp2_with fail
              refine start_ (n := 10) (S := fun w' => w'.cell? ⟨g9, k * 2, none⟩ = some (.string sb) ∧ w'.cell? ⟨g6, j, none⟩ = some (.string nb)) (ds := []) #[false, false, false, false, false, false, false, false, false, false] (by kernel_rfl) rfl rfl ⟨(BBd.out.cell (p := ⟨g9, k * 2, none⟩) hg9).trans HY.out.1, (BBd.out.cell (p := ⟨g6, j, none⟩) hg6).trans HX6.out⟩ (fun hHeld => ?_)
              refine pure_ (i := 0) (N := some 94) (v := ?_) (a' := ?_) #[true, false, false, false, false, false, false, false, false, false] rfl rfl (by kernel_rfl) (fun _ _ _ h => h) (Or.inl ⟨by rfl, ?_⟩) ?_ ?_
              rotate_left
              · intro w'
                go_simp
                with_reducible rfl
              rotate_left
              · simp only [Act.put, List.setIfInBounds_toArray, List.set_cons_zero, List.set_cons_succ]
                rfl
              refine pure_ (i := 1) (N := some 95) (v := ?_) (a' := ?_) #[true, true, false, false, false, false, false, false, false, false] rfl rfl (by kernel_rfl) (fun _ _ _ h => h) (Or.inl ⟨by rfl, ?_⟩) ?_ ?_
              rotate_left
              · intro w'
                go_simp
                with_reducible rfl
              rotate_left
              · simp only [Act.put, List.setIfInBounds_toArray, List.set_cons_zero, List.set_cons_succ]
                rfl
              refine pure_ (i := 2) (N := some 96) (v := ?_) (a' := ?_) #[true, true, true, false, false, false, false, false, false, false] rfl rfl (by kernel_rfl) (fun _ _ _ h => h) (Or.inl ⟨by rfl, ?_⟩) ?_ ?_
              rotate_left
              · intro w'
                go_simp
                with_reducible rfl
              rotate_left
              · simp only [Act.put, List.setIfInBounds_toArray, List.set_cons_zero, List.set_cons_succ]
                rfl
              refine pure_ (i := 3) (N := some 97) (v := ?_) (a' := ?_) #[true, true, true, true, false, false, false, false, false, false] rfl rfl (by kernel_rfl) (fun _ _ _ h => h) (Or.inl ⟨by rfl, ?_⟩) ?_ ?_
              rotate_left
              · intro w'
                go_simp
                with_reducible rfl
              rotate_left
              · simp only [Act.put, List.setIfInBounds_toArray, List.set_cons_zero, List.set_cons_succ]
                rfl
              refine pure_ (i := 5) (N := some 99) (v := ?_) (a' := ?_) #[true, true, true, true, false, true, false, false, false, false] rfl rfl (by kernel_rfl) (fun _ _ _ h => h) (Or.inl ⟨by rfl, ?_⟩) ?_ ?_
              rotate_left
              · intro w'
                go_simp
                with_reducible rfl
              rotate_left
              · simp only [Act.put, List.setIfInBounds_toArray, List.set_cons_zero, List.set_cons_succ]
                rfl
              refine pure_ (i := 6) (N := some 100) (v := ?_) (a' := ?_) #[true, true, true, true, false, true, true, false, false, false] rfl rfl (by kernel_rfl) (fun _ _ _ h => h) (Or.inl ⟨by rfl, ?_⟩) ?_ ?_
              rotate_left
              · intro w'
                go_simp
                with_reducible rfl
              rotate_left
              · simp only [Act.put, List.setIfInBounds_toArray, List.set_cons_zero, List.set_cons_succ]
                rfl
              refine pure_ (i := 7) (N := some 101) (v := ?_) (a' := ?_) #[true, true, true, true, false, true, true, true, false, false] rfl rfl (by kernel_rfl) (fun _ _ _ h => h) (Or.inl ⟨by rfl, ?_⟩) ?_ ?_
              rotate_left
              · intro w'
                go_simp
                with_reducible rfl
              rotate_left
              · simp only [Act.put, List.setIfInBounds_toArray, List.set_cons_zero, List.set_cons_succ]
                rfl
              refine take_ (i := 4) (N := some 98) (v := ?_) (a' := ?_) #[true, true, true, true, true, true, true, true, false, false] rfl rfl (by kernel_rfl) (fun _ _ _ h => h) (Or.inl ⟨by rfl, ?_⟩) hHeld ?_ ?_
              rotate_left
              · rintro w' ⟨s0, s1⟩
                go_simp
                with_reducible rfl
              rotate_left
              · simp only [Act.put, List.setIfInBounds_toArray, List.set_cons_zero, List.set_cons_succ]
                rfl
              refine take_ (i := 8) (N := some 102) (v := ?_) (a' := ?_) #[true, true, true, true, true, true, true, true, true, false] rfl rfl (by kernel_rfl) (fun _ _ _ h => h) (Or.inl ⟨by rfl, ?_⟩) hHeld ?_ ?_
              rotate_left
              · rintro w' ⟨s0, s1⟩
                go_simp
                with_reducible rfl
              rotate_left
              · simp only [Act.put, List.setIfInBounds_toArray, List.set_cons_zero, List.set_cons_succ]
                rfl
              refine pure_ (i := 9) (N := some 103) (v := ?_) (a' := ?_) #[true, true, true, true, true, true, true, true, true, true] rfl rfl (by kernel_rfl) (fun _ _ _ h => h) (Or.inl ⟨by rfl, ?_⟩) ?_ ?_
              rotate_left
              · intro w'
                go_simp
                with_reducible rfl
              rotate_left
              · simp only [Act.put, List.setIfInBounds_toArray, List.set_cons_zero, List.set_cons_succ]
                rfl
              refine done_ (by kernel_rfl) ?_
              cases hb : (sb.toList == nb.toList) with
              | true =>
                have HW1 := Lib.hid (show wOf (l9.take (k + 1)) nb = u + sp from by rw [HWS.out, hb]; rfl)
                have y1 := (BBd.out.cell (p := ⟨g9, k * 2 + 1, none⟩) hg9).trans HY.out.2
                clear HWS
                go_wp2_with fail
                go_roundw
                case rel => exact ⟨k + 1, by omega, by rw [HW1.out], by go_num, KTd, HRd, BBd⟩
                case measure => simp [PB.vI]; omega
              | false =>
                have HW1 := Lib.hid (show wOf (l9.take (k + 1)) nb = u from by rw [HWS.out, hb]; rfl)
                clear HWS
                go_wp2_with fail
                go_roundw
                case rel => exact ⟨k + 1, by omega, by rw [HW1.out], by go_num, KTd, HRd, BBd⟩
                case measure => simp [PB.vI]; omega
            · obtain rfl : k = l9.length := by omega
              rw [List.take_length] at wo0 wo1 ⊢
              have hs1 := HSU.out
              obtain ⟨u, hu⟩ : ∃ u, u = wOf l9 nb := ⟨_, rfl⟩
              rw [← hu] at wo0 wo1 hs1 ⊢
              clear hu hlk hk HSU
              by_cases hp : 0 < u
              · rw [if_pos hp] at hs1
                have HS1 := Lib.hid hs1
                have hpd : decide (0 < u) = true := decide_eq_true hp
                have hml := dShOf_len l9 l6 j (by omega)
                have HLN := Lib.hid (show (dShOf l9 (l6.take j)).length ≤ 1000000 from by omega)
                have hrow := HR.out
                have hkt := KT.out
                obtain ⟨vA, vc, rfl, _⟩ := hrow.shape
                obtain ⟨m, hm⟩ : ∃ m, m = (dShOf l9 (l6.take j)).length := ⟨_, rfl⟩
                rw [← hm] at hrow hkt
                clear hs1 hm hml HR KT
                have dr := (Below.refl wr.heap.size wr).drew
                have hgd := Nat.le_trans hgs dr.size
                have KTd := Lib.hid (hkt.below dr hkt.lt)
                have HRd := Lib.hid (RowG.below hrow dr (Nat.le_refl _))
                have BBd := Lib.hid (BB.out.trans (dr.mono hgs))
                clear dr hrow hkt BB
                go_wp2_with fail
                refine start_ (n := 12) (S := fun w' => w'.cell? ⟨gt, 0, none⟩ = some (.slice vA m vc) ∧ w'.cell? ⟨g6, j, none⟩ = some (.string nb)) (ds := [9, 11]) #[false, false, false, false, false, false, false, false, false, false, false, false] (by kernel_rfl) rfl rfl ⟨KTd.out.cell 0, (BBd.out.cell (p := ⟨g6, j, none⟩) hg6).trans HX6.out⟩ (fun hHeld => ?_)
                refine pure_ (i := 0) (N := some 113) (v := ?_) (a' := ?_) #[true, false, false, false, false, false, false, false, false, false, false, false] rfl rfl (by kernel_rfl) (fun _ _ _ h => h) (Or.inl ⟨by rfl, ?_⟩) ?_ ?_
                rotate_left
                · intro w'
                  go_simp
                  with_reducible rfl
                rotate_left
                · simp only [Act.put, List.setIfInBounds_toArray, List.set_cons_zero, List.set_cons_succ]
                  rfl
                refine pure_ (i := 2) (N := some 115) (v := ?_) (a' := ?_) #[true, false, true, false, false, false, false, false, false, false, false, false] rfl rfl (by kernel_rfl) (fun _ _ _ h => h) (Or.inl ⟨by rfl, ?_⟩) ?_ ?_
                rotate_left
                · intro w'
                  go_simp
                  with_reducible rfl
                rotate_left
                · simp only [Act.put, List.setIfInBounds_toArray, List.set_cons_zero, List.set_cons_succ]
                  rfl
                refine pure_ (i := 3) (N := some 116) (v := ?_) (a' := ?_) #[true, false, true, true, false, false, false, false, false, false, false, false] rfl rfl (by kernel_rfl) (fun _ _ _ h => h) (Or.inl ⟨by rfl, ?_⟩) ?_ ?_
                rotate_left
                · intro w'
                  go_simp
                  with_reducible rfl
                rotate_left
                · simp only [Act.put, List.setIfInBounds_toArray, List.set_cons_zero, List.set_cons_succ]
                  rfl
                refine pure_ (i := 4) (N := some 117) (v := ?_) (a' := ?_) #[true, false, true, true, true, false, false, false, false, false, false, false] rfl rfl (by kernel_rfl) (fun _ _ _ h => h) (Or.inl ⟨by rfl, ?_⟩) ?_ ?_
                rotate_left
                · intro w'
                  go_simp
                  with_reducible rfl
                rotate_left
                · simp only [Act.put, List.setIfInBounds_toArray, List.set_cons_zero, List.set_cons_succ]
                  rfl
                refine pure_ (i := 6) (N := some 119) (v := ?_) (a' := ?_) #[true, false, true, true, true, false, true, false, false, false, false, false] rfl rfl (by kernel_rfl) (fun _ _ _ h => h) (Or.inl ⟨by rfl, ?_⟩) ?_ ?_
                rotate_left
                · intro w'
                  go_simp
                  with_reducible rfl
                rotate_left
                · simp only [Act.put, List.setIfInBounds_toArray, List.set_cons_zero, List.set_cons_succ]
                  rfl
                refine take_ (i := 1) (N := some 114) (v := ?_) (a' := ?_) #[true, true, true, true, true, false, true, false, false, false, false, false] rfl rfl (by kernel_rfl) (fun _ _ _ h => h) (Or.inl ⟨by rfl, ?_⟩) hHeld ?_ ?_
                rotate_left
                · rintro w' ⟨s0, s1⟩
                  go_simp
                  with_reducible rfl
                rotate_left
                · simp only [Act.put, List.setIfInBounds_toArray, List.set_cons_zero, List.set_cons_succ]
                  rfl
                refine take_ (i := 5) (N := some 118) (v := ?_) (a' := ?_) #[true, true, true, true, true, true, true, false, false, false, false, false] rfl rfl (by kernel_rfl) (fun _ _ _ h => h) (Or.inl ⟨by rfl, ?_⟩) hHeld ?_ ?_
                rotate_left
                · rintro w' ⟨s0, s1⟩
                  go_simp
                  with_reducible rfl
                rotate_left
                · simp only [Act.put, List.setIfInBounds_toArray, List.set_cons_zero, List.set_cons_succ]
                  rfl
                refine pure_ (i := 7) (N := some 120) (v := ?_) (a' := ?_) #[true, true, true, true, true, true, true, true, false, false, false, false] rfl rfl (by kernel_rfl) (fun _ _ _ h => h) (Or.inl ⟨by rfl, ?_⟩) ?_ ?_
                rotate_left
                · intro w'
                  go_simp
                  with_reducible rfl
                rotate_left
                · simp only [Act.put, List.setIfInBounds_toArray, List.set_cons_zero, List.set_cons_succ]
                  rfl
                refine one_ (i := 8) (N := some 121) #[true, true, true, true, true, true, true, true, true, false, false, false] rfl rfl (by kernel_rfl) (by decide) (fun K hK => ?_)
                refine value_ (w1 := ?_) (v := ?_) (by rfl) rfl ?_ ?_
                rotate_left 2
                · go_simp
                  constructor
                  · rfl
                  · rfl
                obtain ⟨g8, w8, hw8, hg8, k8, b8⟩ := hold_share wr nb u
                rw [← hw8, ← hg8]
                clear hw8 hg8
                have KT8 := Lib.hid (KTd.out.below b8 KTd.out.lt)
                have BB8 := Lib.hid (BBd.out.trans (b8.mono hgd))
                refine hK.out _ _ ⟨KT8.out.cell 0, (BB8.out.cell (p := ⟨g6, j, none⟩) hg6).trans HX6.out⟩ (fun hHeld => ?_)
                clear hK K
                refine norm_ (a' := ?_) ?_ ?_
                rotate_left
                · show Act.put _ (some 121) _ = _
                  simp only [Act.put, List.setIfInBounds_toArray, List.set_cons_zero, List.set_cons_succ]
                  rfl
                refine last_ (i := 9) (N := some 122) #[true, true, true, true, true, true, true, true, true, true, false, false] rfl rfl (by kernel_rfl) (by decide) (fun K hK => ?_)
                refine PB.step_appO el51 _ rfl (.tmp 114) (.tmp 121) rfl gt (.slice vA m vc) (dShOf l9 (l6.take j)) (by rfl) (RowG.below HRd.out b8 (Nat.le_refl _)) (some ⟨g8, 0, none⟩) 1 1 [⟨nb, u⟩] (by rfl) rfl (SrcG.one k8) HLN.out (by omega) (by have := b8.size; omega) ?_
                intro v9 w9 r9 c9
                refine hK.out _ _ ?_
                clear hK K
                refine norm_ (a' := ?_) ?_ ?_
                rotate_left
                · show Act.put _ (some 122) _ = _
                  simp only [Act.put, List.setIfInBounds_toArray, List.set_cons_zero, List.set_cons_succ]
                  rfl
                refine pure_ (i := 10) (N := some 123) (v := ?_) (a' := ?_) #[true, true, true, true, true, true, true, true, true, true, true, false] rfl rfl (by kernel_rfl) (fun _ _ _ h => h) (Or.inl ⟨by rfl, ?_⟩) ?_ ?_
                rotate_left
                · intro w'
                  go_simp
                  with_reducible rfl
                rotate_left
                · simp only [Act.put, List.setIfInBounds_toArray, List.set_cons_zero, List.set_cons_succ]
                  rfl
                refine last_ (i := 11) (N := none) #[true, true, true, true, true, true, true, true, true, true, true, true] rfl rfl (by kernel_rfl) (by decide) (fun K hK => ?_)
                obtain ⟨A1, n1, rfl, hn1, _⟩ := r9.shape
                obtain ⟨m9, hm9⟩ : ∃ m9 : Nat, m9 = (dShOf l9 (l6.take j) ++ [(⟨nb, u⟩ : S51)]).length := ⟨_, rfl⟩
                rw [← hm9] at r9 hn1 ⊢
                clear hm9
                have hq9 : ¬ (Value.slice vA m vc).ownBlock = some gt := fun e => by obtain ⟨_, cs, hk⟩ := PB.own_at HRd.out e; exact PB.blk_neT hk KTd.out (by decide) rfl
                have k9 := KT8.out.chg c9 hq9
                have e1 := k9.cell 0
                simp only [List.getElem?_toArray, List.getElem?_cons_zero, List.getElem?_cons_succ] at e1
                have f1 := k9.frozen 0
                refine skip_ (w1 := ?_) (by rfl) rfl ?_ ?_
                rotate_left
                · go_simp
                  rfl
                refine hK.out _ _ ?_
                clear hK K
                refine done_ (by kernel_rfl) ?_
                have kq := Lib.hid (k9.set 0 (.slice A1 m9 n1) (cs' := #[.slice A1 m9 n1, .slice none 0 0]) rfl)
                have cq : Chg (fun k => k = gt) w9 (w9.setCell ⟨gt, 0, none⟩ (.slice A1 m9 n1)) := (Chg.refl (fun k => k = gt) w9).setCell (a := ⟨gt, 0, none⟩) (fun _ => rfl) _
                have R9 := Lib.hid (PB.RowG.keep r9 cq (fun k cs hk e => by subst e; exact PB.blk_neT hk k9 (by decide) rfl))
                have hgs8 : gt ≤ w8.heap.size := Nat.le_trans hgd b8.size
                have B9 := c9.below_of BB8.out hgs8 (fun k hk e => by have := (PB.own_at HRd.out e).1; omega)
                have BB9 := Lib.hid (B9.setCell (p := ⟨gt, 0, none⟩) (Nat.le_refl _) (.slice A1 m9 n1))
                clear cq hgs8 B9 k9 e1 f1 c9 r9 BB8 KT8 b8 k8 KTd HRd BBd
                go_wp2_with fail
                go_roundw
                case rel => exact ⟨j + 1, _, by omega, by go_num, kq, by rw [HS1.out]; exact R9, BB9⟩
                case measure => simp [PB.vI]; omega
              · rw [if_neg hp] at hs1
                have HS1 := Lib.hid hs1
                have hpd : decide (0 < u) = false := decide_eq_false hp
                clear hs1
                go_wp2_with fail
                go_roundw
                case rel => exact ⟨j + 1, _, by omega, by go_num, KT, by rw [HS1.out]; exact HR, BB⟩
                case measure => simp [PB.vI]; omega
        · obtain rfl : j = l6.length := by omega
          rw [List.take_length] at HR
          have hrow := HR.out
          have hkt := KT.out
          obtain ⟨vS, cS, rfl, hcS, _⟩ := hrow.shape
          obtain ⟨sF, hsF⟩ : ∃ sF, sF = dShOf l9 l6 := ⟨_, rfl⟩
          rw [← hsF] at hrow hkt HDS
          obtain ⟨mS, hmS⟩ : ∃ mS, mS = sF.length := ⟨_, rfl⟩
          rw [← hmS] at hrow hkt
          obtain ⟨ps, hps⟩ : ∃ ps, ps = ts.zip l8 := ⟨_, rfl⟩
          rw [← hps] at HDT
          have KT5 := Lib.hid hkt
          have HR5 := Lib.hid hrow
          have BB5 := BB
          have HPS := Lib.hid hps
          have HPL := Lib.hid (show ps.length = ts.length from by rw [hps, List.length_zip, N8.out, Nat.min_self])
          have HMS := Lib.hid hmS
          clear hrow hkt HR KT hsF hmS hps hcS BB hlt hj C6 C9 HS9
          go_wp2_with fail
          go_loopw [19] (fun v19 w1 => ∃ (j : Nat) (v : Value), j ≤ l7.length ∧ v19 = .int .i64 j ∧ Hid (Blk w1 gt #[.slice vS mS cS, v] 36) ∧ Hid (RowG el51 w1 gt (.slice vS mS cS) sF) ∧ Hid (RowG el83 w1 gt v (dTgOf ps (l7.take j))) ∧ Hid (Below gt wz w1)) (fun v19 _ => l7.length - (PB.vI v19).toNat)
          case atStart => exact ⟨0, _, by omega, rfl, KT5, HR5, Lib.hid (RowG.nil _ _ _), BB5⟩
          case round =>
            clear KT5 HR5 BB5
            obtain ⟨j, v, hj, rfl, KT, HR, HG, BB⟩ := hrel
            by_cases hlt : j < l7.length
            · have hlt' : (j : Int) < (l7.length : Int) := by omega
              obtain ⟨g7, rfl, hg7, hx7⟩ := C7.out j hlt
              obtain ⟨tb, htb⟩ : ∃ tb : ByteArray, tb = ⟨l7[j].toArray⟩ := ⟨_, rfl⟩
              have hsu := dTgOf_succ ps hlt
              have hol := dTgOf_len ps l7 j (by omega)
              have hom : j * ps.length ≤ 100 * 100 := Nat.mul_le_mul (by omega) (by rw [HPL.out]; omega)
              obtain ⟨o0, ho0⟩ : ∃ o0, o0 = dTgOf ps (l7.take j) := ⟨_, rfl⟩
              rw [← htb] at hx7 hsu
              rw [← ho0] at hsu HG hol
              rw [← HGT.out] at hg7
              have HSU := Lib.hid hsu
              have HX7 := Lib.hid hx7
              have HOL := Lib.hid (show o0.length ≤ 10000 from by omega)
              clear htb hsu hx7 ho0 hol hom
              go_wp2_with fail
              go_loopw [20] (fun v20 w2 => ∃ (k : Nat) (v : Value), k ≤ ts.length ∧ v20 = .int .i64 k ∧ Hid (Blk w2 gt #[.slice vS mS cS, v] 36) ∧ Hid (RowG el51 w2 gt (.slice vS mS cS) sF) ∧ Hid (RowG el83 w2 gt v (dTg1 tb o0 (ps.take k))) ∧ Hid (Below gt wz w2)) (fun v20 _ => ts.length - (PB.vI v20).toNat)
              case atStart => exact ⟨0, _, by omega, rfl, KT, HR, HG, BB⟩
              case round =>
                clear KT HR HG BB
                obtain ⟨k, v, hk, rfl, KT, HR, HG, BB⟩ := hrel
                have hgs : gt ≤ wr.heap.size := Nat.le_trans (Nat.le_of_eq HGT.out) BB.out.size
                have q2 : wr.cell? ⟨g, 2, none⟩ = some (.slice T ts.length c) := (BB.out.cell (p := ⟨g, 2, none⟩) hgl).trans (RD.out.kr.cell 2)
                by_cases hlk : k < ts.length
                · have hlk' : (k : Int) < (ts.length : Int) := by omega
                  obtain ⟨ga, oa, rfl, hga, hcs⟩ := HT.out (fun e => by rw [e] at hlk; exact absurd hlk (Nat.not_lt_zero _))
                  obtain ⟨_, c1, _⟩ := hcs k hlk
                  have hl8 : k < l8.length := by rw [N8.out]; exact hlk
                  obtain ⟨g8, rfl, hg8, hx8⟩ := C8.out k hl8
                  rw [← HGT.out] at hg8
                  have hstep : dTg1 tb o0 (ps.take (k + 1)) = if ts[k].tag.toList == tb.toList then dTg1 tb o0 (ps.take k) ++ [⟨tb, ⟨l8[k].toArray⟩⟩] else dTg1 tb o0 (ps.take k) := by
                    have hpk : k < ps.length := by rw [HPL.out]; exact hlk
                    have h1 := dTg1_succ tb o0 hpk
                    have h2 : ps[k] = (ts[k], l8[k]) := by simp [HPS.out]
                    rw [h2] at h1
                    exact h1
                  have hpl := dTg1_len tb o0 ps k (by rw [HPL.out]; exact hk)
                  obtain ⟨ub, hub⟩ : ∃ ub : ByteArray, ub = ⟨l8[k].toArray⟩ := ⟨_, rfl⟩
                  obtain ⟨tk, htk⟩ : ∃ tk : ByteArray, tk = ts[k].tag := ⟨_, rfl⟩
                  rw [← hub] at hx8 hstep
                  rw [← htk] at c1 hstep
                  have HST := Lib.hid hstep
                  have HX8 := Lib.hid hx8
                  have hga2 : ga < gt := by omega
                  have HC1 := Lib.hid ((RD.out.bl.cell (p := ⟨ga, oa + k * 3 + 1, none⟩) hga).trans c1)
                  have HLN := Lib.hid (show (dTg1 tb o0 (ps.take k)).length ≤ 1000000 from by have := HOL.out; omega)
                  clear hub htk hstep hx8 c1 hcs hpl hga
                  have hl8' : (k : Int) < (l8.length : Int) := by omega
                  have dr := (Below.refl wr.heap.size wr).drew
                  have KTd := Lib.hid (KT.out.below dr KT.out.lt)
                  have HRd := Lib.hid (HR.out.below dr (Nat.le_refl _))
                  have HGd := Lib.hid (HG.out.below dr (Nat.le_refl _))
                  have BBd := Lib.hid (BB.out.trans (dr.mono hgs))
                  have hgd := Nat.le_trans hgs dr.size
                  clear dr KT HR HG BB
                  go_wp2_with fail
                  refine start_ (n := 11) (S := fun w' => w'.cell? ⟨g, 2, none⟩ = some (.slice (some ⟨ga, oa, none⟩) ts.length c) ∧ w'.cell? ⟨ga, oa + k * 3 + 1, none⟩ = some (.string tk) ∧ w'.cell? ⟨g7, j, none⟩ = some (.string tb)) (ds := []) #[false, false, false, false, false, false, false, false, false, false, false] (by kernel_rfl) rfl rfl ⟨(BBd.out.cell (p := ⟨g, 2, none⟩) hgl).trans (RD.out.kr.cell 2), (BBd.out.cell (p := ⟨ga, oa + k * 3 + 1, none⟩) hga2).trans HC1.out, (BBd.out.cell (p := ⟨g7, j, none⟩) hg7).trans HX7.out⟩ (fun hHeld => ?_)
                  refine pure_ (i := 0) (N := some 137) (v := ?_) (a' := ?_) #[true, false, false, false, false, false, false, false, false, false, false] rfl rfl (by kernel_rfl) (fun _ _ _ h => h) (Or.inl ⟨by rfl, ?_⟩) ?_ ?_
                  rotate_left
                  · intro w'
                    go_simp
                    with_reducible rfl
                  rotate_left
                  · simp only [Act.put, List.setIfInBounds_toArray, List.set_cons_zero, List.set_cons_succ]
                    rfl
                  refine pure_ (i := 2) (N := some 139) (v := ?_) (a' := ?_) #[true, false, true, false, false, false, false, false, false, false, false] rfl rfl (by kernel_rfl) (fun _ _ _ h => h) (Or.inl ⟨by rfl, ?_⟩) ?_ ?_
                  rotate_left
                  · intro w'
                    go_simp
                    with_reducible rfl
                  rotate_left
                  · simp only [Act.put, List.setIfInBounds_toArray, List.set_cons_zero, List.set_cons_succ]
                    rfl
                  refine pure_ (i := 6) (N := some 143) (v := ?_) (a' := ?_) #[true, false, true, false, false, false, true, false, false, false, false] rfl rfl (by kernel_rfl) (fun _ _ _ h => h) (Or.inl ⟨by rfl, ?_⟩) ?_ ?_
                  rotate_left
                  · intro w'
                    go_simp
                    with_reducible rfl
                  rotate_left
                  · simp only [Act.put, List.setIfInBounds_toArray, List.set_cons_zero, List.set_cons_succ]
                    rfl
                  refine pure_ (i := 7) (N := some 144) (v := ?_) (a' := ?_) #[true, false, true, false, false, false, true, true, false, false, false] rfl rfl (by kernel_rfl) (fun _ _ _ h => h) (Or.inl ⟨by rfl, ?_⟩) ?_ ?_
                  rotate_left
                  · intro w'
                    go_simp
                    with_reducible rfl
                  rotate_left
                  · simp only [Act.put, List.setIfInBounds_toArray, List.set_cons_zero, List.set_cons_succ]
                    rfl
                  refine pure_ (i := 8) (N := some 145) (v := ?_) (a' := ?_) #[true, false, true, false, false, false, true, true, true, false, false] rfl rfl (by kernel_rfl) (fun _ _ _ h => h) (Or.inl ⟨by rfl, ?_⟩) ?_ ?_
                  rotate_left
                  · intro w'
                    go_simp
                    with_reducible rfl
                  rotate_left
                  · simp only [Act.put, List.setIfInBounds_toArray, List.set_cons_zero, List.set_cons_succ]
                    rfl
                  refine take_ (i := 1) (N := some 138) (v := ?_) (a' := ?_) #[true, true, true, false, false, false, true, true, true, false, false] rfl rfl (by kernel_rfl) (fun _ _ _ h => h) (Or.inl ⟨by rfl, ?_⟩) hHeld ?_ ?_
                  rotate_left
                  · rintro w' ⟨s0, s1, s2⟩
                    go_simp
                    with_reducible rfl
                  rotate_left
                  · simp only [Act.put, List.setIfInBounds_toArray, List.set_cons_zero, List.set_cons_succ]
                    rfl
                  refine pure_ (i := 3) (N := some 140) (v := ?_) (a' := ?_) #[true, true, true, true, false, false, true, true, true, false, false] rfl rfl (by kernel_rfl) (fun _ _ _ h => h) (Or.inl ⟨by rfl, ?_⟩) ?_ ?_
                  rotate_left
                  · intro w'
                    go_simp
                    with_reducible rfl
                  rotate_left
                  · simp only [Act.put, List.setIfInBounds_toArray, List.set_cons_zero, List.set_cons_succ]
                    rfl
                  refine pure_ (i := 4) (N := some 141) (v := ?_) (a' := ?_) #[true, true, true, true, true, false, true, true, true, false, false] rfl rfl (by kernel_rfl) (fun _ _ _ h => h) (Or.inl ⟨by rfl, ?_⟩) ?_ ?_
                  rotate_left
                  · intro w'
                    go_simp
                    with_reducible rfl
                  rotate_left
                  · simp only [Act.put, List.setIfInBounds_toArray, List.set_cons_zero, List.set_cons_succ]
                    rfl
                  refine take_ (i := 5) (N := some 142) (v := ?_) (a' := ?_) #[true, true, true, true, true, true, true, true, true, false, false] rfl rfl (by kernel_rfl) (fun _ _ _ h => h) (Or.inl ⟨by rfl, ?_⟩) hHeld ?_ ?_
                  rotate_left
                  · rintro w' ⟨s0, s1, s2⟩
                    go_simp
                    with_reducible rfl
                  rotate_left
                  · simp only [Act.put, List.setIfInBounds_toArray, List.set_cons_zero, List.set_cons_succ]
                    rfl
                  refine take_ (i := 9) (N := some 146) (v := ?_) (a' := ?_) #[true, true, true, true, true, true, true, true, true, true, false] rfl rfl (by kernel_rfl) (fun _ _ _ h => h) (Or.inl ⟨by rfl, ?_⟩) hHeld ?_ ?_
                  rotate_left
                  · rintro w' ⟨s0, s1, s2⟩
                    go_simp
                    with_reducible rfl
                  rotate_left
                  · simp only [Act.put, List.setIfInBounds_toArray, List.set_cons_zero, List.set_cons_succ]
                    rfl
                  refine pure_ (i := 10) (N := some 147) (v := ?_) (a' := ?_) #[true, true, true, true, true, true, true, true, true, true, true] rfl rfl (by kernel_rfl) (fun _ _ _ h => h) (Or.inl ⟨by rfl, ?_⟩) ?_ ?_
                  rotate_left
                  · intro w'
                    go_simp
                    with_reducible rfl
                  rotate_left
                  · simp only [Act.put, List.setIfInBounds_toArray, List.set_cons_zero, List.set_cons_succ]
                    rfl
                  refine done_ (by kernel_rfl) ?_
                  clear hHeld q2
                  generalize wr.drew = wd at KTd HRd HGd BBd hgd ⊢
                  cases hb : (tk.toList == tb.toList) with
                  | false =>
                    have HW1 := Lib.hid (show dTg1 tb o0 (ps.take (k + 1)) = dTg1 tb o0 (ps.take k) from by rw [HST.out, hb]; rfl)
                    clear HST
                    go_wp2_with fail
                    go_roundw
                    case rel => exact ⟨k + 1, _, by omega, by go_num, KTd, HRd, by rw [HW1.out]; exact HGd, BBd⟩
                    case measure => simp [PB.vI]; omega
                  | true =>
                    have HS1 := Lib.hid (show dTg1 tb o0 (ps.take (k + 1)) = dTg1 tb o0 (ps.take k) ++ [⟨tb, ub⟩] from by rw [HST.out, hb]; rfl)
                    clear HST
                    have hrow := HGd.out
                    have hkt := KTd.out
                    obtain ⟨vA, vc, rfl, _⟩ := hrow.shape
                    obtain ⟨m, hm⟩ : ∃ m, m = (dTg1 tb o0 (ps.take k)).length := ⟨_, rfl⟩
                    rw [← hm] at hrow hkt
                    clear hm KTd HGd
                    have dr := (Below.refl wd.heap.size wd).drew
                    have hge := Nat.le_trans hgd dr.size
                    have KTe := Lib.hid (hkt.below dr hkt.lt)
                    have HGe := Lib.hid (RowG.below hrow dr (Nat.le_refl _))
                    have HRe := Lib.hid (HRd.out.below dr (Nat.le_refl _))
                    have BBe := Lib.hid (BBd.out.trans (dr.mono hgd))
                    clear dr hrow hkt BBd HRd
                    go_wp2_with fail
                    refine start_ (n := 15) (S := fun w' => w'.cell? ⟨gt, 1, none⟩ = some (.slice vA m vc) ∧ w'.cell? ⟨g7, j, none⟩ = some (.string tb) ∧ w'.cell? ⟨g8, k, none⟩ = some (.string ub)) (ds := [12, 14]) #[false, false, false, false, false, false, false, false, false, false, false, false, false, false, false] (by kernel_rfl) rfl rfl ⟨KTe.out.cell 1, (BBe.out.cell (p := ⟨g7, j, none⟩) hg7).trans HX7.out, (BBe.out.cell (p := ⟨g8, k, none⟩) hg8).trans HX8.out⟩ (fun hHeld => ?_)
                    refine pure_ (i := 0) (N := some 148) (v := ?_) (a' := ?_) #[true, false, false, false, false, false, false, false, false, false, false, false, false, false, false] rfl rfl (by kernel_rfl) (fun _ _ _ h => h) (Or.inl ⟨by rfl, ?_⟩) ?_ ?_
                    rotate_left
                    · intro w'
                      go_simp
                      with_reducible rfl
                    rotate_left
                    · simp only [Act.put, List.setIfInBounds_toArray, List.set_cons_zero, List.set_cons_succ]
                      rfl
                    refine pure_ (i := 2) (N := some 150) (v := ?_) (a' := ?_) #[true, false, true, false, false, false, false, false, false, false, false, false, false, false, false] rfl rfl (by kernel_rfl) (fun _ _ _ h => h) (Or.inl ⟨by rfl, ?_⟩) ?_ ?_
                    rotate_left
                    · intro w'
                      go_simp
                      with_reducible rfl
                    rotate_left
                    · simp only [Act.put, List.setIfInBounds_toArray, List.set_cons_zero, List.set_cons_succ]
                      rfl
                    refine pure_ (i := 3) (N := some 151) (v := ?_) (a' := ?_) #[true, false, true, true, false, false, false, false, false, false, false, false, false, false, false] rfl rfl (by kernel_rfl) (fun _ _ _ h => h) (Or.inl ⟨by rfl, ?_⟩) ?_ ?_
                    rotate_left
                    · intro w'
                      go_simp
                      with_reducible rfl
                    rotate_left
                    · simp only [Act.put, List.setIfInBounds_toArray, List.set_cons_zero, List.set_cons_succ]
                      rfl
                    refine pure_ (i := 4) (N := some 152) (v := ?_) (a' := ?_) #[true, false, true, true, true, false, false, false, false, false, false, false, false, false, false] rfl rfl (by kernel_rfl) (fun _ _ _ h => h) (Or.inl ⟨by rfl, ?_⟩) ?_ ?_
                    rotate_left
                    · intro w'
                      go_simp
                      with_reducible rfl
                    rotate_left
                    · simp only [Act.put, List.setIfInBounds_toArray, List.set_cons_zero, List.set_cons_succ]
                      rfl
                    refine pure_ (i := 6) (N := some 154) (v := ?_) (a' := ?_) #[true, false, true, true, true, false, true, false, false, false, false, false, false, false, false] rfl rfl (by kernel_rfl) (fun _ _ _ h => h) (Or.inl ⟨by rfl, ?_⟩) ?_ ?_
                    rotate_left
                    · intro w'
                      go_simp
                      with_reducible rfl
                    rotate_left
                    · simp only [Act.put, List.setIfInBounds_toArray, List.set_cons_zero, List.set_cons_succ]
                      rfl
                    refine pure_ (i := 7) (N := some 155) (v := ?_) (a' := ?_) #[true, false, true, true, true, false, true, true, false, false, false, false, false, false, false] rfl rfl (by kernel_rfl) (fun _ _ _ h => h) (Or.inl ⟨by rfl, ?_⟩) ?_ ?_
                    rotate_left
                    · intro w'
                      go_simp
                      with_reducible rfl
                    rotate_left
                    · simp only [Act.put, List.setIfInBounds_toArray, List.set_cons_zero, List.set_cons_succ]
                      rfl
                    refine pure_ (i := 8) (N := some 156) (v := ?_) (a' := ?_) #[true, false, true, true, true, false, true, true, true, false, false, false, false, false, false] rfl rfl (by kernel_rfl) (fun _ _ _ h => h) (Or.inl ⟨by rfl, ?_⟩) ?_ ?_
                    rotate_left
                    · intro w'
                      go_simp
                      with_reducible rfl
                    rotate_left
                    · simp only [Act.put, List.setIfInBounds_toArray, List.set_cons_zero, List.set_cons_succ]
                      rfl
                    refine take_ (i := 1) (N := some 149) (v := ?_) (a' := ?_) #[true, true, true, true, true, false, true, true, true, false, false, false, false, false, false] rfl rfl (by kernel_rfl) (fun _ _ _ h => h) (Or.inl ⟨by rfl, ?_⟩) hHeld ?_ ?_
                    rotate_left
                    · rintro w' ⟨s0, s1, s2⟩
                      go_simp
                      with_reducible rfl
                    rotate_left
                    · simp only [Act.put, List.setIfInBounds_toArray, List.set_cons_zero, List.set_cons_succ]
                      rfl
                    refine take_ (i := 5) (N := some 153) (v := ?_) (a' := ?_) #[true, true, true, true, true, true, true, true, true, false, false, false, false, false, false] rfl rfl (by kernel_rfl) (fun _ _ _ h => h) (Or.inl ⟨by rfl, ?_⟩) hHeld ?_ ?_
                    rotate_left
                    · rintro w' ⟨s0, s1, s2⟩
                      go_simp
                      with_reducible rfl
                    rotate_left
                    · simp only [Act.put, List.setIfInBounds_toArray, List.set_cons_zero, List.set_cons_succ]
                      rfl
                    refine take_ (i := 9) (N := some 157) (v := ?_) (a' := ?_) #[true, true, true, true, true, true, true, true, true, true, false, false, false, false, false] rfl rfl (by kernel_rfl) (fun _ _ _ h => h) (Or.inl ⟨by rfl, ?_⟩) hHeld ?_ ?_
                    rotate_left
                    · rintro w' ⟨s0, s1, s2⟩
                      go_simp
                      with_reducible rfl
                    rotate_left
                    · simp only [Act.put, List.setIfInBounds_toArray, List.set_cons_zero, List.set_cons_succ]
                      rfl
                    refine pure_ (i := 10) (N := some 158) (v := ?_) (a' := ?_) #[true, true, true, true, true, true, true, true, true, true, true, false, false, false, false] rfl rfl (by kernel_rfl) (fun _ _ _ h => h) (Or.inl ⟨by rfl, ?_⟩) ?_ ?_
                    rotate_left
                    · intro w'
                      go_simp
                      with_reducible rfl
                    rotate_left
                    · simp only [Act.put, List.setIfInBounds_toArray, List.set_cons_zero, List.set_cons_succ]
                      rfl
                    refine one_ (i := 11) (N := some 159) #[true, true, true, true, true, true, true, true, true, true, true, true, false, false, false] rfl rfl (by kernel_rfl) (by decide) (fun K hK => ?_)
                    refine value_ (w1 := ?_) (v := ?_) (by rfl) rfl ?_ ?_
                    rotate_left 2
                    · go_simp
                      constructor
                      · rfl
                      · rfl
                    obtain ⟨gn, w8, hw8, hgn, k8, b8⟩ := hold_tag wd tb ub
                    rw [← hw8, ← hgn]
                    clear hw8 hgn
                    have KT8 := Lib.hid (KTe.out.below b8 KTe.out.lt)
                    have BB8 := Lib.hid (BBe.out.trans (b8.mono hge))
                    refine hK.out _ _ ⟨KT8.out.cell 1, (BB8.out.cell (p := ⟨g7, j, none⟩) hg7).trans HX7.out, (BB8.out.cell (p := ⟨g8, k, none⟩) hg8).trans HX8.out⟩ (fun hHeld => ?_)
                    clear hK K
                    refine norm_ (a' := ?_) ?_ ?_
                    rotate_left
                    · show Act.put _ (some 159) _ = _
                      simp only [Act.put, List.setIfInBounds_toArray, List.set_cons_zero, List.set_cons_succ]
                      rfl
                    refine last_ (i := 12) (N := some 160) #[true, true, true, true, true, true, true, true, true, true, true, true, true, false, false] rfl rfl (by kernel_rfl) (by decide) (fun K hK => ?_)
                    refine PB.step_appO el83 _ rfl (.tmp 149) (.tmp 159) rfl gt (.slice vA m vc) (dTg1 tb o0 (ps.take k)) (by rfl) (RowG.below HGe.out b8 (Nat.le_refl _)) (some ⟨gn, 0, none⟩) 1 1 [⟨tb, ub⟩] (by rfl) rfl (SrcG.one k8) HLN.out (by omega) (by have := b8.size; omega) ?_
                    intro v9 w9 r9 c9
                    refine hK.out _ _ ?_
                    clear hK K
                    refine norm_ (a' := ?_) ?_ ?_
                    rotate_left
                    · show Act.put _ (some 160) _ = _
                      simp only [Act.put, List.setIfInBounds_toArray, List.set_cons_zero, List.set_cons_succ]
                      rfl
                    refine pure_ (i := 13) (N := some 161) (v := ?_) (a' := ?_) #[true, true, true, true, true, true, true, true, true, true, true, true, true, true, false] rfl rfl (by kernel_rfl) (fun _ _ _ h => h) (Or.inl ⟨by rfl, ?_⟩) ?_ ?_
                    rotate_left
                    · intro w'
                      go_simp
                      with_reducible rfl
                    rotate_left
                    · simp only [Act.put, List.setIfInBounds_toArray, List.set_cons_zero, List.set_cons_succ]
                      rfl
                    refine last_ (i := 14) (N := none) #[true, true, true, true, true, true, true, true, true, true, true, true, true, true, true] rfl rfl (by kernel_rfl) (by decide) (fun K hK => ?_)
                    obtain ⟨A1, n1, rfl, hn1, _⟩ := r9.shape
                    obtain ⟨m9, hm9⟩ : ∃ m9 : Nat, m9 = (dTg1 tb o0 (ps.take k) ++ [(⟨tb, ub⟩ : S83)]).length := ⟨_, rfl⟩
                    rw [← hm9] at r9 hn1 ⊢
                    clear hm9
                    have hq9 : ¬ (Value.slice vA m vc).ownBlock = some gt := fun e => by obtain ⟨_, cs, hk⟩ := PB.own_at HGe.out e; exact PB.blk_neT hk KTe.out (by decide) rfl
                    have k9 := KT8.out.chg c9 hq9
                    have e1 := k9.cell 1
                    simp only [List.getElem?_toArray, List.getElem?_cons_zero, List.getElem?_cons_succ] at e1
                    have f1 := k9.frozen 1
                    refine skip_ (w1 := ?_) (by rfl) rfl ?_ ?_
                    rotate_left
                    · go_simp
                      rfl
                    refine hK.out _ _ ?_
                    clear hK K
                    refine done_ (by kernel_rfl) ?_
                    have kq := Lib.hid (k9.set 1 (.slice A1 m9 n1) (cs' := #[.slice vS mS cS, .slice A1 m9 n1]) rfl)
                    have cq : Chg (fun k => k = gt) w9 (w9.setCell ⟨gt, 1, none⟩ (.slice A1 m9 n1)) := (Chg.refl (fun k => k = gt) w9).setCell (a := ⟨gt, 1, none⟩) (fun _ => rfl) _
                    have R9 := Lib.hid (PB.RowG.keep r9 cq (fun k cs hk e => by subst e; exact PB.blk_neT hk k9 (by decide) rfl))
                    have s9 := PB.RowG.keep (RowG.below HRe.out b8 (Nat.le_refl _)) c9 (fun k cs hk e => by obtain ⟨_, cs', hk'⟩ := PB.own_at (RowG.below HGe.out b8 (Nat.le_refl _)) e; exact PB.blk_neT hk hk' (by decide) rfl)
                    have S9 := Lib.hid (PB.RowG.keep s9 cq (fun k cs hk e => by subst e; exact PB.blk_neT hk k9 (by decide) rfl))
                    have hgs8 : gt ≤ w8.heap.size := Nat.le_trans hge b8.size
                    have B9 := c9.below_of BB8.out hgs8 (fun k hk e => by have := (PB.own_at HGe.out e).1; omega)
                    have BB9 := Lib.hid (B9.setCell (p := ⟨gt, 1, none⟩) (Nat.le_refl _) (.slice A1 m9 n1))
                    clear cq hgs8 B9 k9 e1 f1 c9 r9 s9 BB8 KT8 b8 k8 KTe HRe HGe BBe
                    go_wp2_with fail
                    go_roundw
                    case rel => exact ⟨k + 1, _, by omega, by go_num, kq, S9, by rw [HS1.out]; exact R9, BB9⟩
                    case measure => simp [PB.vI]; omega
                · obtain rfl : k = ts.length := by omega
                  have HG2 : Hid (RowG el83 wr gt v (dTgOf ps (l7.take (j + 1)))) := Lib.hid (by
                    rw [HSU.out]
                    have := HG.out
                    rw [List.take_of_length_le (by rw [HPL.out]; omega)] at this
                    exact this)
                  clear hlk hk HG HSU
                  go_wp2_with fail
                  go_roundw
                  case rel => exact ⟨j + 1, _, by omega, by go_num, KT, HR, HG2, BB⟩
                  case measure => simp [PB.vI]; omega
            · obtain rfl : j = l7.length := by omega
              rw [List.take_length] at HG
              have hrow := HG.out
              have hkt := KT.out
              obtain ⟨vT, cT, rfl, hcT, _⟩ := hrow.shape
              rw [← HDT.out] at hrow hkt
              obtain ⟨tF, htF⟩ : ∃ tF, tF = dTg L cfg ts := ⟨_, rfl⟩
              rw [← htF] at hrow hkt
              obtain ⟨mT, hmT⟩ : ∃ mT, mT = tF.length := ⟨_, rfl⟩
              rw [← hmT] at hrow hkt
              have HTF := Lib.hid htF
              have HMT := Lib.hid hmT
              have HG3 := Lib.hid hrow
              have KT3 := Lib.hid hkt
              have KX := Lib.hid (RD.out.kx.below BB.out hgxl)
              have HB := Lib.hid (RD.out.bl.trans (BB.out.mono hwz))
              clear hrow hkt htF hmT hcT HG KT hlt hj RD C7 C8
              have y0 := KT3.out.cell 0
              have y1 := KT3.out.cell 1
              have x0 := KX.out.cell 0
              have x1 := KX.out.cell 1
              have f0 := KX.out.frozen 0
              have f1 := KX.out.frozen 1
              simp only [List.getElem?_toArray, List.getElem?_cons_zero, List.getElem?_cons_succ] at x0 x1 y0 y1
              have kx' : Blk ((wr.setCell ⟨gx, 0, none⟩ (.slice vS mS cS)).setCell ⟨gx, 1, none⟩ (.slice vT mT cT)) gx #[.slice vS mS cS, .slice vT mT cT] 36 := (KX.out.set 0 (.slice vS mS cS) rfl).set 1 (.slice vT mT cT) rfl
              have cx' : Chg (fun k => k = gx) wr ((wr.setCell ⟨gx, 0, none⟩ (.slice vS mS cS)).setCell ⟨gx, 1, none⟩ (.slice vT mT cT)) := ((Chg.refl (fun k => k = gx) wr).setCell (a := ⟨gx, 0, none⟩) (fun _ => rfl) _).setCell (a := ⟨gx, 1, none⟩) (fun _ => rfl) _
              have bx' : Below w.heap.size w ((wr.setCell ⟨gx, 0, none⟩ (.slice vS mS cS)).setCell ⟨gx, 1, none⟩ (.slice vT mT cT)) := (HB.out.setCell (p := ⟨gx, 0, none⟩) (by show w.heap.size ≤ gx; omega) _).setCell (p := ⟨gx, 1, none⟩) (by show w.heap.size ≤ gx; omega) _
              have R3 := Lib.hid (PB.RowG.keep HR.out cx' (fun k cs hk e => by subst e; exact PB.blk_neT hk KX.out (by decide) rfl))
              have G3 := Lib.hid (PB.RowG.keep HG3.out cx' (fun k cs hk e => by subst e; exact PB.blk_neT hk KX.out (by decide) rfl))
              have KX3 := Lib.hid kx'
              have BX3 := Lib.hid bx'
              clear kx' bx' cx'
              go_wp2_with fail
              clear y0 y1 x0 x1 f0 f1
              have y0 := KX3.out.cell 0
              have y1 := KX3.out.cell 1
              simp only [List.getElem?_toArray, List.getElem?_cons_zero, List.getElem?_cons_succ] at y0 y1
              refine bodyPost_ret (v := .tuple #[.agg #[.slice vS mS cS, .slice vT mT cT], .int .i64 0]) (by simp [results, Tryz.results8, go_sem, y0, y1]) rfl ⟨BX3.out, ?_⟩
              rw [HFN.out]
              obtain ⟨A, cc, he, h1, h2⟩ := RowG.toC R3.out
              obtain ⟨B, dd, he2, h3, h4⟩ := RowG.toCT G3.out
              cases he
              cases he2
              have e1 : dSh L cfg ts = sF := HDS.out
              have e2 : dTg L cfg ts = tF := HTF.out.symm
              rw [e1, e2]
              exact ⟨_, _, _, _, rfl, h2, h1, h4, h3⟩

end Go.Proofs.YtnkmpkhiilnigaaGreatDoor.PR
