/- lead.Resolve: the walk. -/
import Derived.Test.YtnkmpkhiilnigaaGreatDoorRRange
set_option linter.unusedSimpArgs false
set_option linter.unusedVariables false
namespace Go.Proofs.YtnkmpkhiilnigaaGreatDoor.PR
open Go.RowKit Go.Shelf Go.Lib Go.Sort Go.Maps Go.Proofs.YtnkmpkhiilnigaaGreatDoor.PA Go.Proofs.YtnkmpkhiilnigaaGreatDoorW.PrintWords Go.Proofs.YtnkmpkhiilnigaaGreatDoorW.PrintLast
attribute [local go_sem] Oper.semAt_some

theorem TgsAt.below {w w' : World} {T : Option Addr} {ts : List TgM} (h : TgsAt w T ts) (hb : Below w.heap.size w w') : TgsAt w' T ts := fun hne => by
  obtain ⟨g, o, e, hg, hc⟩ := h hne
  have hcc : ∀ j, w'.cell? ⟨g, j, none⟩ = w.cell? ⟨g, j, none⟩ := fun j => World.cell?_of_block (a := ⟨g, j, none⟩) (hb.block g hg)
  exact ⟨g, o, e, Nat.lt_of_lt_of_le hg hb.size, fun i hi => ⟨(hcc _).trans (hc i hi).1, (hcc _).trans (hc i hi).2.1, (hcc _).trans (hc i hi).2.2⟩⟩
theorem inOrdI_calls (n : Nat) (b : Option Nat) (w : World) : Calls Tryz.prog 24 #[.map b] w fun e w' => e = .returned (.func (.func 44) #[] #[.pointer (some ⟨w.heap.size, 0, none⟩)]) ∧ w' = w.alloc (.cells #[.map b] 72) := by
  go_enter Tryz.func24, Tryz.ntmps24
  go_wp2_with fail
  go_ret
  exact ⟨rfl, rfl⟩
theorem inOrdT_calls (n : Nat) (b : Option Nat) (w : World) : Calls Tryz.prog 25 #[.map b] w fun e w' => e = .returned (.func (.func 47) #[] #[.pointer (some ⟨w.heap.size, 0, none⟩)]) ∧ w' = w.alloc (.cells #[.map b] 73) := by
  go_enter Tryz.func25, Tryz.ntmps25
  go_wp2_with fail
  go_ret
  exact ⟨rfl, rfl⟩
theorem mapBlk_ne {w : World} {P : Program} {k : TypeId} {b q : Nat} {S : List (List UInt8)} {f : List UInt8 → Value} {cs : Array Value} {t : TypeId} (h : OwnsM w P k b S f) (hk : Blk w q cs t) : b ≠ q := fun e => by
  subst e
  obtain ⟨D, ⟨es, clock, hb, _⟩, _⟩ := h
  unfold Blk at hk
  rw [hb] at hk
  cases hk
theorem setI {w : World} {b : Nat} {S : List (List UInt8)} {wf : List UInt8 → Int} {x : List UInt8} {n : Int} (h : OwnsM w Tryz.prog 9 b (addKey x S) (setKey x (.int .i64 n) fun k => .int .i64 (wf k))) : OwnsM w Tryz.prog 9 b (addKey x S) (fun k => .int .i64 (setK x n wf k)) :=
  h.congr fun k _ => by unfold setKey setK; split <;> rfl
theorem setT {w : World} {b : Nat} {S : List (List UInt8)} {tf : List UInt8 → ByteArray} {x : List UInt8} {n : ByteArray} (h : OwnsM w Tryz.prog 9 b (addKey x S) (setKey x (.string n) fun k => .string (tf k))) : OwnsM w Tryz.prog 9 b (addKey x S) (fun k => .string (setK x n tf k)) :=
  h.congr fun k _ => by unfold setKey setK; split <;> rfl

set_option maxRecDepth 100000 in
set_option maxHeartbeats 8000000 in
theorem resolve_calls {w : World} {p b1 b2 : Nat} {L : List PB.RevM} (hB : PB.BookAt w p b1 b2 L) (hL : PB.OkL L) (nm cfg : ByteArray) (roll : Int) (T : Option Addr) (c : Nat) (ts : List TgM) (hT : TgsAt w T ts) (hts : ∀ t ∈ ts, TgOk t) (hn : ts.length ≤ 100) :
    Calls Tryz.prog 7 #[.agg #[.string nm, .string cfg, .slice T ts.length c, .int .i64 roll], .pointer (some ⟨p, 0, none⟩)] w (RPost w L cfg ts) := by
  have HT := Lib.hid hT
  have HTS := Lib.hid hts
  have HL := Lib.hid hL
  clear hT hts hL
  refine (callsIn_wide (n := 20)).1 ?_
  refine callsIn_of_wp_marks Tryz.func7 rfl trivial (wpIn_wide.2 ?_) rfl
  simp only [Tryz.ntmps7, List.size_toArray, List.length_cons, List.length_nil, Nat.reduceAdd, Nat.reduceSub, Array.replicate_succ, Array.replicate_zero, List.push_toArray, List.append_toArray, List.nil_append, List.cons_append]
  have hmm := @run_makeMap Tryz.prog
  obtain ⟨g, hg⟩ : ∃ g, g = w.heap.size := ⟨_, rfl⟩
  obtain ⟨W, hW⟩ : ∃ W, W = (((w.alloc (.cells #[.string nm, .string cfg, .slice T ts.length c, .int .i64 roll] 31)).alloc (.cells #[.slice none 0 0, .slice none 0 0] 36)).alloc (.map #[] 0)).alloc (.map #[] 0) := ⟨_, rfl⟩
  have bW : Below w.heap.size w W := by rw [hW]; exact ((((Below.refl _ _).alloc (Nat.le_refl _) _).alloc (by simp) _).alloc (by simp; omega) _).alloc (by simp; omega) _
  have kr : Blk W g #[.string nm, .string cfg, .slice T ts.length c, .int .i64 roll] 31 := by rw [hW, hg]; exact (((Blk.new _ _ _).alloc _).alloc _).alloc _
  have kx : Blk W (g + 1) #[.slice none 0 0, .slice none 0 0] 36 := by
    rw [hW, hg]
    have := ((Blk.new (w.alloc (.cells #[.string nm, .string cfg, .slice T ts.length c, .int .i64 roll] 31)) #[.slice none 0 0, .slice none 0 0] 36).alloc (.map #[] 0)).alloc (.map #[] 0)
    simpa using this
  have mw : OwnsM W Tryz.prog 9 (g + 1 + 1) [] (fun k => .int .i64 (st0.wf k)) := by
    have h1 := OwnsM.made ((w.alloc (.cells #[.string nm, .string cfg, .slice T ts.length c, .int .i64 roll] 31)).alloc (.cells #[.slice none 0 0, .slice none 0 0] 36)) Tryz.prog 9 (fun k => .int .i64 (st0.wf k))
    have h2 := h1.same (w' := W) (by rw [hW]; exact Below.heap_alloc _ _ _ h1.lt)
    rw [hg]
    simpa using h2
  have mt : OwnsM W Tryz.prog 9 (g + 1 + 1 + 1) [] (fun k => .string (st0.tf k)) := by
    have h1 := OwnsM.made (((w.alloc (.cells #[.string nm, .string cfg, .slice T ts.length c, .int .i64 roll] 31)).alloc (.cells #[.slice none 0 0, .slice none 0 0] 36)).alloc (.map #[] 0)) Tryz.prog 9 (fun k => .string (st0.tf k))
    rw [hW, hg]
    simpa using h1
  have KR := Lib.hid kr
  have KX := Lib.hid kx
  have MW := Lib.hid mw
  have MT := Lib.hid mt
  have BW := Lib.hid bW
  have HB := Lib.hid (hB.below bW)
  have hlt := hB.lt
  have hgp : p < g ∧ b1 < g ∧ b2 < g := by rw [hg]; exact hlt
  have hgw : w.heap.size ≤ g := by omega
  clear kr kx mw mt bW hB hlt
  go_upto_region 2 with fail
  rw [← hW, ← hg]
  clear hW hg
  obtain ⟨gm, hgm⟩ : ∃ gm, gm = g + 1 + 1 := ⟨_, rfl⟩
  obtain ⟨gn, hgn⟩ : ∃ gn, gn = g + 1 + 1 + 1 := ⟨_, rfl⟩
  obtain ⟨gx, hgx⟩ : ∃ gx, gx = g + 1 := ⟨_, rfl⟩
  have hne1 : gm ≠ gn := by omega
  have hgx1 : g < gx ∧ gx < gm ∧ gm < gn := by omega
  rw [← hgn] at MT ⊢
  rw [← hgm] at MW ⊢
  rw [← hgx] at KX ⊢
  clear hgm hgn hgx
  have q2 := KR.out.cell 2
  simp only [List.getElem?_toArray, List.getElem?_cons_zero, List.getElem?_cons_succ] at q2
  go_wp2_with fail
  clear q2
  go_loopw [22] (fun v22 wr => ∃ (i : Nat), i ≤ ts.length ∧ v22 = .int .i64 i ∧ Hid (Blk wr g #[.string nm, .string cfg, .slice T ts.length c, .int .i64 roll] 31) ∧ Hid (Blk wr gx #[.slice none 0 0, .slice none 0 0] 36) ∧ Hid (OwnsM wr Tryz.prog 9 gm (stOf L cfg (ts.take i)).SW (fun k => .int .i64 ((stOf L cfg (ts.take i)).wf k))) ∧ Hid (OwnsM wr Tryz.prog 9 gn (stOf L cfg (ts.take i)).ST (fun k => .string ((stOf L cfg (ts.take i)).tf k))) ∧ Hid (PB.BookAt wr p b1 b2 L) ∧ Hid (StOk (stOf L cfg (ts.take i)) i) ∧ Hid (∀ j (hj : j < ts.length), j < i → (tgt L cfg ts[j].rev).2 = 0) ∧ Hid (Below w.heap.size w wr)) (fun v22 _ => ts.length - (PB.vI v22).toNat)
  case atStart => exact ⟨0, by omega, rfl, KR, KX, MW, MT, HB, Lib.hid st0_ok, Lib.hid (fun j _ h => absurd h (Nat.not_lt_zero _)), BW⟩
  case round =>
    clear KR KX MW MT HB BW
    obtain ⟨i, hi, rfl, KR, KX, MW, MT, HB, HS, HP, BB⟩ := hrel
    by_cases hlt : i < ts.length
    · have hlt' : (i : Int) < (ts.length : Int) := by omega
      obtain ⟨ga, oa, rfl, hga, hcs⟩ := HT.out (fun e => by rw [e] at hlt; exact absurd hlt (Nat.not_lt_zero _))
      have hsu := stOf_succ L cfg hlt
      have hok := HTS.out ts[i] (List.getElem_mem hlt)
      have hfe := fun hne => firstErr_at (L := L) (cfg := cfg) hlt HP.out hne
      have hp' : (tgt L cfg ts[i].rev).2 = 0 → ∀ j (hj : j < ts.length), j < i + 1 → (tgt L cfg ts[j].rev).2 = 0 := fun h0 j hj hji => by
        rcases Nat.lt_or_ge j i with h | h
        · exact HP.out j hj h
        · have : j = i := by omega
          subst this
          exact h0
      obtain ⟨c0, c1, c2⟩ := hcs i hlt
      obtain ⟨tr, tt, tp, htm⟩ : ∃ a b d, ts[i] = ⟨a, b, d⟩ := ⟨_, _, _, rfl⟩
      rw [htm] at hsu hok hfe hp' c0 c1 c2
      have e0 : wr.cell? ⟨ga, oa + i * 3, none⟩ = some (.string tr) := (BB.out.cell (p := ⟨ga, oa + i * 3, none⟩) hga).trans c0
      have e1 : wr.cell? ⟨ga, oa + i * 3 + 1, none⟩ = some (.string tt) := (BB.out.cell (p := ⟨ga, oa + i * 3 + 1, none⟩) hga).trans c1
      have e2 : wr.cell? ⟨ga, oa + i * 3 + 2, none⟩ = some (.int .i64 tp) := (BB.out.cell (p := ⟨ga, oa + i * 3 + 2, none⟩) hga).trans c2
      have HSU := Lib.hid hsu
      have HOK := Lib.hid hok
      have HFE := Lib.hid hfe
      have HPP := Lib.hid hp'
      clear hsu hok hfe hp' c0 c1 c2 htm hcs HP
      obtain ⟨gt, hgt⟩ : ∃ gt, gt = wr.heap.size := ⟨_, rfl⟩
      obtain ⟨W1, hW1⟩ : ∃ W1, W1 = wr.alloc (.cells #[.string tr, .string tt, .int .i64 tp] 70) := ⟨_, rfl⟩
      have bW1 : Below wr.heap.size wr W1 := by rw [hW1]; exact (Below.refl _ _).alloc (Nat.le_refl _) _
      have k1 : Blk W1 gt #[.string tr, .string tt, .int .i64 tp] 70 := by rw [hW1, hgt]; exact Blk.new _ _ _
      have KT1 := Lib.hid k1
      have KR1 := Lib.hid (KR.out.below bW1 KR.out.lt)
      have KX1 := Lib.hid (KX.out.below bW1 KX.out.lt)
      have MW1 := Lib.hid (MW.out.same (bW1.block _ MW.out.lt))
      have MT1 := Lib.hid (MT.out.same (bW1.block _ MT.out.lt))
      have HB1 := Lib.hid (HB.out.below bW1)
      have B1 := Lib.hid (stepB BB.out bW1)
      clear k1 bW1 KR KX MW MT HB BB
      go_upto_region 5 with fail
      rw [← hW1, ← hgt]
      clear hW1 hgt e0 e1 e2
      have t0 := KT1.out.cell 0
      have t1 := KT1.out.cell 1
      have t2 := KT1.out.cell 2
      have r0 := KR1.out.cell 0
      have r1 := KR1.out.cell 1
      have r2 := KR1.out.cell 2
      have r3 := KR1.out.cell 3
      simp only [List.getElem?_toArray, List.getElem?_cons_zero, List.getElem?_cons_succ] at t0 t1 t2 r0 r1 r2 r3
      go_wp2_with fail
      refine (target_calls HB1.out HL.out tr tt nm cfg tp roll (some ⟨ga, oa, none⟩) ts.length c HOK.out.rev).mono ?_
      rintro e W2 ⟨rfl, hb2⟩
      have KT2 := Lib.hid (KT1.out.below hb2 KT1.out.lt)
      have KR2 := Lib.hid (KR1.out.below hb2 KR1.out.lt)
      have KX2 := Lib.hid (KX1.out.below hb2 KX1.out.lt)
      have MW2 := Lib.hid (MW1.out.same (hb2.block _ MW1.out.lt))
      have MT2 := Lib.hid (MT1.out.same (hb2.block _ MT1.out.lt))
      have HB2 := Lib.hid (HB1.out.below hb2)
      have B2 := Lib.hid (stepB B1.out hb2)
      clear hb2 KT1 KR1 KX1 MW1 MT1 HB1 B1 t0 t1 t2 r0 r1 r2 r3
      have hrz := tgt_size HL.out cfg tr HOK.out.rev
      obtain ⟨rv, hrv⟩ : ∃ rv, rv = (tgt L cfg tr).1 := ⟨_, rfl⟩
      obtain ⟨er, her⟩ : ∃ er, er = (tgt L cfg tr).2 := ⟨_, rfl⟩
      have HFE := Lib.hid (show er ≠ 0 → firstErr L cfg ts = some er from fun h => by rw [her]; exact HFE.out (by rw [← her]; exact h))
      have HPP := Lib.hid (show er = 0 → _ from fun h => HPP.out (by show (tgt L cfg tr).2 = 0; rw [← her]; exact h))
      rw [← hrv] at hrz
      rw [← hrv, ← her]
      have HRV := Lib.hid hrv
      clear hrv her
      by_cases hez : er = 0
      · subst hez
        have HEZ := Lib.hid (HPP.out rfl)
        clear HPP HFE
        have hlk := PB.look_run Tryz.underlying72 (zeroI_ W2) MW2.out rv (by unfold maxLen; omega) (c := .int .i64 ((stOf L cfg (ts.take i)).wf rv.data.toList)) (by
          by_cases hin : rv.data.toList ∈ (stOf L cfg (ts.take i)).SW
          · rw [if_pos hin]
          · rw [if_neg hin, HS.out.out _ hin])
        have t2 := KT2.out.cell 2
        have t1 := KT2.out.cell 1
        simp only [List.getElem?_toArray, List.getElem?_cons_zero, List.getElem?_cons_succ] at t1 t2
        have hs1 := HS.out.step (cfg := cfg) HL.out HOK.out
        rw [← HSU.out] at hs1
        have HS3 := Lib.hid hs1
        have hlo := HS.out.lo rv.data.toList
        have hhi := HS.out.hi rv.data.toList
        have hlw := HS.out.lenW
        have hltt := HS.out.lenT
        have htg : tt.size ≤ 1000 := HOK.out.tag
        have p0 : 0 ≤ tp := HOK.out.lo
        have p1 : tp ≤ 100 := HOK.out.hi
        obtain ⟨sm, hsm⟩ : ∃ sm, sm = (stOf L cfg (ts.take i)).wf rv.data.toList := ⟨_, rfl⟩
        rw [← hsm] at hlk hlo hhi
        have hw64 : IntKind.i64.wrap (sm + tp) = sm + tp := IntWalk.i64_in _ (by omega)
        have HSM := Lib.hid hsm
        clear hs1 hsm
        go_upto_region 9 with (at_mapUpdate; refine wpList_putM _ rfl (.tmp 37) (.tmp 38) (.tmp 42) 72 rfl 9 3 Tryz.underlying9 Tryz.underlying72 gm _ _ (by rfl) MW2.out (by unfold maxLen; omega) rv (by rfl) (by unfold maxLen; omega) (.int .i64 (sm + tp)) (by rfl) ?_; intro w8 hs8 ht8)
        have hch : Chg (fun k => k = gm) W2 w8 := Chg.of_turned ht8 rfl
        have KT8 := Lib.hid (KT2.out.chg hch (by have := KT2.out; have := MW2.out; intro e; exact mapBlk_ne MW2.out KT2.out e.symm))
        have KR8 := Lib.hid (KR2.out.chg hch (by omega))
        have KX8 := Lib.hid (KX2.out.chg hch (by omega))
        have MW8 := Lib.hid (setI hs8)
        have MT8 := Lib.hid (MT2.out.chg hch (Ne.symm hne1))
        have HB8 := Lib.hid (HB2.out.chg hch (by omega) (by omega) (by omega))
        have B8 := Lib.hid (hch.below_of B2.out B2.out.size (fun k hk e => by omega))
        clear hs8 ht8 hch KT2 KR2 KX2 MW2 MT2 HB2 B2 hlk hlo hhi hw64 p0 p1 t1 t2
        have t1 := KT8.out.cell 1
        simp only [List.getElem?_toArray, List.getElem?_cons_zero, List.getElem?_cons_succ] at t1
        have eW : (stOf L cfg (ts.take (i + 1))).SW = addKey rv.data.toList (stOf L cfg (ts.take i)).SW := by rw [HSU.out, HRV.out]; rfl
        have ef : (stOf L cfg (ts.take (i + 1))).wf = setK rv.data.toList (sm + tp) (stOf L cfg (ts.take i)).wf := by rw [HSU.out, HRV.out, HSM.out, HRV.out]; rfl
        rw [← eW, ← ef] at MW8
        clear eW ef HSM
        by_cases hz : tt.size = 0
        · have eT : (stOf L cfg (ts.take (i + 1))).ST = (stOf L cfg (ts.take i)).ST := by rw [HSU.out]; exact if_pos hz
          have eg : (stOf L cfg (ts.take (i + 1))).tf = (stOf L cfg (ts.take i)).tf := by rw [HSU.out]; exact if_pos hz
          rw [← eT, ← eg] at MT8
          obtain rfl := str_eq hz
          clear eT eg HSU HOK
          go_wp2_with fail
          go_roundw
          case rel => exact ⟨i + 1, by omega, by go_num, KR8, KX8, MW8, MT8, HB8, HS3, HEZ, B8⟩
          case measure => simp [PB.vI]; omega
        · obtain ⟨z1, z2⟩ := str_ne hz
          have eT : (stOf L cfg (ts.take (i + 1))).ST = addKey tt.data.toList (stOf L cfg (ts.take i)).ST := by rw [HSU.out]; exact if_neg hz
          have eg : (stOf L cfg (ts.take (i + 1))).tf = setK tt.data.toList rv (stOf L cfg (ts.take i)).tf := by rw [HSU.out, HRV.out]; exact if_neg hz
          have HET := Lib.hid eT
          have HEG := Lib.hid eg
          clear eT eg HSU HOK hz
          go_wp2_with (at_mapUpdate; refine wpList_putM _ rfl (.tmp 46) (.tmp 48) (.tmp 49) 73 rfl 9 9 Tryz.underlying9 Tryz.underlying73 gn _ _ (by rfl) MT8.out (by unfold maxLen; omega) tt (by rfl) (by unfold maxLen; omega) (.string rv) (by rfl) ?_; intro w9 hs9 ht9)
          have hch : Chg (fun k => k = gn) w8 w9 := Chg.of_turned ht9 rfl
          have KR9 := Lib.hid (KR8.out.chg hch (by omega))
          have KX9 := Lib.hid (KX8.out.chg hch (by omega))
          have MW9 := Lib.hid (MW8.out.chg hch hne1)
          have hst := setT hs9
          rw [← HET.out, ← HEG.out] at hst
          have MT9 := Lib.hid hst
          have HB9 := Lib.hid (HB8.out.chg hch (by omega) (by omega) (by omega))
          have B9 := Lib.hid (hch.below_of B8.out B8.out.size (fun k hk e => by omega))
          clear hs9 ht9 hch hst KR8 KX8 MW8 MT8 HB8 B8 KT8 t1
          go_roundw
          case rel => exact ⟨i + 1, by omega, by go_num, KR9, KX9, MW9, MT9, HB9, HS3, HEZ, B9⟩
          case measure => simp [PB.vI]; omega
      · have hen : (er != 0) = true := by simp [hez]
        have x0 := KX2.out.cell 0
        have x1 := KX2.out.cell 1
        have f0 := KX2.out.frozen 0
        have f1 := KX2.out.frozen 1
        simp only [List.getElem?_toArray, List.getElem?_cons_zero, List.getElem?_cons_succ] at x0 x1
        have kx' : Blk ((W2.setCell ⟨gx, 0, none⟩ (.slice none 0 0)).setCell ⟨gx, 1, none⟩ (.slice none 0 0)) gx #[.slice none 0 0, .slice none 0 0] 36 := (KX2.out.set 0 _ rfl).set 1 _ rfl
        have bx' : Below w.heap.size w ((W2.setCell ⟨gx, 0, none⟩ (.slice none 0 0)).setCell ⟨gx, 1, none⟩ (.slice none 0 0)) := (B2.out.setCell (p := ⟨gx, 0, none⟩) (by show w.heap.size ≤ gx; omega) _).setCell (p := ⟨gx, 1, none⟩) (by show w.heap.size ≤ gx; omega) _
        have KX3 := Lib.hid kx'
        have BX3 := Lib.hid bx'
        clear kx' bx'
        go_wp2_with fail
        have y0 := KX3.out.cell 0
        have y1 := KX3.out.cell 1
        simp only [List.getElem?_toArray, List.getElem?_cons_zero, List.getElem?_cons_succ] at y0 y1
        refine ⟨.tuple #[.agg #[.slice none 0 0, .slice none 0 0], .int .i64 er], ?_, BX3.out, ?_⟩
        · simp [results, Tryz.results7, go_sem, y0, y1]
        · rw [HFE.out hez]
    · obtain rfl : i = ts.length := by omega
      rw [List.take_length] at MW MT HS
      clear hlt hi
      have hfn := firstErr_none (L := L) (cfg := cfg) (ts := ts) (fun j hj => HP.out j hj hj)
      have HFN := Lib.hid hfn
      clear hfn HP HT HTS
      obtain ⟨st, hst⟩ : ∃ st, st = stOf L cfg ts := ⟨_, rfl⟩
      rw [← hst] at MW MT HS
      have HST := Lib.hid hst
      clear hst
      obtain ⟨W5, hW5⟩ : ∃ W5, W5 = wr.alloc (.cells #[.slice none 0 0, .slice none 0 0] 36) := ⟨_, rfl⟩
      have b5 : Below wr.heap.size wr W5 := by rw [hW5]; exact (Below.refl _ _).alloc (Nat.le_refl _) _
      have k5 : Blk W5 wr.heap.size #[.slice none 0 0, .slice none 0 0] 36 := by rw [hW5]; exact Blk.new _ _ _
      obtain ⟨gt, hgt⟩ : ∃ gt, gt = wr.heap.size := ⟨_, rfl⟩
      have h5s : W5.heap.size = gt + 1 := by rw [hW5, hgt]; simp
      obtain ⟨W6, hW6⟩ : ∃ W6, W6 = W5.alloc (.cells #[.map (some gm)] 72) := ⟨_, rfl⟩
      have b6 : Below W5.heap.size W5 W6 := by rw [hW6]; exact (Below.refl _ _).alloc (Nat.le_refl _) _
      have k6 : Blk W6 W5.heap.size #[.map (some gm)] 72 := by rw [hW6]; exact Blk.new _ _ _
      have h6s : W6.heap.size = gt + 1 + 1 := by rw [hW6]; simp [h5s]
      rw [h5s] at k6
      rw [← hgt] at k5
      have b56 := stepB b5 b6
      have hwz := BB.out.size
      have hgml := MW.out.lt
      have hgnl := MT.out.lt
      have hgxl := KX.out.lt
      have KT6 := Lib.hid (k5.below b6 k5.lt)
      have KB6 := Lib.hid k6
      have KX6 := Lib.hid (KX.out.below b56 KX.out.lt)
      have MW6 := Lib.hid (MW.out.same (b56.block _ MW.out.lt))
      have MT6 := Lib.hid (MT.out.same (b56.block _ MT.out.lt))
      have B6 := Lib.hid (stepB BB.out b56)
      clear k5 k6 b5 b6 b56 KX MW MT HB KR
      go_wp2_with (go_at_call 24; (with_reducible refine (inOrdI_calls 0 (some gm) _).mono ?_); rintro e w' ⟨rfl, rfl⟩)
      rw [← hW5, ← hW6, ← hgt]
      rw [← hgt] at hwz hgml hgnl hgxl
      clear hW5 hW6 hgt h5s
      obtain ⟨i0, hi0, hz0, hz1, hz2⟩ := info_parts info51
      have hSl := HS.out.lenW
      have hIs := inI_stops 19 (by omega) (wf := st.wf) (gt + 1) gt W6 (by omega) (by omega) KB6.out MW6.out (fun k _ => rfl) (by omega) HS.out.keyW (tb := 36) (te := 51) (by decide) (by decide) (by decide) (by decide)
      refine range_wide (q1 := 13) (q2 := 14) (gf := 44) (lb := #[.pointer (some ⟨gt + 1, 0, none⟩)]) rfl (enters_of Tryz.func44 (by kernel_rfl) rfl) (e1 := fun x : ByteArray × Int => .string x.1) (e2 := fun x => .int .i64 x.2) hIs KpS.trans (fun W l o o' => KpS.put (by omega) W l o o') (Below.refl _ _)
        (fun pre W => (∃ v, Blk W gt #[v, .slice none 0 0] 36 ∧ RowG el51 W (gt + 1 + 1) v (shOf pre)) ∧ Below gt W6 W) ?_ ?_ ?assign ?body ?done
      · exact OwnFrom.and (fun s A B row ⟨v, h1, h2⟩ hg hr => ⟨v, blk_grown h1 hg (fun r e => (hr r e).2), row_grown h2 hg (fun r e => (hr r e).2)⟩) (ownFrom_below (by omega) (by omega))
      · exact ⟨⟨_, KT6.out, RowG.nil _ _ _⟩, Below.refl _ _⟩
      case assign =>
        intro l x W K hK
        simp only [List.setIfInBounds_toArray, List.set_cons_zero, List.set_cons_succ] at hK ⊢
        gi_wp2
        exact hK
      case body =>
        rintro l pre x W ⟨⟨v, hv, hrow⟩, hbel⟩ hlt
        simp only [List.setIfInBounds_toArray, List.set_cons_zero, List.set_cons_succ]
        obtain ⟨x1, x2⟩ := x
        have hpl := shOf_len pre
        have hwl := hbel.size
        have hc0 := hv.cell 0
        have hf0 := hv.frozen 0
        simp only [List.getElem?_toArray, List.getElem?_cons_zero, List.getElem?_cons_succ] at hc0
        by_cases hx : 0 < x2
        · have hxd : decide (0 < x2) = true := decide_eq_true hx
          gi_wp2_with (gi_at_builtin; refine wpListIn_append_own _ rfl _ _ 33 rfl (gt + 1 + 1) 51 i0 _ 2 24 Tryz.underlying33 hi0 hz0 hz1 hz2 rfl (by decide) v (shOf pre).length ((shOf pre).flatMap el51.enc) rfl (row_grown (E := el51) hrow (World.grownBy_alloc W _ none) (fun r e => by cases e)) ⟨W.heap.size, 0, none⟩ 1 1 (el51.enc ⟨x1, x2⟩) rfl rfl (src_lit (E := el51) (W := W) ⟨x1, x2⟩) (fun u hu => by simp [el51, enc51] at hu; rcases hu with rfl | rfl <;> rfl) (by unfold maxLen; omega) (by omega) (by simp; omega) ?_; intro v' w1 hown' hgrow _; obtain ⟨g', cap', rfl⟩ := ownsRow_succ hown'; obtain ⟨kg, hKF, hKp, hB', hR', hbl⟩ := append_round (E := el51) hv (by decide) (by omega) hrow hown' hgrow 0 rfl hbel 0; have hc1 := kg.cell 0; have hf1 := kg.frozen 0; simp only [List.getElem?_toArray, List.getElem?_cons_zero, List.getElem?_cons_succ] at hc1)
          exact ⟨KeepsFrom.up hKF, hKp, ⟨_, hB', by rw [shOf_hit pre hx]; exact hR'⟩, hbl⟩
        · have hxd : decide (0 < x2) = false := decide_eq_false hx
          gi_wp2
          exact ⟨KeepsFrom.refl _ _, KpS.refl _ _ _ _, ⟨v, hv, by rw [shOf_miss pre (x := (x1, x2)) (by show ¬ 0 < x2; omega)]; exact hrow⟩, hbel⟩
      case done =>
        rintro D xs W hD rfl ⟨⟨v, hv, hrow⟩, hbel⟩ hK
        have hIs := trivial
        obtain ⟨sh, hsh⟩ : ∃ sh, sh = shOf (prsI st.SW st.wf) := ⟨_, rfl⟩
        rw [← hsh] at hrow
        have HSH := Lib.hid hsh
        have hshl : sh.length ≤ 100 := by rw [hsh]; have := shOf_len (prsI st.SW st.wf); rw [prsI_len] at this; omega
        obtain ⟨gB, hgB⟩ : ∃ gB, gB = W.heap.size := ⟨_, rfl⟩
        obtain ⟨W7, hW7⟩ : ∃ W7, W7 = W.alloc (.cells #[.map (some gn)] 73) := ⟨_, rfl⟩
        have hwz6 := hbel.size
        have b7 : Below W.heap.size W W7 := by rw [hW7]; exact (Below.refl _ _).alloc (Nat.le_refl _) _
        have k7 : Blk W7 gB #[.map (some gn)] 73 := by rw [hW7, hgB]; exact Blk.new _ _ _
        have h7s : W7.heap.size = gB + 1 := by rw [hW7, hgB]; simp
        have KB7 := Lib.hid k7
        have KT7 := Lib.hid (hv.below b7 hv.lt)
        have HR7 := Lib.hid (RowG.below hrow b7 (Nat.le_refl _))
        have hb67 : Below gt W6 W7 := hbel.trans (b7.mono (by omega))
        have HD7 := Lib.hid (show W7.heap[D]? = some (.deferred (some [])) from (b7.block D (Array.getElem?_eq_some_iff.1 hK).1).trans hK)
        have hDl : D < gB := by rw [hgB]; exact (Array.getElem?_eq_some_iff.1 hK).1
        have MT7 := Lib.hid (MT6.out.same (hb67.block _ hgnl))
        have KX7 := Lib.hid (KX6.out.below hb67 hgxl)
        have B7 := Lib.hid (show Below w.heap.size w W7 from B6.out.trans (hb67.mono hwz))
        have hgB2 : gt + 1 + 1 ≤ gB := by omega
        clear hsh hv hrow hK b7 k7 hb67 hbel MW6 KT6 KB6 MT6 KX6 B6 i0 hi0 hz0 hz1 hz2 hIs
        go_wp2_with (go_at_call 25; (with_reducible refine (inOrdT_calls 0 (some gn) _).mono ?_); rintro e w' ⟨rfl, rfl⟩)
        rw [← hW7, ← hgB]
        clear hW7 hgB
        obtain ⟨i0, hi0, hz0, hz1, hz2⟩ := info_parts info83
        have hTl := HS.out.lenT
        have hTs := inT_stops 19 (by omega) (wf := st.tf) gB gt W7 (by omega) hgnl KB7.out MT7.out (fun k _ => rfl) (by omega) HS.out.keyT (tb := 36) (te := 83) (by decide) (by decide) (by decide) (by decide)
        refine range_wide (q1 := 15) (q2 := 16) (gf := 47) (lb := #[.pointer (some ⟨gB, 0, none⟩)]) rfl (enters_of Tryz.func47 (by kernel_rfl) rfl) (e1 := fun x : ByteArray × ByteArray => .string x.1) (e2 := fun x => .string x.2) hTs KpS.trans (fun W l o o' => KpS.put (by omega) W l o o') (Below.refl _ _)
          (fun pre W => ((∃ u, Blk W gt #[v, u] 36 ∧ RowG el83 W (gt + 1 + 1) u (tgOf pre)) ∧ RowG el51 W (gt + 1 + 1) v sh ∧ W.heap[D]? = some (.deferred (some []))) ∧ Below gt W7 W) ?_ ?_ ?assign ?body ?done
        · refine OwnFrom.and (fun s A B row ⟨⟨u, h1, h2⟩, h3, h4⟩ hg hr => ⟨⟨u, blk_grown h1 hg (fun r e => (hr r e).2), row_grown h2 hg (fun r e => (hr r e).2)⟩, row_grown h3 hg (fun r e => (hr r e).2), ?_⟩) (ownFrom_below (by omega) (by omega))
          exact (hg.block D (Array.getElem?_eq_some_iff.1 h4).1 (fun e => by have := (hr D e.symm).1; omega)).trans h4
        · exact ⟨⟨⟨_, KT7.out, RowG.nil _ _ _⟩, HR7.out, HD7.out⟩, Below.refl _ _⟩
        case assign =>
          intro l x W K hK
          simp only [List.setIfInBounds_toArray, List.set_cons_zero, List.set_cons_succ] at hK ⊢
          gi_wp2
          exact hK
        case body =>
          rintro l pre x W ⟨⟨⟨u, hu, hrow⟩, hr2, hK⟩, hbel⟩ hlt
          simp only [List.setIfInBounds_toArray, List.set_cons_zero, List.set_cons_succ]
          obtain ⟨x1, x2⟩ := x
          have hpl : (tgOf pre).length ≤ pre.length := Nat.le_of_eq (tgOf_len pre)
          have hwl := hbel.size
          have hc0 := hu.cell 1
          have hf0 := hu.frozen 1
          simp only [List.getElem?_toArray, List.getElem?_cons_zero, List.getElem?_cons_succ] at hc0
          gi_wp2_with (gi_at_builtin; refine wpListIn_append_own _ rfl _ _ 34 rfl (gt + 1 + 1) 83 i0 _ 2 32 Tryz.underlying34 hi0 hz0 hz1 hz2 rfl (by decide) u (tgOf pre).length ((tgOf pre).flatMap el83.enc) rfl (row_grown (E := el83) hrow (World.grownBy_alloc W _ none) (fun r e => by cases e)) ⟨W.heap.size, 0, none⟩ 1 1 (el83.enc ⟨x1, x2⟩) rfl rfl (src_lit (E := el83) (W := W) ⟨x1, x2⟩) (fun u hu => by simp [el83, enc83] at hu; rcases hu with rfl | rfl <;> rfl) (by unfold maxLen; omega) (by omega) (by simp; omega) ?_; intro v' w1 hown' hgrow _; obtain ⟨g', cap', rfl⟩ := ownsRow_succ hown'; obtain ⟨kg, hKF, hKp, hB', hR', hbl⟩ := append_round (E := el83) hu (by decide) (by omega) hrow hown' hgrow 1 rfl hbel 0; have hc1 := kg.cell 1; have hf1 := kg.frozen 1; simp only [List.getElem?_toArray, List.getElem?_cons_zero, List.getElem?_cons_succ] at hc1)
          exact ⟨KeepsFrom.up hKF, hKp, ⟨⟨_, hB', by rw [tgOf_snoc]; exact hR'⟩, row_kps hr2 hKp (by decide) (by decide), hKF.same D _ (Nat.zero_le _) hK rfl⟩, hbl⟩
        case done =>
          rintro D2 xs W hD2 rfl ⟨⟨⟨u, hu, hrow⟩, hr2, hK⟩, hbel⟩ hK2
          clear hTs hmm i0 hi0 hz0 hz1 hz2 KT7 HR7 HD7 MT7 KB7
          obtain ⟨tg, htg⟩ : ∃ tg, tg = tgOf (prsT st.ST st.tf) := ⟨_, rfl⟩
          rw [← htg] at hrow
          have htgl : tg.length ≤ 100 := by rw [htg, tgOf_len, prsT_len]; omega
          have HTG := Lib.hid htg
          clear htg
          obtain ⟨A0, c0, rfl, hc0, hC0⟩ := RowG.toC hr2
          obtain ⟨A1, c1, rfl, hc1, hC1⟩ := RowG.toCT hrow
          have OC := Lib.hid (own_calls A0 c0 sh A1 c1 tg W hC0 hC1 (by omega) (by omega))
          have hwl := hbel.size
          have q0 := hu.cell 0
          have q1 := hu.cell 1
          simp only [List.getElem?_toArray, List.getElem?_cons_zero, List.getElem?_cons_succ] at q0 q1
          have KXW := Lib.hid (KX7.out.below hbel hgxl)
          have BWW := Lib.hid (show Below w.heap.size w W from B7.out.trans (hbel.mono hwz))
          have HKD := Lib.hid hK
          have HKD2 := Lib.hid hK2
          have hD2l := (Array.getElem?_eq_some_iff.1 hK2).1
          clear hC0 hC1 hr2 hrow hu hbel hK hK2 KX7 B7
          go_wp2_with (go_at_call 26; (with_reducible refine OC.out.mono ?_); rintro e w9 ⟨v0, v1, rfl, r0, r1, hb9⟩; obtain ⟨A5, c5, rfl, hc5, _⟩ := RowG.toC r0; obtain ⟨A6, c6, rfl, hc6, _⟩ := RowG.toCT r1; have KX9 := Lib.hid (KXW.out.below hb9 KXW.out.lt); have x0 := KX9.out.cell 0; have x1 := KX9.out.cell 1; have f0 := KX9.out.frozen 0; have f1 := KX9.out.frozen 1; simp only [List.getElem?_toArray, List.getElem?_cons_zero, List.getElem?_cons_succ] at x0 x1)
          have kx10 : Blk ((w9.setCell ⟨gx, 0, none⟩ (.slice A5 sh.length c5)).setCell ⟨gx, 1, none⟩ (.slice A6 tg.length c6)) gx #[.slice A5 sh.length c5, .slice A6 tg.length c6] 36 := (KX9.out.set 0 _ rfl).set 1 _ rfl
          have cx10 : Chg (fun k => k = gx) w9 ((w9.setCell ⟨gx, 0, none⟩ (.slice A5 sh.length c5)).setCell ⟨gx, 1, none⟩ (.slice A6 tg.length c6)) := ((Chg.refl (fun k => k = gx) w9).setCell (a := ⟨gx, 0, none⟩) (fun _ => rfl) _).setCell (a := ⟨gx, 1, none⟩) (fun _ => rfl) _
          generalize (w9.setCell ⟨gx, 0, none⟩ (.slice A5 sh.length c5)).setCell ⟨gx, 1, none⟩ (.slice A6 tg.length c6) = w10 at kx10 cx10 ⊢
          have hz9 := hb9.size
          have d2 : w10.heap[D2]? = some (.deferred (some [])) := (cx10.block D2 (by omega) (by omega)).trans ((hb9.block D2 hD2l).trans HKD2.out)
          have d1 : w10.heap[D]? = some (.deferred (some [])) := (cx10.block D (by omega) (by omega)).trans ((hb9.block D (by omega)).trans HKD.out)
          have g2 := grownBy_putObj' w10 D2 (.deferred none)
          have n2 : ∀ r, some D2 = some r → ∃ o : Obj, w10.heap[r]? = some o ∧ o.isCells = false := fun r e => by cases e; exact ⟨_, d2, rfl⟩
          have d1' : (w10.putObj D2 (.deferred none)).heap[D]? = some (.deferred (some [])) := (g2.block D (Array.getElem?_eq_some_iff.1 d1).1 (fun e => by have := Option.some.inj e; omega)).trans d1
          have g1 := grownBy_putObj' (w10.putObj D2 (.deferred none)) D (.deferred none)
          have n1 : ∀ r, some D = some r → ∃ o : Obj, (w10.putObj D2 (.deferred none)).heap[r]? = some o ∧ o.isCells = false := fun r e => by cases e; exact ⟨_, d1', rfl⟩
          have kx12 := blk_grown (blk_grown kx10 g2 n2) g1 n1
          have hr5 : RowG el51 w10 W.heap.size (.slice A5 sh.length c5) sh := r0.moved (fun k h1 h2 => cx10.block k h2 (by omega))
          have hr6 : RowG el83 w10 W.heap.size (.slice A6 tg.length c6) tg := r1.moved (fun k h1 h2 => cx10.block k h2 (by omega))
          have hr5 := row_grown (row_grown hr5 g2 n2) g1 n1
          have hr6 := row_grown (row_grown hr6 g2 n2) g1 n1
          have b10 : Below w.heap.size w w10 := cx10.below_of (BWW.out.trans (hb9.mono BWW.out.size)) (by have := BWW.out.size; omega) (fun k hk e => by omega)
          have b11 : Below w.heap.size w (w10.putObj D2 (.deferred none)) := b10.grown g2 b10.size (fun k e => by cases e; omega)
          have b12 : Below w.heap.size w ((w10.putObj D2 (.deferred none)).putObj D (.deferred none)) := b11.grown g1 b11.size (fun k e => by cases e; omega)
          obtain ⟨A7, c7, e7, hc7, hC7⟩ := RowG.toC hr5
          obtain ⟨A8, c8, e8, hc8, hC8⟩ := RowG.toCT hr6
          cases e7
          cases e8
          have y0 := kx12.cell 0
          have y1 := kx12.cell 1
          simp only [List.getElem?_toArray, List.getElem?_cons_zero, List.getElem?_cons_succ] at y0 y1
          have hS1 : resSh (stOf L cfg ts) = sh := by rw [← HST.out, HSH.out]; rfl
          have hS2 : resTg (stOf L cfg ts) = tg := by rw [← HST.out, HTG.out]; rfl
          refine ⟨by simp, .inl ⟨_, _, rfl, run_takeDeferred d2, ⟨by simp, .inl ⟨_, _, rfl, run_takeDeferred d1', ?_⟩⟩⟩⟩
          refine ⟨.tuple #[.agg #[.slice A5 sh.length c5, .slice A6 tg.length c6], .int .i64 0], ?_, b12, ?_⟩
          · simp [results, Tryz.results7, go_sem, y0, y1]
          · rw [HFN.out, hS1, hS2]
            exact ⟨A5, c5, A6, c6, rfl, hC7, hc7, hC8, hc8⟩

end Go.Proofs.YtnkmpkhiilnigaaGreatDoor.PR
