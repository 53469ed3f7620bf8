/- StampTwice: the walk. (Printed by stamplaws.py and genx.py.) -/
import Derived.Test.YtmiojmnifnnncaaDoorSTwo
set_option linter.unusedSimpArgs false
set_option linter.unusedVariables false
namespace Go.Proofs.YtmiojmnifnnncaaDoor.PA
open Go.RowKit Go.Shelf Go.Lib Go.Sort Go.Maps Go.Proofs.YtmiojmnifnnncaaDoorW.PrintWords Go.Proofs.YtmiojmnifnnncaaDoorW.PrintLast


abbrev cI (i : Int) : CfgM := ⟨nmA, i, 1, 0, 1, 0⟩
theorem cI_nm (i : Int) : (cI i).nm = nmA := rfl
theorem cI_v (i : Int) : ValidN (cI i).nm := nmA_valid
theorem cI_enc (i : Int) (n : ByteArray) (h : n = nmA) : encC (cI i) = .agg #[.string n, .int .i64 i, .int .i64 1, .int .i64 0, .int .i64 1, .int .i64 0] := by subst h; rfl
theorem one_ok {g : Int} (h0 : 1 ≤ g) (h1 : g ≤ 999999) (b : Bool) : OkL [⟨cI 0, g, b⟩] := ⟨fun r hr => by rw [List.mem_singleton.1 hr]; exact ⟨nmA_valid, h0, h1⟩, by simp, by simp⟩
theorem one_find (g : Int) (b : Bool) : findR [⟨cI 0, g, b⟩] (revN nmA g).data.toList = some ⟨cI 0, g, b⟩ := by
  unfold findR
  rw [List.find?_cons, show ((⟨cI 0, g, b⟩ : RevM).key == (revN nmA g).data.toList) = true from by show ((revN nmA g).data.toList == (revN nmA g).data.toList) = true; simp]
theorem one_prove (g : Int) : proveL [⟨cI 0, g, false⟩] (revN nmA g).data.toList = [⟨cI 0, g, true⟩] := by
  unfold proveL
  rw [List.map_singleton, if_pos (show ((⟨cI 0, g, false⟩ : RevM).key == (revN nmA g).data.toList) = true from by show ((revN nmA g).data.toList == (revN nmA g).data.toList) = true; simp)]
theorem one_stamp (g i : Int) (b : Bool) : stampL [⟨cI 0, g, b⟩] (cI i) g = [⟨cI 0, g, b⟩] := by
  unfold stampL
  rw [show revN (cI i).nm g = revN nmA g from rfl, one_find]
  rfl
theorem one_first (g : Int) : stampL [] (cI 0) g = [⟨cI 0, g, false⟩] := rfl

set_option maxRecDepth 100000 in
set_option maxHeartbeats 8000000 in
theorem twice_law (a0 : Int) (a1 : Int) (w : World) (ht : ∀ w', Below w.heap.size w w' → Pow10 w')  :
    Calls Tryd.prog 10 #[.int .i64 a0, .int .i64 a1] w fun e w' => e = .returned (.bool true) ∧ Below w.heap.size w w' := by
  have HT := Lib.hid ht
  clear ht
  go_enter Tryd.func10, Tryd.ntmps10
  go_wp2_with fail
  refine (known12 w HT.out).mono ?_
  rintro e w1 ⟨rfl, hb1⟩
  go_wp2_with fail
  refine (new_calls w1).mono ?_
  rintro e w2 ⟨p, b1, b2, rfl, hB, ⟨hp, h1, h2⟩, hb2⟩
  have z1 := hb1.size
  have hp : w.heap.size ≤ p := by omega
  have h1 : w.heap.size ≤ b1 := by omega
  have h2 : w.heap.size ≤ b2 := by omega
  have HB2 := Lib.hid hB
  have B2 := Lib.hid (below_step hb1 hb2)
  clear hB hb1 hb2 z1
  obtain ⟨W3, hW3⟩ : ∃ W3, W3 = w2.alloc (.cells #[.slice none 0 0, .slice none 0 0] 57) := ⟨_, rfl⟩
  have bW3 : Below w2.heap.size w2 W3 := by rw [hW3]; exact (Below.refl _ _).alloc (Nat.le_refl _) _
  have hdd : DBook W3 w.heap.size w2.heap.size [] := by rw [hW3]; exact DBook.first B2.out.size
  obtain ⟨q, hq⟩ : ∃ q, q = w2.heap.size := ⟨_, rfl⟩
  rw [← hq] at hdd
  have HD3 := Lib.hid hdd
  have HB3 := Lib.hid (HB2.out.below bW3)
  have B3 := Lib.hid (below_step B2.out bW3)
  clear bW3 hdd HB2 B2
  go_upto_region 4 with fail
  rw [← hW3, ← hq]
  clear hW3 hq
  go_wp2_with fail
  have hwi := Lib.hid (within12 a0 999999 (by omega) (by omega))
  have k0 := Int.emod_nonneg a0 (b := 999999) (by omega)
  have k1 := Int.emod_lt_of_pos a0 (b := 999999) (by omega)
  refine (damperlaw12_within.calls a0 999999 (a0 % 999999) _ hwi.out).mono ?_
  rintro e w4 ⟨rfl, hdr_⟩
  have hd_ := hdr_.below
  clear hdr_
  clear hwi
  have HB4 := Lib.hid (HB3.out.below hd_)
  have HD4 := Lib.hid (HD3.out.below hd_)
  have B4 := Lib.hid (below_step B3.out hd_)
  generalize a0 % 999999 = k at k0 k1 ⊢
  obtain ⟨g, hg⟩ : ∃ g, g = 1 + k := ⟨_, rfl⟩
  have hg0 : 1 ≤ g := by omega
  have hg1 : g ≤ 999999 := by omega
  have HG := Lib.hid hg
  clear hd_ HB3 HD3 B3 hg
  go_upto_region 7 with fail
  rw [← HG.out]
  clear HG k0 k1
  obtain ⟨W5, hW5⟩ : ∃ W5, W5 = w4.alloc (.cells #[.string ⟨#[97]⟩, .int .i64 0, .int .i64 1, .int .i64 0, .int .i64 1, .int .i64 0] 27) := ⟨_, rfl⟩
  have bW5 : Below w4.heap.size w4 W5 := by rw [hW5]; exact (Below.refl _ _).alloc (Nat.le_refl _) _
  have kr : Blk W5 w4.heap.size #[.string ⟨#[97]⟩, .int .i64 0, .int .i64 1, .int .i64 0, .int .i64 1, .int .i64 0] 27 := by rw [hW5]; exact Blk.new _ _ _
  obtain ⟨gr, hgr⟩ : ∃ gr, gr = w4.heap.size := ⟨_, rfl⟩
  rw [← hgr] at kr
  have hgB : w.heap.size ≤ gr := by rw [hgr]; exact B4.out.size
  have HB5 := Lib.hid (HB4.out.below bW5)
  have HD5 := Lib.hid (HD4.out.below bW5)
  have B5 := Lib.hid (below_step B4.out bW5)
  have KR := Lib.hid kr
  clear kr bW5 HB4 HD4 B4
  go_upto_region 8 with fail
  rw [← hW5, ← hgr]
  clear hW5 hgr
  obtain ⟨d0, d1, d2, d3, d4, d5⟩ := cells6 KR.out
  go_wp2_with fail
  with_reducible refine (stamp_callsE HB5.out OkL.nil (cI 0) (cI_v 0) g hg0 hg1 (fun w' hb => HT.out w' (below_step B5.out hb)) (cI_enc 0 ⟨#[97]⟩ rfl) (nm := nmA) (cI_nm 0)).mono ?_
  rintro e w6 ⟨rfl, hB6, hc6⟩
  rw [one_first] at hB6
  have HB6 := Lib.hid hB6
  have HD6 := Lib.hid (HD5.out.book HB5.out hc6)
  have B6 := Lib.hid (hc6.below_of B5.out B5.out.size (fun k hk e => by omega))
  have KR6 := Lib.hid (KR.out.chg hc6 (map_ne HB5.out KR.out))
  clear hB6 hc6 HB5 HD5 B5 KR d0 d1 d2 d3 d4 d5
  obtain ⟨d0, d1, d2, d3, d4, d5⟩ := cells6 KR6.out
  have hfn : (findR [] (revN nmA g).data.toList).isNone = true := rfl
  rw [hfn]
  go_wp2_with fail
  with_reducible refine (dstamp_calls HD6.out OkL.nil (cI 0) (cI_v 0) g hg0 hg1 (cI_enc 0 ⟨#[97]⟩ rfl)).mono ?_
  rintro e w7 ⟨rfl, hD7, hc7⟩
  rw [one_first] at hD7
  have HD7 := Lib.hid hD7
  have HB7 := Lib.hid (HB6.out.doc hc7)
  have B7 := Lib.hid (hc7.below_of B6.out B6.out.size (fun k hk e => by have := e.1; omega))
  have KR7 := Lib.hid (KR6.out.chg hc7 (doc_ne KR6.out (by decide)))
  clear hD7 hc7 HB6 HD6 B6 KR6 d0 d1 d2 d3 d4 d5
  have hsz := revN_size nmA (by decide) g (by omega) hg1
  have pc0 := proved_calls HB7.out (revN nmA g) (by omega)
  rw [show provedL [⟨cI 0, g, false⟩] (revN nmA g).data.toList = false from (proved_some (one_ok hg0 hg1 false) (one_find g false))] at pc0
  have PC0 := Lib.hid pc0
  have pr0 := prove_calls HB7.out (one_ok hg0 hg1 false) (revN nmA g) (by omega)
  rw [one_find, one_prove, show (if (some (⟨cI 0, g, false⟩ : RevM)).isSome then (0 : Int) else 6) = 0 from rfl] at pr0
  have PR0 := Lib.hid pr0
  clear pc0 pr0
  go_wp2_with (go_at_call 20; (with_reducible refine PC0.out.mono ?_); rintro e u1 ⟨rfl, rfl⟩)
  with_reducible refine PR0.out.mono ?_
  rintro e w8 ⟨rfl, hB8, hc8⟩
  have HB8 := Lib.hid hB8
  have HD8 := Lib.hid (HD7.out.book HB7.out hc8)
  have B8 := Lib.hid (hc8.below_of B7.out B7.out.size (fun k hk e => by omega))
  have KR8 := Lib.hid (KR7.out.chg hc8 (map_ne HB7.out KR7.out))
  clear hB8 hc8 HB7 HD7 B7 KR7 PC0 PR0
  have pr1 := dprove_calls HD8.out (revN nmA g) (one_ok hg0 hg1 false)
  rw [one_find, one_prove, show (if (some (⟨cI 0, g, false⟩ : RevM)).isSome then (0 : Int) else 6) = 0 from rfl] at pr1
  have PR1 := Lib.hid pr1
  clear pr1
  go_wp2_with fail
  with_reducible refine PR1.out.mono ?_
  rintro e w9 ⟨rfl, hD9, hc9⟩
  have HD9 := Lib.hid hD9
  have HB9 := Lib.hid (HB8.out.doc hc9)
  have B9 := Lib.hid (hc9.below_of B8.out B8.out.size (fun k hk e => by have := e.1; omega))
  have KR9 := Lib.hid (KR8.out.chg hc9 (doc_ne KR8.out (by decide)))
  clear hD9 hc9 HB8 HD8 B8 KR8 PR1
  have hwz := Lib.hid (within12 a1 6 (by omega) (by omega))
  have z0 := Int.emod_nonneg a1 (b := 6) (by omega)
  have z1 := Int.emod_lt_of_pos a1 (b := 6) (by omega)
  generalize a1 % 6 = z at hwz z0 z1
  obtain ⟨L2, hL2⟩ : ∃ L2, L2 = [(⟨cI 0, g, true⟩ : RevM)] := ⟨_, rfl⟩
  have HOK : Hid (OkL L2) := Lib.hid (by rw [hL2]; exact one_ok hg0 hg1 true)
  have HFI : Hid (∀ i, stampL L2 (cI i) g = L2 ∧ (findR L2 (revN nmA g).data.toList).isNone = false) := Lib.hid (fun i => by rw [hL2, one_stamp, one_find]; exact ⟨rfl, rfl⟩)
  have HPV : Hid (provedL L2 (revN nmA g).data.toList = true) := Lib.hid (by rw [hL2]; exact proved_some (one_ok hg0 hg1 true) (one_find g true))
  rw [← hL2] at HB9 HD9
  clear hL2
  go_wp2_with fail
  go_loopw [11] (fun v11 wr => ∃ (i : Nat) (y : Int), (i : Int) ≤ 6 ∧ v11 = .int .i64 (i : Int) ∧ Hid (BookAt wr p b1 b2 L2) ∧ Hid (DBook wr w.heap.size q L2) ∧ Hid (Blk wr gr #[.string ⟨#[97]⟩, .int .i64 y, .int .i64 1, .int .i64 0, .int .i64 1, .int .i64 0] 27) ∧ Hid (Below w.heap.size w wr)) (fun v11 _ => 7 - (vI v11).toNat)
  case atStart => exact ⟨0, 0, by omega, rfl, HB9, HD9, KR9, B9⟩
  case round =>
    clear HB9 HD9 KR9 B9
    obtain ⟨i, y, hi, rfl, HB, HD, KR, BB⟩ := hrel
    by_cases hiz : (i : Int) < z
    · have hdz : decide ((i : Int) < z) = true := decide_eq_true hiz
      go_upto_region 17 with (go_at_call 13; (with_reducible refine (damperlaw12_within.calls a1 6 z _ hwz.out).mono ?_); rintro e wa ⟨rfl, hdr⟩; have hda := Lib.hid hdr.below; clear hdr; have KRa := Lib.hid (KR.out.below hda.out KR.out.lt); have e1 := (cells6 KRa.out).2.1; have f1 := KRa.out.frozen 1)
      have HBa := Lib.hid (HB.out.below hda.out)
      have HDa := Lib.hid (HD.out.below hda.out)
      have Ba := Lib.hid (below_step BB.out hda.out)
      obtain ⟨Wb, hWb⟩ : ∃ Wb, Wb = wa.setCell ⟨gr, 1, none⟩ (.int .i64 (i : Int)) := ⟨_, rfl⟩
      have kb : Blk Wb gr #[.string ⟨#[97]⟩, .int .i64 (i : Int), .int .i64 1, .int .i64 0, .int .i64 1, .int .i64 0] 27 := by rw [hWb]; exact KRa.out.set 1 _ rfl
      have cb : Chg (fun k => k = gr) wa Wb := by rw [hWb]; exact (Chg.refl (fun k => k = gr) wa).setCell (a := ⟨gr, 1, none⟩) (fun _ => rfl) _
      rw [← hWb]
      have HBb := Lib.hid (HBa.out.typ cb (fun k e => ⟨_, e ▸ KRa.out⟩) (by decide))
      have HDb := Lib.hid (HDa.out.typ cb (fun k e => ⟨_, e ▸ KRa.out⟩) (by decide))
      have Bb := Lib.hid (cb.below_of Ba.out Ba.out.size (fun k hk e => by omega))
      have KRb := Lib.hid kb
      clear hWb kb cb e1 f1 HBa HDa Ba KRa hda HB HD KR BB
      obtain ⟨d0, d1, d2, d3, d4, d5⟩ := cells6 KRb.out
      go_wp2_with fail
      with_reducible refine (stamp_callsE HBb.out HOK.out (cI i) (cI_v i) g hg0 hg1 (fun w' hb => HT.out w' (below_step Bb.out hb)) (cI_enc i ⟨#[97]⟩ rfl) (nm := nmA) (cI_nm i)).mono ?_
      rintro e wc ⟨rfl, hBc, hcc⟩
      rw [(HFI.out i).1] at hBc
      rw [(HFI.out i).2]
      have HBc := Lib.hid hBc
      have HDc := Lib.hid (HDb.out.book HBb.out hcc)
      have Bc := Lib.hid (hcc.below_of Bb.out Bb.out.size (fun k hk e => by omega))
      have KRc := Lib.hid (KRb.out.chg hcc (map_ne HBb.out KRb.out))
      have pc := proved_calls HBc.out (revN nmA g) (by omega)
      rw [HPV.out] at pc
      have PC := Lib.hid pc
      clear hBc hcc HBb HDb Bb KRb d0 d1 d2 d3 d4 d5 pc
      go_wp2_with (go_at_call 20; (with_reducible refine PC.out.mono ?_); rintro e u1 ⟨rfl, rfl⟩)
      go_roundw
      case rel => exact ⟨i + 1, i, by omega, by go_num, HBc, HDc, KRc, Bc⟩
      case measure => simp [vI]; omega
    · have hdz : decide ((i : Int) < z) = false := decide_eq_false hiz
      go_wp2_with (go_at_call 13; (with_reducible refine (damperlaw12_within.calls a1 6 z _ hwz.out).mono ?_); rintro e wa ⟨rfl, hdr⟩; have hda := Lib.hid hdr.below; clear hdr)
      have HBa := Lib.hid (HB.out.below hda.out)
      have HDa := Lib.hid (HD.out.below hda.out)
      have Ba := Lib.hid (below_step BB.out hda.out)
      with_reducible refine (sameB_calls HBa.out HDa.out HOK.out).mono ?_
      rintro e wz ⟨rfl, hz⟩
      have Bz := Lib.hid (below_step Ba.out hz)
      clear hz
      go_wp2_with fail
      go_ret
      exact ⟨rfl, Bz.out⟩

end Go.Proofs.YtmiojmnifnnncaaDoor.PA
