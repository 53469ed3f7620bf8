/- LeadResolves: the walk. -/
import Derived.Test.YtnkmpkhiilnigaaGreatDoorResR
import Derived.Test.YtnkmpkhiilnigaaGreatDoorGLeadS
set_option linter.unusedSimpArgs false
set_option linter.unusedVariables false
namespace Go.Proofs.YtnkmpkhiilnigaaGreatDoor.PR
open Go.RowKit Go.Shelf Go.Lib Go.Sort Go.Maps Go.Proofs.YtnkmpkhiilnigaaGreatDoor.PA Go.Proofs.YtnkmpkhiilnigaaGreatDoorW.PrintWords Go.Proofs.YtnkmpkhiilnigaaGreatDoorW.PrintLast

theorem firstErr_ne {L : List PB.RevM} {cfg : ByteArray} : ∀ {ts : List TgM} {x : Int}, firstErr L cfg ts = some x → x ≠ 0
  | [], x, h => by cases h
  | a :: r, x, h => by
    unfold firstErr at h
    by_cases h0 : (tgt L cfg a.rev).2 = 0
    · rw [if_pos h0] at h
      exact firstErr_ne h
    · rw [if_neg h0] at h
      cases h
      exact h0
theorem form_size {k : Nat} {r : ByteArray} (h : RevForm (nB k) r) : r.size ≤ 1000 := by
  rcases h with rfl | ⟨d, _, rfl⟩
  · decide
  · have := nB_size k
    rw [ByteArray.size_append, ByteArray.size_append]
    show (nB k).size + 1 + 1 ≤ 1000
    omega
theorem tag_size {i : Nat} {r : ByteArray} (h : TagForm i r) : r.size ≤ 1000 := by
  rcases h with rfl | rfl
  · decide
  · rw [ByteArray.size_append]
    show 1 + 1 ≤ 1000
    omega
theorem tg_ok {k : Nat} {ts : List TgM} (h : RtL (nB k) 0 ts) : ∀ t ∈ ts, TgOk t := fun t ht => by
  obtain ⟨i, hi, e⟩ := List.mem_iff_getElem.1 ht
  exact ⟨form_size (h.rev t ht), tag_size (e ▸ h.tag i hi), (h.pct t ht).1, (h.pct t ht).2⟩
theorem len_addKey (x : List UInt8) (S : List (List UInt8)) : (addKey x S).length ≤ S.length + 1 := by
  unfold addKey
  split <;> simp
theorem st_len {L : List PB.RevM} {cfg : ByteArray} : ∀ (ts : List TgM) (s : StM), (ts.foldl (stepT L cfg) s).SW.length ≤ s.SW.length + ts.length ∧ (ts.foldl (stepT L cfg) s).ST.length ≤ s.ST.length + ts.length
  | [], s => ⟨Nat.le_refl _, Nat.le_refl _⟩
  | a :: r, s => by
    obtain ⟨h1, h2⟩ := st_len (L := L) (cfg := cfg) r (stepT L cfg s a)
    have e1 : (stepT L cfg s a).SW.length ≤ s.SW.length + 1 := len_addKey _ _
    have e2 : (stepT L cfg s a).ST.length ≤ s.ST.length + 1 := by
      show (if a.tag.size = 0 then s.ST else addKey a.tag.data.toList s.ST).length ≤ _
      split
      · omega
      · exact len_addKey _ _
    rw [List.foldl_cons, List.length_cons]
    omega
theorem res_len {L : List PB.RevM} {cfg : ByteArray} (ts : List TgM) : (resSh (stOf L cfg ts)).length ≤ ts.length ∧ (resTg (stOf L cfg ts)).length ≤ ts.length := by
  obtain ⟨h1, h2⟩ := st_len (L := L) (cfg := cfg) ts st0
  have h1 : (stOf L cfg ts).SW.length ≤ 0 + ts.length := h1
  have h2 : (stOf L cfg ts).ST.length ≤ 0 + ts.length := h2
  constructor
  · have := shOf_len (prsI (stOf L cfg ts).SW (stOf L cfg ts).wf)
    rw [prsI_len] at this
    unfold resSh
    omega
  · unfold resTg
    rw [tgOf_len]
    unfold prsT
    rw [List.length_map, List.length_mergeSort]
    omega

set_option maxRecDepth 100000 in
set_option maxHeartbeats 16000000 in
theorem resolves_law (A0 : Option Addr) (c0 : Nat) (l0 : List PB.StepM) (a1 : Int) (A2 : Option Addr) (c2 : Nat) (l2 : List Int) (a3 : Int) (w : World) (ht : ∀ w', Below w.heap.size w w' → PB.Pow10 w') (hr0 : PB.StepsAt w A0 l0) (_hc0 : l0.length ≤ c0) (hr2 : Kd.C (Kd.int .i64) w A2 l2.length l2) (_hc2 : l2.length ≤ c2) :
    Calls Tryz.prog 3 #[.slice A0 l0.length c0, .int .i64 a1, .slice A2 l2.length c2, .int .i64 a3] w fun e w' => e = .returned (.bool true) ∧ Below w.heap.size w w' := by
  have HT := Lib.hid ht
  have HR0 := Lib.hid hr0
  have HR2 := Lib.hid hr2
  clear ht hr0 hr2 _hc0 _hc2
  go_enter Tryz.func3, Tryz.ntmps3
  go_wp2_with fail
  with_reducible refine (known13 _).mono ?_
  rintro e w1 ⟨rfl, hb1⟩
  have B1 := Lib.hid hb1
  have HBK := Lib.hid (books_calls A0 c0 l0 w1 (fun w' h => HT.out w' (stepB hb1 h)) (HR0.out.below hb1))
  clear hb1
  go_wp2_with fail
  with_reducible refine HBK.out.mono ?_
  rintro e w2 ⟨p, b1, b2, q, L, rfl, hB, hD, hL, hN, hb2⟩
  have B2 := Lib.hid (stepB B1.out hb2)
  have HB2 := Lib.hid hB
  have HD2 := Lib.hid hD
  have HL := Lib.hid hL
  have HN := Lib.hid hN
  have HRT := Lib.hid (route_calls a1 A2 c2 l2 a3 w2 (Kd.C_below HR2.out B2.out))
  clear hB hD hL hN hb2 HBK B1
  go_wp2_with fail
  with_reducible refine HRT.out.mono ?_
  rintro e w3 ⟨nm, cfg, rl, T, c, ts, k, rfl, hT, hts, hlen, hk, hb3⟩
  have B3 := Lib.hid (stepB B2.out hb3)
  have HB3 := Lib.hid (HB2.out.below hb3)
  have HD3 := Lib.hid (HD2.out.below hb3)
  have HTS := Lib.hid hts
  have HOK := Lib.hid (tg_ok (hk ▸ hts))
  have HTT := Lib.hid hT
  have HLEN := Lib.hid hlen
  clear hT hts hk hb3 HB2 HD2 B2 HRT hlen
  obtain ⟨gr, hgr⟩ : ∃ gr, gr = w3.heap.size := ⟨_, rfl⟩
  obtain ⟨W4, hW4⟩ : ∃ W4, W4 = w3.alloc (.cells #[.string nm, .string cfg, .slice T ts.length c, .int .i64 rl] 31) := ⟨_, rfl⟩
  have b4 : Below w3.heap.size w3 W4 := by rw [hW4]; exact (Below.refl _ _).alloc (Nat.le_refl _) _
  have k4 : Blk W4 gr #[.string nm, .string cfg, .slice T ts.length c, .int .i64 rl] 31 := by rw [hW4, hgr]; exact Blk.new _ _ _
  have HB4 := Lib.hid (HB3.out.below b4)
  have HD4 := Lib.hid (HD3.out.below b4)
  have B4 := Lib.hid (stepB B3.out b4)
  have KR4 := Lib.hid k4
  have HT4 := Lib.hid (HTT.out.below b4)
  have HRS := Lib.hid (resolve_calls HB4.out HL.out nm cfg rl T c ts HT4.out HOK.out (by have := HLEN.out; omega))
  go_upto_region 7 with fail
  rw [← hW4, ← hgr]
  clear hW4 hgr b4 k4 HB3 HD3 B3 HTT
  have r0 := KR4.out.cell 0
  have r1 := KR4.out.cell 1
  have r2 := KR4.out.cell 2
  have r3 := KR4.out.cell 3
  simp only [List.getElem?_toArray, List.getElem?_cons_zero, List.getElem?_cons_succ] at r0 r1 r2 r3
  go_wp2_with fail
  with_reducible refine HRS.out.mono ?_
  rintro e w5 ⟨hb5, hm⟩
  have HD5 := Lib.hid (HD4.out.below hb5)
  have B5 := Lib.hid (stepB B4.out hb5)
  have KR5 := Lib.hid (KR4.out.below hb5 KR4.out.lt)
  have HT5 := Lib.hid (HT4.out.below hb5)
  clear hb5 HRS HB4 HD4 B4 KR4 HT4 r0 r1 r2 r3
  cases hfe : firstErr L cfg ts with
  | some x =>
    rw [hfe] at hm
    have hx := firstErr_ne hfe
    have HFE := Lib.hid hfe
    have hxb : (x != 0) = true := by simp [hx]
    obtain rfl := hm
    clear hfe hx
    obtain ⟨gt, hgt⟩ : ∃ gt, gt = w5.heap.size := ⟨_, rfl⟩
    obtain ⟨W6, hW6⟩ : ∃ W6, W6 = w5.alloc (.cells #[.slice none 0 0, .slice none 0 0] 36) := ⟨_, rfl⟩
    have b6 : Below w5.heap.size w5 W6 := by rw [hW6]; exact (Below.refl _ _).alloc (Nat.le_refl _) _
    have KT6 := Lib.hid (show Blk W6 gt #[.slice none 0 0, .slice none 0 0] 36 from by rw [hW6, hgt]; exact Blk.new _ _ _)
    have HD6 := Lib.hid (HD5.out.below b6)
    have B6 := Lib.hid (stepB B5.out b6)
    have KR6 := Lib.hid (KR5.out.below b6 KR5.out.lt)
    have HRS := Lib.hid (dresolve_calls HD6.out HL.out nm cfg rl T c ts (HT5.out.below b6) HOK.out (by have := HLEN.out; omega))
    go_upto_region 8 with fail
    rw [← hW6, ← hgt]
    clear hW6 hgt b6 HD5 B5 KR5 HT5
    have r0 := KR6.out.cell 0
    have r1 := KR6.out.cell 1
    have r2 := KR6.out.cell 2
    have r3 := KR6.out.cell 3
    simp only [List.getElem?_toArray, List.getElem?_cons_zero, List.getElem?_cons_succ] at r0 r1 r2 r3
    go_wp2_with fail
    with_reducible refine HRS.out.mono ?_
    rintro e w7 ⟨hb7, hm⟩
    rw [HFE.out] at hm
    obtain rfl := hm
    have KT7 := Lib.hid (KT6.out.below hb7 KT6.out.lt)
    have B7 := Lib.hid (stepB B6.out hb7)
    clear hb7 HRS KT6 B6 r0 r1 r2 r3 HD6 KR6
    obtain ⟨gu, hgu⟩ : ∃ gu, gu = w7.heap.size := ⟨_, rfl⟩
    obtain ⟨W8, hW8⟩ : ∃ W8, W8 = w7.alloc (.cells #[.slice none 0 0, .slice none 0 0] 36) := ⟨_, rfl⟩
    have b8 : Below w7.heap.size w7 W8 := by rw [hW8]; exact (Below.refl _ _).alloc (Nat.le_refl _) _
    have KU8 := Lib.hid (show Blk W8 gu #[.slice none 0 0, .slice none 0 0] 36 from by rw [hW8, hgu]; exact Blk.new _ _ _)
    have KT8 := Lib.hid (KT7.out.below b8 KT7.out.lt)
    have B8 := Lib.hid (stepB B7.out b8)
    have HSM : Hid (Calls Tryz.prog 9 #[.agg #[.slice none 0 0, .slice none 0 0], .agg #[.slice none 0 0, .slice none 0 0]] W8 (fun e w' => e = .returned (.bool true) ∧ Below W8.heap.size W8 w')) := Lib.hid (sameS (A := none) (c := 0) (sh := []) (B := none) (d := 0) (tg := []) (A' := none) (c' := 0) (sh' := []) (B' := none) (d' := 0) (tg' := []) W8 (Kd.C_nil _ _) (Nat.le_refl _) (Kd.C_nil _ _) (Nat.le_refl _) (Kd.C_nil _ _) (Nat.le_refl _) (Kd.C_nil _ _) (Nat.le_refl _) (Nat.zero_le _) (Nat.zero_le _) rfl rfl)
    go_upto_region 9 with fail
    rw [← hW8, ← hgu]
    clear hW8 hgu b8 KT7 B7
    have q0 := KT8.out.cell 0
    have q1 := KT8.out.cell 1
    have q2 := KU8.out.cell 0
    have q3 := KU8.out.cell 1
    simp only [List.getElem?_toArray, List.getElem?_cons_zero, List.getElem?_cons_succ] at q0 q1 q2 q3
    go_wp2_with fail
    with_reducible refine HSM.out.mono ?_
    rintro e wz ⟨rfl, hbz⟩
    have BZ := Lib.hid (stepB B8.out hbz)
    clear hbz
    go_wp2_with fail
    go_ret
    exact ⟨rfl, BZ.out⟩
  | none =>
    rw [hfe] at hm
    have HFE := Lib.hid hfe
    obtain ⟨A, ca, B, cb, rfl, hA, hca, hBt, hcb⟩ := hm
    obtain ⟨hl1, hl2⟩ := res_len (L := L) (cfg := cfg) ts
    have hl6 := HLEN.out
    have hs1 := sound_ok HN.out HTS.out hfe
    have hs2 := tags_fine HN.out HTS.out HLEN.out hfe
    have e1 := sh_same (L := L) (cfg := cfg) ts
    have e2 := tg_same (L := L) (cfg := cfg) (uniq_ok HTS.out HLEN.out)
    clear hfe
    obtain ⟨sh, hsh⟩ : ∃ sh, sh = resSh (stOf L cfg ts) := ⟨_, rfl⟩
    obtain ⟨tg, htg⟩ : ∃ tg, tg = resTg (stOf L cfg ts) := ⟨_, rfl⟩
    have hs3 : ∀ i (h : i + 1 < tg.length), Op.bytesLess tg[i].f0.toList tg[i + 1].f0.toList = true := by subst htg; exact tags_rise
    rw [← hsh] at hA hca hs1 e1 hl1
    rw [← htg] at hBt hcb hs2 e2 hl2
    have HRF := Lib.hid (And.intro hs1 (And.intro hs2 hs3))
    clear hs1 hs2 hs3
    rw [← hsh, ← htg]
    obtain ⟨ns, hns⟩ : ∃ n, n = sh.length := ⟨_, rfl⟩
    obtain ⟨nt, hnt⟩ : ∃ n, n = tg.length := ⟨_, rfl⟩
    have HNS := Lib.hid hns
    have HNT := Lib.hid hnt
    have HE1 := Lib.hid e1
    have HE2 := Lib.hid e2
    have HTL := Lib.hid (show tg.length ≤ 100 from by omega)
    have HLS := Lib.hid (show sh.length ≤ 100000 ∧ tg.length ≤ 100000 from by omega)
    have HA := Lib.hid hA
    have HBt := Lib.hid hBt
    have HCA := Lib.hid hca
    have HCB := Lib.hid hcb
    rw [← hns, ← hnt]
    clear hsh htg hns hnt e1 e2 hA hBt hca hcb hl1 hl2 hl6
    obtain ⟨gt, hgt⟩ : ∃ gt, gt = w5.heap.size := ⟨_, rfl⟩
    obtain ⟨W6, hW6⟩ : ∃ W6, W6 = w5.alloc (.cells #[.slice A ns ca, .slice B nt cb] 36) := ⟨_, rfl⟩
    have b6 : Below w5.heap.size w5 W6 := by rw [hW6]; exact (Below.refl _ _).alloc (Nat.le_refl _) _
    have KT6 := Lib.hid (show Blk W6 gt #[.slice A ns ca, .slice B nt cb] 36 from by rw [hW6, hgt]; exact Blk.new _ _ _)
    have HD6 := Lib.hid (HD5.out.below b6)
    have B6 := Lib.hid (stepB B5.out b6)
    have HA6 := Lib.hid (Kd.C_below HA.out b6)
    have HB6 := Lib.hid (Kd.C_below HBt.out b6)
    have KR6 := Lib.hid (KR5.out.below b6 KR5.out.lt)
    have HRS := Lib.hid (dresolve_calls HD6.out HL.out nm cfg rl T c ts (HT5.out.below b6) HOK.out (by have := HLEN.out; omega))
    go_upto_region 8 with fail
    rw [← hW6, ← hgt]
    clear hW6 hgt b6 HD5 B5 KR5 HT5 HA HBt
    have r0 := KR6.out.cell 0
    have r1 := KR6.out.cell 1
    have r2 := KR6.out.cell 2
    have r3 := KR6.out.cell 3
    simp only [List.getElem?_toArray, List.getElem?_cons_zero, List.getElem?_cons_succ] at r0 r1 r2 r3
    go_wp2_with fail
    with_reducible refine HRS.out.mono ?_
    rintro e w7 ⟨hb7, hm⟩
    rw [HFE.out] at hm
    obtain ⟨A', ca', B', cb', rfl, hA', hca', hB', hcb'⟩ := hm
    rw [HE1.out] at hA' hca' ⊢
    rw [HE2.out] at hB' hcb' ⊢
    rw [← HNS.out, ← HNT.out]
    have KT7 := Lib.hid (KT6.out.below hb7 KT6.out.lt)
    have B7 := Lib.hid (stepB B6.out hb7)
    have HA7 := Lib.hid (Kd.C_below HA6.out hb7)
    have HB7 := Lib.hid (Kd.C_below HB6.out hb7)
    clear hb7 HRS KT6 B6 r0 r1 r2 r3 HD6 KR6 HA6 HB6
    obtain ⟨gu, hgu⟩ : ∃ gu, gu = w7.heap.size := ⟨_, rfl⟩
    obtain ⟨W8, hW8⟩ : ∃ W8, W8 = w7.alloc (.cells #[.slice A' ns ca', .slice B' nt cb'] 36) := ⟨_, rfl⟩
    have b8 : Below w7.heap.size w7 W8 := by rw [hW8]; exact (Below.refl _ _).alloc (Nat.le_refl _) _
    have KU8 := Lib.hid (show Blk W8 gu #[.slice A' ns ca', .slice B' nt cb'] 36 from by rw [hW8, hgu]; exact Blk.new _ _ _)
    have KT8 := Lib.hid (KT7.out.below b8 KT7.out.lt)
    have B8 := Lib.hid (stepB B7.out b8)
    have HA8 := Lib.hid (Kd.C_below HA7.out b8)
    have HB8 := Lib.hid (Kd.C_below HB7.out b8)
    have hsm := sameS (d' := cb') W8 HA8.out HCA.out HB8.out HCB.out (Kd.C_below hA' b8) hca' (Kd.C_below hB' b8) hcb' HLS.out.1 HLS.out.2 rfl rfl
    rw [← HNS.out, ← HNT.out] at hsm
    have HSM := Lib.hid hsm
    clear hsm hA' hca' hB' hcb'
    go_upto_region 9 with fail
    rw [← hW8, ← hgu]
    clear hW8 hgu b8 KT7 B7 HA7 HB7
    have q0 := KT8.out.cell 0
    have q1 := KT8.out.cell 1
    have q2 := KU8.out.cell 0
    have q3 := KU8.out.cell 1
    simp only [List.getElem?_toArray, List.getElem?_cons_zero, List.getElem?_cons_succ] at q0 q1 q2 q3
    go_wp2_with fail
    with_reducible refine HSM.out.mono ?_
    rintro e wy ⟨rfl, hby⟩
    have KT9 := Lib.hid (KT8.out.below hby KT8.out.lt)
    have B9 := Lib.hid (stepB B8.out hby)
    have hrr := right_calls (d := cb) wy (Kd.C_below HA8.out hby) HCA.out (Kd.C_below HB8.out hby) HRF.out.1 HRF.out.2.1 HRF.out.2.2 HTL.out
    rw [← HNS.out, ← HNT.out] at hrr
    have HRR := Lib.hid hrr
    clear hrr hby q0 q1 q2 q3 KT8 KU8 B8 HA8 HB8 HSM
    have q0 := KT9.out.cell 0
    have q1 := KT9.out.cell 1
    simp only [List.getElem?_toArray, List.getElem?_cons_zero, List.getElem?_cons_succ] at q0 q1
    go_wp2_with fail
    with_reducible refine HRR.out.mono ?_
    rintro e wz ⟨rfl, hbz⟩
    have BZ := Lib.hid (stepB B9.out hbz)
    clear hbz
    go_wp2_with fail
    go_ret
    exact ⟨rfl, BZ.out⟩

end Go.Proofs.YtnkmpkhiilnigaaGreatDoor.PR
