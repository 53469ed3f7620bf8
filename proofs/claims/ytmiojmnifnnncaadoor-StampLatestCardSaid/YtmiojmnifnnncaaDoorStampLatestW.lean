/- StampLatest: the walk. (Printed by stamplaws.py and genx.py.) -/
import Derived.Test.YtmiojmnifnnncaaDoorSPlain
set_option linter.unusedSimpArgs false
set_option linter.unusedVariables false
namespace Go.Proofs.YtmiojmnifnnncaaDoor.PA
open Go.RowKit Go.Shelf Go.Lib Go.Sort Go.Maps Go.Proofs.YtmiojmnifnnncaaDoorW.PrintWords Go.Proofs.YtmiojmnifnnncaaDoorW.PrintLast

abbrev nmWeb : ByteArray := ⟨#[119, 101, 98]⟩
theorem nmWeb_valid : ValidN nmWeb := ⟨by decide, by decide, by decide, by decide, by decide⟩
abbrev cWeb : CfgM := ⟨nmWeb, 0, 1, 0, 1, 0⟩
theorem cWeb_nm : cWeb.nm = nmWeb := rfl
theorem cWeb_enc : encC cWeb = .agg #[.string nmWeb, .int .i64 0, .int .i64 1, .int .i64 0, .int .i64 1, .int .i64 0] := rfl
open Go.Proofs.YtmiojmnifnnncaaDoorW.PrintMore
attribute [local go_sem] max2_int max_two

set_option maxRecDepth 100000 in
set_option maxHeartbeats 8000000 in
theorem latest_law (A0 : Option Addr) (c0 : Nat) (l0 : List Int) (A1 : Option Addr) (c1 : Nat) (l1 : List Int) (w : World) (ht : ∀ w', Below w.heap.size w w' → Pow10 w') (hr0 : Kd.C (Kd.int .i64) w A0 l0.length l0) (hc0 : l0.length ≤ c0) (hr1 : Kd.C (Kd.int .i64) w A1 l1.length l1) (hc1 : l1.length ≤ c1) :
    Calls Tryd.prog 3 #[.slice A0 l0.length c0, .slice A1 l1.length c1] w fun e w' => e = .returned (.bool true) ∧ Below w.heap.size w w' := by
  have HT := Lib.hid ht
  have HR0 := Lib.hid hr0
  have HR1 := Lib.hid hr1
  clear hr0 hr1
  clear ht
  go_enter Tryd.func3, Tryd.ntmps3
  go_wp2_with fail
  refine (known12 w HT.out).mono ?_
  rintro e w1 ⟨rfl, hb1⟩
  go_wp2_with fail
  refine (new_calls w1).mono ?_
  rintro e w2 ⟨p, b1, b2, rfl, hB, ⟨hp, h1, h2⟩, hb2⟩
  have z1 := hb1.size
  have hp : w.heap.size ≤ p := by omega
  have h1 : w.heap.size ≤ b1 := by omega
  have h2 : w.heap.size ≤ b2 := by omega
  have HB2 := Lib.hid hB
  have B2 := Lib.hid (below_step hb1 hb2)
  clear hB hb1 hb2 z1
  obtain ⟨W3, hW3⟩ : ∃ W3, W3 = w2.alloc (.cells #[.string nmWeb, .int .i64 0, .int .i64 1, .int .i64 0, .int .i64 1, .int .i64 0] 27) := ⟨_, rfl⟩
  have bW3 : Below w2.heap.size w2 W3 := by rw [hW3]; exact (Below.refl _ _).alloc (Nat.le_refl _) _
  have kc : Blk W3 w2.heap.size #[.string nmWeb, .int .i64 0, .int .i64 1, .int .i64 0, .int .i64 1, .int .i64 0] 27 := by rw [hW3]; exact Blk.new _ _ _
  obtain ⟨gc, hgc⟩ : ∃ gc, gc = w2.heap.size := ⟨_, rfl⟩
  rw [← hgc] at kc
  have HB3 := Lib.hid (HB2.out.below bW3)
  have B3 := Lib.hid (below_step B2.out bW3)
  have hbl := HB2.out.lt
  have hg1 : gc ≠ b1 := by omega
  have hg2 : gc ≠ b2 := by omega
  have KC3 := Lib.hid kc
  clear kc bW3 HB2 B2 hbl
  go_upto_region 7 with fail
  rw [← hW3, ← hgc]
  clear hW3 hgc
  go_wp2_with fail
  go_loopw [7, 8, 9] (fun v7 v8 v9 wr => ∃ (i : Nat) (L : List RevM) (m r : Int), i ≤ l0.length ∧ i ≤ 30 ∧ v7 = .int .i64 m ∧ v8 = .int .i64 r ∧ v9 = .int .i64 i ∧ 0 ≤ m ∧ m ≤ 120 ∧ 0 ≤ r ∧ r ≤ 120 ∧ Hid (BookAt wr p b1 b2 L) ∧ Hid (OkL L) ∧ Hid (AllOf cWeb L) ∧ Hid (Top (fun _ => true) L m) ∧ Hid (Top RevM.ok L r) ∧ L.length ≤ i ∧ Hid (Blk wr gc #[.string nmWeb, .int .i64 0, .int .i64 1, .int .i64 0, .int .i64 1, .int .i64 0] 27) ∧ Hid (Below w.heap.size w wr)) (fun _ _ v9 _ => l0.length - (vI v9).toNat)
  case atStart => exact ⟨0, [], 0, 0, by omega, by omega, rfl, rfl, rfl, by omega, by omega, by omega, by omega, HB3, Lib.hid OkL.nil, Lib.hid (AllOf.nil _), Lib.hid (Top.nil _), Lib.hid (Top.nil _), by simp, KC3, B3⟩
  case round =>
    clear HB3 KC3 B3
    obtain ⟨i, L, m, r, hi, hi30, rfl, rfl, rfl, hm0, hm1, hr0, hr1, HB, HL, HA, TM, TR, hLi, KC, BB⟩ := hrel
    by_cases hlt : i < l0.length
    · by_cases h30 : i < 30
      · have hlt' : (i : Int) < (l0.length : Int) := by omega
        obtain ⟨ad, rfl, hce⟩ := Kd.at_int (Kd.C_below HR0.out BB.out) (i : Int) (by omega) hlt'
        rw [Int.toNat_natCast] at hce
        generalize rd l0 i = nx at hce
        go_wp2_with fail
        have hwi := Lib.hid (within12 nx 120 (by omega) (by omega))
        have q0 := Int.emod_nonneg nx (b := 120) (by omega)
        have q1 := Int.emod_lt_of_pos nx (b := 120) (by omega)
        refine (damperlaw12_within.calls nx 120 (nx % 120) _ hwi.out).mono ?_
        rintro e w4 ⟨rfl, hdr_⟩
        have hd_ := hdr_.below
        clear hdr_
        clear hwi
        have HB4 := Lib.hid (HB.out.below hd_)
        have KC4 := Lib.hid (KC.out.below hd_ KC.out.lt)
        have B4 := Lib.hid (below_step BB.out hd_)
        generalize nx % 120 = q at q0 q1 ⊢
        obtain ⟨g, hg⟩ : ∃ g, g = 1 + q := ⟨_, rfl⟩
        have hg0 : 1 ≤ g := by omega
        have hg1' : g ≤ 120 := by omega
        have HG := Lib.hid hg
        have kcc := KC4.out
        have c0 := kcc.cell 0
        have c1 := kcc.cell 1
        have c2 := kcc.cell 2
        have c3 := kcc.cell 3
        have c4 := kcc.cell 4
        have c5 := kcc.cell 5
        simp only [List.getElem?_toArray, List.getElem?_cons_zero, List.getElem?_cons_succ] at c0 c1 c2 c3 c4 c5
        clear hg hce hd_ HB KC BB kcc
        go_upto_region 12 with fail
        rw [← HG.out]
        clear HG q0 q1
        go_wp2_with fail
        with_reducible refine (stamp_callsE HB4.out HL.out cWeb nmWeb_valid g hg0 (by omega) (fun w' hb => HT.out w' (below_step B4.out hb)) cWeb_enc (nm := nmWeb) cWeb_nm).mono ?_
        rintro e w5 ⟨rfl, hB5, hc5⟩
        have HB5 := Lib.hid hB5
        have HL5 := Lib.hid (HL.out.stamp (c := cWeb) nmWeb_valid (g := g) (by omega) (by omega) (by omega))
        have HA5 := Lib.hid (HA.out.stamp g)
        have TM5 := Lib.hid (Top.all_stamp HL.out HA.out TM.out hg0)
        have TR5 := Lib.hid (Top.ok_stamp (c := cWeb) (g := g) TR.out)
        have hth := Lib.hid (stamp_there L cWeb HA.out hg0 HL.out)
        have KC5 := Lib.hid (KC4.out.chg hc5 (fun h => h.elim hg1 hg2))
        have B5 := Lib.hid (hc5.below_of B4.out B4.out.size (fun k hk e => by omega))
        have hL5i := stampL_len L cWeb g
        have hL5i' : (stampL L cWeb g).length ≤ i + 1 := by omega
        clear hL5i hB5 hc5 HB4 B4 KC4 c0 c1 c2 c3 c4 c5 HL HA TM TR
        generalize stampL L cWeb g = L5 at HB5 HL5 HA5 TM5 TR5 hth hL5i'
        obtain ⟨m', hm'⟩ : ∃ m', m' = (if m < g then g else m) := ⟨_, rfl⟩
        have hmx : max m g = m' := by rw [hm']; split <;> omega
        have hm1' : 1 ≤ m' := by omega
        have hm2' : m' ≤ 120 := by omega
        rw [hmx] at TM5
        have HM := Lib.hid hm'
        clear hm' hmx
        by_cases hp1 : i < l1.length
        · have hp1' : (i : Int) < (l1.length : Int) := by omega
          obtain ⟨ad1, rfl, hce1⟩ := Kd.at_int (Kd.C_below HR1.out B5.out) (i : Int) (by omega) hp1'
          rw [Int.toNat_natCast] at hce1
          generalize rd l1 i = ny at hce1
          have hwy := Lib.hid (within12 ny 2 (by omega) (by omega))
          go_upto_region 14 with fail
          rw [← HM.out]
          by_cases hq : ny % 2 = 0
          · have hq' : (ny % 2 == 0) = true := by simp [hq]
            go_wp2_with (go_at_call 13; (with_reducible refine (damperlaw12_within.calls ny 2 (ny % 2) _ hwy.out).mono ?_); rintro e w6 ⟨rfl, hdr⟩; have hd6 := Lib.hid hdr.below; clear hdr)
            have HB6 := Lib.hid (HB5.out.below hd6.out)
            have KC6 := Lib.hid (KC5.out.below hd6.out KC5.out.lt)
            have B6 := Lib.hid (below_step B5.out hd6.out)
            with_reducible refine (rrev_calls nmWeb nmWeb_valid g (by omega) (by omega) _).mono ?_
            rintro e w7 ⟨rfl, hb7⟩
            have HB7 := Lib.hid (HB6.out.below hb7)
            have KC7 := Lib.hid (KC6.out.below hb7 KC6.out.lt)
            have B7 := Lib.hid (below_step B6.out hb7)
            clear hb7 hd6 HB6 KC6 B6 hce1
            obtain ⟨s, hs, hsg⟩ := hth.out
            have hsz := revN_size nmWeb (by decide) g (by omega) (by omega)
            have hpc := prove_calls HB7.out HL5.out (revN nmWeb g) (by omega)
            rw [find_gen HA5.out HL5.out hg0 hs hsg] at hpc
            have HPC := Lib.hid hpc
            clear hpc
            go_wp2_with fail
            with_reducible refine HPC.out.mono ?_
            rintro e w8 ⟨rfl, hB8, hc8⟩
            have HB8 := Lib.hid hB8
            have HL8 := Lib.hid (HL5.out.prove (revN nmWeb g).data.toList)
            have HA8 := Lib.hid (HA5.out.prove (revN nmWeb g).data.toList)
            have TM8 := Lib.hid (Top.all_prove (x := (revN nmWeb g).data.toList) TM5.out)
            have TR8 := Lib.hid (Top.ok_prove HL5.out HA5.out TR5.out hg0 hs hsg)
            have KC8 := Lib.hid (KC7.out.chg hc8 (fun h => h.elim hg1 hg2))
            have B8 := Lib.hid (hc8.below_of B7.out B7.out.size (fun k hk e => by omega))
            have hL8 : (proveL L5 (revN nmWeb g).data.toList).length ≤ i + 1 := by unfold proveL; rw [List.length_map]; exact hL5i'
            rw [show (revN cWeb.nm g) = revN nmWeb g from rfl] at TR8
            generalize proveL L5 (revN nmWeb g).data.toList = L8 at HB8 HL8 HA8 TM8 TR8 hL8
            obtain ⟨r8, hr8⟩ : ∃ r8, r8 = (if r < g then g else r) := ⟨_, rfl⟩
            have hrx : max r g = r8 := by rw [hr8]; split <;> omega
            have hr80 : 0 ≤ r8 := by omega
            have hr81 : r8 ≤ 120 := by omega
            rw [hrx] at TR8
            have HR8 := Lib.hid hr8
            clear hrx hB8 hc8 hr8 HPC HB7 KC7 B7 hs hsg hsz HB5 HL5 HA5 TM5 TR5 hth KC5 B5
            go_upto_region 18 with fail
            rw [← HR8.out]
            clear HR8
            go_wp2_with fail
            with_reducible refine (both_calls HB8.out HL8.out nmWeb).mono ?_
            rintro e wl ⟨rfl, hbl⟩
            have hl1 := top_latest (nm := nmWeb) (fun r hr => by rw [HA8.out r hr]) HL8.out (B := fun _ => true) (p := fun _ => true) (fun _ _ => rfl) TM8.out
            have hl2 := top_latest (nm := nmWeb) (fun r hr => by rw [HA8.out r hr]) HL8.out (B := provedL L8) (p := RevM.ok) (fun r hr => provedL_mem HL8.out hr) TR8.out
            rw [nameOf_pos hm1'] at hl1
            rw [hl1, hl2]
            have HBl := Lib.hid (HB8.out.below hbl)
            have KCl := Lib.hid (KC8.out.below hbl KC8.out.lt)
            have Bl := Lib.hid (below_step B8.out hbl)
            clear hbl hl1 hl2 HB8 B8 KC8
            by_cases hz : r8 = 0
            · have hnm : nameOf nmWeb r8 = ⟨#[]⟩ := by unfold nameOf; rw [if_pos hz]
              have hq1 : (r8 == 0) = true := by simp [hz]
              have hq2 : decide (0 < r8) = false := decide_eq_false (by omega)
              rw [hnm]
              clear hnm
              go_wp2_with (go_at_call 16; (with_reducible refine (rrev_calls nmWeb nmWeb_valid m' (by omega) (by omega) _).mono ?_); rintro e u1 ⟨rfl, hu1⟩; have HBu := Lib.hid (HBl.out.below hu1); have KCu := Lib.hid (KCl.out.below hu1 KCl.out.lt); have Bu := Lib.hid (below_step Bl.out hu1); clear hu1)
              go_roundw
              case rel => exact ⟨i + 1, L8, m', r8, by omega, by omega, rfl, by rw [hz], by go_num, by omega, by omega, by omega, by omega, HBu, HL8, HA8, TM8, TR8, by omega, KCu, Bu⟩
              case measure => simp [vI]; omega
            · have hnm : nameOf nmWeb r8 = revN nmWeb r8 := nameOf_pos (by omega)
              have hq1 : (r8 == 0) = false := by simpa using hz
              have hq2 : decide (0 < r8) = true := decide_eq_true (by omega)
              rw [hnm]
              clear hnm
              go_wp2_with (first
                | (go_at_call 16; (with_reducible refine (rrev_calls nmWeb nmWeb_valid m' (by omega) (by omega) _).mono ?_); rintro e u1 ⟨rfl, hu1⟩; have HBu := Lib.hid (HBl.out.below hu1); have KCu := Lib.hid (KCl.out.below hu1 KCl.out.lt); have Bu := Lib.hid (below_step Bl.out hu1); clear hu1)
                | (go_at_call 16; (with_reducible refine (rrev_calls nmWeb nmWeb_valid r8 (by omega) (by omega) _).mono ?_); rintro e u2 ⟨rfl, hu2⟩; have HBv := Lib.hid (HBu.out.below hu2); have KCv := Lib.hid (KCu.out.below hu2 KCu.out.lt); have Bv := Lib.hid (below_step Bu.out hu2); clear hu2))
              go_roundw
              case rel => exact ⟨i + 1, L8, m', r8, by omega, by omega, rfl, rfl, by go_num, by omega, by omega, by omega, by omega, HBv, HL8, HA8, TM8, TR8, by omega, KCv, Bv⟩
              case measure => simp [vI]; omega
          · have hq' : (ny % 2 == 0) = false := by simpa using hq
            go_wp2_with (go_at_call 13; (with_reducible refine (damperlaw12_within.calls ny 2 (ny % 2) _ hwy.out).mono ?_); rintro e w6 ⟨rfl, hdr⟩; have hd6 := Lib.hid hdr.below; clear hdr)
            have HB6 := Lib.hid (HB5.out.below hd6.out)
            have KC6 := Lib.hid (KC5.out.below hd6.out KC5.out.lt)
            have B6 := Lib.hid (below_step B5.out hd6.out)
            clear hd6 hce1 HB5 KC5 B5 hth
            with_reducible refine (both_calls HB6.out HL5.out nmWeb).mono ?_
            rintro e wl ⟨rfl, hbl⟩
            have hl1 := top_latest (nm := nmWeb) (fun r hr => by rw [HA5.out r hr]) HL5.out (B := fun _ => true) (p := fun _ => true) (fun _ _ => rfl) TM5.out
            have hl2 := top_latest (nm := nmWeb) (fun r hr => by rw [HA5.out r hr]) HL5.out (B := provedL L5) (p := RevM.ok) (fun r hr => provedL_mem HL5.out hr) TR5.out
            rw [nameOf_pos hm1'] at hl1
            rw [hl1, hl2]
            have HBl := Lib.hid (HB6.out.below hbl)
            have KCl := Lib.hid (KC6.out.below hbl KC6.out.lt)
            have Bl := Lib.hid (below_step B6.out hbl)
            clear hbl hl1 hl2 HB6 B6 KC6
            by_cases hz : r = 0
            · have hnm : nameOf nmWeb r = ⟨#[]⟩ := by unfold nameOf; rw [if_pos hz]
              have hq1 : (r == 0) = true := by simp [hz]
              have hq2 : decide (0 < r) = false := decide_eq_false (by omega)
              rw [hnm]
              clear hnm
              go_wp2_with (go_at_call 16; (with_reducible refine (rrev_calls nmWeb nmWeb_valid m' (by omega) (by omega) _).mono ?_); rintro e u1 ⟨rfl, hu1⟩; have HBu := Lib.hid (HBl.out.below hu1); have KCu := Lib.hid (KCl.out.below hu1 KCl.out.lt); have Bu := Lib.hid (below_step Bl.out hu1); clear hu1)
              go_roundw
              case rel => exact ⟨i + 1, L5, m', r, by omega, by omega, rfl, by rw [hz], by go_num, by omega, by omega, by omega, by omega, HBu, HL5, HA5, TM5, TR5, by omega, KCu, Bu⟩
              case measure => simp [vI]; omega
            · have hnm : nameOf nmWeb r = revN nmWeb r := nameOf_pos (by omega)
              have hq1 : (r == 0) = false := by simpa using hz
              have hq2 : decide (0 < r) = true := decide_eq_true (by omega)
              rw [hnm]
              clear hnm
              go_wp2_with (first
                | (go_at_call 16; (with_reducible refine (rrev_calls nmWeb nmWeb_valid m' (by omega) (by omega) _).mono ?_); rintro e u1 ⟨rfl, hu1⟩; have HBu := Lib.hid (HBl.out.below hu1); have KCu := Lib.hid (KCl.out.below hu1 KCl.out.lt); have Bu := Lib.hid (below_step Bl.out hu1); clear hu1)
                | (go_at_call 16; (with_reducible refine (rrev_calls nmWeb nmWeb_valid r (by omega) (by omega) _).mono ?_); rintro e u2 ⟨rfl, hu2⟩; have HBv := Lib.hid (HBu.out.below hu2); have KCv := Lib.hid (KCu.out.below hu2 KCu.out.lt); have Bv := Lib.hid (below_step Bu.out hu2); clear hu2))
              go_roundw
              case rel => exact ⟨i + 1, L5, m', r, by omega, by omega, rfl, rfl, by go_num, by omega, by omega, by omega, by omega, HBv, HL5, HA5, TM5, TR5, by omega, KCv, Bv⟩
              case measure => simp [vI]; omega
        · have hp1' : ¬ (i : Int) < (l1.length : Int) := by omega
          go_upto_region 14 with fail
          rw [← HM.out]
          go_wp2_with fail
          with_reducible refine (both_calls HB5.out HL5.out nmWeb).mono ?_
          rintro e wl ⟨rfl, hbl⟩
          have hl1 := top_latest (nm := nmWeb) (fun r hr => by rw [HA5.out r hr]) HL5.out (B := fun _ => true) (p := fun _ => true) (fun _ _ => rfl) TM5.out
          have hl2 := top_latest (nm := nmWeb) (fun r hr => by rw [HA5.out r hr]) HL5.out (B := provedL L5) (p := RevM.ok) (fun r hr => provedL_mem HL5.out hr) TR5.out
          rw [nameOf_pos hm1'] at hl1
          rw [hl1, hl2]
          have HBl := Lib.hid (HB5.out.below hbl)
          have KCl := Lib.hid (KC5.out.below hbl KC5.out.lt)
          have Bl := Lib.hid (below_step B5.out hbl)
          clear hbl hl1 hl2 HB5 B5 KC5
          by_cases hz : r = 0
          · have hnm : nameOf nmWeb r = ⟨#[]⟩ := by unfold nameOf; rw [if_pos hz]
            have hq1 : (r == 0) = true := by simp [hz]
            have hq2 : decide (0 < r) = false := decide_eq_false (by omega)
            rw [hnm]
            clear hnm
            go_wp2_with (go_at_call 16; (with_reducible refine (rrev_calls nmWeb nmWeb_valid m' (by omega) (by omega) _).mono ?_); rintro e u1 ⟨rfl, hu1⟩; have HBu := Lib.hid (HBl.out.below hu1); have KCu := Lib.hid (KCl.out.below hu1 KCl.out.lt); have Bu := Lib.hid (below_step Bl.out hu1); clear hu1)
            go_roundw
            case rel => exact ⟨i + 1, L5, m', r, by omega, by omega, rfl, by rw [hz], by go_num, by omega, by omega, by omega, by omega, HBu, HL5, HA5, TM5, TR5, by omega, KCu, Bu⟩
            case measure => simp [vI]; omega
          · have hnm : nameOf nmWeb r = revN nmWeb r := nameOf_pos (by omega)
            have hq1 : (r == 0) = false := by simpa using hz
            have hq2 : decide (0 < r) = true := decide_eq_true (by omega)
            rw [hnm]
            clear hnm
            go_wp2_with (first
              | (go_at_call 16; (with_reducible refine (rrev_calls nmWeb nmWeb_valid m' (by omega) (by omega) _).mono ?_); rintro e u1 ⟨rfl, hu1⟩; have HBu := Lib.hid (HBl.out.below hu1); have KCu := Lib.hid (KCl.out.below hu1 KCl.out.lt); have Bu := Lib.hid (below_step Bl.out hu1); clear hu1)
              | (go_at_call 16; (with_reducible refine (rrev_calls nmWeb nmWeb_valid r (by omega) (by omega) _).mono ?_); rintro e u2 ⟨rfl, hu2⟩; have HBv := Lib.hid (HBu.out.below hu2); have KCv := Lib.hid (KCu.out.below hu2 KCu.out.lt); have Bv := Lib.hid (below_step Bu.out hu2); clear hu2))
            go_roundw
            case rel => exact ⟨i + 1, L5, m', r, by omega, by omega, rfl, rfl, by go_num, by omega, by omega, by omega, by omega, HBv, HL5, HA5, TM5, TR5, by omega, KCv, Bv⟩
            case measure => simp [vI]; omega
      · obtain rfl : i = 30 := by omega
        go_wp2_with fail
        have hno : ∀ B, latestN L (⟨#[119, 101]⟩ : ByteArray) B = ⟨#[]⟩ := fun B => top_none (fun r hr => by
          rw [HA.out r hr]
          show nmWeb.toList ≠ _
          rw [ByteArray.toList_eq, ByteArray.toList_eq]
          decide) B
        have HNO := Lib.hid hno
        clear hno
        with_reducible refine (both_calls HB.out HL.out ⟨#[119, 101]⟩).mono ?_
        rintro e we ⟨rfl, hbe⟩
        rw [HNO.out, HNO.out]
        have BE := Lib.hid (below_step BB.out hbe)
        clear hbe
        go_wp2_with fail
        go_ret
        exact ⟨rfl, BE.out⟩
    · obtain rfl : i = l0.length := by omega
      go_wp2_with fail
      have hno : ∀ B, latestN L (⟨#[119, 101]⟩ : ByteArray) B = ⟨#[]⟩ := fun B => top_none (fun r hr => by
        rw [HA.out r hr]
        show nmWeb.toList ≠ _
        rw [ByteArray.toList_eq, ByteArray.toList_eq]
        decide) B
      have HNO := Lib.hid hno
      clear hno
      with_reducible refine (both_calls HB.out HL.out ⟨#[119, 101]⟩).mono ?_
      rintro e we ⟨rfl, hbe⟩
      rw [HNO.out, HNO.out]
      have BE := Lib.hid (below_step BB.out hbe)
      clear hbe
      go_wp2_with fail
      go_ret
      exact ⟨rfl, BE.out⟩

end Go.Proofs.YtmiojmnifnnncaaDoor.PA
