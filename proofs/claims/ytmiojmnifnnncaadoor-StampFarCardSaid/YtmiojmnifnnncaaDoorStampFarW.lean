/- StampFar: the walk. (Printed by stamplaws.py and genx.py.) -/
import Derived.Test.YtmiojmnifnnncaaDoorSPlain
set_option linter.unusedSimpArgs false
set_option linter.unusedVariables false
namespace Go.Proofs.YtmiojmnifnnncaaDoor.PA
open Go.RowKit Go.Shelf Go.Lib Go.Sort Go.Maps Go.Proofs.YtmiojmnifnnncaaDoorW.PrintWords Go.Proofs.YtmiojmnifnnncaaDoorW.PrintLast

abbrev nmW : ByteArray := ⟨#[119]⟩
theorem nmW_valid : ValidN nmW := ⟨by decide, by decide, by decide, by decide, by decide⟩
abbrev cW : CfgM := ⟨nmW, 0, 1, 0, 1, 0⟩
theorem cW_nm : cW.nm = nmW := rfl
theorem cW_enc : encC cW = .agg #[.string nmW, .int .i64 0, .int .i64 1, .int .i64 0, .int .i64 1, .int .i64 0] := rfl
open Go.Proofs.YtmiojmnifnnncaaDoorW.PrintMore
attribute [local go_sem] max2_int max_two
def l7 : List Int := [1, 999999, 999998, 9, 10, 99999, 100000]
theorem l7_at {q : Int} (h0 : 0 ≤ q) (h1 : q < 7) : 1 ≤ rd l7 q ∧ rd l7 q ≤ 999999 := by
  have : q = 0 ∨ q = 1 ∨ q = 2 ∨ q = 3 ∨ q = 4 ∨ q = 5 ∨ q = 6 := by omega
  rcases this with rfl | rfl | rfl | rfl | rfl | rfl | rfl <;> decide
theorem encR_of {c : CfgM} {L : List RevM} (h : AllOf c L) {r : RevM} (hr : r ∈ L) {g : Int} (hg : r.g = g) : encR r = .agg (cellsR (revN c.nm g) g c) := by
  unfold encR RevM.nm
  rw [h r hr, hg]

set_option maxRecDepth 100000 in
set_option maxHeartbeats 8000000 in
theorem far_law (A0 : Option Addr) (c0 : Nat) (l0 : List Int) (a1 : Int) (w : World) (ht : ∀ w', Below w.heap.size w w' → Pow10 w') (hr0 : Kd.C (Kd.int .i64) w A0 l0.length l0) (hc0 : l0.length ≤ c0) :
    Calls Tryd.prog 5 #[.slice A0 l0.length c0, .int .i64 a1] w fun e w' => e = .returned (.bool true) ∧ Below w.heap.size w w' := by
  have HT := Lib.hid ht
  have HR0 := Lib.hid hr0
  clear hr0
  clear ht
  go_enter Tryd.func5, Tryd.ntmps5
  go_wp2_with fail
  refine (known12 w HT.out).mono ?_
  rintro e w1 ⟨rfl, hb1⟩
  go_wp2_with fail
  refine (new_calls w1).mono ?_
  rintro e w2 ⟨p, b1, b2, rfl, hB, ⟨hp, h1, h2⟩, hb2⟩
  have z1 := hb1.size
  have hp : w.heap.size ≤ p := by omega
  have h1 : w.heap.size ≤ b1 := by omega
  have h2 : w.heap.size ≤ b2 := by omega
  have HB2 := Lib.hid hB
  have B2 := Lib.hid (below_step hb1 hb2)
  clear hB hb1 hb2 z1
  obtain ⟨W3, hW3⟩ : ∃ W3, W3 = w2.alloc (.cells #[.int .i64 1, .int .i64 999999, .int .i64 999998, .int .i64 9, .int .i64 10, .int .i64 99999, .int .i64 100000] 3) := ⟨_, rfl⟩
  have bW3 : Below w2.heap.size w2 W3 := by rw [hW3]; exact (Below.refl _ _).alloc (Nat.le_refl _) _
  have kc : Blk W3 w2.heap.size #[.int .i64 1, .int .i64 999999, .int .i64 999998, .int .i64 9, .int .i64 10, .int .i64 99999, .int .i64 100000] 3 := by rw [hW3]; exact Blk.new _ _ _
  obtain ⟨gc, hgc⟩ : ∃ gc, gc = w2.heap.size := ⟨_, rfl⟩
  rw [← hgc] at kc
  have HB3 := Lib.hid (HB2.out.below bW3)
  have B3 := Lib.hid (below_step B2.out bW3)
  have hbl := HB2.out.lt
  have hg1 : gc ≠ b1 := by omega
  have hg2 : gc ≠ b2 := by omega
  have KC3 := Lib.hid kc
  clear kc bW3 HB2 B2 hbl
  go_upto_region 7 with fail
  rw [← hW3, ← hgc]
  clear hW3 hgc
  go_wp2_with fail
  have hwi := Lib.hid (within12 a1 7 (by omega) (by omega))
  have k0 := Int.emod_nonneg a1 (b := 7) (by omega)
  have k1 := Int.emod_lt_of_pos a1 (b := 7) (by omega)
  refine (damperlaw12_within.calls a1 7 (a1 % 7) _ hwi.out).mono ?_
  rintro e w4 ⟨rfl, hdr_⟩
  have hd_ := hdr_.below
  clear hdr_
  clear hwi
  have HB4 := Lib.hid (HB3.out.below hd_)
  have KC4 := Lib.hid (KC3.out.below hd_ KC3.out.lt)
  have B4 := Lib.hid (below_step B3.out hd_)
  generalize a1 % 7 = k at k0 k1 ⊢
  clear hd_ HB3 KC3 B3
  go_wp2_with fail
  go_loopw [8, 9] (fun v8 v9 wr => ∃ (i : Nat) (L : List RevM) (m : Int), i ≤ l0.length ∧ i ≤ 10 ∧ v8 = .int .i64 m ∧ v9 = .int .i64 i ∧ 0 ≤ m ∧ m ≤ 999999 ∧ Hid (BookAt wr p b1 b2 L) ∧ Hid (OkL L) ∧ Hid (AllOf cW L) ∧ Hid (Top (fun _ => true) L m) ∧ Hid (Top RevM.ok L 0) ∧ L.length ≤ i ∧ Hid (Blk wr gc #[.int .i64 1, .int .i64 999999, .int .i64 999998, .int .i64 9, .int .i64 10, .int .i64 99999, .int .i64 100000] 3) ∧ Hid (Below w.heap.size w wr)) (fun _ v9 _ => l0.length - (vI v9).toNat)
  case atStart => exact ⟨0, [], 0, by omega, by omega, rfl, rfl, by omega, by omega, HB4, Lib.hid OkL.nil, Lib.hid (AllOf.nil _), Lib.hid (Top.nil _), Lib.hid (Top.nil _), by simp, KC4, B4⟩
  case round =>
    clear HB4 KC4 B4
    obtain ⟨i, L, m, hi, hi10, rfl, rfl, hm0, hm1, HB, HL, HA, TM, TR, hLi, KC, BB⟩ := hrel
    by_cases hlt : i < l0.length
    · by_cases h30 : i < 10
      · have hlt' : (i : Int) < (l0.length : Int) := by omega
        obtain ⟨ad, rfl, hce⟩ := Kd.at_int (Kd.C_below HR0.out BB.out) (i : Int) (by omega) hlt'
        rw [Int.toNat_natCast] at hce
        generalize rd l0 i = nx at hce
        obtain ⟨nk, hnk⟩ : ∃ nk, nk = wrap64 (nx + k) := ⟨_, rfl⟩
        have HNK := Lib.hid hnk
        clear hnk
        go_wp2_with fail
        rw [← HNK.out]
        clear HNK
        have hwi := Lib.hid (within12 nk 7 (by omega) (by omega))
        have q0 := Int.emod_nonneg nk (b := 7) (by omega)
        have q1 := Int.emod_lt_of_pos nk (b := 7) (by omega)
        refine (damperlaw12_within.calls nk 7 (nk % 7) _ hwi.out).mono ?_
        rintro e w5 ⟨rfl, hdr_⟩
        have hd_ := hdr_.below
        clear hdr_
        clear hwi
        have HB5 := Lib.hid (HB.out.below hd_)
        have KC5 := Lib.hid (KC.out.below hd_ KC.out.lt)
        have B5 := Lib.hid (below_step BB.out hd_)
        generalize nk % 7 = q at q0 q1 ⊢
        have hgv := l7_at q0 q1
        have hrow : Kd.C (Kd.int .i64) w5 (some ⟨gc, 0, none⟩) l7.length l7 := by
          refine ⟨rfl, by decide, fun _ => ⟨⟨gc, 0, none⟩, rfl, fun j z hj => ?_⟩⟩
          have hj7 : j < 7 := (List.getElem?_eq_some_iff.1 hj).1
          have hkk := KC5.out.cell j
          refine ⟨[.int .i64 z], rfl, rfl, fun i u hu => ?_⟩
          have hi0 : i = 0 := by
            have := (List.getElem?_eq_some_iff.1 hu).1
            simpa using this
          subst hi0
          show w5.cell? ((⟨gc, 0, none⟩ : Addr).add (j * 1 + 0)) = some u
          rw [show ((⟨gc, 0, none⟩ : Addr).add (j * 1 + 0)) = ⟨gc, j, none⟩ from by unfold Addr.add; split <;> simp_all, hkk]
          simp only [List.getElem?_cons_zero, Option.some.injEq] at hu
          subst hu
          match j, hj7, hj with
          | 0, _, hj => cases hj; rfl
          | 1, _, hj => cases hj; rfl
          | 2, _, hj => cases hj; rfl
          | 3, _, hj => cases hj; rfl
          | 4, _, hj => cases hj; rfl
          | 5, _, hj => cases hj; rfl
          | 6, _, hj => cases hj; rfl
        obtain ⟨adl, hea, hcl⟩ := Kd.at_int hrow q (by omega) (by show q < 7; exact q1)
        cases hea
        rw [add_at, Nat.zero_add] at hcl
        obtain ⟨g, hg⟩ : ∃ g, g = rd l7 q := ⟨_, rfl⟩
        rw [← hg] at hgv hcl
        have hg0 : 1 ≤ g := hgv.1
        have hg9 : g ≤ 999999 := hgv.2
        clear hg hgv hrow hce hd_ HB KC BB
        go_wp2_with fail
        with_reducible refine (stamp_callsE HB5.out HL.out cW nmW_valid g hg0 (by omega) (fun w' hb => HT.out w' (below_step B5.out hb)) cW_enc (nm := nmW) cW_nm).mono ?_
        rintro e w6 ⟨rfl, hB6, hc6⟩
        have HB6 := Lib.hid hB6
        have HL6 := Lib.hid (HL.out.stamp (c := cW) nmW_valid (g := g) (by omega) (by omega) (by omega))
        have HA6 := Lib.hid (HA.out.stamp g)
        have TM6 := Lib.hid (Top.all_stamp HL.out HA.out TM.out hg0)
        have TR6 := Lib.hid (Top.ok_stamp (c := cW) (g := g) TR.out)
        have hth := Lib.hid (stamp_there L cW HA.out hg0 HL.out)
        have KC6 := Lib.hid (KC5.out.chg hc6 (fun h => h.elim hg1 hg2))
        have B6 := Lib.hid (hc6.below_of B5.out B5.out.size (fun k hk e => by omega))
        have hL6i := stampL_len L cW g
        have hL6i' : (stampL L cW g).length ≤ i + 1 := by omega
        clear hL6i hB6 hc6 HB5 B5 KC5 HL HA TM TR hcl
        generalize stampL L cW g = L6 at HB6 HL6 HA6 TM6 TR6 hth hL6i'
        obtain ⟨m', hm'⟩ : ∃ m', m' = (if m < g then g else m) := ⟨_, rfl⟩
        have hmx : max m g = m' := by rw [hm']; split <;> omega
        have hm1' : 1 ≤ m' := by omega
        have hm2' : m' ≤ 999999 := by omega
        rw [hmx] at TM6
        have HM := Lib.hid hm'
        clear hm' hmx
        go_upto_region 15 with fail
        rw [← HM.out]
        clear HM
        go_wp2_with fail
        with_reducible refine (rrev_calls nmW nmW_valid g (by omega) (by omega) _).mono ?_
        rintro e w7 ⟨rfl, hb7⟩
        have HB7 := Lib.hid (HB6.out.below hb7)
        have KC7 := Lib.hid (KC6.out.below hb7 KC6.out.lt)
        have B7 := Lib.hid (below_step B6.out hb7)
        clear hb7 HB6 KC6 B6
        obtain ⟨s, hs, hsg⟩ := hth.out
        have hsz := revN_size nmW (by decide) g (by omega) (by omega)
        have hgs := Lib.hid (get_some HB7.out (revN nmW g) (by omega) (find_gen HA6.out HL6.out hg0 hs hsg) (n := revN nmW g) (nm := nmW) (g := g) (x1 := 0) (x2 := 1) (x3 := 0) (x4 := 1) (x5 := 0) (encR_of HA6.out hs hsg))
        go_wp2_with fail
        with_reducible refine hgs.out.mono ?_
        rintro e w8 ⟨rfl, hb8⟩
        obtain ⟨Wa, hWa⟩ : ∃ Wa, Wa = w8.alloc (.cells #[.string (revN nmW g), .int .i64 g, .string nmW, .int .i64 0, .int .i64 1, .int .i64 0, .int .i64 1, .int .i64 0] 42) := ⟨_, rfl⟩
        have bWa : Below w8.heap.size w8 Wa := by rw [hWa]; exact (Below.refl _ _).alloc (Nat.le_refl _) _
        have kr : Blk Wa w8.heap.size #[.string (revN nmW g), .int .i64 g, .string nmW, .int .i64 0, .int .i64 1, .int .i64 0, .int .i64 1, .int .i64 0] 42 := by rw [hWa]; exact Blk.new _ _ _
        obtain ⟨gr, hgr⟩ : ∃ gr, gr = w8.heap.size := ⟨_, rfl⟩
        rw [← hgr] at kr
        have bb := below_step hb8 bWa
        have HBa := Lib.hid (HB7.out.below bb)
        have KCa := Lib.hid (KC7.out.below bb KC7.out.lt)
        have Ba := Lib.hid (below_step B7.out bb)
        have KR := Lib.hid kr
        clear kr bWa hb8 bb hgs hsz hs hsg hth HB7 KC7 B7
        go_upto_region 16 with fail
        rw [← hWa, ← hgr]
        clear hWa hgr
        go_wp2_with fail
        have dr := (Below.refl Wa.heap.size Wa).drew
        have HBd := Lib.hid (HBa.out.below dr)
        have KCd := Lib.hid (KCa.out.below dr KCa.out.lt)
        have Bd := Lib.hid (below_step Ba.out dr)
        have KRd := Lib.hid (KR.out.below dr KR.out.lt)
        clear dr HBa KCa Ba
        refine start_ (n := 15) (S := fun w' => w'.cell? ⟨gr, 0, none⟩ = some (.string (revN nmW g)) ∧ w'.cell? ⟨gr, 1, none⟩ = some (.int .i64 g)) (ds := []) #[false, false, false, false, false, false, false, false, false, false, false, false, false, false, false] (by kernel_rfl) rfl rfl ⟨KRd.out.cell 0, KRd.out.cell 1⟩ (fun hHeld => ?_)
        refine pure_ (i := 0) (N := some 61) (v := ?_) (a' := ?_) #[true, false, false, false, false, false, false, false, false, false, false, false, false, false, false] rfl rfl (by kernel_rfl) (fun _ _ _ h => h) (Or.inl ⟨by rfl, ?_⟩) ?_ ?_
        rotate_left
        · intro w'
          go_simp
          with_reducible rfl
        rotate_left
        · simp only [Act.put, List.setIfInBounds_toArray, List.set_cons_zero, List.set_cons_succ]
          rfl
        refine pure_ (i := 1) (N := some 62) (v := ?_) (a' := ?_) #[true, true, false, false, false, false, false, false, false, false, false, false, false, false, false] rfl rfl (by kernel_rfl) (fun _ _ _ h => h) (Or.inl ⟨by rfl, ?_⟩) ?_ ?_
        rotate_left
        · intro w'
          go_simp
          with_reducible rfl
        rotate_left
        · simp only [Act.put, List.setIfInBounds_toArray, List.set_cons_zero, List.set_cons_succ]
          rfl
        refine pure_ (i := 2) (N := some 63) (v := ?_) (a' := ?_) #[true, true, true, false, false, false, false, false, false, false, false, false, false, false, false] rfl rfl (by kernel_rfl) (fun _ _ _ h => h) (Or.inl ⟨by rfl, ?_⟩) ?_ ?_
        rotate_left
        · intro w'
          go_simp
          with_reducible rfl
        rotate_left
        · simp only [Act.put, List.setIfInBounds_toArray, List.set_cons_zero, List.set_cons_succ]
          rfl
        refine pure_ (i := 3) (N := some 64) (v := ?_) (a' := ?_) #[true, true, true, true, false, false, false, false, false, false, false, false, false, false, false] rfl rfl (by kernel_rfl) (fun _ _ _ h => h) (Or.inl ⟨by rfl, ?_⟩) ?_ ?_
        rotate_left
        · intro w'
          go_simp
          with_reducible rfl
        rotate_left
        · simp only [Act.put, List.setIfInBounds_toArray, List.set_cons_zero, List.set_cons_succ]
          rfl
        refine pure_ (i := 5) (N := some 66) (v := ?_) (a' := ?_) #[true, true, true, true, false, true, false, false, false, false, false, false, false, false, false] rfl rfl (by kernel_rfl) (fun _ _ _ h => h) (Or.inl ⟨by rfl, ?_⟩) ?_ ?_
        rotate_left
        · intro w'
          go_simp
          with_reducible rfl
        rotate_left
        · simp only [Act.put, List.setIfInBounds_toArray, List.set_cons_zero, List.set_cons_succ]
          rfl
        refine take_ (i := 4) (N := some 65) (v := ?_) (a' := ?_) #[true, true, true, true, true, true, false, false, false, false, false, false, false, false, false] rfl rfl (by kernel_rfl) (fun _ _ _ h => h) (Or.inl ⟨by rfl, ?_⟩) hHeld ?_ ?_
        rotate_left
        · rintro w' ⟨s0, s1⟩
          go_simp
          with_reducible rfl
        rotate_left
        · simp only [Act.put, List.setIfInBounds_toArray, List.set_cons_zero, List.set_cons_succ]
          rfl
        refine pure_ (i := 6) (N := some 67) (v := ?_) (a' := ?_) #[true, true, true, true, true, true, true, false, false, false, false, false, false, false, false] rfl rfl (by kernel_rfl) (fun _ _ _ h => h) (Or.inl ⟨by rfl, ?_⟩) ?_ ?_
        rotate_left
        · intro w'
          go_simp
          with_reducible rfl
        rotate_left
        · simp only [Act.put, List.setIfInBounds_toArray, List.set_cons_zero, List.set_cons_succ]
          rfl
        refine pure_ (i := 7) (N := some 68) (v := ?_) (a' := ?_) #[true, true, true, true, true, true, true, true, false, false, false, false, false, false, false] rfl rfl (by kernel_rfl) (fun _ _ _ h => h) (Or.inl ⟨by rfl, ?_⟩) ?_ ?_
        rotate_left
        · intro w'
          go_simp
          with_reducible rfl
        rotate_left
        · simp only [Act.put, List.setIfInBounds_toArray, List.set_cons_zero, List.set_cons_succ]
          rfl
        refine pure_ (i := 8) (N := some 69) (v := ?_) (a' := ?_) #[true, true, true, true, true, true, true, true, true, false, false, false, false, false, false] rfl rfl (by kernel_rfl) (fun _ _ _ h => h) (Or.inl ⟨by rfl, ?_⟩) ?_ ?_
        rotate_left
        · intro w'
          go_simp
          with_reducible rfl
        rotate_left
        · simp only [Act.put, List.setIfInBounds_toArray, List.set_cons_zero, List.set_cons_succ]
          rfl
        refine pure_ (i := 9) (N := some 70) (v := ?_) (a' := ?_) #[true, true, true, true, true, true, true, true, true, true, false, false, false, false, false] rfl rfl (by kernel_rfl) (fun _ _ _ h => h) (Or.inl ⟨by rfl, ?_⟩) ?_ ?_
        rotate_left
        · intro w'
          go_simp
          with_reducible rfl
        rotate_left
        · simp only [Act.put, List.setIfInBounds_toArray, List.set_cons_zero, List.set_cons_succ]
          rfl
        refine pure_ (i := 11) (N := some 72) (v := ?_) (a' := ?_) #[true, true, true, true, true, true, true, true, true, true, false, true, false, false, false] rfl rfl (by kernel_rfl) (fun _ _ _ h => h) (Or.inl ⟨by rfl, ?_⟩) ?_ ?_
        rotate_left
        · intro w'
          go_simp
          with_reducible rfl
        rotate_left
        · simp only [Act.put, List.setIfInBounds_toArray, List.set_cons_zero, List.set_cons_succ]
          rfl
        refine take_ (i := 10) (N := some 71) (v := ?_) (a' := ?_) #[true, true, true, true, true, true, true, true, true, true, true, true, false, false, false] rfl rfl (by kernel_rfl) (fun _ _ _ h => h) (Or.inl ⟨by rfl, ?_⟩) hHeld ?_ ?_
        rotate_left
        · rintro w' ⟨s0, s1⟩
          go_simp
          with_reducible rfl
        rotate_left
        · simp only [Act.put, List.setIfInBounds_toArray, List.set_cons_zero, List.set_cons_succ]
          rfl
        refine one_ (i := 12) (N := some 73) #[true, true, true, true, true, true, true, true, true, true, true, true, true, false, false] rfl rfl (by kernel_rfl) (by decide) (fun K hK => ?_)
        refine goes_ Tryd.func16 (by kernel_rfl) rfl #[.string nmW, .int .i64 g] (by rfl) rfl rfl (by simp only [List.map_toArray, List.map_cons, List.map_nil]; rfl) ?_
        with_reducible refine (rrev_calls nmW nmW_valid g (by omega) (by omega) _).mono ?_
        rintro e u1 ⟨rfl, hu1⟩
        have KRu := Lib.hid (KRd.out.below hu1 KRd.out.lt)
        have HBu := Lib.hid (HBd.out.below hu1)
        have KCu := Lib.hid (KCd.out.below hu1 KCd.out.lt)
        have Bu := Lib.hid (below_step Bd.out hu1)
        refine ⟨_, rfl, ?_⟩
        refine hK.out _ _ ⟨KRu.out.cell 0, KRu.out.cell 1⟩ (fun hHeld => ?_)
        clear hK K
        refine norm_ (a' := ?_) ?_ ?_
        rotate_left
        · show Act.put _ (some 73) _ = _
          simp only [Act.put, List.setIfInBounds_toArray, List.set_cons_zero, List.set_cons_succ]
          rfl
        refine pure_ (i := 13) (N := some 74) (v := ?_) (a' := ?_) #[true, true, true, true, true, true, true, true, true, true, true, true, true, true, false] rfl rfl (by kernel_rfl) (fun _ _ _ h => h) (Or.inl ⟨by rfl, ?_⟩) ?_ ?_
        rotate_left
        · intro w'
          go_simp
          with_reducible rfl
        rotate_left
        · simp only [Act.put, List.setIfInBounds_toArray, List.set_cons_zero, List.set_cons_succ]
          rfl
        refine pure_ (i := 14) (N := some 75) (v := ?_) (a' := ?_) #[true, true, true, true, true, true, true, true, true, true, true, true, true, true, true] rfl rfl (by kernel_rfl) (fun _ _ _ h => h) (Or.inl ⟨by rfl, ?_⟩) ?_ ?_
        rotate_left
        · intro w'
          go_simp
          with_reducible rfl
        rotate_left
        · simp only [Act.put, List.setIfInBounds_toArray, List.set_cons_zero, List.set_cons_succ]
          rfl
        refine done_ (by kernel_rfl) ?_
        go_wp2_with fail
        go_roundw
        case rel => exact ⟨i + 1, L6, m', by omega, by omega, rfl, by go_num, by omega, by omega, HBu, HL6, HA6, TM6, TR6, by omega, KCu, Bu⟩
        case measure => simp [vI]; omega
      · obtain rfl : i = 10 := by omega
        go_wp2_with fail
        with_reducible refine (both_calls HB.out HL.out nmW).mono ?_
        rintro e we ⟨rfl, hbe⟩
        have hl1 := top_latest (nm := nmW) (fun r hr => by rw [HA.out r hr]) HL.out (B := fun _ => true) (p := fun _ => true) (fun _ _ => rfl) TM.out
        have hl2 := top_latest (nm := nmW) (fun r hr => by rw [HA.out r hr]) HL.out (B := provedL L) (p := RevM.ok) (fun r hr => provedL_mem HL.out hr) TR.out
        rw [hl1, hl2]
        have hn0 : nameOf nmW 0 = ⟨#[]⟩ := rfl
        rw [hn0]
        have BE := Lib.hid (below_step BB.out hbe)
        clear hbe hl1 hl2 hn0
        by_cases hz : m = 0
        · have hnm : nameOf nmW m = ⟨#[]⟩ := by unfold nameOf; rw [if_pos hz]
          have hq1 : (m == 0) = true := by simp [hz]
          have hq2 : decide (0 < m) = false := decide_eq_false (by omega)
          rw [hnm]
          clear hnm
          go_wp2_with fail
          go_ret
          exact ⟨rfl, BE.out⟩
        · have hnm : nameOf nmW m = revN nmW m := nameOf_pos (by omega)
          have hq1 : (m == 0) = false := by simpa using hz
          have hq2 : decide (0 < m) = true := decide_eq_true (by omega)
          rw [hnm]
          clear hnm
          go_wp2_with (go_at_call 16; (with_reducible refine (rrev_calls nmW nmW_valid m (by omega) (by omega) _).mono ?_); rintro e u1 ⟨rfl, hu1⟩; have Bu := Lib.hid (below_step BE.out hu1); clear hu1)
          go_ret
          exact ⟨rfl, Bu.out⟩
    · obtain rfl : i = l0.length := by omega
      go_wp2_with fail
      with_reducible refine (both_calls HB.out HL.out nmW).mono ?_
      rintro e we ⟨rfl, hbe⟩
      have hl1 := top_latest (nm := nmW) (fun r hr => by rw [HA.out r hr]) HL.out (B := fun _ => true) (p := fun _ => true) (fun _ _ => rfl) TM.out
      have hl2 := top_latest (nm := nmW) (fun r hr => by rw [HA.out r hr]) HL.out (B := provedL L) (p := RevM.ok) (fun r hr => provedL_mem HL.out hr) TR.out
      rw [hl1, hl2]
      have hn0 : nameOf nmW 0 = ⟨#[]⟩ := rfl
      rw [hn0]
      have BE := Lib.hid (below_step BB.out hbe)
      clear hbe hl1 hl2 hn0
      by_cases hz : m = 0
      · have hnm : nameOf nmW m = ⟨#[]⟩ := by unfold nameOf; rw [if_pos hz]
        have hq1 : (m == 0) = true := by simp [hz]
        have hq2 : decide (0 < m) = false := decide_eq_false (by omega)
        rw [hnm]
        clear hnm
        go_wp2_with fail
        go_ret
        exact ⟨rfl, BE.out⟩
      · have hnm : nameOf nmW m = revN nmW m := nameOf_pos (by omega)
        have hq1 : (m == 0) = false := by simpa using hz
        have hq2 : decide (0 < m) = true := decide_eq_true (by omega)
        rw [hnm]
        clear hnm
        go_wp2_with (go_at_call 16; (with_reducible refine (rrev_calls nmW nmW_valid m (by omega) (by omega) _).mono ?_); rintro e u1 ⟨rfl, hu1⟩; have Bu := Lib.hid (below_step BE.out hu1); clear hu1)
        go_ret
        exact ⟨rfl, Bu.out⟩

end Go.Proofs.YtmiojmnifnnncaaDoor.PA
