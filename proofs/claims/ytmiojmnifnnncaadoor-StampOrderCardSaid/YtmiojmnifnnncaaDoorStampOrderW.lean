/- StampOrder: the walk. (Printed by stamplaws.py and genx.py.) -/
import Derived.Test.YtmiojmnifnnncaaDoorSPut
set_option linter.unusedSimpArgs false
set_option linter.unusedVariables false
namespace Go.Proofs.YtmiojmnifnnncaaDoor.PA
open Go.RowKit Go.Shelf Go.Lib Go.Sort Go.Maps Go.Proofs.YtmiojmnifnnncaaDoorW.PrintWords Go.Proofs.YtmiojmnifnnncaaDoorW.PrintLast

abbrev nm3 (q : Nat) : ByteArray := match q with | 0 => ⟨#[119, 101, 98]⟩ | 1 => ⟨#[97]⟩ | _ => ⟨#[119, 101, 98, 45, 49]⟩
theorem nm3_valid (q : Nat) : ValidN (nm3 q) := by
  match q with
  | 0 => exact ⟨by decide, by decide, by decide, by decide, by decide⟩
  | 1 => exact ⟨by decide, by decide, by decide, by decide, by decide⟩
  | _ + 2 => show ValidN ⟨#[119, 101, 98, 45, 49]⟩; exact ⟨by decide, by decide, by decide, by decide, by decide⟩
/-- A configuration of a name. -/
abbrev cO (nm : ByteArray) : CfgM := ⟨nm, 0, 1, 0, 1, 0⟩
theorem cO_nm (nm : ByteArray) : (cO nm).nm = nm := rfl
theorem cO_enc (nm : ByteArray) : encC (cO nm) = .agg #[.string nm, .int .i64 0, .int .i64 1, .int .i64 0, .int .i64 1, .int .i64 0] := rfl
/-- The names so far: rising, just the Book's. -/
structure NamesOf (N : List (List UInt8)) (L : List RevM) : Prop where
  rise : Rising N
  mem : ∀ x, x ∈ N ↔ x ∈ L.map RevM.key
theorem NamesOf.nil : NamesOf [] [] := ⟨by unfold Rising; simp, fun x => by simp⟩
theorem NamesOf.step {N : List (List UInt8)} {L : List RevM} (h : NamesOf N L) (c : CfgM) (g : Int) : NamesOf (insS (revN c.nm g).toList N) (stampL L c g) := by
  obtain ⟨h1, h2⟩ := ins_rising (s := (revN c.nm g).toList) h.rise
  refine ⟨h1, fun x => ?_⟩
  rw [h2, h.mem]
  have hk : (revN c.nm g).toList = (revN c.nm g).data.toList := by rw [ByteArray.toList_eq]
  rw [hk]
  unfold stampL
  cases e : findR L (revN c.nm g).data.toList with
  | some r =>
    obtain ⟨q1, q2⟩ := findR_some e
    rw [if_neg (by simp)]
    constructor
    · rintro (rfl | h)
      · exact List.mem_map.2 ⟨r, q1, q2⟩
      · exact h
    · exact .inr
  | none =>
    rw [if_pos (by rfl), List.map_append, List.mem_append, List.map_singleton, List.mem_singleton]
    constructor
    · rintro (h | h)
      · exact .inr h
      · exact .inl h
    · rintro (h | h)
      · exact .inr h
      · exact .inl h
theorem NamesOf.same {N : List (List UInt8)} {L : List RevM} (h : NamesOf N L) (hL : OkL L) : (L.map RevM.key).mergeSort leS = N :=
  rising_same (sort_rising hL.nodup) h.rise (fun x => by rw [h.mem]; exact (List.mergeSort_perm _ _).mem_iff)

set_option maxRecDepth 100000 in
set_option maxHeartbeats 8000000 in
theorem order_law (A0 : Option Addr) (c0 : Nat) (l0 : List Int) (A1 : Option Addr) (c1 : Nat) (l1 : List Int) (w : World) (ht : ∀ w', Below w.heap.size w w' → Pow10 w') (hr0 : Kd.C (Kd.int .i64) w A0 l0.length l0) (hc0 : l0.length ≤ c0) (hr1 : Kd.C (Kd.int .i64) w A1 l1.length l1) (hc1 : l1.length ≤ c1) :
    Calls Tryd.prog 7 #[.slice A0 l0.length c0, .slice A1 l1.length c1] w fun e w' => e = .returned (.bool true) ∧ Below w.heap.size w w' := by
  have HT := Lib.hid ht
  have HR0 := Lib.hid hr0
  have HR1 := Lib.hid hr1
  clear hr0 hr1
  clear ht
  go_enter Tryd.func7, Tryd.ntmps7
  go_wp2_with fail
  refine (known12 w HT.out).mono ?_
  rintro e w1 ⟨rfl, hb1⟩
  go_wp2_with fail
  refine (new_calls w1).mono ?_
  rintro e w2 ⟨p, b1, b2, rfl, hB, ⟨hp, h1, h2⟩, hb2⟩
  have z1 := hb1.size
  have hp : w.heap.size ≤ p := by omega
  have h1 : w.heap.size ≤ b1 := by omega
  have h2 : w.heap.size ≤ b2 := by omega
  have HB2 := Lib.hid hB
  have B2 := Lib.hid (below_step hb1 hb2)
  clear hB hb1 hb2 z1
  go_wp2_with fail
  go_loopw [6, 7] (fun v6 v7 wr => ∃ (i : Nat) (L : List RevM) (N : List (List UInt8)), i ≤ l0.length ∧ i ≤ 30 ∧ v7 = .int .i64 i ∧ Hid (BookAt wr p b1 b2 L) ∧ Hid (OkL L) ∧ Hid (NamesOf N L) ∧ L.length ≤ i ∧ N.length ≤ i ∧ Hid (RowG elS wr w2.heap.size v6 N) ∧ Hid (Below w.heap.size w wr) ∧ w2.heap.size ≤ wr.heap.size) (fun _ v7 _ => l0.length - (vI v7).toNat)
  case atStart => exact ⟨0, [], [], by omega, by omega, rfl, HB2, Lib.hid OkL.nil, Lib.hid NamesOf.nil, by simp, by simp, Lib.hid (RowG.nil _ _ _), B2, Nat.le_refl _⟩
  case round =>
    have hb12 := HB2.out.lt
    clear HB2 B2
    obtain ⟨i, L, N, hi, hi30, rfl, HB, HL, HN, hLi, hNi, RN, BB, hz2⟩ := hrel
    by_cases hlt : i < l0.length
    · by_cases h30 : i < 30
      · have hlt' : (i : Int) < (l0.length : Int) := by omega
        obtain ⟨nx, hnx⟩ : ∃ nx, nx = rd l0 i := ⟨_, rfl⟩
        have hnil : A0.isSome = true := by
          obtain ⟨ad, e, _⟩ := Kd.at_int HR0.out (i : Int) (by omega) hlt'
          rw [e]; rfl
        obtain ⟨ad, rfl⟩ := Option.isSome_iff_exists.1 hnil
        have hce : ∀ w', Below w.heap.size w w' → w'.cell? (ad.add i) = some (.int .i64 nx) := fun w' hb => by
          obtain ⟨_, e, hc⟩ := Kd.at_int (Kd.C_below HR0.out hb) (i : Int) (by omega) hlt'
          cases e
          rw [Int.toNat_natCast, ← hnx] at hc
          exact hc
        have HCE := Lib.hid hce
        clear hce hnx hnil
        obtain ⟨W3, hW3⟩ : ∃ W3, W3 = wr.alloc (.cells #[.string ⟨#[119, 101, 98]⟩, .string ⟨#[97]⟩, .string ⟨#[119, 101, 98, 45, 49]⟩] 9) := ⟨_, rfl⟩
        have bW3 : Below wr.heap.size wr W3 := by rw [hW3]; exact (Below.refl _ _).alloc (Nat.le_refl _) _
        have kc : Blk W3 wr.heap.size #[.string ⟨#[119, 101, 98]⟩, .string ⟨#[97]⟩, .string ⟨#[119, 101, 98, 45, 49]⟩] 9 := by rw [hW3]; exact Blk.new _ _ _
        obtain ⟨gc, hgc⟩ : ∃ gc, gc = wr.heap.size := ⟨_, rfl⟩
        rw [← hgc] at kc
        have hbl := HB.out.lt
        have hg1 : gc ≠ b1 := by omega
        have hg2 : gc ≠ b2 := by omega
        have HB3 := Lib.hid (HB.out.below bW3)
        have B3 := Lib.hid (below_step BB.out bW3)
        have RN3 := Lib.hid (RowG.below RN.out bW3 (Nat.le_refl _))
        have hz3 : w2.heap.size ≤ W3.heap.size := by have := bW3.size; omega
        have KC3 := Lib.hid kc
        have HW3 := Lib.hid hW3
        have HGC := Lib.hid hgc
        have HR1r := Lib.hid (Kd.C_below HR1.out BB.out)
        clear kc bW3 HB BB RN hW3 hgc hbl hz2
        by_cases hp : i < l1.length
        · obtain ⟨ad1, rfl, hck⟩ := Kd.at_int HR1r.out (i : Int) (by omega) (by omega)
          rw [Int.toNat_natCast] at hck
          generalize rd l1 i = ky at hck
          have hpd : decide ((i : Int) < (l1.length : Int)) = true := decide_eq_true (by omega)
          clear HR1r
          go_wp2_with fail
          rw [← HW3.out, ← HGC.out]
          clear HW3 HGC
          have hwi := Lib.hid (within12 ky 3 (by omega) (by omega))
          have q0 := Int.emod_nonneg ky (b := 3) (by omega)
          have q1 := Int.emod_lt_of_pos ky (b := 3) (by omega)
          refine (damperlaw12_within.calls ky 3 (ky % 3) _ hwi.out).mono ?_
          rintro e w4 ⟨rfl, hdr_⟩
          have hd_ := hdr_.below
          clear hdr_
          clear hwi
          have HB4 := Lib.hid (HB3.out.below hd_)
          have KC4 := Lib.hid (KC3.out.below hd_ KC3.out.lt)
          have B4 := Lib.hid (below_step B3.out hd_)
          have RN4 := Lib.hid (RowG.below RN3.out hd_ (Nat.le_refl _))
          have hz4 : w2.heap.size ≤ w4.heap.size := by have := hd_.size; omega
          generalize ky % 3 = q at q0 q1 ⊢
          have hcl : w4.cell? ⟨gc, q.toNat, none⟩ = some (.string (nm3 q.toNat)) := by
            have : q = 0 ∨ q = 1 ∨ q = 2 := by omega
            rcases this with rfl | rfl | rfl
            · exact KC4.out.cell 0
            · exact KC4.out.cell 1
            · exact KC4.out.cell 2
          obtain ⟨nm, hnm⟩ : ∃ nm, nm = nm3 q.toNat := ⟨_, rfl⟩
          have hv : ValidN nm := hnm ▸ nm3_valid _
          rw [← hnm] at hcl
          obtain ⟨W5, hW5⟩ : ∃ W5, W5 = w4.alloc (.cells #[.string nm, .int .i64 0, .int .i64 1, .int .i64 0, .int .i64 1, .int .i64 0] 27) := ⟨_, rfl⟩
          have bW5 : Below w4.heap.size w4 W5 := by rw [hW5]; exact (Below.refl _ _).alloc (Nat.le_refl _) _
          have kr : Blk W5 w4.heap.size #[.string nm, .int .i64 0, .int .i64 1, .int .i64 0, .int .i64 1, .int .i64 0] 27 := by rw [hW5]; exact Blk.new _ _ _
          obtain ⟨gr, hgr⟩ : ∃ gr, gr = w4.heap.size := ⟨_, rfl⟩
          rw [← hgr] at kr
          have hbl := HB4.out.lt
          have hr1 : gr ≠ b1 := by omega
          have hr2 : gr ≠ b2 := by omega
          have HB5 := Lib.hid (HB4.out.below bW5)
          have B5 := Lib.hid (below_step B4.out bW5)
          have RN5 := Lib.hid (RowG.below RN4.out bW5 (Nat.le_refl _))
          have hz5 : w2.heap.size ≤ W5.heap.size := by have := bW5.size; omega
          have KR5 := Lib.hid kr
          clear kr bW5 hbl hnm hd_ HB4 B4 RN4 KC4 HB3 B3 RN3 KC3
          go_upto_region 14 with fail
          rw [← hW5, ← hgr]
          clear hW5 hgr hcl
          go_wp2_with fail
          have dr := (Below.refl W5.heap.size W5).drew
          have HBd := Lib.hid (HB5.out.below dr)
          have Bd := Lib.hid (below_step B5.out dr)
          have RNd := Lib.hid (RowG.below RN5.out dr (Nat.le_refl _))
          have KRd := Lib.hid (KR5.out.below dr KR5.out.lt)
          have hzd : w2.heap.size ≤ W5.drew.heap.size := by have := dr.size; omega
          have hwk := Lib.hid (within12 nx 130 (by omega) (by omega))
          have g0 := Int.emod_nonneg nx (b := 130) (by omega)
          have g1 := Int.emod_lt_of_pos nx (b := 130) (by omega)
          generalize nx % 130 = k at hwk g0 g1
          have hgw : wrap64 (1 + k) = 1 + k := w64 (by omega) (by omega)
          have hg1_ : 1 ≤ wrap64 (1 + k) := by rw [hgw]; omega
          have hg2_ : wrap64 (1 + k) ≤ 999999 := by rw [hgw]; omega
          clear dr HB5 B5 RN5 KR5
          refine start_ (n := 14) (S := fun w' => w'.cell? ⟨gr, 0, none⟩ = some (.string nm) ∧ w'.cell? ⟨gr, 1, none⟩ = some (.int .i64 0) ∧ w'.cell? ⟨gr, 2, none⟩ = some (.int .i64 1) ∧ w'.cell? ⟨gr, 3, none⟩ = some (.int .i64 0) ∧ w'.cell? ⟨gr, 4, none⟩ = some (.int .i64 1) ∧ w'.cell? ⟨gr, 5, none⟩ = some (.int .i64 0) ∧ w'.cell? (ad.add i) = some (.int .i64 nx)) (ds := []) #[false, false, false, false, false, false, false, false, false, false, false, false, false, false] (by kernel_rfl) rfl rfl ⟨KRd.out.cell 0, KRd.out.cell 1, KRd.out.cell 2, KRd.out.cell 3, KRd.out.cell 4, KRd.out.cell 5, HCE.out _ Bd.out⟩ (fun hHeld => ?_)
          refine pure_ (i := 0) (N := some 42) (v := ?_) (a' := ?_) #[true, false, false, false, false, false, false, false, false, false, false, false, false, false] rfl rfl (by kernel_rfl) (fun _ _ _ h => h) (Or.inl ⟨by rfl, ?_⟩) ?_ ?_
          rotate_left
          · intro w'
            go_simp
            with_reducible rfl
          rotate_left
          · simp only [Act.put, List.setIfInBounds_toArray, List.set_cons_zero, List.set_cons_succ, i64_w, i32_w]
            rfl
          refine pure_ (i := 2) (N := some 44) (v := ?_) (a' := ?_) #[true, false, true, false, false, false, false, false, false, false, false, false, false, false] rfl rfl (by kernel_rfl) (fun _ _ _ h => h) (Or.inl ⟨by rfl, ?_⟩) ?_ ?_
          rotate_left
          · intro w'
            go_simp
            with_reducible rfl
          rotate_left
          · simp only [Act.put, List.setIfInBounds_toArray, List.set_cons_zero, List.set_cons_succ, i64_w, i32_w]
            rfl
          refine pure_ (i := 3) (N := some 45) (v := ?_) (a' := ?_) #[true, false, true, true, false, false, false, false, false, false, false, false, false, false] rfl rfl (by kernel_rfl) (fun _ _ _ h => h) (Or.inl ⟨by rfl, ?_⟩) ?_ ?_
          rotate_left
          · intro w'
            go_simp
            with_reducible rfl
          rotate_left
          · simp only [Act.put, List.setIfInBounds_toArray, List.set_cons_zero, List.set_cons_succ, i64_w, i32_w]
            rfl
          refine pure_ (i := 4) (N := some 46) (v := ?_) (a' := ?_) #[true, false, true, true, true, false, false, false, false, false, false, false, false, false] rfl rfl (by kernel_rfl) (fun _ _ _ h => h) (Or.inl ⟨by rfl, ?_⟩) ?_ ?_
          rotate_left
          · intro w'
            go_simp
            with_reducible rfl
          rotate_left
          · simp only [Act.put, List.setIfInBounds_toArray, List.set_cons_zero, List.set_cons_succ, i64_w, i32_w]
            rfl
          refine take_ (i := 1) (N := some 43) (v := ?_) (a' := ?_) #[true, true, true, true, true, false, false, false, false, false, false, false, false, false] rfl rfl (by kernel_rfl) (fun _ _ _ h => h) (Or.inl ⟨by rfl, ?_⟩) hHeld ?_ ?_
          rotate_left
          · rintro w' ⟨s0, s1, s2, s3, s4, s5, s6⟩
            go_simp
            with_reducible rfl
          rotate_left
          · simp only [Act.put, List.setIfInBounds_toArray, List.set_cons_zero, List.set_cons_succ, i64_w, i32_w]
            rfl
          refine take_ (i := 5) (N := some 47) (v := ?_) (a' := ?_) #[true, true, true, true, true, true, false, false, false, false, false, false, false, false] rfl rfl (by kernel_rfl) (fun _ _ _ h => h) (Or.inl ⟨by rfl, ?_⟩) hHeld ?_ ?_
          rotate_left
          · rintro w' ⟨s0, s1, s2, s3, s4, s5, s6⟩
            go_simp
            with_reducible rfl
          rotate_left
          · simp only [Act.put, List.setIfInBounds_toArray, List.set_cons_zero, List.set_cons_succ, i64_w, i32_w]
            rfl
          refine one_ (i := 6) (N := some 48) #[true, true, true, true, true, true, true, false, false, false, false, false, false, false] rfl rfl (by kernel_rfl) (by decide) (fun K hK => ?_)
          refine goes_ Tryd.func13 (by kernel_rfl) rfl #[.int .i64 nx, .int .i64 130] (by rfl) rfl rfl (by simp only [List.map_toArray, List.map_cons, List.map_nil]; rfl) ?_
          with_reducible refine (damperlaw12_within.calls nx 130 k _ hwk.out).mono ?_
          rintro e u1 ⟨rfl, hdu_⟩
          have hu1 := hdu_.below
          have HBu := Lib.hid (HBd.out.below hu1)
          have Bu := Lib.hid (below_step Bd.out hu1)
          have RNu := Lib.hid (RowG.below RNd.out hu1 (Nat.le_refl _))
          have KRu := Lib.hid (KRd.out.below hu1 KRd.out.lt)
          have hzu : w2.heap.size ≤ u1.heap.size := by have := hu1.size; omega
          clear hdu_ hu1
          refine ⟨_, rfl, ?_⟩
          refine hK.out _ _ ⟨KRu.out.cell 0, KRu.out.cell 1, KRu.out.cell 2, KRu.out.cell 3, KRu.out.cell 4, KRu.out.cell 5, HCE.out _ Bu.out⟩ (fun hHeld => ?_)
          clear hK K
          refine norm_ (a' := ?_) ?_ ?_
          rotate_left
          · show Act.put _ (some 48) _ = _
            simp only [Act.put, List.setIfInBounds_toArray, List.set_cons_zero, List.set_cons_succ, i64_w, i32_w]
            rfl
          refine pure_ (i := 7) (N := some 49) (v := ?_) (a' := ?_) #[true, true, true, true, true, true, true, true, false, false, false, false, false, false] rfl rfl (by kernel_rfl) (fun _ _ _ h => h) (Or.inl ⟨by rfl, ?_⟩) ?_ ?_
          rotate_left
          · intro w'
            go_simp
            with_reducible rfl
          rotate_left
          · simp only [Act.put, List.setIfInBounds_toArray, List.set_cons_zero, List.set_cons_succ, i64_w, i32_w]
            rfl
          refine one_ (i := 8) (N := some 50) #[true, true, true, true, true, true, true, true, true, false, false, false, false, false] rfl rfl (by kernel_rfl) (by decide) (fun K hK => ?_)
          refine goes_ Tryd.func14 (by kernel_rfl) rfl #[.pointer (some ⟨p, 0, none⟩), .agg #[.string nm, .int .i64 0, .int .i64 1, .int .i64 0, .int .i64 1, .int .i64 0], .int .i64 (wrap64 (1 + k))] (by rfl) rfl rfl (by simp only [List.map_toArray, List.map_cons, List.map_nil]; rfl) ?_
          with_reducible refine (stamp_callsE HBu.out HL.out (cO nm) hv (wrap64 (1 + k)) hg1_ hg2_ (fun w' hb => HT.out w' (below_step Bu.out hb)) (cO_enc nm) (nm := nm) (cO_nm nm)).mono ?_
          rintro e u2 ⟨rfl, hu2, hc2⟩
          have HBv := Lib.hid hu2
          have Bv := Lib.hid (hc2.below_of Bu.out Bu.out.size (fun k hk e => by omega))
          have RNv := Lib.hid (RowG.moved RNu.out (fun k h1 h2 => hc2.block k h2 (fun e => by omega)))
          have KRv := Lib.hid (KRu.out.chg hc2 (fun h => h.elim hr1 hr2))
          have hzv : w2.heap.size ≤ u2.heap.size := by have := hc2.size; omega
          clear hu2 hc2
          refine ⟨_, rfl, ?_⟩
          refine hK.out _ _ ⟨KRv.out.cell 0, KRv.out.cell 1, KRv.out.cell 2, KRv.out.cell 3, KRv.out.cell 4, KRv.out.cell 5, HCE.out _ Bv.out⟩ (fun hHeld => ?_)
          clear hK K
          refine norm_ (a' := ?_) ?_ ?_
          rotate_left
          · show Act.put _ (some 50) _ = _
            simp only [Act.put, List.setIfInBounds_toArray, List.set_cons_zero, List.set_cons_succ, i64_w, i32_w]
            rfl
          refine pure_ (i := 9) (N := some 41) (v := ?_) (a' := ?_) #[true, true, true, true, true, true, true, true, true, true, false, false, false, false] rfl rfl (by kernel_rfl) (fun _ _ _ h => h) (Or.inl ⟨by rfl, ?_⟩) ?_ ?_
          rotate_left
          · intro w'
            go_simp
            with_reducible rfl
          rotate_left
          · simp only [Act.put, List.setIfInBounds_toArray, List.set_cons_zero, List.set_cons_succ, i64_w, i32_w]
            rfl
          refine pure_ (i := 10) (N := some 51) (v := ?_) (a' := ?_) #[true, true, true, true, true, true, true, true, true, true, true, false, false, false] rfl rfl (by kernel_rfl) (fun _ _ _ h => h) (Or.inl ⟨by rfl, ?_⟩) ?_ ?_
          rotate_left
          · intro w'
            go_simp
            with_reducible rfl
          rotate_left
          · simp only [Act.put, List.setIfInBounds_toArray, List.set_cons_zero, List.set_cons_succ, i64_w, i32_w]
            rfl
          refine pure_ (i := 11) (N := some 52) (v := ?_) (a' := ?_) #[true, true, true, true, true, true, true, true, true, true, true, true, false, false] rfl rfl (by kernel_rfl) (fun _ _ _ h => h) (Or.inl ⟨by rfl, ?_⟩) ?_ ?_
          rotate_left
          · intro w'
            go_simp
            with_reducible rfl
          rotate_left
          · simp only [Act.put, List.setIfInBounds_toArray, List.set_cons_zero, List.set_cons_succ, i64_w, i32_w]
            rfl
          refine pure_ (i := 12) (N := some 10) (v := ?_) (a' := ?_) #[true, true, true, true, true, true, true, true, true, true, true, true, true, false] rfl rfl (by kernel_rfl) (fun _ _ _ h => h) (Or.inl ⟨by rfl, ?_⟩) ?_ ?_
          rotate_left
          · intro w'
            go_simp
            with_reducible rfl
          rotate_left
          · simp only [Act.put, List.setIfInBounds_toArray, List.set_cons_zero, List.set_cons_succ, i64_w, i32_w]
            rfl
          refine pure_ (i := 13) (N := some 11) (v := ?_) (a' := ?_) #[true, true, true, true, true, true, true, true, true, true, true, true, true, true] rfl rfl (by kernel_rfl) (fun _ _ _ h => h) (Or.inl ⟨by rfl, ?_⟩) ?_ ?_
          rotate_left
          · intro w'
            go_simp
            with_reducible rfl
          rotate_left
          · simp only [Act.put, List.setIfInBounds_toArray, List.set_cons_zero, List.set_cons_succ, i64_w, i32_w]
            rfl
          refine done_ (by kernel_rfl) ?_
          rw [hgw] at HBv
          have HLv := Lib.hid (HL.out.stamp (c := cO nm) hv (g := 1 + k) (by omega) (by omega) (by omega))
          have HNv : Hid (NamesOf (insS (revN nm (1 + k)).toList N) (stampL L (cO nm) (1 + k))) := Lib.hid (HN.out.step (cO nm) (1 + k))
          have hLl := stampL_len L (cO nm) (1 + k)
          have hNl := ins_len (revN nm (1 + k)).toList N
          generalize stampL L (cO nm) (1 + k) = L6 at HBv HLv HNv hLl
          clear HL HN HBu RNu KRu Bu hzu HBd Bd RNd KRd hzd
          go_wp2_with fail
          have dr2 := (Below.refl u2.heap.size u2).drew
          have HBx := Lib.hid (HBv.out.below dr2)
          have Bx := Lib.hid (below_step Bv.out dr2)
          have RNx := Lib.hid (RowG.below RNv.out dr2 (Nat.le_refl _))
          have KRx := Lib.hid (KRv.out.below dr2 KRv.out.lt)
          have hzx : w2.heap.size ≤ u2.drew.heap.size := by have := dr2.size; omega
          clear dr2 HBv Bv RNv KRv
          refine start_ (n := 11) (S := fun w' => w'.cell? ⟨gr, 0, none⟩ = some (.string nm) ∧ w'.cell? (ad.add i) = some (.int .i64 nx)) (ds := []) #[false, false, false, false, false, false, false, false, false, false, false] (by kernel_rfl) rfl rfl ⟨KRx.out.cell 0, HCE.out _ Bx.out⟩ (fun hHeld => ?_)
          refine pure_ (i := 0) (N := some 53) (v := ?_) (a' := ?_) #[true, false, false, false, false, false, false, false, false, false, false] rfl rfl (by kernel_rfl) (fun _ _ _ h => h) (Or.inl ⟨by rfl, ?_⟩) ?_ ?_
          rotate_left
          · intro w'
            go_simp
            with_reducible rfl
          rotate_left
          · simp only [Act.put, List.setIfInBounds_toArray, List.set_cons_zero, List.set_cons_succ, i64_w, i32_w]
            rfl
          refine pure_ (i := 1) (N := some 54) (v := ?_) (a' := ?_) #[true, true, false, false, false, false, false, false, false, false, false] rfl rfl (by kernel_rfl) (fun _ _ _ h => h) (Or.inl ⟨by rfl, ?_⟩) ?_ ?_
          rotate_left
          · intro w'
            go_simp
            with_reducible rfl
          rotate_left
          · simp only [Act.put, List.setIfInBounds_toArray, List.set_cons_zero, List.set_cons_succ, i64_w, i32_w]
            rfl
          refine pure_ (i := 3) (N := some 56) (v := ?_) (a' := ?_) #[true, true, false, true, false, false, false, false, false, false, false] rfl rfl (by kernel_rfl) (fun _ _ _ h => h) (Or.inl ⟨by rfl, ?_⟩) ?_ ?_
          rotate_left
          · intro w'
            go_simp
            with_reducible rfl
          rotate_left
          · simp only [Act.put, List.setIfInBounds_toArray, List.set_cons_zero, List.set_cons_succ, i64_w, i32_w]
            rfl
          refine pure_ (i := 4) (N := some 57) (v := ?_) (a' := ?_) #[true, true, false, true, true, false, false, false, false, false, false] rfl rfl (by kernel_rfl) (fun _ _ _ h => h) (Or.inl ⟨by rfl, ?_⟩) ?_ ?_
          rotate_left
          · intro w'
            go_simp
            with_reducible rfl
          rotate_left
          · simp only [Act.put, List.setIfInBounds_toArray, List.set_cons_zero, List.set_cons_succ, i64_w, i32_w]
            rfl
          refine pure_ (i := 5) (N := some 58) (v := ?_) (a' := ?_) #[true, true, false, true, true, true, false, false, false, false, false] rfl rfl (by kernel_rfl) (fun _ _ _ h => h) (Or.inl ⟨by rfl, ?_⟩) ?_ ?_
          rotate_left
          · intro w'
            go_simp
            with_reducible rfl
          rotate_left
          · simp only [Act.put, List.setIfInBounds_toArray, List.set_cons_zero, List.set_cons_succ, i64_w, i32_w]
            rfl
          refine take_ (i := 2) (N := some 55) (v := ?_) (a' := ?_) #[true, true, true, true, true, true, false, false, false, false, false] rfl rfl (by kernel_rfl) (fun _ _ _ h => h) (Or.inl ⟨by rfl, ?_⟩) hHeld ?_ ?_
          rotate_left
          · rintro w' ⟨s0, s1⟩
            go_simp
            with_reducible rfl
          rotate_left
          · simp only [Act.put, List.setIfInBounds_toArray, List.set_cons_zero, List.set_cons_succ, i64_w, i32_w]
            rfl
          refine take_ (i := 6) (N := some 59) (v := ?_) (a' := ?_) #[true, true, true, true, true, true, true, false, false, false, false] rfl rfl (by kernel_rfl) (fun _ _ _ h => h) (Or.inl ⟨by rfl, ?_⟩) hHeld ?_ ?_
          rotate_left
          · rintro w' ⟨s0, s1⟩
            go_simp
            with_reducible rfl
          rotate_left
          · simp only [Act.put, List.setIfInBounds_toArray, List.set_cons_zero, List.set_cons_succ, i64_w, i32_w]
            rfl
          refine one_ (i := 7) (N := some 60) #[true, true, true, true, true, true, true, true, false, false, false] rfl rfl (by kernel_rfl) (by decide) (fun K hK => ?_)
          refine goes_ Tryd.func13 (by kernel_rfl) rfl #[.int .i64 nx, .int .i64 130] (by rfl) rfl rfl (by simp only [List.map_toArray, List.map_cons, List.map_nil]; rfl) ?_
          with_reducible refine (damperlaw12_within.calls nx 130 k _ hwk.out).mono ?_
          rintro e u3 ⟨rfl, hdu_⟩
          have hu3 := hdu_.below
          have HBy := Lib.hid (HBx.out.below hu3)
          have By := Lib.hid (below_step Bx.out hu3)
          have RNy := Lib.hid (RowG.below RNx.out hu3 (Nat.le_refl _))
          have KRy := Lib.hid (KRx.out.below hu3 KRx.out.lt)
          have hzy : w2.heap.size ≤ u3.heap.size := by have := hu3.size; omega
          clear hdu_ hu3
          refine ⟨_, rfl, ?_⟩
          refine hK.out _ _ ⟨KRy.out.cell 0, HCE.out _ By.out⟩ (fun hHeld => ?_)
          clear hK K
          refine norm_ (a' := ?_) ?_ ?_
          rotate_left
          · show Act.put _ (some 60) _ = _
            simp only [Act.put, List.setIfInBounds_toArray, List.set_cons_zero, List.set_cons_succ, i64_w, i32_w]
            rfl
          refine pure_ (i := 8) (N := some 61) (v := ?_) (a' := ?_) #[true, true, true, true, true, true, true, true, true, false, false] rfl rfl (by kernel_rfl) (fun _ _ _ h => h) (Or.inl ⟨by rfl, ?_⟩) ?_ ?_
          rotate_left
          · intro w'
            go_simp
            with_reducible rfl
          rotate_left
          · simp only [Act.put, List.setIfInBounds_toArray, List.set_cons_zero, List.set_cons_succ, i64_w, i32_w]
            rfl
          refine one_ (i := 9) (N := some 62) #[true, true, true, true, true, true, true, true, true, true, false] rfl rfl (by kernel_rfl) (by decide) (fun K hK => ?_)
          refine goes_ Tryd.func16 (by kernel_rfl) rfl #[.string nm, .int .i64 (wrap64 (1 + k))] (by rfl) rfl rfl (by simp only [List.map_toArray, List.map_cons, List.map_nil]; rfl) ?_
          with_reducible refine (rrev_calls nm hv (wrap64 (1 + k)) hg1_ hg2_ _).mono ?_
          rintro e u4 ⟨rfl, hu4⟩
          have HBz := Lib.hid (HBy.out.below hu4)
          have Bz := Lib.hid (below_step By.out hu4)
          have RNz := Lib.hid (RowG.below RNy.out hu4 (Nat.le_refl _))
          have KRz := Lib.hid (KRy.out.below hu4 KRy.out.lt)
          have hzz : w2.heap.size ≤ u4.heap.size := by have := hu4.size; omega
          clear hu4
          refine ⟨_, rfl, ?_⟩
          refine hK.out _ _ ⟨KRz.out.cell 0, HCE.out _ Bz.out⟩ (fun hHeld => ?_)
          clear hK K
          refine norm_ (a' := ?_) ?_ ?_
          rotate_left
          · show Act.put _ (some 62) _ = _
            simp only [Act.put, List.setIfInBounds_toArray, List.set_cons_zero, List.set_cons_succ, i64_w, i32_w]
            rfl
          refine pure_ (i := 10) (N := some 63) (v := ?_) (a' := ?_) #[true, true, true, true, true, true, true, true, true, true, true] rfl rfl (by kernel_rfl) (fun _ _ _ h => h) (Or.inl ⟨by rfl, ?_⟩) ?_ ?_
          rotate_left
          · intro w'
            go_simp
            with_reducible rfl
          rotate_left
          · simp only [Act.put, List.setIfInBounds_toArray, List.set_cons_zero, List.set_cons_succ, i64_w, i32_w]
            rfl
          refine done_ (by kernel_rfl) ?_
          clear HBx Bx RNx KRx HBy By RNy KRy
          have hN1 : N.length ≤ 1000 := by omega
          go_wp2_with fail
          with_reducible refine (put_calls w2.heap.size _ N (revN nm (1 + k)) _ RNz.out hzz hN1).mono ?_
          rintro e w6 ⟨v6, rfl, R6, hb6⟩
          have HB6 := Lib.hid (HBz.out.below hb6)
          have B6 := Lib.hid (below_step Bz.out hb6)
          have hz6 : w2.heap.size ≤ w6.heap.size := by have := hb6.size; omega
          have RN6 := Lib.hid R6
          clear R6 hb6 HBz Bz RNz KRz
          go_wp2_with fail
          go_roundw
          case rel => exact ⟨i + 1, L6, insS (revN nm (1 + k)).toList N, by omega, by omega, by go_num, HB6, HLv, HNv, by omega, by omega, RN6, B6, hz6⟩
          case measure => simp [vI]; omega
        · have hpd : decide ((i : Int) < (l1.length : Int)) = false := decide_eq_false (by omega)
          clear HR1r
          go_wp2_with fail
          rw [← HW3.out, ← HGC.out]
          clear HW3 HGC
          have hwi := Lib.hid (within12 (0 : Int) 3 (by omega) (by omega))
          have q0 := Int.emod_nonneg (0 : Int) (b := 3) (by omega)
          have q1 := Int.emod_lt_of_pos (0 : Int) (b := 3) (by omega)
          refine (damperlaw12_within.calls (0 : Int) 3 ((0 : Int) % 3) _ hwi.out).mono ?_
          rintro e w4 ⟨rfl, hdr_⟩
          have hd_ := hdr_.below
          clear hdr_
          clear hwi
          have HB4 := Lib.hid (HB3.out.below hd_)
          have KC4 := Lib.hid (KC3.out.below hd_ KC3.out.lt)
          have B4 := Lib.hid (below_step B3.out hd_)
          have RN4 := Lib.hid (RowG.below RN3.out hd_ (Nat.le_refl _))
          have hz4 : w2.heap.size ≤ w4.heap.size := by have := hd_.size; omega
          generalize (0 : Int) % 3 = q at q0 q1 ⊢
          have hcl : w4.cell? ⟨gc, q.toNat, none⟩ = some (.string (nm3 q.toNat)) := by
            have : q = 0 ∨ q = 1 ∨ q = 2 := by omega
            rcases this with rfl | rfl | rfl
            · exact KC4.out.cell 0
            · exact KC4.out.cell 1
            · exact KC4.out.cell 2
          obtain ⟨nm, hnm⟩ : ∃ nm, nm = nm3 q.toNat := ⟨_, rfl⟩
          have hv : ValidN nm := hnm ▸ nm3_valid _
          rw [← hnm] at hcl
          obtain ⟨W5, hW5⟩ : ∃ W5, W5 = w4.alloc (.cells #[.string nm, .int .i64 0, .int .i64 1, .int .i64 0, .int .i64 1, .int .i64 0] 27) := ⟨_, rfl⟩
          have bW5 : Below w4.heap.size w4 W5 := by rw [hW5]; exact (Below.refl _ _).alloc (Nat.le_refl _) _
          have kr : Blk W5 w4.heap.size #[.string nm, .int .i64 0, .int .i64 1, .int .i64 0, .int .i64 1, .int .i64 0] 27 := by rw [hW5]; exact Blk.new _ _ _
          obtain ⟨gr, hgr⟩ : ∃ gr, gr = w4.heap.size := ⟨_, rfl⟩
          rw [← hgr] at kr
          have hbl := HB4.out.lt
          have hr1 : gr ≠ b1 := by omega
          have hr2 : gr ≠ b2 := by omega
          have HB5 := Lib.hid (HB4.out.below bW5)
          have B5 := Lib.hid (below_step B4.out bW5)
          have RN5 := Lib.hid (RowG.below RN4.out bW5 (Nat.le_refl _))
          have hz5 : w2.heap.size ≤ W5.heap.size := by have := bW5.size; omega
          have KR5 := Lib.hid kr
          clear kr bW5 hbl hnm hd_ HB4 B4 RN4 KC4 HB3 B3 RN3 KC3
          go_upto_region 14 with fail
          rw [← hW5, ← hgr]
          clear hW5 hgr hcl
          go_wp2_with fail
          have dr := (Below.refl W5.heap.size W5).drew
          have HBd := Lib.hid (HB5.out.below dr)
          have Bd := Lib.hid (below_step B5.out dr)
          have RNd := Lib.hid (RowG.below RN5.out dr (Nat.le_refl _))
          have KRd := Lib.hid (KR5.out.below dr KR5.out.lt)
          have hzd : w2.heap.size ≤ W5.drew.heap.size := by have := dr.size; omega
          have hwk := Lib.hid (within12 nx 130 (by omega) (by omega))
          have g0 := Int.emod_nonneg nx (b := 130) (by omega)
          have g1 := Int.emod_lt_of_pos nx (b := 130) (by omega)
          generalize nx % 130 = k at hwk g0 g1
          have hgw : wrap64 (1 + k) = 1 + k := w64 (by omega) (by omega)
          have hg1_ : 1 ≤ wrap64 (1 + k) := by rw [hgw]; omega
          have hg2_ : wrap64 (1 + k) ≤ 999999 := by rw [hgw]; omega
          clear dr HB5 B5 RN5 KR5
          refine start_ (n := 14) (S := fun w' => w'.cell? ⟨gr, 0, none⟩ = some (.string nm) ∧ w'.cell? ⟨gr, 1, none⟩ = some (.int .i64 0) ∧ w'.cell? ⟨gr, 2, none⟩ = some (.int .i64 1) ∧ w'.cell? ⟨gr, 3, none⟩ = some (.int .i64 0) ∧ w'.cell? ⟨gr, 4, none⟩ = some (.int .i64 1) ∧ w'.cell? ⟨gr, 5, none⟩ = some (.int .i64 0) ∧ w'.cell? (ad.add i) = some (.int .i64 nx)) (ds := []) #[false, false, false, false, false, false, false, false, false, false, false, false, false, false] (by kernel_rfl) rfl rfl ⟨KRd.out.cell 0, KRd.out.cell 1, KRd.out.cell 2, KRd.out.cell 3, KRd.out.cell 4, KRd.out.cell 5, HCE.out _ Bd.out⟩ (fun hHeld => ?_)
          refine pure_ (i := 0) (N := some 42) (v := ?_) (a' := ?_) #[true, false, false, false, false, false, false, false, false, false, false, false, false, false] rfl rfl (by kernel_rfl) (fun _ _ _ h => h) (Or.inl ⟨by rfl, ?_⟩) ?_ ?_
          rotate_left
          · intro w'
            go_simp
            with_reducible rfl
          rotate_left
          · simp only [Act.put, List.setIfInBounds_toArray, List.set_cons_zero, List.set_cons_succ, i64_w, i32_w]
            rfl
          refine pure_ (i := 2) (N := some 44) (v := ?_) (a' := ?_) #[true, false, true, false, false, false, false, false, false, false, false, false, false, false] rfl rfl (by kernel_rfl) (fun _ _ _ h => h) (Or.inl ⟨by rfl, ?_⟩) ?_ ?_
          rotate_left
          · intro w'
            go_simp
            with_reducible rfl
          rotate_left
          · simp only [Act.put, List.setIfInBounds_toArray, List.set_cons_zero, List.set_cons_succ, i64_w, i32_w]
            rfl
          refine pure_ (i := 3) (N := some 45) (v := ?_) (a' := ?_) #[true, false, true, true, false, false, false, false, false, false, false, false, false, false] rfl rfl (by kernel_rfl) (fun _ _ _ h => h) (Or.inl ⟨by rfl, ?_⟩) ?_ ?_
          rotate_left
          · intro w'
            go_simp
            with_reducible rfl
          rotate_left
          · simp only [Act.put, List.setIfInBounds_toArray, List.set_cons_zero, List.set_cons_succ, i64_w, i32_w]
            rfl
          refine pure_ (i := 4) (N := some 46) (v := ?_) (a' := ?_) #[true, false, true, true, true, false, false, false, false, false, false, false, false, false] rfl rfl (by kernel_rfl) (fun _ _ _ h => h) (Or.inl ⟨by rfl, ?_⟩) ?_ ?_
          rotate_left
          · intro w'
            go_simp
            with_reducible rfl
          rotate_left
          · simp only [Act.put, List.setIfInBounds_toArray, List.set_cons_zero, List.set_cons_succ, i64_w, i32_w]
            rfl
          refine take_ (i := 1) (N := some 43) (v := ?_) (a' := ?_) #[true, true, true, true, true, false, false, false, false, false, false, false, false, false] rfl rfl (by kernel_rfl) (fun _ _ _ h => h) (Or.inl ⟨by rfl, ?_⟩) hHeld ?_ ?_
          rotate_left
          · rintro w' ⟨s0, s1, s2, s3, s4, s5, s6⟩
            go_simp
            with_reducible rfl
          rotate_left
          · simp only [Act.put, List.setIfInBounds_toArray, List.set_cons_zero, List.set_cons_succ, i64_w, i32_w]
            rfl
          refine take_ (i := 5) (N := some 47) (v := ?_) (a' := ?_) #[true, true, true, true, true, true, false, false, false, false, false, false, false, false] rfl rfl (by kernel_rfl) (fun _ _ _ h => h) (Or.inl ⟨by rfl, ?_⟩) hHeld ?_ ?_
          rotate_left
          · rintro w' ⟨s0, s1, s2, s3, s4, s5, s6⟩
            go_simp
            with_reducible rfl
          rotate_left
          · simp only [Act.put, List.setIfInBounds_toArray, List.set_cons_zero, List.set_cons_succ, i64_w, i32_w]
            rfl
          refine one_ (i := 6) (N := some 48) #[true, true, true, true, true, true, true, false, false, false, false, false, false, false] rfl rfl (by kernel_rfl) (by decide) (fun K hK => ?_)
          refine goes_ Tryd.func13 (by kernel_rfl) rfl #[.int .i64 nx, .int .i64 130] (by rfl) rfl rfl (by simp only [List.map_toArray, List.map_cons, List.map_nil]; rfl) ?_
          with_reducible refine (damperlaw12_within.calls nx 130 k _ hwk.out).mono ?_
          rintro e u1 ⟨rfl, hdu_⟩
          have hu1 := hdu_.below
          have HBu := Lib.hid (HBd.out.below hu1)
          have Bu := Lib.hid (below_step Bd.out hu1)
          have RNu := Lib.hid (RowG.below RNd.out hu1 (Nat.le_refl _))
          have KRu := Lib.hid (KRd.out.below hu1 KRd.out.lt)
          have hzu : w2.heap.size ≤ u1.heap.size := by have := hu1.size; omega
          clear hdu_ hu1
          refine ⟨_, rfl, ?_⟩
          refine hK.out _ _ ⟨KRu.out.cell 0, KRu.out.cell 1, KRu.out.cell 2, KRu.out.cell 3, KRu.out.cell 4, KRu.out.cell 5, HCE.out _ Bu.out⟩ (fun hHeld => ?_)
          clear hK K
          refine norm_ (a' := ?_) ?_ ?_
          rotate_left
          · show Act.put _ (some 48) _ = _
            simp only [Act.put, List.setIfInBounds_toArray, List.set_cons_zero, List.set_cons_succ, i64_w, i32_w]
            rfl
          refine pure_ (i := 7) (N := some 49) (v := ?_) (a' := ?_) #[true, true, true, true, true, true, true, true, false, false, false, false, false, false] rfl rfl (by kernel_rfl) (fun _ _ _ h => h) (Or.inl ⟨by rfl, ?_⟩) ?_ ?_
          rotate_left
          · intro w'
            go_simp
            with_reducible rfl
          rotate_left
          · simp only [Act.put, List.setIfInBounds_toArray, List.set_cons_zero, List.set_cons_succ, i64_w, i32_w]
            rfl
          refine one_ (i := 8) (N := some 50) #[true, true, true, true, true, true, true, true, true, false, false, false, false, false] rfl rfl (by kernel_rfl) (by decide) (fun K hK => ?_)
          refine goes_ Tryd.func14 (by kernel_rfl) rfl #[.pointer (some ⟨p, 0, none⟩), .agg #[.string nm, .int .i64 0, .int .i64 1, .int .i64 0, .int .i64 1, .int .i64 0], .int .i64 (wrap64 (1 + k))] (by rfl) rfl rfl (by simp only [List.map_toArray, List.map_cons, List.map_nil]; rfl) ?_
          with_reducible refine (stamp_callsE HBu.out HL.out (cO nm) hv (wrap64 (1 + k)) hg1_ hg2_ (fun w' hb => HT.out w' (below_step Bu.out hb)) (cO_enc nm) (nm := nm) (cO_nm nm)).mono ?_
          rintro e u2 ⟨rfl, hu2, hc2⟩
          have HBv := Lib.hid hu2
          have Bv := Lib.hid (hc2.below_of Bu.out Bu.out.size (fun k hk e => by omega))
          have RNv := Lib.hid (RowG.moved RNu.out (fun k h1 h2 => hc2.block k h2 (fun e => by omega)))
          have KRv := Lib.hid (KRu.out.chg hc2 (fun h => h.elim hr1 hr2))
          have hzv : w2.heap.size ≤ u2.heap.size := by have := hc2.size; omega
          clear hu2 hc2
          refine ⟨_, rfl, ?_⟩
          refine hK.out _ _ ⟨KRv.out.cell 0, KRv.out.cell 1, KRv.out.cell 2, KRv.out.cell 3, KRv.out.cell 4, KRv.out.cell 5, HCE.out _ Bv.out⟩ (fun hHeld => ?_)
          clear hK K
          refine norm_ (a' := ?_) ?_ ?_
          rotate_left
          · show Act.put _ (some 50) _ = _
            simp only [Act.put, List.setIfInBounds_toArray, List.set_cons_zero, List.set_cons_succ, i64_w, i32_w]
            rfl
          refine pure_ (i := 9) (N := some 41) (v := ?_) (a' := ?_) #[true, true, true, true, true, true, true, true, true, true, false, false, false, false] rfl rfl (by kernel_rfl) (fun _ _ _ h => h) (Or.inl ⟨by rfl, ?_⟩) ?_ ?_
          rotate_left
          · intro w'
            go_simp
            with_reducible rfl
          rotate_left
          · simp only [Act.put, List.setIfInBounds_toArray, List.set_cons_zero, List.set_cons_succ, i64_w, i32_w]
            rfl
          refine pure_ (i := 10) (N := some 51) (v := ?_) (a' := ?_) #[true, true, true, true, true, true, true, true, true, true, true, false, false, false] rfl rfl (by kernel_rfl) (fun _ _ _ h => h) (Or.inl ⟨by rfl, ?_⟩) ?_ ?_
          rotate_left
          · intro w'
            go_simp
            with_reducible rfl
          rotate_left
          · simp only [Act.put, List.setIfInBounds_toArray, List.set_cons_zero, List.set_cons_succ, i64_w, i32_w]
            rfl
          refine pure_ (i := 11) (N := some 52) (v := ?_) (a' := ?_) #[true, true, true, true, true, true, true, true, true, true, true, true, false, false] rfl rfl (by kernel_rfl) (fun _ _ _ h => h) (Or.inl ⟨by rfl, ?_⟩) ?_ ?_
          rotate_left
          · intro w'
            go_simp
            with_reducible rfl
          rotate_left
          · simp only [Act.put, List.setIfInBounds_toArray, List.set_cons_zero, List.set_cons_succ, i64_w, i32_w]
            rfl
          refine pure_ (i := 12) (N := some 10) (v := ?_) (a' := ?_) #[true, true, true, true, true, true, true, true, true, true, true, true, true, false] rfl rfl (by kernel_rfl) (fun _ _ _ h => h) (Or.inl ⟨by rfl, ?_⟩) ?_ ?_
          rotate_left
          · intro w'
            go_simp
            with_reducible rfl
          rotate_left
          · simp only [Act.put, List.setIfInBounds_toArray, List.set_cons_zero, List.set_cons_succ, i64_w, i32_w]
            rfl
          refine pure_ (i := 13) (N := some 11) (v := ?_) (a' := ?_) #[true, true, true, true, true, true, true, true, true, true, true, true, true, true] rfl rfl (by kernel_rfl) (fun _ _ _ h => h) (Or.inl ⟨by rfl, ?_⟩) ?_ ?_
          rotate_left
          · intro w'
            go_simp
            with_reducible rfl
          rotate_left
          · simp only [Act.put, List.setIfInBounds_toArray, List.set_cons_zero, List.set_cons_succ, i64_w, i32_w]
            rfl
          refine done_ (by kernel_rfl) ?_
          rw [hgw] at HBv
          have HLv := Lib.hid (HL.out.stamp (c := cO nm) hv (g := 1 + k) (by omega) (by omega) (by omega))
          have HNv : Hid (NamesOf (insS (revN nm (1 + k)).toList N) (stampL L (cO nm) (1 + k))) := Lib.hid (HN.out.step (cO nm) (1 + k))
          have hLl := stampL_len L (cO nm) (1 + k)
          have hNl := ins_len (revN nm (1 + k)).toList N
          generalize stampL L (cO nm) (1 + k) = L6 at HBv HLv HNv hLl
          clear HL HN HBu RNu KRu Bu hzu HBd Bd RNd KRd hzd
          go_wp2_with fail
          have dr2 := (Below.refl u2.heap.size u2).drew
          have HBx := Lib.hid (HBv.out.below dr2)
          have Bx := Lib.hid (below_step Bv.out dr2)
          have RNx := Lib.hid (RowG.below RNv.out dr2 (Nat.le_refl _))
          have KRx := Lib.hid (KRv.out.below dr2 KRv.out.lt)
          have hzx : w2.heap.size ≤ u2.drew.heap.size := by have := dr2.size; omega
          clear dr2 HBv Bv RNv KRv
          refine start_ (n := 11) (S := fun w' => w'.cell? ⟨gr, 0, none⟩ = some (.string nm) ∧ w'.cell? (ad.add i) = some (.int .i64 nx)) (ds := []) #[false, false, false, false, false, false, false, false, false, false, false] (by kernel_rfl) rfl rfl ⟨KRx.out.cell 0, HCE.out _ Bx.out⟩ (fun hHeld => ?_)
          refine pure_ (i := 0) (N := some 53) (v := ?_) (a' := ?_) #[true, false, false, false, false, false, false, false, false, false, false] rfl rfl (by kernel_rfl) (fun _ _ _ h => h) (Or.inl ⟨by rfl, ?_⟩) ?_ ?_
          rotate_left
          · intro w'
            go_simp
            with_reducible rfl
          rotate_left
          · simp only [Act.put, List.setIfInBounds_toArray, List.set_cons_zero, List.set_cons_succ, i64_w, i32_w]
            rfl
          refine pure_ (i := 1) (N := some 54) (v := ?_) (a' := ?_) #[true, true, false, false, false, false, false, false, false, false, false] rfl rfl (by kernel_rfl) (fun _ _ _ h => h) (Or.inl ⟨by rfl, ?_⟩) ?_ ?_
          rotate_left
          · intro w'
            go_simp
            with_reducible rfl
          rotate_left
          · simp only [Act.put, List.setIfInBounds_toArray, List.set_cons_zero, List.set_cons_succ, i64_w, i32_w]
            rfl
          refine pure_ (i := 3) (N := some 56) (v := ?_) (a' := ?_) #[true, true, false, true, false, false, false, false, false, false, false] rfl rfl (by kernel_rfl) (fun _ _ _ h => h) (Or.inl ⟨by rfl, ?_⟩) ?_ ?_
          rotate_left
          · intro w'
            go_simp
            with_reducible rfl
          rotate_left
          · simp only [Act.put, List.setIfInBounds_toArray, List.set_cons_zero, List.set_cons_succ, i64_w, i32_w]
            rfl
          refine pure_ (i := 4) (N := some 57) (v := ?_) (a' := ?_) #[true, true, false, true, true, false, false, false, false, false, false] rfl rfl (by kernel_rfl) (fun _ _ _ h => h) (Or.inl ⟨by rfl, ?_⟩) ?_ ?_
          rotate_left
          · intro w'
            go_simp
            with_reducible rfl
          rotate_left
          · simp only [Act.put, List.setIfInBounds_toArray, List.set_cons_zero, List.set_cons_succ, i64_w, i32_w]
            rfl
          refine pure_ (i := 5) (N := some 58) (v := ?_) (a' := ?_) #[true, true, false, true, true, true, false, false, false, false, false] rfl rfl (by kernel_rfl) (fun _ _ _ h => h) (Or.inl ⟨by rfl, ?_⟩) ?_ ?_
          rotate_left
          · intro w'
            go_simp
            with_reducible rfl
          rotate_left
          · simp only [Act.put, List.setIfInBounds_toArray, List.set_cons_zero, List.set_cons_succ, i64_w, i32_w]
            rfl
          refine take_ (i := 2) (N := some 55) (v := ?_) (a' := ?_) #[true, true, true, true, true, true, false, false, false, false, false] rfl rfl (by kernel_rfl) (fun _ _ _ h => h) (Or.inl ⟨by rfl, ?_⟩) hHeld ?_ ?_
          rotate_left
          · rintro w' ⟨s0, s1⟩
            go_simp
            with_reducible rfl
          rotate_left
          · simp only [Act.put, List.setIfInBounds_toArray, List.set_cons_zero, List.set_cons_succ, i64_w, i32_w]
            rfl
          refine take_ (i := 6) (N := some 59) (v := ?_) (a' := ?_) #[true, true, true, true, true, true, true, false, false, false, false] rfl rfl (by kernel_rfl) (fun _ _ _ h => h) (Or.inl ⟨by rfl, ?_⟩) hHeld ?_ ?_
          rotate_left
          · rintro w' ⟨s0, s1⟩
            go_simp
            with_reducible rfl
          rotate_left
          · simp only [Act.put, List.setIfInBounds_toArray, List.set_cons_zero, List.set_cons_succ, i64_w, i32_w]
            rfl
          refine one_ (i := 7) (N := some 60) #[true, true, true, true, true, true, true, true, false, false, false] rfl rfl (by kernel_rfl) (by decide) (fun K hK => ?_)
          refine goes_ Tryd.func13 (by kernel_rfl) rfl #[.int .i64 nx, .int .i64 130] (by rfl) rfl rfl (by simp only [List.map_toArray, List.map_cons, List.map_nil]; rfl) ?_
          with_reducible refine (damperlaw12_within.calls nx 130 k _ hwk.out).mono ?_
          rintro e u3 ⟨rfl, hdu_⟩
          have hu3 := hdu_.below
          have HBy := Lib.hid (HBx.out.below hu3)
          have By := Lib.hid (below_step Bx.out hu3)
          have RNy := Lib.hid (RowG.below RNx.out hu3 (Nat.le_refl _))
          have KRy := Lib.hid (KRx.out.below hu3 KRx.out.lt)
          have hzy : w2.heap.size ≤ u3.heap.size := by have := hu3.size; omega
          clear hdu_ hu3
          refine ⟨_, rfl, ?_⟩
          refine hK.out _ _ ⟨KRy.out.cell 0, HCE.out _ By.out⟩ (fun hHeld => ?_)
          clear hK K
          refine norm_ (a' := ?_) ?_ ?_
          rotate_left
          · show Act.put _ (some 60) _ = _
            simp only [Act.put, List.setIfInBounds_toArray, List.set_cons_zero, List.set_cons_succ, i64_w, i32_w]
            rfl
          refine pure_ (i := 8) (N := some 61) (v := ?_) (a' := ?_) #[true, true, true, true, true, true, true, true, true, false, false] rfl rfl (by kernel_rfl) (fun _ _ _ h => h) (Or.inl ⟨by rfl, ?_⟩) ?_ ?_
          rotate_left
          · intro w'
            go_simp
            with_reducible rfl
          rotate_left
          · simp only [Act.put, List.setIfInBounds_toArray, List.set_cons_zero, List.set_cons_succ, i64_w, i32_w]
            rfl
          refine one_ (i := 9) (N := some 62) #[true, true, true, true, true, true, true, true, true, true, false] rfl rfl (by kernel_rfl) (by decide) (fun K hK => ?_)
          refine goes_ Tryd.func16 (by kernel_rfl) rfl #[.string nm, .int .i64 (wrap64 (1 + k))] (by rfl) rfl rfl (by simp only [List.map_toArray, List.map_cons, List.map_nil]; rfl) ?_
          with_reducible refine (rrev_calls nm hv (wrap64 (1 + k)) hg1_ hg2_ _).mono ?_
          rintro e u4 ⟨rfl, hu4⟩
          have HBz := Lib.hid (HBy.out.below hu4)
          have Bz := Lib.hid (below_step By.out hu4)
          have RNz := Lib.hid (RowG.below RNy.out hu4 (Nat.le_refl _))
          have KRz := Lib.hid (KRy.out.below hu4 KRy.out.lt)
          have hzz : w2.heap.size ≤ u4.heap.size := by have := hu4.size; omega
          clear hu4
          refine ⟨_, rfl, ?_⟩
          refine hK.out _ _ ⟨KRz.out.cell 0, HCE.out _ Bz.out⟩ (fun hHeld => ?_)
          clear hK K
          refine norm_ (a' := ?_) ?_ ?_
          rotate_left
          · show Act.put _ (some 62) _ = _
            simp only [Act.put, List.setIfInBounds_toArray, List.set_cons_zero, List.set_cons_succ, i64_w, i32_w]
            rfl
          refine pure_ (i := 10) (N := some 63) (v := ?_) (a' := ?_) #[true, true, true, true, true, true, true, true, true, true, true] rfl rfl (by kernel_rfl) (fun _ _ _ h => h) (Or.inl ⟨by rfl, ?_⟩) ?_ ?_
          rotate_left
          · intro w'
            go_simp
            with_reducible rfl
          rotate_left
          · simp only [Act.put, List.setIfInBounds_toArray, List.set_cons_zero, List.set_cons_succ, i64_w, i32_w]
            rfl
          refine done_ (by kernel_rfl) ?_
          clear HBx Bx RNx KRx HBy By RNy KRy
          have hN1 : N.length ≤ 1000 := by omega
          go_wp2_with fail
          with_reducible refine (put_calls w2.heap.size _ N (revN nm (1 + k)) _ RNz.out hzz hN1).mono ?_
          rintro e w6 ⟨v6, rfl, R6, hb6⟩
          have HB6 := Lib.hid (HBz.out.below hb6)
          have B6 := Lib.hid (below_step Bz.out hb6)
          have hz6 : w2.heap.size ≤ w6.heap.size := by have := hb6.size; omega
          have RN6 := Lib.hid R6
          clear R6 hb6 HBz Bz RNz KRz
          go_wp2_with fail
          go_roundw
          case rel => exact ⟨i + 1, L6, insS (revN nm (1 + k)).toList N, by omega, by omega, by go_num, HB6, HLv, HNv, by omega, by omega, RN6, B6, hz6⟩
          case measure => simp [vI]; omega
      · obtain rfl : i = 30 := by omega
        go_wp2_with fail
        with_reducible refine (all_calls HB.out HL.out).mono ?_
        rintro e we ⟨v, rfl, re, hbe⟩
        have hsm := HN.out.same HL.out
        rw [hsm] at re
        have RE := Lib.hid re
        have RN' := Lib.hid (RowG.below RN.out hbe (Nat.le_refl _))
        have BE := Lib.hid (below_step BB.out hbe)
        have hNl : N.length ≤ 1000000 := by omega
        clear re hbe hsm
        go_wp2_with fail
        with_reducible refine (same_calls _ RE.out RN'.out hNl rfl).mono ?_
        rintro e wf ⟨rfl, hdf⟩
        have BF := Lib.hid (below_step BE.out hdf.below)
        clear hdf
        go_wp2_with fail
        go_ret
        exact ⟨rfl, BF.out⟩
    · obtain rfl : i = l0.length := by omega
      go_wp2_with fail
      with_reducible refine (all_calls HB.out HL.out).mono ?_
      rintro e we ⟨v, rfl, re, hbe⟩
      have hsm := HN.out.same HL.out
      rw [hsm] at re
      have RE := Lib.hid re
      have RN' := Lib.hid (RowG.below RN.out hbe (Nat.le_refl _))
      have BE := Lib.hid (below_step BB.out hbe)
      have hNl : N.length ≤ 1000000 := by omega
      clear re hbe hsm
      go_wp2_with fail
      with_reducible refine (same_calls _ RE.out RN'.out hNl rfl).mono ?_
      rintro e wf ⟨rfl, hdf⟩
      have BF := Lib.hid (below_step BE.out hdf.below)
      clear hdf
      go_wp2_with fail
      go_ret
      exact ⟨rfl, BF.out⟩

end Go.Proofs.YtmiojmnifnnncaaDoor.PA
