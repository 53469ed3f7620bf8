/- StampStays: the walk. (Printed by stamplaws.py and genx.py.) -/
import Derived.Test.YtmiojmnifnnncaaDoorSCfg
set_option linter.unusedSimpArgs false
set_option linter.unusedVariables false
namespace Go.Proofs.YtmiojmnifnnncaaDoor.PA
open Go.RowKit Go.Shelf Go.Lib Go.Sort Go.Maps Go.Proofs.YtmiojmnifnnncaaDoorW.PrintWords Go.Proofs.YtmiojmnifnnncaaDoorW.PrintLast

abbrev nmWeb : ByteArray := ⟨#[119, 101, 98]⟩
theorem nmWeb_valid : ValidN nmWeb := ⟨by decide, by decide, by decide, by decide, by decide⟩
theorem cfgOf_web (c : CfgM) : (cfgOf c 0).nm = nmWeb := rfl
theorem encC_nm {c : CfgM} {n : ByteArray} (h : c.nm = n) : encC c = .agg #[.string n, .int .i64 c.img, .int .i64 c.conc, .int .i64 c.mn, .int .i64 c.mx, .int .i64 c.grc] := by subst h; rfl
theorem hold_cfg {wr w : World} (h : Below wr.heap.size wr w) : ∃ g w5, w5 = w.alloc (.cells #[.string ⟨#[]⟩, .int .i64 0, .int .i64 0, .int .i64 0, .int .i64 0, .int .i64 0] 27) ∧ g = w.heap.size ∧ Blk w5 g #[.string ⟨#[]⟩, .int .i64 0, .int .i64 0, .int .i64 0, .int .i64 0, .int .i64 0] 27 ∧ wr.heap.size ≤ g ∧ Below wr.heap.size wr w5 ∧ Below w.heap.size w w5 :=
  ⟨_, _, rfl, rfl, Blk.new _ _ _, h.size, h.alloc h.size _, (Below.refl _ _).alloc (Nat.le_refl _) _⟩
theorem hold_cfgD {wr w : World} (h : Below wr.heap.size wr w.drew) : ∃ g w5, w5 = (w.alloc (.cells #[.string ⟨#[]⟩, .int .i64 0, .int .i64 0, .int .i64 0, .int .i64 0, .int .i64 0] 27)).drew ∧ g = w.heap.size ∧ Blk w5 g #[.string ⟨#[]⟩, .int .i64 0, .int .i64 0, .int .i64 0, .int .i64 0, .int .i64 0] 27 ∧ wr.heap.size ≤ g ∧ Below wr.heap.size wr w5 ∧ Below w.drew.heap.size w.drew w5 :=
  ⟨_, _, rfl, rfl, Blk.new w.drew _ _, h.size, h.alloc h.size _, (Below.refl _ _).alloc (Nat.le_refl _) _⟩
theorem Blk.set6 {w : World} {p : Nat} {t : TypeId} {a0 a1 a2 a3 a4 a5 : Value} (h : Blk w p #[a0, a1, a2, a3, a4, a5] t) (v0 v1 v2 v3 v4 v5 : Value) :
    Blk ((((((w.setCell ⟨p, 0, none⟩ v0).setCell ⟨p, 1, none⟩ v1).setCell ⟨p, 2, none⟩ v2).setCell ⟨p, 3, none⟩ v3).setCell ⟨p, 4, none⟩ v4).setCell ⟨p, 5, none⟩ v5) p #[v0, v1, v2, v3, v4, v5] t :=
  (((((h.set 0 v0 rfl).set 1 v1 rfl).set 2 v2 rfl).set 3 v3 rfl).set 4 v4 rfl).set 5 v5 rfl
theorem Chg.set6 (w : World) (p : Nat) (v0 v1 v2 v3 v4 v5 : Value) : Chg (fun k => k = p) w ((((((w.setCell ⟨p, 0, none⟩ v0).setCell ⟨p, 1, none⟩ v1).setCell ⟨p, 2, none⟩ v2).setCell ⟨p, 3, none⟩ v3).setCell ⟨p, 4, none⟩ v4).setCell ⟨p, 5, none⟩ v5) :=
  ((((((Chg.refl (fun k => k = p) w).setCell (a := ⟨p, 0, none⟩) (fun _ => rfl) _).setCell (a := ⟨p, 1, none⟩) (fun _ => rfl) _).setCell (a := ⟨p, 2, none⟩) (fun _ => rfl) _).setCell (a := ⟨p, 3, none⟩) (fun _ => rfl) _).setCell (a := ⟨p, 4, none⟩) (fun _ => rfl) _).setCell (a := ⟨p, 5, none⟩) (fun _ => rfl) _
attribute [local go_sem high] eqA42
/-- What was stamped first is there; none is proved. -/
structure Stay (L : List RevM) (c : CfgM) (g : Int) : Prop where
  find : findR L (revN nmWeb g).data.toList = some ⟨c, g, false⟩
  none : ∀ r ∈ L, r.ok = false
theorem Stay.first {c : CfgM} (h : c.nm = nmWeb) (g : Int) : Stay [⟨c, g, false⟩] c g := ⟨by
  unfold findR
  rw [List.find?_cons, show ((⟨c, g, false⟩ : RevM).key == (revN nmWeb g).data.toList) = true from by show ((revN c.nm g).data.toList == (revN nmWeb g).data.toList) = true; rw [h]; simp], fun r hr => by rw [List.mem_singleton.1 hr]⟩
theorem Stay.stamp {L : List RevM} {c : CfgM} {g : Int} (h : Stay L c g) (d : CfgM) (k : Int) : Stay (stampL L d k) c g := by
  obtain ⟨h1, h2⟩ := h
  refine ⟨?_, fun r hr => ?_⟩
  · unfold stampL
    split
    · unfold findR at h1 ⊢
      rw [List.find?_append, h1]
      rfl
    · exact h1
  · unfold stampL at hr
    split at hr
    · rcases List.mem_append.1 hr with hr | hr
      · exact h2 r hr
      · rw [List.mem_singleton.1 hr]
    · exact h2 r hr
theorem Stay.again {L : List RevM} {c : CfgM} {g : Int} (h : Stay L c g) {d : CfgM} (hd : d.nm = nmWeb) : stampL L d g = L := by
  unfold stampL
  rw [hd, h.find]
  rfl
theorem Stay.provedL {L : List RevM} {c : CfgM} {g : Int} (h : Stay L c g) (x : List UInt8) : provedL L x = false := by
  unfold PA.provedL
  rw [List.any_eq_false]
  intro r hr
  rw [h.none r hr]
  simp

set_option maxRecDepth 100000 in
set_option maxHeartbeats 16000000 in
theorem stays_law (x0 : CfgM) (x1 : CfgM) (A2 : Option Addr) (c2 : Nat) (l2 : List StepM) (a3 : Int) (w : World) (ht : ∀ w', Below w.heap.size w w' → Pow10 w') (hr2 : StepsAt w A2 l2) (hc2 : l2.length ≤ c2) :
    Calls Tryd.prog 4 #[.agg #[.string x0.nm, .int .i64 x0.img, .int .i64 x0.conc, .int .i64 x0.mn, .int .i64 x0.mx, .int .i64 x0.grc], .agg #[.string x1.nm, .int .i64 x1.img, .int .i64 x1.conc, .int .i64 x1.mn, .int .i64 x1.mx, .int .i64 x1.grc], .slice A2 l2.length c2, .int .i64 a3] w fun e w' => e = .returned (.bool true) ∧ Below w.heap.size w w' := by
  have HT := Lib.hid ht
  have HR2 := Lib.hid hr2
  clear ht hr2
  go_enter Tryd.func4, Tryd.ntmps4
  obtain ⟨wa, hwa⟩ : ∃ wa, wa = w.alloc (.cells #[.string x0.nm, .int .i64 x0.img, .int .i64 x0.conc, .int .i64 x0.mn, .int .i64 x0.mx, .int .i64 x0.grc] 27) := ⟨_, rfl⟩
  have bwa : Below w.heap.size w wa := by rw [hwa]; exact (Below.refl _ _).alloc (Nat.le_refl _) _
  have ka : Blk wa w.heap.size #[.string x0.nm, .int .i64 x0.img, .int .i64 x0.conc, .int .i64 x0.mn, .int .i64 x0.mx, .int .i64 x0.grc] 27 := by rw [hwa]; exact Blk.new _ _ _
  obtain ⟨wb, hwb⟩ : ∃ wb, wb = wa.alloc (.cells #[.string x1.nm, .int .i64 x1.img, .int .i64 x1.conc, .int .i64 x1.mn, .int .i64 x1.mx, .int .i64 x1.grc] 27) := ⟨_, rfl⟩
  have bwb : Below wa.heap.size wa wb := by rw [hwb]; exact (Below.refl _ _).alloc (Nat.le_refl _) _
  have kb : Blk wb wa.heap.size #[.string x1.nm, .int .i64 x1.img, .int .i64 x1.conc, .int .i64 x1.mn, .int .i64 x1.mx, .int .i64 x1.grc] 27 := by rw [hwb]; exact Blk.new _ _ _
  obtain ⟨ga, hga⟩ : ∃ ga, ga = w.heap.size := ⟨_, rfl⟩
  obtain ⟨gb, hgb⟩ : ∃ gb, gb = ga + 1 := ⟨_, rfl⟩
  have hgb' : wa.heap.size = gb := by rw [hwa, hgb, hga]; simp
  have gaw : w.heap.size ≤ ga := by omega
  have gbw : w.heap.size ≤ gb := by have := bwa.size; omega
  rw [← hga] at ka
  rw [hgb'] at kb
  have KA0 := Lib.hid (ka.below bwb ka.lt)
  have KB0 := Lib.hid kb
  have B0 := Lib.hid (below_step bwa bwb)
  clear ka kb bwa bwb
  go_upto_region 1 with fail
  rw [← hwa, ← hga, ← hwb, ← hgb]
  clear hwa hga hwb hgb hgb'
  go_wp2_with fail
  refine (known12 _ (fun w' hb => HT.out w' (below_step B0.out hb))).mono ?_
  rintro e w1 ⟨rfl, hb1⟩
  have KA1 := Lib.hid (KA0.out.below hb1 KA0.out.lt)
  have KB1 := Lib.hid (KB0.out.below hb1 KB0.out.lt)
  have B1 := Lib.hid (below_step B0.out hb1)
  clear hb1 KA0 KB0 B0
  go_wp2_with fail
  refine (new_calls w1).mono ?_
  rintro e w2 ⟨p, b1, b2, rfl, hB, ⟨hp, h1, h2⟩, hb2⟩
  have z1 := B1.out.size
  have hp : w.heap.size ≤ p := by omega
  have h1 : w.heap.size ≤ b1 := by omega
  have h2 : w.heap.size ≤ b2 := by omega
  have KA2 := Lib.hid (KA1.out.below hb2 KA1.out.lt)
  have KB2 := Lib.hid (KB1.out.below hb2 KB1.out.lt)
  have HB2 := Lib.hid hB
  have B2 := Lib.hid (below_step B1.out hb2)
  clear hB hb2 z1 KA1 KB1 B1
  go_wp2_with fail
  have hwi := Lib.hid (within12 a3 999999 (by omega) (by omega))
  have q0 := Int.emod_nonneg a3 (b := 999999) (by omega)
  have q1 := Int.emod_lt_of_pos a3 (b := 999999) (by omega)
  refine (damperlaw12_within.calls a3 999999 (a3 % 999999) _ hwi.out).mono ?_
  rintro e w3 ⟨rfl, hdr_⟩
  have hd_ := hdr_.below
  clear hdr_
  clear hwi
  have KA3 := Lib.hid (KA2.out.below hd_ KA2.out.lt)
  have KB3 := Lib.hid (KB2.out.below hd_ KB2.out.lt)
  have HB3 := Lib.hid (HB2.out.below hd_)
  have B3 := Lib.hid (below_step B2.out hd_)
  generalize a3 % 999999 = q at q0 q1 ⊢
  obtain ⟨g, hg⟩ : ∃ g, g = 1 + q := ⟨_, rfl⟩
  have hg0 : 1 ≤ g := by omega
  have hg1 : g ≤ 999999 := by omega
  have HG := Lib.hid hg
  clear hd_ HB2 KA2 KB2 B2 hg
  go_upto_region 7 with fail
  rw [← HG.out]
  clear HG q0 q1
  have dr := (Below.refl w3.heap.size w3).drew
  have KAd := Lib.hid (KA3.out.below dr KA3.out.lt)
  have KBd := Lib.hid (KB3.out.below dr KB3.out.lt)
  have HBd := Lib.hid (HB3.out.below dr)
  have BD := Lib.hid (below_step B3.out dr)
  clear dr KA3 KB3 HB3 B3
  obtain ⟨ca, hca⟩ : ∃ cn, cn = cfgOf x0 0 := ⟨_, rfl⟩
  have hna : ca.nm = nmWeb := hca ▸ cfgOf_web x0
  have CCA := Lib.hid (fun w' => cfg_calls x0 0 w' (v := .agg #[.string x0.nm, .int .i64 x0.img, .int .i64 x0.conc, .int .i64 x0.mn, .int .i64 x0.mx, .int .i64 x0.grc]) rfl (r := .agg #[.string nmWeb, .int .i64 ca.img, .int .i64 ca.conc, .int .i64 ca.mn, .int .i64 ca.mx, .int .i64 ca.grc]) (by rw [← hca]; exact encC_nm hna))
  obtain ⟨cb, hcb⟩ : ∃ cn, cn = cfgOf x1 0 := ⟨_, rfl⟩
  have hnb : cb.nm = nmWeb := hcb ▸ cfgOf_web x1
  have CCB := Lib.hid (fun w' => cfg_calls x1 0 w' (v := .agg #[.string x1.nm, .int .i64 x1.img, .int .i64 x1.conc, .int .i64 x1.mn, .int .i64 x1.mx, .int .i64 x1.grc]) rfl (r := .agg #[.string nmWeb, .int .i64 cb.img, .int .i64 cb.conc, .int .i64 cb.mn, .int .i64 cb.mx, .int .i64 cb.grc]) (by rw [← hcb]; exact encC_nm hnb))
  clear hca hcb
  go_wp2_with fail
  refine start_ (n := 8) (S := fun w' => w'.cell? ⟨ga, 0, none⟩ = some (.string x0.nm) ∧ w'.cell? ⟨ga, 1, none⟩ = some (.int .i64 x0.img) ∧ w'.cell? ⟨ga, 2, none⟩ = some (.int .i64 x0.conc) ∧ w'.cell? ⟨ga, 3, none⟩ = some (.int .i64 x0.mn) ∧ w'.cell? ⟨ga, 4, none⟩ = some (.int .i64 x0.mx) ∧ w'.cell? ⟨ga, 5, none⟩ = some (.int .i64 x0.grc) ∧ w'.cell? ⟨gb, 0, none⟩ = some (.string x1.nm) ∧ w'.cell? ⟨gb, 1, none⟩ = some (.int .i64 x1.img) ∧ w'.cell? ⟨gb, 2, none⟩ = some (.int .i64 x1.conc) ∧ w'.cell? ⟨gb, 3, none⟩ = some (.int .i64 x1.mn) ∧ w'.cell? ⟨gb, 4, none⟩ = some (.int .i64 x1.mx) ∧ w'.cell? ⟨gb, 5, none⟩ = some (.int .i64 x1.grc) ∧ Below w3.drew.heap.size w3.drew w') (ds := [6, 7]) #[false, false, false, false, false, false, false, false] (by kernel_rfl) rfl rfl ⟨KAd.out.cell 0, KAd.out.cell 1, KAd.out.cell 2, KAd.out.cell 3, KAd.out.cell 4, KAd.out.cell 5, KBd.out.cell 0, KBd.out.cell 1, KBd.out.cell 2, KBd.out.cell 3, KBd.out.cell 4, KBd.out.cell 5, Below.refl _ _⟩ (fun hHeld => ?_)
  refine take_ (i := 0) (N := some 28) (v := ?_) (a' := ?_) #[true, false, false, false, false, false, false, false] rfl rfl (by kernel_rfl) (fun _ _ _ h => h) (Or.inl ⟨by rfl, ?_⟩) hHeld ?_ ?_
  rotate_left
  · rintro w' ⟨s0, s1, s2, s3, s4, s5, s6, s7, s8, s9, s10, s11, s12⟩
    go_simp
    with_reducible rfl
  rotate_left
  · simp only [Act.put, List.setIfInBounds_toArray, List.set_cons_zero, List.set_cons_succ, i64_w, i32_w]
    rfl
  refine take_ (i := 2) (N := some 30) (v := ?_) (a' := ?_) #[true, false, true, false, false, false, false, false] rfl rfl (by kernel_rfl) (fun _ _ _ h => h) (Or.inl ⟨by rfl, ?_⟩) hHeld ?_ ?_
  rotate_left
  · rintro w' ⟨s0, s1, s2, s3, s4, s5, s6, s7, s8, s9, s10, s11, s12⟩
    go_simp
    with_reducible rfl
  rotate_left
  · simp only [Act.put, List.setIfInBounds_toArray, List.set_cons_zero, List.set_cons_succ, i64_w, i32_w]
    rfl
  refine join_ (σ := Nat × Nat) 2 #[true, true, true, true, true, true, false, false] (fun s => [(29, .agg #[.string nmWeb, .int .i64 ca.img, .int .i64 ca.conc, .int .i64 ca.mn, .int .i64 ca.mx, .int .i64 ca.grc]), (31, .agg #[.string nmWeb, .int .i64 cb.img, .int .i64 cb.conc, .int .i64 cb.mn, .int .i64 cb.mx, .int .i64 cb.grc]), (11, .pointer (some ⟨s.1, 0, none⟩)), (12, .pointer (some ⟨s.2, 0, none⟩))]) (fun s w' => Blk w' s.1 #[.string ⟨#[]⟩, .int .i64 0, .int .i64 0, .int .i64 0, .int .i64 0, .int .i64 0] 27 ∧ Blk w' s.2 #[.string ⟨#[]⟩, .int .i64 0, .int .i64 0, .int .i64 0, .int .i64 0, .int .i64 0] 27 ∧ s.1 ≠ s.2 ∧ w3.drew.heap.size ≤ s.1 ∧ w3.drew.heap.size ≤ s.2 ∧ Below w3.drew.heap.size w3.drew w') ?_ ?_
  rotate_left
  · intro hCont
    refine three_ (i := 1) (j := 4) (k := 5) (Ni := some 29) (Nj := some 11) (Nk := some 12) #[true, true, true, false, false, false, false, false] #[true, false, true, false, true, false, false, false] #[true, false, true, false, false, true, false, false] rfl rfl rfl rfl rfl rfl (by kernel_rfl) (by decide) (by decide) (by decide) (fun K hK => ?_) (fun K hK => ?_) (fun K hK => ?_)
    · skip
      refine goes_ Tryd.func18 (by kernel_rfl) rfl #[.agg #[.string x0.nm, .int .i64 x0.img, .int .i64 x0.conc, .int .i64 x0.mn, .int .i64 x0.mx, .int .i64 x0.grc], .int .i64 0] (by rfl) rfl rfl (by simp only [List.map_toArray, List.map_cons, List.map_nil]; rfl) ?_
      with_reducible refine (CCA.out _).mono ?_
      rintro e wc ⟨rfl, hcc⟩
      have hbl := below_step hHeld.2.2.2.2.2.2.2.2.2.2.2.2 hcc
      refine ⟨_, rfl, ?_⟩
      refine hK.out _ _ ⟨(KAd.out.below hbl KAd.out.lt).cell 0, (KAd.out.below hbl KAd.out.lt).cell 1, (KAd.out.below hbl KAd.out.lt).cell 2, (KAd.out.below hbl KAd.out.lt).cell 3, (KAd.out.below hbl KAd.out.lt).cell 4, (KAd.out.below hbl KAd.out.lt).cell 5, (KBd.out.below hbl KBd.out.lt).cell 0, (KBd.out.below hbl KBd.out.lt).cell 1, (KBd.out.below hbl KBd.out.lt).cell 2, (KBd.out.below hbl KBd.out.lt).cell 3, (KBd.out.below hbl KBd.out.lt).cell 4, (KBd.out.below hbl KBd.out.lt).cell 5, hbl⟩ (fun hHeld => ?_)
      clear hK K
      refine norm_ (a' := ?_) ?_ ?_
      rotate_left
      · show Act.put _ (some 29) _ = _
        simp only [Act.put, List.setIfInBounds_toArray, List.set_cons_zero, List.set_cons_succ, i64_w, i32_w]
        rfl
      refine three_ (i := 3) (j := 4) (k := 5) (Ni := some 31) (Nj := some 11) (Nk := some 12) #[true, true, true, true, false, false, false, false] #[true, true, true, false, true, false, false, false] #[true, true, true, false, false, true, false, false] rfl rfl rfl rfl rfl rfl (by kernel_rfl) (by decide) (by decide) (by decide) (fun K hK => ?_) (fun K hK => ?_) (fun K hK => ?_)
      · skip
        refine goes_ Tryd.func18 (by kernel_rfl) rfl #[.agg #[.string x1.nm, .int .i64 x1.img, .int .i64 x1.conc, .int .i64 x1.mn, .int .i64 x1.mx, .int .i64 x1.grc], .int .i64 0] (by rfl) rfl rfl (by simp only [List.map_toArray, List.map_cons, List.map_nil]; rfl) ?_
        with_reducible refine (CCB.out _).mono ?_
        rintro e we ⟨rfl, hcc⟩
        have hbl := below_step hHeld.2.2.2.2.2.2.2.2.2.2.2.2 hcc
        refine ⟨_, rfl, ?_⟩
        refine hK.out _ _ ⟨(KAd.out.below hbl KAd.out.lt).cell 0, (KAd.out.below hbl KAd.out.lt).cell 1, (KAd.out.below hbl KAd.out.lt).cell 2, (KAd.out.below hbl KAd.out.lt).cell 3, (KAd.out.below hbl KAd.out.lt).cell 4, (KAd.out.below hbl KAd.out.lt).cell 5, (KBd.out.below hbl KBd.out.lt).cell 0, (KBd.out.below hbl KBd.out.lt).cell 1, (KBd.out.below hbl KBd.out.lt).cell 2, (KBd.out.below hbl KBd.out.lt).cell 3, (KBd.out.below hbl KBd.out.lt).cell 4, (KBd.out.below hbl KBd.out.lt).cell 5, hbl⟩ (fun hHeld => ?_)
        clear hK K
        refine norm_ (a' := ?_) ?_ ?_
        rotate_left
        · show Act.put _ (some 31) _ = _
          simp only [Act.put, List.setIfInBounds_toArray, List.set_cons_zero, List.set_cons_succ, i64_w, i32_w]
          rfl
        refine two_ (i := 4) (j := 5) (Ni := some 11) (Nj := some 12) #[true, true, true, true, true, false, false, false] #[true, true, true, true, false, true, false, false] rfl rfl rfl rfl (by kernel_rfl) (by decide) (by decide) (fun K hK => ?_) (fun K hK => ?_)
        · skip
          refine value_ (w1 := ?_) (v := ?_) (by rfl) rfl ?_ ?_
          rotate_left 2
          · go_simp
            constructor
            · rfl
            · rfl
          obtain ⟨g1_, w1_, hw_, hg_, k1, hz1, hbl, hst⟩ := hold_cfg hHeld.2.2.2.2.2.2.2.2.2.2.2.2
          rw [← hw_, ← hg_]
          clear hw_ hg_ hst
          refine hK.out _ _ ⟨(KAd.out.below hbl KAd.out.lt).cell 0, (KAd.out.below hbl KAd.out.lt).cell 1, (KAd.out.below hbl KAd.out.lt).cell 2, (KAd.out.below hbl KAd.out.lt).cell 3, (KAd.out.below hbl KAd.out.lt).cell 4, (KAd.out.below hbl KAd.out.lt).cell 5, (KBd.out.below hbl KBd.out.lt).cell 0, (KBd.out.below hbl KBd.out.lt).cell 1, (KBd.out.below hbl KBd.out.lt).cell 2, (KBd.out.below hbl KBd.out.lt).cell 3, (KBd.out.below hbl KBd.out.lt).cell 4, (KBd.out.below hbl KBd.out.lt).cell 5, hbl⟩ (fun hHeld => ?_)
          clear hK K
          refine norm_ (a' := ?_) ?_ ?_
          rotate_left
          · show Act.put _ (some 11) _ = _
            simp only [Act.put, List.setIfInBounds_toArray, List.set_cons_zero, List.set_cons_succ, i64_w, i32_w]
            rfl
          refine one_ (i := 5) (N := some 12) #[true, true, true, true, true, true, false, false] rfl rfl (by kernel_rfl) (by decide) (fun K hK => ?_)
          refine value_ (w1 := ?_) (v := ?_) (by rfl) rfl ?_ ?_
          rotate_left 2
          · go_simp
            constructor
            · rfl
            · rfl
          obtain ⟨g2_, w2_, hw_, hg_, k2, hz2, hbl, hst⟩ := hold_cfg hHeld.2.2.2.2.2.2.2.2.2.2.2.2
          have hne : g1_ ≠ g2_ := by have := k1.lt; omega
          have k1 := k1.below hst k1.lt
          rw [← hw_, ← hg_]
          clear hw_ hg_ hst
          refine hK.out _ _ ⟨(KAd.out.below hbl KAd.out.lt).cell 0, (KAd.out.below hbl KAd.out.lt).cell 1, (KAd.out.below hbl KAd.out.lt).cell 2, (KAd.out.below hbl KAd.out.lt).cell 3, (KAd.out.below hbl KAd.out.lt).cell 4, (KAd.out.below hbl KAd.out.lt).cell 5, (KBd.out.below hbl KBd.out.lt).cell 0, (KBd.out.below hbl KBd.out.lt).cell 1, (KBd.out.below hbl KBd.out.lt).cell 2, (KBd.out.below hbl KBd.out.lt).cell 3, (KBd.out.below hbl KBd.out.lt).cell 4, (KBd.out.below hbl KBd.out.lt).cell 5, hbl⟩ (fun hHeld => ?_)
          clear hK K
          refine norm_ (a' := ?_) ?_ ?_
          rotate_left
          · show Act.put _ (some 12) _ = _
            simp only [Act.put, List.setIfInBounds_toArray, List.set_cons_zero, List.set_cons_succ, i64_w, i32_w]
            rfl
          exact norm_ (by simp only [putAll, Act.put, List.setIfInBounds_toArray, List.set_cons_zero, List.set_cons_succ]) (hCont (g1_, g2_) _ ⟨k1, k2, hne, hz1, hz2, hbl⟩)
        · skip
          refine value_ (w1 := ?_) (v := ?_) (by rfl) rfl ?_ ?_
          rotate_left 2
          · go_simp
            constructor
            · rfl
            · rfl
          obtain ⟨g2_, w2_, hw_, hg_, k2, hz2, hbl, hst⟩ := hold_cfg hHeld.2.2.2.2.2.2.2.2.2.2.2.2
          rw [← hw_, ← hg_]
          clear hw_ hg_ hst
          refine hK.out _ _ ⟨(KAd.out.below hbl KAd.out.lt).cell 0, (KAd.out.below hbl KAd.out.lt).cell 1, (KAd.out.below hbl KAd.out.lt).cell 2, (KAd.out.below hbl KAd.out.lt).cell 3, (KAd.out.below hbl KAd.out.lt).cell 4, (KAd.out.below hbl KAd.out.lt).cell 5, (KBd.out.below hbl KBd.out.lt).cell 0, (KBd.out.below hbl KBd.out.lt).cell 1, (KBd.out.below hbl KBd.out.lt).cell 2, (KBd.out.below hbl KBd.out.lt).cell 3, (KBd.out.below hbl KBd.out.lt).cell 4, (KBd.out.below hbl KBd.out.lt).cell 5, hbl⟩ (fun hHeld => ?_)
          clear hK K
          refine norm_ (a' := ?_) ?_ ?_
          rotate_left
          · show Act.put _ (some 12) _ = _
            simp only [Act.put, List.setIfInBounds_toArray, List.set_cons_zero, List.set_cons_succ, i64_w, i32_w]
            rfl
          refine one_ (i := 4) (N := some 11) #[true, true, true, true, true, true, false, false] rfl rfl (by kernel_rfl) (by decide) (fun K hK => ?_)
          refine value_ (w1 := ?_) (v := ?_) (by rfl) rfl ?_ ?_
          rotate_left 2
          · go_simp
            constructor
            · rfl
            · rfl
          obtain ⟨g1_, w1_, hw_, hg_, k1, hz1, hbl, hst⟩ := hold_cfg hHeld.2.2.2.2.2.2.2.2.2.2.2.2
          have hne : g1_ ≠ g2_ := by have := k2.lt; omega
          have k2 := k2.below hst k2.lt
          rw [← hw_, ← hg_]
          clear hw_ hg_ hst
          refine hK.out _ _ ⟨(KAd.out.below hbl KAd.out.lt).cell 0, (KAd.out.below hbl KAd.out.lt).cell 1, (KAd.out.below hbl KAd.out.lt).cell 2, (KAd.out.below hbl KAd.out.lt).cell 3, (KAd.out.below hbl KAd.out.lt).cell 4, (KAd.out.below hbl KAd.out.lt).cell 5, (KBd.out.below hbl KBd.out.lt).cell 0, (KBd.out.below hbl KBd.out.lt).cell 1, (KBd.out.below hbl KBd.out.lt).cell 2, (KBd.out.below hbl KBd.out.lt).cell 3, (KBd.out.below hbl KBd.out.lt).cell 4, (KBd.out.below hbl KBd.out.lt).cell 5, hbl⟩ (fun hHeld => ?_)
          clear hK K
          refine norm_ (a' := ?_) ?_ ?_
          rotate_left
          · show Act.put _ (some 11) _ = _
            simp only [Act.put, List.setIfInBounds_toArray, List.set_cons_zero, List.set_cons_succ, i64_w, i32_w]
            rfl
          exact norm_ (by simp only [putAll, Act.put, List.setIfInBounds_toArray, List.set_cons_zero, List.set_cons_succ]) (hCont (g1_, g2_) _ ⟨k1, k2, hne, hz1, hz2, hbl⟩)
      · skip
        refine value_ (w1 := ?_) (v := ?_) (by rfl) rfl ?_ ?_
        rotate_left 2
        · go_simp
          constructor
          · rfl
          · rfl
        obtain ⟨g1_, w1_, hw_, hg_, k1, hz1, hbl, hst⟩ := hold_cfg hHeld.2.2.2.2.2.2.2.2.2.2.2.2
        rw [← hw_, ← hg_]
        clear hw_ hg_ hst
        refine hK.out _ _ ⟨(KAd.out.below hbl KAd.out.lt).cell 0, (KAd.out.below hbl KAd.out.lt).cell 1, (KAd.out.below hbl KAd.out.lt).cell 2, (KAd.out.below hbl KAd.out.lt).cell 3, (KAd.out.below hbl KAd.out.lt).cell 4, (KAd.out.below hbl KAd.out.lt).cell 5, (KBd.out.below hbl KBd.out.lt).cell 0, (KBd.out.below hbl KBd.out.lt).cell 1, (KBd.out.below hbl KBd.out.lt).cell 2, (KBd.out.below hbl KBd.out.lt).cell 3, (KBd.out.below hbl KBd.out.lt).cell 4, (KBd.out.below hbl KBd.out.lt).cell 5, hbl⟩ (fun hHeld => ?_)
        clear hK K
        refine norm_ (a' := ?_) ?_ ?_
        rotate_left
        · show Act.put _ (some 11) _ = _
          simp only [Act.put, List.setIfInBounds_toArray, List.set_cons_zero, List.set_cons_succ, i64_w, i32_w]
          rfl
        refine two_ (i := 3) (j := 5) (Ni := some 31) (Nj := some 12) #[true, true, true, true, true, false, false, false] #[true, true, true, false, true, true, false, false] rfl rfl rfl rfl (by kernel_rfl) (by decide) (by decide) (fun K hK => ?_) (fun K hK => ?_)
        · skip
          refine goes_ Tryd.func18 (by kernel_rfl) rfl #[.agg #[.string x1.nm, .int .i64 x1.img, .int .i64 x1.conc, .int .i64 x1.mn, .int .i64 x1.mx, .int .i64 x1.grc], .int .i64 0] (by rfl) rfl rfl (by simp only [List.map_toArray, List.map_cons, List.map_nil]; rfl) ?_
          with_reducible refine (CCB.out _).mono ?_
          rintro e we ⟨rfl, hcc⟩
          have hbl := below_step hHeld.2.2.2.2.2.2.2.2.2.2.2.2 hcc
          have k1 := k1.below hcc k1.lt
          refine ⟨_, rfl, ?_⟩
          refine hK.out _ _ ⟨(KAd.out.below hbl KAd.out.lt).cell 0, (KAd.out.below hbl KAd.out.lt).cell 1, (KAd.out.below hbl KAd.out.lt).cell 2, (KAd.out.below hbl KAd.out.lt).cell 3, (KAd.out.below hbl KAd.out.lt).cell 4, (KAd.out.below hbl KAd.out.lt).cell 5, (KBd.out.below hbl KBd.out.lt).cell 0, (KBd.out.below hbl KBd.out.lt).cell 1, (KBd.out.below hbl KBd.out.lt).cell 2, (KBd.out.below hbl KBd.out.lt).cell 3, (KBd.out.below hbl KBd.out.lt).cell 4, (KBd.out.below hbl KBd.out.lt).cell 5, hbl⟩ (fun hHeld => ?_)
          clear hK K
          refine norm_ (a' := ?_) ?_ ?_
          rotate_left
          · show Act.put _ (some 31) _ = _
            simp only [Act.put, List.setIfInBounds_toArray, List.set_cons_zero, List.set_cons_succ, i64_w, i32_w]
            rfl
          refine one_ (i := 5) (N := some 12) #[true, true, true, true, true, true, false, false] rfl rfl (by kernel_rfl) (by decide) (fun K hK => ?_)
          refine value_ (w1 := ?_) (v := ?_) (by rfl) rfl ?_ ?_
          rotate_left 2
          · go_simp
            constructor
            · rfl
            · rfl
          obtain ⟨g2_, w2_, hw_, hg_, k2, hz2, hbl, hst⟩ := hold_cfg hHeld.2.2.2.2.2.2.2.2.2.2.2.2
          have hne : g1_ ≠ g2_ := by have := k1.lt; omega
          have k1 := k1.below hst k1.lt
          rw [← hw_, ← hg_]
          clear hw_ hg_ hst
          refine hK.out _ _ ⟨(KAd.out.below hbl KAd.out.lt).cell 0, (KAd.out.below hbl KAd.out.lt).cell 1, (KAd.out.below hbl KAd.out.lt).cell 2, (KAd.out.below hbl KAd.out.lt).cell 3, (KAd.out.below hbl KAd.out.lt).cell 4, (KAd.out.below hbl KAd.out.lt).cell 5, (KBd.out.below hbl KBd.out.lt).cell 0, (KBd.out.below hbl KBd.out.lt).cell 1, (KBd.out.below hbl KBd.out.lt).cell 2, (KBd.out.below hbl KBd.out.lt).cell 3, (KBd.out.below hbl KBd.out.lt).cell 4, (KBd.out.below hbl KBd.out.lt).cell 5, hbl⟩ (fun hHeld => ?_)
          clear hK K
          refine norm_ (a' := ?_) ?_ ?_
          rotate_left
          · show Act.put _ (some 12) _ = _
            simp only [Act.put, List.setIfInBounds_toArray, List.set_cons_zero, List.set_cons_succ, i64_w, i32_w]
            rfl
          exact norm_ (by simp only [putAll, Act.put, List.setIfInBounds_toArray, List.set_cons_zero, List.set_cons_succ]) (hCont (g1_, g2_) _ ⟨k1, k2, hne, hz1, hz2, hbl⟩)
        · skip
          refine value_ (w1 := ?_) (v := ?_) (by rfl) rfl ?_ ?_
          rotate_left 2
          · go_simp
            constructor
            · rfl
            · rfl
          obtain ⟨g2_, w2_, hw_, hg_, k2, hz2, hbl, hst⟩ := hold_cfg hHeld.2.2.2.2.2.2.2.2.2.2.2.2
          have hne : g1_ ≠ g2_ := by have := k1.lt; omega
          have k1 := k1.below hst k1.lt
          rw [← hw_, ← hg_]
          clear hw_ hg_ hst
          refine hK.out _ _ ⟨(KAd.out.below hbl KAd.out.lt).cell 0, (KAd.out.below hbl KAd.out.lt).cell 1, (KAd.out.below hbl KAd.out.lt).cell 2, (KAd.out.below hbl KAd.out.lt).cell 3, (KAd.out.below hbl KAd.out.lt).cell 4, (KAd.out.below hbl KAd.out.lt).cell 5, (KBd.out.below hbl KBd.out.lt).cell 0, (KBd.out.below hbl KBd.out.lt).cell 1, (KBd.out.below hbl KBd.out.lt).cell 2, (KBd.out.below hbl KBd.out.lt).cell 3, (KBd.out.below hbl KBd.out.lt).cell 4, (KBd.out.below hbl KBd.out.lt).cell 5, hbl⟩ (fun hHeld => ?_)
          clear hK K
          refine norm_ (a' := ?_) ?_ ?_
          rotate_left
          · show Act.put _ (some 12) _ = _
            simp only [Act.put, List.setIfInBounds_toArray, List.set_cons_zero, List.set_cons_succ, i64_w, i32_w]
            rfl
          refine one_ (i := 3) (N := some 31) #[true, true, true, true, true, true, false, false] rfl rfl (by kernel_rfl) (by decide) (fun K hK => ?_)
          refine goes_ Tryd.func18 (by kernel_rfl) rfl #[.agg #[.string x1.nm, .int .i64 x1.img, .int .i64 x1.conc, .int .i64 x1.mn, .int .i64 x1.mx, .int .i64 x1.grc], .int .i64 0] (by rfl) rfl rfl (by simp only [List.map_toArray, List.map_cons, List.map_nil]; rfl) ?_
          with_reducible refine (CCB.out _).mono ?_
          rintro e we ⟨rfl, hcc⟩
          have hbl := below_step hHeld.2.2.2.2.2.2.2.2.2.2.2.2 hcc
          have k1 := k1.below hcc k1.lt
          have k2 := k2.below hcc k2.lt
          refine ⟨_, rfl, ?_⟩
          refine hK.out _ _ ⟨(KAd.out.below hbl KAd.out.lt).cell 0, (KAd.out.below hbl KAd.out.lt).cell 1, (KAd.out.below hbl KAd.out.lt).cell 2, (KAd.out.below hbl KAd.out.lt).cell 3, (KAd.out.below hbl KAd.out.lt).cell 4, (KAd.out.below hbl KAd.out.lt).cell 5, (KBd.out.below hbl KBd.out.lt).cell 0, (KBd.out.below hbl KBd.out.lt).cell 1, (KBd.out.below hbl KBd.out.lt).cell 2, (KBd.out.below hbl KBd.out.lt).cell 3, (KBd.out.below hbl KBd.out.lt).cell 4, (KBd.out.below hbl KBd.out.lt).cell 5, hbl⟩ (fun hHeld => ?_)
          clear hK K
          refine norm_ (a' := ?_) ?_ ?_
          rotate_left
          · show Act.put _ (some 31) _ = _
            simp only [Act.put, List.setIfInBounds_toArray, List.set_cons_zero, List.set_cons_succ, i64_w, i32_w]
            rfl
          exact norm_ (by simp only [putAll, Act.put, List.setIfInBounds_toArray, List.set_cons_zero, List.set_cons_succ]) (hCont (g1_, g2_) _ ⟨k1, k2, hne, hz1, hz2, hbl⟩)
      · skip
        refine value_ (w1 := ?_) (v := ?_) (by rfl) rfl ?_ ?_
        rotate_left 2
        · go_simp
          constructor
          · rfl
          · rfl
        obtain ⟨g2_, w2_, hw_, hg_, k2, hz2, hbl, hst⟩ := hold_cfg hHeld.2.2.2.2.2.2.2.2.2.2.2.2
        rw [← hw_, ← hg_]
        clear hw_ hg_ hst
        refine hK.out _ _ ⟨(KAd.out.below hbl KAd.out.lt).cell 0, (KAd.out.below hbl KAd.out.lt).cell 1, (KAd.out.below hbl KAd.out.lt).cell 2, (KAd.out.below hbl KAd.out.lt).cell 3, (KAd.out.below hbl KAd.out.lt).cell 4, (KAd.out.below hbl KAd.out.lt).cell 5, (KBd.out.below hbl KBd.out.lt).cell 0, (KBd.out.below hbl KBd.out.lt).cell 1, (KBd.out.below hbl KBd.out.lt).cell 2, (KBd.out.below hbl KBd.out.lt).cell 3, (KBd.out.below hbl KBd.out.lt).cell 4, (KBd.out.below hbl KBd.out.lt).cell 5, hbl⟩ (fun hHeld => ?_)
        clear hK K
        refine norm_ (a' := ?_) ?_ ?_
        rotate_left
        · show Act.put _ (some 12) _ = _
          simp only [Act.put, List.setIfInBounds_toArray, List.set_cons_zero, List.set_cons_succ, i64_w, i32_w]
          rfl
        refine two_ (i := 3) (j := 4) (Ni := some 31) (Nj := some 11) #[true, true, true, true, false, true, false, false] #[true, true, true, false, true, true, false, false] rfl rfl rfl rfl (by kernel_rfl) (by decide) (by decide) (fun K hK => ?_) (fun K hK => ?_)
        · skip
          refine goes_ Tryd.func18 (by kernel_rfl) rfl #[.agg #[.string x1.nm, .int .i64 x1.img, .int .i64 x1.conc, .int .i64 x1.mn, .int .i64 x1.mx, .int .i64 x1.grc], .int .i64 0] (by rfl) rfl rfl (by simp only [List.map_toArray, List.map_cons, List.map_nil]; rfl) ?_
          with_reducible refine (CCB.out _).mono ?_
          rintro e we ⟨rfl, hcc⟩
          have hbl := below_step hHeld.2.2.2.2.2.2.2.2.2.2.2.2 hcc
          have k2 := k2.below hcc k2.lt
          refine ⟨_, rfl, ?_⟩
          refine hK.out _ _ ⟨(KAd.out.below hbl KAd.out.lt).cell 0, (KAd.out.below hbl KAd.out.lt).cell 1, (KAd.out.below hbl KAd.out.lt).cell 2, (KAd.out.below hbl KAd.out.lt).cell 3, (KAd.out.below hbl KAd.out.lt).cell 4, (KAd.out.below hbl KAd.out.lt).cell 5, (KBd.out.below hbl KBd.out.lt).cell 0, (KBd.out.below hbl KBd.out.lt).cell 1, (KBd.out.below hbl KBd.out.lt).cell 2, (KBd.out.below hbl KBd.out.lt).cell 3, (KBd.out.below hbl KBd.out.lt).cell 4, (KBd.out.below hbl KBd.out.lt).cell 5, hbl⟩ (fun hHeld => ?_)
          clear hK K
          refine norm_ (a' := ?_) ?_ ?_
          rotate_left
          · show Act.put _ (some 31) _ = _
            simp only [Act.put, List.setIfInBounds_toArray, List.set_cons_zero, List.set_cons_succ, i64_w, i32_w]
            rfl
          refine one_ (i := 4) (N := some 11) #[true, true, true, true, true, true, false, false] rfl rfl (by kernel_rfl) (by decide) (fun K hK => ?_)
          refine value_ (w1 := ?_) (v := ?_) (by rfl) rfl ?_ ?_
          rotate_left 2
          · go_simp
            constructor
            · rfl
            · rfl
          obtain ⟨g1_, w1_, hw_, hg_, k1, hz1, hbl, hst⟩ := hold_cfg hHeld.2.2.2.2.2.2.2.2.2.2.2.2
          have hne : g1_ ≠ g2_ := by have := k2.lt; omega
          have k2 := k2.below hst k2.lt
          rw [← hw_, ← hg_]
          clear hw_ hg_ hst
          refine hK.out _ _ ⟨(KAd.out.below hbl KAd.out.lt).cell 0, (KAd.out.below hbl KAd.out.lt).cell 1, (KAd.out.below hbl KAd.out.lt).cell 2, (KAd.out.below hbl KAd.out.lt).cell 3, (KAd.out.below hbl KAd.out.lt).cell 4, (KAd.out.below hbl KAd.out.lt).cell 5, (KBd.out.below hbl KBd.out.lt).cell 0, (KBd.out.below hbl KBd.out.lt).cell 1, (KBd.out.below hbl KBd.out.lt).cell 2, (KBd.out.below hbl KBd.out.lt).cell 3, (KBd.out.below hbl KBd.out.lt).cell 4, (KBd.out.below hbl KBd.out.lt).cell 5, hbl⟩ (fun hHeld => ?_)
          clear hK K
          refine norm_ (a' := ?_) ?_ ?_
          rotate_left
          · show Act.put _ (some 11) _ = _
            simp only [Act.put, List.setIfInBounds_toArray, List.set_cons_zero, List.set_cons_succ, i64_w, i32_w]
            rfl
          exact norm_ (by simp only [putAll, Act.put, List.setIfInBounds_toArray, List.set_cons_zero, List.set_cons_succ]) (hCont (g1_, g2_) _ ⟨k1, k2, hne, hz1, hz2, hbl⟩)
        · skip
          refine value_ (w1 := ?_) (v := ?_) (by rfl) rfl ?_ ?_
          rotate_left 2
          · go_simp
            constructor
            · rfl
            · rfl
          obtain ⟨g1_, w1_, hw_, hg_, k1, hz1, hbl, hst⟩ := hold_cfg hHeld.2.2.2.2.2.2.2.2.2.2.2.2
          have hne : g1_ ≠ g2_ := by have := k2.lt; omega
          have k2 := k2.below hst k2.lt
          rw [← hw_, ← hg_]
          clear hw_ hg_ hst
          refine hK.out _ _ ⟨(KAd.out.below hbl KAd.out.lt).cell 0, (KAd.out.below hbl KAd.out.lt).cell 1, (KAd.out.below hbl KAd.out.lt).cell 2, (KAd.out.below hbl KAd.out.lt).cell 3, (KAd.out.below hbl KAd.out.lt).cell 4, (KAd.out.below hbl KAd.out.lt).cell 5, (KBd.out.below hbl KBd.out.lt).cell 0, (KBd.out.below hbl KBd.out.lt).cell 1, (KBd.out.below hbl KBd.out.lt).cell 2, (KBd.out.below hbl KBd.out.lt).cell 3, (KBd.out.below hbl KBd.out.lt).cell 4, (KBd.out.below hbl KBd.out.lt).cell 5, hbl⟩ (fun hHeld => ?_)
          clear hK K
          refine norm_ (a' := ?_) ?_ ?_
          rotate_left
          · show Act.put _ (some 11) _ = _
            simp only [Act.put, List.setIfInBounds_toArray, List.set_cons_zero, List.set_cons_succ, i64_w, i32_w]
            rfl
          refine one_ (i := 3) (N := some 31) #[true, true, true, true, true, true, false, false] rfl rfl (by kernel_rfl) (by decide) (fun K hK => ?_)
          refine goes_ Tryd.func18 (by kernel_rfl) rfl #[.agg #[.string x1.nm, .int .i64 x1.img, .int .i64 x1.conc, .int .i64 x1.mn, .int .i64 x1.mx, .int .i64 x1.grc], .int .i64 0] (by rfl) rfl rfl (by simp only [List.map_toArray, List.map_cons, List.map_nil]; rfl) ?_
          with_reducible refine (CCB.out _).mono ?_
          rintro e we ⟨rfl, hcc⟩
          have hbl := below_step hHeld.2.2.2.2.2.2.2.2.2.2.2.2 hcc
          have k1 := k1.below hcc k1.lt
          have k2 := k2.below hcc k2.lt
          refine ⟨_, rfl, ?_⟩
          refine hK.out _ _ ⟨(KAd.out.below hbl KAd.out.lt).cell 0, (KAd.out.below hbl KAd.out.lt).cell 1, (KAd.out.below hbl KAd.out.lt).cell 2, (KAd.out.below hbl KAd.out.lt).cell 3, (KAd.out.below hbl KAd.out.lt).cell 4, (KAd.out.below hbl KAd.out.lt).cell 5, (KBd.out.below hbl KBd.out.lt).cell 0, (KBd.out.below hbl KBd.out.lt).cell 1, (KBd.out.below hbl KBd.out.lt).cell 2, (KBd.out.below hbl KBd.out.lt).cell 3, (KBd.out.below hbl KBd.out.lt).cell 4, (KBd.out.below hbl KBd.out.lt).cell 5, hbl⟩ (fun hHeld => ?_)
          clear hK K
          refine norm_ (a' := ?_) ?_ ?_
          rotate_left
          · show Act.put _ (some 31) _ = _
            simp only [Act.put, List.setIfInBounds_toArray, List.set_cons_zero, List.set_cons_succ, i64_w, i32_w]
            rfl
          exact norm_ (by simp only [putAll, Act.put, List.setIfInBounds_toArray, List.set_cons_zero, List.set_cons_succ]) (hCont (g1_, g2_) _ ⟨k1, k2, hne, hz1, hz2, hbl⟩)
    · skip
      refine value_ (w1 := ?_) (v := ?_) (by rfl) rfl ?_ ?_
      rotate_left 2
      · go_simp
        constructor
        · rfl
        · rfl
      obtain ⟨g1_, w1_, hw_, hg_, k1, hz1, hbl, hst⟩ := hold_cfgD hHeld.2.2.2.2.2.2.2.2.2.2.2.2
      rw [← hw_, ← hg_]
      clear hw_ hg_ hst
      refine hK.out _ _ ⟨(KAd.out.below hbl KAd.out.lt).cell 0, (KAd.out.below hbl KAd.out.lt).cell 1, (KAd.out.below hbl KAd.out.lt).cell 2, (KAd.out.below hbl KAd.out.lt).cell 3, (KAd.out.below hbl KAd.out.lt).cell 4, (KAd.out.below hbl KAd.out.lt).cell 5, (KBd.out.below hbl KBd.out.lt).cell 0, (KBd.out.below hbl KBd.out.lt).cell 1, (KBd.out.below hbl KBd.out.lt).cell 2, (KBd.out.below hbl KBd.out.lt).cell 3, (KBd.out.below hbl KBd.out.lt).cell 4, (KBd.out.below hbl KBd.out.lt).cell 5, hbl⟩ (fun hHeld => ?_)
      clear hK K
      refine norm_ (a' := ?_) ?_ ?_
      rotate_left
      · show Act.put _ (some 11) _ = _
        simp only [Act.put, List.setIfInBounds_toArray, List.set_cons_zero, List.set_cons_succ, i64_w, i32_w]
        rfl
      refine two_ (i := 1) (j := 5) (Ni := some 29) (Nj := some 12) #[true, true, true, false, true, false, false, false] #[true, false, true, false, true, true, false, false] rfl rfl rfl rfl (by kernel_rfl) (by decide) (by decide) (fun K hK => ?_) (fun K hK => ?_)
      · skip
        refine goes_ Tryd.func18 (by kernel_rfl) rfl #[.agg #[.string x0.nm, .int .i64 x0.img, .int .i64 x0.conc, .int .i64 x0.mn, .int .i64 x0.mx, .int .i64 x0.grc], .int .i64 0] (by rfl) rfl rfl (by simp only [List.map_toArray, List.map_cons, List.map_nil]; rfl) ?_
        with_reducible refine (CCA.out _).mono ?_
        rintro e wc ⟨rfl, hcc⟩
        have hbl := below_step hHeld.2.2.2.2.2.2.2.2.2.2.2.2 hcc
        have k1 := k1.below hcc k1.lt
        refine ⟨_, rfl, ?_⟩
        refine hK.out _ _ ⟨(KAd.out.below hbl KAd.out.lt).cell 0, (KAd.out.below hbl KAd.out.lt).cell 1, (KAd.out.below hbl KAd.out.lt).cell 2, (KAd.out.below hbl KAd.out.lt).cell 3, (KAd.out.below hbl KAd.out.lt).cell 4, (KAd.out.below hbl KAd.out.lt).cell 5, (KBd.out.below hbl KBd.out.lt).cell 0, (KBd.out.below hbl KBd.out.lt).cell 1, (KBd.out.below hbl KBd.out.lt).cell 2, (KBd.out.below hbl KBd.out.lt).cell 3, (KBd.out.below hbl KBd.out.lt).cell 4, (KBd.out.below hbl KBd.out.lt).cell 5, hbl⟩ (fun hHeld => ?_)
        clear hK K
        refine norm_ (a' := ?_) ?_ ?_
        rotate_left
        · show Act.put _ (some 29) _ = _
          simp only [Act.put, List.setIfInBounds_toArray, List.set_cons_zero, List.set_cons_succ, i64_w, i32_w]
          rfl
        refine two_ (i := 3) (j := 5) (Ni := some 31) (Nj := some 12) #[true, true, true, true, true, false, false, false] #[true, true, true, false, true, true, false, false] rfl rfl rfl rfl (by kernel_rfl) (by decide) (by decide) (fun K hK => ?_) (fun K hK => ?_)
        · skip
          refine goes_ Tryd.func18 (by kernel_rfl) rfl #[.agg #[.string x1.nm, .int .i64 x1.img, .int .i64 x1.conc, .int .i64 x1.mn, .int .i64 x1.mx, .int .i64 x1.grc], .int .i64 0] (by rfl) rfl rfl (by simp only [List.map_toArray, List.map_cons, List.map_nil]; rfl) ?_
          with_reducible refine (CCB.out _).mono ?_
          rintro e we ⟨rfl, hcc⟩
          have hbl := below_step hHeld.2.2.2.2.2.2.2.2.2.2.2.2 hcc
          have k1 := k1.below hcc k1.lt
          refine ⟨_, rfl, ?_⟩
          refine hK.out _ _ ⟨(KAd.out.below hbl KAd.out.lt).cell 0, (KAd.out.below hbl KAd.out.lt).cell 1, (KAd.out.below hbl KAd.out.lt).cell 2, (KAd.out.below hbl KAd.out.lt).cell 3, (KAd.out.below hbl KAd.out.lt).cell 4, (KAd.out.below hbl KAd.out.lt).cell 5, (KBd.out.below hbl KBd.out.lt).cell 0, (KBd.out.below hbl KBd.out.lt).cell 1, (KBd.out.below hbl KBd.out.lt).cell 2, (KBd.out.below hbl KBd.out.lt).cell 3, (KBd.out.below hbl KBd.out.lt).cell 4, (KBd.out.below hbl KBd.out.lt).cell 5, hbl⟩ (fun hHeld => ?_)
          clear hK K
          refine norm_ (a' := ?_) ?_ ?_
          rotate_left
          · show Act.put _ (some 31) _ = _
            simp only [Act.put, List.setIfInBounds_toArray, List.set_cons_zero, List.set_cons_succ, i64_w, i32_w]
            rfl
          refine one_ (i := 5) (N := some 12) #[true, true, true, true, true, true, false, false] rfl rfl (by kernel_rfl) (by decide) (fun K hK => ?_)
          refine value_ (w1 := ?_) (v := ?_) (by rfl) rfl ?_ ?_
          rotate_left 2
          · go_simp
            constructor
            · rfl
            · rfl
          obtain ⟨g2_, w2_, hw_, hg_, k2, hz2, hbl, hst⟩ := hold_cfg hHeld.2.2.2.2.2.2.2.2.2.2.2.2
          have hne : g1_ ≠ g2_ := by have := k1.lt; omega
          have k1 := k1.below hst k1.lt
          rw [← hw_, ← hg_]
          clear hw_ hg_ hst
          refine hK.out _ _ ⟨(KAd.out.below hbl KAd.out.lt).cell 0, (KAd.out.below hbl KAd.out.lt).cell 1, (KAd.out.below hbl KAd.out.lt).cell 2, (KAd.out.below hbl KAd.out.lt).cell 3, (KAd.out.below hbl KAd.out.lt).cell 4, (KAd.out.below hbl KAd.out.lt).cell 5, (KBd.out.below hbl KBd.out.lt).cell 0, (KBd.out.below hbl KBd.out.lt).cell 1, (KBd.out.below hbl KBd.out.lt).cell 2, (KBd.out.below hbl KBd.out.lt).cell 3, (KBd.out.below hbl KBd.out.lt).cell 4, (KBd.out.below hbl KBd.out.lt).cell 5, hbl⟩ (fun hHeld => ?_)
          clear hK K
          refine norm_ (a' := ?_) ?_ ?_
          rotate_left
          · show Act.put _ (some 12) _ = _
            simp only [Act.put, List.setIfInBounds_toArray, List.set_cons_zero, List.set_cons_succ, i64_w, i32_w]
            rfl
          exact norm_ (by simp only [putAll, Act.put, List.setIfInBounds_toArray, List.set_cons_zero, List.set_cons_succ]) (hCont (g1_, g2_) _ ⟨k1, k2, hne, hz1, hz2, hbl⟩)
        · skip
          refine value_ (w1 := ?_) (v := ?_) (by rfl) rfl ?_ ?_
          rotate_left 2
          · go_simp
            constructor
            · rfl
            · rfl
          obtain ⟨g2_, w2_, hw_, hg_, k2, hz2, hbl, hst⟩ := hold_cfg hHeld.2.2.2.2.2.2.2.2.2.2.2.2
          have hne : g1_ ≠ g2_ := by have := k1.lt; omega
          have k1 := k1.below hst k1.lt
          rw [← hw_, ← hg_]
          clear hw_ hg_ hst
          refine hK.out _ _ ⟨(KAd.out.below hbl KAd.out.lt).cell 0, (KAd.out.below hbl KAd.out.lt).cell 1, (KAd.out.below hbl KAd.out.lt).cell 2, (KAd.out.below hbl KAd.out.lt).cell 3, (KAd.out.below hbl KAd.out.lt).cell 4, (KAd.out.below hbl KAd.out.lt).cell 5, (KBd.out.below hbl KBd.out.lt).cell 0, (KBd.out.below hbl KBd.out.lt).cell 1, (KBd.out.below hbl KBd.out.lt).cell 2, (KBd.out.below hbl KBd.out.lt).cell 3, (KBd.out.below hbl KBd.out.lt).cell 4, (KBd.out.below hbl KBd.out.lt).cell 5, hbl⟩ (fun hHeld => ?_)
          clear hK K
          refine norm_ (a' := ?_) ?_ ?_
          rotate_left
          · show Act.put _ (some 12) _ = _
            simp only [Act.put, List.setIfInBounds_toArray, List.set_cons_zero, List.set_cons_succ, i64_w, i32_w]
            rfl
          refine one_ (i := 3) (N := some 31) #[true, true, true, true, true, true, false, false] rfl rfl (by kernel_rfl) (by decide) (fun K hK => ?_)
          refine goes_ Tryd.func18 (by kernel_rfl) rfl #[.agg #[.string x1.nm, .int .i64 x1.img, .int .i64 x1.conc, .int .i64 x1.mn, .int .i64 x1.mx, .int .i64 x1.grc], .int .i64 0] (by rfl) rfl rfl (by simp only [List.map_toArray, List.map_cons, List.map_nil]; rfl) ?_
          with_reducible refine (CCB.out _).mono ?_
          rintro e we ⟨rfl, hcc⟩
          have hbl := below_step hHeld.2.2.2.2.2.2.2.2.2.2.2.2 hcc
          have k1 := k1.below hcc k1.lt
          have k2 := k2.below hcc k2.lt
          refine ⟨_, rfl, ?_⟩
          refine hK.out _ _ ⟨(KAd.out.below hbl KAd.out.lt).cell 0, (KAd.out.below hbl KAd.out.lt).cell 1, (KAd.out.below hbl KAd.out.lt).cell 2, (KAd.out.below hbl KAd.out.lt).cell 3, (KAd.out.below hbl KAd.out.lt).cell 4, (KAd.out.below hbl KAd.out.lt).cell 5, (KBd.out.below hbl KBd.out.lt).cell 0, (KBd.out.below hbl KBd.out.lt).cell 1, (KBd.out.below hbl KBd.out.lt).cell 2, (KBd.out.below hbl KBd.out.lt).cell 3, (KBd.out.below hbl KBd.out.lt).cell 4, (KBd.out.below hbl KBd.out.lt).cell 5, hbl⟩ (fun hHeld => ?_)
          clear hK K
          refine norm_ (a' := ?_) ?_ ?_
          rotate_left
          · show Act.put _ (some 31) _ = _
            simp only [Act.put, List.setIfInBounds_toArray, List.set_cons_zero, List.set_cons_succ, i64_w, i32_w]
            rfl
          exact norm_ (by simp only [putAll, Act.put, List.setIfInBounds_toArray, List.set_cons_zero, List.set_cons_succ]) (hCont (g1_, g2_) _ ⟨k1, k2, hne, hz1, hz2, hbl⟩)
      · skip
        refine value_ (w1 := ?_) (v := ?_) (by rfl) rfl ?_ ?_
        rotate_left 2
        · go_simp
          constructor
          · rfl
          · rfl
        obtain ⟨g2_, w2_, hw_, hg_, k2, hz2, hbl, hst⟩ := hold_cfg hHeld.2.2.2.2.2.2.2.2.2.2.2.2
        have hne : g1_ ≠ g2_ := by have := k1.lt; omega
        have k1 := k1.below hst k1.lt
        rw [← hw_, ← hg_]
        clear hw_ hg_ hst
        refine hK.out _ _ ⟨(KAd.out.below hbl KAd.out.lt).cell 0, (KAd.out.below hbl KAd.out.lt).cell 1, (KAd.out.below hbl KAd.out.lt).cell 2, (KAd.out.below hbl KAd.out.lt).cell 3, (KAd.out.below hbl KAd.out.lt).cell 4, (KAd.out.below hbl KAd.out.lt).cell 5, (KBd.out.below hbl KBd.out.lt).cell 0, (KBd.out.below hbl KBd.out.lt).cell 1, (KBd.out.below hbl KBd.out.lt).cell 2, (KBd.out.below hbl KBd.out.lt).cell 3, (KBd.out.below hbl KBd.out.lt).cell 4, (KBd.out.below hbl KBd.out.lt).cell 5, hbl⟩ (fun hHeld => ?_)
        clear hK K
        refine norm_ (a' := ?_) ?_ ?_
        rotate_left
        · show Act.put _ (some 12) _ = _
          simp only [Act.put, List.setIfInBounds_toArray, List.set_cons_zero, List.set_cons_succ, i64_w, i32_w]
          rfl
        refine one_ (i := 1) (N := some 29) #[true, true, true, false, true, true, false, false] rfl rfl (by kernel_rfl) (by decide) (fun K hK => ?_)
        refine goes_ Tryd.func18 (by kernel_rfl) rfl #[.agg #[.string x0.nm, .int .i64 x0.img, .int .i64 x0.conc, .int .i64 x0.mn, .int .i64 x0.mx, .int .i64 x0.grc], .int .i64 0] (by rfl) rfl rfl (by simp only [List.map_toArray, List.map_cons, List.map_nil]; rfl) ?_
        with_reducible refine (CCA.out _).mono ?_
        rintro e wc ⟨rfl, hcc⟩
        have hbl := below_step hHeld.2.2.2.2.2.2.2.2.2.2.2.2 hcc
        have k1 := k1.below hcc k1.lt
        have k2 := k2.below hcc k2.lt
        refine ⟨_, rfl, ?_⟩
        refine hK.out _ _ ⟨(KAd.out.below hbl KAd.out.lt).cell 0, (KAd.out.below hbl KAd.out.lt).cell 1, (KAd.out.below hbl KAd.out.lt).cell 2, (KAd.out.below hbl KAd.out.lt).cell 3, (KAd.out.below hbl KAd.out.lt).cell 4, (KAd.out.below hbl KAd.out.lt).cell 5, (KBd.out.below hbl KBd.out.lt).cell 0, (KBd.out.below hbl KBd.out.lt).cell 1, (KBd.out.below hbl KBd.out.lt).cell 2, (KBd.out.below hbl KBd.out.lt).cell 3, (KBd.out.below hbl KBd.out.lt).cell 4, (KBd.out.below hbl KBd.out.lt).cell 5, hbl⟩ (fun hHeld => ?_)
        clear hK K
        refine norm_ (a' := ?_) ?_ ?_
        rotate_left
        · show Act.put _ (some 29) _ = _
          simp only [Act.put, List.setIfInBounds_toArray, List.set_cons_zero, List.set_cons_succ, i64_w, i32_w]
          rfl
        refine one_ (i := 3) (N := some 31) #[true, true, true, true, true, true, false, false] rfl rfl (by kernel_rfl) (by decide) (fun K hK => ?_)
        refine goes_ Tryd.func18 (by kernel_rfl) rfl #[.agg #[.string x1.nm, .int .i64 x1.img, .int .i64 x1.conc, .int .i64 x1.mn, .int .i64 x1.mx, .int .i64 x1.grc], .int .i64 0] (by rfl) rfl rfl (by simp only [List.map_toArray, List.map_cons, List.map_nil]; rfl) ?_
        with_reducible refine (CCB.out _).mono ?_
        rintro e we ⟨rfl, hcc⟩
        have hbl := below_step hHeld.2.2.2.2.2.2.2.2.2.2.2.2 hcc
        have k1 := k1.below hcc k1.lt
        have k2 := k2.below hcc k2.lt
        refine ⟨_, rfl, ?_⟩
        refine hK.out _ _ ⟨(KAd.out.below hbl KAd.out.lt).cell 0, (KAd.out.below hbl KAd.out.lt).cell 1, (KAd.out.below hbl KAd.out.lt).cell 2, (KAd.out.below hbl KAd.out.lt).cell 3, (KAd.out.below hbl KAd.out.lt).cell 4, (KAd.out.below hbl KAd.out.lt).cell 5, (KBd.out.below hbl KBd.out.lt).cell 0, (KBd.out.below hbl KBd.out.lt).cell 1, (KBd.out.below hbl KBd.out.lt).cell 2, (KBd.out.below hbl KBd.out.lt).cell 3, (KBd.out.below hbl KBd.out.lt).cell 4, (KBd.out.below hbl KBd.out.lt).cell 5, hbl⟩ (fun hHeld => ?_)
        clear hK K
        refine norm_ (a' := ?_) ?_ ?_
        rotate_left
        · show Act.put _ (some 31) _ = _
          simp only [Act.put, List.setIfInBounds_toArray, List.set_cons_zero, List.set_cons_succ, i64_w, i32_w]
          rfl
        exact norm_ (by simp only [putAll, Act.put, List.setIfInBounds_toArray, List.set_cons_zero, List.set_cons_succ]) (hCont (g1_, g2_) _ ⟨k1, k2, hne, hz1, hz2, hbl⟩)
    · skip
      refine value_ (w1 := ?_) (v := ?_) (by rfl) rfl ?_ ?_
      rotate_left 2
      · go_simp
        constructor
        · rfl
        · rfl
      obtain ⟨g2_, w2_, hw_, hg_, k2, hz2, hbl, hst⟩ := hold_cfgD hHeld.2.2.2.2.2.2.2.2.2.2.2.2
      rw [← hw_, ← hg_]
      clear hw_ hg_ hst
      refine hK.out _ _ ⟨(KAd.out.below hbl KAd.out.lt).cell 0, (KAd.out.below hbl KAd.out.lt).cell 1, (KAd.out.below hbl KAd.out.lt).cell 2, (KAd.out.below hbl KAd.out.lt).cell 3, (KAd.out.below hbl KAd.out.lt).cell 4, (KAd.out.below hbl KAd.out.lt).cell 5, (KBd.out.below hbl KBd.out.lt).cell 0, (KBd.out.below hbl KBd.out.lt).cell 1, (KBd.out.below hbl KBd.out.lt).cell 2, (KBd.out.below hbl KBd.out.lt).cell 3, (KBd.out.below hbl KBd.out.lt).cell 4, (KBd.out.below hbl KBd.out.lt).cell 5, hbl⟩ (fun hHeld => ?_)
      clear hK K
      refine norm_ (a' := ?_) ?_ ?_
      rotate_left
      · show Act.put _ (some 12) _ = _
        simp only [Act.put, List.setIfInBounds_toArray, List.set_cons_zero, List.set_cons_succ, i64_w, i32_w]
        rfl
      refine two_ (i := 1) (j := 4) (Ni := some 29) (Nj := some 11) #[true, true, true, false, false, true, false, false] #[true, false, true, false, true, true, false, false] rfl rfl rfl rfl (by kernel_rfl) (by decide) (by decide) (fun K hK => ?_) (fun K hK => ?_)
      · skip
        refine goes_ Tryd.func18 (by kernel_rfl) rfl #[.agg #[.string x0.nm, .int .i64 x0.img, .int .i64 x0.conc, .int .i64 x0.mn, .int .i64 x0.mx, .int .i64 x0.grc], .int .i64 0] (by rfl) rfl rfl (by simp only [List.map_toArray, List.map_cons, List.map_nil]; rfl) ?_
        with_reducible refine (CCA.out _).mono ?_
        rintro e wc ⟨rfl, hcc⟩
        have hbl := below_step hHeld.2.2.2.2.2.2.2.2.2.2.2.2 hcc
        have k2 := k2.below hcc k2.lt
        refine ⟨_, rfl, ?_⟩
        refine hK.out _ _ ⟨(KAd.out.below hbl KAd.out.lt).cell 0, (KAd.out.below hbl KAd.out.lt).cell 1, (KAd.out.below hbl KAd.out.lt).cell 2, (KAd.out.below hbl KAd.out.lt).cell 3, (KAd.out.below hbl KAd.out.lt).cell 4, (KAd.out.below hbl KAd.out.lt).cell 5, (KBd.out.below hbl KBd.out.lt).cell 0, (KBd.out.below hbl KBd.out.lt).cell 1, (KBd.out.below hbl KBd.out.lt).cell 2, (KBd.out.below hbl KBd.out.lt).cell 3, (KBd.out.below hbl KBd.out.lt).cell 4, (KBd.out.below hbl KBd.out.lt).cell 5, hbl⟩ (fun hHeld => ?_)
        clear hK K
        refine norm_ (a' := ?_) ?_ ?_
        rotate_left
        · show Act.put _ (some 29) _ = _
          simp only [Act.put, List.setIfInBounds_toArray, List.set_cons_zero, List.set_cons_succ, i64_w, i32_w]
          rfl
        refine two_ (i := 3) (j := 4) (Ni := some 31) (Nj := some 11) #[true, true, true, true, false, true, false, false] #[true, true, true, false, true, true, false, false] rfl rfl rfl rfl (by kernel_rfl) (by decide) (by decide) (fun K hK => ?_) (fun K hK => ?_)
        · skip
          refine goes_ Tryd.func18 (by kernel_rfl) rfl #[.agg #[.string x1.nm, .int .i64 x1.img, .int .i64 x1.conc, .int .i64 x1.mn, .int .i64 x1.mx, .int .i64 x1.grc], .int .i64 0] (by rfl) rfl rfl (by simp only [List.map_toArray, List.map_cons, List.map_nil]; rfl) ?_
          with_reducible refine (CCB.out _).mono ?_
          rintro e we ⟨rfl, hcc⟩
          have hbl := below_step hHeld.2.2.2.2.2.2.2.2.2.2.2.2 hcc
          have k2 := k2.below hcc k2.lt
          refine ⟨_, rfl, ?_⟩
          refine hK.out _ _ ⟨(KAd.out.below hbl KAd.out.lt).cell 0, (KAd.out.below hbl KAd.out.lt).cell 1, (KAd.out.below hbl KAd.out.lt).cell 2, (KAd.out.below hbl KAd.out.lt).cell 3, (KAd.out.below hbl KAd.out.lt).cell 4, (KAd.out.below hbl KAd.out.lt).cell 5, (KBd.out.below hbl KBd.out.lt).cell 0, (KBd.out.below hbl KBd.out.lt).cell 1, (KBd.out.below hbl KBd.out.lt).cell 2, (KBd.out.below hbl KBd.out.lt).cell 3, (KBd.out.below hbl KBd.out.lt).cell 4, (KBd.out.below hbl KBd.out.lt).cell 5, hbl⟩ (fun hHeld => ?_)
          clear hK K
          refine norm_ (a' := ?_) ?_ ?_
          rotate_left
          · show Act.put _ (some 31) _ = _
            simp only [Act.put, List.setIfInBounds_toArray, List.set_cons_zero, List.set_cons_succ, i64_w, i32_w]
            rfl
          refine one_ (i := 4) (N := some 11) #[true, true, true, true, true, true, false, false] rfl rfl (by kernel_rfl) (by decide) (fun K hK => ?_)
          refine value_ (w1 := ?_) (v := ?_) (by rfl) rfl ?_ ?_
          rotate_left 2
          · go_simp
            constructor
            · rfl
            · rfl
          obtain ⟨g1_, w1_, hw_, hg_, k1, hz1, hbl, hst⟩ := hold_cfg hHeld.2.2.2.2.2.2.2.2.2.2.2.2
          have hne : g1_ ≠ g2_ := by have := k2.lt; omega
          have k2 := k2.below hst k2.lt
          rw [← hw_, ← hg_]
          clear hw_ hg_ hst
          refine hK.out _ _ ⟨(KAd.out.below hbl KAd.out.lt).cell 0, (KAd.out.below hbl KAd.out.lt).cell 1, (KAd.out.below hbl KAd.out.lt).cell 2, (KAd.out.below hbl KAd.out.lt).cell 3, (KAd.out.below hbl KAd.out.lt).cell 4, (KAd.out.below hbl KAd.out.lt).cell 5, (KBd.out.below hbl KBd.out.lt).cell 0, (KBd.out.below hbl KBd.out.lt).cell 1, (KBd.out.below hbl KBd.out.lt).cell 2, (KBd.out.below hbl KBd.out.lt).cell 3, (KBd.out.below hbl KBd.out.lt).cell 4, (KBd.out.below hbl KBd.out.lt).cell 5, hbl⟩ (fun hHeld => ?_)
          clear hK K
          refine norm_ (a' := ?_) ?_ ?_
          rotate_left
          · show Act.put _ (some 11) _ = _
            simp only [Act.put, List.setIfInBounds_toArray, List.set_cons_zero, List.set_cons_succ, i64_w, i32_w]
            rfl
          exact norm_ (by simp only [putAll, Act.put, List.setIfInBounds_toArray, List.set_cons_zero, List.set_cons_succ]) (hCont (g1_, g2_) _ ⟨k1, k2, hne, hz1, hz2, hbl⟩)
        · skip
          refine value_ (w1 := ?_) (v := ?_) (by rfl) rfl ?_ ?_
          rotate_left 2
          · go_simp
            constructor
            · rfl
            · rfl
          obtain ⟨g1_, w1_, hw_, hg_, k1, hz1, hbl, hst⟩ := hold_cfg hHeld.2.2.2.2.2.2.2.2.2.2.2.2
          have hne : g1_ ≠ g2_ := by have := k2.lt; omega
          have k2 := k2.below hst k2.lt
          rw [← hw_, ← hg_]
          clear hw_ hg_ hst
          refine hK.out _ _ ⟨(KAd.out.below hbl KAd.out.lt).cell 0, (KAd.out.below hbl KAd.out.lt).cell 1, (KAd.out.below hbl KAd.out.lt).cell 2, (KAd.out.below hbl KAd.out.lt).cell 3, (KAd.out.below hbl KAd.out.lt).cell 4, (KAd.out.below hbl KAd.out.lt).cell 5, (KBd.out.below hbl KBd.out.lt).cell 0, (KBd.out.below hbl KBd.out.lt).cell 1, (KBd.out.below hbl KBd.out.lt).cell 2, (KBd.out.below hbl KBd.out.lt).cell 3, (KBd.out.below hbl KBd.out.lt).cell 4, (KBd.out.below hbl KBd.out.lt).cell 5, hbl⟩ (fun hHeld => ?_)
          clear hK K
          refine norm_ (a' := ?_) ?_ ?_
          rotate_left
          · show Act.put _ (some 11) _ = _
            simp only [Act.put, List.setIfInBounds_toArray, List.set_cons_zero, List.set_cons_succ, i64_w, i32_w]
            rfl
          refine one_ (i := 3) (N := some 31) #[true, true, true, true, true, true, false, false] rfl rfl (by kernel_rfl) (by decide) (fun K hK => ?_)
          refine goes_ Tryd.func18 (by kernel_rfl) rfl #[.agg #[.string x1.nm, .int .i64 x1.img, .int .i64 x1.conc, .int .i64 x1.mn, .int .i64 x1.mx, .int .i64 x1.grc], .int .i64 0] (by rfl) rfl rfl (by simp only [List.map_toArray, List.map_cons, List.map_nil]; rfl) ?_
          with_reducible refine (CCB.out _).mono ?_
          rintro e we ⟨rfl, hcc⟩
          have hbl := below_step hHeld.2.2.2.2.2.2.2.2.2.2.2.2 hcc
          have k1 := k1.below hcc k1.lt
          have k2 := k2.below hcc k2.lt
          refine ⟨_, rfl, ?_⟩
          refine hK.out _ _ ⟨(KAd.out.below hbl KAd.out.lt).cell 0, (KAd.out.below hbl KAd.out.lt).cell 1, (KAd.out.below hbl KAd.out.lt).cell 2, (KAd.out.below hbl KAd.out.lt).cell 3, (KAd.out.below hbl KAd.out.lt).cell 4, (KAd.out.below hbl KAd.out.lt).cell 5, (KBd.out.below hbl KBd.out.lt).cell 0, (KBd.out.below hbl KBd.out.lt).cell 1, (KBd.out.below hbl KBd.out.lt).cell 2, (KBd.out.below hbl KBd.out.lt).cell 3, (KBd.out.below hbl KBd.out.lt).cell 4, (KBd.out.below hbl KBd.out.lt).cell 5, hbl⟩ (fun hHeld => ?_)
          clear hK K
          refine norm_ (a' := ?_) ?_ ?_
          rotate_left
          · show Act.put _ (some 31) _ = _
            simp only [Act.put, List.setIfInBounds_toArray, List.set_cons_zero, List.set_cons_succ, i64_w, i32_w]
            rfl
          exact norm_ (by simp only [putAll, Act.put, List.setIfInBounds_toArray, List.set_cons_zero, List.set_cons_succ]) (hCont (g1_, g2_) _ ⟨k1, k2, hne, hz1, hz2, hbl⟩)
      · skip
        refine value_ (w1 := ?_) (v := ?_) (by rfl) rfl ?_ ?_
        rotate_left 2
        · go_simp
          constructor
          · rfl
          · rfl
        obtain ⟨g1_, w1_, hw_, hg_, k1, hz1, hbl, hst⟩ := hold_cfg hHeld.2.2.2.2.2.2.2.2.2.2.2.2
        have hne : g1_ ≠ g2_ := by have := k2.lt; omega
        have k2 := k2.below hst k2.lt
        rw [← hw_, ← hg_]
        clear hw_ hg_ hst
        refine hK.out _ _ ⟨(KAd.out.below hbl KAd.out.lt).cell 0, (KAd.out.below hbl KAd.out.lt).cell 1, (KAd.out.below hbl KAd.out.lt).cell 2, (KAd.out.below hbl KAd.out.lt).cell 3, (KAd.out.below hbl KAd.out.lt).cell 4, (KAd.out.below hbl KAd.out.lt).cell 5, (KBd.out.below hbl KBd.out.lt).cell 0, (KBd.out.below hbl KBd.out.lt).cell 1, (KBd.out.below hbl KBd.out.lt).cell 2, (KBd.out.below hbl KBd.out.lt).cell 3, (KBd.out.below hbl KBd.out.lt).cell 4, (KBd.out.below hbl KBd.out.lt).cell 5, hbl⟩ (fun hHeld => ?_)
        clear hK K
        refine norm_ (a' := ?_) ?_ ?_
        rotate_left
        · show Act.put _ (some 11) _ = _
          simp only [Act.put, List.setIfInBounds_toArray, List.set_cons_zero, List.set_cons_succ, i64_w, i32_w]
          rfl
        refine one_ (i := 1) (N := some 29) #[true, true, true, false, true, true, false, false] rfl rfl (by kernel_rfl) (by decide) (fun K hK => ?_)
        refine goes_ Tryd.func18 (by kernel_rfl) rfl #[.agg #[.string x0.nm, .int .i64 x0.img, .int .i64 x0.conc, .int .i64 x0.mn, .int .i64 x0.mx, .int .i64 x0.grc], .int .i64 0] (by rfl) rfl rfl (by simp only [List.map_toArray, List.map_cons, List.map_nil]; rfl) ?_
        with_reducible refine (CCA.out _).mono ?_
        rintro e wc ⟨rfl, hcc⟩
        have hbl := below_step hHeld.2.2.2.2.2.2.2.2.2.2.2.2 hcc
        have k1 := k1.below hcc k1.lt
        have k2 := k2.below hcc k2.lt
        refine ⟨_, rfl, ?_⟩
        refine hK.out _ _ ⟨(KAd.out.below hbl KAd.out.lt).cell 0, (KAd.out.below hbl KAd.out.lt).cell 1, (KAd.out.below hbl KAd.out.lt).cell 2, (KAd.out.below hbl KAd.out.lt).cell 3, (KAd.out.below hbl KAd.out.lt).cell 4, (KAd.out.below hbl KAd.out.lt).cell 5, (KBd.out.below hbl KBd.out.lt).cell 0, (KBd.out.below hbl KBd.out.lt).cell 1, (KBd.out.below hbl KBd.out.lt).cell 2, (KBd.out.below hbl KBd.out.lt).cell 3, (KBd.out.below hbl KBd.out.lt).cell 4, (KBd.out.below hbl KBd.out.lt).cell 5, hbl⟩ (fun hHeld => ?_)
        clear hK K
        refine norm_ (a' := ?_) ?_ ?_
        rotate_left
        · show Act.put _ (some 29) _ = _
          simp only [Act.put, List.setIfInBounds_toArray, List.set_cons_zero, List.set_cons_succ, i64_w, i32_w]
          rfl
        refine one_ (i := 3) (N := some 31) #[true, true, true, true, true, true, false, false] rfl rfl (by kernel_rfl) (by decide) (fun K hK => ?_)
        refine goes_ Tryd.func18 (by kernel_rfl) rfl #[.agg #[.string x1.nm, .int .i64 x1.img, .int .i64 x1.conc, .int .i64 x1.mn, .int .i64 x1.mx, .int .i64 x1.grc], .int .i64 0] (by rfl) rfl rfl (by simp only [List.map_toArray, List.map_cons, List.map_nil]; rfl) ?_
        with_reducible refine (CCB.out _).mono ?_
        rintro e we ⟨rfl, hcc⟩
        have hbl := below_step hHeld.2.2.2.2.2.2.2.2.2.2.2.2 hcc
        have k1 := k1.below hcc k1.lt
        have k2 := k2.below hcc k2.lt
        refine ⟨_, rfl, ?_⟩
        refine hK.out _ _ ⟨(KAd.out.below hbl KAd.out.lt).cell 0, (KAd.out.below hbl KAd.out.lt).cell 1, (KAd.out.below hbl KAd.out.lt).cell 2, (KAd.out.below hbl KAd.out.lt).cell 3, (KAd.out.below hbl KAd.out.lt).cell 4, (KAd.out.below hbl KAd.out.lt).cell 5, (KBd.out.below hbl KBd.out.lt).cell 0, (KBd.out.below hbl KBd.out.lt).cell 1, (KBd.out.below hbl KBd.out.lt).cell 2, (KBd.out.below hbl KBd.out.lt).cell 3, (KBd.out.below hbl KBd.out.lt).cell 4, (KBd.out.below hbl KBd.out.lt).cell 5, hbl⟩ (fun hHeld => ?_)
        clear hK K
        refine norm_ (a' := ?_) ?_ ?_
        rotate_left
        · show Act.put _ (some 31) _ = _
          simp only [Act.put, List.setIfInBounds_toArray, List.set_cons_zero, List.set_cons_succ, i64_w, i32_w]
          rfl
        exact norm_ (by simp only [putAll, Act.put, List.setIfInBounds_toArray, List.set_cons_zero, List.set_cons_succ]) (hCont (g1_, g2_) _ ⟨k1, k2, hne, hz1, hz2, hbl⟩)
  rintro ⟨g1_, g2_⟩ wx ⟨k1, k2, hne, hz1, hz2, hbx⟩
  have hHeld : True := trivial
  dsimp only at k1 k2 hne hz1 hz2 ⊢
  refine norm_ (a' := ?_) ?_ ?_
  rotate_left
  · simp only [putAll, Act.put, List.setIfInBounds_toArray, List.set_cons_zero, List.set_cons_succ]
    rfl
  refine last_ (i := 6) (N := none) #[true, true, true, true, true, true, true, false] rfl rfl (by kernel_rfl) (by decide) (fun K hK => ?_)
  obtain ⟨d0, d1, d2, d3, d4, d5⟩ := cells6 k1
  have f0 := k1.frozen 0
  have f1 := k1.frozen 1
  have f2 := k1.frozen 2
  have f3 := k1.frozen 3
  have f4 := k1.frozen 4
  have f5 := k1.frozen 5
  refine skip_ (w1 := ?_) (by rfl) rfl ?_ ?_
  rotate_left
  · go_simp
    rfl
  refine hK.out _ _ ?_
  clear hK K
  refine last_ (i := 7) (N := none) #[true, true, true, true, true, true, true, true] rfl rfl (by kernel_rfl) (by decide) (fun K hK => ?_)
  have s1 := Blk.set6 k1 (.string nmWeb) (.int .i64 ca.img) (.int .i64 ca.conc) (.int .i64 ca.mn) (.int .i64 ca.mx) (.int .i64 ca.grc)
  have e1 := Chg.set6 wx g1_ (.string nmWeb) (.int .i64 ca.img) (.int .i64 ca.conc) (.int .i64 ca.mn) (.int .i64 ca.mx) (.int .i64 ca.grc)
  have k2 := k2.chg e1 (fun h => hne h.symm)
  clear d0 d1 d2 d3 d4 d5 f0 f1 f2 f3 f4 f5
  generalize ((((((wx.setCell ⟨g1_, 0, none⟩ (.string nmWeb)).setCell ⟨g1_, 1, none⟩ (.int .i64 ca.img)).setCell ⟨g1_, 2, none⟩ (.int .i64 ca.conc)).setCell ⟨g1_, 3, none⟩ (.int .i64 ca.mn)).setCell ⟨g1_, 4, none⟩ (.int .i64 ca.mx)).setCell ⟨g1_, 5, none⟩ (.int .i64 ca.grc)) = wy at s1 e1 k2 ⊢
  obtain ⟨d0, d1, d2, d3, d4, d5⟩ := cells6 k2
  have f0 := k2.frozen 0
  have f1 := k2.frozen 1
  have f2 := k2.frozen 2
  have f3 := k2.frozen 3
  have f4 := k2.frozen 4
  have f5 := k2.frozen 5
  refine skip_ (w1 := ?_) (by rfl) rfl ?_ ?_
  rotate_left
  · go_simp
    rfl
  refine hK.out _ _ ?_
  clear hK K
  refine done_ (by kernel_rfl) ?_
  have k1x := k1
  have k2x := k2
  have k1 := s1.chg (Chg.set6 wy g2_ (.string nmWeb) (.int .i64 cb.img) (.int .i64 cb.conc) (.int .i64 cb.mn) (.int .i64 cb.mx) (.int .i64 cb.grc)) (fun h => hne h)
  have k2 := Blk.set6 k2 (.string nmWeb) (.int .i64 cb.img) (.int .i64 cb.conc) (.int .i64 cb.mn) (.int .i64 cb.mx) (.int .i64 cb.grc)
  have e2 := Chg.set6 wy g2_ (.string nmWeb) (.int .i64 cb.img) (.int .i64 cb.conc) (.int .i64 cb.mn) (.int .i64 cb.mx) (.int .i64 cb.grc)
  generalize ((((((wy.setCell ⟨g2_, 0, none⟩ (.string nmWeb)).setCell ⟨g2_, 1, none⟩ (.int .i64 cb.img)).setCell ⟨g2_, 2, none⟩ (.int .i64 cb.conc)).setCell ⟨g2_, 3, none⟩ (.int .i64 cb.mn)).setCell ⟨g2_, 4, none⟩ (.int .i64 cb.mx)).setCell ⟨g2_, 5, none⟩ (.int .i64 cb.grc)) = w7 at k1 k2 e2 ⊢
  have hBx := below_step BD.out hbx
  have HBx := HBd.out.below hbx
  have g1w : w.heap.size ≤ g1_ := Nat.le_trans BD.out.size hz1
  have g2w : w.heap.size ≤ g2_ := Nat.le_trans BD.out.size hz2
  have hb1 := e1.below_of hBx hBx.size (fun k hk e => by omega)
  have HBy := HBx.typ e1 (fun k e => ⟨_, e ▸ k1x⟩) (by decide)
  have HB7 := Lib.hid (HBy.typ e2 (fun k e => ⟨_, e ▸ k2x⟩) (by decide))
  have B7 := Lib.hid (e2.below_of hb1 hb1.size (fun k hk e => by omega))
  have K1 := Lib.hid k1
  have K2 := Lib.hid k2
  clear hBx HBx hb1 HBy e1 e2 k1 k2 k1x k2x s1 hbx hz1 hz2 hne d0 d1 d2 d3 d4 d5 f0 f1 f2 f3 f4 f5 KAd KBd HBd BD CCA CCB
  obtain ⟨d0, d1, d2, d3, d4, d5⟩ := cells6 K1.out
  go_wp2_with fail
  have hva : ValidN ca.nm := hna ▸ nmWeb_valid
  have hvb : ValidN cb.nm := hnb ▸ nmWeb_valid
  with_reducible refine (stamp_callsE HB7.out OkL.nil ca hva g hg0 hg1 (fun w' hb => HT.out w' (below_step B7.out hb)) (encC_nm hna) (nm := nmWeb) hna).mono ?_
  rintro e w8 ⟨rfl, hB8, hc8⟩
  rw [stampL_nil] at hB8
  have HB8 := Lib.hid hB8
  have HL8 := OkL.nil.stamp (c := ca) hva (g := g) hg0 hg1 (by simp)
  rw [stampL_nil] at HL8
  have HL8 := Lib.hid HL8
  have B8 := Lib.hid (hc8.below_of B7.out B7.out.size (fun k hk e => by omega))
  have K18 := Lib.hid (K1.out.chg hc8 (map_ne HB7.out K1.out))
  have K28 := Lib.hid (K2.out.chg hc8 (map_ne HB7.out K2.out))
  clear hB8 hc8 HB7 B7 K1 K2 d0 d1 d2 d3 d4 d5
  have hS8 := Stay.first hna g
  have hfn : (findR [] (revN nmWeb g).data.toList).isNone = true := rfl
  rw [hfn]
  clear hfn
  obtain ⟨d0, d1, d2, d3, d4, d5⟩ := cells6 K28.out
  go_wp2_with fail
  with_reducible refine (stamp_callsE HB8.out HL8.out cb hvb g hg0 hg1 (fun w' hb => HT.out w' (below_step B8.out hb)) (encC_nm hnb) (nm := nmWeb) hnb).mono ?_
  rintro e w9 ⟨rfl, hB9, hc9⟩
  rw [hS8.again hnb] at hB9
  have hfn : (findR [⟨ca, g, false⟩] (revN nmWeb g).data.toList).isNone = false := by rw [hS8.find]; rfl
  rw [hfn]
  have HB9 := Lib.hid hB9
  have B9 := Lib.hid (hc9.below_of B8.out B8.out.size (fun k hk e => by omega))
  have K19 := Lib.hid (K18.out.chg hc9 (map_ne HB8.out K18.out))
  have HS9 := Lib.hid hS8
  clear hB9 hc9 HB8 B8 K18 K28 d0 d1 d2 d3 d4 d5 hfn hS8
  go_wp2_with fail
  go_loopw [17] (fun v17 wr => ∃ (i : Nat) (L : List RevM), i ≤ l2.length ∧ i ≤ 20 ∧ v17 = .int .i64 i ∧ Hid (BookAt wr p b1 b2 L) ∧ Hid (OkL L) ∧ Hid (Stay L ca g) ∧ L.length ≤ i + 1 ∧ Hid (Blk wr g1_ #[.string nmWeb, .int .i64 ca.img, .int .i64 ca.conc, .int .i64 ca.mn, .int .i64 ca.mx, .int .i64 ca.grc] 27) ∧ Hid (Below w.heap.size w wr)) (fun v17 _ => l2.length - (vI v17).toNat)
  case atStart => exact ⟨0, _, by omega, by omega, rfl, HB9, HL8, HS9, by simp, K19, B9⟩
  case round =>
    clear HB9 HL8 HS9 K19 B9
    obtain ⟨i, L, hi, hi20, rfl, HB, HL, HS, hLi, K1, BB⟩ := hrel
    by_cases hlt : i < l2.length
    · by_cases h20 : i < 20
      · have hlt' : (i : Int) < (l2.length : Int) := by omega
        obtain ⟨gs, os, rfl, _, hcs⟩ := HR2.out (fun e => by rw [e] at hlt; exact absurd hlt (Nat.not_lt_zero _))
        obtain ⟨sk, sn, sm, sc, hst⟩ : ∃ sk sn sm sc, l2[i] = ⟨sk, sn, sm, sc⟩ := ⟨_, _, _, _, rfl⟩
        have HC := Lib.hid (show ∀ (w' : World) (j : Nat), Below w.heap.size w w' → j < 9 → w'.cell? ⟨gs, os + i * 9 + j, none⟩ = (cellsS ⟨sk, sn, sm, sc⟩)[j]? from fun w' j hb hj => by
          obtain ⟨g', o', e', _, hc⟩ := (HR2.out.below hb) (fun e => by rw [e] at hlt; exact absurd hlt (Nat.not_lt_zero _))
          cases e'
          rw [← hst]
          exact hc i hlt j hj)
        clear hcs hst
        have dr := (Below.refl wr.heap.size wr).drew
        have HBd := Lib.hid (HB.out.below dr)
        have K1d := Lib.hid (K1.out.below dr K1.out.lt)
        have BD := Lib.hid (below_step BB.out dr)
        clear dr HB K1 BB
        obtain ⟨cn, hcn⟩ : ∃ cn, cn = cfgOf sc sm := ⟨_, rfl⟩
        have hv : ValidN cn.nm := hcn ▸ cfgOf_valid sc sm
        have CCF := Lib.hid (fun w' => cfg_calls sc sm w' (v := .agg #[.string sc.nm, .int .i64 sc.img, .int .i64 sc.conc, .int .i64 sc.mn, .int .i64 sc.mx, .int .i64 sc.grc]) rfl (r := .agg #[.string cn.nm, .int .i64 cn.img, .int .i64 cn.conc, .int .i64 cn.mn, .int .i64 cn.mx, .int .i64 cn.grc]) (by rw [← hcn]; rfl))
        clear hcn
        have hwk := Lib.hid (within12 sn 99 (by omega) (by omega))
        have k0 := Int.emod_nonneg sn (b := 99) (by omega)
        have k1 := Int.emod_lt_of_pos sn (b := 99) (by omega)
        generalize sn % 99 = k at hwk k0 k1
        have hgw : wrap64 (1 + k) = 1 + k := w64 (by omega) (by omega)
        have hg1_ : 1 ≤ wrap64 (1 + k) := by rw [hgw]; omega
        have hg2_ : wrap64 (1 + k) ≤ 999999 := by rw [hgw]; omega
        go_wp2_with fail
        refine start_ (n := 20) (S := fun w' => w'.cell? ⟨gs, os + i * 9 + 3, none⟩ = some (.string sc.nm) ∧ w'.cell? ⟨gs, os + i * 9 + 4, none⟩ = some (.int .i64 sc.img) ∧ w'.cell? ⟨gs, os + i * 9 + 5, none⟩ = some (.int .i64 sc.conc) ∧ w'.cell? ⟨gs, os + i * 9 + 6, none⟩ = some (.int .i64 sc.mn) ∧ w'.cell? ⟨gs, os + i * 9 + 7, none⟩ = some (.int .i64 sc.mx) ∧ w'.cell? ⟨gs, os + i * 9 + 8, none⟩ = some (.int .i64 sc.grc) ∧ w'.cell? ⟨gs, os + i * 9 + 2, none⟩ = some (.int .i64 sm) ∧ w'.cell? ⟨gs, os + i * 9 + 1, none⟩ = some (.int .i64 sn)) (ds := []) #[false, false, false, false, false, false, false, false, false, false, false, false, false, false, false, false, false, false, false, false] (by kernel_rfl) rfl rfl ⟨HC.out _ 3 BD.out (by omega), HC.out _ 4 BD.out (by omega), HC.out _ 5 BD.out (by omega), HC.out _ 6 BD.out (by omega), HC.out _ 7 BD.out (by omega), HC.out _ 8 BD.out (by omega), HC.out _ 2 BD.out (by omega), HC.out _ 1 BD.out (by omega)⟩ (fun hHeld => ?_)
        refine pure_ (i := 0) (N := some 56) (v := ?_) (a' := ?_) #[true, false, false, false, false, false, false, false, false, false, false, false, false, false, false, false, false, false, false, false] rfl rfl (by kernel_rfl) (fun _ _ _ h => h) (Or.inl ⟨by rfl, ?_⟩) ?_ ?_
        rotate_left
        · intro w'
          go_simp
          with_reducible rfl
        rotate_left
        · simp only [Act.put, List.setIfInBounds_toArray, List.set_cons_zero, List.set_cons_succ, i64_w, i32_w]
          rfl
        refine pure_ (i := 1) (N := some 57) (v := ?_) (a' := ?_) #[true, true, false, false, false, false, false, false, false, false, false, false, false, false, false, false, false, false, false, false] rfl rfl (by kernel_rfl) (fun _ _ _ h => h) (Or.inl ⟨by rfl, ?_⟩) ?_ ?_
        rotate_left
        · intro w'
          go_simp
          with_reducible rfl
        rotate_left
        · simp only [Act.put, List.setIfInBounds_toArray, List.set_cons_zero, List.set_cons_succ, i64_w, i32_w]
          rfl
        refine pure_ (i := 2) (N := some 58) (v := ?_) (a' := ?_) #[true, true, true, false, false, false, false, false, false, false, false, false, false, false, false, false, false, false, false, false] rfl rfl (by kernel_rfl) (fun _ _ _ h => h) (Or.inl ⟨by rfl, ?_⟩) ?_ ?_
        rotate_left
        · intro w'
          go_simp
          with_reducible rfl
        rotate_left
        · simp only [Act.put, List.setIfInBounds_toArray, List.set_cons_zero, List.set_cons_succ, i64_w, i32_w]
          rfl
        refine pure_ (i := 3) (N := some 59) (v := ?_) (a' := ?_) #[true, true, true, true, false, false, false, false, false, false, false, false, false, false, false, false, false, false, false, false] rfl rfl (by kernel_rfl) (fun _ _ _ h => h) (Or.inl ⟨by rfl, ?_⟩) ?_ ?_
        rotate_left
        · intro w'
          go_simp
          with_reducible rfl
        rotate_left
        · simp only [Act.put, List.setIfInBounds_toArray, List.set_cons_zero, List.set_cons_succ, i64_w, i32_w]
          rfl
        refine pure_ (i := 4) (N := some 60) (v := ?_) (a' := ?_) #[true, true, true, true, true, false, false, false, false, false, false, false, false, false, false, false, false, false, false, false] rfl rfl (by kernel_rfl) (fun _ _ _ h => h) (Or.inl ⟨by rfl, ?_⟩) ?_ ?_
        rotate_left
        · intro w'
          go_simp
          with_reducible rfl
        rotate_left
        · simp only [Act.put, List.setIfInBounds_toArray, List.set_cons_zero, List.set_cons_succ, i64_w, i32_w]
          rfl
        refine pure_ (i := 6) (N := some 62) (v := ?_) (a' := ?_) #[true, true, true, true, true, false, true, false, false, false, false, false, false, false, false, false, false, false, false, false] rfl rfl (by kernel_rfl) (fun _ _ _ h => h) (Or.inl ⟨by rfl, ?_⟩) ?_ ?_
        rotate_left
        · intro w'
          go_simp
          with_reducible rfl
        rotate_left
        · simp only [Act.put, List.setIfInBounds_toArray, List.set_cons_zero, List.set_cons_succ, i64_w, i32_w]
          rfl
        refine pure_ (i := 7) (N := some 63) (v := ?_) (a' := ?_) #[true, true, true, true, true, false, true, true, false, false, false, false, false, false, false, false, false, false, false, false] rfl rfl (by kernel_rfl) (fun _ _ _ h => h) (Or.inl ⟨by rfl, ?_⟩) ?_ ?_
        rotate_left
        · intro w'
          go_simp
          with_reducible rfl
        rotate_left
        · simp only [Act.put, List.setIfInBounds_toArray, List.set_cons_zero, List.set_cons_succ, i64_w, i32_w]
          rfl
        refine pure_ (i := 8) (N := some 64) (v := ?_) (a' := ?_) #[true, true, true, true, true, false, true, true, true, false, false, false, false, false, false, false, false, false, false, false] rfl rfl (by kernel_rfl) (fun _ _ _ h => h) (Or.inl ⟨by rfl, ?_⟩) ?_ ?_
        rotate_left
        · intro w'
          go_simp
          with_reducible rfl
        rotate_left
        · simp only [Act.put, List.setIfInBounds_toArray, List.set_cons_zero, List.set_cons_succ, i64_w, i32_w]
          rfl
        refine pure_ (i := 9) (N := some 65) (v := ?_) (a' := ?_) #[true, true, true, true, true, false, true, true, true, true, false, false, false, false, false, false, false, false, false, false] rfl rfl (by kernel_rfl) (fun _ _ _ h => h) (Or.inl ⟨by rfl, ?_⟩) ?_ ?_
        rotate_left
        · intro w'
          go_simp
          with_reducible rfl
        rotate_left
        · simp only [Act.put, List.setIfInBounds_toArray, List.set_cons_zero, List.set_cons_succ, i64_w, i32_w]
          rfl
        refine pure_ (i := 12) (N := some 68) (v := ?_) (a' := ?_) #[true, true, true, true, true, false, true, true, true, true, false, false, true, false, false, false, false, false, false, false] rfl rfl (by kernel_rfl) (fun _ _ _ h => h) (Or.inl ⟨by rfl, ?_⟩) ?_ ?_
        rotate_left
        · intro w'
          go_simp
          with_reducible rfl
        rotate_left
        · simp only [Act.put, List.setIfInBounds_toArray, List.set_cons_zero, List.set_cons_succ, i64_w, i32_w]
          rfl
        refine pure_ (i := 13) (N := some 69) (v := ?_) (a' := ?_) #[true, true, true, true, true, false, true, true, true, true, false, false, true, true, false, false, false, false, false, false] rfl rfl (by kernel_rfl) (fun _ _ _ h => h) (Or.inl ⟨by rfl, ?_⟩) ?_ ?_
        rotate_left
        · intro w'
          go_simp
          with_reducible rfl
        rotate_left
        · simp only [Act.put, List.setIfInBounds_toArray, List.set_cons_zero, List.set_cons_succ, i64_w, i32_w]
          rfl
        refine pure_ (i := 14) (N := some 70) (v := ?_) (a' := ?_) #[true, true, true, true, true, false, true, true, true, true, false, false, true, true, true, false, false, false, false, false] rfl rfl (by kernel_rfl) (fun _ _ _ h => h) (Or.inl ⟨by rfl, ?_⟩) ?_ ?_
        rotate_left
        · intro w'
          go_simp
          with_reducible rfl
        rotate_left
        · simp only [Act.put, List.setIfInBounds_toArray, List.set_cons_zero, List.set_cons_succ, i64_w, i32_w]
          rfl
        refine pure_ (i := 15) (N := some 71) (v := ?_) (a' := ?_) #[true, true, true, true, true, false, true, true, true, true, false, false, true, true, true, true, false, false, false, false] rfl rfl (by kernel_rfl) (fun _ _ _ h => h) (Or.inl ⟨by rfl, ?_⟩) ?_ ?_
        rotate_left
        · intro w'
          go_simp
          with_reducible rfl
        rotate_left
        · simp only [Act.put, List.setIfInBounds_toArray, List.set_cons_zero, List.set_cons_succ, i64_w, i32_w]
          rfl
        refine take_ (i := 5) (N := some 61) (v := ?_) (a' := ?_) #[true, true, true, true, true, true, true, true, true, true, false, false, true, true, true, true, false, false, false, false] rfl rfl (by kernel_rfl) (fun _ _ _ h => h) (Or.inl ⟨by rfl, ?_⟩) hHeld ?_ ?_
        rotate_left
        · rintro w' ⟨s0, s1, s2, s3, s4, s5, s6, s7⟩
          go_simp
          with_reducible rfl
        rotate_left
        · simp only [Act.put, List.setIfInBounds_toArray, List.set_cons_zero, List.set_cons_succ, i64_w, i32_w]
          rfl
        refine take_ (i := 10) (N := some 66) (v := ?_) (a' := ?_) #[true, true, true, true, true, true, true, true, true, true, true, false, true, true, true, true, false, false, false, false] rfl rfl (by kernel_rfl) (fun _ _ _ h => h) (Or.inl ⟨by rfl, ?_⟩) hHeld ?_ ?_
        rotate_left
        · rintro w' ⟨s0, s1, s2, s3, s4, s5, s6, s7⟩
          go_simp
          with_reducible rfl
        rotate_left
        · simp only [Act.put, List.setIfInBounds_toArray, List.set_cons_zero, List.set_cons_succ, i64_w, i32_w]
          rfl
        refine take_ (i := 16) (N := some 72) (v := ?_) (a' := ?_) #[true, true, true, true, true, true, true, true, true, true, true, false, true, true, true, true, true, false, false, false] rfl rfl (by kernel_rfl) (fun _ _ _ h => h) (Or.inl ⟨by rfl, ?_⟩) hHeld ?_ ?_
        rotate_left
        · rintro w' ⟨s0, s1, s2, s3, s4, s5, s6, s7⟩
          go_simp
          with_reducible rfl
        rotate_left
        · simp only [Act.put, List.setIfInBounds_toArray, List.set_cons_zero, List.set_cons_succ, i64_w, i32_w]
          rfl
        refine one_ (i := 11) (N := some 67) #[true, true, true, true, true, true, true, true, true, true, true, true, true, true, true, true, true, false, false, false] rfl rfl (by kernel_rfl) (by decide) (fun K hK => ?_)
        refine goes_ Tryd.func18 (by kernel_rfl) rfl #[.agg #[.string sc.nm, .int .i64 sc.img, .int .i64 sc.conc, .int .i64 sc.mn, .int .i64 sc.mx, .int .i64 sc.grc], .int .i64 sm] (by rfl) rfl rfl (by simp only [List.map_toArray, List.map_cons, List.map_nil]; rfl) ?_
        with_reducible refine (CCF.out _).mono ?_
        rintro e u1 ⟨rfl, hu1⟩
        have HBu := Lib.hid (HBd.out.below hu1)
        have K1u := Lib.hid (K1d.out.below hu1 K1d.out.lt)
        have Bu := Lib.hid (below_step BD.out hu1)
        clear hu1
        refine ⟨_, rfl, ?_⟩
        refine hK.out _ _ ⟨HC.out _ 3 Bu.out (by omega), HC.out _ 4 Bu.out (by omega), HC.out _ 5 Bu.out (by omega), HC.out _ 6 Bu.out (by omega), HC.out _ 7 Bu.out (by omega), HC.out _ 8 Bu.out (by omega), HC.out _ 2 Bu.out (by omega), HC.out _ 1 Bu.out (by omega)⟩ (fun hHeld => ?_)
        clear hK K
        refine norm_ (a' := ?_) ?_ ?_
        rotate_left
        · show Act.put _ (some 67) _ = _
          simp only [Act.put, List.setIfInBounds_toArray, List.set_cons_zero, List.set_cons_succ, i64_w, i32_w]
          rfl
        refine one_ (i := 17) (N := some 73) #[true, true, true, true, true, true, true, true, true, true, true, true, true, true, true, true, true, true, false, false] rfl rfl (by kernel_rfl) (by decide) (fun K hK => ?_)
        refine goes_ Tryd.func13 (by kernel_rfl) rfl #[.int .i64 sn, .int .i64 99] (by rfl) rfl rfl (by simp only [List.map_toArray, List.map_cons, List.map_nil]; rfl) ?_
        with_reducible refine (damperlaw12_within.calls sn 99 k _ hwk.out).mono ?_
        rintro e u2 ⟨rfl, hdu_⟩
        have hu2 := hdu_.below
        have HBv := Lib.hid (HBu.out.below hu2)
        have K1v := Lib.hid (K1u.out.below hu2 K1u.out.lt)
        have Bv := Lib.hid (below_step Bu.out hu2)
        clear hdu_ hu2
        refine ⟨_, rfl, ?_⟩
        refine hK.out _ _ ⟨HC.out _ 3 Bv.out (by omega), HC.out _ 4 Bv.out (by omega), HC.out _ 5 Bv.out (by omega), HC.out _ 6 Bv.out (by omega), HC.out _ 7 Bv.out (by omega), HC.out _ 8 Bv.out (by omega), HC.out _ 2 Bv.out (by omega), HC.out _ 1 Bv.out (by omega)⟩ (fun hHeld => ?_)
        clear hK K
        refine norm_ (a' := ?_) ?_ ?_
        rotate_left
        · show Act.put _ (some 73) _ = _
          simp only [Act.put, List.setIfInBounds_toArray, List.set_cons_zero, List.set_cons_succ, i64_w, i32_w]
          rfl
        refine pure_ (i := 18) (N := some 74) (v := ?_) (a' := ?_) #[true, true, true, true, true, true, true, true, true, true, true, true, true, true, true, true, true, true, true, false] rfl rfl (by kernel_rfl) (fun _ _ _ h => h) (Or.inl ⟨by rfl, ?_⟩) ?_ ?_
        rotate_left
        · intro w'
          go_simp
          with_reducible rfl
        rotate_left
        · simp only [Act.put, List.setIfInBounds_toArray, List.set_cons_zero, List.set_cons_succ, i64_w, i32_w]
          rfl
        refine one_ (i := 19) (N := some 75) #[true, true, true, true, true, true, true, true, true, true, true, true, true, true, true, true, true, true, true, true] rfl rfl (by kernel_rfl) (by decide) (fun K hK => ?_)
        refine goes_ Tryd.func14 (by kernel_rfl) rfl #[.pointer (some ⟨p, 0, none⟩), .agg #[.string cn.nm, .int .i64 cn.img, .int .i64 cn.conc, .int .i64 cn.mn, .int .i64 cn.mx, .int .i64 cn.grc], .int .i64 (wrap64 (1 + k))] (by rfl) rfl rfl (by simp only [List.map_toArray, List.map_cons, List.map_nil]; rfl) ?_
        with_reducible refine (stamp_callsE HBv.out HL.out cn hv (wrap64 (1 + k)) hg1_ hg2_ (fun w' hb => HT.out w' (below_step Bv.out hb)) (v := .agg #[.string cn.nm, .int .i64 cn.img, .int .i64 cn.conc, .int .i64 cn.mn, .int .i64 cn.mx, .int .i64 cn.grc]) rfl (nm := cn.nm) rfl).mono ?_
        rintro e u3 ⟨rfl, hu3, hc3⟩
        have HBw := Lib.hid hu3
        have K1w := Lib.hid (K1v.out.chg hc3 (map_ne HBv.out K1v.out))
        have Bw := Lib.hid (hc3.below_of Bv.out Bv.out.size (fun k hk e => by omega))
        clear hu3 hc3
        refine ⟨_, rfl, ?_⟩
        refine hK.out _ _ ⟨HC.out _ 3 Bw.out (by omega), HC.out _ 4 Bw.out (by omega), HC.out _ 5 Bw.out (by omega), HC.out _ 6 Bw.out (by omega), HC.out _ 7 Bw.out (by omega), HC.out _ 8 Bw.out (by omega), HC.out _ 2 Bw.out (by omega), HC.out _ 1 Bw.out (by omega)⟩ (fun hHeld => ?_)
        clear hK K
        refine norm_ (a' := ?_) ?_ ?_
        rotate_left
        · show Act.put _ (some 75) _ = _
          simp only [Act.put, List.setIfInBounds_toArray, List.set_cons_zero, List.set_cons_succ, i64_w, i32_w]
          rfl
        refine done_ (by kernel_rfl) ?_
        rw [hgw] at HBw
        have HLw := Lib.hid (HL.out.stamp hv (g := 1 + k) (by omega) (by omega) (by omega))
        have HSw := Lib.hid (HS.out.stamp cn (1 + k))
        have hLl := stampL_len L cn (1 + k)
        generalize stampL L cn (1 + k) = L' at HBw HLw HSw hLl
        clear HBd K1d BD HBu K1u Bu HBv K1v Bv HL HS CCF hwk k0 k1
        go_wp2_with fail
        go_roundw
        case rel => exact ⟨i + 1, L', by omega, by omega, by go_num, HBw, HLw, HSw, by omega, K1w, Bw⟩
        case measure => simp [vI]; omega
      · obtain rfl : i = 20 := by omega
        go_wp2_with fail
        have hsz := revN_size nmWeb (by decide) g (by omega) hg1
        with_reducible refine (get_some HB.out (revN nmWeb g) (by omega) HS.out.find (n := revN nmWeb g) (nm := nmWeb) (g := g) (x1 := ca.img) (x2 := ca.conc) (x3 := ca.mn) (x4 := ca.mx) (x5 := ca.grc) (by unfold encR cellsR RevM.nm; rw [hna])).mono ?_
        rintro e we ⟨rfl, hbe⟩
        obtain ⟨Wr, hWr⟩ : ∃ Wr, Wr = we.alloc (.cells #[.string (revN nmWeb g), .int .i64 g, .string nmWeb, .int .i64 ca.img, .int .i64 ca.conc, .int .i64 ca.mn, .int .i64 ca.mx, .int .i64 ca.grc] 42) := ⟨_, rfl⟩
        have bWr : Below we.heap.size we Wr := by rw [hWr]; exact (Below.refl _ _).alloc (Nat.le_refl _) _
        have kr : Blk Wr we.heap.size #[.string (revN nmWeb g), .int .i64 g, .string nmWeb, .int .i64 ca.img, .int .i64 ca.conc, .int .i64 ca.mn, .int .i64 ca.mx, .int .i64 ca.grc] 42 := by rw [hWr]; exact Blk.new _ _ _
        obtain ⟨gr, hgr⟩ : ∃ gr, gr = we.heap.size := ⟨_, rfl⟩
        rw [← hgr] at kr
        have bb := below_step hbe bWr
        have HBa := Lib.hid (HB.out.below bb)
        have K1a := Lib.hid (K1.out.below bb K1.out.lt)
        have Ba := Lib.hid (below_step BB.out bb)
        have KR := Lib.hid kr
        clear kr bWr hbe bb HB K1 BB
        go_upto_region 15 with fail
        rw [← hWr, ← hgr]
        clear hWr hgr
        have hpf : provedL L (revN nmWeb g).data.toList = false := HS.out.provedL _
        obtain ⟨q0, q1, q2, q3, q4, q5, q6, q7⟩ := Blk.cells8 KR.out
        obtain ⟨d0, d1, d2, d3, d4, d5⟩ := cells6 K1a.out
        go_wp2_with (first
          | (go_at_call 16; (with_reducible refine (rrev_calls nmWeb nmWeb_valid g (by omega) (by omega) _).mono ?_); rintro e u1 ⟨rfl, hu1⟩; have KU1 := Lib.hid (KR.out.below hu1 KR.out.lt); have HU1 := Lib.hid (HBa.out.below hu1); have K1b := Lib.hid (K1a.out.below hu1 K1a.out.lt); have BU1 := Lib.hid (below_step Ba.out hu1); clear hu1 q0 q1 q2 q3 q4 q5 q6 q7 d0 d1 d2 d3 d4 d5; obtain ⟨q0, q1, q2, q3, q4, q5, q6, q7⟩ := Blk.cells8 KU1.out; obtain ⟨d0, d1, d2, d3, d4, d5⟩ := cells6 K1b.out)
          | (go_at_call 20; (with_reducible refine (proved_calls HU1.out (revN nmWeb g) (by omega)).mono ?_); rintro e u2 ⟨rfl, hw2⟩; rw [hpf, hw2]))
        go_ret
        exact ⟨rfl, BU1.out⟩
    · obtain rfl : i = l2.length := by omega
      go_wp2_with fail
      have hsz := revN_size nmWeb (by decide) g (by omega) hg1
      with_reducible refine (get_some HB.out (revN nmWeb g) (by omega) HS.out.find (n := revN nmWeb g) (nm := nmWeb) (g := g) (x1 := ca.img) (x2 := ca.conc) (x3 := ca.mn) (x4 := ca.mx) (x5 := ca.grc) (by unfold encR cellsR RevM.nm; rw [hna])).mono ?_
      rintro e we ⟨rfl, hbe⟩
      obtain ⟨Wr, hWr⟩ : ∃ Wr, Wr = we.alloc (.cells #[.string (revN nmWeb g), .int .i64 g, .string nmWeb, .int .i64 ca.img, .int .i64 ca.conc, .int .i64 ca.mn, .int .i64 ca.mx, .int .i64 ca.grc] 42) := ⟨_, rfl⟩
      have bWr : Below we.heap.size we Wr := by rw [hWr]; exact (Below.refl _ _).alloc (Nat.le_refl _) _
      have kr : Blk Wr we.heap.size #[.string (revN nmWeb g), .int .i64 g, .string nmWeb, .int .i64 ca.img, .int .i64 ca.conc, .int .i64 ca.mn, .int .i64 ca.mx, .int .i64 ca.grc] 42 := by rw [hWr]; exact Blk.new _ _ _
      obtain ⟨gr, hgr⟩ : ∃ gr, gr = we.heap.size := ⟨_, rfl⟩
      rw [← hgr] at kr
      have bb := below_step hbe bWr
      have HBa := Lib.hid (HB.out.below bb)
      have K1a := Lib.hid (K1.out.below bb K1.out.lt)
      have Ba := Lib.hid (below_step BB.out bb)
      have KR := Lib.hid kr
      clear kr bWr hbe bb HB K1 BB
      go_upto_region 15 with fail
      rw [← hWr, ← hgr]
      clear hWr hgr
      have hpf : provedL L (revN nmWeb g).data.toList = false := HS.out.provedL _
      obtain ⟨q0, q1, q2, q3, q4, q5, q6, q7⟩ := Blk.cells8 KR.out
      obtain ⟨d0, d1, d2, d3, d4, d5⟩ := cells6 K1a.out
      go_wp2_with (first
        | (go_at_call 16; (with_reducible refine (rrev_calls nmWeb nmWeb_valid g (by omega) (by omega) _).mono ?_); rintro e u1 ⟨rfl, hu1⟩; have KU1 := Lib.hid (KR.out.below hu1 KR.out.lt); have HU1 := Lib.hid (HBa.out.below hu1); have K1b := Lib.hid (K1a.out.below hu1 K1a.out.lt); have BU1 := Lib.hid (below_step Ba.out hu1); clear hu1 q0 q1 q2 q3 q4 q5 q6 q7 d0 d1 d2 d3 d4 d5; obtain ⟨q0, q1, q2, q3, q4, q5, q6, q7⟩ := Blk.cells8 KU1.out; obtain ⟨d0, d1, d2, d3, d4, d5⟩ := cells6 K1b.out)
        | (go_at_call 20; (with_reducible refine (proved_calls HU1.out (revN nmWeb g) (by omega)).mono ?_); rintro e u2 ⟨rfl, hw2⟩; rw [hpf, hw2]))
      go_ret
      exact ⟨rfl, BU1.out⟩

end Go.Proofs.YtmiojmnifnnncaaDoor.PA
