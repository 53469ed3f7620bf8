/- The document's Roller: Turn, the walk. (Printed by genx.py from refturnw.src.) -/
import Derived.Test.YtnkmpkhiilnigaaRefTurn
namespace Go.Proofs.Ytnkmpkhiilnigaa.PA
open Go.RowKit Go.Shelf Go.Lib Go.Sort Go.Proofs.YtnkmpkhiilnigaaW.PrintWords Go.Proofs.YtnkmpkhiilnigaaW.PrintLast

/-- No table of its own block is a part of it. -/
theorem DocAt.tab {ok : Nat → Prop} {w w' : World} {p q : Nat} {l : List DW} {cs : Array Value} (h : DocAt w p ok l) (hb : Blk w q cs 29) (hs : ∀ (j : Nat) (s : ByteArray), cs[j]? ≠ some (.string s)) (hc : Chg (fun k => k = q) w w') : DocAt w' p ok l := by
  have hblk : ∀ {g : Nat} {cs : Array Value} {t : TypeId}, Blk w g cs t → t ≠ 29 → ¬ g = q := fun hk ht e => blk_neT hk hb ht e
  obtain ⟨⟨base, A, c, h1, h2, h3⟩, h4, h5, h6, h7⟩ := h
  have hs1 : ∀ {A : Option Addr} {l : List S40}, Kd.C k40 w A l.length l → InOk (fun k => ¬ k = q) A l.length := fun h0 hp ad e e' => by
    obtain ⟨g', o, hA, _, hc0⟩ := shares_at h0 hp
    rw [hA] at e
    cases e
    have h9 := (hc0 0 hp).1
    subst e'
    rw [hb.cell] at h9
    exact hs _ _ h9
  have hs2 : ∀ {A : Option Addr} {l : List S42}, Kd.C k42 w A l.length l → InOk (fun k => ¬ k = q) A l.length := fun h0 hp ad e e' => by
    obtain ⟨g', o, hA, _, hc0⟩ := tags_at h0 hp
    rw [hA] at e
    cases e
    have h9 := (hc0 0 hp).1
    subst e'
    rw [hb.cell] at h9
    exact hs _ _ h9
  refine ⟨⟨base, A, c, h1.chg hc (hblk h1 (by decide)), ?_, h3⟩, fun x hx => ?_, h5, h6, h7⟩
  · obtain ⟨q1, q2⟩ := h2
    refine ⟨q1, ?_⟩
    rcases q2 with q2 | ⟨g, cap, cur, hv, hg, hh, r⟩
    · exact .inl q2
    · exact .inr ⟨g, cap, cur, hv, hg, (hc.block g (Array.getElem?_eq_some_iff.1 hh).1 (hblk (t := 73) hh (by decide))).trans hh, r⟩
  · obtain ⟨A0, c0, A1, c1, A2, c2, A3, c3, hk, ⟨q0, q1, q2, q3⟩, hl, o0, o1, o2, o3⟩ := h4 x hx
    exact ⟨A0, c0, A1, c1, A2, c2, A3, c3, hk.chg hc (hblk hk (by decide)), ⟨c_chg q0 (hs1 q0) hc (fun _ h _ => h), c_chg q1 (hs1 q1) hc (fun _ h _ => h), c_chg q2 (hs1 q2) hc (fun _ h _ => h), ct_chg q3 (hs2 q3) hc (fun _ h _ => h)⟩, hl, o0, o1, o2, o3⟩

/-- Where Turn stands when it has found its way: the way is x. -/
structure Mid (w wx : World) (p : Nat) (ok : Nat → Prop) (l : List DW) (nm : ByteArray) (bm : WayM) (ok1 : Nat → Prop) (l1 : List DW) (x : DW) (z : Nat) : Prop where
  doc : DocAt wx p ok1 l1
  isx : findW l1 nm = some x
  fr : x.m.fr = bm.fr
  dst : x.m.dst = bm.dst
  since : x.m.since = bm.since
  whole : x.m.whole = bm.whole
  others : ∀ nm' : ByteArray, nm'.toList ≠ nm.toList → findM l1 nm' = findM l nm'
  new : ∀ k, wx.heap.size ≤ k → ok1 k
  old : ∀ k, k < w.heap.size → ok k → ok1 k
  len : l1.length ≤ l.length + 1
  mid : ∀ k, w.heap.size ≤ k → k < z → ok1 k
  chg : Chg (fun k => ¬ ok k) w wx

set_option maxRecDepth 100000 in
set_option maxHeartbeats 8000000 in
theorem dturn_calls {w : World} {p : Nat} {ok : Nat → Prop} {l : List DW} (h : DocAt w p ok l) (hok : ∀ k, w.heap.size ≤ k → ok k) (nm : ByteArray) (hl : l.length ≤ 100)
    (At : Option Addr) (ct : Nat) (sh : List S40) (Au : Option Addr) (cu : Nat) (tg : List S42) (hsh : Kd.C k40 w At sh.length sh) (hct : sh.length ≤ ct) (htg : Kd.C k42 w Au tg.length tg) (hcu : tg.length ≤ cu) (z0 : sh.length ≤ 400) (z1 : tg.length ≤ 400)
    (now whole : Int) (hn0 : -1000000000 ≤ now) (hn1 : now ≤ 1000000000) (hw1 : whole ≤ 1000000000)
    (bm : WayM) (hbm : bm = baseW (findM l nm) sh now whole) (hf0 : Fine bm.fr) (hf1 : Fine bm.dst) (zf0 : bm.fr.length ≤ 400) (zf1 : bm.dst.length ≤ 400) (hs0 : -1000000000 ≤ bm.since) (hs1 : bm.since ≤ 1000000000) (hlr : (rollL bm.fr bm.dst (now - bm.since) whole).length ≤ 1000) (hlm : ∀ m, findM l nm = some m → m.dst.length ≤ 1000) :
    Calls Try.prog 21 #[.pointer (some ⟨p, 0, none⟩), .string nm, .agg #[.slice At sh.length ct, .slice Au tg.length cu], .int .i64 now, .int .i64 whole] w fun e w' => ∃ A c B d ok' l', e = .returned (.agg #[.slice A (rollL bm.fr bm.dst (now - bm.since) whole).length c, .slice B tg.length d]) ∧
      (Kd.C k40 w' A (rollL bm.fr bm.dst (now - bm.since) whole).length (rollL bm.fr bm.dst (now - bm.since) whole) ∧ (rollL bm.fr bm.dst (now - bm.since) whole).length ≤ c ∧ Kd.C k42 w' B tg.length tg ∧ tg.length ≤ d) ∧ (InOk ok' A (rollL bm.fr bm.dst (now - bm.since) whole).length ∧ InOk ok' B tg.length) ∧
      DocAt w' p ok' l' ∧ (∀ k, w'.heap.size ≤ k → ok' k) ∧ (∀ k, k < w.heap.size → ok k → ok' k) ∧ (∀ nm' : ByteArray, findM l' nm' = if nm'.toList = nm.toList then some (turnW (findM l nm) sh tg now whole) else findM l nm') ∧ l'.length ≤ l.length + 1 ∧ Chg (fun k => ¬ ok k) w w' := by
  have H := Lib.hid h
  have HOK := Lib.hid hok
  have HSH := Lib.hid hsh
  have HTG := Lib.hid htg
  have HBM := Lib.hid hbm
  have HF0 := Lib.hid hf0
  have HF1 := Lib.hid hf1
  have HLR := Lib.hid hlr
  have HLM := Lib.hid hlm
  clear h hok hsh htg hbm hf0 hf1 hlr hlm
  obtain ⟨W0, hW0⟩ : ∃ W0, W0 = ((w.alloc (.cells #[.slice At sh.length ct, .slice Au tg.length cu] 29)).alloc (.cells #[.slice none 0 0, .slice none 0 0] 29)) := ⟨_, rfl⟩
  have bW0 : Below w.heap.size w W0 := by rw [hW0]; exact ((Below.refl _ _).alloc (Nat.le_refl _) _).alloc (by simp) _
  have k7 : Blk W0 w.heap.size #[.slice At sh.length ct, .slice Au tg.length cu] 29 := by rw [hW0]; exact (Blk.new w _ _).alloc _
  have k10 : Blk W0 (w.heap.size + 1) #[.slice none 0 0, .slice none 0 0] 29 := by
    rw [hW0]
    have := Blk.new (w.alloc (.cells #[.slice At sh.length ct, .slice Au tg.length cu] 29)) #[.slice none 0 0, .slice none 0 0] 29
    simpa using this
  have zW0 : w.heap.size + 2 = W0.heap.size := by rw [hW0]; simp
  have e0 := k7.cell 0
  have e1 := k7.cell 1
  simp only [List.getElem?_toArray, List.getElem?_cons_zero, List.getElem?_cons_succ] at e0 e1
  have HW0 := Lib.hid hW0
  have K7 := Lib.hid k7
  have K10 := Lib.hid k10
  have BW0 := Lib.hid bW0
  clear hW0 k7 k10 bW0
  go_enter Try.func21, Try.ntmps21
  go_upto_region 1 with fail
  rw [← HW0.out]
  clear HW0
  go_wp2_with fail
  refine (copy_calls _ (Kd.C_below HSH.out BW0.out) hct (Kd.C_below HTG.out BW0.out) hcu (by omega) (by omega)).mono ?_
  rintro e w1 ⟨A1, c1, B1, d1, rfl, ⟨r0, l0, r1, l1⟩, ⟨i0, i1⟩, hb1⟩
  have k7 := K7.out.below hb1 (by omega)
  have k10 := K10.out.below hb1 (by omega)
  have f0 := k7.frozen 0
  have f1 := k7.frozen 1
  have e0 := k7.cell 0
  have e1 := k7.cell 1
  simp only [List.getElem?_toArray, List.getElem?_cons_zero, List.getElem?_cons_succ] at e0 e1
  obtain ⟨W1, hW1⟩ : ∃ W1, W1 = (w1.setCell ⟨w.heap.size, 0, none⟩ (.slice A1 sh.length c1)).setCell ⟨w.heap.size, 1, none⟩ (.slice B1 tg.length d1) := ⟨_, rfl⟩
  have cW1 : Chg (fun k => k = w.heap.size) w1 W1 := by rw [hW1]; exact ((Chg.refl (fun k => k = w.heap.size) w1).setCell (a := ⟨w.heap.size, 0, none⟩) (fun _ => rfl) _).setCell (a := ⟨w.heap.size, 1, none⟩) (fun _ => rfl) _
  have k7' : Blk W1 w.heap.size #[.slice A1 sh.length c1, .slice B1 tg.length d1] 29 := by
    rw [hW1]
    exact (k7.set 0 (.slice A1 sh.length c1) (cs' := #[.slice A1 sh.length c1, .slice Au tg.length cu]) rfl).set 1 (.slice B1 tg.length d1) (cs' := #[.slice A1 sh.length c1, .slice B1 tg.length d1]) rfl
  have k10' : Blk W1 (w.heap.size + 1) #[.slice none 0 0, .slice none 0 0] 29 := k10.chg cW1 (by omega)
  have b1 : Below w.heap.size w w1 := BW0.out.trans (hb1.mono BW0.out.size)
  have BW1 := Lib.hid (cW1.below_of b1 b1.size (fun k hk e => by omega))
  have C1 := Lib.hid (c_chg r0 i0 cW1 (fun k (hk : W0.heap.size ≤ k) _ e => by omega))
  have D1 := Lib.hid (ct_chg r1 i1 cW1 (fun k (hk : W0.heap.size ≤ k) _ e => by omega))
  have I0 := Lib.hid i0
  have I1 := Lib.hid i1
  have K7 := Lib.hid k7'
  have K10 := Lib.hid k10'
  have HW1 := Lib.hid hW1
  have zW1 : W0.heap.size ≤ W1.heap.size := Nat.le_trans hb1.size cW1.size
  clear r0 r1 i0 i1 hb1 k7 k10 hW1 cW1 k7' k10' b1 BW0
  go_upto_region 2 with fail
  rw [← HW1.out]
  clear HW1 f0 f1 e0 e1
  have H1 := Lib.hid (H.out.below BW1.out)
  go_wp2_with fail
  refine (find_calls H1.out nm (by omega)).mono ?_
  rintro e w2 ⟨rfl, rfl⟩
  obtain ⟨fp, hfp⟩ : ∃ fp, fp = (findW l nm).map (fun x : DW => (⟨x.g, 0, none⟩ : Addr)) := ⟨_, rfl⟩
  have HFP := Lib.hid hfp
  rw [← hfp]
  clear hfp
  go_upto_if 18 with fail
  go_cut [11] from 19 to 74 (fun s wx => ∃ x : DW, s = .pointer (some ⟨x.g, 0, none⟩) ∧ Hid (∃ ok1 l1, Mid w wx p ok l nm bm ok1 l1 x w2.heap.size) ∧ Hid (Blk wx w.heap.size #[.slice A1 sh.length c1, .slice B1 tg.length d1] 29 ∧ Blk wx (w.heap.size + 1) #[.slice none 0 0, .slice none 0 0] 29 ∧ Kd.C k42 wx B1 tg.length tg))
  case first =>
    cases hfw : findW l nm with
    | none =>
      have HFW := Lib.hid hfw
      obtain rfl : fp = none := by rw [HFP.out, HFW.out]; rfl
      clear hfw
      have f_ := H1.out.row
      obtain ⟨base, A, c, q1, q2, q3⟩ := f_
      have e0 := K7.out.cell 0
      have p0 := q1.cell 0
      simp only [List.getElem?_toArray, List.getElem?_cons_zero] at e0 p0
      obtain ⟨G, hG⟩ : ∃ G, G = w2.heap.size := ⟨_, rfl⟩
      obtain ⟨W4, hW4⟩ : ∃ W4, W4 = w2.alloc (.cells #[.string nm, .slice A1 sh.length c1, .slice A1 sh.length c1, .int .i64 now, .int .i64 whole, .slice none 0 0, .slice none 0 0] 76) := ⟨_, rfl⟩
      have bW4 : Below w2.heap.size w2 W4 := by rw [hW4]; exact (Below.refl _ _).alloc (Nat.le_refl _) _
      have kG : Blk W4 G #[.string nm, .slice A1 sh.length c1, .slice A1 sh.length c1, .int .i64 now, .int .i64 whole, .slice none 0 0, .slice none 0 0] 76 := by rw [hW4, hG]; exact Blk.new _ _ _
      have zG : w.heap.size + 2 ≤ G := by omega
      have Q1 := Lib.hid (q1.below bW4 q1.lt)
      have Q2 := Lib.hid ((q2.lower (Nat.zero_le _)).below bW4 (Nat.le_refl _))
      have Q3 := Lib.hid q3
      have KG := Lib.hid kG
      have HG := Lib.hid hG
      have hplt := q1.lt
      have hgl : Hid (∀ x ∈ l, x.g < w.heap.size) := Lib.hid (fun x hx => by
        obtain ⟨cs, hb⟩ := (H.out.ways x hx).blk
        exact hb.lt)
      clear q1 q2 q3 kG
      go_upto_region 5 with fail
      rw [← hW4, ← hG]
      clear hW4 hG p0 e0
      have p0 := Q1.out.cell 0
      simp only [List.getElem?_toArray, List.getElem?_cons_zero] at p0
      have k5 : (W4.alloc (.cells #[.pointer (some ⟨G, 0, none⟩)] 73)).heap[W4.heap.size]? = some (.cells (elW.enc G).toArray elW.e (0, 0)) := new_at _ _
      have b5 : Below W4.heap.size W4 (W4.alloc (.cells #[.pointer (some ⟨G, 0, none⟩)] 73)) := (Below.refl _ _).alloc (Nat.le_refl _) _
      have hlen : (l.map (·.g) ++ [G]).length = l.length + 1 := by simp
      obtain ⟨W5, hW5⟩ : ∃ W5, W5 = W4.alloc (.cells #[.pointer (some ⟨G, 0, none⟩)] 73) := ⟨_, rfl⟩
      have Q1' := Lib.hid (Q1.out.below (hW5 ▸ b5) Q1.out.lt)
      have Q2' := Lib.hid (Q2.out.below (hW5 ▸ b5) (Nat.le_refl _))
      have b5' : Below W4.heap.size W4 W5 := hW5 ▸ b5
      have hpo : ¬ (Value.slice A l.length c).ownBlock = some p := fun e => by
        obtain ⟨cur, hk⟩ := own_type Q2'.out e
        exact blk_neT Q1'.out hk (by decide) rfl
      have HPO := Lib.hid hpo
      have k5' : (W5).heap[W4.heap.size]? = some (.cells (elW.enc G).toArray elW.e (0, 0)) := hW5 ▸ k5
      have HW5 := Lib.hid hW5
      clear hW5 b5 k5 hpo
      have ex : ∀ (v' : Value) (w6 : World), RowG elW w6 0 v' (l.map (·.g) ++ [G]) → ∃ A6 d6, v' = .slice A6 (l.length + 1) d6 := fun v' w6 r => by
        obtain ⟨A6, d6, e, _, _⟩ := r.shape
        exact ⟨A6, d6, by rw [e, hlen]⟩
      have EX := Lib.hid ex
      clear ex
      go_wp2_with (at_builtin; rw [← HW5.out]; refine list_appO elW _ rfl (.tmp 32) (.tmp 34) rfl 0 _ (l.map (·.g)) (by rfl) Q2'.out (some ⟨W4.heap.size, 0, none⟩) 1 1 [G] (by rfl) rfl (SrcG.one k5') (by rw [List.length_map]; omega) (by omega) (Nat.zero_le _) ?_; intro v' w6 r6 c6 o6; obtain ⟨A6, d6, rfl⟩ := EX.out _ _ r6; have k6 := Q1'.out.chg c6 HPO.out; have g6 := k6.cell 0; have f6 := k6.frozen 0; simp only [List.getElem?_toArray, List.getElem?_cons_zero] at g6)
      go_meet
      have zW4 : w2.heap.size ≤ W4.heap.size := bW4.size
      have zW5 : W4.heap.size ≤ W5.heap.size := b5'.size
      have zW6 := c6.size
      have b25 : Below w2.heap.size w2 W5 := bW4.trans (b5'.mono zW4)
      have bw5 : Below w.heap.size w W5 := BW1.out.trans (b25.mono BW1.out.size)
      have zw2 := BW1.out.size
      have cF : Chg (fun _ => False) w W5 := Chg.of_below bw5 (fun k hk hk' => by omega)
      have hG5 : G < W5.heap.size := by have := KG.out.lt; omega
      have hmp := H.out.notp
      have hmg := H.out.notg
      have h4 : ∀ x ∈ l, DWAt W5 (fun k => ok k ∧ k ≠ G) x := fun x hx => ((H.out.ways x hx).okm (ok' := fun k => ok k ∧ k ≠ G) (fun k hk hlt => ⟨hk, by omega⟩)).chg cF id (fun _ _ _ => id)
      have hn : DWAt W5 (fun k => ok k ∧ k ≠ G) ⟨G, nm, ⟨sh, sh, now, whole, [], []⟩⟩ := by
        have i1 : InOk (fun k => ok k ∧ k ≠ G) A1 sh.length := fun hp a e => ⟨HOK.out _ (Nat.le_trans (by omega) (I0.out hp a e)), by have := share_lt C1.out hp a e; rw [HG.out]; omega⟩
        exact ⟨A1, c1, A1, c1, none, 0, none, 0, KG.out.below b5' KG.out.lt, ⟨Kd.C_below C1.out b25, Kd.C_below C1.out b25, Kd.C_nil _ _, Kd.C_nil _ _⟩, ⟨l0, l0, Nat.zero_le _, Nat.zero_le _⟩, i1, i1, fun hp => absurd hp (by simp), fun hp => absurd hp (by simp)⟩
      have hdoc := doc_push (nm := nm) Q1'.out Q2'.out Q3.out h4 H.out.nodup hmp hmg hn (fun x hx => by have := hgl.out x hx; omega) r6 c6 o6 rfl
      have hnone : findM l nm = none := by unfold findM; rw [HFW.out]; rfl
      have hbm : bm = ⟨sh, sh, now, whole, [], []⟩ := by rw [HBM.out, hnone]; rfl
      have hownw : ∀ k, w.heap.size ≤ k → k < W5.heap.size → (Value.slice A6 (l.length + 1) d6).ownBlock ≠ some k := fun k h1 h2 e => by
        rcases o6 with o6 | o6
        · exact Q3.out k (HOK.out k h1) (o6.symm.trans e)
        · rw [o6] at e; cases e; omega
      have cp : Chg (fun k => k = p) w6 (w6.setCell ⟨p, 0, none⟩ (.slice A6 (l.length + 1) d6)) := (Chg.refl (fun k => k = p) w6).setCell (fun _ => rfl) _
      have zX : w6.heap.size ≤ (w6.setCell ⟨p, 0, none⟩ (.slice A6 (l.length + 1) d6)).heap.size := cp.size
      have hpw : p < w.heap.size := by
        obtain ⟨_, _, _, hb, _, _⟩ := H.out.row
        exact hb.lt
      have hfar : ∀ k, w.heap.size ≤ k → ¬ (Value.slice A l.length c).ownBlock = some k := fun k hk => Q3.out k (HOK.out k hk)
      refine ⟨⟨G, nm, ⟨sh, sh, now, whole, [], []⟩⟩, rfl, Lib.hid ⟨_, _, ⟨hdoc, ?_, ?_, ?_, ?_, ?_, ?_, ?_, ?_, ?_, ?_, ?_⟩⟩, Lib.hid ⟨?_, ?_, ?_⟩⟩
      · have hh := HFW.out
        unfold findW at hh ⊢
        rw [List.find?_append, hh]
        simp
      · rw [hbm]
      · rw [hbm]
      · rw [hbm]
      · rw [hbm]
      · exact fun nm' hne => by rw [find_push HFW.out, if_neg hne]
      · exact fun k hk => ⟨HOK.out k (by omega), by omega, fun e => by have := own_lt r6 k e; omega⟩
      · exact fun k hk ho => ⟨ho, by omega, fun e => by
          rcases o6 with o6 | o6
          · exact Q3.out k ho (o6.symm.trans e)
          · rw [o6] at e; cases e; omega⟩
      · simp
      · exact fun k h1 h2 => ⟨HOK.out _ h1, by have := HG.out; omega, hownw _ h1 (by omega)⟩
      · exact ((cF.mono (fun _ _ h => h.elim)).trans c6 (fun k _ e ho => Q3.out k ho e)).trans cp (fun k _ e ho => hmp k ho e)
      · exact ((K7.out.below b25 K7.out.lt).chg c6 (hfar _ (Nat.le_refl _))).chg cp (by omega)
      · exact ((K10.out.below b25 K10.out.lt).chg c6 (hfar _ (by omega))).chg cp (by omega)
      · exact ct_chg (ct_chg (Kd.C_below D1.out b25) I1.out c6 (fun k (hk : W0.heap.size ≤ k) _ => hfar k (by omega))) I1.out cp (fun k (hk : W0.heap.size ≤ k) _ e => by omega)
    | some x =>
      have HFW := Lib.hid hfw
      obtain rfl : fp = some ⟨x.g, 0, none⟩ := by rw [HFP.out, HFW.out]; rfl
      have HXM := Lib.hid (List.mem_of_find?_eq_some hfw)
      have HFM := Lib.hid (show findM l nm = some x.m from by unfold findM; rw [hfw]; rfl)
      clear hfw
      obtain ⟨A0, c0, Ad, cd, A2, c2, A3, c3, hk, ⟨qf, qd, qn, qt⟩, ⟨zf, zd, zn, zt⟩, of, od, on_, ot⟩ := H1.out.ways x HXM.out
      have hxlt : x.g < w.heap.size := by obtain ⟨cs, hb⟩ := (H.out.ways x HXM.out).blk; exact hb.lt
      have hxw : w.heap.size ≠ x.g := by omega
      have zw2 := BW1.out.size
      have KX := Lib.hid hk
      have QD := Lib.hid qd
      have ZD := Lib.hid zd
      have QN := Lib.hid qn
      have QT := Lib.hid qt
      have ZN := Lib.hid zn
      have ZT := Lib.hid zt
      have ON := Lib.hid on_
      have OT := Lib.hid ot
      clear hk qf qd qn qt zf zd zn zt of od on_ ot
      have bz_ := Lib.hid ((Below.refl w2.heap.size w2).drew)
      have kx := KX.out.below bz_.out KX.out.lt
      have kt := K7.out.below bz_.out K7.out.lt
      have hdl : x.m.dst.length ≤ 1000 := HLM.out _ HFM.out
      by_cases hwh : x.m.whole = whole
      · have hwn : (x.m.whole != whole) = false := by simp [hwh]
        go_wp2_with fail
        refine start_ (n := 16) (S := fun w' => w'.cell? ⟨x.g, 4, none⟩ = some (.int .i64 x.m.whole) ∧ w'.cell? ⟨x.g, 2, none⟩ = some (.slice Ad x.m.dst.length cd) ∧ w'.cell? ⟨w.heap.size, 0, none⟩ = some (.slice A1 sh.length c1)) (ds := []) #[false, false, false, false, false, false, false, false, false, false, false, false, false, false, false, false] (by kernel_rfl) rfl rfl ⟨kx.cell 4, kx.cell 2, kt.cell 0⟩ (fun hHeld => ?_)
        refine pure_ (i := 0) (N := some 38) (v := ?_) (a' := ?_) #[true, false, false, false, false, false, false, false, false, false, false, false, false, false, false, false] rfl rfl (by kernel_rfl) (fun _ _ _ h => h) (Or.inl ⟨by rfl, ?_⟩) ?_ ?_
        rotate_left
        · intro w'
          go_simp
          with_reducible rfl
        rotate_left
        · simp only [Act.put, List.setIfInBounds_toArray, List.set_cons_zero, List.set_cons_succ]
          rfl
        refine pure_ (i := 1) (N := some 39) (v := ?_) (a' := ?_) #[true, true, false, false, false, false, false, false, false, false, false, false, false, false, false, false] rfl rfl (by kernel_rfl) (fun _ _ _ h => h) (Or.inl ⟨by rfl, ?_⟩) ?_ ?_
        rotate_left
        · intro w'
          go_simp
          with_reducible rfl
        rotate_left
        · simp only [Act.put, List.setIfInBounds_toArray, List.set_cons_zero, List.set_cons_succ]
          rfl
        refine pure_ (i := 2) (N := some 40) (v := ?_) (a' := ?_) #[true, true, true, false, false, false, false, false, false, false, false, false, false, false, false, false] rfl rfl (by kernel_rfl) (fun _ _ _ h => h) (Or.inl ⟨by rfl, ?_⟩) ?_ ?_
        rotate_left
        · intro w'
          go_simp
          with_reducible rfl
        rotate_left
        · simp only [Act.put, List.setIfInBounds_toArray, List.set_cons_zero, List.set_cons_succ]
          rfl
        refine pure_ (i := 4) (N := some 42) (v := ?_) (a' := ?_) #[true, true, true, false, true, false, false, false, false, false, false, false, false, false, false, false] rfl rfl (by kernel_rfl) (fun _ _ _ h => h) (Or.inl ⟨by rfl, ?_⟩) ?_ ?_
        rotate_left
        · intro w'
          go_simp
          with_reducible rfl
        rotate_left
        · simp only [Act.put, List.setIfInBounds_toArray, List.set_cons_zero, List.set_cons_succ]
          rfl
        refine take_ (i := 3) (N := some 41) (v := ?_) (a' := ?_) #[true, true, true, true, true, false, false, false, false, false, false, false, false, false, false, false] rfl rfl (by kernel_rfl) (fun _ _ _ h => h) (Or.inl ⟨by rfl, ?_⟩) hHeld ?_ ?_
        rotate_left
        · rintro w' ⟨s0, s1, s2⟩
          go_simp
          with_reducible rfl
        rotate_left
        · simp only [Act.put, List.setIfInBounds_toArray, List.set_cons_zero, List.set_cons_succ]
          rfl
        refine pure_ (i := 5) (N := some 43) (v := ?_) (a' := ?_) #[true, true, true, true, true, true, false, false, false, false, false, false, false, false, false, false] rfl rfl (by kernel_rfl) (fun _ _ _ h => h) (Or.inl ⟨by rfl, ?_⟩) ?_ ?_
        rotate_left
        · intro w'
          go_simp
          with_reducible rfl
        rotate_left
        · simp only [Act.put, List.setIfInBounds_toArray, List.set_cons_zero, List.set_cons_succ]
          rfl
        refine pure_ (i := 6) (N := some 44) (v := ?_) (a' := ?_) #[true, true, true, true, true, true, true, false, false, false, false, false, false, false, false, false] rfl rfl (by kernel_rfl) (fun _ _ _ h => h) (Or.inl ⟨by rfl, ?_⟩) ?_ ?_
        rotate_left
        · intro w'
          go_simp
          with_reducible rfl
        rotate_left
        · simp only [Act.put, List.setIfInBounds_toArray, List.set_cons_zero, List.set_cons_succ]
          rfl
        refine pure_ (i := 7) (N := some 45) (v := ?_) (a' := ?_) #[true, true, true, true, true, true, true, true, false, false, false, false, false, false, false, false] rfl rfl (by kernel_rfl) (fun _ _ _ h => h) (Or.inl ⟨by rfl, ?_⟩) ?_ ?_
        rotate_left
        · intro w'
          go_simp
          with_reducible rfl
        rotate_left
        · simp only [Act.put, List.setIfInBounds_toArray, List.set_cons_zero, List.set_cons_succ]
          rfl
        refine pure_ (i := 8) (N := some 46) (v := ?_) (a' := ?_) #[true, true, true, true, true, true, true, true, true, false, false, false, false, false, false, false] rfl rfl (by kernel_rfl) (fun _ _ _ h => h) (Or.inl ⟨by rfl, ?_⟩) ?_ ?_
        rotate_left
        · intro w'
          go_simp
          with_reducible rfl
        rotate_left
        · simp only [Act.put, List.setIfInBounds_toArray, List.set_cons_zero, List.set_cons_succ]
          rfl
        refine pure_ (i := 9) (N := some 47) (v := ?_) (a' := ?_) #[true, true, true, true, true, true, true, true, true, true, false, false, false, false, false, false] rfl rfl (by kernel_rfl) (fun _ _ _ h => h) (Or.inl ⟨by rfl, ?_⟩) ?_ ?_
        rotate_left
        · intro w'
          go_simp
          with_reducible rfl
        rotate_left
        · simp only [Act.put, List.setIfInBounds_toArray, List.set_cons_zero, List.set_cons_succ]
          rfl
        refine pure_ (i := 11) (N := some 49) (v := ?_) (a' := ?_) #[true, true, true, true, true, true, true, true, true, true, false, true, false, false, false, false] rfl rfl (by kernel_rfl) (fun _ _ _ h => h) (Or.inl ⟨by rfl, ?_⟩) ?_ ?_
        rotate_left
        · intro w'
          go_simp
          with_reducible rfl
        rotate_left
        · simp only [Act.put, List.setIfInBounds_toArray, List.set_cons_zero, List.set_cons_succ]
          rfl
        refine take_ (i := 10) (N := some 48) (v := ?_) (a' := ?_) #[true, true, true, true, true, true, true, true, true, true, true, true, false, false, false, false] rfl rfl (by kernel_rfl) (fun _ _ _ h => h) (Or.inl ⟨by rfl, ?_⟩) hHeld ?_ ?_
        rotate_left
        · rintro w' ⟨s0, s1, s2⟩
          go_simp
          with_reducible rfl
        rotate_left
        · simp only [Act.put, List.setIfInBounds_toArray, List.set_cons_zero, List.set_cons_succ]
          rfl
        refine take_ (i := 12) (N := some 50) (v := ?_) (a' := ?_) #[true, true, true, true, true, true, true, true, true, true, true, true, true, false, false, false] rfl rfl (by kernel_rfl) (fun _ _ _ h => h) (Or.inl ⟨by rfl, ?_⟩) hHeld ?_ ?_
        rotate_left
        · rintro w' ⟨s0, s1, s2⟩
          go_simp
          with_reducible rfl
        rotate_left
        · simp only [Act.put, List.setIfInBounds_toArray, List.set_cons_zero, List.set_cons_succ]
          rfl
        refine one_ (i := 13) (N := some 51) #[true, true, true, true, true, true, true, true, true, true, true, true, true, true, false, false] rfl rfl (by kernel_rfl) (by decide) (fun K hK => ?_)
        refine goes_ Try.func20 (by kernel_rfl) rfl #[.slice Ad x.m.dst.length cd, .slice A1 sh.length c1] (by rfl) rfl rfl (by simp only [List.map_toArray, List.map_cons, List.map_nil]; rfl) ?_
        with_reducible refine (damperref5_Shares.calls (x.m.dst.length + 1) Ad cd x.m.dst A1 c1 sh (eqL x.m.dst sh) _ (Kd.C_below QD.out bz_.out) ZD.out (Kd.C_below C1.out bz_.out) l0 (eq_f _ _ (by omega))).mono ?_
        rintro e w4 ⟨rfl, hd⟩
        have hd := hd.below
        have b4 := below_step bz_.out hd
        refine ⟨_, rfl, ?_⟩
        refine hK.out _ _ ⟨(KX.out.below b4 KX.out.lt).cell 4, (KX.out.below b4 KX.out.lt).cell 2, (K7.out.below b4 K7.out.lt).cell 0⟩ (fun hHeld => ?_)
        clear hK K
        refine norm_ (a' := ?_) ?_ ?_
        rotate_left
        · show Act.put _ (some 51) _ = _
          simp only [Act.put, List.setIfInBounds_toArray, List.set_cons_zero, List.set_cons_succ]
          rfl
        refine pure_ (i := 14) (N := some 52) (v := ?_) (a' := ?_) #[true, true, true, true, true, true, true, true, true, true, true, true, true, true, true, false] rfl rfl (by kernel_rfl) (fun _ _ _ h => h) (Or.inl ⟨by rfl, ?_⟩) ?_ ?_
        rotate_left
        · intro w'
          go_simp
          with_reducible rfl
        rotate_left
        · simp only [Act.put, List.setIfInBounds_toArray, List.set_cons_zero, List.set_cons_succ]
          rfl
        refine pure_ (i := 15) (N := some 53) (v := ?_) (a' := ?_) #[true, true, true, true, true, true, true, true, true, true, true, true, true, true, true, true] rfl rfl (by kernel_rfl) (fun _ _ _ h => h) (Or.inl ⟨by rfl, ?_⟩) ?_ ?_
        rotate_left
        · intro w'
          go_simp
          with_reducible rfl
        rotate_left
        · simp only [Act.put, List.setIfInBounds_toArray, List.set_cons_zero, List.set_cons_succ]
          rfl
        refine done_ (by kernel_rfl) ?_
        clear hHeld kx kt hd
        have B2V := Lib.hid b4
        have BV := Lib.hid (BW1.out.trans (b4.mono BW1.out.size))
        have KV := Lib.hid (KX.out.below b4 KX.out.lt)
        have TV := Lib.hid (K7.out.below b4 K7.out.lt)
        clear b4
        by_cases heq : eqL x.m.dst sh = true
        · rw [heq]
          go_wp2_with fail
          go_meet
          have hbm : bm = x.m := by rw [HBM.out, HFM.out]; exact if_pos ⟨heq, hwh⟩
          have zw4 := BV.out.size
          exact ⟨x, rfl, Lib.hid ⟨_, _, ⟨H.out.below BV.out, HFW.out, by rw [hbm], by rw [hbm], by rw [hbm], by rw [hbm], fun nm' _ => rfl, fun k hk => HOK.out k (by omega), fun k _ ho => ho, by omega, fun k h1 _ => HOK.out k h1, Chg.of_below BV.out (fun k hk hk' => by omega)⟩⟩, Lib.hid ⟨TV.out, K10.out.below B2V.out K10.out.lt, Kd.C_below D1.out B2V.out⟩⟩
        · have heq' : eqL x.m.dst sh = false := by simpa using heq
          have HNE := Lib.hid (show ¬ (eqL x.m.dst sh = true ∧ x.m.whole = whole) from fun h => heq h.1)
          rw [heq']
          clear heq heq' hwn
          go_wp2_with fail
          have b0_ := Lib.hid ((Below.refl w4.heap.size w4).drew)
          have kc := Lib.hid (KV.out.below b0_.out KV.out.lt)
          have tc := Lib.hid (TV.out.below b0_.out TV.out.lt)
          have e1 := KV.out.cell 1
          have f1 := KV.out.frozen 1
          have e2 := KV.out.cell 2
          have f2 := KV.out.frozen 2
          have e3 := KV.out.cell 3
          have f3 := KV.out.frozen 3
          have e4 := KV.out.cell 4
          have f4 := KV.out.frozen 4
          simp only [List.getElem?_toArray, List.getElem?_cons_zero, List.getElem?_cons_succ] at e1 e2 e3 e4
          refine start_ (n := 25) (S := fun w' => w'.cell? ⟨x.g, 5, none⟩ = some (.slice A2 x.m.now.length c2) ∧ w'.cell? ⟨w.heap.size, 0, none⟩ = some (.slice A1 sh.length c1)) (ds := [24]) #[false, false, false, false, false, false, false, false, false, false, false, false, false, false, false, false, false, false, false, false, false, false, false, false, false] (by kernel_rfl) rfl rfl ⟨kc.out.cell 5, tc.out.cell 0⟩ (fun hHeld => ?_)
          refine pure_ (i := 0) (N := some 54) (v := ?_) (a' := ?_) #[true, false, false, false, false, false, false, false, false, false, false, false, false, false, false, false, false, false, false, false, false, false, false, false, false] rfl rfl (by kernel_rfl) (fun _ _ _ h => h) (Or.inl ⟨by rfl, ?_⟩) ?_ ?_
          rotate_left
          · intro w'
            go_simp
            with_reducible rfl
          rotate_left
          · simp only [Act.put, List.setIfInBounds_toArray, List.set_cons_zero, List.set_cons_succ]
            rfl
          refine pure_ (i := 1) (N := some 55) (v := ?_) (a' := ?_) #[true, true, false, false, false, false, false, false, false, false, false, false, false, false, false, false, false, false, false, false, false, false, false, false, false] rfl rfl (by kernel_rfl) (fun _ _ _ h => h) (Or.inl ⟨by rfl, ?_⟩) ?_ ?_
          rotate_left
          · intro w'
            go_simp
            with_reducible rfl
          rotate_left
          · simp only [Act.put, List.setIfInBounds_toArray, List.set_cons_zero, List.set_cons_succ]
            rfl
          refine pure_ (i := 2) (N := some 56) (v := ?_) (a' := ?_) #[true, true, true, false, false, false, false, false, false, false, false, false, false, false, false, false, false, false, false, false, false, false, false, false, false] rfl rfl (by kernel_rfl) (fun _ _ _ h => h) (Or.inl ⟨by rfl, ?_⟩) ?_ ?_
          rotate_left
          · intro w'
            go_simp
            with_reducible rfl
          rotate_left
          · simp only [Act.put, List.setIfInBounds_toArray, List.set_cons_zero, List.set_cons_succ]
            rfl
          refine pure_ (i := 3) (N := some 57) (v := ?_) (a' := ?_) #[true, true, true, true, false, false, false, false, false, false, false, false, false, false, false, false, false, false, false, false, false, false, false, false, false] rfl rfl (by kernel_rfl) (fun _ _ _ h => h) (Or.inl ⟨by rfl, ?_⟩) ?_ ?_
          rotate_left
          · intro w'
            go_simp
            with_reducible rfl
          rotate_left
          · simp only [Act.put, List.setIfInBounds_toArray, List.set_cons_zero, List.set_cons_succ]
            rfl
          refine pure_ (i := 4) (N := some 58) (v := ?_) (a' := ?_) #[true, true, true, true, true, false, false, false, false, false, false, false, false, false, false, false, false, false, false, false, false, false, false, false, false] rfl rfl (by kernel_rfl) (fun _ _ _ h => h) (Or.inl ⟨by rfl, ?_⟩) ?_ ?_
          rotate_left
          · intro w'
            go_simp
            with_reducible rfl
          rotate_left
          · simp only [Act.put, List.setIfInBounds_toArray, List.set_cons_zero, List.set_cons_succ]
            rfl
          refine pure_ (i := 5) (N := some 59) (v := ?_) (a' := ?_) #[true, true, true, true, true, true, false, false, false, false, false, false, false, false, false, false, false, false, false, false, false, false, false, false, false] rfl rfl (by kernel_rfl) (fun _ _ _ h => h) (Or.inl ⟨by rfl, ?_⟩) ?_ ?_
          rotate_left
          · intro w'
            go_simp
            with_reducible rfl
          rotate_left
          · simp only [Act.put, List.setIfInBounds_toArray, List.set_cons_zero, List.set_cons_succ]
            rfl
          refine pure_ (i := 6) (N := some 60) (v := ?_) (a' := ?_) #[true, true, true, true, true, true, true, false, false, false, false, false, false, false, false, false, false, false, false, false, false, false, false, false, false] rfl rfl (by kernel_rfl) (fun _ _ _ h => h) (Or.inl ⟨by rfl, ?_⟩) ?_ ?_
          rotate_left
          · intro w'
            go_simp
            with_reducible rfl
          rotate_left
          · simp only [Act.put, List.setIfInBounds_toArray, List.set_cons_zero, List.set_cons_succ]
            rfl
          refine pure_ (i := 7) (N := some 61) (v := ?_) (a' := ?_) #[true, true, true, true, true, true, true, true, false, false, false, false, false, false, false, false, false, false, false, false, false, false, false, false, false] rfl rfl (by kernel_rfl) (fun _ _ _ h => h) (Or.inl ⟨by rfl, ?_⟩) ?_ ?_
          rotate_left
          · intro w'
            go_simp
            with_reducible rfl
          rotate_left
          · simp only [Act.put, List.setIfInBounds_toArray, List.set_cons_zero, List.set_cons_succ]
            rfl
          refine pure_ (i := 9) (N := some 63) (v := ?_) (a' := ?_) #[true, true, true, true, true, true, true, true, false, true, false, false, false, false, false, false, false, false, false, false, false, false, false, false, false] rfl rfl (by kernel_rfl) (fun _ _ _ h => h) (Or.inl ⟨by rfl, ?_⟩) ?_ ?_
          rotate_left
          · intro w'
            go_simp
            with_reducible rfl
          rotate_left
          · simp only [Act.put, List.setIfInBounds_toArray, List.set_cons_zero, List.set_cons_succ]
            rfl
          refine pure_ (i := 11) (N := some 65) (v := ?_) (a' := ?_) #[true, true, true, true, true, true, true, true, false, true, false, true, false, false, false, false, false, false, false, false, false, false, false, false, false] rfl rfl (by kernel_rfl) (fun _ _ _ h => h) (Or.inl ⟨by rfl, ?_⟩) ?_ ?_
          rotate_left
          · intro w'
            go_simp
            with_reducible rfl
          rotate_left
          · simp only [Act.put, List.setIfInBounds_toArray, List.set_cons_zero, List.set_cons_succ]
            rfl
          refine pure_ (i := 12) (N := some 66) (v := ?_) (a' := ?_) #[true, true, true, true, true, true, true, true, false, true, false, true, true, false, false, false, false, false, false, false, false, false, false, false, false] rfl rfl (by kernel_rfl) (fun _ _ _ h => h) (Or.inl ⟨by rfl, ?_⟩) ?_ ?_
          rotate_left
          · intro w'
            go_simp
            with_reducible rfl
          rotate_left
          · simp only [Act.put, List.setIfInBounds_toArray, List.set_cons_zero, List.set_cons_succ]
            rfl
          refine take_ (i := 8) (N := some 62) (v := ?_) (a' := ?_) #[true, true, true, true, true, true, true, true, true, true, false, true, true, false, false, false, false, false, false, false, false, false, false, false, false] rfl rfl (by kernel_rfl) (fun _ _ _ h => h) (Or.inl ⟨by rfl, ?_⟩) hHeld ?_ ?_
          rotate_left
          · rintro w' ⟨s0, s1⟩
            go_simp
            with_reducible rfl
          rotate_left
          · simp only [Act.put, List.setIfInBounds_toArray, List.set_cons_zero, List.set_cons_succ]
            rfl
          refine pure_ (i := 13) (N := some 67) (v := ?_) (a' := ?_) #[true, true, true, true, true, true, true, true, true, true, false, true, true, true, false, false, false, false, false, false, false, false, false, false, false] rfl rfl (by kernel_rfl) (fun _ _ _ h => h) (Or.inl ⟨by rfl, ?_⟩) ?_ ?_
          rotate_left
          · intro w'
            go_simp
            with_reducible rfl
          rotate_left
          · simp only [Act.put, List.setIfInBounds_toArray, List.set_cons_zero, List.set_cons_succ]
            rfl
          refine pure_ (i := 14) (N := some 68) (v := ?_) (a' := ?_) #[true, true, true, true, true, true, true, true, true, true, false, true, true, true, true, false, false, false, false, false, false, false, false, false, false] rfl rfl (by kernel_rfl) (fun _ _ _ h => h) (Or.inl ⟨by rfl, ?_⟩) ?_ ?_
          rotate_left
          · intro w'
            go_simp
            with_reducible rfl
          rotate_left
          · simp only [Act.put, List.setIfInBounds_toArray, List.set_cons_zero, List.set_cons_succ]
            rfl
          refine take_ (i := 10) (N := some 64) (v := ?_) (a' := ?_) #[true, true, true, true, true, true, true, true, true, true, true, true, true, true, true, false, false, false, false, false, false, false, false, false, false] rfl rfl (by kernel_rfl) (fun _ _ _ h => h) (Or.inl ⟨by rfl, ?_⟩) hHeld ?_ ?_
          rotate_left
          · rintro w' ⟨s0, s1⟩
            go_simp
            with_reducible rfl
          rotate_left
          · simp only [Act.put, List.setIfInBounds_toArray, List.set_cons_zero, List.set_cons_succ]
            rfl
          refine one_ (i := 15) (N := none) #[true, true, true, true, true, true, true, true, true, true, true, true, true, true, true, true, false, false, false, false, false, false, false, false, false] rfl rfl (by kernel_rfl) (by decide) (fun K hK => ?_)
          skip
          have k1 := kc.out.set 1 (.slice A2 x.m.now.length c2) (cs' := #[.string x.nm, .slice A2 x.m.now.length c2, .slice Ad x.m.dst.length cd, .int .i64 x.m.since, .int .i64 x.m.whole, .slice A2 x.m.now.length c2, .slice A3 x.m.tags.length c3]) rfl
          have t1 := tc.out.far (a := ⟨x.g, 1, none⟩) hxw (.slice A2 x.m.now.length c2)
          refine skip_ (w1 := ?_) (by rfl) rfl ?_ ?_
          rotate_left
          · go_simp
            rfl
          refine hK.out _ _ ⟨k1.cell 5, t1.cell 0⟩ (fun hHeld => ?_)
          clear hK K
          refine pure_ (i := 16) (N := some 69) (v := ?_) (a' := ?_) #[true, true, true, true, true, true, true, true, true, true, true, true, true, true, true, true, true, false, false, false, false, false, false, false, false] rfl rfl (by kernel_rfl) (fun _ _ _ h => h) (Or.inl ⟨by rfl, ?_⟩) ?_ ?_
          rotate_left
          · intro w'
            go_simp
            with_reducible rfl
          rotate_left
          · simp only [Act.put, List.setIfInBounds_toArray, List.set_cons_zero, List.set_cons_succ]
            rfl
          refine pure_ (i := 17) (N := some 70) (v := ?_) (a' := ?_) #[true, true, true, true, true, true, true, true, true, true, true, true, true, true, true, true, true, true, false, false, false, false, false, false, false] rfl rfl (by kernel_rfl) (fun _ _ _ h => h) (Or.inl ⟨by rfl, ?_⟩) ?_ ?_
          rotate_left
          · intro w'
            go_simp
            with_reducible rfl
          rotate_left
          · simp only [Act.put, List.setIfInBounds_toArray, List.set_cons_zero, List.set_cons_succ]
            rfl
          refine one_ (i := 18) (N := none) #[true, true, true, true, true, true, true, true, true, true, true, true, true, true, true, true, true, true, true, false, false, false, false, false, false] rfl rfl (by kernel_rfl) (by decide) (fun K hK => ?_)
          skip
          have k2 := k1.set 2 (.slice A1 sh.length c1) (cs' := #[.string x.nm, .slice A2 x.m.now.length c2, .slice A1 sh.length c1, .int .i64 x.m.since, .int .i64 x.m.whole, .slice A2 x.m.now.length c2, .slice A3 x.m.tags.length c3]) rfl
          have t2 := t1.far (a := ⟨x.g, 2, none⟩) hxw (.slice A1 sh.length c1)
          refine skip_ (w1 := ?_) (by rfl) rfl ?_ ?_
          rotate_left
          · go_simp
            rfl
          refine hK.out _ _ ⟨k2.cell 5, t2.cell 0⟩ (fun hHeld => ?_)
          clear hK K
          refine pure_ (i := 19) (N := some 71) (v := ?_) (a' := ?_) #[true, true, true, true, true, true, true, true, true, true, true, true, true, true, true, true, true, true, true, true, false, false, false, false, false] rfl rfl (by kernel_rfl) (fun _ _ _ h => h) (Or.inl ⟨by rfl, ?_⟩) ?_ ?_
          rotate_left
          · intro w'
            go_simp
            with_reducible rfl
          rotate_left
          · simp only [Act.put, List.setIfInBounds_toArray, List.set_cons_zero, List.set_cons_succ]
            rfl
          refine pure_ (i := 20) (N := some 72) (v := ?_) (a' := ?_) #[true, true, true, true, true, true, true, true, true, true, true, true, true, true, true, true, true, true, true, true, true, false, false, false, false] rfl rfl (by kernel_rfl) (fun _ _ _ h => h) (Or.inl ⟨by rfl, ?_⟩) ?_ ?_
          rotate_left
          · intro w'
            go_simp
            with_reducible rfl
          rotate_left
          · simp only [Act.put, List.setIfInBounds_toArray, List.set_cons_zero, List.set_cons_succ]
            rfl
          refine one_ (i := 21) (N := none) #[true, true, true, true, true, true, true, true, true, true, true, true, true, true, true, true, true, true, true, true, true, true, false, false, false] rfl rfl (by kernel_rfl) (by decide) (fun K hK => ?_)
          skip
          have k3 := k2.set 3 (.int .i64 now) (cs' := #[.string x.nm, .slice A2 x.m.now.length c2, .slice A1 sh.length c1, .int .i64 now, .int .i64 x.m.whole, .slice A2 x.m.now.length c2, .slice A3 x.m.tags.length c3]) rfl
          have t3 := t2.far (a := ⟨x.g, 3, none⟩) hxw (.int .i64 now)
          refine skip_ (w1 := ?_) (by rfl) rfl ?_ ?_
          rotate_left
          · go_simp
            rfl
          refine hK.out _ _ ⟨k3.cell 5, t3.cell 0⟩ (fun hHeld => ?_)
          clear hK K
          refine pure_ (i := 22) (N := some 73) (v := ?_) (a' := ?_) #[true, true, true, true, true, true, true, true, true, true, true, true, true, true, true, true, true, true, true, true, true, true, true, false, false] rfl rfl (by kernel_rfl) (fun _ _ _ h => h) (Or.inl ⟨by rfl, ?_⟩) ?_ ?_
          rotate_left
          · intro w'
            go_simp
            with_reducible rfl
          rotate_left
          · simp only [Act.put, List.setIfInBounds_toArray, List.set_cons_zero, List.set_cons_succ]
            rfl
          refine pure_ (i := 23) (N := some 74) (v := ?_) (a' := ?_) #[true, true, true, true, true, true, true, true, true, true, true, true, true, true, true, true, true, true, true, true, true, true, true, true, false] rfl rfl (by kernel_rfl) (fun _ _ _ h => h) (Or.inl ⟨by rfl, ?_⟩) ?_ ?_
          rotate_left
          · intro w'
            go_simp
            with_reducible rfl
          rotate_left
          · simp only [Act.put, List.setIfInBounds_toArray, List.set_cons_zero, List.set_cons_succ]
            rfl
          refine last_ (i := 24) (N := none) #[true, true, true, true, true, true, true, true, true, true, true, true, true, true, true, true, true, true, true, true, true, true, true, true, true] rfl rfl (by kernel_rfl) (by decide) (fun K hK => ?_)
          skip
          refine skip_ (w1 := ?_) (by rfl) rfl ?_ ?_
          rotate_left
          · go_simp
            rfl
          refine hK.out _ _ ?_
          clear hK K
          refine done_ (by kernel_rfl) ?_
          have k4 := k3.set 4 (.int .i64 whole) (cs' := #[.string x.nm, .slice A2 x.m.now.length c2, .slice A1 sh.length c1, .int .i64 now, .int .i64 whole, .slice A2 x.m.now.length c2, .slice A3 x.m.tags.length c3]) rfl
          have t4 := t3.far (a := ⟨x.g, 4, none⟩) hxw (.int .i64 whole)
          have cX : Chg (fun k => k = x.g) w4.drew ((((w4.drew.setCell ⟨x.g, 1, none⟩ (.slice A2 x.m.now.length c2)).setCell ⟨x.g, 2, none⟩ (.slice A1 sh.length c1)).setCell ⟨x.g, 3, none⟩ (.int .i64 now)).setCell ⟨x.g, 4, none⟩ (.int .i64 whole)) := (((((Chg.refl (fun k => k = x.g) w4.drew).setCell (a := ⟨x.g, 1, none⟩) (fun _ => rfl) _).setCell (a := ⟨x.g, 2, none⟩) (fun _ => rfl) _).setCell (a := ⟨x.g, 3, none⟩) (fun _ => rfl) _).setCell (a := ⟨x.g, 4, none⟩) (fun _ => rfl) _)
          have bD : Below w.heap.size w w4.drew := BV.out.trans (b0_.out.mono BV.out.size)
          have b2D : Below w2.heap.size w2 w4.drew := B2V.out.trans (b0_.out.mono B2V.out.size)
          have hD := (H.out.below bD)
          clear e1 f1 e2 f2 e3 f3 e4 f4 k1 k2 k3 t1 t2 t3 hHeld
          go_wp2_with fail
          go_meet
          have hi1 : InOk ok A1 sh.length := fun hp ad e => HOK.out _ (Nat.le_trans (by omega) (I0.out hp ad e))
          have hnok : ∀ k, ok k → ¬ k = x.g := fun k hk e => H.out.notg k hk x HXM.out e
          have hn : DWAt ((((w4.drew.setCell ⟨x.g, 1, none⟩ (.slice A2 x.m.now.length c2)).setCell ⟨x.g, 2, none⟩ (.slice A1 sh.length c1)).setCell ⟨x.g, 3, none⟩ (.int .i64 now)).setCell ⟨x.g, 4, none⟩ (.int .i64 whole)) ok ⟨x.g, x.nm, ⟨x.m.now, sh, now, whole, x.m.now, x.m.tags⟩⟩ :=
            ⟨A2, c2, A1, c1, A2, c2, A3, c3, k4, ⟨c_chg (Kd.C_below QN.out b2D) ON.out cX (fun k hk _ e => hnok k hk e), c_chg (Kd.C_below C1.out b2D) hi1 cX (fun k hk _ e => hnok k hk e), c_chg (Kd.C_below QN.out b2D) ON.out cX (fun k hk _ e => hnok k hk e), ct_chg (Kd.C_below QT.out b2D) OT.out cX (fun k hk _ e => hnok k hk e)⟩, ⟨ZN.out, l0, ZN.out, ZT.out⟩, ON.out, hi1, ON.out, OT.out⟩
          have hdoc := hD.upd HXM.out cX hn
          have zD := cX.size
          have zw := bD.size
          have hbm : bm = ⟨x.m.now, sh, now, whole, [], []⟩ := by rw [HBM.out, HFM.out]; exact if_neg HNE.out
          refine ⟨⟨x.g, x.nm, ⟨x.m.now, sh, now, whole, x.m.now, x.m.tags⟩⟩, rfl, Lib.hid ⟨_, _, ⟨hdoc, find_upd H.out.nodup HFW.out _, by rw [hbm], by rw [hbm], by rw [hbm], by rw [hbm], fun nm' hne => findM_other H.out.nodup HFW.out _ hne, fun k hk => HOK.out k (Nat.le_trans (Nat.le_trans zw zD) hk), fun k _ ho => ho, by rw [updW_len]; omega, fun k h1 _ => HOK.out k h1, (Chg.of_below bD (fun k hk hk' => by omega)).trans cX (fun k _ e ho => hnok k ho e)⟩⟩, Lib.hid ⟨t4, ((K10.out.below b2D K10.out.lt)).chg cX (fun e => by have := hxlt; omega), ct_chg (Kd.C_below D1.out b2D) I1.out cX (fun k (hk : W0.heap.size ≤ k) _ e => by have := hxlt; omega)⟩⟩

      · have hwn : (x.m.whole != whole) = true := by simp [hwh]
        have HNE := Lib.hid (show ¬ (eqL x.m.dst sh = true ∧ x.m.whole = whole) from fun h => hwh h.2)
        clear hwh
        go_wp2_with fail
        refine start_ (n := 16) (S := fun w' => w'.cell? ⟨x.g, 4, none⟩ = some (.int .i64 x.m.whole)) (ds := []) #[false, false, false, false, false, false, false, false, false, false, false, false, false, false, false, false] (by kernel_rfl) rfl rfl (kx.cell 4) (fun hHeld => ?_)
        refine pure_ (i := 0) (N := some 38) (v := ?_) (a' := ?_) #[true, false, false, false, false, false, false, false, false, false, false, false, false, false, false, false] rfl rfl (by kernel_rfl) (fun _ _ _ h => h) (Or.inl ⟨by rfl, ?_⟩) ?_ ?_
        rotate_left
        · intro w'
          go_simp
          with_reducible rfl
        rotate_left
        · simp only [Act.put, List.setIfInBounds_toArray, List.set_cons_zero, List.set_cons_succ]
          rfl
        refine pure_ (i := 1) (N := some 39) (v := ?_) (a' := ?_) #[true, true, false, false, false, false, false, false, false, false, false, false, false, false, false, false] rfl rfl (by kernel_rfl) (fun _ _ _ h => h) (Or.inl ⟨by rfl, ?_⟩) ?_ ?_
        rotate_left
        · intro w'
          go_simp
          with_reducible rfl
        rotate_left
        · simp only [Act.put, List.setIfInBounds_toArray, List.set_cons_zero, List.set_cons_succ]
          rfl
        refine pure_ (i := 2) (N := some 40) (v := ?_) (a' := ?_) #[true, true, true, false, false, false, false, false, false, false, false, false, false, false, false, false] rfl rfl (by kernel_rfl) (fun _ _ _ h => h) (Or.inl ⟨by rfl, ?_⟩) ?_ ?_
        rotate_left
        · intro w'
          go_simp
          with_reducible rfl
        rotate_left
        · simp only [Act.put, List.setIfInBounds_toArray, List.set_cons_zero, List.set_cons_succ]
          rfl
        refine pure_ (i := 4) (N := some 42) (v := ?_) (a' := ?_) #[true, true, true, false, true, false, false, false, false, false, false, false, false, false, false, false] rfl rfl (by kernel_rfl) (fun _ _ _ h => h) (Or.inl ⟨by rfl, ?_⟩) ?_ ?_
        rotate_left
        · intro w'
          go_simp
          with_reducible rfl
        rotate_left
        · simp only [Act.put, List.setIfInBounds_toArray, List.set_cons_zero, List.set_cons_succ]
          rfl
        refine take_ (i := 3) (N := some 41) (v := ?_) (a' := ?_) #[true, true, true, true, true, false, false, false, false, false, false, false, false, false, false, false] rfl rfl (by kernel_rfl) (fun _ _ _ h => h) (Or.inl ⟨by rfl, ?_⟩) hHeld ?_ ?_
        rotate_left
        · intro w' s0
          go_simp
          with_reducible rfl
        rotate_left
        · simp only [Act.put, List.setIfInBounds_toArray, List.set_cons_zero, List.set_cons_succ]
          rfl
        refine pure_ (i := 5) (N := some 43) (v := ?_) (a' := ?_) #[true, true, true, true, true, true, false, false, false, false, false, false, false, false, false, false] rfl rfl (by kernel_rfl) (fun _ _ _ h => h) (Or.inl ⟨by rfl, ?_⟩) ?_ ?_
        rotate_left
        · intro w'
          go_simp
          with_reducible rfl
        rotate_left
        · simp only [Act.put, List.setIfInBounds_toArray, List.set_cons_zero, List.set_cons_succ]
          rfl
        refine pure_ (i := 6) (N := some 44) (v := ?_) (a' := ?_) #[true, true, true, true, true, true, true, false, false, false, false, false, false, false, false, false] rfl rfl (by kernel_rfl) (fun _ _ _ h => h) (Or.inl ⟨by rfl, ?_⟩) ?_ ?_
        rotate_left
        · intro w'
          go_simp
          with_reducible rfl
        rotate_left
        · simp only [Act.put, List.setIfInBounds_toArray, List.set_cons_zero, List.set_cons_succ]
          rfl
        refine pure_ (i := 7) (N := some 45) (v := undef) (a' := ?_) #[true, true, true, true, true, true, true, true, false, false, false, false, false, false, false, false] rfl rfl (by kernel_rfl) (fun _ _ _ h => h) (Or.inr ⟨by rfl, rfl⟩) ?_ ?_
        rotate_left
        · simp only [Act.put, List.setIfInBounds_toArray, List.set_cons_zero, List.set_cons_succ]
          rfl
        refine pure_ (i := 8) (N := some 46) (v := undef) (a' := ?_) #[true, true, true, true, true, true, true, true, true, false, false, false, false, false, false, false] rfl rfl (by kernel_rfl) (fun _ _ _ h => h) (Or.inr ⟨by rfl, rfl⟩) ?_ ?_
        rotate_left
        · simp only [Act.put, List.setIfInBounds_toArray, List.set_cons_zero, List.set_cons_succ]
          rfl
        refine pure_ (i := 9) (N := some 47) (v := undef) (a' := ?_) #[true, true, true, true, true, true, true, true, true, true, false, false, false, false, false, false] rfl rfl (by kernel_rfl) (fun _ _ _ h => h) (Or.inr ⟨by rfl, rfl⟩) ?_ ?_
        rotate_left
        · simp only [Act.put, List.setIfInBounds_toArray, List.set_cons_zero, List.set_cons_succ]
          rfl
        refine pure_ (i := 10) (N := some 48) (v := undef) (a' := ?_) #[true, true, true, true, true, true, true, true, true, true, true, false, false, false, false, false] rfl rfl (by kernel_rfl) (fun _ _ _ h => h) (Or.inr ⟨by rfl, rfl⟩) ?_ ?_
        rotate_left
        · simp only [Act.put, List.setIfInBounds_toArray, List.set_cons_zero, List.set_cons_succ]
          rfl
        refine pure_ (i := 11) (N := some 49) (v := undef) (a' := ?_) #[true, true, true, true, true, true, true, true, true, true, true, true, false, false, false, false] rfl rfl (by kernel_rfl) (fun _ _ _ h => h) (Or.inr ⟨by rfl, rfl⟩) ?_ ?_
        rotate_left
        · simp only [Act.put, List.setIfInBounds_toArray, List.set_cons_zero, List.set_cons_succ]
          rfl
        refine pure_ (i := 12) (N := some 50) (v := undef) (a' := ?_) #[true, true, true, true, true, true, true, true, true, true, true, true, true, false, false, false] rfl rfl (by kernel_rfl) (fun _ _ _ h => h) (Or.inr ⟨by rfl, rfl⟩) ?_ ?_
        rotate_left
        · simp only [Act.put, List.setIfInBounds_toArray, List.set_cons_zero, List.set_cons_succ]
          rfl
        refine pure_ (i := 13) (N := some 51) (v := undef) (a' := ?_) #[true, true, true, true, true, true, true, true, true, true, true, true, true, true, false, false] rfl rfl (by kernel_rfl) (fun _ _ _ h => h) (Or.inr ⟨by rfl, rfl⟩) ?_ ?_
        rotate_left
        · simp only [Act.put, List.setIfInBounds_toArray, List.set_cons_zero, List.set_cons_succ]
          rfl
        refine pure_ (i := 14) (N := some 52) (v := undef) (a' := ?_) #[true, true, true, true, true, true, true, true, true, true, true, true, true, true, true, false] rfl rfl (by kernel_rfl) (fun _ _ _ h => h) (Or.inr ⟨by rfl, rfl⟩) ?_ ?_
        rotate_left
        · simp only [Act.put, List.setIfInBounds_toArray, List.set_cons_zero, List.set_cons_succ]
          rfl
        refine pure_ (i := 15) (N := some 53) (v := ?_) (a' := ?_) #[true, true, true, true, true, true, true, true, true, true, true, true, true, true, true, true] rfl rfl (by kernel_rfl) (fun _ _ _ h => h) (Or.inl ⟨by rfl, ?_⟩) ?_ ?_
        rotate_left
        · intro w'
          go_simp
          with_reducible rfl
        rotate_left
        · simp only [Act.put, List.setIfInBounds_toArray, List.set_cons_zero, List.set_cons_succ]
          rfl
        refine done_ (by kernel_rfl) ?_
        obtain ⟨w4, hw4⟩ : ∃ w4, w4 = w2.drew := ⟨_, rfl⟩
        have b4 : Below w2.heap.size w2 w4 := hw4 ▸ bz_.out
        rw [← hw4]
        clear hHeld kx kt hw4
        have B2V := Lib.hid b4
        have BV := Lib.hid (BW1.out.trans (b4.mono BW1.out.size))
        have KV := Lib.hid (KX.out.below b4 KX.out.lt)
        have TV := Lib.hid (K7.out.below b4 K7.out.lt)
        clear b4
        go_wp2_with fail
        have b0_ := Lib.hid ((Below.refl w4.heap.size w4).drew)
        have kc := Lib.hid (KV.out.below b0_.out KV.out.lt)
        have tc := Lib.hid (TV.out.below b0_.out TV.out.lt)
        have e1 := KV.out.cell 1
        have f1 := KV.out.frozen 1
        have e2 := KV.out.cell 2
        have f2 := KV.out.frozen 2
        have e3 := KV.out.cell 3
        have f3 := KV.out.frozen 3
        have e4 := KV.out.cell 4
        have f4 := KV.out.frozen 4
        simp only [List.getElem?_toArray, List.getElem?_cons_zero, List.getElem?_cons_succ] at e1 e2 e3 e4
        refine start_ (n := 25) (S := fun w' => w'.cell? ⟨x.g, 5, none⟩ = some (.slice A2 x.m.now.length c2) ∧ w'.cell? ⟨w.heap.size, 0, none⟩ = some (.slice A1 sh.length c1)) (ds := [24]) #[false, false, false, false, false, false, false, false, false, false, false, false, false, false, false, false, false, false, false, false, false, false, false, false, false] (by kernel_rfl) rfl rfl ⟨kc.out.cell 5, tc.out.cell 0⟩ (fun hHeld => ?_)
        refine pure_ (i := 0) (N := some 54) (v := ?_) (a' := ?_) #[true, false, false, false, false, false, false, false, false, false, false, false, false, false, false, false, false, false, false, false, false, false, false, false, false] rfl rfl (by kernel_rfl) (fun _ _ _ h => h) (Or.inl ⟨by rfl, ?_⟩) ?_ ?_
        rotate_left
        · intro w'
          go_simp
          with_reducible rfl
        rotate_left
        · simp only [Act.put, List.setIfInBounds_toArray, List.set_cons_zero, List.set_cons_succ]
          rfl
        refine pure_ (i := 1) (N := some 55) (v := ?_) (a' := ?_) #[true, true, false, false, false, false, false, false, false, false, false, false, false, false, false, false, false, false, false, false, false, false, false, false, false] rfl rfl (by kernel_rfl) (fun _ _ _ h => h) (Or.inl ⟨by rfl, ?_⟩) ?_ ?_
        rotate_left
        · intro w'
          go_simp
          with_reducible rfl
        rotate_left
        · simp only [Act.put, List.setIfInBounds_toArray, List.set_cons_zero, List.set_cons_succ]
          rfl
        refine pure_ (i := 2) (N := some 56) (v := ?_) (a' := ?_) #[true, true, true, false, false, false, false, false, false, false, false, false, false, false, false, false, false, false, false, false, false, false, false, false, false] rfl rfl (by kernel_rfl) (fun _ _ _ h => h) (Or.inl ⟨by rfl, ?_⟩) ?_ ?_
        rotate_left
        · intro w'
          go_simp
          with_reducible rfl
        rotate_left
        · simp only [Act.put, List.setIfInBounds_toArray, List.set_cons_zero, List.set_cons_succ]
          rfl
        refine pure_ (i := 3) (N := some 57) (v := ?_) (a' := ?_) #[true, true, true, true, false, false, false, false, false, false, false, false, false, false, false, false, false, false, false, false, false, false, false, false, false] rfl rfl (by kernel_rfl) (fun _ _ _ h => h) (Or.inl ⟨by rfl, ?_⟩) ?_ ?_
        rotate_left
        · intro w'
          go_simp
          with_reducible rfl
        rotate_left
        · simp only [Act.put, List.setIfInBounds_toArray, List.set_cons_zero, List.set_cons_succ]
          rfl
        refine pure_ (i := 4) (N := some 58) (v := ?_) (a' := ?_) #[true, true, true, true, true, false, false, false, false, false, false, false, false, false, false, false, false, false, false, false, false, false, false, false, false] rfl rfl (by kernel_rfl) (fun _ _ _ h => h) (Or.inl ⟨by rfl, ?_⟩) ?_ ?_
        rotate_left
        · intro w'
          go_simp
          with_reducible rfl
        rotate_left
        · simp only [Act.put, List.setIfInBounds_toArray, List.set_cons_zero, List.set_cons_succ]
          rfl
        refine pure_ (i := 5) (N := some 59) (v := ?_) (a' := ?_) #[true, true, true, true, true, true, false, false, false, false, false, false, false, false, false, false, false, false, false, false, false, false, false, false, false] rfl rfl (by kernel_rfl) (fun _ _ _ h => h) (Or.inl ⟨by rfl, ?_⟩) ?_ ?_
        rotate_left
        · intro w'
          go_simp
          with_reducible rfl
        rotate_left
        · simp only [Act.put, List.setIfInBounds_toArray, List.set_cons_zero, List.set_cons_succ]
          rfl
        refine pure_ (i := 6) (N := some 60) (v := ?_) (a' := ?_) #[true, true, true, true, true, true, true, false, false, false, false, false, false, false, false, false, false, false, false, false, false, false, false, false, false] rfl rfl (by kernel_rfl) (fun _ _ _ h => h) (Or.inl ⟨by rfl, ?_⟩) ?_ ?_
        rotate_left
        · intro w'
          go_simp
          with_reducible rfl
        rotate_left
        · simp only [Act.put, List.setIfInBounds_toArray, List.set_cons_zero, List.set_cons_succ]
          rfl
        refine pure_ (i := 7) (N := some 61) (v := ?_) (a' := ?_) #[true, true, true, true, true, true, true, true, false, false, false, false, false, false, false, false, false, false, false, false, false, false, false, false, false] rfl rfl (by kernel_rfl) (fun _ _ _ h => h) (Or.inl ⟨by rfl, ?_⟩) ?_ ?_
        rotate_left
        · intro w'
          go_simp
          with_reducible rfl
        rotate_left
        · simp only [Act.put, List.setIfInBounds_toArray, List.set_cons_zero, List.set_cons_succ]
          rfl
        refine pure_ (i := 9) (N := some 63) (v := ?_) (a' := ?_) #[true, true, true, true, true, true, true, true, false, true, false, false, false, false, false, false, false, false, false, false, false, false, false, false, false] rfl rfl (by kernel_rfl) (fun _ _ _ h => h) (Or.inl ⟨by rfl, ?_⟩) ?_ ?_
        rotate_left
        · intro w'
          go_simp
          with_reducible rfl
        rotate_left
        · simp only [Act.put, List.setIfInBounds_toArray, List.set_cons_zero, List.set_cons_succ]
          rfl
        refine pure_ (i := 11) (N := some 65) (v := ?_) (a' := ?_) #[true, true, true, true, true, true, true, true, false, true, false, true, false, false, false, false, false, false, false, false, false, false, false, false, false] rfl rfl (by kernel_rfl) (fun _ _ _ h => h) (Or.inl ⟨by rfl, ?_⟩) ?_ ?_
        rotate_left
        · intro w'
          go_simp
          with_reducible rfl
        rotate_left
        · simp only [Act.put, List.setIfInBounds_toArray, List.set_cons_zero, List.set_cons_succ]
          rfl
        refine pure_ (i := 12) (N := some 66) (v := ?_) (a' := ?_) #[true, true, true, true, true, true, true, true, false, true, false, true, true, false, false, false, false, false, false, false, false, false, false, false, false] rfl rfl (by kernel_rfl) (fun _ _ _ h => h) (Or.inl ⟨by rfl, ?_⟩) ?_ ?_
        rotate_left
        · intro w'
          go_simp
          with_reducible rfl
        rotate_left
        · simp only [Act.put, List.setIfInBounds_toArray, List.set_cons_zero, List.set_cons_succ]
          rfl
        refine take_ (i := 8) (N := some 62) (v := ?_) (a' := ?_) #[true, true, true, true, true, true, true, true, true, true, false, true, true, false, false, false, false, false, false, false, false, false, false, false, false] rfl rfl (by kernel_rfl) (fun _ _ _ h => h) (Or.inl ⟨by rfl, ?_⟩) hHeld ?_ ?_
        rotate_left
        · rintro w' ⟨s0, s1⟩
          go_simp
          with_reducible rfl
        rotate_left
        · simp only [Act.put, List.setIfInBounds_toArray, List.set_cons_zero, List.set_cons_succ]
          rfl
        refine pure_ (i := 13) (N := some 67) (v := ?_) (a' := ?_) #[true, true, true, true, true, true, true, true, true, true, false, true, true, true, false, false, false, false, false, false, false, false, false, false, false] rfl rfl (by kernel_rfl) (fun _ _ _ h => h) (Or.inl ⟨by rfl, ?_⟩) ?_ ?_
        rotate_left
        · intro w'
          go_simp
          with_reducible rfl
        rotate_left
        · simp only [Act.put, List.setIfInBounds_toArray, List.set_cons_zero, List.set_cons_succ]
          rfl
        refine pure_ (i := 14) (N := some 68) (v := ?_) (a' := ?_) #[true, true, true, true, true, true, true, true, true, true, false, true, true, true, true, false, false, false, false, false, false, false, false, false, false] rfl rfl (by kernel_rfl) (fun _ _ _ h => h) (Or.inl ⟨by rfl, ?_⟩) ?_ ?_
        rotate_left
        · intro w'
          go_simp
          with_reducible rfl
        rotate_left
        · simp only [Act.put, List.setIfInBounds_toArray, List.set_cons_zero, List.set_cons_succ]
          rfl
        refine take_ (i := 10) (N := some 64) (v := ?_) (a' := ?_) #[true, true, true, true, true, true, true, true, true, true, true, true, true, true, true, false, false, false, false, false, false, false, false, false, false] rfl rfl (by kernel_rfl) (fun _ _ _ h => h) (Or.inl ⟨by rfl, ?_⟩) hHeld ?_ ?_
        rotate_left
        · rintro w' ⟨s0, s1⟩
          go_simp
          with_reducible rfl
        rotate_left
        · simp only [Act.put, List.setIfInBounds_toArray, List.set_cons_zero, List.set_cons_succ]
          rfl
        refine one_ (i := 15) (N := none) #[true, true, true, true, true, true, true, true, true, true, true, true, true, true, true, true, false, false, false, false, false, false, false, false, false] rfl rfl (by kernel_rfl) (by decide) (fun K hK => ?_)
        skip
        have k1 := kc.out.set 1 (.slice A2 x.m.now.length c2) (cs' := #[.string x.nm, .slice A2 x.m.now.length c2, .slice Ad x.m.dst.length cd, .int .i64 x.m.since, .int .i64 x.m.whole, .slice A2 x.m.now.length c2, .slice A3 x.m.tags.length c3]) rfl
        have t1 := tc.out.far (a := ⟨x.g, 1, none⟩) hxw (.slice A2 x.m.now.length c2)
        refine skip_ (w1 := ?_) (by rfl) rfl ?_ ?_
        rotate_left
        · go_simp
          rfl
        refine hK.out _ _ ⟨k1.cell 5, t1.cell 0⟩ (fun hHeld => ?_)
        clear hK K
        refine pure_ (i := 16) (N := some 69) (v := ?_) (a' := ?_) #[true, true, true, true, true, true, true, true, true, true, true, true, true, true, true, true, true, false, false, false, false, false, false, false, false] rfl rfl (by kernel_rfl) (fun _ _ _ h => h) (Or.inl ⟨by rfl, ?_⟩) ?_ ?_
        rotate_left
        · intro w'
          go_simp
          with_reducible rfl
        rotate_left
        · simp only [Act.put, List.setIfInBounds_toArray, List.set_cons_zero, List.set_cons_succ]
          rfl
        refine pure_ (i := 17) (N := some 70) (v := ?_) (a' := ?_) #[true, true, true, true, true, true, true, true, true, true, true, true, true, true, true, true, true, true, false, false, false, false, false, false, false] rfl rfl (by kernel_rfl) (fun _ _ _ h => h) (Or.inl ⟨by rfl, ?_⟩) ?_ ?_
        rotate_left
        · intro w'
          go_simp
          with_reducible rfl
        rotate_left
        · simp only [Act.put, List.setIfInBounds_toArray, List.set_cons_zero, List.set_cons_succ]
          rfl
        refine one_ (i := 18) (N := none) #[true, true, true, true, true, true, true, true, true, true, true, true, true, true, true, true, true, true, true, false, false, false, false, false, false] rfl rfl (by kernel_rfl) (by decide) (fun K hK => ?_)
        skip
        have k2 := k1.set 2 (.slice A1 sh.length c1) (cs' := #[.string x.nm, .slice A2 x.m.now.length c2, .slice A1 sh.length c1, .int .i64 x.m.since, .int .i64 x.m.whole, .slice A2 x.m.now.length c2, .slice A3 x.m.tags.length c3]) rfl
        have t2 := t1.far (a := ⟨x.g, 2, none⟩) hxw (.slice A1 sh.length c1)
        refine skip_ (w1 := ?_) (by rfl) rfl ?_ ?_
        rotate_left
        · go_simp
          rfl
        refine hK.out _ _ ⟨k2.cell 5, t2.cell 0⟩ (fun hHeld => ?_)
        clear hK K
        refine pure_ (i := 19) (N := some 71) (v := ?_) (a' := ?_) #[true, true, true, true, true, true, true, true, true, true, true, true, true, true, true, true, true, true, true, true, false, false, false, false, false] rfl rfl (by kernel_rfl) (fun _ _ _ h => h) (Or.inl ⟨by rfl, ?_⟩) ?_ ?_
        rotate_left
        · intro w'
          go_simp
          with_reducible rfl
        rotate_left
        · simp only [Act.put, List.setIfInBounds_toArray, List.set_cons_zero, List.set_cons_succ]
          rfl
        refine pure_ (i := 20) (N := some 72) (v := ?_) (a' := ?_) #[true, true, true, true, true, true, true, true, true, true, true, true, true, true, true, true, true, true, true, true, true, false, false, false, false] rfl rfl (by kernel_rfl) (fun _ _ _ h => h) (Or.inl ⟨by rfl, ?_⟩) ?_ ?_
        rotate_left
        · intro w'
          go_simp
          with_reducible rfl
        rotate_left
        · simp only [Act.put, List.setIfInBounds_toArray, List.set_cons_zero, List.set_cons_succ]
          rfl
        refine one_ (i := 21) (N := none) #[true, true, true, true, true, true, true, true, true, true, true, true, true, true, true, true, true, true, true, true, true, true, false, false, false] rfl rfl (by kernel_rfl) (by decide) (fun K hK => ?_)
        skip
        have k3 := k2.set 3 (.int .i64 now) (cs' := #[.string x.nm, .slice A2 x.m.now.length c2, .slice A1 sh.length c1, .int .i64 now, .int .i64 x.m.whole, .slice A2 x.m.now.length c2, .slice A3 x.m.tags.length c3]) rfl
        have t3 := t2.far (a := ⟨x.g, 3, none⟩) hxw (.int .i64 now)
        refine skip_ (w1 := ?_) (by rfl) rfl ?_ ?_
        rotate_left
        · go_simp
          rfl
        refine hK.out _ _ ⟨k3.cell 5, t3.cell 0⟩ (fun hHeld => ?_)
        clear hK K
        refine pure_ (i := 22) (N := some 73) (v := ?_) (a' := ?_) #[true, true, true, true, true, true, true, true, true, true, true, true, true, true, true, true, true, true, true, true, true, true, true, false, false] rfl rfl (by kernel_rfl) (fun _ _ _ h => h) (Or.inl ⟨by rfl, ?_⟩) ?_ ?_
        rotate_left
        · intro w'
          go_simp
          with_reducible rfl
        rotate_left
        · simp only [Act.put, List.setIfInBounds_toArray, List.set_cons_zero, List.set_cons_succ]
          rfl
        refine pure_ (i := 23) (N := some 74) (v := ?_) (a' := ?_) #[true, true, true, true, true, true, true, true, true, true, true, true, true, true, true, true, true, true, true, true, true, true, true, true, false] rfl rfl (by kernel_rfl) (fun _ _ _ h => h) (Or.inl ⟨by rfl, ?_⟩) ?_ ?_
        rotate_left
        · intro w'
          go_simp
          with_reducible rfl
        rotate_left
        · simp only [Act.put, List.setIfInBounds_toArray, List.set_cons_zero, List.set_cons_succ]
          rfl
        refine last_ (i := 24) (N := none) #[true, true, true, true, true, true, true, true, true, true, true, true, true, true, true, true, true, true, true, true, true, true, true, true, true] rfl rfl (by kernel_rfl) (by decide) (fun K hK => ?_)
        skip
        refine skip_ (w1 := ?_) (by rfl) rfl ?_ ?_
        rotate_left
        · go_simp
          rfl
        refine hK.out _ _ ?_
        clear hK K
        refine done_ (by kernel_rfl) ?_
        have k4 := k3.set 4 (.int .i64 whole) (cs' := #[.string x.nm, .slice A2 x.m.now.length c2, .slice A1 sh.length c1, .int .i64 now, .int .i64 whole, .slice A2 x.m.now.length c2, .slice A3 x.m.tags.length c3]) rfl
        have t4 := t3.far (a := ⟨x.g, 4, none⟩) hxw (.int .i64 whole)
        have cX : Chg (fun k => k = x.g) w4.drew ((((w4.drew.setCell ⟨x.g, 1, none⟩ (.slice A2 x.m.now.length c2)).setCell ⟨x.g, 2, none⟩ (.slice A1 sh.length c1)).setCell ⟨x.g, 3, none⟩ (.int .i64 now)).setCell ⟨x.g, 4, none⟩ (.int .i64 whole)) := (((((Chg.refl (fun k => k = x.g) w4.drew).setCell (a := ⟨x.g, 1, none⟩) (fun _ => rfl) _).setCell (a := ⟨x.g, 2, none⟩) (fun _ => rfl) _).setCell (a := ⟨x.g, 3, none⟩) (fun _ => rfl) _).setCell (a := ⟨x.g, 4, none⟩) (fun _ => rfl) _)
        have bD : Below w.heap.size w w4.drew := BV.out.trans (b0_.out.mono BV.out.size)
        have b2D : Below w2.heap.size w2 w4.drew := B2V.out.trans (b0_.out.mono B2V.out.size)
        have hD := (H.out.below bD)
        clear e1 f1 e2 f2 e3 f3 e4 f4 k1 k2 k3 t1 t2 t3 hHeld
        go_wp2_with fail
        go_meet
        have hi1 : InOk ok A1 sh.length := fun hp ad e => HOK.out _ (Nat.le_trans (by omega) (I0.out hp ad e))
        have hnok : ∀ k, ok k → ¬ k = x.g := fun k hk e => H.out.notg k hk x HXM.out e
        have hn : DWAt ((((w4.drew.setCell ⟨x.g, 1, none⟩ (.slice A2 x.m.now.length c2)).setCell ⟨x.g, 2, none⟩ (.slice A1 sh.length c1)).setCell ⟨x.g, 3, none⟩ (.int .i64 now)).setCell ⟨x.g, 4, none⟩ (.int .i64 whole)) ok ⟨x.g, x.nm, ⟨x.m.now, sh, now, whole, x.m.now, x.m.tags⟩⟩ :=
          ⟨A2, c2, A1, c1, A2, c2, A3, c3, k4, ⟨c_chg (Kd.C_below QN.out b2D) ON.out cX (fun k hk _ e => hnok k hk e), c_chg (Kd.C_below C1.out b2D) hi1 cX (fun k hk _ e => hnok k hk e), c_chg (Kd.C_below QN.out b2D) ON.out cX (fun k hk _ e => hnok k hk e), ct_chg (Kd.C_below QT.out b2D) OT.out cX (fun k hk _ e => hnok k hk e)⟩, ⟨ZN.out, l0, ZN.out, ZT.out⟩, ON.out, hi1, ON.out, OT.out⟩
        have hdoc := hD.upd HXM.out cX hn
        have zD := cX.size
        have zw := bD.size
        have hbm : bm = ⟨x.m.now, sh, now, whole, [], []⟩ := by rw [HBM.out, HFM.out]; exact if_neg HNE.out
        refine ⟨⟨x.g, x.nm, ⟨x.m.now, sh, now, whole, x.m.now, x.m.tags⟩⟩, rfl, Lib.hid ⟨_, _, ⟨hdoc, find_upd H.out.nodup HFW.out _, by rw [hbm], by rw [hbm], by rw [hbm], by rw [hbm], fun nm' hne => findM_other H.out.nodup HFW.out _ hne, fun k hk => HOK.out k (Nat.le_trans (Nat.le_trans zw zD) hk), fun k _ ho => ho, by rw [updW_len]; omega, fun k h1 _ => HOK.out k h1, (Chg.of_below bD (fun k hk hk' => by omega)).trans cX (fun k _ e ho => hnok k ho e)⟩⟩, Lib.hid ⟨t4, ((K10.out.below b2D K10.out.lt)).chg cX (fun e => by have := hxlt; omega), ct_chg (Kd.C_below D1.out b2D) I1.out cX (fun k (hk : W0.heap.size ≤ k) _ e => by have := hxlt; omega)⟩⟩
  case rest =>
    obtain ⟨x, rfl, hm, ht⟩ := hcut
    obtain ⟨ok1, lx, hM⟩ := hm.out
    obtain ⟨t7, t10, hD⟩ := ht.out
    have HXM : x ∈ lx := List.mem_of_find?_eq_some hM.isx
    obtain ⟨A0, c0, Ad, cd, A2, c2, A3, c3, hk, ⟨qf, qd, _, _⟩, ⟨zf, zd, _, _⟩, of, od, _, _⟩ := hM.doc.ways x HXM
    have HM := Lib.hid hM
    have hf0 := Lib.hid (show Fine x.m.fr from by rw [hM.fr]; exact HF0.out)
    have hf1 := Lib.hid (show Fine x.m.dst from by rw [hM.dst]; exact HF1.out)
    have y0 : x.m.fr.length ≤ 400 := by rw [hM.fr]; exact zf0
    have y1 : x.m.dst.length ≤ 400 := by rw [hM.dst]; exact zf1
    have y2 : -1000000000 ≤ x.m.since ∧ x.m.since ≤ 1000000000 := by rw [hM.since]; exact ⟨hs0, hs1⟩
    have hsub : IntKind.i64.wrap (now - x.m.since) = now - x.m.since := IntWalk.i64_in _ (by omega)
    obtain ⟨L, hL⟩ : ∃ L, L = rollL x.m.fr x.m.dst (now - x.m.since) whole := ⟨_, rfl⟩
    have hLB : rollL bm.fr bm.dst (now - bm.since) whole = L := by rw [hL, hM.fr, hM.dst, hM.since]
    have HL := Lib.hid hL
    rw [hLB] at HLR
    have HLB := Lib.hid hLB
    have KX := Lib.hid hk
    have T7 := Lib.hid t7
    have T10 := Lib.hid t10
    have DT := Lib.hid hD
    have QF := Lib.hid qf
    have QD := Lib.hid qd
    have OF := Lib.hid of
    have OD := Lib.hid od
    clear hm ht hM hk t7 t10 hD qf qd of od hL hLB
    have b0_ := Lib.hid ((Below.refl wc.heap.size wc).drew)
    go_wp2_with fail
    refine start_ (n := 23) (S := fun w' => w'.cell? ⟨x.g, 1, none⟩ = some (.slice A0 x.m.fr.length c0) ∧ w'.cell? ⟨x.g, 2, none⟩ = some (.slice Ad x.m.dst.length cd) ∧ w'.cell? ⟨x.g, 3, none⟩ = some (.int .i64 x.m.since) ∧ w'.cell? ⟨w.heap.size, 1, none⟩ = some (.slice B1 tg.length d1)) (ds := [22]) #[false, false, false, false, false, false, false, false, false, false, false, false, false, false, false, false, false, false, false, false, false, false, false] (by kernel_rfl) rfl rfl ⟨KX.out.cell 1, KX.out.cell 2, KX.out.cell 3, T7.out.cell 1⟩ (fun hHeld => ?_)
    refine pure_ (i := 0) (N := some 75) (v := ?_) (a' := ?_) #[true, false, false, false, false, false, false, false, false, false, false, false, false, false, false, false, false, false, false, false, false, false, false] rfl rfl (by kernel_rfl) (fun _ _ _ h => h) (Or.inl ⟨by rfl, ?_⟩) ?_ ?_
    rotate_left
    · intro w'
      go_simp
      with_reducible rfl
    rotate_left
    · simp only [Act.put, List.setIfInBounds_toArray, List.set_cons_zero, List.set_cons_succ]
      rfl
    refine pure_ (i := 1) (N := some 76) (v := ?_) (a' := ?_) #[true, true, false, false, false, false, false, false, false, false, false, false, false, false, false, false, false, false, false, false, false, false, false] rfl rfl (by kernel_rfl) (fun _ _ _ h => h) (Or.inl ⟨by rfl, ?_⟩) ?_ ?_
    rotate_left
    · intro w'
      go_simp
      with_reducible rfl
    rotate_left
    · simp only [Act.put, List.setIfInBounds_toArray, List.set_cons_zero, List.set_cons_succ]
      rfl
    refine pure_ (i := 2) (N := some 77) (v := ?_) (a' := ?_) #[true, true, true, false, false, false, false, false, false, false, false, false, false, false, false, false, false, false, false, false, false, false, false] rfl rfl (by kernel_rfl) (fun _ _ _ h => h) (Or.inl ⟨by rfl, ?_⟩) ?_ ?_
    rotate_left
    · intro w'
      go_simp
      with_reducible rfl
    rotate_left
    · simp only [Act.put, List.setIfInBounds_toArray, List.set_cons_zero, List.set_cons_succ]
      rfl
    refine pure_ (i := 3) (N := some 78) (v := ?_) (a' := ?_) #[true, true, true, true, false, false, false, false, false, false, false, false, false, false, false, false, false, false, false, false, false, false, false] rfl rfl (by kernel_rfl) (fun _ _ _ h => h) (Or.inl ⟨by rfl, ?_⟩) ?_ ?_
    rotate_left
    · intro w'
      go_simp
      with_reducible rfl
    rotate_left
    · simp only [Act.put, List.setIfInBounds_toArray, List.set_cons_zero, List.set_cons_succ]
      rfl
    refine pure_ (i := 5) (N := some 80) (v := ?_) (a' := ?_) #[true, true, true, true, false, true, false, false, false, false, false, false, false, false, false, false, false, false, false, false, false, false, false] rfl rfl (by kernel_rfl) (fun _ _ _ h => h) (Or.inl ⟨by rfl, ?_⟩) ?_ ?_
    rotate_left
    · intro w'
      go_simp
      with_reducible rfl
    rotate_left
    · simp only [Act.put, List.setIfInBounds_toArray, List.set_cons_zero, List.set_cons_succ]
      rfl
    refine pure_ (i := 6) (N := some 81) (v := ?_) (a' := ?_) #[true, true, true, true, false, true, true, false, false, false, false, false, false, false, false, false, false, false, false, false, false, false, false] rfl rfl (by kernel_rfl) (fun _ _ _ h => h) (Or.inl ⟨by rfl, ?_⟩) ?_ ?_
    rotate_left
    · intro w'
      go_simp
      with_reducible rfl
    rotate_left
    · simp only [Act.put, List.setIfInBounds_toArray, List.set_cons_zero, List.set_cons_succ]
      rfl
    refine pure_ (i := 7) (N := some 82) (v := ?_) (a' := ?_) #[true, true, true, true, false, true, true, true, false, false, false, false, false, false, false, false, false, false, false, false, false, false, false] rfl rfl (by kernel_rfl) (fun _ _ _ h => h) (Or.inl ⟨by rfl, ?_⟩) ?_ ?_
    rotate_left
    · intro w'
      go_simp
      with_reducible rfl
    rotate_left
    · simp only [Act.put, List.setIfInBounds_toArray, List.set_cons_zero, List.set_cons_succ]
      rfl
    refine pure_ (i := 9) (N := some 84) (v := ?_) (a' := ?_) #[true, true, true, true, false, true, true, true, false, true, false, false, false, false, false, false, false, false, false, false, false, false, false] rfl rfl (by kernel_rfl) (fun _ _ _ h => h) (Or.inl ⟨by rfl, ?_⟩) ?_ ?_
    rotate_left
    · intro w'
      go_simp
      with_reducible rfl
    rotate_left
    · simp only [Act.put, List.setIfInBounds_toArray, List.set_cons_zero, List.set_cons_succ]
      rfl
    refine pure_ (i := 10) (N := some 85) (v := ?_) (a' := ?_) #[true, true, true, true, false, true, true, true, false, true, true, false, false, false, false, false, false, false, false, false, false, false, false] rfl rfl (by kernel_rfl) (fun _ _ _ h => h) (Or.inl ⟨by rfl, ?_⟩) ?_ ?_
    rotate_left
    · intro w'
      go_simp
      with_reducible rfl
    rotate_left
    · simp only [Act.put, List.setIfInBounds_toArray, List.set_cons_zero, List.set_cons_succ]
      rfl
    refine pure_ (i := 11) (N := some 86) (v := ?_) (a' := ?_) #[true, true, true, true, false, true, true, true, false, true, true, true, false, false, false, false, false, false, false, false, false, false, false] rfl rfl (by kernel_rfl) (fun _ _ _ h => h) (Or.inl ⟨by rfl, ?_⟩) ?_ ?_
    rotate_left
    · intro w'
      go_simp
      with_reducible rfl
    rotate_left
    · simp only [Act.put, List.setIfInBounds_toArray, List.set_cons_zero, List.set_cons_succ]
      rfl
    refine pure_ (i := 12) (N := some 87) (v := ?_) (a' := ?_) #[true, true, true, true, false, true, true, true, false, true, true, true, true, false, false, false, false, false, false, false, false, false, false] rfl rfl (by kernel_rfl) (fun _ _ _ h => h) (Or.inl ⟨by rfl, ?_⟩) ?_ ?_
    rotate_left
    · intro w'
      go_simp
      with_reducible rfl
    rotate_left
    · simp only [Act.put, List.setIfInBounds_toArray, List.set_cons_zero, List.set_cons_succ]
      rfl
    refine pure_ (i := 15) (N := some 90) (v := ?_) (a' := ?_) #[true, true, true, true, false, true, true, true, false, true, true, true, true, false, false, true, false, false, false, false, false, false, false] rfl rfl (by kernel_rfl) (fun _ _ _ h => h) (Or.inl ⟨by rfl, ?_⟩) ?_ ?_
    rotate_left
    · intro w'
      go_simp
      with_reducible rfl
    rotate_left
    · simp only [Act.put, List.setIfInBounds_toArray, List.set_cons_zero, List.set_cons_succ]
      rfl
    refine pure_ (i := 17) (N := some 92) (v := ?_) (a' := ?_) #[true, true, true, true, false, true, true, true, false, true, true, true, true, false, false, true, false, true, false, false, false, false, false] rfl rfl (by kernel_rfl) (fun _ _ _ h => h) (Or.inl ⟨by rfl, ?_⟩) ?_ ?_
    rotate_left
    · intro w'
      go_simp
      with_reducible rfl
    rotate_left
    · simp only [Act.put, List.setIfInBounds_toArray, List.set_cons_zero, List.set_cons_succ]
      rfl
    refine take_ (i := 4) (N := some 79) (v := ?_) (a' := ?_) #[true, true, true, true, true, true, true, true, false, true, true, true, true, false, false, true, false, true, false, false, false, false, false] rfl rfl (by kernel_rfl) (fun _ _ _ h => h) (Or.inl ⟨by rfl, ?_⟩) hHeld ?_ ?_
    rotate_left
    · rintro w' ⟨s0, s1, s2, s3⟩
      go_simp
      with_reducible rfl
    rotate_left
    · simp only [Act.put, List.setIfInBounds_toArray, List.set_cons_zero, List.set_cons_succ]
      rfl
    refine take_ (i := 8) (N := some 83) (v := ?_) (a' := ?_) #[true, true, true, true, true, true, true, true, true, true, true, true, true, false, false, true, false, true, false, false, false, false, false] rfl rfl (by kernel_rfl) (fun _ _ _ h => h) (Or.inl ⟨by rfl, ?_⟩) hHeld ?_ ?_
    rotate_left
    · rintro w' ⟨s0, s1, s2, s3⟩
      go_simp
      with_reducible rfl
    rotate_left
    · simp only [Act.put, List.setIfInBounds_toArray, List.set_cons_zero, List.set_cons_succ]
      rfl
    refine take_ (i := 13) (N := some 88) (v := ?_) (a' := ?_) #[true, true, true, true, true, true, true, true, true, true, true, true, true, true, false, true, false, true, false, false, false, false, false] rfl rfl (by kernel_rfl) (fun _ _ _ h => h) (Or.inl ⟨by rfl, ?_⟩) hHeld ?_ ?_
    rotate_left
    · rintro w' ⟨s0, s1, s2, s3⟩
      go_simp
      with_reducible rfl
    rotate_left
    · simp only [Act.put, List.setIfInBounds_toArray, List.set_cons_zero, List.set_cons_succ]
      rfl
    refine pure_ (i := 14) (N := some 89) (v := ?_) (a' := ?_) #[true, true, true, true, true, true, true, true, true, true, true, true, true, true, true, true, false, true, false, false, false, false, false] rfl rfl (by kernel_rfl) (fun _ _ _ h => h) (Or.inl ⟨by rfl, ?_⟩) ?_ ?_
    rotate_left
    · intro w'
      go_simp
      with_reducible rfl
    rotate_left
    · simp only [Act.put, List.setIfInBounds_toArray, List.set_cons_zero, List.set_cons_succ]
      rfl
    refine take_ (i := 18) (N := some 93) (v := ?_) (a' := ?_) #[true, true, true, true, true, true, true, true, true, true, true, true, true, true, true, true, false, true, true, false, false, false, false] rfl rfl (by kernel_rfl) (fun _ _ _ h => h) (Or.inl ⟨by rfl, ?_⟩) hHeld ?_ ?_
    rotate_left
    · rintro w' ⟨s0, s1, s2, s3⟩
      go_simp
      with_reducible rfl
    rotate_left
    · simp only [Act.put, List.setIfInBounds_toArray, List.set_cons_zero, List.set_cons_succ]
      rfl
    refine one_ (i := 16) (N := some 91) #[true, true, true, true, true, true, true, true, true, true, true, true, true, true, true, true, true, true, true, false, false, false, false] rfl rfl (by kernel_rfl) (by decide) (fun K hK => ?_)
    refine goes_ Try.func36 (by kernel_rfl) rfl #[.slice A0 x.m.fr.length c0, .slice Ad x.m.dst.length cd, .int .i64 (now - x.m.since), .int .i64 whole] (by rfl) rfl rfl (by simp only [List.map_toArray, List.map_cons, List.map_nil]; rfl) ?_
    with_reducible refine (rshares_calls A0 c0 x.m.fr Ad cd x.m.dst (now - x.m.since) whole _ (Kd.C_below QF.out b0_.out) (Kd.C_below QD.out b0_.out) zf zd hf0.out hf1.out hw1 y0 y1).mono ?_
    rintro e w5 ⟨v5, rfl, r5, h5⟩
    rw [← HL.out] at r5
    obtain ⟨A5, c5, rfl, hc5, hC5⟩ := RowG.toC r5
    have b5 := Lib.hid (below_step b0_.out h5)
    have kg := KX.out.below b5.out KX.out.lt
    refine ⟨_, rfl, ?_⟩
    refine hK.out _ _ ⟨kg.cell 1, kg.cell 2, kg.cell 3, (T7.out.below b5.out T7.out.lt).cell 1⟩ (fun hHeld => ?_)
    clear hK K
    refine norm_ (a' := ?_) ?_ ?_
    rotate_left
    · show Act.put _ (some 91) _ = _
      simp only [Act.put, List.setIfInBounds_toArray, List.set_cons_zero, List.set_cons_succ]
      rfl
    refine pure_ (i := 19) (N := some 94) (v := ?_) (a' := ?_) #[true, true, true, true, true, true, true, true, true, true, true, true, true, true, true, true, true, true, true, true, false, false, false] rfl rfl (by kernel_rfl) (fun _ _ _ h => h) (Or.inl ⟨by rfl, ?_⟩) ?_ ?_
    rotate_left
    · intro w'
      go_simp
      with_reducible rfl
    rotate_left
    · simp only [Act.put, List.setIfInBounds_toArray, List.set_cons_zero, List.set_cons_succ]
      rfl
    refine pure_ (i := 20) (N := some 95) (v := ?_) (a' := ?_) #[true, true, true, true, true, true, true, true, true, true, true, true, true, true, true, true, true, true, true, true, true, false, false] rfl rfl (by kernel_rfl) (fun _ _ _ h => h) (Or.inl ⟨by rfl, ?_⟩) ?_ ?_
    rotate_left
    · intro w'
      go_simp
      with_reducible rfl
    rotate_left
    · simp only [Act.put, List.setIfInBounds_toArray, List.set_cons_zero, List.set_cons_succ]
      rfl
    refine pure_ (i := 21) (N := some 96) (v := ?_) (a' := ?_) #[true, true, true, true, true, true, true, true, true, true, true, true, true, true, true, true, true, true, true, true, true, true, false] rfl rfl (by kernel_rfl) (fun _ _ _ h => h) (Or.inl ⟨by rfl, ?_⟩) ?_ ?_
    rotate_left
    · intro w'
      go_simp
      with_reducible rfl
    rotate_left
    · simp only [Act.put, List.setIfInBounds_toArray, List.set_cons_zero, List.set_cons_succ]
      rfl
    refine last_ (i := 22) (N := none) #[true, true, true, true, true, true, true, true, true, true, true, true, true, true, true, true, true, true, true, true, true, true, true] rfl rfl (by kernel_rfl) (by decide) (fun K hK => ?_)
    have e5 := kg.cell 5
    have e6 := kg.cell 6
    simp only [List.getElem?_toArray, List.getElem?_cons_zero, List.getElem?_cons_succ] at e5 e6
    have f5 := kg.frozen 5
    have f6 := kg.frozen 6
    refine skip_ (w1 := ?_) (by rfl) rfl ?_ ?_
    rotate_left
    · go_simp
      rfl
    refine hK.out _ _ ?_
    clear hK K
    refine done_ (by kernel_rfl) ?_
    have k6 := (kg.set 5 (.slice A5 L.length c5) (cs' := #[.string x.nm, .slice A0 x.m.fr.length c0, .slice Ad x.m.dst.length cd, .int .i64 x.m.since, .int .i64 x.m.whole, .slice A5 L.length c5, .slice A3 x.m.tags.length c3]) rfl).set 6 (.slice B1 tg.length d1) (cs' := #[.string x.nm, .slice A0 x.m.fr.length c0, .slice Ad x.m.dst.length cd, .int .i64 x.m.since, .int .i64 x.m.whole, .slice A5 L.length c5, .slice B1 tg.length d1]) rfl
    obtain ⟨W6, hW6⟩ : ∃ W6, W6 = (w5.setCell ⟨x.g, 5, none⟩ (.slice A5 L.length c5)).setCell ⟨x.g, 6, none⟩ (.slice B1 tg.length d1) := ⟨_, rfl⟩
    have cX : Chg (fun k => k = x.g) w5 W6 := by rw [hW6]; exact ((Chg.refl (fun k => k = x.g) w5).setCell (a := ⟨x.g, 5, none⟩) (fun _ => rfl) _).setCell (a := ⟨x.g, 6, none⟩) (fun _ => rfl) _
    rw [← hW6] at k6 ⊢
    have bC : Below wc.heap.size wc w5 := b5.out
    have hno : ∀ k, ok1 k → k < w5.heap.size → ¬ k = x.g := fun k hk _ e => HM.out.doc.notg k hk x HXM e
    have hi5 : InOk ok1 A5 L.length := (RowG.inok r5).mono (fun k hk _ _ _ _ => HM.out.new k (Nat.le_trans b0_.out.size hk))
    have hiT : InOk ok1 B1 tg.length := fun hp a e => HM.out.mid _ (Nat.le_trans (by omega) (I1.out hp a e)) (tag_lt D1.out hp a e)
    have cL := c_chg hC5 hi5 cX hno
    have cT := ct_chg (Kd.C_below DT.out bC) hiT cX hno
    have hn : DWAt W6 ok1 ⟨x.g, x.nm, ⟨x.m.fr, x.m.dst, x.m.since, x.m.whole, L, tg⟩⟩ := ⟨A0, c0, Ad, cd, A5, c5, B1, d1, k6, ⟨c_chg (Kd.C_below QF.out bC) OF.out cX hno, c_chg (Kd.C_below QD.out bC) OD.out cX hno, cL, cT⟩, ⟨zf, zd, hc5, l1⟩, OF.out, OD.out, hi5, hiT⟩
    have HDOC := Lib.hid ((HM.out.doc.below bC).upd HXM cX hn)
    have hxne : w.heap.size + 1 ≠ x.g := fun e => blk_neT T10.out KX.out (by decide) e
    have T10' := Lib.hid ((T10.out.below bC T10.out.lt).chg cX hxne)
    have CL := Lib.hid cL
    have CT := Lib.hid cT
    have d5 := k6.cell 5
    have d6 := k6.cell 6
    have e0 := T10'.out.cell 0
    have e1 := T10'.out.cell 1
    have f0 := T10'.out.frozen 0
    have f1 := T10'.out.frozen 1
    simp only [List.getElem?_toArray, List.getElem?_cons_zero, List.getElem?_cons_succ] at d5 d6 e0 e1
    clear e5 e6 f5 f6 hW6 hHeld kg r5 h5 hC5 cL cT hn k6
    go_wp2_with fail
    refine (copy_calls _ CL.out hc5 CT.out l1 (by have := HLR.out; omega) (by omega)).mono ?_
    rintro e w7 ⟨A7, c7, B7, d7, rfl, ⟨s0, z7, s1, z8⟩, ⟨j0, j1⟩, hb7⟩
    have k8 := T10'.out.below hb7 T10'.out.lt
    have f0 := k8.frozen 0
    have f1 := k8.frozen 1
    have e0 := k8.cell 0
    have e1 := k8.cell 1
    simp only [List.getElem?_toArray, List.getElem?_cons_zero, List.getElem?_cons_succ] at e0 e1
    clear d5 d6
    go_wp2_with fail
    have k9 := (k8.set 0 (.slice A7 L.length c7) (cs' := #[.slice A7 L.length c7, .slice none 0 0]) rfl).set 1 (.slice B7 tg.length d7) (cs' := #[.slice A7 L.length c7, .slice B7 tg.length d7]) rfl
    have g0 := k9.cell 0
    have g1 := k9.cell 1
    simp only [List.getElem?_toArray, List.getElem?_cons_zero, List.getElem?_cons_succ] at g0 g1
    have c9 : Chg (fun k => k = w.heap.size + 1) w7 ((w7.setCell ⟨w.heap.size + 1, 0, none⟩ (.slice A7 L.length c7)).setCell ⟨w.heap.size + 1, 1, none⟩ (.slice B7 tg.length d7)) := ((Chg.refl (fun k => k = w.heap.size + 1) w7).setCell (a := ⟨w.heap.size + 1, 0, none⟩) (fun _ => rfl) _).setCell (a := ⟨w.heap.size + 1, 1, none⟩) (fun _ => rfl) _
    have hW6 : w.heap.size + 1 < W6.heap.size := T10'.out.lt
    have zx : wc.heap.size ≤ W6.heap.size := Nat.le_trans bC.size cX.size
    have hD9 := (HDOC.out.below hb7).tab k8 (fun j s e => by
      match j, e with
      | 0, e => cases e
      | 1, e => cases e
      | _ + 2, e => cases e) c9
    have hM := HM.out
    refine bodyPost_ret (v := .agg #[.slice A7 L.length c7, .slice B7 tg.length d7]) (by simp [results, Try.results21, go_sem, g0, g1]) rfl ⟨A7, c7, B7, d7, ok1, _, by rw [HLB.out], ?_, ?_, hD9, fun k hk => hM.new k (Nat.le_trans (Nat.le_trans (Nat.le_trans zx hb7.size) c9.size) hk), fun k hk ho => hM.old k hk ho, fun nm' => ?_, by rw [updW_len]; exact hM.len, ?_⟩
    · rw [HLB.out]
      exact ⟨c_chg s0 j0 c9 (fun k (hk : W6.heap.size ≤ k) _ e => by omega), z7, ct_chg s1 j1 c9 (fun k (hk : W6.heap.size ≤ k) _ e => by omega), z8⟩
    · rw [HLB.out]
      exact ⟨j0.mono (fun k hk _ _ _ _ => hM.new k (Nat.le_trans zx hk)), j1.mono (fun k hk _ _ _ _ => hM.new k (Nat.le_trans zx hk))⟩
    · by_cases e : nm'.toList = nm.toList
      · rw [if_pos e]
        have h1 := find_upd hM.doc.nodup hM.isx (⟨x.m.fr, x.m.dst, x.m.since, x.m.whole, L, tg⟩ : WayM)
        have h2 : turnW (findM l nm) sh tg now whole = ⟨x.m.fr, x.m.dst, x.m.since, x.m.whole, L, tg⟩ := by
          unfold turnW
          rw [← HBM.out, HLB.out, hM.fr, hM.dst, hM.since, hM.whole]
        rw [h2]
        show (List.find? (fun x : DW => x.nm.toList == nm'.toList) _).map _ = _
        rw [e]
        exact congrArg (Option.map DW.m) h1
      · rw [if_neg e, ← hM.others nm' e]
        exact findM_other hM.doc.nodup hM.isx _ e
    · have a1 := hM.chg.trans (Chg.of_below (F := fun _ => False) bC (fun k h1 h2 => by omega)) (fun _ _ h => h.elim)
      have a2 := a1.trans cX (fun k hk e ho => HM.out.doc.notg k (HM.out.old k hk ho) x HXM e)
      exact (a2.trans (Chg.of_below (F := fun _ => False) hb7 (fun k h1 h2 => by omega)) (fun _ _ h => h.elim)).trans c9 (fun k hk e => by omega)

end Go.Proofs.Ytnkmpkhiilnigaa.PA
