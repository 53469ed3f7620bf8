/- damperlaw13's Books: two, alike. (Printed by books.py and genx.py.) -/
import Derived.Test.YtnkmpkhiilnigaaGreatDoorRoute
set_option linter.unusedSimpArgs false
set_option linter.unusedVariables false
namespace Go.Proofs.YtnkmpkhiilnigaaGreatDoor.PR
open Go.RowKit Go.Shelf Go.Lib Go.Sort Go.Maps Go.Proofs.YtnkmpkhiilnigaaGreatDoor.PA Go.Proofs.YtnkmpkhiilnigaaGreatDoorW.PrintWords Go.Proofs.YtnkmpkhiilnigaaGreatDoorW.PrintLast

theorem hold_cfg {wr w : World} (h : Below wr.heap.size wr w) : ∃ g w5, w5 = w.alloc (.cells #[.string ⟨#[]⟩, .int .i64 0, .int .i64 0, .int .i64 0, .int .i64 0, .int .i64 0] 58) ∧ g = w.heap.size ∧ Blk w5 g #[.string ⟨#[]⟩, .int .i64 0, .int .i64 0, .int .i64 0, .int .i64 0, .int .i64 0] 58 ∧ wr.heap.size ≤ g ∧ Below wr.heap.size wr w5 ∧ Below w.heap.size w w5 :=
  ⟨_, _, rfl, rfl, Blk.new _ _ _, h.size, h.alloc h.size _, (Below.refl _ _).alloc (Nat.le_refl _) _⟩
theorem hold_cfgD {wr w : World} (h : Below wr.heap.size wr w.drew) : ∃ g w5, w5 = (w.alloc (.cells #[.string ⟨#[]⟩, .int .i64 0, .int .i64 0, .int .i64 0, .int .i64 0, .int .i64 0] 58)).drew ∧ g = w.heap.size ∧ Blk w5 g #[.string ⟨#[]⟩, .int .i64 0, .int .i64 0, .int .i64 0, .int .i64 0, .int .i64 0] 58 ∧ wr.heap.size ≤ g ∧ Below wr.heap.size wr w5 ∧ Below w.drew.heap.size w.drew w5 :=
  ⟨_, _, rfl, rfl, Blk.new w.drew _ _, h.size, h.alloc h.size _, (Below.refl _ _).alloc (Nat.le_refl _) _⟩
theorem Blk.set6 {w : World} {p : Nat} {t : TypeId} {a0 a1 a2 a3 a4 a5 : Value} (h : Blk w p #[a0, a1, a2, a3, a4, a5] t) (v0 v1 v2 v3 v4 v5 : Value) :
    Blk ((((((w.setCell ⟨p, 0, none⟩ v0).setCell ⟨p, 1, none⟩ v1).setCell ⟨p, 2, none⟩ v2).setCell ⟨p, 3, none⟩ v3).setCell ⟨p, 4, none⟩ v4).setCell ⟨p, 5, none⟩ v5) p #[v0, v1, v2, v3, v4, v5] t :=
  (((((h.set 0 v0 rfl).set 1 v1 rfl).set 2 v2 rfl).set 3 v3 rfl).set 4 v4 rfl).set 5 v5 rfl
theorem Chg.set6 (w : World) (p : Nat) (v0 v1 v2 v3 v4 v5 : Value) : Chg (fun k => k = p) w ((((((w.setCell ⟨p, 0, none⟩ v0).setCell ⟨p, 1, none⟩ v1).setCell ⟨p, 2, none⟩ v2).setCell ⟨p, 3, none⟩ v3).setCell ⟨p, 4, none⟩ v4).setCell ⟨p, 5, none⟩ v5) :=
  ((((((Chg.refl (fun k => k = p) w).setCell (a := ⟨p, 0, none⟩) (fun _ => rfl) _).setCell (a := ⟨p, 1, none⟩) (fun _ => rfl) _).setCell (a := ⟨p, 2, none⟩) (fun _ => rfl) _).setCell (a := ⟨p, 3, none⟩) (fun _ => rfl) _).setCell (a := ⟨p, 4, none⟩) (fun _ => rfl) _).setCell (a := ⟨p, 5, none⟩) (fun _ => rfl) _
theorem cfgOf_nB (c : PB.CfgM) (name : Int) : ∃ k, (PB.cfgOf c name).nm = nB k := by
  show ∃ k, rdOf ByteArray.empty PB.names2 (name % 3) = nB k
  have h0 := Int.emod_nonneg name (b := 3) (by omega)
  have h1 := Int.emod_lt_of_pos name (b := 3) (by omega)
  generalize name % 3 = q at h0 h1
  have : q = 0 ∨ q = 1 ∨ q = 2 := by omega
  rcases this with rfl | rfl | rfl
  · exact ⟨0, rfl⟩
  · exact ⟨1, rfl⟩
  · exact ⟨2, rfl⟩
/-- The revisions' names are of a few. -/
def NmOk (L : List PB.RevM) : Prop := ∀ r ∈ L, (∃ k, r.c.nm = nB k) ∧ 1 ≤ r.g ∧ r.g ≤ 5
theorem NmOk.nil : NmOk [] := fun r h => by simp at h
theorem NmOk.stamp {L : List PB.RevM} (h : NmOk L) {c : PB.CfgM} (hc : ∃ k, c.nm = nB k) {g : Int} (h0 : 1 ≤ g) (h1 : g ≤ 5) : NmOk (PB.stampL L c g) := by
  unfold PB.stampL
  split
  · intro r hr
    rcases List.mem_append.1 hr with hr | hr
    · exact h r hr
    · rw [List.mem_singleton.1 hr]; exact ⟨hc, h0, h1⟩
  · exact h
theorem NmOk.prove {L : List PB.RevM} (h : NmOk L) (x : List UInt8) : NmOk (PB.proveL L x) := fun r hr => by
  unfold PB.proveL at hr
  obtain ⟨s, hs, rfl⟩ := List.mem_map.1 hr
  have := h s hs
  split
  · exact this
  · exact this

set_option maxRecDepth 100000 in
set_option maxHeartbeats 16000000 in
theorem books_calls (A0 : Option Addr) (c0 : Nat) (l0 : List PB.StepM) (w : World) (ht : ∀ w', Below w.heap.size w w' → PB.Pow10 w') (hr0 : PB.StepsAt w A0 l0) :
    Calls Tryz.prog 5 #[.slice A0 l0.length c0] w fun e w' => ∃ p b1 b2 q L, e = .returned (.tuple #[.pointer (some ⟨p, 0, none⟩), .pointer (some ⟨q, 0, none⟩)]) ∧ PB.BookAt w' p b1 b2 L ∧ PB.DBook w' w.heap.size q L ∧ PB.OkL L ∧ NmOk L ∧ Below w.heap.size w w' := by
  have HT := Lib.hid ht
  have HR0 := Lib.hid hr0
  clear ht hr0
  go_enter Tryz.func5, Tryz.ntmps5
  go_wp2_with fail
  refine (PB.new_calls w).mono ?_
  rintro e w2 ⟨p, b1, b2, rfl, hB, ⟨hp, h1, h2⟩, hb2⟩
  have HB2 := Lib.hid hB
  have B2 := Lib.hid hb2
  clear hB hb2
  obtain ⟨W3, hW3⟩ : ∃ W3, W3 = w2.alloc (.cells #[.slice none 0 0, .slice none 0 0] 56) := ⟨_, rfl⟩
  have bW3 : Below w2.heap.size w2 W3 := by rw [hW3]; exact (Below.refl _ _).alloc (Nat.le_refl _) _
  have hdd : PB.DBook W3 w.heap.size w2.heap.size [] := by rw [hW3]; exact PB.DBook.first B2.out.size
  obtain ⟨q, hq⟩ : ∃ q, q = w2.heap.size := ⟨_, rfl⟩
  rw [← hq] at hdd
  have HD3 := Lib.hid hdd
  have HB3 := Lib.hid (HB2.out.below bW3)
  have B3 := Lib.hid (stepB B2.out bW3)
  clear bW3 hdd HB2 B2
  go_upto_region 4 with fail
  rw [← hW3, ← hq]
  clear hW3 hq
  go_wp2_with fail
  go_loopw [6] (fun v6 wr => ∃ (i : Nat) (L : List PB.RevM), i ≤ l0.length ∧ i ≤ 40 ∧ v6 = .int .i64 i ∧ Hid (PB.BookAt wr p b1 b2 L) ∧ Hid (PB.DBook wr w.heap.size q L) ∧ Hid (PB.OkL L) ∧ Hid (NmOk L) ∧ L.length ≤ i ∧ Hid (Below w.heap.size w wr)) (fun v6 _ => l0.length - (PB.vI v6).toNat)
  case atStart => exact ⟨0, [], by omega, by omega, rfl, HB3, HD3, Lib.hid PB.OkL.nil, Lib.hid NmOk.nil, by simp, B3⟩
  case round =>
    clear HB3 HD3 B3
    obtain ⟨i, L, hi, hi40, rfl, HB, HD, HL, HN, hLi, BB⟩ := hrel
    by_cases hlt : i < l0.length
    · by_cases h40 : i < 40
      · have hlt' : (i : Int) < (l0.length : Int) := by omega
        obtain ⟨ga, oa, rfl, _, hcs⟩ := HR0.out (fun e => by rw [e] at hlt; exact absurd hlt (Nat.not_lt_zero _))
        obtain ⟨sk, sn, sm, sc, hst⟩ : ∃ sk sn sm sc, l0[i] = ⟨sk, sn, sm, sc⟩ := ⟨_, _, _, _, rfl⟩
        have HC := Lib.hid (show ∀ (w' : World) (j : Nat), Below w.heap.size w w' → j < 9 → w'.cell? ⟨ga, oa + i * 9 + j, none⟩ = (PB.cellsS ⟨sk, sn, sm, sc⟩)[j]? from fun w' j hb hj => by
          obtain ⟨g', o', e', _, hc⟩ := (HR0.out.below hb) (fun e => by rw [e] at hlt; exact absurd hlt (Nat.not_lt_zero _))
          cases e'
          rw [← hst]
          exact hc i hlt j hj)
        clear hcs hst
        have dr := (Below.refl wr.heap.size wr).drew
        have HBd := Lib.hid (HB.out.below dr)
        have HDd := Lib.hid (HD.out.below dr)
        have BD := Lib.hid (stepB BB.out dr)
        clear dr HB HD BB
        obtain ⟨cn, hcn⟩ : ∃ cn, cn = PB.cfgOf sc sm := ⟨_, rfl⟩
        have hv : PB.ValidN cn.nm := hcn ▸ PB.cfgOf_valid sc sm
        have HNK := Lib.hid (show ∃ k, cn.nm = nB k from hcn ▸ cfgOf_nB sc sm)
        have CCF := Lib.hid (fun w' => PB.cfg_calls sc sm w' (v := .agg #[.string sc.nm, .int .i64 sc.img, .int .i64 sc.conc, .int .i64 sc.mn, .int .i64 sc.mx, .int .i64 sc.grc]) rfl (r := .agg #[.string cn.nm, .int .i64 cn.img, .int .i64 cn.conc, .int .i64 cn.mn, .int .i64 cn.mx, .int .i64 cn.grc]) (by rw [← hcn]; rfl))
        clear hcn
        go_wp2_with fail
        refine start_ (n := 13) (S := fun w' => w'.cell? ⟨ga, oa + i * 9 + 3, none⟩ = some (.string sc.nm) ∧ w'.cell? ⟨ga, oa + i * 9 + 4, none⟩ = some (.int .i64 sc.img) ∧ w'.cell? ⟨ga, oa + i * 9 + 5, none⟩ = some (.int .i64 sc.conc) ∧ w'.cell? ⟨ga, oa + i * 9 + 6, none⟩ = some (.int .i64 sc.mn) ∧ w'.cell? ⟨ga, oa + i * 9 + 7, none⟩ = some (.int .i64 sc.mx) ∧ w'.cell? ⟨ga, oa + i * 9 + 8, none⟩ = some (.int .i64 sc.grc) ∧ w'.cell? ⟨ga, oa + i * 9 + 2, none⟩ = some (.int .i64 sm) ∧ Below wr.drew.heap.size wr.drew w') (ds := [12]) #[false, false, false, false, false, false, false, false, false, false, false, false, false] (by kernel_rfl) rfl rfl ⟨HC.out _ 3 BD.out (by omega), HC.out _ 4 BD.out (by omega), HC.out _ 5 BD.out (by omega), HC.out _ 6 BD.out (by omega), HC.out _ 7 BD.out (by omega), HC.out _ 8 BD.out (by omega), HC.out _ 2 BD.out (by omega), Below.refl _ _⟩ (fun hHeld => ?_)
        refine pure_ (i := 0) (N := some 24) (v := ?_) (a' := ?_) #[true, false, false, false, false, false, false, false, false, false, false, false, false] rfl rfl (by kernel_rfl) (fun _ _ _ h => h) (Or.inl ⟨by rfl, ?_⟩) ?_ ?_
        rotate_left
        · intro w'
          go_simp
          with_reducible rfl
        rotate_left
        · simp only [Act.put, List.setIfInBounds_toArray, List.set_cons_zero, List.set_cons_succ]
          rfl
        refine pure_ (i := 1) (N := some 25) (v := ?_) (a' := ?_) #[true, true, false, false, false, false, false, false, false, false, false, false, false] rfl rfl (by kernel_rfl) (fun _ _ _ h => h) (Or.inl ⟨by rfl, ?_⟩) ?_ ?_
        rotate_left
        · intro w'
          go_simp
          with_reducible rfl
        rotate_left
        · simp only [Act.put, List.setIfInBounds_toArray, List.set_cons_zero, List.set_cons_succ]
          rfl
        refine pure_ (i := 2) (N := some 26) (v := ?_) (a' := ?_) #[true, true, true, false, false, false, false, false, false, false, false, false, false] rfl rfl (by kernel_rfl) (fun _ _ _ h => h) (Or.inl ⟨by rfl, ?_⟩) ?_ ?_
        rotate_left
        · intro w'
          go_simp
          with_reducible rfl
        rotate_left
        · simp only [Act.put, List.setIfInBounds_toArray, List.set_cons_zero, List.set_cons_succ]
          rfl
        refine pure_ (i := 3) (N := some 27) (v := ?_) (a' := ?_) #[true, true, true, true, false, false, false, false, false, false, false, false, false] rfl rfl (by kernel_rfl) (fun _ _ _ h => h) (Or.inl ⟨by rfl, ?_⟩) ?_ ?_
        rotate_left
        · intro w'
          go_simp
          with_reducible rfl
        rotate_left
        · simp only [Act.put, List.setIfInBounds_toArray, List.set_cons_zero, List.set_cons_succ]
          rfl
        refine pure_ (i := 5) (N := some 29) (v := ?_) (a' := ?_) #[true, true, true, true, false, true, false, false, false, false, false, false, false] rfl rfl (by kernel_rfl) (fun _ _ _ h => h) (Or.inl ⟨by rfl, ?_⟩) ?_ ?_
        rotate_left
        · intro w'
          go_simp
          with_reducible rfl
        rotate_left
        · simp only [Act.put, List.setIfInBounds_toArray, List.set_cons_zero, List.set_cons_succ]
          rfl
        refine pure_ (i := 6) (N := some 30) (v := ?_) (a' := ?_) #[true, true, true, true, false, true, true, false, false, false, false, false, false] rfl rfl (by kernel_rfl) (fun _ _ _ h => h) (Or.inl ⟨by rfl, ?_⟩) ?_ ?_
        rotate_left
        · intro w'
          go_simp
          with_reducible rfl
        rotate_left
        · simp only [Act.put, List.setIfInBounds_toArray, List.set_cons_zero, List.set_cons_succ]
          rfl
        refine pure_ (i := 7) (N := some 31) (v := ?_) (a' := ?_) #[true, true, true, true, false, true, true, true, false, false, false, false, false] rfl rfl (by kernel_rfl) (fun _ _ _ h => h) (Or.inl ⟨by rfl, ?_⟩) ?_ ?_
        rotate_left
        · intro w'
          go_simp
          with_reducible rfl
        rotate_left
        · simp only [Act.put, List.setIfInBounds_toArray, List.set_cons_zero, List.set_cons_succ]
          rfl
        refine pure_ (i := 8) (N := some 32) (v := ?_) (a' := ?_) #[true, true, true, true, false, true, true, true, true, false, false, false, false] rfl rfl (by kernel_rfl) (fun _ _ _ h => h) (Or.inl ⟨by rfl, ?_⟩) ?_ ?_
        rotate_left
        · intro w'
          go_simp
          with_reducible rfl
        rotate_left
        · simp only [Act.put, List.setIfInBounds_toArray, List.set_cons_zero, List.set_cons_succ]
          rfl
        refine take_ (i := 4) (N := some 28) (v := ?_) (a' := ?_) #[true, true, true, true, true, true, true, true, true, false, false, false, false] rfl rfl (by kernel_rfl) (fun _ _ _ h => h) (Or.inl ⟨by rfl, ?_⟩) hHeld ?_ ?_
        rotate_left
        · rintro w' ⟨s0, s1, s2, s3, s4, s5, s6, s7⟩
          go_simp
          with_reducible rfl
        rotate_left
        · simp only [Act.put, List.setIfInBounds_toArray, List.set_cons_zero, List.set_cons_succ]
          rfl
        refine take_ (i := 9) (N := some 33) (v := ?_) (a' := ?_) #[true, true, true, true, true, true, true, true, true, true, false, false, false] rfl rfl (by kernel_rfl) (fun _ _ _ h => h) (Or.inl ⟨by rfl, ?_⟩) hHeld ?_ ?_
        rotate_left
        · rintro w' ⟨s0, s1, s2, s3, s4, s5, s6, s7⟩
          go_simp
          with_reducible rfl
        rotate_left
        · simp only [Act.put, List.setIfInBounds_toArray, List.set_cons_zero, List.set_cons_succ]
          rfl
        refine join_ (σ := Nat) 1 #[true, true, true, true, true, true, true, true, true, true, true, true, false] (fun s => [(34, .agg #[.string cn.nm, .int .i64 cn.img, .int .i64 cn.conc, .int .i64 cn.mn, .int .i64 cn.mx, .int .i64 cn.grc]), (7, .pointer (some ⟨s, 0, none⟩))]) (fun s w' => Blk w' s #[.string ⟨#[]⟩, .int .i64 0, .int .i64 0, .int .i64 0, .int .i64 0, .int .i64 0] 58 ∧ wr.drew.heap.size ≤ s ∧ Below wr.drew.heap.size wr.drew w') ?_ ?_
        rotate_left
        · intro hCont
          refine two_ (i := 10) (j := 11) (Ni := some 34) (Nj := some 7) #[true, true, true, true, true, true, true, true, true, true, true, false, false] #[true, true, true, true, true, true, true, true, true, true, false, true, false] rfl rfl rfl rfl (by kernel_rfl) (by decide) (by decide) (fun K hK => ?_) (fun K hK => ?_)
          · skip
            refine goes_ Tryz.func15 (by kernel_rfl) rfl #[.agg #[.string sc.nm, .int .i64 sc.img, .int .i64 sc.conc, .int .i64 sc.mn, .int .i64 sc.mx, .int .i64 sc.grc], .int .i64 sm] (by rfl) rfl rfl (by simp only [List.map_toArray, List.map_cons, List.map_nil]; rfl) ?_
            with_reducible refine (CCF.out _).mono ?_
            rintro e wc ⟨rfl, hcc⟩
            have hbl := stepB hHeld.2.2.2.2.2.2.2 hcc
            refine ⟨_, rfl, ?_⟩
            refine hK.out _ _ ⟨HC.out _ 3 (stepB BD.out hbl) (by omega), HC.out _ 4 (stepB BD.out hbl) (by omega), HC.out _ 5 (stepB BD.out hbl) (by omega), HC.out _ 6 (stepB BD.out hbl) (by omega), HC.out _ 7 (stepB BD.out hbl) (by omega), HC.out _ 8 (stepB BD.out hbl) (by omega), HC.out _ 2 (stepB BD.out hbl) (by omega), hbl⟩ (fun hHeld => ?_)
            clear hK K
            refine norm_ (a' := ?_) ?_ ?_
            rotate_left
            · show Act.put _ (some 34) _ = _
              simp only [Act.put, List.setIfInBounds_toArray, List.set_cons_zero, List.set_cons_succ]
              rfl
            refine one_ (i := 11) (N := some 7) #[true, true, true, true, true, true, true, true, true, true, true, true, false] rfl rfl (by kernel_rfl) (by decide) (fun K hK => ?_)
            refine value_ (w1 := ?_) (v := ?_) (by rfl) rfl ?_ ?_
            rotate_left 2
            · go_simp
              constructor
              · rfl
              · rfl
            obtain ⟨gr, wa, hwa, hga, kr, hgr, hbl, _⟩ := hold_cfg hHeld.2.2.2.2.2.2.2
            rw [← hwa, ← hga]
            clear hwa hga
            refine hK.out _ _ ⟨HC.out _ 3 (stepB BD.out hbl) (by omega), HC.out _ 4 (stepB BD.out hbl) (by omega), HC.out _ 5 (stepB BD.out hbl) (by omega), HC.out _ 6 (stepB BD.out hbl) (by omega), HC.out _ 7 (stepB BD.out hbl) (by omega), HC.out _ 8 (stepB BD.out hbl) (by omega), HC.out _ 2 (stepB BD.out hbl) (by omega), hbl⟩ (fun hHeld => ?_)
            clear hK K
            refine norm_ (a' := ?_) ?_ ?_
            rotate_left
            · show Act.put _ (some 7) _ = _
              simp only [Act.put, List.setIfInBounds_toArray, List.set_cons_zero, List.set_cons_succ]
              rfl
            exact norm_ (by simp only [putAll, Act.put, List.setIfInBounds_toArray, List.set_cons_zero, List.set_cons_succ]) (hCont gr _ ⟨kr, hgr, hbl⟩)
          · skip
            refine value_ (w1 := ?_) (v := ?_) (by rfl) rfl ?_ ?_
            rotate_left 2
            · go_simp
              constructor
              · rfl
              · rfl
            obtain ⟨gr, wa, hwa, hga, kr, hgr, hbl, _⟩ := hold_cfgD hHeld.2.2.2.2.2.2.2
            rw [← hwa, ← hga]
            clear hwa hga
            refine hK.out _ _ ⟨HC.out _ 3 (stepB BD.out hbl) (by omega), HC.out _ 4 (stepB BD.out hbl) (by omega), HC.out _ 5 (stepB BD.out hbl) (by omega), HC.out _ 6 (stepB BD.out hbl) (by omega), HC.out _ 7 (stepB BD.out hbl) (by omega), HC.out _ 8 (stepB BD.out hbl) (by omega), HC.out _ 2 (stepB BD.out hbl) (by omega), hbl⟩ (fun hHeld => ?_)
            clear hK K
            refine norm_ (a' := ?_) ?_ ?_
            rotate_left
            · show Act.put _ (some 7) _ = _
              simp only [Act.put, List.setIfInBounds_toArray, List.set_cons_zero, List.set_cons_succ]
              rfl
            refine one_ (i := 10) (N := some 34) #[true, true, true, true, true, true, true, true, true, true, true, true, false] rfl rfl (by kernel_rfl) (by decide) (fun K hK => ?_)
            refine goes_ Tryz.func15 (by kernel_rfl) rfl #[.agg #[.string sc.nm, .int .i64 sc.img, .int .i64 sc.conc, .int .i64 sc.mn, .int .i64 sc.mx, .int .i64 sc.grc], .int .i64 sm] (by rfl) rfl rfl (by simp only [List.map_toArray, List.map_cons, List.map_nil]; rfl) ?_
            with_reducible refine (CCF.out _).mono ?_
            rintro e wc ⟨rfl, hcc⟩
            have hbl := stepB hHeld.2.2.2.2.2.2.2 hcc
            have kr := kr.below hcc kr.lt
            refine ⟨_, rfl, ?_⟩
            refine hK.out _ _ ⟨HC.out _ 3 (stepB BD.out hbl) (by omega), HC.out _ 4 (stepB BD.out hbl) (by omega), HC.out _ 5 (stepB BD.out hbl) (by omega), HC.out _ 6 (stepB BD.out hbl) (by omega), HC.out _ 7 (stepB BD.out hbl) (by omega), HC.out _ 8 (stepB BD.out hbl) (by omega), HC.out _ 2 (stepB BD.out hbl) (by omega), hbl⟩ (fun hHeld => ?_)
            clear hK K
            refine norm_ (a' := ?_) ?_ ?_
            rotate_left
            · show Act.put _ (some 34) _ = _
              simp only [Act.put, List.setIfInBounds_toArray, List.set_cons_zero, List.set_cons_succ]
              rfl
            exact norm_ (by simp only [putAll, Act.put, List.setIfInBounds_toArray, List.set_cons_zero, List.set_cons_succ]) (hCont gr _ ⟨kr, hgr, hbl⟩)
        rintro gr wx ⟨kr, hgr, hbx⟩
        have hHeld : True := trivial
        refine norm_ (a' := ?_) ?_ ?_
        rotate_left
        · simp only [putAll, Act.put, List.setIfInBounds_toArray, List.set_cons_zero, List.set_cons_succ]
          rfl
        refine last_ (i := 12) (N := none) #[true, true, true, true, true, true, true, true, true, true, true, true, true] rfl rfl (by kernel_rfl) (by decide) (fun K hK => ?_)
        obtain ⟨d0, d1, d2, d3, d4, d5⟩ := PB.cells6 kr
        have f0 := kr.frozen 0
        have f1 := kr.frozen 1
        have f2 := kr.frozen 2
        have f3 := kr.frozen 3
        have f4 := kr.frozen 4
        have f5 := kr.frozen 5
        refine skip_ (w1 := ?_) (by rfl) rfl ?_ ?_
        rotate_left
        · go_simp
          rfl
        refine hK.out _ _ ?_
        clear hK K
        refine done_ (by kernel_rfl) ?_
        have k6 := Blk.set6 kr (.string cn.nm) (.int .i64 cn.img) (.int .i64 cn.conc) (.int .i64 cn.mn) (.int .i64 cn.mx) (.int .i64 cn.grc)
        have c6 := Chg.set6 wx gr (.string cn.nm) (.int .i64 cn.img) (.int .i64 cn.conc) (.int .i64 cn.mn) (.int .i64 cn.mx) (.int .i64 cn.grc)
        generalize ((((((wx.setCell ⟨gr, 0, none⟩ (.string cn.nm)).setCell ⟨gr, 1, none⟩ (.int .i64 cn.img)).setCell ⟨gr, 2, none⟩ (.int .i64 cn.conc)).setCell ⟨gr, 3, none⟩ (.int .i64 cn.mn)).setCell ⟨gr, 4, none⟩ (.int .i64 cn.mx)).setCell ⟨gr, 5, none⟩ (.int .i64 cn.grc)) = W7 at k6 c6 ⊢
        have HBx := HBd.out.below hbx
        have HDx := HDd.out.below hbx
        have hBx := stepB BD.out hbx
        have hgw : w.heap.size ≤ gr := Nat.le_trans BD.out.size hgr
        have HB7 := Lib.hid (HBx.typ c6 (fun k e => ⟨_, e ▸ kr⟩) (by decide))
        have HD7 := Lib.hid (HDx.typ c6 (fun k e => ⟨_, e ▸ kr⟩) (by decide))
        have B7 := Lib.hid (c6.below_of hBx hBx.size (fun k hk e => by omega))
        have KR7 := Lib.hid k6
        clear k6 c6 kr HBx HDx hBx d0 d1 d2 d3 d4 d5 f0 f1 f2 f3 f4 f5 HBd HDd BD hbx hgr CCF
        have e1 : W7.cell? ⟨ga, oa + i * 9 + 1, none⟩ = some (.int .i64 sn) := HC.out _ 1 B7.out (by omega)
        go_wp2_with fail
        have hwi := Lib.hid (PB.within12 sn 5 (by omega) (by omega))
        have y0 := Int.emod_nonneg sn (b := 5) (by omega)
        have y1 := Int.emod_lt_of_pos sn (b := 5) (by omega)
        refine (PB.damperlaw13_within.calls sn 5 (sn % 5) _ hwi.out).mono ?_
        rintro e w8 ⟨rfl, hdr_⟩
        have hd_ := hdr_.below
        clear hdr_
        clear hwi
        have HB8 := Lib.hid (HB7.out.below hd_)
        have HD8 := Lib.hid (HD7.out.below hd_)
        have B8 := Lib.hid (stepB B7.out hd_)
        have KR8 := Lib.hid (KR7.out.below hd_ KR7.out.lt)
        clear hd_ HB7 HD7 B7 KR7 e1
        generalize sn % 5 = y at y0 y1 ⊢
        obtain ⟨gg, hgg⟩ : ∃ gg, gg = 1 + y := ⟨_, rfl⟩
        have hg0 : 1 ≤ gg := by omega
        have hg5 : gg ≤ 5 := by omega
        have hg1 : gg ≤ 999999 := by omega
        have HGG := Lib.hid hgg
        clear hgg
        obtain ⟨d0, d1, d2, d3, d4, d5⟩ := PB.cells6 KR8.out
        go_upto_region 9 with fail
        rw [← HGG.out]
        clear HGG y0 y1
        go_wp2_with fail
        with_reducible refine (PB.stamp_callsE HB8.out HL.out cn hv gg hg0 hg1 (fun w' hb => HT.out w' (stepB B8.out hb)) (v := .agg #[.string cn.nm, .int .i64 cn.img, .int .i64 cn.conc, .int .i64 cn.mn, .int .i64 cn.mx, .int .i64 cn.grc]) rfl (nm := cn.nm) rfl).mono ?_
        rintro e w9 ⟨rfl, hB9, hc9⟩
        have HB9 := Lib.hid hB9
        have HD9 := Lib.hid (HD8.out.book HB8.out hc9)
        have B9 := Lib.hid (hc9.below_of B8.out B8.out.size (fun k hk e => by omega))
        have KR9 := Lib.hid (KR8.out.chg hc9 (PB.map_ne HB8.out KR8.out))
        clear hB9 hc9 HB8 HD8 B8 KR8 d0 d1 d2 d3 d4 d5
        obtain ⟨d0, d1, d2, d3, d4, d5⟩ := PB.cells6 KR9.out
        obtain ⟨nb, hnb⟩ : ∃ b, b = (PB.findR L (PB.revN cn.nm gg).data.toList).isNone := ⟨_, rfl⟩
        rw [← hnb]
        have HST := Lib.hid (PB.dstamp_calls HD9.out HL.out cn hv gg hg0 hg1 (cv := .agg #[.string cn.nm, .int .i64 cn.img, .int .i64 cn.conc, .int .i64 cn.mn, .int .i64 cn.mx, .int .i64 cn.grc]) rfl)
        clear hnb
        go_wp2_with fail
        with_reducible refine HST.out.mono ?_
        rintro e w10 ⟨rfl, hD10, hc10⟩
        have HD10 := Lib.hid hD10
        have HB10 := Lib.hid (HB9.out.doc hc10)
        have B10 := Lib.hid (hc10.below_of B9.out B9.out.size (fun k hk e => by have := e.1; omega))
        have KR10 := Lib.hid (KR9.out.chg hc10 (PB.doc_ne KR9.out (by decide)))
        have HL10 := Lib.hid (HL.out.stamp hv hg0 hg1 (by omega))
        have HN10 := Lib.hid (HN.out.stamp HNK.out hg0 hg5)
        have hLl := PB.stampL_len L cn gg
        clear hD10 hc10 HB9 HD9 B9 KR9 d0 d1 d2 d3 d4 d5 HL HN HST
        generalize PB.stampL L cn gg = L' at HB10 HD10 HL10 HN10 hLl
        obtain ⟨b0, hb0⟩ : ∃ b, b = (PB.findR L (PB.revN cn.nm gg).data.toList).isNone := ⟨_, rfl⟩
        rw [← hb0]
        clear hb0
        have e0 : w10.cell? ⟨ga, oa + i * 9, none⟩ = some (.int .i64 sk) := HC.out _ 0 B10.out (by omega)
        go_wp2_with fail
        have hwi := Lib.hid (PB.within12 sk 3 (by omega) (by omega))
        have u0 := Int.emod_nonneg sk (b := 3) (by omega)
        have u1 := Int.emod_lt_of_pos sk (b := 3) (by omega)
        refine (PB.damperlaw13_within.calls sk 3 (sk % 3) _ hwi.out).mono ?_
        rintro e w11 ⟨rfl, hdr_⟩
        have hd_ := hdr_.below
        clear hdr_
        clear hwi
        have HB11 := Lib.hid (HB10.out.below hd_)
        have HD11 := Lib.hid (HD10.out.below hd_)
        have B11 := Lib.hid (stepB B10.out hd_)
        have KR11 := Lib.hid (KR10.out.below hd_ KR10.out.lt)
        clear hd_ HB10 HD10 B10 KR10 e0
        generalize sk % 3 = u at u0 u1 ⊢
        by_cases hu : 0 < u
        · have hud : decide (0 < u) = true := decide_eq_true hu
          clear hu u0 u1
          have hsz := PB.revN_size cn.nm hv.hi gg (by omega) hg1
          obtain ⟨rr, hrr⟩ : ∃ rr : Int, rr = (if (PB.findR L' (PB.revN cn.nm gg).data.toList).isSome then 0 else 6) := ⟨_, rfl⟩
          have PR := Lib.hid (fun w' (hb : PB.BookAt w' p b1 b2 L') => PB.prove_calls hb HL10.out (PB.revN cn.nm gg) (by omega))
          have PD := Lib.hid (fun w' (hd : PB.DBook w' w.heap.size q L') => PB.dprove_calls hd (PB.revN cn.nm gg) HL10.out)
          rw [← hrr] at PR PD
          clear hrr
          have k0 := KR11.out.cell 0
          simp only [List.getElem?_toArray, List.getElem?_cons_zero] at k0
          go_wp2_with fail
          with_reducible refine (PB.rrev_calls cn.nm hv gg hg0 hg1 _).mono ?_
          rintro e w12 ⟨rfl, h12⟩
          have HB12 := Lib.hid (HB11.out.below h12)
          have HD12 := Lib.hid (HD11.out.below h12)
          have B12 := Lib.hid (stepB B11.out h12)
          have KR12 := Lib.hid (KR11.out.below h12 KR11.out.lt)
          clear h12 HB11 HD11 B11 KR11 k0
          go_wp2_with fail
          with_reducible refine (PR.out _ HB12.out).mono ?_
          rintro e w13 ⟨rfl, hB13, hc13⟩
          have HB13 := Lib.hid hB13
          have HD13 := Lib.hid (HD12.out.book HB12.out hc13)
          have B13 := Lib.hid (hc13.below_of B12.out B12.out.size (fun k hk e => by omega))
          have KR13 := Lib.hid (KR12.out.chg hc13 (PB.map_ne HB12.out KR12.out))
          clear hB13 hc13 HB12 HD12 B12 KR12
          have k0 := KR13.out.cell 0
          simp only [List.getElem?_toArray, List.getElem?_cons_zero] at k0
          go_wp2_with fail
          with_reducible refine (PB.rrev_calls cn.nm hv gg hg0 hg1 _).mono ?_
          rintro e w14 ⟨rfl, h14⟩
          have HB14 := Lib.hid (HB13.out.below h14)
          have HD14 := Lib.hid (HD13.out.below h14)
          have B14 := Lib.hid (stepB B13.out h14)
          clear h14 HB13 HD13 B13 KR13 k0
          go_wp2_with fail
          with_reducible refine (PD.out _ HD14.out).mono ?_
          rintro e w15 ⟨rfl, hD15, hc15⟩
          have HD15 := Lib.hid hD15
          have HB15 := Lib.hid (HB14.out.doc hc15)
          have B15 := Lib.hid (hc15.below_of B14.out B14.out.size (fun k hk e => by have := e.1; omega))
          have HL15 := Lib.hid (HL10.out.prove (PB.revN cn.nm gg).data.toList)
          have HN15 := Lib.hid (HN10.out.prove (PB.revN cn.nm gg).data.toList)
          have hLp : (PB.proveL L' (PB.revN cn.nm gg).data.toList).length ≤ L.length + 1 := by rw [PB.proveL_len]; omega
          clear hD15 hc15 HB14 HD14 B14 PR PD HL10 HN10
          generalize PB.proveL L' (PB.revN cn.nm gg).data.toList = L'' at HB15 HD15 HL15 HN15 hLp
          go_wp2_with fail
          go_roundw
          case rel => exact ⟨i + 1, L'', by omega, by omega, by go_num, HB15, HD15, HL15, HN15, by omega, B15⟩
          case measure => simp [PB.vI]; omega
        · have hud : decide (0 < u) = false := decide_eq_false hu
          clear hu u0 u1
          go_wp2_with fail
          go_roundw
          case rel => exact ⟨i + 1, L', by omega, by omega, by go_num, HB11, HD11, HL10, HN10, by omega, B11⟩
          case measure => simp [PB.vI]; omega
      · obtain rfl : i = 40 := by omega
        go_wp2_with fail
        exact bodyPost_ret (v := .tuple #[.pointer (some ⟨p, 0, none⟩), .pointer (some ⟨q, 0, none⟩)]) (by simp [results, Tryz.results5, go_sem]) rfl ⟨p, b1, b2, q, L, rfl, HB.out, HD.out, HL.out, HN.out, BB.out⟩
    · obtain rfl : i = l0.length := by omega
      go_wp2_with fail
      exact bodyPost_ret (v := .tuple #[.pointer (some ⟨p, 0, none⟩), .pointer (some ⟨q, 0, none⟩)]) (by simp [results, Tryz.results5, go_sem]) rfl ⟨p, b1, b2, q, L, rfl, HB.out, HD.out, HL.out, HN.out, BB.out⟩

end Go.Proofs.YtnkmpkhiilnigaaGreatDoor.PR
