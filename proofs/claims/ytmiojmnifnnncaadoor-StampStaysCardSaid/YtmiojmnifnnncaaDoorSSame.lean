/- Two books are the same: damperlaw12's Same. (Printed by genx.py from ssame.src.) -/
import Derived.Test.YtmiojmnifnnncaaDoorSDocM
set_option linter.unusedSimpArgs false
set_option linter.unusedVariables false
namespace Go.Proofs.YtmiojmnifnnncaaDoor.PA
open Go.RowKit Go.Shelf Go.Lib Go.Sort Go.Maps Go.Proofs.YtmiojmnifnnncaaDoorW.PrintWords Go.Proofs.YtmiojmnifnnncaaDoorW.PrintLast

attribute [local go_sem high] eqA42

theorem two_src {w : World} {g : Nat} {x y : ByteArray} (h : Blk w g #[.string x, .string y] 9) : SrcG elS w (some ⟨g, 0, none⟩) [x.data.toList, y.data.toList] := fun _ => by
  refine ⟨_, rfl, fun j u hu => ?_⟩
  rw [add_at, Nat.zero_add, h.cell j, ← hu]
  match j with
  | 0 => rfl
  | 1 => rfl
  | _ + 2 => rfl
abbrev none1 : ByteArray := ⟨#[110, 111, 110, 101, 45, 49]⟩
abbrev nm5 (q : Nat) : ByteArray := match q with | 0 => ⟨#[119, 101, 98]⟩ | 1 => ⟨#[97, 112, 105]⟩ | 2 => ⟨#[97, 45, 98]⟩ | 3 => ⟨#[110, 111, 110, 101]⟩ | _ => ⟨#[]⟩
theorem revV_is (o : Option RevM) : ∃ n g c, revV o = .agg (cellsR n g c) := by
  cases o with
  | some r => exact ⟨r.nm, r.g, r.c, rfl⟩
  | none => exact ⟨⟨#[]⟩, 0, zeroC, rfl⟩
theorem revV_get (o : Option RevM) : (match o with | some r => encR r | none => zeroR) = revV o := rfl
theorem hold_agg (w : World) (n : ByteArray) (x : Int) (c : CfgM) : ∃ g w5, w5 = w.alloc (.cells (cellsR n x c) 42) ∧ g = w.heap.size ∧ Blk w5 g (cellsR n x c) 42 ∧ Below w.heap.size w w5 := 
  ⟨_, _, rfl, rfl, Blk.new _ _ _, (Below.refl _ _).alloc (Nat.le_refl _) _⟩

theorem get_agg {w : World} {p b1 b2 : Nat} {L : List RevM} (h : BookAt w p b1 b2 L) (s : ByteArray) (hs : s.size ≤ 1000) {v : Value} {b : Bool} (hE : revV (findR L s.data.toList) = v) (hb : (findR L s.data.toList).isSome = b) :
    Calls Tryd.prog 19 #[.pointer (some ⟨p, 0, none⟩), .string s] w fun e w' => e = .returned (.tuple #[v, .bool b]) ∧ Below w.heap.size w w' := by
  subst hE
  subst hb
  exact get_calls h s hs
theorem dget_agg {w : World} {B q : Nat} {L : List RevM} (h : DBook w B q L) (s : ByteArray) (hl : L.length ≤ 1000) {v : Value} {b : Bool} (hE : revV (findR L s.data.toList) = v) (hb : (findR L s.data.toList).isSome = b) :
    Calls Tryd.prog 37 #[.pointer (some ⟨q, 0, none⟩), .string s] w fun e w' => e = .returned (.tuple #[v, .bool b]) ∧ Below w.heap.size w w' := by
  subst hE
  subst hb
  exact dget_calls h s hl
theorem BookAt.typ {F : Nat → Prop} {w w' : World} {p b1 b2 : Nat} {M : List RevM} {t : TypeId} (h : BookAt w p b1 b2 M) (hc : Chg F w w') (hF : ∀ k, F k → ∃ cs, Blk w k cs t) (ht : t ≠ 67) : BookAt w' p b1 b2 M := by
  obtain ⟨⟨E, n, e1⟩, ⟨E', n', e2⟩⟩ := h.maps
  refine h.chg hc (fun hk => ?_) (fun hk => ?_) (fun hk => ?_)
  · obtain ⟨cs, hk⟩ := hF _ hk
    exact blk_neT hk h.blk ht rfl
  · obtain ⟨cs, hk⟩ := hF _ hk
    unfold Blk at hk
    rw [e1] at hk; cases hk
  · obtain ⟨cs, hk⟩ := hF _ hk
    unfold Blk at hk
    rw [e2] at hk; cases hk
theorem DBook.typ {F : Nat → Prop} {w w' : World} {B q : Nat} {L : List RevM} {t : TypeId} (h : DBook w B q L) (hc : Chg F w w') (hF : ∀ k, F k → ∃ cs, Blk w k cs t) (ht : t ≠ 57 ∧ t ≠ 42 ∧ t ≠ 4) : DBook w' B q L := by
  refine h.keep hc (fun k cs t' ht' hk hf => ?_)
  obtain ⟨cs', hk'⟩ := hF _ hf
  refine blk_neT hk hk' (fun e => ?_) rfl
  rcases ht' with rfl | rfl | rfl
  · exact ht.1 e.symm
  · exact ht.2.1 e.symm
  · exact ht.2.2 e.symm

set_option maxRecDepth 100000 in
set_option maxHeartbeats 8000000 in
theorem sameB_calls {w : World} {p b1 b2 B q : Nat} {L : List RevM} (hb : BookAt w p b1 b2 L) (hd : DBook w B q L) (hL : OkL L) :
    Calls Tryd.prog 26 #[.pointer (some ⟨p, 0, none⟩), .pointer (some ⟨q, 0, none⟩)] w fun e w' => e = .returned (.bool true) ∧ Below w.heap.size w w' := by
  have HB := Lib.hid hb
  have HD := Lib.hid hd
  have HL := Lib.hid hL
  have hlen := hL.len
  have hsz : ∀ x ∈ (L.map RevM.key).mergeSort leS ++ [none1.data.toList, (⟨#[]⟩ : ByteArray).data.toList], x.length ≤ 1000 := by
    intro x hx
    rcases List.mem_append.1 hx with hx | hx
    · rw [(List.mergeSort_perm _ _).mem_iff, List.mem_map] at hx
      obtain ⟨r, hr, rfl⟩ := hx
      obtain ⟨q1, q2, q3⟩ := hL.each r hr
      have := revN_size r.c.nm q1.hi r.g (by omega) q3
      unfold RevM.key RevM.nm
      rw [Array.length_toList]
      exact Nat.le_trans this (by omega)
    · simp only [List.mem_cons, List.not_mem_nil, or_false] at hx
      rcases hx with rfl | rfl <;> decide
  have hml : ((L.map RevM.key).mergeSort leS).length ≤ 1000 := by rw [List.length_mergeSort, List.length_map]; exact hlen
  have HSZ := Lib.hid hsz
  clear hb hd hL hsz
  generalize hN : (L.map RevM.key).mergeSort leS = N at HSZ hml
  go_enter Tryd.func26, Tryd.ntmps26
  go_wp2_with fail
  with_reducible refine (dall_calls HD.out HL.out).mono ?_
  rintro e w1 ⟨v5, rfl, r5, h1⟩
  rw [hN] at r5
  have R5 := Lib.hid r5
  have HB1 := Lib.hid (HB.out.below h1)
  have HD1 := Lib.hid (HD.out.below h1)
  have B1 := Lib.hid h1
  clear r5 h1 HB HD
  go_wp2_with fail
  with_reducible refine (all_calls HB1.out HL.out).mono ?_
  rintro e w2 ⟨v20, rfl, r20, h2⟩
  rw [hN] at r20
  have R20 := Lib.hid r20
  have R5' := Lib.hid (R5.out.below h2 (Nat.le_refl _))
  have HB2 := Lib.hid (HB1.out.below h2)
  have HD2 := Lib.hid (HD1.out.below h2)
  have B2 := Lib.hid (below_step B1.out h2)
  clear r20 h2 HB1 HD1 B1 R5
  have hml6 : N.length ≤ 1000000 := by omega
  go_wp2_with fail
  with_reducible refine (same_calls _ R20.out R5'.out hml6 rfl).mono ?_
  rintro e w3 ⟨rfl, hdr⟩
  have h3 := hdr.below
  have R53 := Lib.hid (R5'.out.below h3 (Nat.le_refl _))
  have HB3 := Lib.hid (HB2.out.below h3)
  have HD3 := Lib.hid (HD2.out.below h3)
  have B3 := Lib.hid (below_step B2.out h3)
  clear hdr h3 HB2 HD2 B2 R5' R20 hN
  obtain ⟨W4, hW4⟩ : ∃ W4, W4 = w3.alloc (.cells #[] 9) := ⟨_, rfl⟩
  have b4 : Below w3.heap.size w3 W4 := by rw [hW4]; exact (Below.refl _ _).alloc (Nat.le_refl _) _
  have k4 : Blk W4 w3.heap.size #[] 9 := by rw [hW4]; exact Blk.new _ _ _
  obtain ⟨g4, hg4⟩ : ∃ g4, g4 = w3.heap.size := ⟨_, rfl⟩
  rw [← hg4] at k4
  have hg4' : w.heap.size ≤ g4 := by have := B3.out.size; omega
  have R54 := Lib.hid (R53.out.below b4 (Nat.le_refl _))
  have HB4 := Lib.hid (HB3.out.below b4)
  have HD4 := Lib.hid (HD3.out.below b4)
  have B4 := Lib.hid (below_step B3.out b4)
  obtain ⟨A5, c5, rfl, hc5, hs5⟩ := RowG.toS R54.out
  have S5 := Lib.hid hs5
  have O4 := Lib.hid (show RowG elS W4 w.heap.size (.slice (some ⟨g4, 0, none⟩) 0 0) [] from owns_empty hg4' k4)
  have z4 : w.heap.size ≤ W4.heap.size := B4.out.size
  have HW4 := Lib.hid hW4
  have HG4 := Lib.hid hg4
  clear hW4 hg4 b4 k4 hs5 R53
  go_wp2_with (at_builtin; rw [← HW4.out, ← HG4.out]; refine list_appO elS _ rfl (.tmp 24) (.tmp 25) rfl w.heap.size _ [] (by rfl) O4.out A5 N.length c5 N (by rfl) rfl S5.out (by simp) hml6 z4 ?_)
  intro v6 w5 r6 c6 o6
  obtain ⟨A6, n6, rfl, hn6, _⟩ := r6.shape
  have R6 := Lib.hid r6
  have HB5 := Lib.hid (HB4.out.typ c6 (fun k e => (own_at O4.out e).2) (by decide))
  have HD5 := Lib.hid (HD4.out.typ c6 (fun k e => (own_at O4.out e).2) (by decide))
  have B5 := Lib.hid (c6.below_of B4.out z4 (fun k hk e => by have := (own_at O4.out e).1; omega))
  clear r6 c6 o6 HB3 HD3 B3 HB4 HD4 B4 O4 S5 R54 HW4 HG4 z4 hg4' hn6
  obtain ⟨W6, hW6⟩ : ∃ W6, W6 = w5.alloc (.cells #[.string ⟨#[110, 111, 110, 101, 45, 49]⟩, .string ⟨#[]⟩] 9) := ⟨_, rfl⟩
  have b6 : Below w5.heap.size w5 W6 := by rw [hW6]; exact (Below.refl _ _).alloc (Nat.le_refl _) _
  have k6 : Blk W6 w5.heap.size #[.string none1, .string ⟨#[]⟩] 9 := by rw [hW6]; exact Blk.new _ _ _
  obtain ⟨g6, hg6⟩ : ∃ g6, g6 = w5.heap.size := ⟨_, rfl⟩
  rw [← hg6] at k6
  have S6 := Lib.hid (two_src k6)
  have R66 := Lib.hid (R6.out.below b6 (Nat.le_refl _))
  have z6 : w.heap.size ≤ W6.heap.size := (below_step B5.out b6).size
  have HB6 := Lib.hid (HB5.out.below b6)
  have HD6 := Lib.hid (HD5.out.below b6)
  have B6 := Lib.hid (below_step B5.out b6)
  have HW6 := Lib.hid hW6
  have HG6 := Lib.hid hg6
  clear b6 k6 hW6 hg6 R6 HB5 HD5 B5
  go_wp2_with (at_builtin; rw [← HW6.out, ← HG6.out]; refine list_appO elS _ rfl (.tmp 26) (.tmp 27) rfl w.heap.size _ N (by rfl) R66.out (some ⟨g6, 0, none⟩) 2 2 [none1.data.toList, (⟨#[]⟩ : ByteArray).data.toList] (by rfl) rfl S6.out hml6 (by omega) z6 ?_)
  intro v7 w7 r7 c7 o7
  obtain ⟨M, hM⟩ : ∃ M, M = N ++ [none1.data.toList, (⟨#[]⟩ : ByteArray).data.toList] := ⟨_, rfl⟩
  have HSM : Hid (∀ x ∈ M, x.length ≤ 1000) := Lib.hid (by rw [hM]; exact HSZ.out)
  have hMl : M.length ≤ 1002 := by rw [hM, List.length_append]; simp; omega
  have r7' : RowG elS w7 w.heap.size v7 M := by rw [hM]; exact r7
  obtain ⟨A7, n7, rfl, hn7, _⟩ := r7'.shape
  have R7 := Lib.hid r7'
  have HB7 := Lib.hid (HB6.out.typ c7 (fun k e => (own_at R66.out e).2) (by decide))
  have HD7 := Lib.hid (HD6.out.typ c7 (fun k e => (own_at R66.out e).2) (by decide))
  have B7 := Lib.hid (c7.below_of B6.out z6 (fun k hk e => by have := (own_at R66.out e).1; omega))
  clear HB6 HD6 B6 R66 S6 HW6 HG6 z6 r7 r7' c7 o7 hn7 HSZ hM
  go_wp2_with fail
  go_loopw [6] (fun v6 wr => ∃ i : Nat, i ≤ M.length ∧ v6 = .int .i64 i ∧ Hid (Below w7.heap.size w7 wr)) (fun v6 _ => M.length - (vI v6).toNat)
  case atStart => exact ⟨0, by omega, rfl, Lib.hid (Below.refl _ _)⟩
  case round =>
    obtain ⟨i, hi, rfl, BB⟩ := hrel
    by_cases hlt : i < M.length
    · have hlt' : (i : Int) < (M.length : Int) := by omega
      obtain ⟨nm, hnm⟩ : ∃ nm : ByteArray, nm = ⟨M[i].toArray⟩ := ⟨_, rfl⟩
      have hnm' : M[i] = nm.data.toList := by rw [hnm]
      have hnz : nm.size ≤ 1000 := by
        have := HSM.out _ (List.getElem_mem hlt)
        rw [hnm'] at this
        exact this
      obtain ⟨gl, cl, e7, _⟩ := str_cell R7.out hlt hnm'
      obtain rfl : A7 = some ⟨gl, 0, none⟩ := (Value.slice.inj e7).1
      have HCE := Lib.hid (show ∀ w', Below w7.heap.size w7 w' → w'.cell? ⟨gl, i, none⟩ = some (.string nm) from fun w' hb => by
        obtain ⟨g', c', e', hc⟩ := str_cell (R7.out.below hb (Nat.le_refl _)) hlt hnm'
        cases (Value.slice.inj e').1
        exact hc)
      have hce := HCE.out _ BB.out
      obtain ⟨rn, rg, rc, hE⟩ := revV_is (findR L nm.data.toList)
      unfold cellsR at hE
      obtain ⟨is, his⟩ : ∃ b, b = (findR L nm.data.toList).isSome := ⟨_, rfl⟩
      have HE := Lib.hid hE
      have HIS := Lib.hid his.symm
      clear hE his hnm hnm' e7
      go_wp2_with fail
      with_reducible refine (get_agg (HB7.out.below BB.out) nm hnz HE.out HIS.out).mono ?_
      rintro e w8 ⟨rfl, h8⟩
      obtain ⟨W9, hW9⟩ : ∃ W9, W9 = w8.alloc (.cells #[.string rn, .int .i64 rg, .string rc.nm, .int .i64 rc.img, .int .i64 rc.conc, .int .i64 rc.mn, .int .i64 rc.mx, .int .i64 rc.grc] 42) := ⟨_, rfl⟩
      have b9 : Below w8.heap.size w8 W9 := by rw [hW9]; exact (Below.refl _ _).alloc (Nat.le_refl _) _
      have kr : Blk W9 w8.heap.size #[.string rn, .int .i64 rg, .string rc.nm, .int .i64 rc.img, .int .i64 rc.conc, .int .i64 rc.mn, .int .i64 rc.mx, .int .i64 rc.grc] 42 := by rw [hW9]; exact Blk.new _ _ _
      obtain ⟨gr, hgr⟩ : ∃ gr, gr = w8.heap.size := ⟨_, rfl⟩
      rw [← hgr] at kr
      have B9 := Lib.hid (below_step BB.out (below_step h8 b9))
      have KR := Lib.hid kr
      clear kr b9 h8 hce
      go_upto_region 9 with fail
      rw [← hW9, ← hgr]
      clear hW9 hgr
      have hce := HCE.out _ B9.out
      go_wp2_with fail
      with_reducible refine (dget_agg (HD7.out.below B9.out) nm hlen HE.out HIS.out).mono ?_
      rintro e w10 ⟨rfl, h10⟩
      obtain ⟨W11, hW11⟩ : ∃ W11, W11 = w10.alloc (.cells #[.string rn, .int .i64 rg, .string rc.nm, .int .i64 rc.img, .int .i64 rc.conc, .int .i64 rc.mn, .int .i64 rc.mx, .int .i64 rc.grc] 42) := ⟨_, rfl⟩
      have b11 : Below w10.heap.size w10 W11 := by rw [hW11]; exact (Below.refl _ _).alloc (Nat.le_refl _) _
      have kq : Blk W11 w10.heap.size #[.string rn, .int .i64 rg, .string rc.nm, .int .i64 rc.img, .int .i64 rc.conc, .int .i64 rc.mn, .int .i64 rc.mx, .int .i64 rc.grc] 42 := by rw [hW11]; exact Blk.new _ _ _
      obtain ⟨gq, hgq⟩ : ∃ gq, gq = w10.heap.size := ⟨_, rfl⟩
      rw [← hgq] at kq
      have KR11 := Lib.hid (KR.out.below (below_step h10 b11) KR.out.lt)
      have B11 := Lib.hid (below_step B9.out (below_step h10 b11))
      have KQ := Lib.hid kq
      clear kq b11 h10 hce KR B9
      go_upto_region 10 with fail
      rw [← hW11, ← hgq]
      clear hW11 hgq HE HIS
      have dr := (Below.refl W11.heap.size W11).drew
      have Kgrd := Lib.hid (KR11.out.below dr KR11.out.lt)
      have Kgqd := Lib.hid (KQ.out.below dr KQ.out.lt)
      have BD := Lib.hid (below_step B11.out dr)
      clear dr KR11 KQ B11
      obtain ⟨pv, hpv⟩ : ∃ b, b = provedL L nm.data.toList := ⟨_, rfl⟩
      have pc1 := proved_calls (HB7.out.below BD.out) nm hnz
      have pc2 := dproved_calls (HD7.out.below BD.out) nm HL.out
      rw [← hpv] at pc1 pc2
      have PC1 := Lib.hid pc1
      have PC2 := Lib.hid pc2
      clear pc1 pc2 hpv
      go_wp2_with fail
      refine start_ (n := 23) (S := fun w' => w'.cell? ⟨gr, 0, none⟩ = some (.string rn) ∧ w'.cell? ⟨gr, 1, none⟩ = some (.int .i64 rg) ∧ w'.cell? ⟨gr, 2, none⟩ = some (.string rc.nm) ∧ w'.cell? ⟨gr, 3, none⟩ = some (.int .i64 rc.img) ∧ w'.cell? ⟨gr, 4, none⟩ = some (.int .i64 rc.conc) ∧ w'.cell? ⟨gr, 5, none⟩ = some (.int .i64 rc.mn) ∧ w'.cell? ⟨gr, 6, none⟩ = some (.int .i64 rc.mx) ∧ w'.cell? ⟨gr, 7, none⟩ = some (.int .i64 rc.grc) ∧ w'.cell? ⟨gq, 0, none⟩ = some (.string rn) ∧ w'.cell? ⟨gq, 1, none⟩ = some (.int .i64 rg) ∧ w'.cell? ⟨gq, 2, none⟩ = some (.string rc.nm) ∧ w'.cell? ⟨gq, 3, none⟩ = some (.int .i64 rc.img) ∧ w'.cell? ⟨gq, 4, none⟩ = some (.int .i64 rc.conc) ∧ w'.cell? ⟨gq, 5, none⟩ = some (.int .i64 rc.mn) ∧ w'.cell? ⟨gq, 6, none⟩ = some (.int .i64 rc.mx) ∧ w'.cell? ⟨gq, 7, none⟩ = some (.int .i64 rc.grc) ∧ w'.cell? ⟨gl, i, none⟩ = some (.string nm)) (ds := []) #[false, false, false, false, false, false, false, false, false, false, false, false, false, false, false, false, false, false, false, false, false, false, false] (by kernel_rfl) rfl rfl ⟨Kgrd.out.cell 0, Kgrd.out.cell 1, Kgrd.out.cell 2, Kgrd.out.cell 3, Kgrd.out.cell 4, Kgrd.out.cell 5, Kgrd.out.cell 6, Kgrd.out.cell 7, Kgqd.out.cell 0, Kgqd.out.cell 1, Kgqd.out.cell 2, Kgqd.out.cell 3, Kgqd.out.cell 4, Kgqd.out.cell 5, Kgqd.out.cell 6, Kgqd.out.cell 7, HCE.out _ BD.out⟩ (fun hHeld => ?_)
      refine take_ (i := 0) (N := some 53) (v := ?_) (a' := ?_) #[true, false, false, false, false, false, false, false, false, false, false, false, false, false, false, false, false, false, false, false, false, false, false] rfl rfl (by kernel_rfl) (fun _ _ _ h => h) (Or.inl ⟨by rfl, ?_⟩) hHeld ?_ ?_
      rotate_left
      · rintro w' ⟨s0, s1, s2, s3, s4, s5, s6, s7, s8, s9, s10, s11, s12, s13, s14, s15, s16⟩
        go_simp
        with_reducible rfl
      rotate_left
      · simp only [Act.put, List.setIfInBounds_toArray, List.set_cons_zero, List.set_cons_succ]
        rfl
      refine take_ (i := 1) (N := some 54) (v := ?_) (a' := ?_) #[true, true, false, false, false, false, false, false, false, false, false, false, false, false, false, false, false, false, false, false, false, false, false] rfl rfl (by kernel_rfl) (fun _ _ _ h => h) (Or.inl ⟨by rfl, ?_⟩) hHeld ?_ ?_
      rotate_left
      · rintro w' ⟨s0, s1, s2, s3, s4, s5, s6, s7, s8, s9, s10, s11, s12, s13, s14, s15, s16⟩
        go_simp
        with_reducible rfl
      rotate_left
      · simp only [Act.put, List.setIfInBounds_toArray, List.set_cons_zero, List.set_cons_succ]
        rfl
      refine pure_ (i := 2) (N := some 55) (v := ?_) (a' := ?_) #[true, true, true, false, false, false, false, false, false, false, false, false, false, false, false, false, false, false, false, false, false, false, false] rfl rfl (by kernel_rfl) (fun _ _ _ h => h) (Or.inl ⟨by rfl, ?_⟩) ?_ ?_
      rotate_left
      · intro w'
        go_simp
        with_reducible rfl
      rotate_left
      · simp only [Act.put, List.setIfInBounds_toArray, List.set_cons_zero, List.set_cons_succ]
        rfl
      refine pure_ (i := 3) (N := some 56) (v := ?_) (a' := ?_) #[true, true, true, true, false, false, false, false, false, false, false, false, false, false, false, false, false, false, false, false, false, false, false] rfl rfl (by kernel_rfl) (fun _ _ _ h => h) (Or.inl ⟨by rfl, ?_⟩) ?_ ?_
      rotate_left
      · intro w'
        go_simp
        with_reducible rfl
      rotate_left
      · simp only [Act.put, List.setIfInBounds_toArray, List.set_cons_zero, List.set_cons_succ]
        rfl
      refine pure_ (i := 4) (N := some 57) (v := ?_) (a' := ?_) #[true, true, true, true, true, false, false, false, false, false, false, false, false, false, false, false, false, false, false, false, false, false, false] rfl rfl (by kernel_rfl) (fun _ _ _ h => h) (Or.inl ⟨by rfl, ?_⟩) ?_ ?_
      rotate_left
      · intro w'
        go_simp
        with_reducible rfl
      rotate_left
      · simp only [Act.put, List.setIfInBounds_toArray, List.set_cons_zero, List.set_cons_succ]
        rfl
      refine pure_ (i := 5) (N := some 58) (v := ?_) (a' := ?_) #[true, true, true, true, true, true, false, false, false, false, false, false, false, false, false, false, false, false, false, false, false, false, false] rfl rfl (by kernel_rfl) (fun _ _ _ h => h) (Or.inl ⟨by rfl, ?_⟩) ?_ ?_
      rotate_left
      · intro w'
        go_simp
        with_reducible rfl
      rotate_left
      · simp only [Act.put, List.setIfInBounds_toArray, List.set_cons_zero, List.set_cons_succ]
        rfl
      refine pure_ (i := 6) (N := some 59) (v := ?_) (a' := ?_) #[true, true, true, true, true, true, true, false, false, false, false, false, false, false, false, false, false, false, false, false, false, false, false] rfl rfl (by kernel_rfl) (fun _ _ _ h => h) (Or.inl ⟨by rfl, ?_⟩) ?_ ?_
      rotate_left
      · intro w'
        go_simp
        with_reducible rfl
      rotate_left
      · simp only [Act.put, List.setIfInBounds_toArray, List.set_cons_zero, List.set_cons_succ]
        rfl
      refine pure_ (i := 7) (N := some 60) (v := ?_) (a' := ?_) #[true, true, true, true, true, true, true, true, false, false, false, false, false, false, false, false, false, false, false, false, false, false, false] rfl rfl (by kernel_rfl) (fun _ _ _ h => h) (Or.inl ⟨by rfl, ?_⟩) ?_ ?_
      rotate_left
      · intro w'
        go_simp
        with_reducible rfl
      rotate_left
      · simp only [Act.put, List.setIfInBounds_toArray, List.set_cons_zero, List.set_cons_succ]
        rfl
      refine pure_ (i := 8) (N := some 61) (v := ?_) (a' := ?_) #[true, true, true, true, true, true, true, true, true, false, false, false, false, false, false, false, false, false, false, false, false, false, false] rfl rfl (by kernel_rfl) (fun _ _ _ h => h) (Or.inl ⟨by rfl, ?_⟩) ?_ ?_
      rotate_left
      · intro w'
        go_simp
        with_reducible rfl
      rotate_left
      · simp only [Act.put, List.setIfInBounds_toArray, List.set_cons_zero, List.set_cons_succ]
        rfl
      refine pure_ (i := 9) (N := some 62) (v := ?_) (a' := ?_) #[true, true, true, true, true, true, true, true, true, true, false, false, false, false, false, false, false, false, false, false, false, false, false] rfl rfl (by kernel_rfl) (fun _ _ _ h => h) (Or.inl ⟨by rfl, ?_⟩) ?_ ?_
      rotate_left
      · intro w'
        go_simp
        with_reducible rfl
      rotate_left
      · simp only [Act.put, List.setIfInBounds_toArray, List.set_cons_zero, List.set_cons_succ]
        rfl
      refine pure_ (i := 10) (N := some 63) (v := ?_) (a' := ?_) #[true, true, true, true, true, true, true, true, true, true, true, false, false, false, false, false, false, false, false, false, false, false, false] rfl rfl (by kernel_rfl) (fun _ _ _ h => h) (Or.inl ⟨by rfl, ?_⟩) ?_ ?_
      rotate_left
      · intro w'
        go_simp
        with_reducible rfl
      rotate_left
      · simp only [Act.put, List.setIfInBounds_toArray, List.set_cons_zero, List.set_cons_succ]
        rfl
      refine pure_ (i := 11) (N := some 64) (v := ?_) (a' := ?_) #[true, true, true, true, true, true, true, true, true, true, true, true, false, false, false, false, false, false, false, false, false, false, false] rfl rfl (by kernel_rfl) (fun _ _ _ h => h) (Or.inl ⟨by rfl, ?_⟩) ?_ ?_
      rotate_left
      · intro w'
        go_simp
        with_reducible rfl
      rotate_left
      · simp only [Act.put, List.setIfInBounds_toArray, List.set_cons_zero, List.set_cons_succ]
        rfl
      refine pure_ (i := 12) (N := some 65) (v := ?_) (a' := ?_) #[true, true, true, true, true, true, true, true, true, true, true, true, true, false, false, false, false, false, false, false, false, false, false] rfl rfl (by kernel_rfl) (fun _ _ _ h => h) (Or.inl ⟨by rfl, ?_⟩) ?_ ?_
      rotate_left
      · intro w'
        go_simp
        with_reducible rfl
      rotate_left
      · simp only [Act.put, List.setIfInBounds_toArray, List.set_cons_zero, List.set_cons_succ]
        rfl
      refine pure_ (i := 15) (N := some 68) (v := ?_) (a' := ?_) #[true, true, true, true, true, true, true, true, true, true, true, true, true, false, false, true, false, false, false, false, false, false, false] rfl rfl (by kernel_rfl) (fun _ _ _ h => h) (Or.inl ⟨by rfl, ?_⟩) ?_ ?_
      rotate_left
      · intro w'
        go_simp
        with_reducible rfl
      rotate_left
      · simp only [Act.put, List.setIfInBounds_toArray, List.set_cons_zero, List.set_cons_succ]
        rfl
      refine pure_ (i := 16) (N := some 69) (v := ?_) (a' := ?_) #[true, true, true, true, true, true, true, true, true, true, true, true, true, false, false, true, true, false, false, false, false, false, false] rfl rfl (by kernel_rfl) (fun _ _ _ h => h) (Or.inl ⟨by rfl, ?_⟩) ?_ ?_
      rotate_left
      · intro w'
        go_simp
        with_reducible rfl
      rotate_left
      · simp only [Act.put, List.setIfInBounds_toArray, List.set_cons_zero, List.set_cons_succ]
        rfl
      refine pure_ (i := 17) (N := some 70) (v := ?_) (a' := ?_) #[true, true, true, true, true, true, true, true, true, true, true, true, true, false, false, true, true, true, false, false, false, false, false] rfl rfl (by kernel_rfl) (fun _ _ _ h => h) (Or.inl ⟨by rfl, ?_⟩) ?_ ?_
      rotate_left
      · intro w'
        go_simp
        with_reducible rfl
      rotate_left
      · simp only [Act.put, List.setIfInBounds_toArray, List.set_cons_zero, List.set_cons_succ]
        rfl
      refine pure_ (i := 18) (N := some 71) (v := ?_) (a' := ?_) #[true, true, true, true, true, true, true, true, true, true, true, true, true, false, false, true, true, true, true, false, false, false, false] rfl rfl (by kernel_rfl) (fun _ _ _ h => h) (Or.inl ⟨by rfl, ?_⟩) ?_ ?_
      rotate_left
      · intro w'
        go_simp
        with_reducible rfl
      rotate_left
      · simp only [Act.put, List.setIfInBounds_toArray, List.set_cons_zero, List.set_cons_succ]
        rfl
      refine take_ (i := 13) (N := some 66) (v := ?_) (a' := ?_) #[true, true, true, true, true, true, true, true, true, true, true, true, true, true, false, true, true, true, true, false, false, false, false] rfl rfl (by kernel_rfl) (fun _ _ _ h => h) (Or.inl ⟨by rfl, ?_⟩) hHeld ?_ ?_
      rotate_left
      · rintro w' ⟨s0, s1, s2, s3, s4, s5, s6, s7, s8, s9, s10, s11, s12, s13, s14, s15, s16⟩
        go_simp
        with_reducible rfl
      rotate_left
      · simp only [Act.put, List.setIfInBounds_toArray, List.set_cons_zero, List.set_cons_succ]
        rfl
      refine take_ (i := 19) (N := some 72) (v := ?_) (a' := ?_) #[true, true, true, true, true, true, true, true, true, true, true, true, true, true, false, true, true, true, true, true, false, false, false] rfl rfl (by kernel_rfl) (fun _ _ _ h => h) (Or.inl ⟨by rfl, ?_⟩) hHeld ?_ ?_
      rotate_left
      · rintro w' ⟨s0, s1, s2, s3, s4, s5, s6, s7, s8, s9, s10, s11, s12, s13, s14, s15, s16⟩
        go_simp
        with_reducible rfl
      rotate_left
      · simp only [Act.put, List.setIfInBounds_toArray, List.set_cons_zero, List.set_cons_succ]
        rfl
      refine one_ (i := 14) (N := some 67) #[true, true, true, true, true, true, true, true, true, true, true, true, true, true, true, true, true, true, true, true, false, false, false] rfl rfl (by kernel_rfl) (by decide) (fun K hK => ?_)
      refine goes_ Tryd.func20 (by kernel_rfl) rfl #[.pointer (some ⟨p, 0, none⟩), .string nm] (by rfl) rfl rfl (by simp only [List.map_toArray, List.map_cons, List.map_nil]; rfl) ?_
      with_reducible refine (PC1.out).mono ?_
      rintro e u1 ⟨rfl, rfl⟩
      refine ⟨_, rfl, ?_⟩
      refine hK.out _ _ ⟨Kgrd.out.cell 0, Kgrd.out.cell 1, Kgrd.out.cell 2, Kgrd.out.cell 3, Kgrd.out.cell 4, Kgrd.out.cell 5, Kgrd.out.cell 6, Kgrd.out.cell 7, Kgqd.out.cell 0, Kgqd.out.cell 1, Kgqd.out.cell 2, Kgqd.out.cell 3, Kgqd.out.cell 4, Kgqd.out.cell 5, Kgqd.out.cell 6, Kgqd.out.cell 7, HCE.out _ BD.out⟩ (fun hHeld => ?_)
      clear hK K
      refine norm_ (a' := ?_) ?_ ?_
      rotate_left
      · show Act.put _ (some 67) _ = _
        simp only [Act.put, List.setIfInBounds_toArray, List.set_cons_zero, List.set_cons_succ]
        rfl
      refine one_ (i := 20) (N := some 73) #[true, true, true, true, true, true, true, true, true, true, true, true, true, true, true, true, true, true, true, true, true, false, false] rfl rfl (by kernel_rfl) (by decide) (fun K hK => ?_)
      refine goes_ Tryd.func38 (by kernel_rfl) rfl #[.pointer (some ⟨q, 0, none⟩), .string nm] (by rfl) rfl rfl (by simp only [List.map_toArray, List.map_cons, List.map_nil]; rfl) ?_
      with_reducible refine (PC2.out).mono ?_
      rintro e u2 ⟨rfl, rfl⟩
      refine ⟨_, rfl, ?_⟩
      refine hK.out _ _ ⟨Kgrd.out.cell 0, Kgrd.out.cell 1, Kgrd.out.cell 2, Kgrd.out.cell 3, Kgrd.out.cell 4, Kgrd.out.cell 5, Kgrd.out.cell 6, Kgrd.out.cell 7, Kgqd.out.cell 0, Kgqd.out.cell 1, Kgqd.out.cell 2, Kgqd.out.cell 3, Kgqd.out.cell 4, Kgqd.out.cell 5, Kgqd.out.cell 6, Kgqd.out.cell 7, HCE.out _ BD.out⟩ (fun hHeld => ?_)
      clear hK K
      refine norm_ (a' := ?_) ?_ ?_
      rotate_left
      · show Act.put _ (some 73) _ = _
        simp only [Act.put, List.setIfInBounds_toArray, List.set_cons_zero, List.set_cons_succ]
        rfl
      refine pure_ (i := 21) (N := some 74) (v := ?_) (a' := ?_) #[true, true, true, true, true, true, true, true, true, true, true, true, true, true, true, true, true, true, true, true, true, true, false] rfl rfl (by kernel_rfl) (fun _ _ _ h => h) (Or.inl ⟨by rfl, ?_⟩) ?_ ?_
      rotate_left
      · intro w'
        go_simp
        with_reducible rfl
      rotate_left
      · simp only [Act.put, List.setIfInBounds_toArray, List.set_cons_zero, List.set_cons_succ]
        rfl
      refine pure_ (i := 22) (N := some 75) (v := ?_) (a' := ?_) #[true, true, true, true, true, true, true, true, true, true, true, true, true, true, true, true, true, true, true, true, true, true, true] rfl rfl (by kernel_rfl) (fun _ _ _ h => h) (Or.inl ⟨by rfl, ?_⟩) ?_ ?_
      rotate_left
      · intro w'
        go_simp
        with_reducible rfl
      rotate_left
      · simp only [Act.put, List.setIfInBounds_toArray, List.set_cons_zero, List.set_cons_succ]
        rfl
      refine done_ (by kernel_rfl) ?_
      go_wp2_with fail
      go_roundw
      case rel => exact ⟨i + 1, by omega, by go_num, BD⟩
      case measure => simp [vI]; omega
    · obtain rfl : i = M.length := by omega
      obtain ⟨W12, hW12⟩ : ∃ W12, W12 = wr.alloc (.cells #[.string ⟨#[119, 101, 98]⟩, .string ⟨#[97, 112, 105]⟩, .string ⟨#[97, 45, 98]⟩, .string ⟨#[110, 111, 110, 101]⟩, .string ⟨#[]⟩] 9) := ⟨_, rfl⟩
      have b12 : Below wr.heap.size wr W12 := by rw [hW12]; exact (Below.refl _ _).alloc (Nat.le_refl _) _
      have k12 : Blk W12 wr.heap.size #[.string ⟨#[119, 101, 98]⟩, .string ⟨#[97, 112, 105]⟩, .string ⟨#[97, 45, 98]⟩, .string ⟨#[110, 111, 110, 101]⟩, .string ⟨#[]⟩] 9 := by rw [hW12]; exact Blk.new _ _ _
      obtain ⟨gx, hgx⟩ : ∃ gx, gx = wr.heap.size := ⟨_, rfl⟩
      rw [← hgx] at k12
      have BB12 := below_step BB.out b12
      have HBx := Lib.hid (HB7.out.below BB12)
      have HDx := Lib.hid (HD7.out.below BB12)
      have Bx := Lib.hid (below_step B7.out BB12)
      have HCX := Lib.hid (show ∀ (j : Nat) (w' : World), j < 5 → Below W12.heap.size W12 w' → w'.cell? ⟨gx, j, none⟩ = some (.string (nm5 j)) from fun j w' hj hb => by
        have k := k12.below hb k12.lt
        match j, hj with
        | 0, _ => exact k.cell 0
        | 1, _ => exact k.cell 1
        | 2, _ => exact k.cell 2
        | 3, _ => exact k.cell 3
        | 4, _ => exact k.cell 4
        | _ + 5, h => omega)
      clear b12 k12 BB12 BB HB7 HD7 B7
      go_wp2_with fail
      rw [← hW12, ← hgx]
      clear hW12 hgx
      go_loopw [12] (fun v12 w2' => ∃ j : Nat, j ≤ 5 ∧ v12 = .int .i64 j ∧ Hid (Below W12.heap.size W12 w2')) (fun v12 _ => 5 - (vI v12).toNat)
      case atStart => exact ⟨0, by omega, rfl, Lib.hid (Below.refl _ _)⟩
      case round =>
        obtain ⟨j, hj, rfl, BZ⟩ := hrel
        by_cases hjl : j < 5
        · have hjl' : (j : Int) < 5 := by omega
          have hcx := HCX.out j _ hjl BZ.out
          obtain ⟨nx, hnx⟩ : ∃ nx, nx = nm5 j := ⟨_, rfl⟩
          rw [← hnx] at hcx
          have HCY := Lib.hid (show ∀ w', Below W12.heap.size W12 w' → w'.cell? ⟨gx, j, none⟩ = some (.string nx) from fun w' hb => by rw [hnx]; exact HCX.out j w' hjl hb)
          clear hnx
          obtain ⟨y1, hy1⟩ : ∃ y, y = latestN L nx (fun _ => true) := ⟨_, rfl⟩
          obtain ⟨y2, hy2⟩ : ∃ y, y = latestN L nx (provedL L) := ⟨_, rfl⟩
          have c1 := both_calls (HBx.out.below BZ.out) HL.out nx
          rw [← hy1, ← hy2] at c1
          have C1 := Lib.hid c1
          have HY1 := Lib.hid hy1
          have HY2 := Lib.hid hy2
          clear c1 hy1 hy2
          go_wp2_with fail
          with_reducible refine C1.out.mono ?_
          rintro e w13 ⟨rfl, h13⟩
          have B13 := Lib.hid (below_step BZ.out h13)
          have hcx := HCY.out _ B13.out
          have c2 := dlatest_calls (HDx.out.below B13.out) HL.out nx
          rw [← HY1.out, ← HY2.out] at c2
          have C2 := Lib.hid c2
          clear c2 C1 h13 BZ
          go_wp2_with fail
          with_reducible refine C2.out.mono ?_
          rintro e w14 ⟨rfl, h14⟩
          have B14 := Lib.hid (below_step B13.out h14)
          clear h14 B13 C2 hcx
          go_wp2_with fail
          go_roundw
          case rel => exact ⟨j + 1, by omega, by go_num, B14⟩
          case measure => simp [vI]; omega
        · obtain rfl : j = 5 := by omega
          go_wp2_with fail
          go_ret
          exact ⟨rfl, below_step Bx.out BZ.out⟩

end Go.Proofs.YtmiojmnifnnncaaDoor.PA
