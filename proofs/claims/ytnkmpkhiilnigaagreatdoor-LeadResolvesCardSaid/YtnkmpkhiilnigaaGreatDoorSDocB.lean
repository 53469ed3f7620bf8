/- The document's Book. (Printed by genx.py from sdoc.src.) -/
import Derived.Test.YtnkmpkhiilnigaaGreatDoorSPutB
set_option linter.unusedSimpArgs false
set_option linter.unusedVariables false
namespace Go.Proofs.YtnkmpkhiilnigaaGreatDoor.PB
open Go.RowKit Go.Shelf Go.Lib Go.Sort Go.Maps Go.Proofs.YtnkmpkhiilnigaaGreatDoorW.PrintWords Go.Proofs.YtnkmpkhiilnigaaGreatDoorW.PrintLast

/-- append, in a plain region: only the row's own block may change. -/
theorem list_appO {P : Program} {α : Type} (E : El P α) {ops : Array Oper} {rest : List Oper} {o : Oper} {a : Act} {Q : Exit → Act → World → Prop} (w : World) (hgd : o.guard = none) (s x : Operand) (ho : o.op = .call { callee := .builtin .append, args := #[s, x], argTypes := #[E.t, E.t] })
    (B : Nat) (v : Value) (xs : List α) (hs : a.eval s = v) (hown : RowG E w B v xs)
    (A : Option Addr) (m c : Nat) (ys : List α) (hx : a.eval x = .slice A m c) (hm : ys.length = m) (hsrc : SrcG E w A ys) (hn : xs.length ≤ 1000000) (hm6 : m ≤ 1000000) (hB : B ≤ w.heap.size)
    (h : ∀ v' w', RowG E w' B v' (xs ++ ys) → Chg (fun k => v.ownBlock = some k) w w' → (v'.ownBlock = v.ownBlock ∨ v'.ownBlock = some w.heap.size) → wpList P ops Q rest (a.put o.dst v') w') : wpList P ops Q (o :: rest) a w := by
  subst hm
  have hown' : w.ownsRow B E.e E.size v xs.length (xs.flatMap E.enc) := hown
  obtain ⟨i0, hi, hz, hsize, hby⟩ := info_parts E.hinfo
  refine wpList_append_any (P := P) w hgd s x E.t ho B E.e i0 E.z E.size E.bytes E.ht hi hz hsize hby E.hzs E.hsz v xs.length (xs.flatMap E.enc) hs hown' A ys.length c (ys.flatMap E.enc) hx (El.len E ys) hsrc
    (fun u hu => by obtain ⟨y, _, hy⟩ := List.mem_flatMap.1 hu; exact E.h1 y u hy) (by unfold maxLen; omega) (by have := Nat.mul_le_mul (show xs.length + ys.length ≤ 2000000 by omega) E.hb; omega) hB ?_
  intro v' w' h1 h2 h3 h4
  exact h v' w' (by unfold RowG; rw [List.length_append, List.flatMap_append]; exact h1) (Chg.of_grownBy h2 (fun k e => e)) h4

/-- Revisions in a row. -/
def elR : El Tryz.prog RevM := ⟨53, 88, fun r => (cellsR r.nm r.g r.c).toList, 8, 80, zeroR, Tryz.underlying53, by kernel_rfl, rfl, by omega, by omega, fun _ => rfl, fun x u hu => by
  simp only [cellsR, List.mem_cons, List.not_mem_nil, or_false] at hu
  rcases hu with rfl | rfl | rfl | rfl | rfl | rfl | rfl | rfl <;> rfl⟩
/-- Bools in a row. -/
def elB : El Tryz.prog Bool := ⟨54, 4, fun b => [.bool b], 1, 1, .bool false, Tryz.underlying54, by kernel_rfl, rfl, by omega, by omega, fun _ => rfl, fun x u hu => by rw [List.mem_singleton.1 hu]; rfl⟩

/-- The document's Book in memory, at B or behind it. -/
structure DBook (w : World) (B q : Nat) (L : List RevM) : Prop where
  row : ∃ A c A' c', Blk w q #[.slice A L.length c, .slice A' L.length c'] 56 ∧ RowG elR w B (.slice A L.length c) L ∧ RowG elB w B (.slice A' L.length c') (L.map RevM.ok)
  lo : B ≤ q
theorem DBook.lt {w : World} {B q : Nat} {L : List RevM} (h : DBook w B q L) : q < w.heap.size := by
  obtain ⟨⟨A, c, A', c', h1, h2, h3⟩, hl⟩ := h
  exact h1.lt
theorem DBook.below {w w' : World} {B q : Nat} {L : List RevM} (h : DBook w B q L) (hc : Below w.heap.size w w') : DBook w' B q L := by
  obtain ⟨⟨A, c, A', c', h1, h2, h3⟩, hl⟩ := h
  exact ⟨⟨A, c, A', c', h1.below hc h1.lt, h2.below hc (Nat.le_refl _), h3.below hc (Nat.le_refl _)⟩, hl⟩
/-- Blocks that are cells are no maps. -/
def IsMap (w : World) (k : Nat) : Prop := ∃ E n, w.heap[k]? = some (.map E n)
theorem RowG.keep {α : Type} {E : El Tryz.prog α} {w w' : World} {F : Nat → Prop} {B : Nat} {v : Value} {xs : List α} (h : RowG E w B v xs) (hc : Chg F w w') (hF : ∀ k cs, Blk w k cs E.e → ¬ F k) : RowG E w' B v xs := by
  obtain ⟨q1, q2⟩ := h
  refine ⟨q1, ?_⟩
  rcases q2 with q2 | ⟨g, cap, cur, hv, hg, hh, r⟩
  · exact .inl q2
  · exact .inr ⟨g, cap, cur, hv, hg, (hc.block g (Array.getElem?_eq_some_iff.1 hh).1 (hF g cur hh)).trans hh, r⟩
theorem DBook.keep {w w' : World} {F : Nat → Prop} {B q : Nat} {L : List RevM} (h : DBook w B q L) (hc : Chg F w w') (hF : ∀ k cs t, t = 56 ∨ t = 88 ∨ t = 4 → Blk w k cs t → ¬ F k) : DBook w' B q L := by
  obtain ⟨⟨A, c, A', c', h1, h2, h3⟩, hl⟩ := h
  exact ⟨⟨A, c, A', c', h1.chg hc (hF _ _ _ (.inl rfl) h1), RowG.keep h2 hc (fun k cs hk => hF k cs _ (.inr (.inl rfl)) hk), RowG.keep h3 hc (fun k cs hk => hF k cs _ (.inr (.inr rfl)) hk)⟩, hl⟩
theorem BookAt.maps {w : World} {p b1 b2 : Nat} {L : List RevM} (h : BookAt w p b1 b2 L) : IsMap w b1 ∧ IsMap w b2 := by
  obtain ⟨k, n, ⟨S, f, ⟨D, ⟨E, m, hh, _⟩, _⟩, _⟩, ⟨S', f', ⟨D', ⟨E', m', hh', _⟩, _⟩, _⟩⟩ := h
  exact ⟨⟨E, m, hh⟩, ⟨E', m', hh'⟩⟩
/-- The program's changes are none of the document's. -/
theorem DBook.book {w w' : World} {p b1 b2 : Nat} {M : List RevM} {B q : Nat} {L : List RevM} (h : DBook w B q L) (hB : BookAt w p b1 b2 M) (hc : Chg (fun k => k = b1 ∨ k = b2) w w') : DBook w' B q L := by
  obtain ⟨⟨E, n, e1⟩, ⟨E', n', e2⟩⟩ := hB.maps
  refine h.keep hc (fun k cs t _ hk e => ?_)
  unfold Blk at hk
  rcases e with rfl | rfl
  · rw [e1] at hk; cases hk
  · rw [e2] at hk; cases hk
/-- What of the heap the document's Book may change. -/
def DocF (w : World) (B k : Nat) : Prop := B ≤ k ∧ ∃ cs t, Blk w k cs t ∧ (t = 56 ∨ t = 88 ∨ t = 4)
theorem BookAt.doc {w w' : World} {p b1 b2 : Nat} {M : List RevM} {B : Nat} (h : BookAt w p b1 b2 M) (hc : Chg (DocF w B) w w') : BookAt w' p b1 b2 M := by
  obtain ⟨⟨E, n, e1⟩, ⟨E', n', e2⟩⟩ := h.maps
  refine h.chg hc ?_ ?_ ?_
  · rintro ⟨_, cs, t, hk, ht⟩
    have hp := h.blk
    unfold Blk at hk hp
    rw [hp] at hk
    simp only [Option.some.injEq, Obj.cells.injEq] at hk
    rw [← hk.2.1] at ht
    exact absurd ht (by decide)
  · rintro ⟨_, cs, t, hk, ht⟩
    unfold Blk at hk
    rw [e1] at hk; cases hk
  · rintro ⟨_, cs, t, hk, ht⟩
    unfold Blk at hk
    rw [e2] at hk; cases hk

/-- Where a name is. -/
theorem key_beq (r : RevM) (s : ByteArray) : (r.key == s.data.toList) = (r.nm.toList == s.toList) := by
  rw [ByteArray.toList_eq, ByteArray.toList_eq]
  rfl
def AtIs (L : List RevM) (s : ByteArray) (k : Int) : Prop := (findR L s.data.toList = none ∧ k = -1) ∨ ∃ (i : Nat) (h : i < L.length), k = (i : Int) ∧ findR L s.data.toList = some L[i]
/-- A revision's cells in its row. -/
theorem rev_at {w : World} {B c : Nat} {A : Option Addr} {L : List RevM} (h : RowG elR w B (.slice A L.length c) L) {i : Nat} (hi : i < L.length) : ∃ g, A = some ⟨g, 0, none⟩ ∧ B ≤ g ∧ (w.cell? ⟨g, i * 8, none⟩ = some (.string L[i].nm) ∧ w.cell? ⟨g, i * 8 + 1, none⟩ = some (.int .i64 L[i].g) ∧ w.cell? ⟨g, i * 8 + 2, none⟩ = some (.string L[i].c.nm) ∧ w.cell? ⟨g, i * 8 + 3, none⟩ = some (.int .i64 L[i].c.img) ∧ w.cell? ⟨g, i * 8 + 4, none⟩ = some (.int .i64 L[i].c.conc) ∧ w.cell? ⟨g, i * 8 + 5, none⟩ = some (.int .i64 L[i].c.mn) ∧ w.cell? ⟨g, i * 8 + 6, none⟩ = some (.int .i64 L[i].c.mx) ∧ w.cell? ⟨g, i * 8 + 7, none⟩ = some (.int .i64 L[i].c.grc)) := by
  obtain ⟨ga, ca, he, _, _, hg, _, hcs⟩ := RowG.cells h (by omega)
  refine ⟨ga, (Value.slice.inj he).1, hg, ?_⟩
  have hk := hcs i hi
  exact ⟨hk 0 (by decide), hk 1 (by decide), hk 2 (by decide), hk 3 (by decide), hk 4 (by decide), hk 5 (by decide), hk 6 (by decide), hk 7 (by decide)⟩
theorem bool_at {w : World} {B c : Nat} {A : Option Addr} {L : List RevM} (h : RowG elB w B (.slice A L.length c) (L.map RevM.ok)) {i : Nat} (hi : i < L.length) : ∃ g, A = some ⟨g, 0, none⟩ ∧ B ≤ g ∧ w.cell? ⟨g, i, none⟩ = some (.bool L[i].ok) := by
  obtain ⟨ga, ca, he, _, _, hg, _, hcs⟩ := RowG.cells h (by rw [List.length_map]; omega)
  refine ⟨ga, (Value.slice.inj he).1, hg, ?_⟩
  have hk := hcs i (by rw [List.length_map]; omega) 0 (by decide)
  have e1 : (elB.size : Nat) = 1 := rfl
  rw [e1, Nat.mul_one, Nat.add_zero, List.getElem_map] at hk
  exact hk

set_option maxHeartbeats 2000000 in
theorem dat_calls {w : World} {B q : Nat} {L : List RevM} (h : DBook w B q L) (s : ByteArray) (hl : L.length ≤ 1000) :
    Calls Tryz.prog 38 #[.pointer (some ⟨q, 0, none⟩), .string s] w fun e w' => ∃ k : Int, e = .returned (.int .i64 k) ∧ AtIs L s k ∧ w' = w := by
  obtain ⟨⟨A, c, A', c', h1, h2, _⟩, _⟩ := h
  have c0 := h1.cell 0
  simp only [List.getElem?_toArray, List.getElem?_cons_zero] at c0
  have H2 := Lib.hid h2
  clear h1 h2
  go_enter Tryz.func38, Tryz.ntmps38
  go_wp2_with fail
  go_loopw [5] (fun v wr => ∃ i : Nat, i ≤ L.length ∧ v = .int .i64 i ∧ Hid (∀ j (hj : j < L.length), j < i → (L[j].nm.toList == s.toList) = false) ∧ wr = w) (fun v _ => L.length - (vI v).toNat)
  case atStart => exact ⟨0, by omega, rfl, Lib.hid (fun j _ h => by omega), rfl⟩
  case round =>
    obtain ⟨i, hi, rfl, hno, rfl⟩ := hrel
    by_cases hlt : i < L.length
    · have hlt' : (i : Int) < (L.length : Int) := by omega
      obtain ⟨ga, hA, _, hn, _⟩ := rev_at H2.out hlt
      subst hA
      obtain ⟨x, hx⟩ : ∃ x, x = L[i] := ⟨_, rfl⟩
      have HXX := Lib.hid hx
      rw [← hx] at hn
      clear hx
      by_cases heq : x.nm.toList = s.toList
      · have heq' : (x.nm.toList == s.toList) = true := by simpa using heq
        go_wp2_with fail
        go_ret
        refine ⟨_, rfl, .inr ⟨i, hlt, rfl, ?_⟩, rfl⟩
        unfold findR
        rw [List.find?_eq_some_iff_getElem]
        exact ⟨by rw [key_beq, ← HXX.out]; exact heq', i, hlt, rfl, fun j hj => by rw [key_beq, hno.out j (by omega) hj]; rfl⟩
      · have heq' : (x.nm.toList == s.toList) = false := by simpa using heq
        go_wp2_with fail
        go_roundw
        case rel => exact ⟨i + 1, by omega, by go_num, Lib.hid (fun j hj hji => by
          by_cases e : j = i
          · subst e; rw [← HXX.out]; exact heq'
          · exact hno.out j hj (by omega)), trivial⟩
        case measure => simp [vI]; omega
    · obtain rfl : i = L.length := by omega
      go_wp2_with fail
      go_ret
      refine ⟨_, rfl, .inl ⟨?_, rfl⟩, rfl⟩
      unfold findR
      rw [List.find?_eq_none]
      intro x hx
      obtain ⟨j, hj, rfl⟩ := List.mem_iff_getElem.1 hx
      rw [key_beq, hno.out j hj hj]
      simp

theorem proved_none {L : List RevM} {x : List UInt8} (h : findR L x = none) : provedL L x = false := by
  unfold provedL
  rw [List.any_eq_false]
  intro r hr
  have := findR_none h r hr
  simp [this]
theorem proved_some {L : List RevM} (hL : OkL L) {x : List UInt8} {r : RevM} (h : findR L x = some r) : provedL L x = r.ok := by
  obtain ⟨h1, h2⟩ := findR_some h
  rw [← h2]
  exact provedL_mem hL h1

set_option maxHeartbeats 2000000 in
theorem dproved_calls {w : World} {B q : Nat} {L : List RevM} (h : DBook w B q L) (s : ByteArray) (hL : OkL L) :
    Calls Tryz.prog 29 #[.pointer (some ⟨q, 0, none⟩), .string s] w fun e w' => e = .returned (.bool (provedL L s.data.toList)) ∧ w' = w := by
  have hat := Lib.hid (dat_calls h s hL.len)
  obtain ⟨⟨A, c, A', c', h1, _, h3⟩, _⟩ := h
  have c1 := h1.cell 1
  simp only [List.getElem?_toArray, List.getElem?_cons_zero, List.getElem?_cons_succ] at c1
  have H3 := Lib.hid h3
  clear h1 h3
  go_enter Tryz.func29, Tryz.ntmps29
  go_wp2_with fail
  with_reducible refine hat.out.mono ?_
  rintro e w1 ⟨k, rfl, hk, rfl⟩
  rcases hk with ⟨hf, rfl⟩ | ⟨i, hi, rfl, hf⟩
  · go_wp2_with fail
    go_ret
    exact ⟨by rw [proved_none hf]; rfl, rfl⟩
  · have hpv := Lib.hid (proved_some hL hf)
    obtain ⟨g, rfl, _, hb⟩ := bool_at H3.out hi
    have hi' : (i : Int) < (L.length : Int) := by omega
    have hge : decide ((0 : Int) ≤ (i : Int)) = true := decide_eq_true (by omega)
    generalize L[i].ok = b at hb hpv
    go_wp2_with fail
    go_ret
    exact ⟨by rw [hpv.out]; rfl, rfl⟩

/-- What Get answers. -/
def revV (o : Option RevM) : Value := match o with | some r => encR r | none => zeroR

set_option maxRecDepth 100000 in
set_option maxHeartbeats 2000000 in
theorem dget_calls {w : World} {B q : Nat} {L : List RevM} (h : DBook w B q L) (s : ByteArray) (hl : L.length ≤ 1000) :
    Calls Tryz.prog 28 #[.pointer (some ⟨q, 0, none⟩), .string s] w fun e w' => e = .returned (.tuple #[revV (findR L s.data.toList), .bool (findR L s.data.toList).isSome]) ∧ Below w.heap.size w w' := by
  have hlt := h.lt
  obtain ⟨W1, hW1⟩ : ∃ W1, W1 = w.alloc (.cells #[.string ⟨#[]⟩, .int .i64 0, .string ⟨#[]⟩, .int .i64 0, .int .i64 0, .int .i64 0, .int .i64 0, .int .i64 0] 88) := ⟨_, rfl⟩
  have bW1 : Below w.heap.size w W1 := by rw [hW1]; exact (Below.refl _ _).alloc (Nat.le_refl _) _
  have hB := h.below bW1
  have hat := Lib.hid (dat_calls hB s hl)
  obtain ⟨⟨A, c, A', c', h1, h2, _⟩, _⟩ := hB
  have c0 := h1.cell 0
  simp only [List.getElem?_toArray, List.getElem?_cons_zero] at c0
  have HW1 := Lib.hid hW1
  have BW1 := Lib.hid bW1
  have H2 := Lib.hid h2
  have k1 : Blk W1 w.heap.size #[.string ⟨#[]⟩, .int .i64 0, .string ⟨#[]⟩, .int .i64 0, .int .i64 0, .int .i64 0, .int .i64 0, .int .i64 0] 88 := by rw [hW1]; exact Blk.new _ _ _
  have K1 := Lib.hid k1
  clear hW1 bW1 h k1 h1 h2
  go_enter Tryz.func28, Tryz.ntmps28
  go_upto_region 1 with fail
  rw [← HW1.out]
  clear HW1
  go_wp2_with fail
  with_reducible refine hat.out.mono ?_
  rintro e w1 ⟨k, rfl, hk, rfl⟩
  obtain ⟨e0, e1, e2, e3, e4, e5, e6, e7⟩ := Blk.cells8 K1.out
  obtain ⟨f0, f1, f2, f3, f4, f5, f6, f7⟩ := Blk.frozen8 K1.out
  rcases hk with ⟨hf, rfl⟩ | ⟨i, hi, rfl, hf⟩
  · go_wp2_with fail
    have k9 := Blk.set8 K1.out (.string ⟨#[]⟩) (.int .i64 0) (.string ⟨#[]⟩) (.int .i64 0) (.int .i64 0) (.int .i64 0) (.int .i64 0) (.int .i64 0)
    have c9 := Chg.set8 w1 w.heap.size (.string ⟨#[]⟩) (.int .i64 0) (.string ⟨#[]⟩) (.int .i64 0) (.int .i64 0) (.int .i64 0) (.int .i64 0) (.int .i64 0)
    obtain ⟨g0, g1, g2, g3, g4, g5, g6, g7⟩ := Blk.cells8 k9
    exact bodyPost_ret (v := .tuple #[.agg #[.string ⟨#[]⟩, .int .i64 0, .string ⟨#[]⟩, .int .i64 0, .int .i64 0, .int .i64 0, .int .i64 0, .int .i64 0], .bool false]) (by simp [results, Tryz.results28, go_sem, g0, g1, g2, g3, g4, g5, g6, g7]) rfl ⟨by rw [hf]; rfl, c9.below_of BW1.out BW1.out.size (fun k hk e => by omega)⟩
  · have HF := Lib.hid hf
    clear hf
    obtain ⟨ga, rfl, _, d0, d1, d2, d3, d4, d5, d6, d7⟩ := rev_at H2.out hi
    have hi' : (i : Int) < (L.length : Int) := by omega
    have hge : decide ((i : Int) < 0) = false := decide_eq_false (by omega)
    generalize L[i] = r at d0 d1 d2 d3 d4 d5 d6 d7 HF
    clear hat
    go_wp2_with fail
    have k9 := Blk.set8 K1.out (.string r.nm) (.int .i64 r.g) (.string r.c.nm) (.int .i64 r.c.img) (.int .i64 r.c.conc) (.int .i64 r.c.mn) (.int .i64 r.c.mx) (.int .i64 r.c.grc)
    have c9 := Chg.set8 w1 w.heap.size (.string r.nm) (.int .i64 r.g) (.string r.c.nm) (.int .i64 r.c.img) (.int .i64 r.c.conc) (.int .i64 r.c.mn) (.int .i64 r.c.mx) (.int .i64 r.c.grc)
    obtain ⟨g0, g1, g2, g3, g4, g5, g6, g7⟩ := Blk.cells8 k9
    exact bodyPost_ret (v := .tuple #[.agg #[.string r.nm, .int .i64 r.g, .string r.c.nm, .int .i64 r.c.img, .int .i64 r.c.conc, .int .i64 r.c.mn, .int .i64 r.c.mx, .int .i64 r.c.grc], .bool true]) (by simp [results, Tryz.results28, go_sem, g0, g1, g2, g3, g4, g5, g6, g7]) rfl ⟨by rw [HF.out]; rfl, c9.below_of BW1.out BW1.out.size (fun k hk e => by omega)⟩

theorem proveL_enc (L : List RevM) (x : List UInt8) : (proveL L x).flatMap elR.enc = L.flatMap elR.enc := by
  unfold proveL
  rw [List.flatMap_map]
  congr 1
  funext r
  split <;> rfl
theorem proveL_len (L : List RevM) (x : List UInt8) : (proveL L x).length = L.length := by unfold proveL; rw [List.length_map]
theorem proveL_none {L : List RevM} {x : List UInt8} (h : findR L x = none) : proveL L x = L := by
  unfold proveL
  conv => rhs; rw [← List.map_id L]
  refine List.map_congr_left (fun r hr => ?_)
  have := findR_none h r hr
  simp [this]
theorem proveL_ok {L : List RevM} (hL : (L.map RevM.key).Nodup) {x : List UInt8} {i : Nat} (hi : i < L.length) (hx : L[i].key = x) : (proveL L x).map RevM.ok = (L.map RevM.ok).set i true := by
  have e : (proveL L x).map RevM.ok = L.map (fun r => (if (r.key == x) = true then (⟨r.c, r.g, true⟩ : RevM) else r).ok) := by unfold proveL; rw [List.map_map]; rfl
  rw [e]
  refine List.ext_getElem (by rw [List.length_map, List.length_set, List.length_map]) (fun j h1 h2 => ?_)
  rw [List.length_map] at h1
  rw [List.getElem_set]
  simp only [List.getElem_map]
  by_cases e : i = j
  · subst e
    rw [if_pos rfl, if_pos (by simpa using hx)]
  · rw [if_neg e, if_neg]
    intro hk
    have hk' : L[j].key = L[i].key := by rw [hx]; simpa using hk
    exact e ((List.getElem_inj (h₀ := by rw [List.length_map]; exact hi) (h₁ := by rw [List.length_map]; exact h1) hL).1 (by simpa using hk'.symm))
theorem encB (l : List Bool) : l.flatMap elB.enc = l.map Value.bool := by
  induction l with
  | nil => rfl
  | cons b t ih => rw [List.flatMap_cons, ih]; rfl
theorem rowB_set {w : World} {B g c n : Nat} {l : List Bool} (h : RowG elB w B (.slice (some ⟨g, 0, none⟩) n c) l) {i : Nat} (hi : i < l.length) (b : Bool) : RowG elB (w.setCell ⟨g, i, none⟩ (.bool b)) B (.slice (some ⟨g, 0, none⟩) n c) (l.set i b) := by
  obtain ⟨q1, q2⟩ := h
  rcases q2 with ⟨q2, _⟩ | ⟨g', cap, cur, hv, hg, hh, r1, r2, r3, r4⟩
  · cases q2
  · cases hv
    have hk : Blk w g cur elB.e := hh
    refine ⟨by rw [encB, List.length_map]; exact (Nat.mul_one _).symm, .inr ⟨g, c, cur.setIfInBounds i (.bool b), by rw [List.length_set], hg, hk.set i (.bool b) rfl, by rw [List.length_set]; exact r1, r2, by rw [Array.size_setIfInBounds]; exact r3, ?_⟩⟩
    rw [encB] at r4 ⊢
    rw [Array.toList_setIfInBounds, List.length_set, List.map_set, ← r4, List.take_set]
theorem own_at {α : Type} {E : El Tryz.prog α} {w : World} {B k : Nat} {v : Value} {xs : List α} (h : RowG E w B v xs) (hk : v.ownBlock = some k) : B ≤ k ∧ ∃ cs, Blk w k cs E.e := by
  obtain ⟨q1, q2⟩ := h
  rcases q2 with ⟨rfl, _⟩ | ⟨g', cap, cur, rfl, hg, hh, _⟩
  · cases hk
  · cases hk
    exact ⟨hg, cur, hh⟩

set_option maxHeartbeats 2000000 in
theorem dprove_calls {w : World} {B q : Nat} {L : List RevM} (h : DBook w B q L) (s : ByteArray) (hL : OkL L) :
    Calls Tryz.prog 21 #[.pointer (some ⟨q, 0, none⟩), .string s] w fun e w' => e = .returned (.int .i64 (if (findR L s.data.toList).isSome then 0 else 6)) ∧ DBook w' B q (proveL L s.data.toList) ∧ Chg (DocF w B) w w' := by
  have hat := Lib.hid (dat_calls h s hL.len)
  have HD := Lib.hid h
  obtain ⟨⟨A, c, A', c', h1, h2, h3⟩, hlo⟩ := h
  have c1 := h1.cell 1
  simp only [List.getElem?_toArray, List.getElem?_cons_zero, List.getElem?_cons_succ] at c1
  have H1 := Lib.hid h1
  have H2 := Lib.hid h2
  have H3 := Lib.hid h3
  clear h1 h2 h3
  obtain ⟨rr, hrr⟩ : ∃ rr : Int, rr = (if (findR L s.data.toList).isSome then 0 else 6) := ⟨_, rfl⟩
  have HRR := Lib.hid hrr
  rw [← hrr]
  clear hrr
  go_enter Tryz.func21, Tryz.ntmps21
  go_wp2_with fail
  with_reducible refine hat.out.mono ?_
  rintro e w1 ⟨k, rfl, hk, rfl⟩
  rcases hk with ⟨hf, rfl⟩ | ⟨i, hi, rfl, hf⟩
  · obtain rfl : rr = 6 := by rw [HRR.out, hf]; rfl
    go_wp2_with fail
    go_ret
    exact ⟨rfl, (proveL_none hf).symm ▸ HD.out, Chg.refl _ _⟩
  · obtain rfl : rr = 0 := by rw [HRR.out, hf]; rfl
    obtain ⟨g, rfl, hg, hb⟩ := bool_at H3.out hi
    have hi' : (i : Int) < (L.length : Int) := by omega
    have hge : decide ((i : Int) < 0) = false := decide_eq_false (by omega)
    obtain ⟨_, cs, hkb⟩ := own_at H3.out (k := g) rfl
    have hfr := hkb.frozen i
    have HKB := Lib.hid hkb
    have HF := Lib.hid hf
    generalize L[i].ok = b at hb
    clear hkb hf HRR hat
    go_wp2_with fail
    go_ret
    have hne : q ≠ g := fun e => by
      subst e
      have h1 := H1.out
      have h2 := HKB.out
      unfold Blk at h1 h2
      rw [h1] at h2
      simp only [Option.some.injEq, Obj.cells.injEq] at h2
      exact absurd h2.2.1 (by decide)
    have hch : Chg (fun k => k = g) w1 (w1.setCell ⟨g, i, none⟩ (.bool true)) := (Chg.refl (fun k => k = g) w1).setCell (a := ⟨g, i, none⟩) (fun _ => rfl) _
    refine ⟨rfl, ⟨⟨A, c, some ⟨g, 0, none⟩, c', ?_, ?_, ?_⟩, hlo⟩, hch.mono (fun k hk e => by subst e; exact ⟨hg, cs, _, HKB.out, .inr (.inr rfl)⟩)⟩
    · rw [proveL_len]
      exact H1.out.far (a := ⟨g, i, none⟩) hne _
    · rw [proveL_len]
      have := RowG.keep H2.out hch (fun k cs' hk e => by
        subst e
        have h2 := HKB.out
        unfold Blk at hk h2
        rw [hk] at h2
        simp only [Option.some.injEq, Obj.cells.injEq] at h2
        exact absurd h2.2.1 (by decide))
      unfold RowG at this ⊢
      rw [proveL_enc, proveL_len]
      exact this
    · rw [proveL_ok hL.nodup hi (findR_some HF.out).2, proveL_len]
      exact rowB_set H3.out (by rw [List.length_map]; exact hi) true

/-- append, as a step of a region that draws: only the row's own block may change. -/
theorem step_appO {α : Type} (E : El Tryz.prog α) {ops : Array Oper} {o : Oper} {a : Act} {K : Act → World → Prop} {Q : Exit → Act → World → Prop} {D : Prop} (w : World) (hgd : o.guard = none) (s x : Operand) (ho : o.op = .call { callee := .builtin .append, args := #[s, x], argTypes := #[E.t, E.t] })
    (B : Nat) (v : Value) (xs : List α) (hs : a.eval s = v) (hown : RowG E w B v xs)
    (A : Option Addr) (m c : Nat) (ys : List α) (hx : a.eval x = .slice A m c) (hm : ys.length = m) (hsrc : SrcG E w A ys) (hn : xs.length ≤ 1000000) (hm6 : m ≤ 1000000) (hB : B ≤ w.heap.size)
    (h : ∀ v' w', RowG E w' B v' (xs ++ ys) → Chg (fun k => v.ownBlock = some k) w w' → K (a.put o.dst v') w') :
    if Region.wanted o (yielded ops a.tmps) = true then Oper.wp Tryz.prog o a w K Q else D := by
  subst hm
  have hown' : w.ownsRow B E.e E.size v xs.length (xs.flatMap E.enc) := hown
  obtain ⟨i0, hi, hz, hsize, hby⟩ := info_parts E.hinfo
  refine step_append_any (P := Tryz.prog) w hgd s x E.t ho B E.e i0 E.z E.size E.bytes E.ht hi hz hsize hby E.hzs E.hsz v xs.length (xs.flatMap E.enc) hs hown' A ys.length c (ys.flatMap E.enc) hx (El.len E ys) hsrc
    (fun u hu => by obtain ⟨y, _, hy⟩ := List.mem_flatMap.1 hu; exact E.h1 y u hy) (by unfold maxLen; omega) (by have := Nat.mul_le_mul (show xs.length + ys.length ≤ 2000000 by omega) E.hb; omega) hB ?_
  intro v' w' h1 h2 h3 h4
  exact h v' w' (by unfold RowG; rw [List.length_append, List.flatMap_append]; exact h1) (Chg.of_grownBy h2 (fun k e => e))

theorem hold_rev (w : World) (n : ByteArray) (c : CfgM) (x : Int) (hn : (⟨c, x, false⟩ : RevM).nm = n) : ∃ g w5, w5 = (w.alloc (.cells #[.string n, .int .i64 x, .string c.nm, .int .i64 c.img, .int .i64 c.conc, .int .i64 c.mn, .int .i64 c.mx, .int .i64 c.grc] 88)).drew ∧ g = w.heap.size ∧ w5.heap[g]? = some (.cells (elR.enc ⟨c, x, false⟩).toArray elR.e (0, 0)) ∧ Below w.drew.heap.size w.drew w5 := by
  subst hn
  have h1 := Blk.new w.drew #[.string (⟨c, x, false⟩ : RevM).nm, .int .i64 x, .string c.nm, .int .i64 c.img, .int .i64 c.conc, .int .i64 c.mn, .int .i64 c.mx, .int .i64 c.grc] 88
  have h2 : Below w.drew.heap.size w.drew (w.drew.alloc (.cells #[.string (⟨c, x, false⟩ : RevM).nm, .int .i64 x, .string c.nm, .int .i64 c.img, .int .i64 c.conc, .int .i64 c.mn, .int .i64 c.mx, .int .i64 c.grc] 88)) := (Below.refl _ _).alloc (Nat.le_refl _) _
  exact ⟨_, _, rfl, rfl, h1, h2⟩
theorem blk_neT {w : World} {p q : Nat} {cs cs' : Array Value} {t t' : TypeId} (h : Blk w p cs t) (h' : Blk w q cs' t') (ht : t ≠ t') : p ≠ q := fun e => by
  subst e
  unfold Blk at h h'
  rw [h] at h'
  simp only [Option.some.injEq, Obj.cells.injEq] at h'
  exact ht h'.2.1

set_option maxRecDepth 100000 in
set_option maxHeartbeats 4000000 in
theorem dstamp_calls {w : World} {B q : Nat} {L : List RevM} (h : DBook w B q L) (hL : OkL L) (c : CfgM) (hv : ValidN c.nm) (g : Int) (h0 : 1 ≤ g) (h1 : g ≤ 999999) {cv : Value} (hcv : encC c = cv) :
    Calls Tryz.prog 18 #[.pointer (some ⟨q, 0, none⟩), cv, .int .i64 g] w fun e w' => e = .returned (.tuple #[.string (revN c.nm g), .bool (findR L (revN c.nm g).data.toList).isNone]) ∧ DBook w' B q (stampL L c g) ∧ Chg (DocF w B) w w' := by
  subst hcv
  have hlen := hL.len
  have hlt := h.lt
  have HD := Lib.hid h
  obtain ⟨⟨A, cA, A', c', h1', h2', h3'⟩, hlo⟩ := h
  have H1 := Lib.hid h1'
  have H2 := Lib.hid h2'
  have H3 := Lib.hid h3'
  clear h1' h2' h3'
  have HV := Lib.hid hv
  obtain ⟨rv, hrv⟩ : ∃ rv, rv = revN c.nm g := ⟨_, rfl⟩
  have HNM := Lib.hid (show (⟨c, g, false⟩ : RevM).nm = rv from by rw [hrv]; rfl)
  have HRE := Lib.hid hrv
  have HST := Lib.hid (show stampL L c g = if (findR L rv.data.toList).isNone then L ++ [⟨c, g, false⟩] else L from by rw [hrv]; rfl)
  unfold encC
  obtain ⟨PB, hPB⟩ : ∃ PB, PB = (findR L rv.data.toList).isNone := ⟨_, rfl⟩
  have HPB := Lib.hid hPB
  obtain ⟨LS, hLS⟩ : ∃ LS, LS = stampL L c g := ⟨_, rfl⟩
  have HLS := Lib.hid hLS
  rw [← hrv, ← hPB, ← hLS]
  clear hPB hLS hrv
  obtain ⟨W1, hW1⟩ : ∃ W1, W1 = w.alloc (.cells #[.string c.nm, .int .i64 c.img, .int .i64 c.conc, .int .i64 c.mn, .int .i64 c.mx, .int .i64 c.grc] 58) := ⟨_, rfl⟩
  have bW1 : Below w.heap.size w W1 := by rw [hW1]; exact (Below.refl _ _).alloc (Nat.le_refl _) _
  have k1 : Blk W1 w.heap.size #[.string c.nm, .int .i64 c.img, .int .i64 c.conc, .int .i64 c.mn, .int .i64 c.mx, .int .i64 c.grc] 58 := by rw [hW1]; exact Blk.new _ _ _
  have HW1 := Lib.hid hW1
  have e0 := k1.cell 0
  simp only [List.getElem?_toArray, List.getElem?_cons_zero] at e0
  have K1 := Lib.hid k1
  have BW1 := Lib.hid bW1
  clear hW1 bW1 k1 hv
  go_enter Tryz.func18, Tryz.ntmps18
  go_wp2_with fail
  rw [← HW1.out]
  clear HW1
  with_reducible refine (rrev_calls c.nm HV.out g h0 h1 _).mono ?_
  rintro e w2 ⟨rfl, hb2⟩
  have B2 := Lib.hid (below_step BW1.out hb2)
  have K2 := Lib.hid (K1.out.below hb2 K1.out.lt)
  have HD2 := Lib.hid ((HD.out.below BW1.out).below hb2)
  have hat := Lib.hid (dat_calls HD2.out rv hlen)
  rw [← HRE.out]
  clear hb2 K1 BW1 e0 HRE
  go_wp2_with fail
  with_reducible refine hat.out.mono ?_
  rintro e w3 ⟨k, rfl, hk, rfl⟩
  clear hat
  rcases hk with ⟨hf, rfl⟩ | ⟨i, hi, rfl, hf⟩
  · obtain rfl : PB = true := by rw [HPB.out, hf]; rfl
    obtain rfl : LS = L ++ [⟨c, g, false⟩] := by rw [HLS.out, HST.out, hf]; rfl
    have hd := (Below.refl w3.heap.size w3).drew
    have HB2 := Lib.hid (below_step B2.out hd)
    have K3 := Lib.hid (K2.out.below hd K2.out.lt)
    have Q3 := Lib.hid (H1.out.below HB2.out H1.out.lt)
    have R3 := Lib.hid (H2.out.below HB2.out (Nat.le_refl _))
    have S3 := Lib.hid (H3.out.below HB2.out (Nat.le_refl _))
    have hsz3 : w.heap.size ≤ w3.drew.heap.size := HB2.out.size
    clear hd hf HPB HST HLS HD2 K2
    go_wp2_with fail
    refine start_ (n := 14) (S := fun w' => w'.cell? ⟨q, 0, none⟩ = some (.slice A L.length cA) ∧ w'.cell? ⟨w.heap.size, 0, none⟩ = some (.string c.nm) ∧ w'.cell? ⟨w.heap.size, 1, none⟩ = some (.int .i64 c.img) ∧ w'.cell? ⟨w.heap.size, 2, none⟩ = some (.int .i64 c.conc) ∧ w'.cell? ⟨w.heap.size, 3, none⟩ = some (.int .i64 c.mn) ∧ w'.cell? ⟨w.heap.size, 4, none⟩ = some (.int .i64 c.mx) ∧ w'.cell? ⟨w.heap.size, 5, none⟩ = some (.int .i64 c.grc)) (ds := [10, 13]) #[false, false, false, false, false, false, false, false, false, false, false, false, false, false] (by kernel_rfl) rfl rfl ⟨Q3.out.cell 0, K3.out.cell 0, K3.out.cell 1, K3.out.cell 2, K3.out.cell 3, K3.out.cell 4, K3.out.cell 5⟩ (fun hHeld => ?_)
    refine pure_ (i := 0) (N := some 18) (v := ?_) (a' := ?_) #[true, false, false, false, false, false, false, false, false, false, false, false, false, false] rfl rfl (by kernel_rfl) (fun _ _ _ h => h) (Or.inl ⟨by rfl, ?_⟩) ?_ ?_
    rotate_left
    · intro w'
      go_simp
      with_reducible rfl
    rotate_left
    · simp only [Act.put, List.setIfInBounds_toArray, List.set_cons_zero, List.set_cons_succ]
      rfl
    refine pure_ (i := 1) (N := some 19) (v := ?_) (a' := ?_) #[true, true, false, false, false, false, false, false, false, false, false, false, false, false] rfl rfl (by kernel_rfl) (fun _ _ _ h => h) (Or.inl ⟨by rfl, ?_⟩) ?_ ?_
    rotate_left
    · intro w'
      go_simp
      with_reducible rfl
    rotate_left
    · simp only [Act.put, List.setIfInBounds_toArray, List.set_cons_zero, List.set_cons_succ]
      rfl
    refine pure_ (i := 2) (N := some 20) (v := ?_) (a' := ?_) #[true, true, true, false, false, false, false, false, false, false, false, false, false, false] rfl rfl (by kernel_rfl) (fun _ _ _ h => h) (Or.inl ⟨by rfl, ?_⟩) ?_ ?_
    rotate_left
    · intro w'
      go_simp
      with_reducible rfl
    rotate_left
    · simp only [Act.put, List.setIfInBounds_toArray, List.set_cons_zero, List.set_cons_succ]
      rfl
    refine pure_ (i := 3) (N := some 21) (v := ?_) (a' := ?_) #[true, true, true, true, false, false, false, false, false, false, false, false, false, false] rfl rfl (by kernel_rfl) (fun _ _ _ h => h) (Or.inl ⟨by rfl, ?_⟩) ?_ ?_
    rotate_left
    · intro w'
      go_simp
      with_reducible rfl
    rotate_left
    · simp only [Act.put, List.setIfInBounds_toArray, List.set_cons_zero, List.set_cons_succ]
      rfl
    refine pure_ (i := 5) (N := some 23) (v := ?_) (a' := ?_) #[true, true, true, true, false, true, false, false, false, false, false, false, false, false] rfl rfl (by kernel_rfl) (fun _ _ _ h => h) (Or.inl ⟨by rfl, ?_⟩) ?_ ?_
    rotate_left
    · intro w'
      go_simp
      with_reducible rfl
    rotate_left
    · simp only [Act.put, List.setIfInBounds_toArray, List.set_cons_zero, List.set_cons_succ]
      rfl
    refine pure_ (i := 6) (N := some 24) (v := ?_) (a' := ?_) #[true, true, true, true, false, true, true, false, false, false, false, false, false, false] rfl rfl (by kernel_rfl) (fun _ _ _ h => h) (Or.inl ⟨by rfl, ?_⟩) ?_ ?_
    rotate_left
    · intro w'
      go_simp
      with_reducible rfl
    rotate_left
    · simp only [Act.put, List.setIfInBounds_toArray, List.set_cons_zero, List.set_cons_succ]
      rfl
    refine take_ (i := 4) (N := some 22) (v := ?_) (a' := ?_) #[true, true, true, true, true, true, true, false, false, false, false, false, false, false] rfl rfl (by kernel_rfl) (fun _ _ _ h => h) (Or.inl ⟨by rfl, ?_⟩) hHeld ?_ ?_
    rotate_left
    · rintro w' ⟨s0, s1, s2, s3, s4, s5, s6⟩
      go_simp
      with_reducible rfl
    rotate_left
    · simp only [Act.put, List.setIfInBounds_toArray, List.set_cons_zero, List.set_cons_succ]
      rfl
    refine take_ (i := 7) (N := some 25) (v := ?_) (a' := ?_) #[true, true, true, true, true, true, true, true, false, false, false, false, false, false] rfl rfl (by kernel_rfl) (fun _ _ _ h => h) (Or.inl ⟨by rfl, ?_⟩) hHeld ?_ ?_
    rotate_left
    · rintro w' ⟨s0, s1, s2, s3, s4, s5, s6⟩
      go_simp
      with_reducible rfl
    rotate_left
    · simp only [Act.put, List.setIfInBounds_toArray, List.set_cons_zero, List.set_cons_succ]
      rfl
    refine pure_ (i := 8) (N := some 26) (v := ?_) (a' := ?_) #[true, true, true, true, true, true, true, true, true, false, false, false, false, false] rfl rfl (by kernel_rfl) (fun _ _ _ h => h) (Or.inl ⟨by rfl, ?_⟩) ?_ ?_
    rotate_left
    · intro w'
      go_simp
      with_reducible rfl
    rotate_left
    · simp only [Act.put, List.setIfInBounds_toArray, List.set_cons_zero, List.set_cons_succ]
      rfl
    refine one_ (i := 9) (N := some 27) #[true, true, true, true, true, true, true, true, true, true, false, false, false, false] rfl rfl (by kernel_rfl) (by decide) (fun K hK => ?_)
    refine value_ (w1 := ?_) (v := ?_) (by rfl) rfl ?_ ?_
    rotate_left 2
    · go_simp
      constructor
      · rfl
      · rfl
    obtain ⟨g9, w9, hw9, hg9, k9, b9⟩ := hold_rev w3 rv c g HNM.out
    rw [← hw9, ← hg9]
    clear hw9 hg9
    have K9 := Lib.hid (K3.out.below b9 K3.out.lt)
    have Q9 := Lib.hid (Q3.out.below b9 Q3.out.lt)
    refine hK.out _ _ ⟨Q9.out.cell 0, K9.out.cell 0, K9.out.cell 1, K9.out.cell 2, K9.out.cell 3, K9.out.cell 4, K9.out.cell 5⟩ (fun hHeld => ?_)
    clear hK K
    refine norm_ (a' := ?_) ?_ ?_
    rotate_left
    · show Act.put _ (some 27) _ = _
      simp only [Act.put, List.setIfInBounds_toArray, List.set_cons_zero, List.set_cons_succ]
      rfl
    refine last_ (i := 10) (N := some 28) #[true, true, true, true, true, true, true, true, true, true, true, false, false, false] rfl rfl (by kernel_rfl) (by decide) (fun K hK => ?_)
    refine step_appO elR _ rfl (.tmp 22) (.tmp 27) rfl B (.slice A L.length cA) L (by rfl) (R3.out.below b9 (Nat.le_refl _)) (some ⟨g9, 0, none⟩) 1 1 [⟨c, g, false⟩] (by rfl) rfl (SrcG.one k9) (by omega) (by omega) (by have := b9.size; omega) ?_
    intro v10 w10 r10 c10
    refine hK.out _ _ ?_
    clear hK K
    refine norm_ (a' := ?_) ?_ ?_
    rotate_left
    · show Act.put _ (some 28) _ = _
      simp only [Act.put, List.setIfInBounds_toArray, List.set_cons_zero, List.set_cons_succ]
      rfl
    refine pure_ (i := 11) (N := some 29) (v := ?_) (a' := ?_) #[true, true, true, true, true, true, true, true, true, true, true, true, false, false] rfl rfl (by kernel_rfl) (fun _ _ _ h => h) (Or.inl ⟨by rfl, ?_⟩) ?_ ?_
    rotate_left
    · intro w'
      go_simp
      with_reducible rfl
    rotate_left
    · simp only [Act.put, List.setIfInBounds_toArray, List.set_cons_zero, List.set_cons_succ]
      rfl
    refine pure_ (i := 12) (N := some 30) (v := ?_) (a' := ?_) #[true, true, true, true, true, true, true, true, true, true, true, true, true, false] rfl rfl (by kernel_rfl) (fun _ _ _ h => h) (Or.inl ⟨by rfl, ?_⟩) ?_ ?_
    rotate_left
    · intro w'
      go_simp
      with_reducible rfl
    rotate_left
    · simp only [Act.put, List.setIfInBounds_toArray, List.set_cons_zero, List.set_cons_succ]
      rfl
    refine last_ (i := 13) (N := none) #[true, true, true, true, true, true, true, true, true, true, true, true, true, true] rfl rfl (by kernel_rfl) (by decide) (fun K hK => ?_)
    obtain ⟨A1, n1, rfl, hn1, _⟩ := r10.shape
    obtain ⟨m10, hm10⟩ : ∃ m10 : Nat, m10 = (L ++ [(⟨c, g, false⟩ : RevM)]).length := ⟨_, rfl⟩
    rw [← hm10] at r10 hn1 ⊢
    have HM10 := Lib.hid hm10
    clear hm10
    have hq10 : ¬ (Value.slice A L.length cA).ownBlock = some q := fun e => by obtain ⟨_, cs, hk⟩ := own_at H2.out e; exact blk_neT hk H1.out (by decide) rfl
    have k10 := Q9.out.chg c10 hq10
    have e1 := k10.cell 0
    simp only [List.getElem?_toArray, List.getElem?_cons_zero, List.getElem?_cons_succ] at e1
    have f1 := k10.frozen 0
    refine skip_ (w1 := ?_) (by rfl) rfl ?_ ?_
    rotate_left
    · go_simp
      rfl
    refine hK.out _ _ ?_
    clear hK K
    refine done_ (by kernel_rfl) ?_
    have kq := Lib.hid (k10.set 0 (.slice A1 m10 n1) (cs' := #[.slice A1 m10 n1, .slice A' L.length c']) rfl)
    have cq : Chg (fun k => k = q) w10 (w10.setCell ⟨q, 0, none⟩ (.slice A1 m10 n1)) := (Chg.refl (fun k => k = q) w10).setCell (a := ⟨q, 0, none⟩) (fun _ => rfl) _
    have R6 := Lib.hid (RowG.keep r10 cq (fun k cs hk e => by subst e; exact blk_neT hk k10 (by decide) rfl))
    have s10 := RowG.keep (S3.out.below b9 (Nat.le_refl _)) c10 (fun k cs hk e => by obtain ⟨_, cs', hk'⟩ := own_at (R3.out.below b9 (Nat.le_refl _)) e; exact blk_neT hk hk' (by decide) rfl)
    have S6 := Lib.hid (RowG.keep s10 cq (fun k cs hk e => by subst e; exact blk_neT hk k10 (by decide) rfl))
    have C6 := Lib.hid ((((Chg.of_below HB2.out (F := DocF w B) (fun k h1 h2 => by omega)).trans (Chg.of_below b9 (F := fun _ => False) (fun k h1 h2 => by omega)) (fun _ _ e => e.elim)).trans c10 (fun k hk e => by obtain ⟨hb, cs, hk'⟩ := own_at H2.out e; exact ⟨hb, cs, _, hk', .inr (.inl rfl)⟩)).trans cq (fun k hk e => by subst e; exact ⟨hlo, _, _, H1.out, .inl rfl⟩))
    have hz6 : B ≤ (w10.setCell ⟨q, 0, none⟩ (.slice A1 m10 n1)).heap.size := by have := C6.out.size; omega
    clear e1 f1 k10 cq s10 r10 c10 K9 Q9 R3 S3 Q3 K3 k9 b9 hq10
    generalize w10.setCell ⟨q, 0, none⟩ (.slice A1 m10 n1) = W6 at kq R6 S6 C6 hz6 ⊢
    have d1 := kq.out.cell 1
    simp only [List.getElem?_toArray, List.getElem?_cons_zero, List.getElem?_cons_succ] at d1
    have b7 : Below W6.heap.size W6 (W6.alloc (.cells #[.bool false] 4)) := (Below.refl _ _).alloc (Nat.le_refl _) _
    have S7 := Lib.hid (S6.out.below b7 (Nat.le_refl _))
    have K7 := Lib.hid (SrcG.one (E := elB) (x := false) (Blk.new W6 #[.bool false] 4))
    have B7 := Lib.hid b7
    have hz7 : B ≤ (W6.alloc (.cells #[.bool false] 4)).heap.size := by have := b7.size; omega
    have hmo : (L.map RevM.ok).length ≤ 1000000 := by rw [List.length_map]; omega
    have HSZ := Lib.hid hz7
    clear b7 hz7
    go_wp2_with (at_builtin; refine list_appO elB _ rfl (.tmp 35) (.tmp 36) rfl B _ _ (by rfl) S7.out (some ⟨W6.heap.size, 0, none⟩) 1 1 [false] (by rfl) rfl K7.out hmo (by omega) HSZ.out ?_; intro v8 w8 r8 c8 o8; obtain ⟨A2, n2, rfl, hn2, _⟩ := r8.shape; obtain ⟨m8, hm8⟩ : ∃ m8 : Nat, m8 = (L.map RevM.ok ++ [false]).length := ⟨_, rfl⟩; rw [← hm8] at r8 hn2 ⊢; have HM8 := Lib.hid hm8; clear hm8; have k8 := (kq.out.below B7.out kq.out.lt).chg c8 (fun e => by obtain ⟨_, cs, hk⟩ := own_at S6.out e; exact blk_neT hk kq.out (by decide) rfl); have e1 := k8.cell 1; simp only [List.getElem?_toArray, List.getElem?_cons_zero, List.getElem?_cons_succ] at e1; have f1 := k8.frozen 1)
    have k9 := k8.set 1 (.slice A2 m8 n2) (cs' := #[.slice A1 m10 n1, .slice A2 m8 n2]) rfl
    have cq : Chg (fun k => k = q) w8 (w8.setCell ⟨q, 1, none⟩ (.slice A2 m8 n2)) := (Chg.refl (fun k => k = q) w8).setCell (a := ⟨q, 1, none⟩) (fun _ => rfl) _
    have R9 := RowG.keep (RowG.keep (R6.out.below B7.out (Nat.le_refl _)) c8 (fun k cs hk e => by obtain ⟨_, cs', hk'⟩ := own_at S7.out e; exact blk_neT hk hk' (by decide) rfl)) cq (fun k cs hk e => by subst e; exact blk_neT hk k8 (by decide) rfl)
    have S9 := RowG.keep r8 cq (fun k cs hk e => by subst e; exact blk_neT hk k8 (by decide) rfl)
    have C9 := ((C6.out.trans (Chg.of_below B7.out (F := fun _ => False) (fun k h1 h2 => by omega)) (fun _ _ e => e.elim)).trans c8 (fun k hk e => by obtain ⟨hb, cs, hk'⟩ := own_at H3.out e; exact ⟨hb, cs, _, hk', .inr (.inr rfl)⟩)).trans cq (fun k hk e => by subst e; exact ⟨hlo, _, _, H1.out, .inl rfl⟩)
    refine bodyPost_ret (v := .tuple #[.string rv, .bool true]) (by simp [results, Tryz.results18, go_sem]) rfl ⟨rfl, ⟨⟨A1, n1, A2, n2, ?_, ?_, ?_⟩, hlo⟩, C9⟩
    · have e2 : (L ++ [(⟨c, g, false⟩ : RevM)]).length = m8 := by rw [HM8.out]; simp
      rw [show (.slice A2 (L ++ [(⟨c, g, false⟩ : RevM)]).length n2 : Value) = .slice A2 m8 n2 from by rw [e2], ← HM10.out]
      exact k9
    · rw [← HM10.out]
      exact R9
    · have e2 : (L ++ [(⟨c, g, false⟩ : RevM)]).length = m8 := by rw [HM8.out]; simp
      rw [e2, List.map_append]
      exact S9
  · have hge : decide ((0 : Int) ≤ (i : Int)) = true := decide_eq_true (by omega)
    obtain rfl : PB = false := by rw [HPB.out, hf]; rfl
    obtain rfl : LS = L := by rw [HLS.out, HST.out, hf]; rfl
    go_wp2_with fail
    exact bodyPost_ret (v := .tuple #[.string rv, .bool false]) (by simp [results, Tryz.results18, go_sem]) rfl ⟨rfl, HD2.out, Chg.of_below B2.out (fun k h1 h2 => by omega)⟩

end Go.Proofs.YtnkmpkhiilnigaaGreatDoor.PB
