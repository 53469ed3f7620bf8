/- stamp's Book: what lies in memory; its functions, one contract each. (Printed by genx.py from sbook.src.) -/
import Derived.Test.YtnkmpkhiilnigaaGreatDoorSLabelB
import Derived.Test.YtnkmpkhiilnigaaGreatDoorWWords
import Derived.BigQuiet
import Derived.Outline
import Derived.WalkLawsBesides
set_option linter.unusedSimpArgs false
set_option linter.unusedVariables false
namespace Go.Proofs.YtnkmpkhiilnigaaGreatDoor.PB
open Go.RowKit Go.Shelf Go.Lib Go.Sort Go.Maps Go.Proofs.YtnkmpkhiilnigaaGreatDoorW.PrintWords Go.Proofs.YtnkmpkhiilnigaaGreatDoorW.PrintLast

theorem eqA58 (d : Nat) (w : World) (x0 y0 : ByteArray) (x1 y1 x2 y2 x3 y3 x4 y4 x5 y5 : Int) :
    (Op.equalIn (d + 2) 58 (.agg #[.string x0, .int .i64 x1, .int .i64 x2, .int .i64 x3, .int .i64 x4, .int .i64 x5]) (.agg #[.string y0, .int .i64 y1, .int .i64 y2, .int .i64 y3, .int .i64 y4, .int .i64 y5])).run Tryz.prog w = .ok (x0.toList == y0.toList && (x1 == y1 && (x2 == y2 && (x3 == y3 && (x4 == y4 && (x5 == y5)))))) w := by
  refine eqA_of Tryz.underlying58 (by kernel_rfl) ?_
  refine eqf_cons (by rfl) (by go_simp <;> rfl) (by go_simp <;> rfl) (by go_simp) ?_
  refine eqf_cons (by rfl) (by go_simp <;> rfl) (by go_simp <;> rfl) (by go_simp) ?_
  refine eqf_cons (by rfl) (by go_simp <;> rfl) (by go_simp <;> rfl) (by go_simp) ?_
  refine eqf_cons (by rfl) (by go_simp <;> rfl) (by go_simp <;> rfl) (by go_simp) ?_
  refine eqf_cons (by rfl) (by go_simp <;> rfl) (by go_simp <;> rfl) (by go_simp) ?_
  exact eqf_last (by rfl) (by go_simp <;> rfl) (by go_simp <;> rfl) (by go_simp)
theorem eqA88 (d : Nat) (w : World) (n m : ByteArray) (g h : Int) (x0 y0 : ByteArray) (x1 y1 x2 y2 x3 y3 x4 y4 x5 y5 : Int) :
    (Op.equalIn (d + 3) 88 (.agg #[.string n, .int .i64 g, .string x0, .int .i64 x1, .int .i64 x2, .int .i64 x3, .int .i64 x4, .int .i64 x5]) (.agg #[.string m, .int .i64 h, .string y0, .int .i64 y1, .int .i64 y2, .int .i64 y3, .int .i64 y4, .int .i64 y5])).run Tryz.prog w = .ok (n.toList == m.toList && (g == h && (x0.toList == y0.toList && (x1 == y1 && (x2 == y2 && (x3 == y3 && (x4 == y4 && (x5 == y5)))))))) w := by
  refine eqA_of Tryz.underlying88 (by kernel_rfl) ?_
  refine eqf_cons (by rfl) (by go_simp <;> rfl) (by go_simp <;> rfl) (by go_simp) ?_
  refine eqf_cons (by rfl) (by go_simp <;> rfl) (by go_simp <;> rfl) (by go_simp) ?_
  exact eqf_last (by rfl) (by go_simp <;> rfl) (by go_simp <;> rfl) (eqA58 d w _ _ _ _ _ _ _ _ _ _ _ _)
attribute [local go_sem high] eqA88

/-- A configuration. -/
structure CfgM where
  nm : ByteArray
  img : Int
  conc : Int
  mn : Int
  mx : Int
  grc : Int
/-- A revision: of what, its number; is it proved? -/
structure RevM where
  c : CfgM
  g : Int
  ok : Bool
def RevM.nm (r : RevM) : ByteArray := revN r.c.nm r.g
def RevM.key (r : RevM) : List UInt8 := r.nm.data.toList
def cellsR (n : ByteArray) (g : Int) (c : CfgM) : Array Value := #[.string n, .int .i64 g, .string c.nm, .int .i64 c.img, .int .i64 c.conc, .int .i64 c.mn, .int .i64 c.mx, .int .i64 c.grc]
def encC (c : CfgM) : Value := .agg #[.string c.nm, .int .i64 c.img, .int .i64 c.conc, .int .i64 c.mn, .int .i64 c.mx, .int .i64 c.grc]
def encR (r : RevM) : Value := .agg (cellsR r.nm r.g r.c)
def zeroC : CfgM := ⟨⟨#[]⟩, 0, 0, 0, 0, 0⟩
def zeroR : Value := .agg (cellsR ⟨#[]⟩ 0 zeroC)
theorem zeroRev (w : World) : (zeroValue 88).run Tryz.prog w = .ok zeroR w := by kernel_rfl
theorem zeroB (w : World) : (zeroValue 4).run Tryz.prog w = .ok (.bool false) w := by kernel_rfl

/-- Revisions that may be; no two of one name. -/
structure OkL (L : List RevM) : Prop where
  each : ∀ r ∈ L, ValidN r.c.nm ∧ 1 ≤ r.g ∧ r.g ≤ 999999
  nodup : (L.map RevM.key).Nodup
  len : L.length ≤ 1000
theorem OkL.nil : OkL [] := ⟨fun r hr => by simp at hr, by simp, by simp⟩
/-- A Book in memory. -/
structure BookAt (w : World) (p b1 b2 : Nat) (L : List RevM) : Prop where
  blk : Blk w p #[.map (some b1), .map (some b2)] 107
  ne : p ≠ b1 ∧ p ≠ b2 ∧ b1 ≠ b2
  all : ∃ S f, OwnsM w Tryz.prog 9 b1 S f ∧ (∀ x, x ∈ S ↔ ∃ r ∈ L, r.key = x) ∧ ∀ r ∈ L, f r.key = encR r
  prv : ∃ S f, OwnsM w Tryz.prog 9 b2 S f ∧ (∀ x, x ∈ S ↔ ∃ r ∈ L, r.key = x ∧ r.ok = true) ∧ ∀ x ∈ S, f x = .bool true
theorem BookAt.chg {F : Nat → Prop} {w w' : World} {p b1 b2 : Nat} {L : List RevM} (h : BookAt w p b1 b2 L) (hc : Chg F w w') (hp : ¬ F p) (h1 : ¬ F b1) (h2 : ¬ F b2) : BookAt w' p b1 b2 L := by
  obtain ⟨k, n, ⟨S, f, a1, a2, a3⟩, ⟨S', f', c1, c2, c3⟩⟩ := h
  exact ⟨k.chg hc hp, n, ⟨S, f, a1.chg hc h1, a2, a3⟩, ⟨S', f', c1.chg hc h2, c2, c3⟩⟩
theorem BookAt.below {w w' : World} {p b1 b2 : Nat} {L : List RevM} (h : BookAt w p b1 b2 L) (hc : Below w.heap.size w w') : BookAt w' p b1 b2 L :=
  h.chg (Chg.of_below hc (F := fun _ => False) (fun k h1 h2 => by omega)) id id id
theorem BookAt.lt {w : World} {p b1 b2 : Nat} {L : List RevM} (h : BookAt w p b1 b2 L) : p < w.heap.size ∧ b1 < w.heap.size ∧ b2 < w.heap.size := by
  obtain ⟨k, n, ⟨S, f, a1, a2, a3⟩, ⟨S', f', c1, c2, c3⟩⟩ := h
  exact ⟨k.lt, a1.lt, c1.lt⟩

/-- Which one has a name. -/
def findR (L : List RevM) (x : List UInt8) : Option RevM := L.find? (fun r => r.key == x)
theorem findR_some {L : List RevM} {x : List UInt8} {r : RevM} (h : findR L x = some r) : r ∈ L ∧ r.key = x := by
  unfold findR at h
  exact ⟨List.mem_of_find?_eq_some h, by simpa using List.find?_some h⟩
theorem findR_none {L : List RevM} {x : List UInt8} (h : findR L x = none) : ∀ r ∈ L, r.key ≠ x := fun r hr e => by
  unfold findR at h
  have := List.find?_eq_none.1 h r hr
  simp [e] at this
theorem findR_mem {L : List RevM} (h : (L.map RevM.key).Nodup) {r : RevM} (hr : r ∈ L) : findR L r.key = some r := by
  cases e : findR L r.key with
  | none => exact absurd rfl (findR_none e r hr)
  | some s =>
    obtain ⟨h1, h2⟩ := findR_some e
    congr 1
    induction L with
    | nil => cases hr
    | cons z t ih =>
      rw [List.map_cons, List.nodup_cons] at h
      rcases List.mem_cons.1 hr with rfl | hr'
      · rcases List.mem_cons.1 h1 with rfl | h1'
        · rfl
        · exact absurd (List.mem_map.2 ⟨s, h1', h2⟩) h.1
      · rcases List.mem_cons.1 h1 with rfl | h1'
        · exact absurd (List.mem_map.2 ⟨r, hr', h2.symm⟩) h.1
        · refine ih h.2 hr' ?_ h1'
          unfold findR at e ⊢
          rw [List.find?_cons_of_neg (by simpa using fun e' => h.1 (List.mem_map.2 ⟨r, hr', e'.symm⟩))] at e
          exact e

/-- 'm[s]', as an equation of the operation. -/
theorem look_run {w : World} {t e : TypeId} (ht : Tryz.prog.underlying t = some (.map 9 e)) {z : Value} (hz : (zeroValue e).run Tryz.prog w = .ok z w) {b : Nat} {S : List (List UInt8)} {f : List UInt8 → Value} (hown : OwnsM w Tryz.prog 9 b S f) (s : ByteArray) (hs : s.size ≤ maxLen) {c : Value} (hc : (if s.data.toList ∈ S then f s.data.toList else z) = c) :
    (Instr.lookup t (.map (some b)) (.string s) false).run Tryz.prog w = .ok c w := by
  obtain ⟨D, hown, hsD⟩ := hown
  obtain ⟨v, ps, hrun, hv⟩ := hown.lookup (string_keyed Tryz.underlying9) ht hz (zd := .held z) (zp := []) rfl (keyS Tryz.underlying9 hs)
  have hv' : v = c := by
    rw [hsD.at_, hc] at hv
    simpa [anyElem] using congrArg (Option.map Prod.fst) hv
  rw [hrun, hv']
theorem lookok_run {w : World} {t e : TypeId} (ht : Tryz.prog.underlying t = some (.map 9 e)) {z : Value} (hz : (zeroValue e).run Tryz.prog w = .ok z w) {b : Nat} {S : List (List UInt8)} {f : List UInt8 → Value} (hown : OwnsM w Tryz.prog 9 b S f) (s : ByteArray) (hs : s.size ≤ maxLen) {is : Bool} (his : decide (s.data.toList ∈ S) = is) {c : Value} (hc : (if s.data.toList ∈ S then f s.data.toList else z) = c) :
    (Instr.lookup t (.map (some b)) (.string s) true).run Tryz.prog w = .ok (.tuple #[c, .bool is]) w := by
  obtain ⟨D, hown, hsD⟩ := hown
  obtain ⟨v, ps, hrun, hv⟩ := hown.look_ok (string_keyed Tryz.underlying9) ht hz (zd := .held z) (zp := []) rfl (keyS Tryz.underlying9 hs)
  have hv' : v = c := by
    rw [hsD.at_, hc] at hv
    simpa [anyElem] using congrArg (Option.map Prod.fst) hv
  rw [hrun, hv', hsD.has_, his]
/-- What the maps tell of a name. -/
theorem BookAt.look {w : World} {p b1 b2 : Nat} {L : List RevM} (h : BookAt w p b1 b2 L) (s : ByteArray) (hs : s.size ≤ 1000) :
    (Instr.lookup 103 (.map (some b1)) (.string s) false).run Tryz.prog w = .ok (match findR L s.data.toList with | some r => encR r | none => zeroR) w := by
  obtain ⟨k, n, ⟨S, f, a1, a2, a3⟩, _⟩ := h
  refine look_run Tryz.underlying103 (zeroRev w) a1 s (by unfold maxLen; omega) ?_
  cases e : findR L s.data.toList with
  | none => exact if_neg (fun hin => by obtain ⟨r, hr, hk⟩ := (a2 _).1 hin; exact findR_none e r hr hk)
  | some r =>
    obtain ⟨h1, h2⟩ := findR_some e
    rw [if_pos ((a2 _).2 ⟨r, h1, h2⟩), ← h2]
    exact a3 r h1
theorem BookAt.lookok {w : World} {p b1 b2 : Nat} {L : List RevM} (h : BookAt w p b1 b2 L) (s : ByteArray) (hs : s.size ≤ 1000) :
    (Instr.lookup 103 (.map (some b1)) (.string s) true).run Tryz.prog w = .ok (.tuple #[match findR L s.data.toList with | some r => encR r | none => zeroR, .bool (findR L s.data.toList).isSome]) w := by
  obtain ⟨k, n, ⟨S, f, a1, a2, a3⟩, _⟩ := h
  refine lookok_run Tryz.underlying103 (zeroRev w) a1 s (by unfold maxLen; omega) ?_ ?_
  · cases e : findR L s.data.toList with
    | none => exact decide_eq_false (fun hin => by obtain ⟨r, hr, hk⟩ := (a2 _).1 hin; exact findR_none e r hr hk)
    | some r =>
      obtain ⟨h1, h2⟩ := findR_some e
      exact decide_eq_true ((a2 _).2 ⟨r, h1, h2⟩)
  · cases e : findR L s.data.toList with
    | none => exact if_neg (fun hin => by obtain ⟨r, hr, hk⟩ := (a2 _).1 hin; exact findR_none e r hr hk)
    | some r =>
      obtain ⟨h1, h2⟩ := findR_some e
      rw [if_pos ((a2 _).2 ⟨r, h1, h2⟩), ← h2]
      exact a3 r h1
def provedL (L : List RevM) (x : List UInt8) : Bool := L.any (fun r => r.key == x && r.ok)
theorem BookAt.lookp {w : World} {p b1 b2 : Nat} {L : List RevM} (h : BookAt w p b1 b2 L) (s : ByteArray) (hs : s.size ≤ 1000) :
    (Instr.lookup 105 (.map (some b2)) (.string s) false).run Tryz.prog w = .ok (.bool (provedL L s.data.toList)) w := by
  obtain ⟨k, n, _, ⟨S, f, a1, a2, a3⟩⟩ := h
  refine look_run Tryz.underlying105 (zeroB w) a1 s (by unfold maxLen; omega) ?_
  by_cases hin : s.data.toList ∈ S
  · rw [if_pos hin, a3 _ hin]
    obtain ⟨r, h1, h2, h3⟩ := (a2 _).1 hin
    have : provedL L s.data.toList = true := by
      unfold provedL
      rw [List.any_eq_true]
      exact ⟨r, h1, by simp [h2, h3]⟩
    rw [this]
  · rw [if_neg hin]
    have : provedL L s.data.toList = false := by
      rw [Bool.eq_false_iff]
      intro e
      unfold provedL at e
      rw [List.any_eq_true] at e
      obtain ⟨r, h1, h2⟩ := e
      simp only [Bool.and_eq_true, beq_iff_eq] at h2
      exact hin ((a2 _).2 ⟨r, h1, h2.1, h2.2⟩)
    rw [this]

theorem new_calls (w : World) : Calls Tryz.prog 14 #[] w fun e w' => ∃ p b1 b2, e = .returned (.pointer (some ⟨p, 0, none⟩)) ∧ BookAt w' p b1 b2 [] ∧ (w.heap.size ≤ p ∧ w.heap.size ≤ b1 ∧ w.heap.size ≤ b2) ∧ Below w.heap.size w w' := by
  have hmm := @run_makeMap Tryz.prog
  go_enter Tryz.func14, Tryz.ntmps14
  go_wp2_with fail
  go_ret
  have q1 : OwnsM ((w.alloc (.map #[] 0)).alloc (.map #[] 0)) Tryz.prog 9 w.heap.size [] (fun _ => undef) := (OwnsM.made w Tryz.prog 9 _).same (Below.heap_alloc _ _ _ (by simp))
  have q2 : OwnsM ((w.alloc (.map #[] 0)).alloc (.map #[] 0)) Tryz.prog 9 (w.heap.size + 1) [] (fun _ => undef) := by
    have := OwnsM.made (w.alloc (.map #[] 0)) Tryz.prog 9 (fun _ => undef)
    simpa using this
  refine ⟨w.heap.size + 2, w.heap.size, w.heap.size + 1, by simp, ⟨?_, ⟨by omega, by omega, by omega⟩, ⟨[], fun _ => undef, ?_, by simp, by simp⟩, ⟨[], fun _ => undef, ?_, by simp, by simp⟩⟩, ⟨by omega, by omega, by omega⟩, (((Below.refl _ _).alloc (Nat.le_refl _) _).alloc (by simp) _).alloc (by simp; omega) _⟩
  · have := Blk.new ((w.alloc (.map #[] 0)).alloc (.map #[] 0)) #[.map (some w.heap.size), .map (some (w.heap.size + 1))] 107
    simpa using this
  · exact q1.same (Below.heap_alloc _ _ _ (by simp; omega))
  · exact q2.same (Below.heap_alloc _ _ _ (by simp))

theorem proved_calls {w : World} {p b1 b2 : Nat} {L : List RevM} (h : BookAt w p b1 b2 L) (s : ByteArray) (hs : s.size ≤ 1000) :
    Calls Tryz.prog 43 #[.pointer (some ⟨p, 0, none⟩), .string s] w fun e w' => e = .returned (.bool (provedL L s.data.toList)) ∧ w' = w := by
  have c0 := h.blk.cell 1
  simp only [List.getElem?_toArray, List.getElem?_cons_zero, List.getElem?_cons_succ] at c0
  have hl := h.lookp s hs
  clear h
  generalize provedL L s.data.toList = r at hl ⊢
  go_enter Tryz.func43, Tryz.ntmps43
  go_wp2_with fail
  go_ret
  exact ⟨rfl, rfl⟩

/-- A revision's eight cells are written. -/
theorem Blk.set8 {w : World} {p : Nat} {t : TypeId} {a0 a1 a2 a3 a4 a5 a6 a7 : Value} (h : Blk w p #[a0, a1, a2, a3, a4, a5, a6, a7] t) (v0 v1 v2 v3 v4 v5 v6 v7 : Value) :
    Blk ((((((((w.setCell ⟨p, 0, none⟩ v0).setCell ⟨p, 1, none⟩ v1).setCell ⟨p, 2, none⟩ v2).setCell ⟨p, 3, none⟩ v3).setCell ⟨p, 4, none⟩ v4).setCell ⟨p, 5, none⟩ v5).setCell ⟨p, 6, none⟩ v6).setCell ⟨p, 7, none⟩ v7) p #[v0, v1, v2, v3, v4, v5, v6, v7] t :=
  ((((((((h.set 0 v0 (cs' := #[v0, a1, a2, a3, a4, a5, a6, a7]) rfl).set 1 v1 (cs' := #[v0, v1, a2, a3, a4, a5, a6, a7]) rfl).set 2 v2 (cs' := #[v0, v1, v2, a3, a4, a5, a6, a7]) rfl).set 3 v3 (cs' := #[v0, v1, v2, v3, a4, a5, a6, a7]) rfl).set 4 v4 (cs' := #[v0, v1, v2, v3, v4, a5, a6, a7]) rfl).set 5 v5 (cs' := #[v0, v1, v2, v3, v4, v5, a6, a7]) rfl).set 6 v6 (cs' := #[v0, v1, v2, v3, v4, v5, v6, a7]) rfl).set 7 v7 (cs' := #[v0, v1, v2, v3, v4, v5, v6, v7]) rfl)
theorem Chg.set8 (w : World) (p : Nat) (v0 v1 v2 v3 v4 v5 v6 v7 : Value) : Chg (fun k => k = p) w ((((((((w.setCell ⟨p, 0, none⟩ v0).setCell ⟨p, 1, none⟩ v1).setCell ⟨p, 2, none⟩ v2).setCell ⟨p, 3, none⟩ v3).setCell ⟨p, 4, none⟩ v4).setCell ⟨p, 5, none⟩ v5).setCell ⟨p, 6, none⟩ v6).setCell ⟨p, 7, none⟩ v7) :=
  ((((((((Chg.refl (fun k => k = p) w).setCell (a := ⟨p, 0, none⟩) (fun _ => rfl) _).setCell (a := ⟨p, 1, none⟩) (fun _ => rfl) _).setCell (a := ⟨p, 2, none⟩) (fun _ => rfl) _).setCell (a := ⟨p, 3, none⟩) (fun _ => rfl) _).setCell (a := ⟨p, 4, none⟩) (fun _ => rfl) _).setCell (a := ⟨p, 5, none⟩) (fun _ => rfl) _).setCell (a := ⟨p, 6, none⟩) (fun _ => rfl) _).setCell (a := ⟨p, 7, none⟩) (fun _ => rfl) _
/-- .. and read. -/
theorem Blk.cells8 {w : World} {p : Nat} {t : TypeId} {a0 a1 a2 a3 a4 a5 a6 a7 : Value} (h : Blk w p #[a0, a1, a2, a3, a4, a5, a6, a7] t) : w.cell? ⟨p, 0, none⟩ = some a0 ∧ w.cell? ⟨p, 1, none⟩ = some a1 ∧ w.cell? ⟨p, 2, none⟩ = some a2 ∧ w.cell? ⟨p, 3, none⟩ = some a3 ∧ w.cell? ⟨p, 4, none⟩ = some a4 ∧ w.cell? ⟨p, 5, none⟩ = some a5 ∧ w.cell? ⟨p, 6, none⟩ = some a6 ∧ w.cell? ⟨p, 7, none⟩ = some a7 :=
  ⟨h.cell 0, h.cell 1, h.cell 2, h.cell 3, h.cell 4, h.cell 5, h.cell 6, h.cell 7⟩
theorem Blk.frozen8 {w : World} {p : Nat} {t : TypeId} {a0 a1 a2 a3 a4 a5 a6 a7 : Value} (h : Blk w p #[a0, a1, a2, a3, a4, a5, a6, a7] t) : w.frozen? ⟨p, 0, none⟩ = false ∧ w.frozen? ⟨p, 1, none⟩ = false ∧ w.frozen? ⟨p, 2, none⟩ = false ∧ w.frozen? ⟨p, 3, none⟩ = false ∧ w.frozen? ⟨p, 4, none⟩ = false ∧ w.frozen? ⟨p, 5, none⟩ = false ∧ w.frozen? ⟨p, 6, none⟩ = false ∧ w.frozen? ⟨p, 7, none⟩ = false :=
  ⟨h.frozen 0, h.frozen 1, h.frozen 2, h.frozen 3, h.frozen 4, h.frozen 5, h.frozen 6, h.frozen 7⟩

/-- What a Book has behind Stamp, Prove. -/
def stampL (L : List RevM) (c : CfgM) (g : Int) : List RevM := if (findR L (revN c.nm g).data.toList).isNone then L ++ [⟨c, g, false⟩] else L
def proveL (L : List RevM) (x : List UInt8) : List RevM := L.map (fun r => if r.key == x then ⟨r.c, r.g, true⟩ else r)
theorem ba_ext {a b : ByteArray} (h : a.data.toList = b.data.toList) : a = b := by
  obtain ⟨a⟩ := a
  obtain ⟨b⟩ := b
  simp only at h
  rw [Array.toList_inj.1 h]
theorem OkL.stamp {L : List RevM} (h : OkL L) {c : CfgM} (hv : ValidN c.nm) {g : Int} (h0 : 1 ≤ g) (h1 : g ≤ 999999) (hn : L.length < 1000) : OkL (stampL L c g) := by
  unfold stampL
  cases e : findR L (revN c.nm g).data.toList with
  | some r => rw [if_neg (by simp)]; exact h
  | none =>
    rw [if_pos (by rfl)]
    refine ⟨fun r hr => ?_, ?_, by simp; omega⟩
    · rcases List.mem_append.1 hr with hr | hr
      · exact h.each r hr
      · rw [List.mem_singleton.1 hr]; exact ⟨hv, h0, h1⟩
    · rw [List.map_append, List.nodup_append]
      refine ⟨h.nodup, by simp, fun a ha b hb e' => ?_⟩
      obtain ⟨r, hr, rfl⟩ := List.mem_map.1 ha
      rw [List.map_singleton, List.mem_singleton] at hb
      exact findR_none e r hr (e'.trans hb)
theorem nodup_len : ∀ {S T : List (List UInt8)}, S.Nodup → (∀ x ∈ S, x ∈ T) → S.length ≤ T.length
  | [], _, _, _ => Nat.zero_le _
  | x :: S, T, h, hs => by
    rw [List.nodup_cons] at h
    have h1 := nodup_len (S := S) (T := T.erase x) h.2 (fun y hy => (List.mem_erase_of_ne (fun e => h.1 (by rw [← e]; exact hy))).2 (hs y (List.mem_cons_of_mem _ hy)))
    rw [List.length_erase_of_mem (hs x (List.mem_cons_self ..))] at h1
    have h2 : 0 < T.length := List.length_pos_of_mem (hs x (List.mem_cons_self ..))
    simp only [List.length_cons]
    omega
theorem stampL_len (L : List RevM) (c : CfgM) (g : Int) : (stampL L c g).length ≤ L.length + 1 := by unfold stampL; split <;> simp
theorem proveL_key (L : List RevM) (x : List UInt8) : (proveL L x).map RevM.key = L.map RevM.key := by
  unfold proveL
  rw [List.map_map]
  refine List.map_congr_left (fun r _ => ?_)
  show RevM.key (if r.key == x then ⟨r.c, r.g, true⟩ else r) = r.key
  split <;> rfl
theorem OkL.prove {L : List RevM} (h : OkL L) (x : List UInt8) : OkL (proveL L x) := by
  refine ⟨fun r hr => ?_, by rw [proveL_key]; exact h.nodup, by unfold proveL; rw [List.length_map]; exact h.len⟩
  unfold proveL at hr
  obtain ⟨s, hs, rfl⟩ := List.mem_map.1 hr
  split
  · exact h.each s hs
  · exact h.each s hs

set_option maxRecDepth 100000 in
set_option maxHeartbeats 4000000 in
theorem stamp_calls {w : World} {p b1 b2 : Nat} {L : List RevM} (h : BookAt w p b1 b2 L) (hL : OkL L) (c : CfgM) (hv : ValidN c.nm) (g : Int) (h0 : 1 ≤ g) (h1 : g ≤ 999999) (ht : ∀ w', Below w.heap.size w w' → Pow10 w') :
    Calls Tryz.prog 17 #[.pointer (some ⟨p, 0, none⟩), encC c, .int .i64 g] w fun e w' => e = .returned (.tuple #[.string (revN c.nm g), .bool (findR L (revN c.nm g).data.toList).isNone]) ∧ BookAt w' p b1 b2 (stampL L c g) ∧ Chg (fun k => k = b1 ∨ k = b2) w w' := by
  have hlt := h.lt
  have hlen := hL.len
  have hsz := revN_size c.nm hv.hi g (by omega) h1
  have hne := revN_ne c.nm g
  have HT := Lib.hid ht
  have HV := Lib.hid hv
  obtain ⟨rv, hrv⟩ : ∃ rv, rv = revN c.nm g := ⟨_, rfl⟩
  have HRV := Lib.hid (show ∀ r : RevM, r.key = rv.data.toList → r.nm = rv from fun r e => ba_ext e)
  have hkey := Lib.hid (show (⟨c, g, false⟩ : RevM).key = rv.data.toList from by rw [hrv]; rfl)
  have hnmE := Lib.hid (show (⟨c, g, false⟩ : RevM).nm = rv from by rw [hrv]; rfl)
  have HRE := Lib.hid hrv
  unfold encC stampL
  rw [← hrv] at hsz hne ⊢
  obtain ⟨L', hL'⟩ : ∃ L', L' = (if (findR L rv.data.toList).isNone then L ++ [⟨c, g, false⟩] else L) := ⟨_, rfl⟩
  obtain ⟨bb, hbb⟩ : ∃ bb, bb = (findR L rv.data.toList).isNone := ⟨_, rfl⟩
  have HL' := Lib.hid hL'
  have HBB := Lib.hid hbb
  rw [← hL', ← hbb]
  clear hL' hbb
  have hemp : rv.toList.isEmpty = false := by
    cases e : rv.toList with
    | nil => exact absurd e hne
    | cons _ _ => rfl
  clear hrv hne
  obtain ⟨W1, hW1⟩ : ∃ W1, W1 = w.alloc (.cells #[.string c.nm, .int .i64 c.img, .int .i64 c.conc, .int .i64 c.mn, .int .i64 c.mx, .int .i64 c.grc] 58) := ⟨_, rfl⟩
  have bW1 : Below w.heap.size w W1 := by rw [hW1]; exact (Below.refl _ _).alloc (Nat.le_refl _) _
  have k1 : Blk W1 w.heap.size #[.string c.nm, .int .i64 c.img, .int .i64 c.conc, .int .i64 c.mn, .int .i64 c.mx, .int .i64 c.grc] 58 := by rw [hW1]; exact Blk.new _ _ _
  have HB := Lib.hid (h.below bW1)
  have HW1 := Lib.hid hW1
  have e0 := k1.cell 0
  simp only [List.getElem?_toArray, List.getElem?_cons_zero] at e0
  have K1 := Lib.hid k1
  have BW1 := Lib.hid bW1
  clear hW1 bW1 k1 h hv ht
  go_enter Tryz.func17, Tryz.ntmps17
  go_wp2_with fail
  rw [← HW1.out]
  clear HW1
  refine (rev_calls c.nm HV.out g h0 h1 _ (fun w' hb => HT.out w' (below_step BW1.out hb))).mono ?_
  rintro e w2 ⟨rfl, hb2⟩
  have HB2 := Lib.hid (HB.out.below hb2)
  have K2 := Lib.hid (K1.out.below hb2 K1.out.lt)
  have B2 := Lib.hid (below_step BW1.out hb2)
  have hbk := HB2.out.blk
  have c0 := hbk.cell 0
  simp only [List.getElem?_toArray, List.getElem?_cons_zero] at c0
  have hlk := HB2.out.look rv (by omega)
  rw [← HRE.out]
  clear hb2 HB K1 BW1 e0 hbk HRE
  cases hf : findR L rv.data.toList with
  | some r =>
    rw [hf] at hlk
    obtain rfl : bb = false := by rw [HBB.out, hf]; rfl
    obtain rfl : L' = L := by rw [HL'.out, hf]; rfl
    have hr := HRV.out r (findR_some hf).2
    simp only [encR, cellsR] at hlk
    rw [hr] at hlk
    go_wp2_with fail
    exact bodyPost_ret (v := .tuple #[.string rv, .bool false]) (by simp [results, Tryz.results17, go_sem]) rfl ⟨rfl, HB2.out, Chg.of_below B2.out (fun k h1 h2 => by omega)⟩
  | none =>
    rw [hf] at hlk
    obtain rfl : bb = true := by rw [HBB.out, hf]; rfl
    obtain rfl : L' = L ++ [⟨c, g, false⟩] := by rw [HL'.out, hf]; rfl
    simp only [zeroR, cellsR, zeroC] at hlk
    clear HL' HBB
    go_wp2_with fail
    clear hlk
    have hd := (Below.refl w2.heap.size w2).drew
    have HB3 := Lib.hid (HB2.out.below hd)
    have K3 := Lib.hid (K2.out.below hd K2.out.lt)
    have hbk3 := HB3.out.blk
    have hbt := HB3.out
    obtain ⟨_, hnn, ⟨S, f, a1, a2, a3⟩, hprv⟩ := hbt
    have hSl : S.length ≤ 1000 := by
      have hp : S.Perm (L.map RevM.key) := (List.perm_ext_iff_of_nodup a1.nodup hL.nodup).2 (fun x => by rw [a2, List.mem_map])
      rw [hp.length_eq, List.length_map]
      exact hlen
    have A1 := Lib.hid a1
    have A2 := Lib.hid a2
    have A3 := Lib.hid a3
    have HPV := Lib.hid hprv
    have BD := Lib.hid (below_step B2.out hd)
    clear a1 a2 a3 hprv hd c0
    refine start_ (n := 10) (S := fun w' => w'.cell? ⟨p, 0, none⟩ = some (.map (some b1)) ∧ w'.cell? ⟨w.heap.size, 0, none⟩ = some (.string c.nm) ∧ w'.cell? ⟨w.heap.size, 1, none⟩ = some (.int .i64 c.img) ∧ w'.cell? ⟨w.heap.size, 2, none⟩ = some (.int .i64 c.conc) ∧ w'.cell? ⟨w.heap.size, 3, none⟩ = some (.int .i64 c.mn) ∧ w'.cell? ⟨w.heap.size, 4, none⟩ = some (.int .i64 c.mx) ∧ w'.cell? ⟨w.heap.size, 5, none⟩ = some (.int .i64 c.grc)) (ds := [9]) #[false, false, false, false, false, false, false, false, false, false] (by kernel_rfl) rfl rfl ⟨hbk3.cell 0, K3.out.cell 0, K3.out.cell 1, K3.out.cell 2, K3.out.cell 3, K3.out.cell 4, K3.out.cell 5⟩ (fun hHeld => ?_)
    refine pure_ (i := 0) (N := some 25) (v := ?_) (a' := ?_) #[true, false, false, false, false, false, false, false, false, false] rfl rfl (by kernel_rfl) (fun _ _ _ h => h) (Or.inl ⟨by rfl, ?_⟩) ?_ ?_
    rotate_left
    · intro w'
      go_simp
      with_reducible rfl
    rotate_left
    · simp only [Act.put, List.setIfInBounds_toArray, List.set_cons_zero, List.set_cons_succ]
      rfl
    refine pure_ (i := 1) (N := some 26) (v := ?_) (a' := ?_) #[true, true, false, false, false, false, false, false, false, false] rfl rfl (by kernel_rfl) (fun _ _ _ h => h) (Or.inl ⟨by rfl, ?_⟩) ?_ ?_
    rotate_left
    · intro w'
      go_simp
      with_reducible rfl
    rotate_left
    · simp only [Act.put, List.setIfInBounds_toArray, List.set_cons_zero, List.set_cons_succ]
      rfl
    refine pure_ (i := 2) (N := some 27) (v := ?_) (a' := ?_) #[true, true, true, false, false, false, false, false, false, false] rfl rfl (by kernel_rfl) (fun _ _ _ h => h) (Or.inl ⟨by rfl, ?_⟩) ?_ ?_
    rotate_left
    · intro w'
      go_simp
      with_reducible rfl
    rotate_left
    · simp only [Act.put, List.setIfInBounds_toArray, List.set_cons_zero, List.set_cons_succ]
      rfl
    refine pure_ (i := 4) (N := some 29) (v := ?_) (a' := ?_) #[true, true, true, false, true, false, false, false, false, false] rfl rfl (by kernel_rfl) (fun _ _ _ h => h) (Or.inl ⟨by rfl, ?_⟩) ?_ ?_
    rotate_left
    · intro w'
      go_simp
      with_reducible rfl
    rotate_left
    · simp only [Act.put, List.setIfInBounds_toArray, List.set_cons_zero, List.set_cons_succ]
      rfl
    refine pure_ (i := 5) (N := some 30) (v := ?_) (a' := ?_) #[true, true, true, false, true, true, false, false, false, false] rfl rfl (by kernel_rfl) (fun _ _ _ h => h) (Or.inl ⟨by rfl, ?_⟩) ?_ ?_
    rotate_left
    · intro w'
      go_simp
      with_reducible rfl
    rotate_left
    · simp only [Act.put, List.setIfInBounds_toArray, List.set_cons_zero, List.set_cons_succ]
      rfl
    refine pure_ (i := 6) (N := some 31) (v := ?_) (a' := ?_) #[true, true, true, false, true, true, true, false, false, false] rfl rfl (by kernel_rfl) (fun _ _ _ h => h) (Or.inl ⟨by rfl, ?_⟩) ?_ ?_
    rotate_left
    · intro w'
      go_simp
      with_reducible rfl
    rotate_left
    · simp only [Act.put, List.setIfInBounds_toArray, List.set_cons_zero, List.set_cons_succ]
      rfl
    refine take_ (i := 3) (N := some 28) (v := ?_) (a' := ?_) #[true, true, true, true, true, true, true, false, false, false] rfl rfl (by kernel_rfl) (fun _ _ _ h => h) (Or.inl ⟨by rfl, ?_⟩) hHeld ?_ ?_
    rotate_left
    · rintro w' ⟨s0, s1, s2, s3, s4, s5, s6⟩
      go_simp
      with_reducible rfl
    rotate_left
    · simp only [Act.put, List.setIfInBounds_toArray, List.set_cons_zero, List.set_cons_succ]
      rfl
    refine take_ (i := 7) (N := some 32) (v := ?_) (a' := ?_) #[true, true, true, true, true, true, true, true, false, false] rfl rfl (by kernel_rfl) (fun _ _ _ h => h) (Or.inl ⟨by rfl, ?_⟩) hHeld ?_ ?_
    rotate_left
    · rintro w' ⟨s0, s1, s2, s3, s4, s5, s6⟩
      go_simp
      with_reducible rfl
    rotate_left
    · simp only [Act.put, List.setIfInBounds_toArray, List.set_cons_zero, List.set_cons_succ]
      rfl
    refine pure_ (i := 8) (N := some 33) (v := ?_) (a' := ?_) #[true, true, true, true, true, true, true, true, true, false] rfl rfl (by kernel_rfl) (fun _ _ _ h => h) (Or.inl ⟨by rfl, ?_⟩) ?_ ?_
    rotate_left
    · intro w'
      go_simp
      with_reducible rfl
    rotate_left
    · simp only [Act.put, List.setIfInBounds_toArray, List.set_cons_zero, List.set_cons_succ]
      rfl
    refine last_ (i := 9) (N := none) #[true, true, true, true, true, true, true, true, true, true] rfl rfl (by kernel_rfl) (by decide) (fun K hK => ?_)
    refine step_putM _ rfl rfl (.tmp 28) (.tmp 29) (.tmp 33) 103 rfl 9 88 Tryz.underlying9 Tryz.underlying103 b1 S f (by rfl) A1.out (by unfold maxLen; omega) rv (by rfl) (by unfold maxLen; omega) (.agg (cellsR rv g c)) (by rfl) ?_
    intro w8 hs8 ht8
    refine hK.out _ _ ?_
    clear hK K
    refine done_ (by kernel_rfl) ?_
    have hc8 := Chg.of_turned (F := fun k => k = b1) ht8 rfl
    go_wp2_with fail
    refine bodyPost_ret (v := .tuple #[.string rv, .bool true]) (by simp [results, Tryz.results17, go_sem]) rfl ⟨rfl, ?_, (Chg.of_below BD.out (F := fun k => k = b1 ∨ k = b2) (fun k h1 h2 => by omega)).trans hc8 (fun k _ e => .inl e)⟩
    refine ⟨hbk3.chg hc8 hnn.1, hnn, ⟨_, _, hs8, fun x => ?_, fun r hr => ?_⟩, ?_⟩
    · rw [mem_addKey, A2.out]
      constructor
      · rintro (rfl | ⟨r, hr, e⟩)
        · exact ⟨_, List.mem_append_right _ (List.mem_singleton.2 rfl), hkey.out⟩
        · exact ⟨r, List.mem_append_left _ hr, e⟩
      · rintro ⟨r, hr, e⟩
        rcases List.mem_append.1 hr with hr | hr
        · exact .inr ⟨r, hr, e⟩
        · rw [List.mem_singleton.1 hr] at e
          exact .inl (e.symm.trans hkey.out)
    · unfold setKey
      rcases List.mem_append.1 hr with hr | hr
      · rw [if_neg (fun e => findR_none hf r hr e)]
        exact A3.out r hr
      · rw [List.mem_singleton.1 hr, if_pos hkey.out]
        show Value.agg (cellsR rv g c) = .agg (cellsR (⟨c, g, false⟩ : RevM).nm g c)
        rw [hnmE.out]
    · obtain ⟨S', f', q1, q2, q3⟩ := HPV.out
      refine ⟨S', f', q1.chg hc8 (fun e => hnn.2.2 e.symm), fun x => ?_, q3⟩
      rw [q2]
      constructor
      · rintro ⟨r, hr, e⟩
        exact ⟨r, List.mem_append_left _ hr, e⟩
      · rintro ⟨r, hr, e⟩
        rcases List.mem_append.1 hr with hr | hr
        · exact ⟨r, hr, e⟩
        · rw [List.mem_singleton.1 hr] at e
          cases e.2

theorem get_calls {w : World} {p b1 b2 : Nat} {L : List RevM} (h : BookAt w p b1 b2 L) (s : ByteArray) (hs : s.size ≤ 1000) :
    Calls Tryz.prog 42 #[.pointer (some ⟨p, 0, none⟩), .string s] w fun e w' => e = .returned (.tuple #[match findR L s.data.toList with | some r => encR r | none => zeroR, .bool (findR L s.data.toList).isSome]) ∧ Below w.heap.size w w' := by
  have hlt := h.lt
  obtain ⟨W1, hW1⟩ : ∃ W1, W1 = w.alloc (.cells #[.string ⟨#[]⟩, .int .i64 0, .string ⟨#[]⟩, .int .i64 0, .int .i64 0, .int .i64 0, .int .i64 0, .int .i64 0] 88) := ⟨_, rfl⟩
  have bW1 : Below w.heap.size w W1 := by rw [hW1]; exact (Below.refl _ _).alloc (Nat.le_refl _) _
  have hB := h.below bW1
  have hl := hB.lookok s hs
  have c0 := hB.blk.cell 0
  simp only [List.getElem?_toArray, List.getElem?_cons_zero] at c0
  have HW1 := Lib.hid hW1
  have BW1 := Lib.hid bW1
  obtain ⟨n, g, c, hE⟩ : ∃ n g c, (match findR L s.data.toList with | some r => encR r | none => zeroR) = .agg (cellsR n g c) := by
    cases findR L s.data.toList with
    | some r => exact ⟨r.nm, r.g, r.c, rfl⟩
    | none => exact ⟨⟨#[]⟩, 0, zeroC, rfl⟩
  rw [hE] at hl ⊢
  generalize (findR L s.data.toList).isSome = is at hl ⊢
  have k1 : Blk W1 w.heap.size #[.string ⟨#[]⟩, .int .i64 0, .string ⟨#[]⟩, .int .i64 0, .int .i64 0, .int .i64 0, .int .i64 0, .int .i64 0] 88 := by rw [hW1]; exact Blk.new _ _ _
  have K1 := Lib.hid k1
  unfold cellsR at hl ⊢
  clear hW1 bW1 hB hE h k1
  go_enter Tryz.func42, Tryz.ntmps42
  go_upto_region 1 with fail
  rw [← HW1.out]
  clear HW1
  have b2 : Below W1.heap.size W1 (W1.alloc (.cells #[.string n, .int .i64 g, .string c.nm, .int .i64 c.img, .int .i64 c.conc, .int .i64 c.mn, .int .i64 c.mx, .int .i64 c.grc] 88)) := (Below.refl _ _).alloc (Nat.le_refl _) _
  obtain ⟨W2, hW2⟩ : ∃ W2, W2 = W1.alloc (.cells #[.string n, .int .i64 g, .string c.nm, .int .i64 c.img, .int .i64 c.conc, .int .i64 c.mn, .int .i64 c.mx, .int .i64 c.grc] 88) := ⟨_, rfl⟩
  have k2 : Blk W2 W1.heap.size #[.string n, .int .i64 g, .string c.nm, .int .i64 c.img, .int .i64 c.conc, .int .i64 c.mn, .int .i64 c.mx, .int .i64 c.grc] 88 := by rw [hW2]; exact Blk.new _ _ _
  rw [← hW2] at b2
  have HK2 := Lib.hid k2
  have HB2 := Lib.hid b2
  clear k2 b2
  go_upto_region 2 with fail
  rw [← hW2]
  clear hW2 hl c0
  have K1' := Lib.hid (K1.out.below HB2.out K1.out.lt)
  have B2 := Lib.hid (below_step BW1.out HB2.out)
  obtain ⟨d0, d1, d2, d3, d4, d5, d6, d7⟩ := Blk.cells8 HK2.out
  obtain ⟨e0, e1, e2, e3, e4, e5, e6, e7⟩ := Blk.cells8 K1'.out
  obtain ⟨f0, f1, f2, f3, f4, f5, f6, f7⟩ := Blk.frozen8 K1'.out
  go_wp2_with fail
  have k9 := Blk.set8 K1'.out (.string n) (.int .i64 g) (.string c.nm) (.int .i64 c.img) (.int .i64 c.conc) (.int .i64 c.mn) (.int .i64 c.mx) (.int .i64 c.grc)
  have c9 := Chg.set8 W2 w.heap.size (.string n) (.int .i64 g) (.string c.nm) (.int .i64 c.img) (.int .i64 c.conc) (.int .i64 c.mn) (.int .i64 c.mx) (.int .i64 c.grc)
  obtain ⟨g0, g1, g2, g3, g4, g5, g6, g7⟩ := Blk.cells8 k9
  exact bodyPost_ret (v := .tuple #[.agg #[.string n, .int .i64 g, .string c.nm, .int .i64 c.img, .int .i64 c.conc, .int .i64 c.mn, .int .i64 c.mx, .int .i64 c.grc], .bool is]) (by simp [results, Tryz.results42, go_sem, g0, g1, g2, g3, g4, g5, g6, g7]) rfl ⟨rfl, c9.below_of B2.out B2.out.size (fun k hk e => by omega)⟩

set_option maxRecDepth 100000 in
set_option maxHeartbeats 1000000 in
theorem prove_calls {w : World} {p b1 b2 : Nat} {L : List RevM} (h : BookAt w p b1 b2 L) (hL : OkL L) (s : ByteArray) (hs : s.size ≤ 1000) :
    Calls Tryz.prog 19 #[.pointer (some ⟨p, 0, none⟩), .string s] w fun e w' => e = .returned (.int .i64 (if (findR L s.data.toList).isSome then 0 else 6)) ∧ BookAt w' p b1 b2 (proveL L s.data.toList) ∧ Chg (fun k => k = b1 ∨ k = b2) w w' := by
  have hlt := h.lt
  have hlen := hL.len
  have hl := h.lookok s hs
  have c0 := h.blk.cell 0
  have c1 := h.blk.cell 1
  simp only [List.getElem?_toArray, List.getElem?_cons_zero, List.getElem?_cons_succ] at c0 c1
  obtain ⟨n, g, c, hE⟩ : ∃ n g c, (match findR L s.data.toList with | some r => encR r | none => zeroR) = .agg (cellsR n g c) := by
    cases findR L s.data.toList with
    | some r => exact ⟨r.nm, r.g, r.c, rfl⟩
    | none => exact ⟨⟨#[]⟩, 0, zeroC, rfl⟩
  rw [hE] at hl
  unfold cellsR at hl
  have b1_ : Below w.heap.size w (w.alloc (.cells #[.string n, .int .i64 g, .string c.nm, .int .i64 c.img, .int .i64 c.conc, .int .i64 c.mn, .int .i64 c.mx, .int .i64 c.grc] 88)) := (Below.refl _ _).alloc (Nat.le_refl _) _
  have HB1 := Lib.hid (h.below b1_)
  have B1 := Lib.hid b1_
  have H := Lib.hid h
  clear hE h b1_
  cases hf : findR L s.data.toList with
  | none =>
    have hq : proveL L s.data.toList = L := by
      unfold proveL
      rw [show L = L.map id by simp]
      rw [List.map_map]
      refine List.map_congr_left (fun r hr => ?_)
      show (if r.key == s.data.toList then (⟨r.c, r.g, true⟩ : RevM) else r) = r
      rw [if_neg (by simpa using findR_none hf r hr)]
    rw [hf] at hl
    rw [hq]
    simp only [Option.isSome_none] at hl ⊢
    go_enter Tryz.func19, Tryz.ntmps19
    go_wp2_with fail
    go_ret
    exact ⟨rfl, HB1.out, Chg.of_below B1.out (fun k h1 h2 => by omega)⟩
  | some r =>
    rw [hf] at hl
    simp only [Option.isSome_some] at hl ⊢
    have d1 := HB1.out.blk.cell 1
    simp only [List.getElem?_toArray, List.getElem?_cons_zero, List.getElem?_cons_succ] at d1
    have hbt := HB1.out
    obtain ⟨hbk, hnn, ⟨S1, f1, q1, q2, q3⟩, ⟨S, f, a1, a2, a3⟩⟩ := hbt
    have hSl : S.length ≤ 1000 := by
      refine Nat.le_trans (nodup_len (T := L.map RevM.key) a1.nodup (fun x hx => ?_)) (by rw [List.length_map]; exact hlen)
      obtain ⟨r, hr, e, _⟩ := (a2 x).1 hx
      exact List.mem_map.2 ⟨r, hr, e⟩
    have A1 := Lib.hid a1
    have A2 := Lib.hid a2
    have A3 := Lib.hid a3
    have Q1 := Lib.hid q1
    have Q2 := Lib.hid q2
    have Q3 := Lib.hid q3
    have HBK := Lib.hid hbk
    clear a1 a2 a3 q1 q2 q3 hbk
    go_enter Tryz.func19, Tryz.ntmps19
    go_wp2_with (at_mapUpdate; refine wpList_putM _ rfl (.tmp 21) (.tmp 22) (.const (.bool true)) 105 rfl 9 4 Tryz.underlying9 Tryz.underlying105 b2 S f (by rfl) A1.out (by unfold maxLen; omega) s (by rfl) (by unfold maxLen; omega) (.bool true) (by rfl) ?_; intro w8 hs8 ht8)
    go_ret
    have hc8 := Chg.of_turned (F := fun k => k = b2) ht8 rfl
    refine ⟨rfl, ⟨HBK.out.chg hc8 hnn.2.1, hnn, ⟨S1, f1, Q1.out.chg hc8 hnn.2.2, fun x => ?_, fun r' hr' => ?_⟩, ⟨_, _, hs8, fun x => ?_, fun x hx => ?_⟩⟩, (Chg.of_below B1.out (F := fun k => k = b1 ∨ k = b2) (fun k h1 h2 => by omega)).trans hc8 (fun k _ e => .inr e)⟩
    · rw [Q2.out, ← List.mem_map, ← List.mem_map, proveL_key]
    · unfold proveL at hr'
      obtain ⟨t, ht, rfl⟩ := List.mem_map.1 hr'
      split
      · exact Q3.out t ht
      · exact Q3.out t ht
    · rw [mem_addKey, A2.out]
      unfold proveL
      constructor
      · rintro (rfl | ⟨t, ht, e, ho⟩)
        · obtain ⟨h1, h2⟩ := findR_some hf
          exact ⟨⟨r.c, r.g, true⟩, List.mem_map.2 ⟨r, h1, by rw [if_pos (by simpa using h2)]⟩, h2, rfl⟩
        · refine ⟨_, List.mem_map.2 ⟨t, ht, rfl⟩, ?_, ?_⟩
          · split
            · exact e
            · exact e
          · split
            · rfl
            · exact ho
      · rintro ⟨t', ht', e, ho⟩
        obtain ⟨t, ht, rfl⟩ := List.mem_map.1 ht'
        by_cases hk : t.key = s.data.toList
        · rw [if_pos (by simpa using hk)] at e
          exact .inl (e.symm.trans hk)
        · rw [if_neg (by simpa using hk)] at e ho
          exact .inr ⟨t, ht, e, ho⟩
    · unfold setKey
      by_cases e : x = s.data.toList
      · rw [if_pos e]
      · rw [if_neg e]
        rcases mem_addKey.1 hx with h | h
        · exact absurd h e
        · exact A3.out x h

end Go.Proofs.YtnkmpkhiilnigaaGreatDoor.PB
