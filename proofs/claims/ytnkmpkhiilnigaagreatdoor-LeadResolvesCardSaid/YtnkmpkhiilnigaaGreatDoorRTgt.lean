/- lead.target: which revision a target leads to. -/
import Derived.Test.YtnkmpkhiilnigaaGreatDoorSPlainB
import Derived.Test.YtnkmpkhiilnigaaGreatDoorGLead
set_option linter.unusedSimpArgs false
set_option linter.unusedVariables false
namespace Go.Proofs.YtnkmpkhiilnigaaGreatDoor.PR
open Go.RowKit Go.Shelf Go.Lib Go.Sort Go.Maps Go.Proofs.YtnkmpkhiilnigaaGreatDoor.PA Go.Proofs.YtnkmpkhiilnigaaGreatDoorW.PrintWords Go.Proofs.YtnkmpkhiilnigaaGreatDoorW.PrintLast

theorem stepB {w0 w1 w2 : World} (h : Below w0.heap.size w0 w1) (k : Below w1.heap.size w1 w2) : Below w0.heap.size w0 w2 := h.trans (k.mono h.size)
theorem str_ne {s : ByteArray} (h : s.size ≠ 0) : (s.toList == (⟨#[]⟩ : ByteArray).toList) = false ∧ s.toList.isEmpty = false := by
  have hl : s.toList ≠ [] := fun e => h (by
    rw [ByteArray.toList_eq] at e
    have := congrArg List.length e
    simpa using this)
  constructor
  · rw [beq_eq_false_iff_ne]
    intro e
    apply hl
    rw [e, ByteArray.toList_eq]
  · rw [List.isEmpty_eq_false_iff]
    exact hl
theorem str_eq {s : ByteArray} (h : s.size = 0) : s = ⟨#[]⟩ := by
  apply ByteArray.ext
  exact Array.eq_empty_of_size_eq_zero h
/-- What target tells: the revision, or why none. -/
def tgt (L : List PB.RevM) (cfg rev : ByteArray) : ByteArray × Int :=
  if rev.size = 0 then (if (PB.latestN L cfg (PB.provedL L)).size = 0 then (⟨#[]⟩, 9) else (PB.latestN L cfg (PB.provedL L), 0))
  else if (PB.findR L rev.data.toList).isNone then (⟨#[]⟩, 6)
  else if PB.provedL L rev.data.toList then (rev, 0) else (⟨#[]⟩, 9)

set_option maxRecDepth 100000 in
set_option maxHeartbeats 4000000 in
theorem target_calls {w : World} {p b1 b2 : Nat} {L : List PB.RevM} (h : PB.BookAt w p b1 b2 L) (hL : PB.OkL L) (rev tag nm cfg : ByteArray) (pct roll : Int) (T : Option Addr) (n c : Nat) (hs : rev.size ≤ 1000) :
    Calls Tryz.prog 23 #[.agg #[.string rev, .string tag, .int .i64 pct], .agg #[.string nm, .string cfg, .slice T n c, .int .i64 roll], .pointer (some ⟨p, 0, none⟩)] w fun e w' => e = .returned (.tuple #[.string (tgt L cfg rev).1, .int .i64 (tgt L cfg rev).2]) ∧ Below w.heap.size w w' := by
  have HL := Lib.hid hL
  clear hL
  go_enter Tryz.func23, Tryz.ntmps23
  obtain ⟨W1, hW1⟩ : ∃ W1, W1 = w.alloc (.cells #[.string rev, .string tag, .int .i64 pct] 70) := ⟨_, rfl⟩
  have b1_ : Below w.heap.size w W1 := by rw [hW1]; exact (Below.refl _ _).alloc (Nat.le_refl _) _
  have k1 : Blk W1 w.heap.size #[.string rev, .string tag, .int .i64 pct] 70 := by rw [hW1]; exact Blk.new _ _ _
  obtain ⟨W2, hW2⟩ : ∃ W2, W2 = W1.alloc (.cells #[.string nm, .string cfg, .slice T n c, .int .i64 roll] 31) := ⟨_, rfl⟩
  have b2_ : Below W1.heap.size W1 W2 := by rw [hW2]; exact (Below.refl _ _).alloc (Nat.le_refl _) _
  have k2 : Blk W2 W1.heap.size #[.string nm, .string cfg, .slice T n c, .int .i64 roll] 31 := by rw [hW2]; exact Blk.new _ _ _
  obtain ⟨g1, hg1⟩ : ∃ g1, g1 = w.heap.size := ⟨_, rfl⟩
  have hg2 : W1.heap.size = g1 + 1 := by rw [hW1, hg1]; simp
  rw [← hg1] at k1
  rw [hg2] at k2
  have bb := stepB b1_ b2_
  have HB := Lib.hid (h.below bb)
  have K1 := Lib.hid (k1.below b2_ k1.lt)
  have K2 := Lib.hid k2
  have BB := Lib.hid bb
  clear b1_ b2_ k1 k2 bb h
  go_upto_region 1 with fail
  rw [← hW1, ← hg1, ← hW2]
  clear hW1 hg1 hW2 hg2
  have q0 := K1.out.cell 0
  have q1 := K2.out.cell 1
  simp only [List.getElem?_toArray, List.getElem?_cons_zero, List.getElem?_cons_succ] at q0 q1
  by_cases hz : rev.size = 0
  · obtain rfl := str_eq hz
    have ht : tgt L cfg ⟨#[]⟩ = if (PB.latestN L cfg (PB.provedL L)).size = 0 then (⟨#[]⟩, 9) else (PB.latestN L cfg (PB.provedL L), 0) := if_pos rfl
    have HTG := Lib.hid ht
    clear hz ht hs
    go_wp2_with fail
    refine (PB.both_calls HB.out HL.out cfg).mono ?_
    rintro e w3 ⟨rfl, hb3⟩
    have B3 := Lib.hid (stepB BB.out hb3)
    clear hb3
    obtain ⟨ln, hln⟩ : ∃ ln, ln = PB.latestN L cfg (PB.provedL L) := ⟨_, rfl⟩
    rw [← hln] at HTG ⊢
    clear hln
    by_cases hz : ln.size = 0
    · obtain rfl := str_eq hz
      go_wp2_with fail
      exact bodyPost_ret (v := .tuple #[.string (⟨#[]⟩ : ByteArray), .int .i64 9]) (by simp [results, Tryz.results23, go_sem]) rfl ⟨by rw [HTG.out]; rfl, B3.out⟩
    · obtain ⟨e1, e2⟩ := str_ne hz
      go_wp2_with fail
      exact bodyPost_ret (v := .tuple #[.string ln, .int .i64 0]) (by simp [results, Tryz.results23, go_sem]) rfl ⟨by rw [HTG.out, if_neg hz], B3.out⟩
  · obtain ⟨e1, e2⟩ := str_ne hz
    cases hf : PB.findR L rev.data.toList with
    | none =>
      have HTG := Lib.hid (show tgt L cfg rev = (⟨#[]⟩, 6) from by unfold tgt; rw [if_neg hz, hf]; rfl)
      have GN := Lib.hid (PB.get_none HB.out rev hs hf)
      clear hf hz hs
      go_wp2_with fail
      refine GN.out.mono ?_
      rintro e w3 ⟨rfl, hb3⟩
      have B3 := Lib.hid (stepB BB.out hb3)
      clear hb3
      go_wp2_with fail
      exact bodyPost_ret (v := .tuple #[.string (⟨#[]⟩ : ByteArray), .int .i64 6]) (by simp [results, Tryz.results23, go_sem]) rfl ⟨by rw [HTG.out], B3.out.alloc B3.out.size _⟩
    | some r =>
      have HTG := Lib.hid (show tgt L cfg rev = if PB.provedL L rev.data.toList then (rev, 0) else (⟨#[]⟩, 9) from by unfold tgt; rw [if_neg hz, hf]; rfl)
      have GS := Lib.hid (PB.get_some HB.out rev hs hf (n := r.nm) (nm := r.c.nm) (g := r.g) (x1 := r.c.img) (x2 := r.c.conc) (x3 := r.c.mn) (x4 := r.c.mx) (x5 := r.c.grc) rfl)
      clear hf hz
      go_wp2_with fail
      refine GS.out.mono ?_
      rintro e w3 ⟨rfl, hb3⟩
      obtain ⟨rc, hrc⟩ : ∃ rc : Array Value, rc = #[.string r.nm, .int .i64 r.g, .string r.c.nm, .int .i64 r.c.img, .int .i64 r.c.conc, .int .i64 r.c.mn, .int .i64 r.c.mx, .int .i64 r.c.grc] := ⟨_, rfl⟩
      obtain ⟨W4, hW4⟩ : ∃ W4, W4 = w3.alloc (.cells #[.string r.nm, .int .i64 r.g, .string r.c.nm, .int .i64 r.c.img, .int .i64 r.c.conc, .int .i64 r.c.mn, .int .i64 r.c.mx, .int .i64 r.c.grc] 88) := ⟨_, rfl⟩
      have bW4 : Below w3.heap.size w3 W4 := by rw [hW4]; exact (Below.refl _ _).alloc (Nat.le_refl _) _
      have b34 := stepB hb3 bW4
      have HB4 := Lib.hid (HB.out.below b34)
      have K14 := Lib.hid (K1.out.below b34 K1.out.lt)
      have B4 := Lib.hid (stepB BB.out b34)
      clear hb3 bW4 b34 q0 q1 rc hrc
      have q0 := K14.out.cell 0
      simp only [List.getElem?_toArray, List.getElem?_cons_zero] at q0
      obtain ⟨pv, hpv⟩ : ∃ pv, pv = PB.provedL L rev.data.toList := ⟨_, rfl⟩
      have PC := PB.proved_calls HB4.out rev hs
      rw [← hpv] at PC HTG
      have PC := Lib.hid PC
      clear hpv
      go_upto_region 9 with fail
      rw [← hW4]
      clear hW4
      cases pv with
      | true =>
        go_wp2_with (go_at_call 43; (with_reducible refine PC.out.mono ?_); rintro e w5 ⟨rfl, hw5⟩; rw [hw5])
        exact bodyPost_ret (v := .tuple #[.string rev, .int .i64 0]) (by simp [results, Tryz.results23, go_sem]) rfl ⟨by rw [HTG.out]; rfl, B4.out⟩
      | false =>
        go_wp2_with (go_at_call 43; (with_reducible refine PC.out.mono ?_); rintro e w5 ⟨rfl, hw5⟩; rw [hw5])
        exact bodyPost_ret (v := .tuple #[.string (⟨#[]⟩ : ByteArray), .int .i64 9]) (by simp [results, Tryz.results23, go_sem]) rfl ⟨by rw [HTG.out]; rfl, B4.out⟩

end Go.Proofs.YtnkmpkhiilnigaaGreatDoor.PR
