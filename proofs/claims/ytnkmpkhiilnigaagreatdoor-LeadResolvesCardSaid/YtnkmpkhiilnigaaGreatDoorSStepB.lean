/- Rows of steps and configurations that come in: how they read. -/
import Derived.Test.YtnkmpkhiilnigaaGreatDoorSTwoB
import Derived.Deep.Slices
import Derived.ChangeArms
set_option linter.unusedSimpArgs false
set_option linter.unusedVariables false
namespace Go.Proofs.YtnkmpkhiilnigaaGreatDoor.PB
open Go.RowKit Go.Shelf Go.Lib Go.Sort Go.Maps Go.Deep Go.ChangeShapes Go.WideShapes

theorem cell_lt {w : World} {p : Addr} {v : Value} (h : w.cell? p = some v) : p.block < w.heap.size := by
  rcases Nat.lt_or_ge p.block w.heap.size with h' | h'
  · exact h'
  · unfold World.cell? at h
    rw [Array.getElem?_eq_none h'] at h
    simp at h
theorem ci : Tryz.prog.cellsOf 3 = 1 := by kernel_rfl
theorem cs_ : Tryz.prog.cellsOf 9 = 1 := by kernel_rfl
theorem cc : Tryz.prog.cellsOf 58 = 6 := by kernel_rfl
theorem cst : Tryz.prog.cellsOf 61 = 9 := by kernel_rfl
theorem len4 {α : Type} {l : List α} (h : l.length = 4) : ∃ a b c d, l = [a, b, c, d] := by
  match l, h with
  | [a, b, c, d], _ => exact ⟨a, b, c, d, rfl⟩
theorem len6 {α : Type} {l : List α} (h : l.length = 6) : ∃ a b c d e f, l = [a, b, c, d, e, f] := by
  match l, h with
  | [a, b, c, d, e, f], _ => exact ⟨a, b, c, d, e, f, rfl⟩
theorem len9 {α : Type} {l : List α} (h : l.length = 9) : ∃ a b c d e f g i j, l = [a, b, c, d, e, f, g, i, j] := by
  match l, h with
  | [a, b, c, d, e, f, g, i, j], _ => exact ⟨a, b, c, d, e, f, g, i, j, rfl⟩
/-- A step. -/
structure StepM where
  kind : Int
  n : Int
  name : Int
  c : CfgM
instance : Inhabited StepM := ⟨⟨0, 0, 0, zeroC⟩⟩
def cellsS (s : StepM) : List Value := [.int .i64 s.kind, .int .i64 s.n, .int .i64 s.name, .string s.c.nm, .int .i64 s.c.img, .int .i64 s.c.conc, .int .i64 s.c.mn, .int .i64 s.c.mx, .int .i64 s.c.grc]
/-- Steps in memory. -/
def StepsAt (w : World) (A : Option Addr) (l : List StepM) : Prop := l ≠ [] → ∃ g o, A = some ⟨g, o, none⟩ ∧ g < w.heap.size ∧ ∀ i (hi : i < l.length) j, j < 9 → w.cell? ⟨g, o + i * 9 + j, none⟩ = (cellsS l[i])[j]?

section
variable {H : Type} {enc : TypeId × Value → H} {W : World} {sp : Nat → Bool} {fuel : Nat}

theorem cfg_open {cs : List Value} {x : DataW H × List MemPlace} (h : DataW.trod enc Tryz.prog W 0 sp true fuel 58 cs = some x) : ∃ c : CfgM, cs = [.string c.nm, .int .i64 c.img, .int .i64 c.conc, .int .i64 c.mn, .int .i64 c.mx, .int .i64 c.grc] := by
  obtain ⟨xs, k, _, _, hl, hxl, hf⟩ := DataW.trod_struct Tryz.underlying58 h
  have hl6 : cs.length = 6 := hl.trans cc
  have hx6 : xs.length = 6 := hxl
  clear hl hxl
  obtain ⟨v0, v1, v2, v3, v4, v5, rfl⟩ := len6 hl6
  obtain ⟨y0, y1, y2, y3, y4, y5, rfl⟩ := len6 hx6
  clear hl6 hx6
  have g0 := hf 0 _ rfl
  have g1 := hf 1 _ rfl
  have g2 := hf 2 _ rfl
  have g3 := hf 3 _ rfl
  have g4 := hf 4 _ rfl
  have g5 := hf 5 _ rfl
  simp [ci, cs_] at g0 g1 g2 g3 g4 g5
  obtain ⟨s, e0, _⟩ := DataW.trod_string Tryz.underlying9 g0
  obtain ⟨z1, e1, _⟩ := DataW.trod_int Tryz.underlying3 g1
  obtain ⟨z2, e2, _⟩ := DataW.trod_int Tryz.underlying3 g2
  obtain ⟨z3, e3, _⟩ := DataW.trod_int Tryz.underlying3 g3
  obtain ⟨z4, e4, _⟩ := DataW.trod_int Tryz.underlying3 g4
  obtain ⟨z5, e5, _⟩ := DataW.trod_int Tryz.underlying3 g5
  have f0 : [v0] = [.string s] := e0
  have f1 : [v1] = [.int .i64 z1] := e1
  have f2 : [v2] = [.int .i64 z2] := e2
  have f3 : [v3] = [.int .i64 z3] := e3
  have f4 : [v4] = [.int .i64 z4] := e4
  have f5 : [v5] = [.int .i64 z5] := e5
  simp only [List.cons.injEq, and_true] at f0 f1 f2 f3 f4 f5
  subst f0 f1 f2 f3 f4 f5
  exact ⟨⟨s, z1, z2, z3, z4, z5⟩, rfl⟩

theorem step_open {cs : List Value} {x : DataW H × List MemPlace} (h : DataW.trod enc Tryz.prog W 0 sp true fuel 61 cs = some x) : ∃ s : StepM, cs = cellsS s := by
  obtain ⟨xs, k, _, _, hl, hxl, hf⟩ := DataW.trod_struct Tryz.underlying61 h
  have hl9 : cs.length = 9 := hl.trans cst
  have hx4 : xs.length = 4 := hxl
  clear hl hxl
  obtain ⟨v0, v1, v2, v3, v4, v5, v6, v7, v8, rfl⟩ := len9 hl9
  obtain ⟨y0, y1, y2, y3, rfl⟩ := len4 hx4
  clear hl9 hx4
  have g0 := hf 0 _ rfl
  have g1 := hf 1 _ rfl
  have g2 := hf 2 _ rfl
  have g3 := hf 3 _ rfl
  simp [ci, cc] at g0 g1 g2 g3
  obtain ⟨z0, e0, _⟩ := DataW.trod_int Tryz.underlying3 g0
  obtain ⟨z1, e1, _⟩ := DataW.trod_int Tryz.underlying3 g1
  obtain ⟨z2, e2, _⟩ := DataW.trod_int Tryz.underlying3 g2
  obtain ⟨c, e3⟩ := cfg_open g3
  have f0 : [v0] = [.int .i64 z0] := e0
  have f1 : [v1] = [.int .i64 z1] := e1
  have f2 : [v2] = [.int .i64 z2] := e2
  have f3 : [v3, v4, v5, v6, v7, v8] = [.string c.nm, .int .i64 c.img, .int .i64 c.conc, .int .i64 c.mn, .int .i64 c.mx, .int .i64 c.grc] := e3
  simp only [List.cons.injEq, and_true] at f0 f1 f2 f3
  obtain ⟨f3, f4, f5, f6, f7, f8⟩ := f3
  subst f0 f1 f2 f3 f4 f5 f6 f7 f8
  exact ⟨⟨z0, z1, z2, c⟩, rfl⟩

theorem steps_open {A : Option Addr} {len cap : Nat} {x : DataW H × List MemPlace} (h : DataW.trod enc Tryz.prog W 0 sp true fuel 22 (Value.slice A len cap).cells.toList = some x) : ∃ l : List StepM, len = l.length ∧ l.length ≤ cap ∧ StepsAt W A l := by
  have h' : DataW.trod enc Tryz.prog W 0 sp true fuel 22 [.slice A len cap] = some x := h
  rcases open_slice Tryz.underlying22 h' with ⟨hcs, _⟩ | ⟨a, len', cap', m, n, D, Pl, hcs, _, hl, hm, hmm, _, hx⟩
  · simp only [List.cons.injEq, and_true, Value.slice.injEq] at hcs
    obtain ⟨rfl, rfl, rfl⟩ := hcs
    exact ⟨[], rfl, Nat.le_refl _, fun h => absurd rfl h⟩
  · simp only [List.cons.injEq, and_true, Value.slice.injEq] at hcs
    obtain ⟨rfl, rfl, rfl⟩ := hcs
    have hlm : len ≤ m := by rw [hmm]; split <;> omega
    have each : ∀ i, i < len → ∃ s : StepM, ∀ j, j < 9 → W.cell? ((a.add (i * 9)).add j) = (cellsS s)[j]? := fun i hi => by
      obtain ⟨cs', h1, h2⟩ := hx i (by omega)
      rw [cst] at h1
      obtain ⟨s, rfl⟩ := step_open h2
      exact ⟨s, fun j hj => (World.cells?_some h1).2.2 j hj⟩
    obtain ⟨f, hf⟩ := choose_lt each
    refine ⟨(List.range len).map f, by simp, by simpa using hl, fun hne => ?_⟩
    have h0 : 0 < len := by
      rcases Nat.eq_zero_or_pos len with e | e
      · subst e; exact absurd rfl hne
      · exact e
    obtain ⟨g, o, spot⟩ := a
    have hsp : spot = none := by
      have := hf 0 h0 0 (by omega)
      have h9 : W.cell? (((⟨g, o, spot⟩ : Addr).add (0 * 9)).add 0) = some (.int .i64 (f 0).kind) := this
      simpa [Addr.add] using World.cell?_spot h9
    subst hsp
    refine ⟨g, o, rfl, ?_, fun i hi j hj => ?_⟩
    · have := hf 0 h0 0 (by omega)
      rw [add_at, add_at] at this
      exact cell_lt (p := ⟨g, o + 0 * 9 + 0, none⟩) (v := .int .i64 (f 0).kind) this
    · have hi' : i < len := by simpa using hi
      have := hf i hi' j hj
      rw [add_at, add_at] at this
      rw [this]
      simp
end
theorem StepsAt.below {w w' : World} {A : Option Addr} {l : List StepM} (h : StepsAt w A l) (hb : Below w.heap.size w w') : StepsAt w' A l := fun hne => by
  obtain ⟨g, o, e, hg, hc⟩ := h hne
  exact ⟨g, o, e, Nat.lt_of_lt_of_le hg hb.size, fun i hi j hj => (World.cell?_of_block (a := ⟨g, o + i * 9 + j, none⟩) (hb.block g hg)).trans (hc i hi j hj)⟩

end Go.Proofs.YtnkmpkhiilnigaaGreatDoor.PB
