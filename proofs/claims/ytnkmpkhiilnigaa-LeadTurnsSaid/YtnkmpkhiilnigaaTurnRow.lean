/- Rows of turns that come in: how they read. -/
import Derived.Test.YtnkmpkhiilnigaaGLeadS
import Derived.Deep.Slices
import Derived.ChangeArms
import Derived.OpenShut
set_option linter.unusedSimpArgs false
set_option linter.unusedVariables false
namespace Go.Proofs.Ytnkmpkhiilnigaa.PA
open Go.RowKit Go.Shelf Go.Lib Go.Sort Go.Deep Go.ChangeShapes Go.WideShapes Go.Proofs.YtnkmpkhiilnigaaW.PrintWords

theorem cellT_lt {w : World} {p : Addr} {v : Value} (h : w.cell? p = some v) : p.block < w.heap.size := by
  rcases Nat.lt_or_ge p.block w.heap.size with h' | h'
  · exact h'
  · unfold World.cell? at h
    rw [Array.getElem?_eq_none h'] at h
    simp at h
theorem ciT : Try.prog.cellsOf 3 = 1 := by kernel_rfl
theorem csT : Try.prog.cellsOf 22 = 1 := by kernel_rfl
theorem ctT : Try.prog.cellsOf 57 = 6 := by kernel_rfl
theorem lenT6 {α : Type} {l : List α} (h : l.length = 6) : ∃ a b c d e f, l = [a, b, c, d, e, f] := by
  match l, h with
  | [a, b, c, d, e, f], _ => exact ⟨a, b, c, d, e, f, rfl⟩
/-- A turn, as it comes in. -/
structure TurnM where
  name : Int
  kind : Int
  after : Int
  whole : Int
  ns : List Int
  ms : List Int
instance : Inhabited TurnM := ⟨⟨0, 0, 0, 0, [], []⟩⟩
/-- A turn in memory. -/
def TurnAt (w : World) (g o : Nat) (t : TurnM) : Prop := ∃ An cn Am cm,
  (w.cell? ⟨g, o, none⟩ = some (.int .i64 t.name) ∧ w.cell? ⟨g, o + 1, none⟩ = some (.int .i64 t.kind) ∧ w.cell? ⟨g, o + 2, none⟩ = some (.int .i64 t.after) ∧ w.cell? ⟨g, o + 3, none⟩ = some (.int .i64 t.whole) ∧
    w.cell? ⟨g, o + 4, none⟩ = some (.slice An t.ns.length cn) ∧ w.cell? ⟨g, o + 5, none⟩ = some (.slice Am t.ms.length cm)) ∧
  (Kd.C (Kd.int .i64) w An t.ns.length t.ns ∧ t.ns.length ≤ cn) ∧ Kd.C (Kd.int .i64) w Am t.ms.length t.ms ∧ t.ms.length ≤ cm
theorem TurnAt.below {w w' : World} {g o : Nat} {t : TurnM} (h : TurnAt w g o t) (hg : g < w.heap.size) (hb : Below w.heap.size w w') : TurnAt w' g o t := by
  obtain ⟨An, cn, Am, cm, ⟨h0, h1, h2, h3, h4, h5⟩, ⟨k0, l0⟩, k1, l1⟩ := h
  have hc : ∀ i, w'.cell? ⟨g, i, none⟩ = w.cell? ⟨g, i, none⟩ := fun i => World.cell?_of_block (a := ⟨g, i, none⟩) (hb.block g hg)
  exact ⟨An, cn, Am, cm, ⟨(hc _).trans h0, (hc _).trans h1, (hc _).trans h2, (hc _).trans h3, (hc _).trans h4, (hc _).trans h5⟩, ⟨Kd.C_below k0 hb, l0⟩, Kd.C_below k1 hb, l1⟩
/-- Turns in memory. -/
def TurnsAt (w : World) (A : Option Addr) (l : List TurnM) : Prop := l ≠ [] → ∃ g o, A = some ⟨g, o, none⟩ ∧ g < w.heap.size ∧ ∀ i (hi : i < l.length), TurnAt w g (o + i * 6) l[i]
theorem TurnsAt.below {w w' : World} {A : Option Addr} {l : List TurnM} (h : TurnsAt w A l) (hb : Below w.heap.size w w') : TurnsAt w' A l := fun hne => by
  obtain ⟨g, o, e, hg, hc⟩ := h hne
  exact ⟨g, o, e, Nat.lt_of_lt_of_le hg hb.size, fun i hi => (hc i hi).below hg hb⟩
def IsRowT (k : IntKind) (w : World) (a : Option Addr) (len cap : Nat) (zs : List Int) : Prop :=
  (a = none ∧ len = 0 ∧ cap = 0 ∧ zs = []) ∨
  ∃ x, a = some x ∧ len ≤ cap ∧ cap ≤ maxLen ∧ zs.length = cap ∧ (∀ i, i < zs.length → w.cell? (x.add i) = some (.int k (zs.getD i 0))) ∧ ∀ n ∈ zs, (Lit.int k n).wf = true

section
variable {H : Type} {enc : TypeId × Value → H} {W : World} {fuel : Nat}

theorem ints_openT {v : Value} {x : DataW H × List MemPlace} (h : DataW.trod enc Try.prog W 0 (fun _ => true) true fuel 22 [v] = some x) : ∃ a c l, v = .slice a (List.length l) c ∧ Kd.C (Kd.int .i64) W a l.length l ∧ l.length ≤ c := by
  obtain ⟨a, len, cap, zs, rfl, hw⟩ : ∃ a len cap zs, v = .slice a len cap ∧ IsRowT .i64 W a len cap zs := by
    rcases open_ints Try.underlying22 Try.underlying3 (by kernel_rfl) h with ⟨hcs, _⟩ | ⟨x, l, c, zs, hcs, _, hl, hm, hz, _, hcell, hwz⟩
    · exact ⟨none, 0, 0, [], by simpa using hcs, .inl ⟨rfl, rfl, rfl, rfl⟩⟩
    · exact ⟨some x, l, c, zs, by simpa using hcs, .inr ⟨_, rfl, hl, hm, by simpa using hz, hcell, hwz⟩⟩
  obtain ⟨l, rfl, hr, _, _, hc⟩ := ReadsInt.ofRowC hw
  exact ⟨a, cap, l, rfl, Kd.C_of_reads (d := (0 : Int)) (h1 := fun _ => rfl) hr, hc⟩

theorem turn_open {cs : List Value} {x : DataW H × List MemPlace} (h : DataW.trod enc Try.prog W 0 (fun _ => true) true fuel 57 cs = some x) : ∃ (t : TurnM) (An : Option Addr) (cn : Nat) (Am : Option Addr) (cm : Nat), cs = [.int .i64 t.name, .int .i64 t.kind, .int .i64 t.after, .int .i64 t.whole, .slice An t.ns.length cn, .slice Am t.ms.length cm] ∧
    (Kd.C (Kd.int .i64) W An t.ns.length t.ns ∧ t.ns.length ≤ cn) ∧ Kd.C (Kd.int .i64) W Am t.ms.length t.ms ∧ t.ms.length ≤ cm := by
  obtain ⟨xs, k, _, _, hl, hxl, hf⟩ := DataW.trod_struct Try.underlying57 h
  have hl6 : cs.length = 6 := hl.trans ctT
  have hx6 : xs.length = 6 := hxl
  clear hl hxl
  obtain ⟨v0, v1, v2, v3, v4, v5, rfl⟩ := lenT6 hl6
  obtain ⟨y0, y1, y2, y3, y4, y5, rfl⟩ := lenT6 hx6
  clear hl6 hx6
  have g0 := hf 0 _ rfl
  have g1 := hf 1 _ rfl
  have g2 := hf 2 _ rfl
  have g3 := hf 3 _ rfl
  have g4 := hf 4 _ rfl
  have g5 := hf 5 _ rfl
  simp [ciT, csT] at g0 g1 g2 g3 g4 g5
  obtain ⟨z0, e0, _⟩ := DataW.trod_int Try.underlying3 g0
  obtain ⟨z1, e1, _⟩ := DataW.trod_int Try.underlying3 g1
  obtain ⟨z2, e2, _⟩ := DataW.trod_int Try.underlying3 g2
  obtain ⟨z3, e3, _⟩ := DataW.trod_int Try.underlying3 g3
  obtain ⟨An, cn, ns, rfl, hn, ln⟩ := ints_openT g4
  obtain ⟨Am, cm, ms, rfl, hm, lm⟩ := ints_openT g5
  have f0 : [v0] = [.int .i64 z0] := e0
  have f1 : [v1] = [.int .i64 z1] := e1
  have f2 : [v2] = [.int .i64 z2] := e2
  have f3 : [v3] = [.int .i64 z3] := e3
  simp only [List.cons.injEq, and_true] at f0 f1 f2 f3
  subst f0 f1 f2 f3
  exact ⟨⟨z0, z1, z2, z3, ns, ms⟩, An, cn, Am, cm, rfl, ⟨hn, ln⟩, hm, lm⟩

theorem turns_open {A : Option Addr} {len cap : Nat} {x : DataW H × List MemPlace} (h : DataW.trod enc Try.prog W 0 (fun _ => true) true fuel 54 (Value.slice A len cap).cells.toList = some x) : ∃ l : List TurnM, len = l.length ∧ l.length ≤ cap ∧ TurnsAt W A l := by
  have h' : DataW.trod enc Try.prog W 0 (fun _ => true) true fuel 54 [.slice A len cap] = some x := h
  rcases open_slice Try.underlying54 h' with ⟨hcs, _⟩ | ⟨a, len', cap', m, n, D, Pl, hcs, _, hl, hm, hmm, _, hx⟩
  · simp only [List.cons.injEq, and_true, Value.slice.injEq] at hcs
    obtain ⟨rfl, rfl, rfl⟩ := hcs
    exact ⟨[], rfl, Nat.le_refl _, fun h => absurd rfl h⟩
  · simp only [List.cons.injEq, and_true, Value.slice.injEq] at hcs
    obtain ⟨rfl, rfl, rfl⟩ := hcs
    have hlm : len ≤ m := by rw [hmm]; split <;> omega
    have each : ∀ i, i < len → ∃ t : TurnM, ∃ (An : Option Addr) (cn : Nat) (Am : Option Addr) (cm : Nat), (∀ j, j < 6 → W.cell? ((a.add (i * 6)).add j) = ([.int .i64 t.name, .int .i64 t.kind, .int .i64 t.after, .int .i64 t.whole, .slice An t.ns.length cn, .slice Am t.ms.length cm] : List Value)[j]?) ∧
        (Kd.C (Kd.int .i64) W An t.ns.length t.ns ∧ t.ns.length ≤ cn) ∧ Kd.C (Kd.int .i64) W Am t.ms.length t.ms ∧ t.ms.length ≤ cm := fun i hi => by
      obtain ⟨cs', h1, h2⟩ := hx i (by omega)
      rw [ctT] at h1
      obtain ⟨t, An, cn, Am, cm, rfl, h3, h4⟩ := turn_open h2
      exact ⟨t, An, cn, Am, cm, fun j hj => (World.cells?_some h1).2.2 j hj, h3, h4⟩
    obtain ⟨f, hf⟩ := choose_lt each
    refine ⟨(List.range len).map f, by simp, by simpa using hl, fun hne => ?_⟩
    have h0 : 0 < len := by
      rcases Nat.eq_zero_or_pos len with e | e
      · subst e; exact absurd rfl hne
      · exact e
    obtain ⟨g, o, spot⟩ := a
    obtain ⟨A0, c0, A1, c1, hj0, _⟩ := hf 0 h0
    have q0 : W.cell? (((⟨g, o, spot⟩ : Addr).add (0 * 6)).add 0) = some (.int .i64 (f 0).name) := hj0 0 (by omega)
    have hsp : spot = none := by simpa [Addr.add] using World.cell?_spot q0
    subst hsp
    rw [add_at, add_at] at q0
    have hg : g < W.heap.size := cellT_lt q0
    refine ⟨g, o, rfl, hg, fun i hi => ?_⟩
    have hi' : i < len := by simpa using hi
    obtain ⟨An, cn, Am, cm, hj, h3, h4⟩ := hf i hi'
    rw [show ((List.range len).map f)[i] = f i by simp]
    have hc : ∀ j, ((⟨g, o, none⟩ : Addr).add (i * 6)).add j = ⟨g, o + i * 6 + j, none⟩ := fun j => by rw [add_at, add_at]
    exact ⟨An, cn, Am, cm, ⟨by have := hj 0 (by omega); rw [hc] at this; exact this, by have := hj 1 (by omega); rw [hc] at this; exact this, by have := hj 2 (by omega); rw [hc] at this; exact this, by have := hj 3 (by omega); rw [hc] at this; exact this, by have := hj 4 (by omega); rw [hc] at this; exact this, by have := hj 5 (by omega); rw [hc] at this; exact this⟩, h3, h4⟩
end

end Go.Proofs.Ytnkmpkhiilnigaa.PA
