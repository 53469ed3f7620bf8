/- Rows of Shares that come in: how they read. -/
import Derived.Test.YtdbikchddonjnaaPureMore
import Derived.Deep.Slices
import Derived.ChangeArms
import Derived.OpenShut
set_option linter.unusedSimpArgs false
set_option linter.unusedVariables false
namespace Go.Proofs.Ytdbikchddonjnaa.PA
open Go.RowKit Go.Shelf Go.Lib Go.Sort Go.Deep Go.ChangeShapes Go.WideShapes Go.Proofs.YtdbikchddonjnaaW.PrintWords

theorem cellH_lt {w : World} {p : Addr} {v : Value} (h : w.cell? p = some v) : p.block < w.heap.size := by
  rcases Nat.lt_or_ge p.block w.heap.size with h' | h'
  · exact h'
  · unfold World.cell? at h
    rw [Array.getElem?_eq_none h'] at h
    simp at h
theorem ciH : Try.prog.cellsOf 3 = 1 := by kernel_rfl
theorem csH : Try.prog.cellsOf 9 = 1 := by kernel_rfl
theorem chH : Try.prog.cellsOf 39 = 2 := by kernel_rfl
theorem lenH2 {α : Type} {l : List α} (h : l.length = 2) : ∃ a b, l = [a, b] := by
  match l, h with
  | [a, b], _ => exact ⟨a, b, rfl⟩
section
variable {H : Type} {enc : TypeId × Value → H} {W : World} {sp : Nat → Bool} {fuel : Nat}
theorem share_open {cs : List Value} {x : DataW H × List MemPlace} (h : DataW.trod enc Try.prog W 0 sp true fuel 39 cs = some x) : ∃ s : S39, cs = [.string s.f0, .int .i64 s.f1] := by
  obtain ⟨xs, k, _, _, hl, hxl, hf⟩ := DataW.trod_struct Try.underlying39 h
  have hl6 : cs.length = 2 := hl.trans chH
  have hx6 : xs.length = 2 := hxl
  clear hl hxl
  obtain ⟨v0, v1, rfl⟩ := lenH2 hl6
  obtain ⟨y0, y1, rfl⟩ := lenH2 hx6
  clear hl6 hx6
  have g0 := hf 0 _ rfl
  have g1 := hf 1 _ rfl
  simp [ciH, csH] at g0 g1
  obtain ⟨s, e0, _⟩ := DataW.trod_string Try.underlying9 g0
  obtain ⟨z1, e1, _⟩ := DataW.trod_int Try.underlying3 g1
  have f0 : [v0] = [.string s] := e0
  have f1 : [v1] = [.int .i64 z1] := e1
  simp only [List.cons.injEq, and_true] at f0 f1
  subst f0 f1
  exact ⟨⟨s, z1⟩, rfl⟩
theorem shares_open {A : Option Addr} {len cap : Nat} {x : DataW H × List MemPlace} (h : DataW.trod enc Try.prog W 0 sp true fuel 23 (Value.slice A len cap).cells.toList = some x) : ∃ l : List S39, len = l.length ∧ l.length ≤ cap ∧ Kd.C k39 W A l.length l := by
  have h' : DataW.trod enc Try.prog W 0 sp true fuel 23 [.slice A len cap] = some x := h
  rcases open_slice Try.underlying23 h' with ⟨hcs, _⟩ | ⟨a, len', cap', m, n, D, Pl, hcs, _, hl, hm, hmm, _, hx⟩
  · simp only [List.cons.injEq, and_true, Value.slice.injEq] at hcs
    obtain ⟨rfl, rfl, rfl⟩ := hcs
    exact ⟨[], rfl, Nat.le_refl _, Kd.C_nil _ _⟩
  · simp only [List.cons.injEq, and_true, Value.slice.injEq] at hcs
    obtain ⟨rfl, rfl, rfl⟩ := hcs
    have hlm : len ≤ m := by rw [hmm]; split <;> omega
    have each : ∀ i, i < len → ∃ s : S39, ∀ j, j < 2 → W.cell? ((a.add (i * 2)).add j) = ([.string s.f0, .int .i64 s.f1] : List Value)[j]? := fun i hi => by
      obtain ⟨cs', h1, h2⟩ := hx i (by omega)
      rw [chH] at h1
      obtain ⟨s, rfl⟩ := share_open h2
      exact ⟨s, fun j hj => (World.cells?_some h1).2.2 j hj⟩
    obtain ⟨f, hf⟩ := choose_lt each
    refine ⟨(List.range len).map f, by simp, by simpa using hl, ?_⟩
    rcases Nat.eq_zero_or_pos len with e | h0
    · subst e
      exact ⟨rfl, by simp, fun hp => absurd hp (by simp)⟩
    obtain ⟨g, o, spot⟩ := a
    have q0 : W.cell? (((⟨g, o, spot⟩ : Addr).add (0 * 2)).add 0) = some (.string (f 0).f0) := hf 0 h0 0 (by omega)
    have hsp : spot = none := by simpa [Addr.add] using World.cell?_spot q0
    subst hsp
    have hbig : len ≤ 9223372036854775807 := by unfold maxLen at hm; omega
    refine ⟨rfl, by simpa using hbig, fun _ => ⟨⟨g, o, none⟩, rfl, fun j p hj => ?_⟩⟩
    have hj' : j < len := by have := (List.getElem?_eq_some_iff.1 hj).1; simpa using this
    obtain rfl : f j = p := by simpa [hj'] using hj
    refine ⟨[.string (f j).f0, .int .i64 (f j).f1], rfl, k39_mk W (f j), fun i u hu => ?_⟩
    have hi : i < 2 := by have := (List.getElem?_eq_some_iff.1 hu).1; simpa using this
    have h3 := hf j hj' i hi
    rw [hu] at h3
    rw [← h3]
    show W.cell? ((⟨g, o, none⟩ : Addr).add (j * 2 + i)) = _
    rw [add_at, add_at, add_at, Nat.add_assoc]
end

end Go.Proofs.Ytdbikchddonjnaa.PA
