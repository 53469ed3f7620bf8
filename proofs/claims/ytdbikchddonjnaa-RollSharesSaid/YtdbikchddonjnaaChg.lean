/- What a call may have changed: only blocks of a given kind, and new ones. Blocks known whole. Plain: no program. -/
import Derived.Below
import Derived.Deep.Draws
import Derived.Maps.OwnSet
namespace Go.Proofs.Ytdbikchddonjnaa
open Go.RowKit

/-- The number in a slot, for a loop's measure. -/
def vInt : Value → Int
  | .int _ q => q
  | _ => 0

/-- Of the blocks that were there, those alone that F tells may have changed. -/
structure Chg (F : Nat → Prop) (w w' : World) : Prop where
  os : w'.os = w.os
  tape : w'.tape = w.tape
  output : w'.output = w.output
  size : w.heap.size ≤ w'.heap.size
  block : ∀ k, k < w.heap.size → ¬ F k → w'.heap[k]? = w.heap[k]?

section
variable {F G : Nat → Prop} {w w' w'' : World}

theorem Chg.refl (F : Nat → Prop) (w : World) : Chg F w w := ⟨rfl, rfl, rfl, Nat.le_refl _, fun _ _ _ => rfl⟩
theorem Chg.trans (h : Chg F w w') (k : Chg G w' w'') (hG : ∀ b, b < w.heap.size → G b → F b) : Chg F w w'' :=
  ⟨k.os.trans h.os, k.tape.trans h.tape, k.output.trans h.output, Nat.le_trans h.size k.size, fun b hb hF => (k.block b (Nat.lt_of_lt_of_le hb h.size) (fun hg => hF (hG b hb hg))).trans (h.block b hb hF)⟩
theorem Chg.mono (h : Chg F w w') (hG : ∀ b, b < w.heap.size → F b → G b) : Chg G w w' := ⟨h.os, h.tape, h.output, h.size, fun b hb hn => h.block b hb (fun hF => hn (hG b hb hF))⟩
theorem Chg.of_grownBy {row : Option Nat} (h : w.grownBy w' row) (hF : ∀ k, row = some k → F k) : Chg F w w' :=
  ⟨h.os, h.tape, h.output, h.size, fun b hb hn => h.block b hb (fun e => hn (hF b e.symm))⟩
theorem Chg.of_turned {b : Nat} (h : w.mapTurned w' b) (hF : F b) : Chg F w w' := Chg.of_grownBy h.grown (fun k e => by cases e; exact hF)
theorem Chg.of_below {B : Nat} (h : Below B w w') (hB : ∀ k, B ≤ k → k < w.heap.size → F k) : Chg F w w' :=
  ⟨h.os, h.tape, h.output, h.size, fun b hb hn => h.block b (Nat.lt_of_not_le fun hle => hn (hB b hle hb))⟩
theorem Chg.below {B : Nat} (h : Chg F w w') (hB : B ≤ w.heap.size) (hF : ∀ k, k < B → ¬ F k) : Below B w w' :=
  ⟨h.os, h.tape, h.output, h.size, fun k hk => h.block k (Nat.lt_of_lt_of_le hk hB) (hF k hk)⟩
theorem Chg.below_of {B : Nat} {w0 : World} (h : Chg F w w') (h0 : Below B w0 w) (hB : B ≤ w.heap.size) (hF : ∀ k, k < B → ¬ F k) : Below B w0 w' := h0.trans (h.below hB hF)
theorem Chg.setCell (h : Chg F w w') {a : Addr} (ha : a.block < w.heap.size → F a.block) (u : Value) : Chg F w (w'.setCell a u) :=
  ⟨h.os, h.tape, h.output, by simpa [World.setCell] using h.size, fun b hb hn => (Below.heap_setCell _ _ _ _ (fun e => by subst e; exact hn (ha hb))).trans (h.block b hb hn)⟩
theorem Chg.alloc (h : Chg F w w') (o : Obj) : Chg F w (w'.alloc o) :=
  ⟨h.os, h.tape, h.output, Nat.le_trans h.size (by simp), fun b hb hn => (Below.heap_alloc _ _ _ (Nat.lt_of_lt_of_le hb h.size)).trans (h.block b hb hn)⟩
theorem Chg.alloc_drew (h : Chg F w w'.drew) (o : Obj) : Chg F w (w'.alloc o).drew := h.alloc o
theorem Chg.drewN (h : Chg F w w') (n : Nat) : Chg F w (w'.drewN n) := ⟨h.os, h.tape, h.output, h.size, h.block⟩
theorem Chg.drew (h : Chg F w w') : Chg F w w'.drew := ⟨h.os, h.tape, h.output, h.size, h.block⟩
theorem Chg.cellOf (h : Chg (fun _ => False) w w') {p i : Nat} {v : Value} (hp : p < w.heap.size) (hc : w.cell? ⟨p, i, none⟩ = some v) : w'.cell? ⟨p, i, none⟩ = some v := (World.cell?_of_block (h.block p hp id)).trans hc
theorem Chg.frozenOf (h : Chg (fun _ => False) w w') {p i : Nat} (hp : p < w.heap.size) (hc : w.frozen? ⟨p, i, none⟩ = false) : w'.frozen? ⟨p, i, none⟩ = false := (World.frozen?_of_block (h.block p hp id)).trans hc
theorem Chg.keepOne (h : Chg (fun _ => False) w w') {p i : Nat} {v : Value} (hp : p < w.heap.size) (hc : w.cell? ⟨p, i, none⟩ = some v) (hf : w.frozen? ⟨p, i, none⟩ = false) : w'.cell? ⟨p, i, none⟩ = some v ∧ w'.frozen? ⟨p, i, none⟩ = false ∧ Chg (fun _ => False) w w' := ⟨h.cellOf hp hc, h.frozenOf hp hf, h⟩
theorem Chg.turned {b : Nat} (h : Chg F w w') (k : w'.mapTurned w'' b) (hF : b < w.heap.size → F b) : Chg F w w'' :=
  h.trans (Chg.of_turned (F := fun x => x = b) k rfl) (fun x hx e => by subst e; exact hF hx)
end

/-- A block that is known whole, and may be written. -/
def Blk (w : World) (p : Nat) (cs : Array Value) (t : TypeId) : Prop := w.heap[p]? = some (.cells cs t (0, 0))

section
variable {w w' : World} {p : Nat} {cs : Array Value} {t : TypeId}
theorem Blk.lt (h : Blk w p cs t) : p < w.heap.size := (Array.getElem?_eq_some_iff.1 h).1
theorem Blk.cell (h : Blk w p cs t) (i : Nat) : w.cell? ⟨p, i, none⟩ = cs[i]? := by unfold Blk at h; simp [World.cell?, h]
theorem Blk.frozen (h : Blk w p cs t) (i : Nat) : w.frozen? ⟨p, i, none⟩ = false := by unfold Blk at h; simp [World.frozen?, h]
theorem Blk.same (h : Blk w p cs t) (hb : w'.heap[p]? = w.heap[p]?) : Blk w' p cs t := hb.trans h
theorem Blk.chg {F : Nat → Prop} (h : Blk w p cs t) (hc : Chg F w w') (hF : ¬ F p) : Blk w' p cs t := h.same (hc.block p h.lt hF)
theorem Blk.below {B : Nat} (h : Blk w p cs t) (hc : Below B w w') (hF : p < B) : Blk w' p cs t := h.same (hc.block p hF)
theorem Blk.new (w : World) (cs : Array Value) (t : TypeId) : Blk (w.alloc (.cells cs t)) w.heap.size cs t := by
  show (w.heap.push _)[w.heap.size]? = _
  simp
theorem Blk.alloc (h : Blk w p cs t) (o : Obj) : Blk (w.alloc o) p cs t := h.same (Below.heap_alloc _ _ _ h.lt)
theorem Blk.far (h : Blk w p cs t) {a : Addr} (ha : p ≠ a.block) (u : Value) : Blk (w.setCell a u) p cs t := h.same (Below.heap_setCell _ _ _ _ ha)
theorem Blk.set (h : Blk w p cs t) (i : Nat) (u : Value) {cs' : Array Value} (e : cs.setIfInBounds i u = cs') : Blk (w.setCell ⟨p, i, none⟩ u) p cs' t := by
  subst e
  have hlt := h.lt
  unfold Blk at h ⊢
  have h' : w.heap[p] = .cells cs t (0, 0) := by simpa [Array.getElem?_eq_getElem hlt] using h
  show (w.heap.modify p _)[p]? = _
  rw [Array.getElem?_eq_getElem (by simpa using hlt), Array.getElem_modify_self, h']
  rfl
end

end Go.Proofs.Ytdbikchddonjnaa
