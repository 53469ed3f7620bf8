/- Rows of the call's own, whatever their elements: their cells, an append, a growth. -/
import Derived.Test.YtdbikchddonjnaaApp
import Derived.Test.YtdbikchddonjnaaProg
import Derived.Sort.OwnSorted
import Derived.WalkKit
import Derived.RowKit
namespace Go.Proofs.Ytdbikchddonjnaa
open Go.RowKit

/-- A type of elements: its slice type, its cells. -/
structure El (P : Program) (α : Type) where
  t : TypeId
  e : TypeId
  enc : α → List Value
  size : Nat
  bytes : Nat
  z : Value
  ht : P.underlying t = some (.slice e)
  hinfo : (P.info? e).map (fun i => (i.zero, i.size, i.bytes)) = some (some z, size, bytes)
  hzs : z.cells.size = size
  hsz : 0 < size
  hb : bytes ≤ 100
  hl : ∀ x, (enc x).length = size
  h1 : ∀ x, ∀ u ∈ enc x, u.oneCell' = true

section
variable {P : Program} {α : Type} (E : El P α)

theorem El.len (xs : List α) : (xs.flatMap E.enc).length = xs.length * E.size := by
  induction xs with
  | nil => simp
  | cons x t ih => rw [List.flatMap_cons, List.length_append, E.hl, ih, List.length_cons]; rw [Nat.add_mul]; omega

theorem El.at_ (xs : List α) (j : Nat) (hj : j < xs.length) (i : Nat) (hi : i < E.size) : (xs.flatMap E.enc)[j * E.size + i]? = (E.enc xs[j])[i]? := by
  induction xs generalizing j with
  | nil => simp at hj
  | cons x t ih =>
    rw [List.flatMap_cons]
    cases j with
    | zero =>
      rw [List.getElem?_append_left (by rw [E.hl]; omega)]
      simp
    | succ j =>
      rw [List.getElem?_append_right (by rw [E.hl, Nat.add_mul]; omega), E.hl, show (j + 1) * E.size + i - E.size = j * E.size + i by rw [Nat.add_mul]; omega, ih j (by simpa using hj)]
      simp

/-- A row of the call's own. -/
def RowG (w : World) (base : Nat) (v : Value) (xs : List α) : Prop := w.ownsRow base E.e E.size v xs.length (xs.flatMap E.enc)

theorem RowG.nil (w : World) (base : Nat) : RowG E w base (.slice none 0 0) [] := World.ownsRow_nil _ _ _ _

variable {E} {w w' : World} {base : Nat} {v : Value} {xs : List α}

theorem RowG.moved (h : RowG E w base v xs) (hc : ∀ k, base ≤ k → k < w.heap.size → w'.heap[k]? = w.heap[k]?) : RowG E w' base v xs := by
  obtain ⟨h1, h2⟩ := h
  refine ⟨h1, ?_⟩
  rcases h2 with h2 | ⟨g, cap, cur, hv, hg, hh, r⟩
  · exact .inl h2
  · exact .inr ⟨g, cap, cur, hv, hg, (hc g hg (Array.getElem?_eq_some_iff.1 hh).1).trans hh, r⟩
theorem RowG.below {B : Nat} (h : RowG E w base v xs) (hb : Below B w w') (hB : w.heap.size ≤ B) : RowG E w' base v xs := h.moved fun k _ hk => hb.block k (Nat.lt_of_lt_of_le hk hB)
theorem RowG.lower {b' : Nat} (h : RowG E w base v xs) (hb : b' ≤ base) : RowG E w b' v xs := by
  obtain ⟨h1, h2⟩ := h
  refine ⟨h1, ?_⟩
  rcases h2 with h2 | ⟨g, cap, cur, hv, hg, r⟩
  · exact .inl h2
  · exact .inr ⟨g, cap, cur, hv, Nat.le_trans hb hg, r⟩

/-- Its shape, and its cells. -/
theorem RowG.shape (h : RowG E w base v xs) : ∃ A c, v = .slice A xs.length c ∧ xs.length ≤ c ∧ (0 < xs.length → ∃ g cur, A = some ⟨g, 0, none⟩ ∧ base ≤ g ∧ g < w.heap.size ∧ w.heap[g]? = some (.cells cur E.e (0, 0)) ∧ c ≤ maxLen ∧ cur.size = c * E.size ∧ cur.toList.take (xs.length * E.size) = xs.flatMap E.enc) := by
  obtain ⟨h1, h2⟩ := h
  rcases h2 with ⟨rfl, h0⟩ | ⟨g, cap, cur, rfl, hb, hh, h3, h4, h5, h6⟩
  · exact ⟨none, 0, by rw [h0], by omega, fun hp => by omega⟩
  · exact ⟨_, _, rfl, h3, fun _ => ⟨g, cur, rfl, hb, (Array.getElem?_eq_some_iff.1 hh).1, hh, h4, h5, h6⟩⟩

theorem RowG.cells (h : RowG E w base v xs) (hn : 0 < xs.length) : ∃ g c, v = .slice (some ⟨g, 0, none⟩) xs.length c ∧ xs.length ≤ c ∧ c ≤ maxLen ∧ base ≤ g ∧ g < w.heap.size ∧ ∀ (j : Nat) (hj : j < xs.length) (i : Nat), i < E.size → w.cell? ⟨g, j * E.size + i, none⟩ = (E.enc xs[j])[i]? := by
  obtain ⟨A, c, rfl, hc, hs⟩ := h.shape
  obtain ⟨g, cur, rfl, h1, h2, h3, h4, h5, h6⟩ := hs hn
  refine ⟨g, c, rfl, hc, h4, h1, h2, fun j hj i hi => ?_⟩
  have hlt : j * E.size + i < xs.length * E.size := by
    have : (j + 1) * E.size ≤ xs.length * E.size := Nat.mul_le_mul_right _ hj
    rw [Nat.add_mul] at this
    omega
  rw [← El.at_ E xs j hj i hi, ← h6, List.getElem?_take_of_lt hlt, Array.getElem?_toList]
  simp [World.cell?, h3]

/-- A slice's first elements are ys. -/
def SrcG (E : El P α) (w : World) (A : Option Addr) (ys : List α) : Prop := SrcAt w A ys.length (ys.flatMap E.enc)

/-- append, onto a row that is new since B, in a plain region. -/
theorem list_appG (E : El P α) {ops : Array Oper} {rest : List Oper} {o : Oper} {a : Act} {Q : Exit → Act → World → Prop} (w : World) (hgd : o.guard = none) (s x : Operand) (ho : o.op = .call { callee := .builtin .append, args := #[s, x], argTypes := #[E.t, E.t] })
    (B : Nat) (v : Value) (xs : List α) (hs : a.eval s = v) (hown : RowG E w B v xs)
    (A : Option Addr) (m c : Nat) (ys : List α) (hx : a.eval x = .slice A m c) (hm : ys.length = m) (hsrc : SrcG E w A ys) (hn : xs.length ≤ 1000000) (hm6 : m ≤ 1000000) (hB : B ≤ w.heap.size)
    (h : ∀ v' w', RowG E w' B v' (xs ++ ys) → Below B w w' → (v' = .slice none 0 0 ↔ v = .slice none 0 0 ∧ m = 0) → wpList P ops Q rest (a.put o.dst v') w') : wpList P ops Q (o :: rest) a w := by
  subst hm
  have hown' : w.ownsRow B E.e E.size v xs.length (xs.flatMap E.enc) := hown
  obtain ⟨i0, hi, hz, hsize, hby⟩ := info_parts E.hinfo
  refine wpList_append_any (P := P) w hgd s x E.t ho B E.e i0 E.z E.size E.bytes E.ht hi hz hsize hby E.hzs E.hsz v xs.length (xs.flatMap E.enc) hs hown' A ys.length c (ys.flatMap E.enc) hx (El.len E ys) hsrc
    (fun u hu => by obtain ⟨y, _, hy⟩ := List.mem_flatMap.1 hu; exact E.h1 y u hy) (by unfold maxLen; omega) (by have := Nat.mul_le_mul (show xs.length + ys.length ≤ 2000000 by omega) E.hb; omega) hB ?_
  intro v' w' h1 h2 h3 h4
  refine h v' w' (by unfold RowG; rw [List.length_append, List.flatMap_append]; exact h1) ?_ h3
  refine ⟨h2.os, h2.tape, h2.output, h2.size, fun k hk => h2.block k (Nat.lt_of_lt_of_le hk hB) ?_⟩
  rcases hown'.2 with ⟨rfl, _⟩ | ⟨g, cap, cur, rfl, hg, _⟩
  · simp [Value.ownBlock]
  · simp [Value.ownBlock]; omega

/-- One element, in a block that lies there. -/
theorem SrcG.one {N : Nat} {x : α} (h : w.heap[N]? = some (.cells (E.enc x).toArray E.e (0, 0))) : SrcG E w (some ⟨N, 0, none⟩) [x] := fun _ => by
  refine ⟨_, rfl, fun j u hu => ?_⟩
  simp only [List.flatMap_cons, List.flatMap_nil, List.append_nil] at hu
  rw [add_at, Nat.zero_add]
  simp [World.cell?, h, hu]
end

theorem info_string : (Try.prog.info? 9).map (fun i => (i.zero, i.size, i.bytes)) = some (some (.string ⟨#[]⟩), 1, 16) := by kernel_rfl

/-- Texts. -/
def elS : El Try.prog (List UInt8) := ⟨31, 9, fun x => [encStr x], 1, 16, .string ⟨#[]⟩, Try.underlying31, info_string, rfl, by omega, by omega, fun _ => rfl, fun x u hu => by rw [List.mem_singleton.1 hu]; rfl⟩

end Go.Proofs.Ytdbikchddonjnaa
