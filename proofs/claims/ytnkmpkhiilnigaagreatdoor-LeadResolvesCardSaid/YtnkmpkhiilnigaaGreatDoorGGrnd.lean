/- What a call may have changed: only blocks of a given kind, and new ones. Blocks known whole. Plain: no program. -/
import Derived.Below
import Derived.Deep.Draws
import Derived.Maps.OwnSet
import Derived.Maps.AppendAt
import Derived.Deep.AppendSrc
import Derived.Deep.AppendLies
import Derived.Maps.Ext
import Derived.StringKeys
import Derived.Sort.KeysCollected
import Derived.Test.YtnkmpkhiilnigaaGreatDoorProg
import Derived.Sort.OwnSorted
import Derived.WalkKit
import Derived.RowKit
namespace Go.Proofs.YtnkmpkhiilnigaaGreatDoor
open Go.RowKit

/-- Of the blocks that were there, those alone that F tells may have changed. -/
structure Chg (F : Nat → Prop) (w w' : World) : Prop where
  os : w'.os = w.os
  tape : w'.tape = w.tape
  output : w'.output = w.output
  size : w.heap.size ≤ w'.heap.size
  block : ∀ k, k < w.heap.size → ¬ F k → w'.heap[k]? = w.heap[k]?

section
variable {F G : Nat → Prop} {w w' w'' : World}

theorem Chg.refl (F : Nat → Prop) (w : World) : Chg F w w := ⟨rfl, rfl, rfl, Nat.le_refl _, fun _ _ _ => rfl⟩
theorem Chg.trans (h : Chg F w w') (k : Chg G w' w'') (hG : ∀ b, b < w.heap.size → G b → F b) : Chg F w w'' :=
  ⟨k.os.trans h.os, k.tape.trans h.tape, k.output.trans h.output, Nat.le_trans h.size k.size, fun b hb hF => (k.block b (Nat.lt_of_lt_of_le hb h.size) (fun hg => hF (hG b hb hg))).trans (h.block b hb hF)⟩
theorem Chg.mono (h : Chg F w w') (hG : ∀ b, b < w.heap.size → F b → G b) : Chg G w w' := ⟨h.os, h.tape, h.output, h.size, fun b hb hn => h.block b hb (fun hF => hn (hG b hb hF))⟩
theorem Chg.of_grownBy {row : Option Nat} (h : w.grownBy w' row) (hF : ∀ k, row = some k → F k) : Chg F w w' :=
  ⟨h.os, h.tape, h.output, h.size, fun b hb hn => h.block b hb (fun e => hn (hF b e.symm))⟩
theorem Chg.of_turned {b : Nat} (h : w.mapTurned w' b) (hF : F b) : Chg F w w' := Chg.of_grownBy h.grown (fun k e => by cases e; exact hF)
theorem Chg.of_below {B : Nat} (h : Below B w w') (hB : ∀ k, B ≤ k → k < w.heap.size → F k) : Chg F w w' :=
  ⟨h.os, h.tape, h.output, h.size, fun b hb hn => h.block b (Nat.lt_of_not_le fun hle => hn (hB b hle hb))⟩
theorem Chg.below {B : Nat} (h : Chg F w w') (hB : B ≤ w.heap.size) (hF : ∀ k, k < B → ¬ F k) : Below B w w' :=
  ⟨h.os, h.tape, h.output, h.size, fun k hk => h.block k (Nat.lt_of_lt_of_le hk hB) (hF k hk)⟩
theorem Chg.below_of {B : Nat} {w0 : World} (h : Chg F w w') (h0 : Below B w0 w) (hB : B ≤ w.heap.size) (hF : ∀ k, k < B → ¬ F k) : Below B w0 w' := h0.trans (h.below hB hF)
theorem Chg.setCell (h : Chg F w w') {a : Addr} (ha : a.block < w.heap.size → F a.block) (u : Value) : Chg F w (w'.setCell a u) :=
  ⟨h.os, h.tape, h.output, by simpa [World.setCell] using h.size, fun b hb hn => (Below.heap_setCell _ _ _ _ (fun e => by subst e; exact hn (ha hb))).trans (h.block b hb hn)⟩
theorem Chg.alloc (h : Chg F w w') (o : Obj) : Chg F w (w'.alloc o) :=
  ⟨h.os, h.tape, h.output, Nat.le_trans h.size (by simp), fun b hb hn => (Below.heap_alloc _ _ _ (Nat.lt_of_lt_of_le hb h.size)).trans (h.block b hb hn)⟩
theorem Chg.drewN (h : Chg F w w') (n : Nat) : Chg F w (w'.drewN n) := ⟨h.os, h.tape, h.output, h.size, h.block⟩
theorem Chg.drew (h : Chg F w w') : Chg F w w'.drew := ⟨h.os, h.tape, h.output, h.size, h.block⟩
theorem Chg.turned {b : Nat} (h : Chg F w w') (k : w'.mapTurned w'' b) (hF : b < w.heap.size → F b) : Chg F w w'' :=
  h.trans (Chg.of_turned (F := fun x => x = b) k rfl) (fun x hx e => by subst e; exact hF hx)
end

/-- A block that is known whole, and may be written. -/
def Blk (w : World) (p : Nat) (cs : Array Value) (t : TypeId) : Prop := w.heap[p]? = some (.cells cs t (0, 0))

section
variable {w w' : World} {p : Nat} {cs : Array Value} {t : TypeId}
theorem Blk.lt (h : Blk w p cs t) : p < w.heap.size := (Array.getElem?_eq_some_iff.1 h).1
theorem Blk.cell (h : Blk w p cs t) (i : Nat) : w.cell? ⟨p, i, none⟩ = cs[i]? := by unfold Blk at h; simp [World.cell?, h]
theorem Blk.frozen (h : Blk w p cs t) (i : Nat) : w.frozen? ⟨p, i, none⟩ = false := by unfold Blk at h; simp [World.frozen?, h]
theorem Blk.same (h : Blk w p cs t) (hb : w'.heap[p]? = w.heap[p]?) : Blk w' p cs t := hb.trans h
theorem Blk.chg {F : Nat → Prop} (h : Blk w p cs t) (hc : Chg F w w') (hF : ¬ F p) : Blk w' p cs t := h.same (hc.block p h.lt hF)
theorem Blk.below {B : Nat} (h : Blk w p cs t) (hc : Below B w w') (hF : p < B) : Blk w' p cs t := h.same (hc.block p hF)
theorem Blk.new (w : World) (cs : Array Value) (t : TypeId) : Blk (w.alloc (.cells cs t)) w.heap.size cs t := by
  show (w.heap.push _)[w.heap.size]? = _
  simp
theorem Blk.alloc (h : Blk w p cs t) (o : Obj) : Blk (w.alloc o) p cs t := h.same (Below.heap_alloc _ _ _ h.lt)
theorem Blk.far (h : Blk w p cs t) {a : Addr} (ha : p ≠ a.block) (u : Value) : Blk (w.setCell a u) p cs t := h.same (Below.heap_setCell _ _ _ _ ha)
theorem Blk.set (h : Blk w p cs t) (i : Nat) (u : Value) {cs' : Array Value} (e : cs.setIfInBounds i u = cs') : Blk (w.setCell ⟨p, i, none⟩ u) p cs' t := by
  subst e
  have hlt := h.lt
  unfold Blk at h ⊢
  have h' : w.heap[p] = .cells cs t (0, 0) := by simpa [Array.getElem?_eq_getElem hlt] using h
  show (w.heap.modify p _)[p]? = _
  rw [Array.getElem?_eq_getElem (by simpa using hlt), Array.getElem_modify_self, h']
  rfl
end

end Go.Proofs.YtnkmpkhiilnigaaGreatDoor

/- append onto a row of the call's own, from a slice that may be nil or empty: the run, at a plain region's list, at a step of a region that draws. Plain: no program. -/
namespace Go.Proofs.YtnkmpkhiilnigaaGreatDoor
open Go.RowKit

/-- A slice's first cells are news (nothing is asked of it where there are none). -/
def SrcAt (w : World) (A : Option Addr) (m : Nat) (news : List Value) : Prop := 0 < m → ∃ ad, A = some ad ∧ ∀ j u, news[j]? = some u → w.cell? (ad.add j) = some u

section
variable {P : Program} (w : World)

theorem run_append_any (base : Nat) (t ty e : TypeId) (i : TypeInfo) (z : Value) (size bytes : Nat) (ht : P.underlying t = some (.slice e)) (hi : P.info? e = some i) (hz : i.zero = some z)
    (hsize : i.size = size) (hby : i.bytes = bytes) (hzs : z.cells.size = size) (hsz : 0 < size)
    (v : Value) (n : Nat) (xs : List Value) (hown : w.ownsRow base e size v n xs)
    (A : Option Addr) (m c : Nat) (news : List Value) (hl : news.length = m * size) (hsrc : SrcAt w A m news) (h1 : ∀ u ∈ news, u.oneCell' = true)
    (h63 : n + m ≤ maxLen) (hbytes : (n + m) * bytes ≤ 140737488355328) (hbase : base ≤ w.heap.size) :
    ∃ v' w', (Builtin.append_ #[t, t] ty #[v, .slice A m c]).run P w = .ok v' w' ∧ w'.ownsRow base e size v' (n + m) (xs ++ news) ∧ w.grownBy w' v.ownBlock ∧
      (v' = .slice none 0 0 ↔ v = .slice none 0 0 ∧ m = 0) ∧ (v'.ownBlock = v.ownBlock ∨ v'.ownBlock = some w.heap.size) := by
  cases A with
  | some a =>
    refine run_append_own_at (P := P) w base t ty e i z size bytes ht hi hz hsize hby hzs hsz v n xs hown a m c news hl (fun j u hu => ?_) h1 h63 hbytes hbase
    have hm : 0 < m := by
      rcases Nat.eq_zero_or_pos m with h0 | h0
      · subst h0
        have : news = [] := List.eq_nil_of_length_eq_zero (by simpa using hl)
        subst this; simp at hu
      · exact h0
    obtain ⟨ad, e1, hc⟩ := hsrc hm
    cases e1
    exact hc j u hu
  | none =>
    have hm : m = 0 := by
      rcases Nat.eq_zero_or_pos m with h0 | h0
      · exact h0
      · obtain ⟨ad, e1, _⟩ := hsrc h0; cases e1
    subst hm
    have hn : news = [] := List.eq_nil_of_length_eq_zero (by simpa using hl)
    subst hn
    rcases hown.2 with ⟨rfl, rfl⟩ | ⟨g, cap, cur, rfl, hbg, hg, hnc, hcm, hcs, htake⟩
    · refine ⟨.slice none 0 0, w, ?_, by simpa using hown, ⟨rfl, rfl, rfl, Nat.le_refl _, fun _ _ _ => rfl⟩, by simp, Or.inl rfl⟩
      simp [Builtin.append_, run_underlying ht, sizeOf, typeInfo, hi, Builtin.lenOf, Builtin.firstCells]
    · have hr := run_append_room_src (P := P) w t t ty e i ht hi g 0 n cap (.slice none 0 c) 0 [] (Src.ofNil w ht c) (by omega) (by simp) (by simp)
      refine ⟨_, _, hr, ?_, ⟨rfl, rfl, rfl, Nat.le_refl _, fun _ _ _ => rfl⟩, by simp, Or.inl rfl⟩
      simpa [World.setCells] using hown

theorem wp_append_any {o : Oper} {a : Act} {K : Act → World → Prop} {Q : Exit → Act → World → Prop} (s x : Operand) (t : TypeId)
    (ho : o.op = .call { callee := .builtin .append, args := #[s, x], argTypes := #[t, t] })
    (base : Nat) (e : TypeId) (i : TypeInfo) (z : Value) (size bytes : Nat) (ht : P.underlying t = some (.slice e)) (hi : P.info? e = some i) (hz : i.zero = some z)
    (hsize : i.size = size) (hby : i.bytes = bytes) (hzs : z.cells.size = size) (hsz : 0 < size)
    (v : Value) (n : Nat) (xs : List Value) (hs : a.eval s = v) (hown : w.ownsRow base e size v n xs)
    (A : Option Addr) (m c : Nat) (news : List Value) (hx : a.eval x = .slice A m c) (hl : news.length = m * size) (hsrc : SrcAt w A m news) (h1 : ∀ u ∈ news, u.oneCell' = true)
    (h63 : n + m ≤ maxLen) (hbytes : (n + m) * bytes ≤ 140737488355328) (hbase : base ≤ w.heap.size)
    (h : ∀ v' w', w'.ownsRow base e size v' (n + m) (xs ++ news) → w.grownBy w' v.ownBlock → (v' = .slice none 0 0 ↔ v = .slice none 0 0 ∧ m = 0) → (v'.ownBlock = v.ownBlock ∨ v'.ownBlock = some w.heap.size) → K (a.put o.dst v') w') : o.wp P a w K Q := by
  obtain ⟨v', w', hr, h2, h3, h4, h5⟩ := run_append_any (P := P) w base t o.type e i z size bytes ht hi hz hsize hby hzs hsz v n xs hown A m c news hl hsrc h1 h63 hbytes hbase
  unfold Oper.wp execOp
  simp only [ho, resolve, invoke, builtin, Sem.run_bind, Sem.run_pure, Result.andThen_ok, List.map_toArray, List.map_cons, List.map_nil, hs, hx, hr]
  exact h v' w' h2 h3 h4 h5

/-- At the list of a plain region's operations. -/
theorem wpList_append_any {ops : Array Oper} {rest : List Oper} {o : Oper} {a : Act} {Q : Exit → Act → World → Prop} (hgd : o.guard = none) (s x : Operand) (t : TypeId)
    (ho : o.op = .call { callee := .builtin .append, args := #[s, x], argTypes := #[t, t] })
    (base : Nat) (e : TypeId) (i : TypeInfo) (z : Value) (size bytes : Nat) (ht : P.underlying t = some (.slice e)) (hi : P.info? e = some i) (hz : i.zero = some z)
    (hsize : i.size = size) (hby : i.bytes = bytes) (hzs : z.cells.size = size) (hsz : 0 < size)
    (v : Value) (n : Nat) (xs : List Value) (hs : a.eval s = v) (hown : w.ownsRow base e size v n xs)
    (A : Option Addr) (m c : Nat) (news : List Value) (hx : a.eval x = .slice A m c) (hl : news.length = m * size) (hsrc : SrcAt w A m news) (h1 : ∀ u ∈ news, u.oneCell' = true)
    (h63 : n + m ≤ maxLen) (hbytes : (n + m) * bytes ≤ 140737488355328) (hbase : base ≤ w.heap.size)
    (h : ∀ v' w', w'.ownsRow base e size v' (n + m) (xs ++ news) → w.grownBy w' v.ownBlock → (v' = .slice none 0 0 ↔ v = .slice none 0 0 ∧ m = 0) → (v'.ownBlock = v.ownBlock ∨ v'.ownBlock = some w.heap.size) → wpList P ops Q rest (a.put o.dst v') w') : wpList P ops Q (o :: rest) a w :=
  wpList_plain hgd fun _ hK => wp_append_any w s x t ho base e i z size bytes ht hi hz hsize hby hzs hsz v n xs hs hown A m c news hx hl hsrc h1 h63 hbytes hbase fun v' w' h2 h3 h4 h5 => hK _ _ (h v' w' h2 h3 h4 h5)

/-- At a step of a region that draws its order. -/
theorem step_append_any {ops : Array Oper} {o : Oper} {a : Act} {K : Act → World → Prop} {Q : Exit → Act → World → Prop} {E : Prop} (hgd : o.guard = none) (s x : Operand) (t : TypeId)
    (ho : o.op = .call { callee := .builtin .append, args := #[s, x], argTypes := #[t, t] })
    (base : Nat) (e : TypeId) (i : TypeInfo) (z : Value) (size bytes : Nat) (ht : P.underlying t = some (.slice e)) (hi : P.info? e = some i) (hz : i.zero = some z)
    (hsize : i.size = size) (hby : i.bytes = bytes) (hzs : z.cells.size = size) (hsz : 0 < size)
    (v : Value) (n : Nat) (xs : List Value) (hs : a.eval s = v) (hown : w.ownsRow base e size v n xs)
    (A : Option Addr) (m c : Nat) (news : List Value) (hx : a.eval x = .slice A m c) (hl : news.length = m * size) (hsrc : SrcAt w A m news) (h1 : ∀ u ∈ news, u.oneCell' = true)
    (h63 : n + m ≤ maxLen) (hbytes : (n + m) * bytes ≤ 140737488355328) (hbase : base ≤ w.heap.size)
    (h : ∀ v' w', w'.ownsRow base e size v' (n + m) (xs ++ news) → w.grownBy w' v.ownBlock → (v' = .slice none 0 0 ↔ v = .slice none 0 0 ∧ m = 0) → (v'.ownBlock = v.ownBlock ∨ v'.ownBlock = some w.heap.size) → K (a.put o.dst v') w') :
    if Region.wanted o (yielded ops a.tmps) = true then Oper.wp P o a w K Q else E := by
  have hw : Region.wanted o (yielded ops a.tmps) = true := by simp [Region.wanted, hgd]
  rw [if_pos hw]
  exact wp_append_any w s x t ho base e i z size bytes ht hi hz hsize hby hzs hsz v n xs hs hown A m c news hx hl hsrc h1 h63 hbytes hbase h

end

/-- A row of no element, in a block that lies there. -/
theorem owns_empty {w : World} {base N : Nat} {e : TypeId} {size : Nat} (hb : base ≤ N) (h : w.heap[N]? = some (.cells #[] e (0, 0))) : w.ownsRow base e size (.slice (some ⟨N, 0, none⟩) 0 0) 0 [] :=
  ⟨by simp, .inr ⟨N, 0, #[], rfl, hb, h, Nat.le_refl _, Nat.zero_le _, by simp, by simp⟩⟩

/-- One cell, in a block that lies there. -/
theorem src_one {w : World} {N : Nat} {e : TypeId} {x : Value} (h : w.heap[N]? = some (.cells #[x] e (0, 0))) : SrcAt w (some ⟨N, 0, none⟩) 1 [x] := fun _ => by
  refine ⟨_, rfl, fun j u hu => ?_⟩
  match j, hu with
  | 0, hu =>
    simp at hu
    subst hu
    simp [Addr.add, World.cell?, h]

theorem add_at (g o j : Nat) : (⟨g, o, none⟩ : Addr).add j = ⟨g, o + j, none⟩ := by unfold Addr.add; split <;> simp_all

end Go.Proofs.YtnkmpkhiilnigaaGreatDoor

/- A map with texts for keys, whatever its elements: how the map's laws speak of a list of names and what each leads to. Plain: no program. -/
namespace Go.Proofs.YtnkmpkhiilnigaaGreatDoor
open Go.Maps Go.RowKit

/-- What an element reads as: itself. -/
def anyElem (v : Value) : Option (DataW Value × List MemPlace) := some (.held v, [])

/-- The datum D is a map of the names S, each leading to what f says. -/
structure MapIs (D : DataW Value) (S : List (List UInt8)) (f : List UInt8 → Value) : Prop where
  tidy : Tidy D
  nodup : S.Nodup
  has_ : ∀ x : List UInt8, Maps.has D (.string x) = decide (x ∈ S)
  at_ : ∀ (x : List UInt8) (z : Value), D.atKey (.string x) (.held z) = .held (if x ∈ S then f x else z)
  size_ : Maps.size D = S.length

theorem MapIs.empty (f : List UInt8 → Value) : MapIs (.map []) [] f :=
  ⟨tidy_empty, List.nodup_nil, fun x => by simp [Maps.has], fun x z => by simp [DataW.atKey], rfl⟩

theorem isKey_string (x : List UInt8) : WideAt.IsKeyLit (.string x) := by simp [WideAt.IsKeyLit]

def addKey (x : List UInt8) (S : List (List UInt8)) : List (List UInt8) := if x ∈ S then S else x :: S
def setKey (x : List UInt8) (v : Value) (f : List UInt8 → Value) : List UInt8 → Value := fun y => if y = x then v else f y
theorem mem_addKey {x y : List UInt8} {S : List (List UInt8)} : y ∈ addKey x S ↔ y = x ∨ y ∈ S := by
  unfold addKey
  split
  · exact ⟨.inr, fun h => h.elim (fun e => e ▸ by assumption) id⟩
  · simp
theorem addKey_len (x : List UInt8) (S : List (List UInt8)) : (addKey x S).length ≤ S.length + 1 := by unfold addKey; split <;> simp

theorem MapIs.put {D : DataW Value} {S : List (List UInt8)} {f : List UInt8 → Value} (h : MapIs D S f) (x : List UInt8) (v : Value) : MapIs (D.put (.string x) (.held v)) (addKey x S) (setKey x v f) := by
  refine ⟨h.tidy.put (isKey_string x) _, ?_, fun y => ?_, fun y z => ?_, ?_⟩
  · unfold addKey
    split
    · exact h.nodup
    · exact List.nodup_cons.2 ⟨by assumption, h.nodup⟩
  · by_cases e : y = x
    · subst e
      rw [has_put_same h.tidy.isMap (isKey_string y)]; symm; simp [mem_addKey]
    · rw [has_put_other (by simpa using e), h.has_]; simp [mem_addKey, e]
  · by_cases e : y = x
    · subst e
      rw [atKey_put_same h.tidy.isMap (isKey_string y), if_pos (mem_addKey.2 (.inl rfl))]; simp [setKey]
    · rw [atKey_put_other (by simpa using e), h.at_]
      simp [mem_addKey, setKey, e]
  · rw [size_put h.tidy, h.has_, h.size_]
    unfold addKey
    by_cases e : x ∈ S <;> simp [e]

/-- A map's bound can be its own size. -/
theorem ownsMap_tightV {P : Program} {k : TypeId} {R : Value → Option (DataW Value × List MemPlace)} {w : World} {b n : Nat} {D : DataW Value} (h : w.ownsMap P k R b n D) : w.ownsMap P k R b (Maps.size D) D := by
  obtain ⟨es, clock, hb, F, _, rfl⟩ := h
  exact ⟨es, clock, hb, F, by simp [Maps.size, length_sorted], rfl⟩

/-- The block b of w is a map with texts for keys: of the names S, each leading to what f says. -/
def OwnsM (w : World) (P : Program) (k : TypeId) (b : Nat) (S : List (List UInt8)) (f : List UInt8 → Value) : Prop := ∃ D : DataW Value, w.ownsMap P k anyElem b S.length D ∧ MapIs D S f

section
variable {P : Program} {k : TypeId} {w : World} {b : Nat} {S : List (List UInt8)} {f : List UInt8 → Value}

theorem OwnsM.of {n : Nat} {D : DataW Value} (h : w.ownsMap P k anyElem b n D) (hs : MapIs D S f) : OwnsM w P k b S f := ⟨D, hs.size_ ▸ ownsMap_tightV h, hs⟩
theorem OwnsM.made (w : World) (P : Program) (k : TypeId) (f : List UInt8 → Value) : OwnsM (w.alloc (.map #[] 0)) P k w.heap.size [] f := ⟨_, World.ownsMap_made w P k _, MapIs.empty f⟩
theorem OwnsM.lt (h : OwnsM w P k b S f) : b < w.heap.size := by obtain ⟨D, h, _⟩ := h; exact h.lt
theorem OwnsM.nodup (h : OwnsM w P k b S f) : S.Nodup := by obtain ⟨D, _, h⟩ := h; exact h.nodup
/-- The block is as it was: the map is as it was. -/
theorem OwnsM.same {w' : World} (h : OwnsM w P k b S f) (hb : w'.heap[b]? = w.heap[b]?) : OwnsM w' P k b S f := by
  obtain ⟨D, ⟨es, clock, hm, r⟩, hs⟩ := h
  exact ⟨D, ⟨es, clock, hb.trans hm, r⟩, hs⟩
/-- f counts at S alone. -/
theorem OwnsM.congr {g : List UInt8 → Value} (h : OwnsM w P k b S f) (e : ∀ x ∈ S, f x = g x) : OwnsM w P k b S g := by
  obtain ⟨D, h1, h2⟩ := h
  exact ⟨D, h1, ⟨h2.tidy, h2.nodup, h2.has_, fun x z => by rw [h2.at_]; by_cases hx : x ∈ S <;> simp [hx, e], h2.size_⟩⟩
theorem OwnsM.chg {F : Nat → Prop} {w' : World} (h : OwnsM w P k b S f) (hc : Chg F w w') (hF : ¬ F b) : OwnsM w' P k b S f := h.same (hc.block b h.lt hF)

theorem MapIs.perm {D : DataW Value} {n : Nat} (hs : MapIs D S f) (hown : w.ownsMap P k anyElem b n D) (hk : P.underlying k = some .string) : S.Perm (strKeys D) := by
  obtain ⟨es, hD, hpw, _⟩ := hown.entries (string_keyed hk)
  obtain ⟨es', hD', hko⟩ := hown.keysOf
  obtain rfl : es = es' := by rw [hD] at hD'; simpa using hD'
  subst hD
  exact perm_strKeys hpw (fun p hp => by obtain ⟨v, hv⟩ := hko p hp; obtain ⟨x, _, hx, _⟩ := Maps.keyOf_str hk hv; exact ⟨x, hx⟩) hs.nodup (fun x => by rw [hs.has_]; simp)
end

section
variable {P : Program} (w : World) {ops : Array Oper} {rest : List Oper} {o : Oper} {a : Act} {Q : Exit → Act → World → Prop}

theorem keyS {P : Program} {k : TypeId} (hk : P.underlying k = some .string) {s : ByteArray} (hs : s.size ≤ maxLen) : keyOf P k (.string s) = some (.string s.data.toList) := WideMaps.keyOf_string_mk hk hs

/-- 'v, is := m[s]'. -/
theorem wpList_lookokM (hg : o.guard = none) (m x : Operand) (t : TypeId) (hop : o.op = Op.lookup t m x true)
    (k e : TypeId) (hk : P.underlying k = some .string) (ht : P.underlying t = some (.map k e)) (z : Value) (hz : (zeroValue e).run P w = .ok z w) (b : Nat) (S : List (List UInt8)) (f : List UInt8 → Value)
    (hm : a.eval m = .map (some b)) (hown : OwnsM w P k b S f) (s : ByteArray) (hx : a.eval x = .string s) (hs : s.size ≤ maxLen) (is : Bool) (his : decide (s.data.toList ∈ S) = is) (c : Value) (hc : (if s.data.toList ∈ S then f s.data.toList else z) = c)
    (hK : wpList P ops Q rest (a.put o.dst (.tuple #[c, .bool is])) w) :
    wpList P ops Q (o :: rest) a w := by
  obtain ⟨D, hown, hsD⟩ := hown
  refine wpList_plain hg fun K' hK' => ?_
  obtain ⟨v, ps, hrun, hv⟩ := hown.look_ok (string_keyed hk) ht hz (zd := .held z) (zp := []) rfl (keyS hk hs)
  have hv' : v = c := by
    rw [hsD.at_, hc] at hv
    simpa [anyElem] using congrArg (Option.map Prod.fst) hv
  subst hv'
  rw [hsD.has_, his] at hrun
  unfold Oper.wp
  simp [execOp, hop, hm, hx, hrun, Result.andThen]
  exact hK' _ _ hK

/-- 'm[s] = v'. -/
theorem wpList_putM (hg : o.guard = none) (m x v : Operand) (t : TypeId) (hop : o.op = Op.mapUpdate t m x v)
    (k e : TypeId) (hk : P.underlying k = some .string) (ht : P.underlying t = some (.map k e)) (b : Nat) (S : List (List UInt8)) (f : List UInt8 → Value)
    (hm : a.eval m = .map (some b)) (hown : OwnsM w P k b S f) (hn : S.length < maxLen) (s : ByteArray) (hx : a.eval x = .string s) (hs : s.size ≤ maxLen) (u : Value) (hv : a.eval v = u)
    (hK : ∀ w', OwnsM w' P k b (addKey s.data.toList S) (setKey s.data.toList u f) → w.mapTurned w' b → wpList P ops Q rest (a.put o.dst undef) w') :
    wpList P ops Q (o :: rest) a w := by
  obtain ⟨D, hown, hsD⟩ := hown
  exact wpList_mapUpdate_in w hg m x v t hop k e (string_keyed hk) ht anyElem b S.length D hm hown hn _ _ _ hx hv (keyS hk hs) (.held u) [] rfl fun w' h1 h2 => hK w' (OwnsM.of h1 (hsD.put _ _)) h2

/-- 'm[s] = v' at a step of a region that draws. -/
theorem step_putM {K : Act → World → Prop} {E : Prop} (hg : o.guard = none) (hd : o.dst = none) (m x v : Operand) (t : TypeId) (hop : o.op = Op.mapUpdate t m x v)
    (k e : TypeId) (hk : P.underlying k = some .string) (ht : P.underlying t = some (.map k e)) (b : Nat) (S : List (List UInt8)) (f : List UInt8 → Value)
    (hm : a.eval m = .map (some b)) (hown : OwnsM w P k b S f) (hn : S.length < maxLen) (s : ByteArray) (hx : a.eval x = .string s) (hs : s.size ≤ maxLen) (u : Value) (hv : a.eval v = u)
    (hK : ∀ w', OwnsM w' P k b (addKey s.data.toList S) (setKey s.data.toList u f) → w.mapTurned w' b → K a w') :
    if Region.wanted o (yielded ops a.tmps) = true then Oper.wp P o a w K Q else E := by
  have hw : Region.wanted o (yielded ops a.tmps) = true := by simp [Region.wanted, hg]
  rw [if_pos hw]
  obtain ⟨D, hown, hsD⟩ := hown
  obtain ⟨w', hrun, r1, r2⟩ := hown.store (string_keyed hk) ht hn (keyS hk hs) (val := u) (d := .held u) (ps := []) rfl
  have hput : a.put o.dst undef = a := by rw [hd]; rfl
  have hK' : ∀ w', OwnsM w' P k b (addKey s.data.toList S) (setKey s.data.toList u f) → w.mapTurned w' b → K (a.put o.dst undef) w' := fun w' h1 h2 => by rw [hput]; exact hK w' h1 h2
  unfold Oper.wp
  simp [execOp, hop, hm, hx, hv, hrun, Result.andThen]
  exact hK' w' (OwnsM.of r1 (hsD.put _ _)) r2

end

end Go.Proofs.YtnkmpkhiilnigaaGreatDoor

/- Rows of the call's own, whatever their elements: their cells, an append, a growth. -/
namespace Go.Proofs.YtnkmpkhiilnigaaGreatDoor
open Go.RowKit

/-- A type of elements: its slice type, its cells. -/
structure El (P : Program) (α : Type) where
  t : TypeId
  e : TypeId
  enc : α → List Value
  size : Nat
  bytes : Nat
  z : Value
  ht : P.underlying t = some (.slice e)
  hinfo : (P.info? e).map (fun i => (i.zero, i.size, i.bytes)) = some (some z, size, bytes)
  hzs : z.cells.size = size
  hsz : 0 < size
  hb : bytes ≤ 100
  hl : ∀ x, (enc x).length = size
  h1 : ∀ x, ∀ u ∈ enc x, u.oneCell' = true

section
variable {P : Program} {α : Type} (E : El P α)

theorem El.len (xs : List α) : (xs.flatMap E.enc).length = xs.length * E.size := by
  induction xs with
  | nil => simp
  | cons x t ih => rw [List.flatMap_cons, List.length_append, E.hl, ih, List.length_cons]; rw [Nat.add_mul]; omega

theorem El.at_ (xs : List α) (j : Nat) (hj : j < xs.length) (i : Nat) (hi : i < E.size) : (xs.flatMap E.enc)[j * E.size + i]? = (E.enc xs[j])[i]? := by
  induction xs generalizing j with
  | nil => simp at hj
  | cons x t ih =>
    rw [List.flatMap_cons]
    cases j with
    | zero =>
      rw [List.getElem?_append_left (by rw [E.hl]; omega)]
      simp
    | succ j =>
      rw [List.getElem?_append_right (by rw [E.hl, Nat.add_mul]; omega), E.hl, show (j + 1) * E.size + i - E.size = j * E.size + i by rw [Nat.add_mul]; omega, ih j (by simpa using hj)]
      simp

/-- A row of the call's own. -/
def RowG (w : World) (base : Nat) (v : Value) (xs : List α) : Prop := w.ownsRow base E.e E.size v xs.length (xs.flatMap E.enc)

theorem RowG.nil (w : World) (base : Nat) : RowG E w base (.slice none 0 0) [] := World.ownsRow_nil _ _ _ _

variable {E} {w w' : World} {base : Nat} {v : Value} {xs : List α}

theorem RowG.moved (h : RowG E w base v xs) (hc : ∀ k, base ≤ k → k < w.heap.size → w'.heap[k]? = w.heap[k]?) : RowG E w' base v xs := by
  obtain ⟨h1, h2⟩ := h
  refine ⟨h1, ?_⟩
  rcases h2 with h2 | ⟨g, cap, cur, hv, hg, hh, r⟩
  · exact .inl h2
  · exact .inr ⟨g, cap, cur, hv, hg, (hc g hg (Array.getElem?_eq_some_iff.1 hh).1).trans hh, r⟩
theorem RowG.below {B : Nat} (h : RowG E w base v xs) (hb : Below B w w') (hB : w.heap.size ≤ B) : RowG E w' base v xs := h.moved fun k _ hk => hb.block k (Nat.lt_of_lt_of_le hk hB)
theorem RowG.lower {b' : Nat} (h : RowG E w base v xs) (hb : b' ≤ base) : RowG E w b' v xs := by
  obtain ⟨h1, h2⟩ := h
  refine ⟨h1, ?_⟩
  rcases h2 with h2 | ⟨g, cap, cur, hv, hg, r⟩
  · exact .inl h2
  · exact .inr ⟨g, cap, cur, hv, Nat.le_trans hb hg, r⟩

/-- Its shape, and its cells. -/
theorem RowG.shape (h : RowG E w base v xs) : ∃ A c, v = .slice A xs.length c ∧ xs.length ≤ c ∧ (0 < xs.length → ∃ g cur, A = some ⟨g, 0, none⟩ ∧ base ≤ g ∧ g < w.heap.size ∧ w.heap[g]? = some (.cells cur E.e (0, 0)) ∧ c ≤ maxLen ∧ cur.size = c * E.size ∧ cur.toList.take (xs.length * E.size) = xs.flatMap E.enc) := by
  obtain ⟨h1, h2⟩ := h
  rcases h2 with ⟨rfl, h0⟩ | ⟨g, cap, cur, rfl, hb, hh, h3, h4, h5, h6⟩
  · exact ⟨none, 0, by rw [h0], by omega, fun hp => by omega⟩
  · exact ⟨_, _, rfl, h3, fun _ => ⟨g, cur, rfl, hb, (Array.getElem?_eq_some_iff.1 hh).1, hh, h4, h5, h6⟩⟩

theorem RowG.cells (h : RowG E w base v xs) (hn : 0 < xs.length) : ∃ g c, v = .slice (some ⟨g, 0, none⟩) xs.length c ∧ xs.length ≤ c ∧ c ≤ maxLen ∧ base ≤ g ∧ g < w.heap.size ∧ ∀ (j : Nat) (hj : j < xs.length) (i : Nat), i < E.size → w.cell? ⟨g, j * E.size + i, none⟩ = (E.enc xs[j])[i]? := by
  obtain ⟨A, c, rfl, hc, hs⟩ := h.shape
  obtain ⟨g, cur, rfl, h1, h2, h3, h4, h5, h6⟩ := hs hn
  refine ⟨g, c, rfl, hc, h4, h1, h2, fun j hj i hi => ?_⟩
  have hlt : j * E.size + i < xs.length * E.size := by
    have : (j + 1) * E.size ≤ xs.length * E.size := Nat.mul_le_mul_right _ hj
    rw [Nat.add_mul] at this
    omega
  rw [← El.at_ E xs j hj i hi, ← h6, List.getElem?_take_of_lt hlt, Array.getElem?_toList]
  simp [World.cell?, h3]

/-- A slice's first elements are ys. -/
def SrcG (E : El P α) (w : World) (A : Option Addr) (ys : List α) : Prop := SrcAt w A ys.length (ys.flatMap E.enc)

/-- append, onto a row that is new since B, in a plain region. -/
theorem list_appG (E : El P α) {ops : Array Oper} {rest : List Oper} {o : Oper} {a : Act} {Q : Exit → Act → World → Prop} (w : World) (hgd : o.guard = none) (s x : Operand) (ho : o.op = .call { callee := .builtin .append, args := #[s, x], argTypes := #[E.t, E.t] })
    (B : Nat) (v : Value) (xs : List α) (hs : a.eval s = v) (hown : RowG E w B v xs)
    (A : Option Addr) (m c : Nat) (ys : List α) (hx : a.eval x = .slice A m c) (hm : ys.length = m) (hsrc : SrcG E w A ys) (hn : xs.length ≤ 1000000) (hm6 : m ≤ 1000000) (hB : B ≤ w.heap.size)
    (h : ∀ v' w', RowG E w' B v' (xs ++ ys) → Below B w w' → (v' = .slice none 0 0 ↔ v = .slice none 0 0 ∧ m = 0) → wpList P ops Q rest (a.put o.dst v') w') : wpList P ops Q (o :: rest) a w := by
  subst hm
  have hown' : w.ownsRow B E.e E.size v xs.length (xs.flatMap E.enc) := hown
  obtain ⟨i0, hi, hz, hsize, hby⟩ := info_parts E.hinfo
  refine wpList_append_any (P := P) w hgd s x E.t ho B E.e i0 E.z E.size E.bytes E.ht hi hz hsize hby E.hzs E.hsz v xs.length (xs.flatMap E.enc) hs hown' A ys.length c (ys.flatMap E.enc) hx (El.len E ys) hsrc
    (fun u hu => by obtain ⟨y, _, hy⟩ := List.mem_flatMap.1 hu; exact E.h1 y u hy) (by unfold maxLen; omega) (by have := Nat.mul_le_mul (show xs.length + ys.length ≤ 2000000 by omega) E.hb; omega) hB ?_
  intro v' w' h1 h2 h3 h4
  refine h v' w' (by unfold RowG; rw [List.length_append, List.flatMap_append]; exact h1) ?_ h3
  refine ⟨h2.os, h2.tape, h2.output, h2.size, fun k hk => h2.block k (Nat.lt_of_lt_of_le hk hB) ?_⟩
  rcases hown'.2 with ⟨rfl, _⟩ | ⟨g, cap, cur, rfl, hg, _⟩
  · simp [Value.ownBlock]
  · simp [Value.ownBlock]; omega

/-- One element, in a block that lies there. -/
theorem SrcG.one {N : Nat} {x : α} (h : w.heap[N]? = some (.cells (E.enc x).toArray E.e (0, 0))) : SrcG E w (some ⟨N, 0, none⟩) [x] := fun _ => by
  refine ⟨_, rfl, fun j u hu => ?_⟩
  simp only [List.flatMap_cons, List.flatMap_nil, List.append_nil] at hu
  rw [add_at, Nat.zero_add]
  simp [World.cell?, h, hu]
end

theorem info_string : (Tryz.prog.info? 9).map (fun i => (i.zero, i.size, i.bytes)) = some (some (.string ⟨#[]⟩), 1, 16) := by kernel_rfl

/-- Texts. -/
def elS : El Tryz.prog (List UInt8) := ⟨68, 9, fun x => [encStr x], 1, 16, .string ⟨#[]⟩, Tryz.underlying68, info_string, rfl, by omega, by omega, fun _ => rfl, fun x u hu => by rw [List.mem_singleton.1 hu]; rfl⟩

end Go.Proofs.YtnkmpkhiilnigaaGreatDoor
