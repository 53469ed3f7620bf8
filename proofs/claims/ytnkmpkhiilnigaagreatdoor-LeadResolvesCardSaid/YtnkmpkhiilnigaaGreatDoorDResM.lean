/- The document's Resolve in plain words; its rows in memory. -/
import Derived.Test.YtnkmpkhiilnigaaGreatDoorResolve
import Derived.Test.YtnkmpkhiilnigaaGreatDoorSSameB
import Derived.Test.YtnkmpkhiilnigaaGreatDoorSPutB
import Derived.Test.YtnkmpkhiilnigaaGreatDoorSDocMB
set_option linter.unusedSimpArgs false
set_option linter.unusedVariables false
namespace Go.Proofs.YtnkmpkhiilnigaaGreatDoor.PR
open Go.RowKit Go.Shelf Go.Lib Go.Sort Go.Maps Go.Proofs.YtnkmpkhiilnigaaGreatDoor.PA Go.Proofs.YtnkmpkhiilnigaaGreatDoorW.PrintWords Go.Proofs.YtnkmpkhiilnigaaGreatDoorW.PrintLast

/-- The names, the tags, where the targets lead, the sums. -/
def dN (L : List PB.RevM) (cfg : ByteArray) (ts : List TgM) : List (List UInt8) := ts.foldl (fun l t => PB.insS (tgt L cfg t.rev).1.toList l) []
def dT (ts : List TgM) : List (List UInt8) := ts.foldl (fun l t => if t.tag.size = 0 then l else PB.insS t.tag.toList l) []
def dTo (L : List PB.RevM) (cfg : ByteArray) (ts : List TgM) : List (List UInt8) := ts.map fun t => (tgt L cfg t.rev).1.toList
def dSum (L : List PB.RevM) (cfg : ByteArray) (ts : List TgM) : List S51 := ts.map fun t => ⟨(tgt L cfg t.rev).1, t.pct⟩
theorem dN_succ (L : List PB.RevM) (cfg : ByteArray) {ts : List TgM} {i : Nat} (h : i < ts.length) : dN L cfg (ts.take (i + 1)) = PB.insS (tgt L cfg ts[i].rev).1.toList (dN L cfg (ts.take i)) := by
  unfold dN
  rw [List.take_succ_eq_append_getElem h, List.foldl_append]
  rfl
theorem dT_succ {ts : List TgM} {i : Nat} (h : i < ts.length) : dT (ts.take (i + 1)) = if ts[i].tag.size = 0 then dT (ts.take i) else PB.insS ts[i].tag.toList (dT (ts.take i)) := by
  unfold dT
  rw [List.take_succ_eq_append_getElem h, List.foldl_append]
  rfl
theorem dTo_succ (L : List PB.RevM) (cfg : ByteArray) {ts : List TgM} {i : Nat} (h : i < ts.length) : dTo L cfg (ts.take (i + 1)) = dTo L cfg (ts.take i) ++ [(tgt L cfg ts[i].rev).1.toList] := by
  unfold dTo
  rw [List.take_succ_eq_append_getElem h, List.map_append]
  rfl
theorem dSum_succ (L : List PB.RevM) (cfg : ByteArray) {ts : List TgM} {i : Nat} (h : i < ts.length) : dSum L cfg (ts.take (i + 1)) = dSum L cfg (ts.take i) ++ [⟨(tgt L cfg ts[i].rev).1, ts[i].pct⟩] := by
  unfold dSum
  rw [List.take_succ_eq_append_getElem h, List.map_append]
  rfl
theorem dN_len (L : List PB.RevM) (cfg : ByteArray) : ∀ (ts : List TgM) (i : Nat), i ≤ ts.length → (dN L cfg (ts.take i)).length ≤ i
  | ts, 0, _ => by simp [dN]
  | ts, i + 1, h => by
    rw [dN_succ L cfg (by omega : i < ts.length)]
    have := PB.ins_len (tgt L cfg ts[i].rev).1.toList (dN L cfg (ts.take i))
    have := dN_len L cfg ts i (by omega)
    omega
theorem dT_len : ∀ (ts : List TgM) (i : Nat), i ≤ ts.length → (dT (ts.take i)).length ≤ i
  | ts, 0, _ => by simp [dT]
  | ts, i + 1, h => by
    rw [dT_succ (by omega : i < ts.length)]
    have h2 := dT_len ts i (by omega)
    split
    · omega
    · have := PB.ins_len ts[i].tag.toList (dT (ts.take i))
      omega
theorem dTo_len (L : List PB.RevM) (cfg : ByteArray) (ts : List TgM) (i : Nat) (h : i ≤ ts.length) : (dTo L cfg (ts.take i)).length = i := by
  unfold dTo
  rw [List.length_map, List.length_take]
  omega
theorem dSum_len (L : List PB.RevM) (cfg : ByteArray) (ts : List TgM) (i : Nat) (h : i ≤ ts.length) : (dSum L cfg (ts.take i)).length = i := by
  unfold dSum
  rw [List.length_map, List.length_take]
  omega
/-- The latest that is proved is there, and proved. -/
theorem late_found {L : List PB.RevM} {cfg : ByteArray} (h : (PB.latestN L cfg (PB.provedL L)).size ≠ 0) : PB.findR L (PB.latestN L cfg (PB.provedL L)).data.toList ≠ none ∧ PB.provedL L (PB.latestN L cfg (PB.provedL L)).data.toList = true := by
  unfold PB.latestN at h ⊢
  cases hb : PB.bestR (PB.askR cfg (PB.provedL L)) L with
  | none => rw [hb] at h; exact absurd rfl h
  | some b =>
    obtain ⟨h1, h2⟩ := PB.bestR_in hb
    unfold PB.askR at h2
    rw [Bool.and_eq_true] at h2
    refine ⟨fun e => ?_, h2.2⟩
    unfold PB.findR at e
    rw [List.find?_eq_none] at e
    exact e b h1 (by show (b.key == b.key) = true; simp)
/-- What a target leads to, by steps. -/
structure Leads (L : List PB.RevM) (cfg : ByteArray) (ts : List TgM) (tr rv : ByteArray) : Prop where
  e6 : PB.findR L rv.data.toList = none → firstErr L cfg ts = some 6
  e9 : PB.findR L rv.data.toList ≠ none → PB.provedL L rv.data.toList = false → firstErr L cfg ts = some 9
  ok : PB.findR L rv.data.toList ≠ none → PB.provedL L rv.data.toList = true → tgt L cfg tr = (rv, 0)
  size : rv.size ≤ 1000
theorem leads_late {L : List PB.RevM} (hL : PB.OkL L) {cfg : ByteArray} {ts : List TgM} (h : (PB.latestN L cfg (PB.provedL L)).size ≠ 0) : Leads L cfg ts ⟨#[]⟩ (PB.latestN L cfg (PB.provedL L)) := by
  obtain ⟨h1, h2⟩ := late_found h
  exact ⟨fun e => absurd e h1, fun _ e => (by rw [h2] at e; cases e), fun _ _ => by unfold tgt; exact (if_pos rfl).trans (if_neg h), latest_size hL cfg _⟩
theorem leads_own {L : List PB.RevM} {cfg : ByteArray} {ts : List TgM} {tr : ByteArray} (h : tr.size ≠ 0) (hs : tr.size ≤ 1000) (hf : (tgt L cfg tr).2 ≠ 0 → firstErr L cfg ts = some (tgt L cfg tr).2) : Leads L cfg ts tr tr := by
  refine ⟨fun e => ?_, fun e1 e2 => ?_, fun e1 e2 => ?_, hs⟩
  · have ht : tgt L cfg tr = (⟨#[]⟩, 6) := by unfold tgt; rw [if_neg h, e]; rfl
    rw [ht] at hf
    exact hf (by decide)
  · have ht : tgt L cfg tr = (⟨#[]⟩, 9) := by
      unfold tgt
      rw [if_neg h, e2]
      cases hx : PB.findR L tr.data.toList with
      | none => exact absurd hx e1
      | some r => rfl
    rw [ht] at hf
    exact hf (by decide)
  · unfold tgt
    rw [if_neg h, e2]
    cases hx : PB.findR L tr.data.toList with
    | none => exact absurd hx e1
    | some r => rfl

/-- The rows on the way. -/
structure RDoc (w0 : World) (b q g gx : Nat) (L : List PB.RevM) (rt : Array Value) (wr : World) (v6 v7 v8 v9 : Value) (l6 l7 l8 : List (List UInt8)) (l9 : List S51) : Prop where
  kr : Blk wr g rt 31
  kx : Blk wr gx #[.slice none 0 0, .slice none 0 0] 36
  db : PB.DBook wr b q L
  n6 : RowG elS wr w0.heap.size v6 l6
  n7 : RowG elS wr w0.heap.size v7 l7
  n8 : RowG elS wr w0.heap.size v8 l8
  n9 : RowG el51 wr w0.heap.size v9 l9
  ne : ∀ k, v8.ownBlock = some k → v6.ownBlock ≠ some k ∧ v7.ownBlock ≠ some k
  bl : Below w0.heap.size w0 wr
section
variable {w0 wr w' : World} {b q g gx : Nat} {L : List PB.RevM} {rt : Array Value} {v6 v7 v8 v9 v' : Value} {l6 l7 l8 l' : List (List UInt8)} {l9 : List S51}
theorem RDoc.below (h : RDoc w0 b q g gx L rt wr v6 v7 v8 v9 l6 l7 l8 l9) (hb : Below wr.heap.size wr w') : RDoc w0 b q g gx L rt w' v6 v7 v8 v9 l6 l7 l8 l9 := by
  obtain ⟨h1, h2, h3, h4, h5, h6, h7, h8, h9⟩ := h
  exact ⟨h1.below hb h1.lt, h2.below hb h2.lt, h3.below hb, h4.below hb (Nat.le_refl _), h5.below hb (Nat.le_refl _), h6.below hb (Nat.le_refl _), h7.below hb (Nat.le_refl _), h8, stepB h9 hb⟩
theorem RDoc.own8 (h : RDoc w0 b q g gx L rt wr v6 v7 v8 v9 l6 l7 l8 l9) {k : Nat} (e : v8.ownBlock = some k) : k < wr.heap.size := by
  obtain ⟨_, cs, hk⟩ := PB.own_at h.n8 e
  exact hk.lt
theorem RDoc.put6 (h : RDoc w0 b q g gx L rt wr v6 v7 v8 v9 l6 l7 l8 l9) (hb : Below wr.heap.size wr w') (hr : RowG elS w' w0.heap.size v' l') (ho : v' = v6 ∨ ∀ k, v'.ownBlock = some k → wr.heap.size ≤ k) : RDoc w0 b q g gx L rt w' v' v7 v8 v9 l' l7 l8 l9 := by
  have h8 := fun k => h.own8 (k := k)
  have hn := h.ne
  obtain ⟨k1, k2, k3, k4, k5, k6, k7, k8, k9⟩ := h.below hb
  refine ⟨k1, k2, k3, hr, k5, k6, k7, fun k e => ⟨fun e' => ?_, (hn k e).2⟩, k9⟩
  rcases ho with rfl | ho
  · exact (hn k e).1 e'
  · have := ho k e'
    have := h8 k e
    omega
theorem RDoc.put7 (h : RDoc w0 b q g gx L rt wr v6 v7 v8 v9 l6 l7 l8 l9) (hb : Below wr.heap.size wr w') (hr : RowG elS w' w0.heap.size v' l') (ho : v' = v7 ∨ ∀ k, v'.ownBlock = some k → wr.heap.size ≤ k) : RDoc w0 b q g gx L rt w' v6 v' v8 v9 l6 l' l8 l9 := by
  have h8 := fun k => h.own8 (k := k)
  have hn := h.ne
  obtain ⟨k1, k2, k3, k4, k5, k6, k7, k8, k9⟩ := h.below hb
  refine ⟨k1, k2, k3, k4, hr, k6, k7, fun k e => ⟨(hn k e).1, fun e' => ?_⟩, k9⟩
  rcases ho with rfl | ho
  · exact (hn k e).2 e'
  · have := ho k e'
    have := h8 k e
    omega
theorem RDoc.push9 {l9' : List S51} (h : RDoc w0 b q g gx L rt wr v6 v7 v8 v9 l6 l7 l8 l9) (hc : Chg (fun k => v9.ownBlock = some k) wr w') (hr : RowG el51 w' w0.heap.size v' l9') : RDoc w0 b q g gx L rt w' v6 v7 v8 v' l6 l7 l8 l9' := by
  obtain ⟨h1, h2, h3, h4, h5, h6, h7, h8, h9⟩ := h
  have own : ∀ k, v9.ownBlock = some k → w0.heap.size ≤ k ∧ ∃ cs, Blk wr k cs 51 := fun k e => PB.own_at h7 e
  have hne : ∀ {k : Nat} {cs : Array Value} {t : TypeId}, t ≠ 51 → Blk wr k cs t → ¬ v9.ownBlock = some k := fun ht hk e => by
    obtain ⟨_, cs', hk'⟩ := own _ e
    exact PB.blk_neT hk hk' ht rfl
  exact ⟨h1.chg hc (hne (by decide) h1), h2.chg hc (hne (by decide) h2), h3.keep hc (fun k cs t ht hk => hne (by rcases ht with rfl | rfl | rfl <;> decide) hk),
    PB.RowG.keep h4 hc (fun k cs hk => hne (by decide) hk), PB.RowG.keep h5 hc (fun k cs hk => hne (by decide) hk), PB.RowG.keep h6 hc (fun k cs hk => hne (by decide) hk), hr, h8,
    hc.below_of h9 h9.size (fun k hk e => by have := (own k e).1; omega)⟩
theorem RDoc.push8 (h : RDoc w0 b q g gx L rt wr v6 v7 v8 v9 l6 l7 l8 l9) (hc : Chg (fun k => v8.ownBlock = some k) wr w') (hr : RowG elS w' w0.heap.size v' l') (ho : v'.ownBlock = v8.ownBlock ∨ v'.ownBlock = some wr.heap.size) : RDoc w0 b q g gx L rt w' v6 v7 v' v9 l6 l7 l' l9 := by
  obtain ⟨h1, h2, h3, h4, h5, h6, h7, h8, h9⟩ := h
  have own : ∀ k, v8.ownBlock = some k → w0.heap.size ≤ k ∧ ∃ cs, Blk wr k cs 9 := fun k e => PB.own_at h6 e
  have hne : ∀ {k : Nat} {cs : Array Value} {t : TypeId}, t ≠ 9 → Blk wr k cs t → ¬ v8.ownBlock = some k := fun ht hk e => by
    obtain ⟨_, cs', hk'⟩ := own _ e
    exact PB.blk_neT hk hk' ht rfl
  have lt : ∀ {v : Value} {l : List (List UInt8)}, RowG elS wr w0.heap.size v l → ∀ k, v.ownBlock = some k → k < wr.heap.size := fun hv k e => by
    obtain ⟨_, cs, hk⟩ := PB.own_at hv e
    exact hk.lt
  have row : ∀ {v : Value} {l : List (List UInt8)}, RowG elS wr w0.heap.size v l → (∀ k, v8.ownBlock = some k → v.ownBlock ≠ some k) → RowG elS w' w0.heap.size v l := fun {v l} hv hn => by
    obtain ⟨q1, q2⟩ := hv
    refine ⟨q1, ?_⟩
    rcases q2 with q2 | ⟨gg, cap, cur, hvv, hg, hh, r⟩
    · exact .inl q2
    · exact .inr ⟨gg, cap, cur, hvv, hg, (hc.block gg (Array.getElem?_eq_some_iff.1 hh).1 (fun e => hn gg e (by rw [hvv]; rfl))).trans hh, r⟩
  refine ⟨h1.chg hc (hne (by decide) h1), h2.chg hc (hne (by decide) h2), h3.keep hc (fun k cs t ht hk => hne (by rcases ht with rfl | rfl | rfl <;> decide) hk),
    row h4 (fun k e => (h8 k e).1), row h5 (fun k e => (h8 k e).2), hr, PB.RowG.keep h7 hc (fun k cs hk => hne (by decide) hk), fun k e => ?_,
    hc.below_of h9 h9.size (fun k hk e => by have := (own k e).1; omega)⟩
  rcases ho with ho | ho
  · exact h8 k (ho ▸ e)
  · rw [ho] at e
    cases e
    exact ⟨fun e => Nat.lt_irrefl _ (lt h4 _ e), fun e => Nat.lt_irrefl _ (lt h5 _ e)⟩
end

/-- What the sums of one name come to. -/
def wOf (l : List S51) (nb : ByteArray) : Int := l.foldl (fun w s => if s.f0.toList == nb.toList then w + s.f1 else w) 0
theorem wOf_succ {l : List S51} {k : Nat} (h : k < l.length) (nb : ByteArray) : wOf (l.take (k + 1)) nb = if l[k].f0.toList == nb.toList then wOf (l.take k) nb + l[k].f1 else wOf (l.take k) nb := by
  unfold wOf
  rw [List.take_succ_eq_append_getElem h, List.foldl_append]
  rfl
theorem wOf_fine {l : List S51} (h : ∀ s ∈ l, 0 ≤ s.f1 ∧ s.f1 ≤ 100) (nb : ByteArray) : ∀ k, k ≤ l.length → 0 ≤ wOf (l.take k) nb ∧ wOf (l.take k) nb ≤ 100 * (k : Int)
  | 0, _ => by simp [wOf]
  | k + 1, hk => by
    have hlt : k < l.length := by omega
    obtain ⟨h1, h2⟩ := wOf_fine h nb k (by omega)
    obtain ⟨h3, h4⟩ := h l[k] (List.getElem_mem hlt)
    rw [wOf_succ hlt]
    split <;> omega
/-- The Shares. -/
def dShOf (l9 : List S51) (names : List (List UInt8)) : List S51 := names.foldl (fun o x => if 0 < wOf l9 ⟨x.toArray⟩ then o ++ [⟨⟨x.toArray⟩, wOf l9 ⟨x.toArray⟩⟩] else o) []
theorem dShOf_succ (l9 : List S51) {names : List (List UInt8)} {j : Nat} (h : j < names.length) : dShOf l9 (names.take (j + 1)) = if 0 < wOf l9 ⟨names[j].toArray⟩ then dShOf l9 (names.take j) ++ [⟨⟨names[j].toArray⟩, wOf l9 ⟨names[j].toArray⟩⟩] else dShOf l9 (names.take j) := by
  unfold dShOf
  rw [List.take_succ_eq_append_getElem h, List.foldl_append]
  rfl
theorem dShOf_len (l9 : List S51) (names : List (List UInt8)) : ∀ j, j ≤ names.length → (dShOf l9 (names.take j)).length ≤ j
  | 0, _ => by simp [dShOf]
  | j + 1, h => by
    have := dShOf_len l9 names j (by omega)
    rw [dShOf_succ l9 (by omega : j < names.length)]
    split
    · rw [List.length_append, List.length_singleton]; omega
    · omega
/-- The Tags. -/
def dTg1 (x : ByteArray) (o : List S83) (ps : List (TgM × List UInt8)) : List S83 := ps.foldl (fun o p => if p.1.tag.toList == x.toList then o ++ [⟨x, ⟨p.2.toArray⟩⟩] else o) o
theorem dTg1_succ (x : ByteArray) (o : List S83) {ps : List (TgM × List UInt8)} {k : Nat} (h : k < ps.length) : dTg1 x o (ps.take (k + 1)) = if ps[k].1.tag.toList == x.toList then dTg1 x o (ps.take k) ++ [⟨x, ⟨ps[k].2.toArray⟩⟩] else dTg1 x o (ps.take k) := by
  unfold dTg1
  rw [List.take_succ_eq_append_getElem h, List.foldl_append]
  rfl
theorem dTg1_len (x : ByteArray) (o : List S83) (ps : List (TgM × List UInt8)) : ∀ k, k ≤ ps.length → (dTg1 x o (ps.take k)).length ≤ o.length + k
  | 0, _ => by simp [dTg1]
  | k + 1, h => by
    have := dTg1_len x o ps k (by omega)
    rw [dTg1_succ x o (by omega : k < ps.length)]
    split
    · rw [List.length_append, List.length_singleton]; omega
    · omega
def dTgOf (ps : List (TgM × List UInt8)) (tags : List (List UInt8)) : List S83 := tags.foldl (fun o x => dTg1 ⟨x.toArray⟩ o ps) []
theorem dTgOf_succ (ps : List (TgM × List UInt8)) {tags : List (List UInt8)} {j : Nat} (h : j < tags.length) : dTgOf ps (tags.take (j + 1)) = dTg1 ⟨tags[j].toArray⟩ (dTgOf ps (tags.take j)) ps := by
  unfold dTgOf
  rw [List.take_succ_eq_append_getElem h, List.foldl_append]
  rfl
theorem dTgOf_len (ps : List (TgM × List UInt8)) (tags : List (List UInt8)) : ∀ j, j ≤ tags.length → (dTgOf ps (tags.take j)).length ≤ j * ps.length
  | 0, _ => by simp [dTgOf]
  | j + 1, h => by
    have := dTgOf_len ps tags j (by omega)
    rw [dTgOf_succ ps (by omega : j < tags.length)]
    have h2 := dTg1_len ⟨tags[j].toArray⟩ (dTgOf ps (tags.take j)) ps ps.length (Nat.le_refl _)
    rw [List.take_length] at h2
    have : (j + 1) * ps.length = j * ps.length + ps.length := Nat.succ_mul _ _
    omega
/-- What the document's Resolve makes. -/
def dSh (L : List PB.RevM) (cfg : ByteArray) (ts : List TgM) : List S51 := dShOf (dSum L cfg ts) (dN L cfg ts)
def dTg (L : List PB.RevM) (cfg : ByteArray) (ts : List TgM) : List S83 := dTgOf (ts.zip (dTo L cfg ts)) (dT ts)
/-- What the document's Resolve tells. -/
def DPost (w : World) (L : List PB.RevM) (cfg : ByteArray) (ts : List TgM) (e : Ending) (w' : World) : Prop :=
  Below w.heap.size w w' ∧ match firstErr L cfg ts with
    | some x => e = .returned (.tuple #[.agg #[.slice none 0 0, .slice none 0 0], .int .i64 x])
    | none => ∃ A c B d, e = .returned (.tuple #[.agg #[.slice A (dSh L cfg ts).length c, .slice B (dTg L cfg ts).length d], .int .i64 0]) ∧
        Kd.C k51 w' A (dSh L cfg ts).length (dSh L cfg ts) ∧ (dSh L cfg ts).length ≤ c ∧ Kd.C k83 w' B (dTg L cfg ts).length (dTg L cfg ts) ∧ (dTg L cfg ts).length ≤ d
/-- append, in a plain region: only the row's own block may change; its own block is the old one, or new. -/
theorem list_appN {α : Type} (E : El Tryz.prog α) {ops : Array Oper} {rest : List Oper} {o : Oper} {a : Act} {Q : Exit → Act → World → Prop} (w : World) (hgd : o.guard = none) (s x : Operand) (ho : o.op = .call { callee := .builtin .append, args := #[s, x], argTypes := #[E.t, E.t] })
    (B : Nat) (v : Value) (xs : List α) (hs : a.eval s = v) (hown : RowG E w B v xs)
    (A : Option Addr) (m c : Nat) (ys : List α) (hx : a.eval x = .slice A m c) (hm : ys.length = m) (hsrc : SrcG E w A ys) (hn : xs.length ≤ 1000000) (hm6 : m ≤ 1000000) (hB : B ≤ w.heap.size)
    (h : ∀ v' w', RowG E w' B v' (xs ++ ys) → Chg (fun k => v.ownBlock = some k) w w' → (v'.ownBlock = v.ownBlock ∨ v'.ownBlock = some w.heap.size) → wpList Tryz.prog ops Q rest (a.put o.dst v') w') : wpList Tryz.prog ops Q (o :: rest) a w :=
  PB.list_appO E w hgd s x ho B v xs hs hown A m c ys hx hm hsrc hn hm6 hB h

end Go.Proofs.YtnkmpkhiilnigaaGreatDoor.PR
