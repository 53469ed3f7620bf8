/- The evaluator, part B: what a step does to a heap and to the world. -/
import Derived.Test.YtgpgiejcnicigaaGreatDoorEvA
import Derived.Deep.MidRow
import Derived.Deep.AppendSrc
namespace Go.Ev

noncomputable def D : Nat := 13
abbrev Heap := T Obj
noncomputable def Heap.put (h : Heap) (n : Nat) (o : Obj) : Heap := T.set D h n (some o)
noncomputable def Heap.del (h : Heap) (n : Nat) : Heap := T.set D h n none
noncomputable def fits (n : Nat) : Bool := Nat.ble (n + 2) (2 ^ D)
theorem fits_lt {n : Nat} (h : fits n = true) : n + 1 < 2 ^ D := Nat.le_of_ble_eq_true h
theorem Heap.get_put {h : Heap} {n : Nat} {o : Obj} (hf : fits n = true) (m : Nat) : (h.put n o).get m = if m = n then some o else h.get m := T.get_set _ _ _ _ _ (fits_lt hf)
theorem Heap.get_del {h : Heap} {n : Nat} (hf : fits n = true) (m : Nat) : (h.del n).get m = if m = n then none else h.get m := T.get_set _ _ _ _ _ (fits_lt hf)

noncomputable def _root_.Go.World.putObj (w : World) (b : Nat) (o : Obj) : World := { w with heap := w.heap.setIfInBounds b o }
theorem putObj_get (w : World) (b : Nat) (o : Obj) (k : Nat) : (w.putObj b o).heap[k]? = if b = k ∧ k < w.heap.size then some o else w.heap[k]? := by
  simp only [World.putObj, Array.getElem?_setIfInBounds]
  by_cases h : b = k
  · subst h
    by_cases h2 : b < w.heap.size
    · simp [h2]
    · simp [h2]
  · simp [h]
theorem lt_of_get {w : World} {b : Nat} {o : Obj} (h : w.heap[b]? = some o) : b < w.heap.size := (Array.getElem?_eq_some_iff.1 h).1

noncomputable def upd (ι : Map) (n : Nat) (x : Blk) : Map := fun m => if m = n then some x else ι m
theorem upd_same (ι : Map) (n : Nat) (x : Blk) : upd ι n x n = some x := by simp [upd]
theorem upd_other (ι : Map) {n m : Nat} (x : Blk) (h : m ≠ n) : upd ι n x m = ι m := by simp [upd, h]
theorem upd_ext {ι : Map} {n : Nat} (x : Blk) (h : ι n = none) : Ext ι (upd ι n x) := fun m y e => by
  by_cases hm : m = n
  · subst hm; rw [h] at e; cases e
  · rw [upd_other _ _ hm]; exact e

section
variable {ι : Map} {h : Heap} {w : World}

/-- A block is written over. -/
theorem Rl.put (r : Rl ι h w) {n : Nat} {p o o' : Obj} {x : Blk} (hf : fits n = true) (hn : h.get n = some p) (hx : ι n = some x) (ho : OR ι x o o') : Rl ι (h.put n o) (w.putObj x.b o') where
  obj m q hm := by
    rw [Heap.get_put hf] at hm
    by_cases e : m = n
    · subst e
      simp only [if_true, Option.some.injEq] at hm
      subst hm
      obtain ⟨y, p', hy, hw, _⟩ := r.obj m p hn
      rw [hx] at hy; cases hy
      exact ⟨x, o', hx, by rw [putObj_get]; simp [lt_of_get hw], ho⟩
    · rw [if_neg e] at hm
      obtain ⟨y, q', hy, hw, hq⟩ := r.obj m q hm
      refine ⟨y, q', hy, ?_, hq⟩
      rw [putObj_get, if_neg, hw]
      rintro ⟨e1, _⟩
      exact e (r.inj m n q p y x hm hn hy hx e1.symm)
  inj m k o1 o2 y z hm hk hy hz e := by
    rw [Heap.get_put hf] at hm hk
    have hm' : ∃ o, h.get m = some o := by
      by_cases e1 : m = n
      · exact ⟨p, e1 ▸ hn⟩
      · rw [if_neg e1] at hm; exact ⟨_, hm⟩
    have hk' : ∃ o, h.get k = some o := by
      by_cases e1 : k = n
      · exact ⟨p, e1 ▸ hn⟩
      · rw [if_neg e1] at hk; exact ⟨_, hk⟩
    obtain ⟨a, ha⟩ := hm'
    obtain ⟨b, hb⟩ := hk'
    exact r.inj m k a b y z ha hb hy hz e
theorem Tr.put {n c : Nat} {p o o' : Obj} {x : Blk} (hf : fits n = true) (hn : h.get n = some p) (hx : ι n = some x) : Tr ι h c w ι (h.put n o) c (w.putObj x.b o') where
  ext := .refl ι
  le := Nat.le_refl _
  low _ _ e := e
  size := by simp [World.putObj]
  frame b hb hh := by
    rw [putObj_get, if_neg]
    rintro ⟨e, _⟩
    exact hh n p x hn hx e
  live m q y hm hy := by
    rw [Heap.get_put hf] at hm
    by_cases e : m = n
    · subst e; exact .inr ⟨m, p, y, hn, hy, rfl⟩
    · rw [if_neg e] at hm; exact .inr ⟨m, q, y, hm, hy, rfl⟩
  names m q hm := by
    rw [Heap.get_put hf] at hm
    by_cases e : m = n
    · subst e; exact .inl ⟨p, hn⟩
    · rw [if_neg e] at hm; exact .inl ⟨q, hm⟩
  os := rfl
  tape := rfl
  output := rfl

/-- A name is forgotten. -/
theorem Rl.del (r : Rl ι h w) {n : Nat} (hf : fits n = true) : Rl ι (h.del n) w where
  obj m q hm := by
    rw [Heap.get_del hf] at hm
    by_cases e : m = n
    · rw [if_pos e] at hm; cases hm
    · rw [if_neg e] at hm; exact r.obj m q hm
  inj m k o1 o2 y z hm hk hy hz e := by
    rw [Heap.get_del hf] at hm hk
    by_cases e1 : m = n
    · rw [if_pos e1] at hm; cases hm
    by_cases e2 : k = n
    · rw [if_pos e2] at hk; cases hk
    rw [if_neg e1] at hm; rw [if_neg e2] at hk
    exact r.inj m k o1 o2 y z hm hk hy hz e
theorem Tr.del {n c : Nat} (hf : fits n = true) : Tr ι h c w ι (h.del n) c w where
  ext := .refl ι
  le := Nat.le_refl _
  low _ _ e := e
  size := Nat.le_refl _
  frame _ _ _ := rfl
  live m q y hm hy := by
    rw [Heap.get_del hf] at hm
    by_cases e : m = n
    · rw [if_pos e] at hm; cases hm
    · rw [if_neg e] at hm; exact .inr ⟨m, q, y, hm, hy, rfl⟩
  names m q hm := by
    rw [Heap.get_del hf] at hm
    by_cases e : m = n
    · rw [if_pos e] at hm; cases hm
    · rw [if_neg e] at hm; exact .inl ⟨q, hm⟩
  os := rfl
  tape := rfl
  output := rfl

/-- The relation at another map. -/
theorem Rl.ext (r : Rl ι h w) {ι' : Map} (e : Ext ι ι') : Rl ι' h w where
  obj m q hm := let ⟨x, o', hx, hw, ho⟩ := r.obj m q hm; ⟨x, o', e _ _ hx, hw, ho.mono e⟩
  inj m k o1 o2 y z hm hk hy hz eb := by
    obtain ⟨y', _, hy', _⟩ := r.obj m o1 hm
    obtain ⟨z', _, hz', _⟩ := r.obj k o2 hk
    have := e _ _ hy'; rw [hy] at this; cases this
    have := e _ _ hz'; rw [hz] at this; cases this
    exact r.inj m k o1 o2 y z hm hk hy' hz' eb

/-- A new block. -/
theorem Rl.new (r : Rl ι h w) {n κ δ : Nat} {o o' : Obj} (hf : fits n = true) (hn : ι n = none) (ho : OR (upd ι n ⟨w.heap.size, κ, δ⟩) ⟨w.heap.size, κ, δ⟩ o o') :
    Rl (upd ι n ⟨w.heap.size, κ, δ⟩) (h.put n o) { w with heap := w.heap.push o' } where
  obj m q hm := by
    rw [Heap.get_put hf] at hm
    by_cases e : m = n
    · subst e
      simp only [if_true, Option.some.injEq] at hm
      subst hm
      exact ⟨_, o', upd_same _ _ _, by simp, ho⟩
    · rw [if_neg e] at hm
      obtain ⟨x, q', hx, hw, hq⟩ := r.obj m q hm
      refine ⟨x, q', by rw [upd_other _ _ e]; exact hx, ?_, hq.mono (upd_ext _ hn)⟩
      have := lt_of_get hw
      simp only [Array.getElem?_push]
      rw [if_neg (by omega)]; exact hw
  inj m k o1 o2 y z hm hk hy hz e := by
    rw [Heap.get_put hf] at hm hk
    by_cases e1 : m = n <;> by_cases e2 : k = n
    · rw [e1, e2]
    · exfalso
      subst e1
      rw [upd_same] at hy; cases hy
      rw [if_neg e2] at hk
      obtain ⟨x, q', hx, hw, _⟩ := r.obj k o2 hk
      rw [upd_other _ _ e2, hx] at hz; cases hz
      have := lt_of_get hw
      simp at e; omega
    · exfalso
      subst e2
      rw [upd_same] at hz; cases hz
      rw [if_neg e1] at hm
      obtain ⟨x, q', hx, hw, _⟩ := r.obj m o1 hm
      rw [upd_other _ _ e1, hx] at hy; cases hy
      have := lt_of_get hw
      simp at e; omega
    · rw [if_neg e1] at hm; rw [if_neg e2] at hk
      rw [upd_other _ _ e1] at hy; rw [upd_other _ _ e2] at hz
      exact r.inj m k o1 o2 y z hm hk hy hz e
theorem Tr.new {c κ δ : Nat} {o o' : Obj} (hf : fits c = true) (hn : ι c = none) :
    Tr ι h c w (upd ι c ⟨w.heap.size, κ, δ⟩) (h.put c o) (c + 1) { w with heap := w.heap.push o' } where
  ext := upd_ext _ hn
  le := Nat.le_succ _
  low m hm e := by rw [upd_other _ _ (by omega)]; exact e
  size := by simp
  frame b hb _ := by simp only [Array.getElem?_push]; rw [if_neg (by omega)]
  live m q y hm hy := by
    rw [Heap.get_put hf] at hm
    by_cases e : m = c
    · subst e; rw [upd_same] at hy; cases hy; exact .inl (Nat.le_refl _)
    · rw [if_neg e] at hm; rw [upd_other _ _ e] at hy; exact .inr ⟨m, q, y, hm, hy, rfl⟩
  names m q hm := by
    rw [Heap.get_put hf] at hm
    by_cases e : m = c
    · exact .inr ⟨by omega, by omega⟩
    · rw [if_neg e] at hm; exact .inl ⟨q, hm⟩
  os := rfl
  tape := rfl
  output := rfl
theorem Above.new {c : Nat} (a : Above ι c) (x : Blk) : Above (upd ι c x) (c + 1) := fun m hm => by
  rw [upd_other _ _ (by omega)]; exact a m (by omega)

theorem Rl.drew (r : Rl ι h w) : Rl ι h w.drew := ⟨r.obj, r.inj⟩
theorem Tr.drew {c : Nat} : Tr ι h c w ι h c w.drew :=
  ⟨.refl ι, Nat.le_refl _, fun _ _ h => h, Nat.le_refl _, fun _ _ _ => rfl, fun n o x e f => .inr ⟨n, o, x, e, f, rfl⟩, fun _ _ e => .inl ⟨_, e⟩, rfl, rfl, rfl⟩

/-- Cells, one by one, moved by so much. -/
noncomputable def CR (ι : Map) (δ : Nat) (a a' : List Value) : Prop := ∀ (i : Nat) v, a[i]? = some v → ∃ v', a'[i + δ]? = some v' ∧ VR ι v v'
theorem CR.set {δ : Nat} {a a' : List Value} (hc : CR ι δ a a') {v v' : Value} (hv : VR ι v v') (i : Nat) : CR ι δ (a.set i v) (a'.set (i + δ) v') := fun j u hu => by
  rw [List.getElem?_set] at hu
  by_cases e : i = j
  · subst e
    simp only [if_true] at hu
    split at hu
    · rename_i hlt
      cases hu
      obtain ⟨u', hu', _⟩ := hc i _ (List.getElem?_eq_getElem hlt)
      have : i + δ < a'.length := (List.getElem?_eq_some_iff.1 hu').1
      exact ⟨v', by simp [this], hv⟩
    · cases hu
  · rw [if_neg e] at hu
    obtain ⟨u', hu', hr⟩ := hc j u hu
    exact ⟨u', by rw [List.getElem?_set, if_neg (by omega)]; exact hu', hr⟩
theorem CR.mono {δ : Nat} {a a' : List Value} {ι' : Map} (e : Ext ι ι') (hc : CR ι δ a a') : CR ι' δ a a' := fun i v hv => let ⟨v', h1, h2⟩ := hc i v hv; ⟨v', h1, h2.mono e⟩
noncomputable def putL : List Value → Nat → List Value → List Value
  | a, _, [] => a
  | a, o, v :: r => putL (a.set o v) (o + 1) r
theorem putL_length : ∀ (vs a : List Value) (o : Nat), (putL a o vs).length = a.length
  | [], _, _ => rfl
  | v :: r, a, o => by rw [putL, putL_length r]; simp
theorem CR.putL {δ : Nat} : ∀ {vs vs' : List Value} (_ : VRL ι vs vs') {a a' : List Value} (_ : CR ι δ a a') (o : Nat), CR ι δ (putL a o vs) (putL a' (o + δ) vs')
  | _, _, .nil, _, _, hc, _ => hc
  | _, _, .cons hv hr, a, a', hc, o => by
    rw [Ev.putL, Ev.putL]
    have := CR.putL hr (hc.set hv o) (o + 1)
    rwa [show o + 1 + δ = o + δ + 1 by omega] at this

theorem setCells_eq : ∀ (vs a : List Value) (o : Nat) (w : World) (b : Nat) (t : TypeId) (fz : Nat × Nat), w.heap[b]? = some (.cells ⟨a⟩ t fz) →
    w.setCells b o vs = w.putObj b (.cells ⟨putL a o vs⟩ t fz)
  | [], a, o, w, b, t, fz, hb => by
    simp only [World.setCells, putL, World.putObj]
    have : w.heap.setIfInBounds b (.cells ⟨a⟩ t fz) = w.heap := by
      apply Array.ext_getElem?
      intro k
      rw [Array.getElem?_setIfInBounds]
      by_cases e : b = k
      · subst e; obtain ⟨hlt, hg⟩ := Array.getElem?_eq_some_iff.1 hb; simp [hlt, hg]
      · simp [e]
    rw [this]
  | v :: r, a, o, w, b, t, fz, hb => by
    have h1 : w.setCell ⟨b, o, none⟩ v = w.putObj b (.cells ⟨a.set o v⟩ t fz) := by
      simp only [World.setCell, World.putObj]
      congr 1
      apply Array.ext_getElem?
      intro k
      rw [Array.getElem?_setIfInBounds, Array.getElem?_modify]
      by_cases e : b = k
      · subst e; obtain ⟨hlt, hg⟩ := Array.getElem?_eq_some_iff.1 hb; simp [hlt, hg]
      · simp [e]
    rw [World.setCells, h1, setCells_eq r (a.set o v) (o + 1) _ b t fz (by rw [putObj_get]; simp [lt_of_get hb]), putL]
    simp [World.putObj]

/-- A cell. -/
theorem Rl.cell (r : Rl ι h w) {n i : Nat} {a : List Value} {t : TypeId} {fz : Nat × Nat} {x : Blk} {v : Value} (hn : h.get n = some (.cells ⟨a⟩ t fz)) (hx : ι n = some x) (hv : a[i]? = some v) :
    ∃ v', w.cell? ⟨x.b, i + x.δ, none⟩ = some v' ∧ VR ι v v' := by
  obtain ⟨y, o', hy, hw, ho⟩ := r.obj n _ hn
  rw [hx] at hy; cases hy
  cases ho with
  | cells hl hc hz =>
    obtain ⟨v', h1, h2⟩ := hc i v hv
    exact ⟨v', by simp [World.cell?, hw, h1], h2⟩
  | table _ hl hc =>
    obtain ⟨v', h1, h2⟩ := hc i v hv
    exact ⟨v', by simp [World.cell?, hw, h1], h2⟩
theorem Rl.row (r : Rl ι h w) {n : Nat} {a : List Value} {t : TypeId} {fz : Nat × Nat} {x : Blk} (hn : h.get n = some (.cells ⟨a⟩ t fz)) (hx : ι n = some x) :
    ∃ a' t' fz', w.heap[x.b]? = some (.cells ⟨a'⟩ t' fz') ∧ CR ι x.δ a a' := by
  obtain ⟨y, o', hy, hw, ho⟩ := r.obj n _ hn
  rw [hx] at hy; cases hy
  cases ho with
  | cells hl hc hz => exact ⟨_, _, _, hw, hc⟩
  | table _ hl hc => exact ⟨_, _, _, hw, hc⟩
theorem Rl.cells (r : Rl ι h w) {n : Nat} {a : List Value} {t : TypeId} {x : Blk} (hn : h.get n = some (.cells ⟨a⟩ t (0, 0))) (hx : ι n = some x) :
    ∃ a' fz', w.heap[x.b]? = some (.cells ⟨a'⟩ t fz') ∧ a'.length = x.κ ∧ CR ι x.δ a a' ∧ ∀ o, o < x.κ → ¬ (fz'.1 ≤ o ∧ o < fz'.2) := by
  obtain ⟨y, o', hy, hw, ho⟩ := r.obj n _ hn
  rw [hx] at hy; cases hy
  cases ho with
  | cells hl hc hz => exact ⟨_, _, hw, hl, hc, hz⟩
/-- A run of cells. -/
theorem Rl.range (r : Rl ι h w) {n : Nat} {a : List Value} {t : TypeId} {fz : Nat × Nat} {x : Blk} (hn : h.get n = some (.cells ⟨a⟩ t fz)) (hx : ι n = some x) (off k : Nat) (hk : off + k ≤ a.length) :
    ∃ vs', vs'.length = k ∧ w.rangeAt x.b (off + x.δ) vs' ∧ VRL ι ((a.drop off).take k) vs' := by
  obtain ⟨a', t', fz', hw, hc⟩ := r.row hn hx
  rcases Nat.eq_zero_or_pos k with e | e
  · subst e
    exact ⟨[], rfl, fun j v hj => by simp at hj, by simpa using VRL.nil⟩
  have hlen : off + x.δ + k ≤ a'.length := by
    obtain ⟨v, hv⟩ : ∃ v, a[off + k - 1]? = some v := ⟨_, List.getElem?_eq_getElem (by omega)⟩
    obtain ⟨v', hv', _⟩ := hc _ v hv
    have := (List.getElem?_eq_some_iff.1 hv').1
    omega
  refine ⟨(a'.drop (off + x.δ)).take k, by simp; omega, fun j v hj => ?_, VRL.of_get (by simp; omega) fun i v hv => ?_⟩
  · rw [List.getElem?_take] at hj
    split at hj
    · rw [List.getElem?_drop] at hj
      simp [World.cell?, hw, hj]
    · cases hj
  · rw [List.getElem?_take] at hv
    split at hv
    · rename_i hlt
      rw [List.getElem?_drop] at hv
      obtain ⟨v', hv', hr⟩ := hc _ v hv
      exact ⟨v', by rw [List.getElem?_take, if_pos hlt, List.getElem?_drop, ← hv']; congr 1; omega, hr⟩
    · cases hv
end
end Go.Ev
