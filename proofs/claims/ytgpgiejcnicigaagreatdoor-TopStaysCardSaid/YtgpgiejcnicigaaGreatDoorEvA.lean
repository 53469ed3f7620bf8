/- The evaluator, part A: tries, the relation between evaluated and real values, heaps. -/
import Derived.Calls
namespace Go.Ev

/-- A map from numbers, as a trie. -/
inductive T (α : Type) : Type where
  | e
  | n (l : T α) (v : Option α) (r : T α)

namespace T
variable {α β : Type}
/-- (By the recursor itself: the kernel reckons it in few steps.) -/
noncomputable def get (t : T α) : Nat → Option α :=
  T.rec (motive := fun _ => Nat → Option α) (fun _ => none) (fun _ v _ gl gr k => Nat.rec (motive := fun _ => Option α) v (fun j _ => Bool.rec (motive := fun _ => Option α) (gr (j / 2)) (gl (j / 2)) (Nat.beq (j % 2) 0)) k) t
def left : T α → T α
  | e => e
  | n l _ _ => l
def right : T α → T α
  | e => e
  | n _ _ r => r
def val : T α → Option α
  | e => none
  | n _ v _ => v
noncomputable def setK (d : Nat) : T α → Nat → Option α → (T α → β) → β :=
  Nat.rec (motive := fun _ => T α → Nat → Option α → (T α → β) → β) (fun t _ _ f => f t)
    (fun _ ih t k v f => T.rec (motive := fun _ => β)
      (Nat.rec (motive := fun _ => β) (f (n e v e)) (fun j _ => Bool.rec (motive := fun _ => β) (ih e (j / 2) v fun r => f (n e none r)) (ih e (j / 2) v fun l => f (n l none e)) (Nat.beq (j % 2) 0)) k)
      (fun tl tv tr _ _ => Nat.rec (motive := fun _ => β) (f (n tl v tr)) (fun j _ => Bool.rec (motive := fun _ => β) (ih tr (j / 2) v fun r => f (n tl tv r)) (ih tl (j / 2) v fun l => f (n l tv tr)) (Nat.beq (j % 2) 0)) k) t) d
theorem beq_true {j : Nat} (h : j % 2 = 0) : Nat.beq (j % 2) 0 = true := by rw [h]; rfl
theorem beq_false {j : Nat} (h : ¬ j % 2 = 0) : Nat.beq (j % 2) 0 = false := by
  have : j % 2 = 1 := by omega
  rw [this]; rfl
theorem get_zero (l : T α) (v : Option α) (r : T α) : (n l v r).get 0 = v := rfl
theorem get_succ (l : T α) (v : Option α) (r : T α) (j : Nat) : (n l v r).get (j + 1) = if j % 2 = 0 then l.get (j / 2) else r.get (j / 2) := by
  show Bool.rec (motive := fun _ => Option α) (r.get (j / 2)) (l.get (j / 2)) (Nat.beq (j % 2) 0) = _
  by_cases h : j % 2 = 0
  · rw [beq_true h, if_pos h]
  · rw [beq_false h, if_neg h]
theorem get_e (k : Nat) : (e : T α).get k = none := rfl
theorem setK_zero (t : T α) (k : Nat) (v : Option α) (f : T α → β) : setK 0 t k v f = f t := rfl
theorem setK_succ0 (d : Nat) (t : T α) (v : Option α) (f : T α → β) : setK (d + 1) t 0 v f = f (n t.left v t.right) := by cases t <;> rfl
theorem setK_succ (d : Nat) (t : T α) (j : Nat) (v : Option α) (f : T α → β) : setK (d + 1) t (j + 1) v f =
    if j % 2 = 0 then setK d t.left (j / 2) v fun l => f (n l t.val t.right) else setK d t.right (j / 2) v fun r => f (n t.left t.val r) := by
  have : setK (d + 1) t (j + 1) v f = Bool.rec (motive := fun _ => β) (setK d t.right (j / 2) v fun r => f (n t.left t.val r)) (setK d t.left (j / 2) v fun l => f (n l t.val t.right)) (Nat.beq (j % 2) 0) := by cases t <;> rfl
  rw [this]
  by_cases h : j % 2 = 0
  · rw [beq_true h, if_pos h]
  · rw [beq_false h, if_neg h]
noncomputable def set (d : Nat) (t : T α) (k : Nat) (v : Option α) : T α := setK d t k v id
theorem get_left (t : T α) (j : Nat) (h : j % 2 = 0) : t.get (j + 1) = t.left.get (j / 2) := by cases t <;> simp [get_e, get_succ, left, h]
theorem get_right (t : T α) (j : Nat) (h : ¬ j % 2 = 0) : t.get (j + 1) = t.right.get (j / 2) := by cases t <;> simp [get_e, get_succ, right, h]
theorem get_val (t : T α) : t.get 0 = t.val := by cases t <;> rfl
theorem setK_eq (d : Nat) : ∀ {β : Type} (t : T α) (k : Nat) (v : Option α) (f : T α → β), setK d t k v f = f (set d t k v) := by
  induction d with
  | zero => intro β t k v f; rfl
  | succ d ih =>
    intro β t k v f
    cases k with
    | zero => simp only [set, setK_succ0]; rfl
    | succ j =>
      simp only [setK_succ, set]
      split
      · rw [ih, ih (β := T α)]; rfl
      · rw [ih, ih (β := T α)]; rfl
theorem get_set (d : Nat) : ∀ (t : T α) (k : Nat) (v : Option α) (j : Nat), k + 1 < 2 ^ d → (set d t k v).get j = if j = k then v else t.get j := by
  induction d with
  | zero => intro t k v j h; omega
  | succ d ih =>
    intro t k v j h
    cases k with
    | zero =>
      simp only [set, setK_succ0, id]
      cases j with
      | zero => simp [get_zero]
      | succ j =>
        simp only [Nat.add_one_ne_zero, if_false]
        by_cases hj : j % 2 = 0
        · rw [get_left _ _ hj, get_left _ _ hj]; rfl
        · rw [get_right _ _ hj, get_right _ _ hj]; rfl
    | succ k =>
      have hk2 : k / 2 + 1 < 2 ^ d := by omega
      simp only [set, setK_succ]
      by_cases hk : k % 2 = 0
      · simp only [hk, if_true, setK_eq, id]
        cases j with
        | zero => rw [get_val, get_val]; simp [val]
        | succ j =>
          by_cases hj : j % 2 = 0
          · rw [get_left _ _ hj, get_left _ _ hj]
            show (set d t.left (k / 2) v).get (j / 2) = _
            rw [ih _ _ _ _ hk2]
            have : (j / 2 = k / 2) ↔ (j + 1 = k + 1) := by omega
            simp only [this]
          · rw [get_right _ _ hj, get_right _ _ hj]
            have : j + 1 ≠ k + 1 := by omega
            simp only [this, if_false]; rfl
      · simp only [hk, if_false, setK_eq, id]
        cases j with
        | zero => rw [get_val, get_val]; simp [val]
        | succ j =>
          by_cases hj : j % 2 = 0
          · rw [get_left _ _ hj, get_left _ _ hj]
            have : j + 1 ≠ k + 1 := by omega
            simp only [this, if_false]; rfl
          · rw [get_right _ _ hj, get_right _ _ hj]
            show (set d t.right (k / 2) v).get (j / 2) = _
            rw [ih _ _ _ _ hk2]
            have : (j / 2 = k / 2) ↔ (j + 1 = k + 1) := by omega
            simp only [this]
theorem get_set_some (d : Nat) : ∀ (t : T α) (k : Nat) (v : Option α) (j : Nat) (x : α), (set d t k v).get j = some x → (j = k ∧ v = some x) ∨ t.get j = some x := by
  induction d with
  | zero => intro t k v j x h; exact .inr h
  | succ d ih =>
    intro t k v j x h
    cases k with
    | zero =>
      simp only [set, setK_succ0, id] at h
      cases j with
      | zero => exact .inl ⟨rfl, h⟩
      | succ j =>
        right
        rw [get_succ] at h
        by_cases hj : j % 2 = 0
        · rw [if_pos hj] at h; rw [get_left _ _ hj]; exact h
        · rw [if_neg hj] at h; rw [get_right _ _ hj]; exact h
    | succ k =>
      simp only [set, setK_succ] at h
      by_cases hk : k % 2 = 0
      · simp only [hk, if_true, setK_eq, id] at h
        cases j with
        | zero => rw [get_zero] at h; right; rw [get_val]; exact h
        | succ j =>
          rw [get_succ] at h
          by_cases hj : j % 2 = 0
          · rw [if_pos hj] at h
            rw [get_left _ _ hj]
            rcases ih _ _ _ _ _ h with ⟨h1, h2⟩ | h1
            · exact .inl ⟨by omega, h2⟩
            · exact .inr h1
          · rw [if_neg hj] at h; right; rw [get_right _ _ hj]; exact h
      · simp only [hk, if_false, setK_eq, id] at h
        cases j with
        | zero => rw [get_zero] at h; right; rw [get_val]; exact h
        | succ j =>
          rw [get_succ] at h
          by_cases hj : j % 2 = 0
          · rw [if_pos hj] at h; right; rw [get_left _ _ hj]; exact h
          · rw [if_neg hj] at h
            rw [get_right _ _ hj]
            rcases ih _ _ _ _ _ h with ⟨h1, h2⟩ | h1
            · exact .inl ⟨by omega, h2⟩
            · exact .inr h1
/-- A list, as a trie. -/
noncomputable def build (d : Nat) (l : List α) : Nat → T α → T α :=
  List.rec (motive := fun _ => Nat → T α → T α) (fun _ t => t) (fun x _ ih i t => setK d t i (some x) (ih (i + 1))) l
theorem build_get (d : Nat) : ∀ (l : List α) (i : Nat) (t : T α) (j : Nat) (x : α), (build d l i t).get j = some x → t.get j = some x ∨ (i ≤ j ∧ l[j - i]? = some x)
  | [], i, t, j, x, h => .inl h
  | y :: l, i, t, j, x, h => by
    have e : build d (y :: l) i t = build d l (i + 1) (set d t i (some y)) := setK_eq d t i (some y) (build d l (i + 1))
    rw [e] at h
    rcases build_get d l (i + 1) _ j x h with h | ⟨h1, h2⟩
    · rcases get_set_some d t i (some y) j x h with ⟨h1, h2⟩ | h1
      · right; cases h2; subst h1; exact ⟨Nat.le_refl _, by simp⟩
      · exact .inl h1
    · right
      refine ⟨by omega, ?_⟩
      rw [show j - i = (j - (i + 1)) + 1 by omega]
      simpa using h2
attribute [irreducible] get setK set build
end T

/-- The program's tables, as tries: looked up in few steps. -/
noncomputable def ttab (P : Program) : T TypeInfo := T.build 13 P.types.toList 0 .e
noncomputable def ftab (P : Program) : T Func := T.build 13 P.funcs.toList 0 .e
theorem ftab_get {P : Program} {f : FuncId} {fn : Func} (h : (ftab P).get f = some fn) : P.funcs[f]? = some fn := by
  rcases T.build_get _ _ _ _ _ _ h with h | ⟨_, h⟩
  · rw [T.get_e] at h; cases h
  · simpa using h
noncomputable def infoA (P : Program) (t : TypeId) : Option TypeInfo :=
  match (ttab P).get t with
  | some i => some i
  | none => P.info? t
theorem infoA_eq (P : Program) (t : TypeId) : infoA P t = P.info? t := by
  unfold infoA
  split
  · rename_i i h
    rcases T.build_get _ _ _ _ _ _ h with h | ⟨_, h⟩
    · rw [T.get_e] at h; cases h
    · have h' : P.types[t]? = some i := by simpa using h
      have hlt : t < P.types.size := (Array.getElem?_eq_some_iff.1 h').1
      show _ = P.toTables.info? t
      unfold Tables.info?
      rw [if_pos hlt, h']
  · rfl
noncomputable def undA (P : Program) (t : TypeId) : Option TypeDesc :=
  match infoA P t with
  | some { desc := .named _ u, .. } => (infoA P u).map (·.desc)
  | some i => some i.desc
  | none => none
theorem undA_eq (P : Program) (t : TypeId) : undA P t = P.underlying t := by
  unfold undA Program.underlying
  simp only [infoA_eq]
  cases P.info? t with
  | none => rfl
  | some i => obtain ⟨d, _⟩ := i; cases d <;> rfl

/-- Where a name lies: its block, how many cells it has, by how much its offsets are moved. -/
structure Blk where
  b : Nat
  κ : Nat
  δ : Nat

abbrev Map := Nat → Option Blk

/-- Above it: the slice's room is not known, but for the size of an element. -/
abbrev OPEN : Nat := 18446744073709551616

mutual
inductive VR (ι : Map) : Value → Value → Prop where
  | junk (v : Value) : VR ι (.chan (some 0)) v
  /-- A number that is told beside: what lies at name 50. -/
  | tok {x : Blk} : ι 50 = some x → VR ι (.chan (some 1)) (.int .i64 ((x.κ : Int) - x.δ))
  | bool (b : Bool) : VR ι (.bool b) (.bool b)
  | int (k : IntKind) (n : Int) : VR ι (.int k n) (.int k n)
  | string (s : ByteArray) : VR ι (.string s) (.string s)
  | ptr0 : VR ι (.pointer none) (.pointer none)
  | slice0 (l c : Nat) : VR ι (.slice none l c) (.slice none l c)
  | map0 : VR ι (.map none) (.map none)
  | nilFunc : VR ι .nilFunc .nilFunc
  | nilIface : VR ι .nilIface .nilIface
  | ptr {n off : Nat} {x : Blk} : ι n = some x → VR ι (.pointer (some ⟨n, off, none⟩)) (.pointer (some ⟨x.b, off + x.δ, none⟩))
  | slice {n off len cap : Nat} {x : Blk} : cap < OPEN → ι n = some x → VR ι (.slice (some ⟨n, off, none⟩) len cap) (.slice (some ⟨x.b, off + x.δ, none⟩) len cap)
  | slice00 (a a' : Addr) : VR ι (.slice (some a) 0 0) (.slice (some a') 0 0)
  | opn {n off len sz c o : Nat} {x : Blk} : ι n = some x → len ≤ c → o + c * sz ≤ x.κ → (len = 0 ∨ o = off + x.δ) →
      VR ι (.slice (some ⟨n, off, none⟩) len (OPEN + sz)) (.slice (some ⟨x.b, o, none⟩) len c)
  | map {n : Nat} {x : Blk} : ι n = some x → VR ι (.map (some n)) (.map (some x.b))
  | func {f : FuncId} {a b a' b' : List Value} : VRL ι a a' → VRL ι b b' → VR ι (.func (.func f) ⟨a⟩ ⟨b⟩) (.func (.func f) ⟨a'⟩ ⟨b'⟩)
  | yield {n : Nat} {x : Blk} : ι n = some x → VR ι (.func (.yield n) #[] #[]) (.func (.yield x.b) #[] #[])
  | iface {t : TypeId} {v v' : Value} : VR ι v v' → VR ι (.iface t v) (.iface t v')
  | agg {a a' : List Value} : VRL ι a a' → VR ι (.agg ⟨a⟩) (.agg ⟨a'⟩)
  | tuple {a a' : List Value} : VRL ι a a' → VR ι (.tuple ⟨a⟩) (.tuple ⟨a'⟩)
inductive VRL (ι : Map) : List Value → List Value → Prop where
  | nil : VRL ι [] []
  | cons {v v' : Value} {a a' : List Value} : VR ι v v' → VRL ι a a' → VRL ι (v :: a) (v' :: a')
end

def Ext (ι ι' : Map) : Prop := ∀ n x, ι n = some x → ι' n = some x
theorem Ext.refl (ι : Map) : Ext ι ι := fun _ _ h => h
theorem Ext.trans {a b c : Map} (h : Ext a b) (k : Ext b c) : Ext a c := fun n x e => k n x (h n x e)

mutual
theorem VR.mono {ι ι' : Map} (h : Ext ι ι') : ∀ {v v' : Value}, VR ι v v' → VR ι' v v'
  | _, _, .junk v => .junk v
  | _, _, .tok e => .tok (h _ _ e)
  | _, _, .bool b => .bool b
  | _, _, .int k n => .int k n
  | _, _, .string s => .string s
  | _, _, .ptr0 => .ptr0
  | _, _, .slice0 l c => .slice0 l c
  | _, _, .map0 => .map0
  | _, _, .nilFunc => .nilFunc
  | _, _, .nilIface => .nilIface
  | _, _, .ptr e => .ptr (h _ _ e)
  | _, _, .slice c e => .slice c (h _ _ e)
  | _, _, .slice00 a a' => .slice00 a a'
  | _, _, .opn e a b c => .opn (h _ _ e) a b c
  | _, _, .map e => .map (h _ _ e)
  | _, _, .func a b => .func (VRL.mono h a) (VRL.mono h b)
  | _, _, .yield e => .yield (h _ _ e)
  | _, _, .iface v => .iface (VR.mono h v)
  | _, _, .agg a => .agg (VRL.mono h a)
  | _, _, .tuple a => .tuple (VRL.mono h a)
theorem VRL.mono {ι ι' : Map} (h : Ext ι ι') : ∀ {a a' : List Value}, VRL ι a a' → VRL ι' a a'
  | _, _, .nil => .nil
  | _, _, .cons v a => .cons (VR.mono h v) (VRL.mono h a)
end

theorem VRL.length {ι : Map} : ∀ {a a' : List Value}, VRL ι a a' → a'.length = a.length
  | _, _, .nil => rfl
  | _, _, .cons _ a => by simp [VRL.length a]
theorem VRL.get {ι : Map} : ∀ {a a' : List Value} (_ : VRL ι a a') {i : Nat} {v : Value}, a[i]? = some v → ∃ v', a'[i]? = some v' ∧ VR ι v v'
  | _, _, .nil, _, _, h => by simp at h
  | _, _, .cons h1 h2, i, v, h => by
    cases i with
    | zero => simp at h; exact ⟨_, by simp, h ▸ h1⟩
    | succ i => simp at h; obtain ⟨v', e, r⟩ := VRL.get h2 h; exact ⟨v', by simpa using e, r⟩
theorem VRL.set {ι : Map} {v v' : Value} (hv : VR ι v v') : ∀ {a a' : List Value} (_ : VRL ι a a') (i : Nat), VRL ι (a.set i v) (a'.set i v')
  | _, _, .nil, _ => .nil
  | _, _, .cons _ h2, 0 => .cons hv h2
  | _, _, .cons h1 h2, i + 1 => .cons h1 (VRL.set hv h2 i)
theorem VRL.app {ι : Map} {b b' : List Value} (hb : VRL ι b b') : ∀ {a a' : List Value}, VRL ι a a' → VRL ι (a ++ b) (a' ++ b')
  | _, _, .nil => hb
  | _, _, .cons h1 h2 => .cons h1 (VRL.app hb h2)
theorem VRL.take {ι : Map} : ∀ {a a' : List Value} (_ : VRL ι a a') (i : Nat), VRL ι (a.take i) (a'.take i)
  | _, _, _, 0 => by simpa using .nil
  | _, _, .nil, _ + 1 => by simpa using .nil
  | _, _, .cons h1 h2, i + 1 => by simpa using .cons h1 (VRL.take h2 i)
theorem VRL.drop {ι : Map} : ∀ {a a' : List Value} (_ : VRL ι a a') (i : Nat), VRL ι (a.drop i) (a'.drop i)
  | _, _, h, 0 => by simpa using h
  | _, _, .nil, _ + 1 => by simpa using .nil
  | _, _, .cons h1 h2, i + 1 => by simpa using VRL.drop h2 i
theorem VRL.of_get {ι : Map} : ∀ {a a' : List Value}, a'.length = a.length → (∀ (i : Nat) v, a[i]? = some v → ∃ v', a'[i]? = some v' ∧ VR ι v v') → VRL ι a a'
  | [], [], _, _ => .nil
  | [], _ :: _, h, _ => by simp at h
  | _ :: _, [], h, _ => by simp at h
  | v :: a, v' :: a', h, hg => .cons (by obtain ⟨x, e, r⟩ := hg 0 v (by simp); simp at e; exact e ▸ r)
      (VRL.of_get (by simpa using h) fun i u hu => by simpa using hg (i + 1) u (by simpa using hu))

/-- A map's entries. -/
inductive MR (ι : Map) : List MapEntry → List MapEntry → Prop where
  | nil : MR ι [] []
  | cons {k v v' : Value} {born : Nat} {a a' : List MapEntry} : VR ι v v' → MR ι a a' → MR ι (⟨k, v, born⟩ :: a) (⟨k, v', born⟩ :: a')
theorem MR.mono {ι ι' : Map} (h : Ext ι ι') : ∀ {a a' : List MapEntry}, MR ι a a' → MR ι' a a'
  | _, _, .nil => .nil
  | _, _, .cons v a => .cons (VR.mono h v) (MR.mono h a)

/-- Three numbers in one. -/
def pairN (a b : Nat) : Nat := (a + b) * (a + b) + a
theorem pairN_inj {a b c d : Nat} (h : pairN a b = pairN c d) : a = c ∧ b = d := by
  unfold pairN at h
  have key : ∀ x y u v : Nat, u ≤ x → x * x + u = y * y + v → v ≤ y → ¬ x < y := by
    intro x y u v hu e hv hlt
    have h1 : (x + 1) * (x + 1) ≤ y * y := Nat.mul_le_mul hlt hlt
    have h2 : (x + 1) * (x + 1) = x * x + x + x + 1 := by rw [Nat.add_mul, Nat.mul_add]; omega
    omega
  have h1 := key (a + b) (c + d) a c (by omega) h (by omega)
  have h2 := key (c + d) (a + b) c a (by omega) h.symm (by omega)
  have h3 : a + b = c + d := by omega
  rw [h3] at h
  omega
def tcode (t a b : Nat) : Nat := pairN t (pairN a b)
theorem tcode_inj {t a b t' a' b' : Nat} (h : tcode t a b = tcode t' a' b') : t = t' ∧ a = a' ∧ b = b' := by
  obtain ⟨h1, h2⟩ := pairN_inj h
  exact ⟨h1, pairN_inj h2⟩

/-- An evaluated block and the real one, of so many cells, moved by so much. -/
inductive OR (ι : Map) (x : Blk) : Obj → Obj → Prop where
  | cells {a a' : List Value} {t : TypeId} {fz : Nat × Nat} : a'.length = x.κ → (∀ (i : Nat) v, a[i]? = some v → ∃ v', a'[i + x.δ]? = some v' ∧ VR ι v v') →
      (∀ o, o < x.κ → ¬ (fz.1 ≤ o ∧ o < fz.2)) → OR ι x (.cells ⟨a⟩ t (0, 0)) (.cells ⟨a'⟩ t fz)
  /-- A row that is read alone. -/
  | table {a a' : List Value} {t t' : TypeId} {fz : Nat × Nat} : x.κ = tcode t' fz.1 fz.2 → a'.length = a.length → (∀ (i : Nat) v, a[i]? = some v → ∃ v', a'[i + x.δ]? = some v' ∧ VR ι v v') →
      OR ι x (.cells ⟨a⟩ t (1, 0)) (.cells ⟨a'⟩ t' fz)
  | map {a a' : List MapEntry} {clock : Nat} : MR ι a a' → OR ι x (.map ⟨a⟩ clock) (.map ⟨a'⟩ clock)
  | stringIter (s : ByteArray) (pos : Nat) : x.δ = 0 → OR ι x (.stringIter s pos) (.stringIter s pos)
  | mapIter0 {since : Nat} {seen : Array Nat} {st : Nat} : x.δ = 0 → OR ι x (.mapIter none since seen st) (.mapIter none since seen st)
  | mapIter {n : Nat} {y : Blk} {since : Nat} {seen : Array Nat} {st : Nat} : x.δ = 0 → ι n = some y → OR ι x (.mapIter (some n) since seen st) (.mapIter (some y.b) since seen st)
  | loop {s : LoopState} {p : Option Code} {f : FuncId} {a a' : List Value} {ps : Array Tmp} {as body : Code} {n : Nat} {y : Blk} : ι n = some y → VRL ι a a' →
      OR ι x (.loop ⟨s, p, f, ⟨a⟩, ps, as, body, n⟩) (.loop ⟨s, p, f, ⟨a'⟩, ps, as, body, y.b⟩)
  | deferred : OR ι x (.deferred (some [])) (.deferred (some []))
  | taken : OR ι x (.deferred none) (.deferred none)
theorem OR.mono {ι ι' : Map} (h : Ext ι ι') {x : Blk} {o o' : Obj} : OR ι x o o' → OR ι' x o o'
  | .cells l f z => .cells l (fun i v hv => let ⟨v', e, r⟩ := f i v hv; ⟨v', e, r.mono h⟩) z
  | .table k l f => .table k l (fun i v hv => let ⟨v', e, r⟩ := f i v hv; ⟨v', e, r.mono h⟩)
  | .map m => .map (m.mono h)
  | .stringIter s pos d => .stringIter s pos d
  | .mapIter0 d => .mapIter0 d
  | .mapIter d e => .mapIter d (h _ _ e)
  | .loop e a => .loop (h _ _ e) (a.mono h)
  | .deferred => .deferred
  | .taken => .taken

/-- The evaluated heap; the next name. -/
structure S where
  h : T Obj
  c : Nat

/-- The evaluated heap and the world. -/
structure Rl (ι : Map) (h : T Obj) (w : World) : Prop where
  obj : ∀ n o, h.get n = some o → ∃ x o', ι n = some x ∧ w.heap[x.b]? = some o' ∧ OR ι x o o'
  inj : ∀ m n o p x y, h.get m = some o → h.get n = some p → ι m = some x → ι n = some y → x.b = y.b → m = n

/-- No name from the next one on is used. -/
def Above (ι : Map) (c : Nat) : Prop := ∀ n, c ≤ n → ι n = none

/-- From one world to the next one. -/
structure Tr (ι : Map) (h : T Obj) (c : Nat) (w : World) (ι' : Map) (h' : T Obj) (c' : Nat) (w' : World) : Prop where
  ext : Ext ι ι'
  le : c ≤ c'
  low : ∀ n, n < c → ι n = none → ι' n = none
  size : w.heap.size ≤ w'.heap.size
  frame : ∀ b, b < w.heap.size → (∀ n o x, h.get n = some o → ι n = some x → x.b ≠ b) → w'.heap[b]? = w.heap[b]?
  live : ∀ n o x, h'.get n = some o → ι' n = some x → w.heap.size ≤ x.b ∨ ∃ m p y, h.get m = some p ∧ ι m = some y ∧ y.b = x.b
  names : ∀ n o, h'.get n = some o → (∃ p, h.get n = some p) ∨ (c ≤ n ∧ n < c')
  os : w'.os = w.os
  tape : w'.tape = w.tape
  output : w'.output = w.output

theorem Tr.refl (ι : Map) (h : T Obj) (c : Nat) (w : World) : Tr ι h c w ι h c w :=
  ⟨.refl ι, Nat.le_refl _, fun _ _ h => h, Nat.le_refl _, fun _ _ _ => rfl, fun n o x e f => .inr ⟨n, o, x, e, f, rfl⟩, fun _ _ e => .inl ⟨_, e⟩, rfl, rfl, rfl⟩
theorem Tr.trans {ι ι' ι'' : Map} {h h' h'' : T Obj} {c c' c'' : Nat} {w w' w'' : World} (a : Tr ι h c w ι' h' c' w') (b : Tr ι' h' c' w' ι'' h'' c'' w'') : Tr ι h c w ι'' h'' c'' w'' where
  ext := a.ext.trans b.ext
  le := Nat.le_trans a.le b.le
  low n hn e := b.low n (Nat.lt_of_lt_of_le hn a.le) (a.low n hn e)
  size := Nat.le_trans a.size b.size
  frame k hk hn := by
    rw [b.frame k (Nat.lt_of_lt_of_le hk a.size), a.frame k hk hn]
    intro n o x e f g
    rcases a.live n o x e f with hh | ⟨m, p, y, e1, e2, e3⟩
    · omega
    · exact hn m p y e1 e2 (e3.trans g)
  live n o x e f := by
    rcases b.live n o x e f with hh | ⟨m, p, y, e1, e2, e3⟩
    · exact .inl (Nat.le_trans a.size hh)
    · rcases a.live m p y e1 e2 with hh | ⟨m', p', y', f1, f2, f3⟩
      · exact .inl (by rw [← e3]; exact hh)
      · exact .inr ⟨m', p', y', f1, f2, f3.trans e3⟩
  names n o e := by
    rcases b.names n o e with ⟨p, hp⟩ | ⟨h1, h2⟩
    · rcases a.names n p hp with hq | ⟨h1, h2⟩
      · exact .inl hq
      · exact .inr ⟨h1, Nat.lt_of_lt_of_le h2 b.le⟩
    · exact .inr ⟨Nat.le_trans a.le h1, h2⟩
  os := b.os.trans a.os
  tape := b.tape.trans a.tape
  output := b.output.trans a.output
end Go.Ev
