/- The evaluator, part T: new blocks that wait. -/
import Derived.Test.YtgpgiejcnicigaaGreatDoorEvM
set_option linter.unusedSimpArgs false
set_option linter.unusedVariables false
namespace Go.Ev

/-- The heap, and beside it blocks that wait. -/
structure Pend (ι : Map) (h : Heap) (ex : Nat → Obj → Prop) (w : World) : Prop where
  rl : Rl ι h w
  obj : ∀ n o, ex n o → ∃ x o', ι n = some x ∧ w.heap[x.b]? = some o' ∧ OR ι x o o'
  fit : ∀ n o, ex n o → fits n = true
  no : ∀ n o, ex n o → h.get n = none
  one : ∀ n o p, ex n o → ex n p → o = p
  inj1 : ∀ n o m p x y, ex n o → h.get m = some p → ι n = some x → ι m = some y → x.b ≠ y.b
  inj2 : ∀ n o m p x y, ex n o → ex m p → ι n = some x → ι m = some y → x.b = y.b → n = m

section
variable {ι ι' : Map} {h h' : Heap} {ex ex' : Nat → Obj → Prop} {w w' : World}
theorem Pend.less (p : Pend ι h ex w) (hs : ∀ n o, ex' n o → ex n o) : Pend ι h ex' w :=
  ⟨p.rl, fun n o e => p.obj n o (hs _ _ e), fun n o e => p.fit n o (hs _ _ e), fun n o e => p.no n o (hs _ _ e), fun n o q e f => p.one n o q (hs _ _ e) (hs _ _ f), fun n o m q x y e => p.inj1 n o m q x y (hs _ _ e),
    fun n o m q x y e f => p.inj2 n o m q x y (hs _ _ e) (hs _ _ f)⟩
/-- One comes into the heap. -/
theorem Pend.add (p : Pend ι h ex w) {n : Nat} {o : Obj} (e : ex n o) : Pend ι (h.put n o) (fun m q => ex m q ∧ m ≠ n) w where
  rl := by
    have hf := p.fit n o e
    constructor
    · intro m q hm
      rw [Heap.get_put hf] at hm
      by_cases h1 : m = n
      · subst h1
        simp only [if_true, Option.some.injEq] at hm
        subst hm
        exact p.obj _ _ e
      · rw [if_neg h1] at hm; exact p.rl.obj m q hm
    · intro m k o1 o2 x y hm hk hx hy he
      rw [Heap.get_put hf] at hm hk
      by_cases h1 : m = n <;> by_cases h2 : k = n
      · rw [h1, h2]
      · subst h1
        rw [if_neg h2] at hk
        exact absurd he (p.inj1 _ _ _ _ _ _ e hk hx hy)
      · subst h2
        rw [if_neg h1] at hm
        exact absurd he.symm (p.inj1 _ _ _ _ _ _ e hm hy hx)
      · rw [if_neg h1] at hm; rw [if_neg h2] at hk
        exact p.rl.inj m k o1 o2 x y hm hk hx hy he
  obj m q f := p.obj m q f.1
  fit m q f := p.fit m q f.1
  no m q f := by rw [Heap.get_put (p.fit n o e), if_neg f.2]; exact p.no m q f.1
  one m q r f g := p.one m q r f.1 g.1
  inj1 m q k r x y f hk hx hy he := by
    rw [Heap.get_put (p.fit n o e)] at hk
    by_cases h2 : k = n
    · subst h2; exact f.2 (p.inj2 _ _ _ _ _ _ f.1 e hx hy he)
    · rw [if_neg h2] at hk; exact p.inj1 _ _ _ _ _ _ f.1 hk hx hy he
  inj2 m q k r x y f g := p.inj2 m q k r x y f.1 g.1
theorem addAll_cons (h : Heap) (n : Nat) (o : Obj) (r : List (Nat × Obj)) : addAll h ((n, o) :: r) = addAll (h.put n o) r := by
  rw [addAll, T.setK_eq]; rfl
/-- Some come into the heap. -/
theorem Pend.adds : ∀ {A : List (Nat × Obj)} {h : Heap} {ex : Nat → Obj → Prop} (_ : Pend ι h ex w), (∀ x ∈ A, ex x.1 x.2) → A.Pairwise (fun a b => a.1 ≠ b.1) → Pend ι (addAll h A) (fun m q => ex m q ∧ ∀ x ∈ A, m ≠ x.1) w
  | [], h, ex, p, _, _ => by
    refine Pend.less (p : Pend ι (addAll h []) ex w) fun n o e => e.1
  | (n, o) :: r, h, ex, p, ha, hp => by
    rw [addAll_cons]
    have p1 := p.add (ha _ (List.mem_cons_self ..))
    have hp' := List.pairwise_cons.1 hp
    have p2 := Pend.adds p1 (A := r) (fun x hx => ⟨ha x (List.mem_cons_of_mem _ hx), fun e => hp'.1 x hx e.symm⟩) hp'.2
    refine p2.less fun m q e => ⟨⟨e.1, e.2 _ (List.mem_cons_self ..)⟩, fun x hx => e.2 x (List.mem_cons_of_mem _ hx)⟩
/-- The heap goes on; what waits stays. -/
theorem Pend.run (p : Pend ι h ex w) {c c' : Nat} (t : Tr ι h c w ι' h' c' w') (r : Rl ι' h' w') (hc : ∀ n o, ex n o → n < c) : Pend ι' h' ex w' where
  rl := r
  obj n o e := by
    obtain ⟨x, o', hx, hw, ho⟩ := p.obj n o e
    refine ⟨x, o', t.ext _ _ hx, ?_, ho.mono t.ext⟩
    rw [t.frame _ (lt_of_get hw) (fun m q y hm hy he => p.inj1 n o m q x y e hm hx hy he.symm)]
    exact hw
  fit := p.fit
  no n o e := by
    cases hg : h'.get n with
    | none => rfl
    | some q =>
      rcases t.names n q hg with ⟨u, hu⟩ | ⟨h1, _⟩
      · rw [p.no n o e] at hu; cases hu
      · have := hc n o e; omega
  one := p.one
  inj1 n o m q x y e hm hx hy he := by
    obtain ⟨x', o', hx', hw, _⟩ := p.obj n o e
    have := t.ext _ _ hx'
    rw [hx] at this; cases this
    have hlt := lt_of_get hw
    rcases t.live m q y hm hy with h1 | ⟨m', q', y', h1, h2, h3⟩
    · omega
    · exact p.inj1 n o m' q' x y' e h1 hx' h2 (by rw [h3, he])
  inj2 n o m q x y e f hx hy he := by
    obtain ⟨x', _, hx', _⟩ := p.obj n o e
    obtain ⟨y', _, hy', _⟩ := p.obj m q f
    have h1 := t.ext _ _ hx'
    rw [hx] at h1; cases h1
    have h2 := t.ext _ _ hy'
    rw [hy] at h2; cases h2
    exact p.inj2 n o m q _ _ e f hx' hy' he
/-- A new block waits. -/
theorem Pend.new (p : Pend ι h ex w) {n κ : Nat} {o o' : Obj} (hf : fits n = true) (hn : ι n = none) (hne : ∀ q, ¬ ex n q) (hno : h.get n = none) (ho : OR (upd ι n ⟨w.heap.size, κ, 0⟩) ⟨w.heap.size, κ, 0⟩ o o') :
    Pend (upd ι n ⟨w.heap.size, κ, 0⟩) h (fun m q => ex m q ∨ (m = n ∧ q = o)) { w with heap := w.heap.push o' } where
  rl := by
    have he := upd_ext (ι := ι) ⟨w.heap.size, κ, 0⟩ hn
    have r1 : Rl ι h { w with heap := w.heap.push o' } := ⟨fun m q hm => by
      obtain ⟨x, q', hx, hw, hq⟩ := p.rl.obj m q hm
      refine ⟨x, q', hx, ?_, hq⟩
      have := lt_of_get hw
      simp only [Array.getElem?_push]
      rw [if_neg (by omega)]; exact hw, p.rl.inj⟩
    exact r1.ext he
  obj m q e := by
    rcases e with e | ⟨rfl, rfl⟩
    · obtain ⟨x, q', hx, hw, hq⟩ := p.obj m q e
      have hm : m ≠ n := fun h => hne q (h ▸ e)
      refine ⟨x, q', by rw [upd_other _ _ hm]; exact hx, ?_, hq.mono (upd_ext _ hn)⟩
      have := lt_of_get hw
      simp only [Array.getElem?_push]
      rw [if_neg (by omega)]; exact hw
    · exact ⟨_, o', upd_same _ _ _, by simp, ho⟩
  fit m q e := by
    rcases e with e | ⟨rfl, rfl⟩
    · exact p.fit m q e
    · exact hf
  no m q e := by
    rcases e with e | ⟨rfl, rfl⟩
    · exact p.no m q e
    · exact hno
  one m q r e f := by
    rcases e with e | ⟨e1, e2⟩ <;> rcases f with f | ⟨f1, f2⟩
    · exact p.one m q r e f
    · exact absurd (f1 ▸ e) (hne q)
    · exact absurd (e1 ▸ f) (hne r)
    · rw [e2, f2]
  inj1 m q k r x y e hk hx hy he := by
    have hkn : k ≠ n := fun h => by rw [h, hno] at hk; cases hk
    rw [upd_other _ _ hkn] at hy
    obtain ⟨y', r', hy', hw, _⟩ := p.rl.obj k r hk
    rw [hy] at hy'; cases hy'
    rcases e with e | ⟨rfl, rfl⟩
    · have hm : m ≠ n := fun h => hne q (h ▸ e)
      rw [upd_other _ _ hm] at hx
      exact p.inj1 m q k r x y e hk hx hy he
    · rw [upd_same] at hx; cases hx
      have := lt_of_get hw
      simp at he; omega
  inj2 m q k r x y e f hx hy he := by
    rcases e with e | ⟨rfl, rfl⟩ <;> rcases f with f | ⟨f1, f2⟩
    · have hm : m ≠ n := fun h => hne q (h ▸ e)
      have hk : k ≠ n := fun h => hne r (h ▸ f)
      rw [upd_other _ _ hm] at hx; rw [upd_other _ _ hk] at hy
      exact p.inj2 m q k r x y e f hx hy he
    · exfalso
      subst f1
      have hm : m ≠ k := fun h => hne q (h ▸ e)
      rw [upd_other _ _ hm] at hx
      rw [upd_same] at hy; cases hy
      obtain ⟨x', _, hx', hw, _⟩ := p.obj m q e
      rw [hx] at hx'; cases hx'
      have := lt_of_get hw
      simp at he; omega
    · exfalso
      have hk : k ≠ m := fun h => hne r (h ▸ f)
      rw [upd_other _ _ hk] at hy
      rw [upd_same] at hx; cases hx
      obtain ⟨y', _, hy', hw, _⟩ := p.obj k r f
      rw [hy] at hy'; cases hy'
      have := lt_of_get hw
      simp at he; omega
    · exact f1.symm
end

mutual
theorem veq_eq : ∀ (n : Nat) {x y : Value}, veq n x y = true → x = y
  | 0, _, _, h => by simp [veq] at h
  | n + 1, x, y, h => by
    unfold veq at h
    split at h
    all_goals first
      | (cases h; done)
      | rfl
      | skip
    · simp at h; rw [h]
    · simp at h; rw [h.1, h.2]
    · rename_i a b
      have := of_decide_eq_true h
      cases a; cases b
      rename_i c d
      cases c; cases d
      simp at this; rw [this]
    · have := of_decide_eq_true h; rw [this]
    · simp only [Bool.and_eq_true, decide_eq_true_eq] at h
      obtain ⟨⟨h1, h2⟩, h3⟩ := h
      rw [h1, Nat.eq_of_beq_eq_true h2, Nat.eq_of_beq_eq_true h3]
    · rw [Nat.eq_of_beq_eq_true h]
    · simp only [Bool.and_eq_true] at h
      obtain ⟨⟨h1, h2⟩, h3⟩ := h
      rw [Nat.eq_of_beq_eq_true h1, veqs_eq n h2, veqs_eq n h3]
    · simp only [Bool.and_eq_true] at h
      rw [Nat.eq_of_beq_eq_true h.1, veq_eq n h.2]
    · rw [veqs_eq n h]
    · rw [veqs_eq n h]
    · rw [Nat.eq_of_beq_eq_true h]
theorem veqs_eq : ∀ (n : Nat) {a b : List Value}, veq.veqs n a b = true → a = b
  | n, [], [], _ => rfl
  | n, [], _ :: _, h => by simp [veq.veqs] at h
  | n, _ :: _, [], h => by simp [veq.veqs] at h
  | n, x :: a, y :: b, h => by
    simp only [veq.veqs, Bool.and_eq_true] at h
    rw [veq_eq n h.1, veqs_eq n h.2]
end

theorem bit_test (m j : Nat) : bit m j = m.testBit j := by
  unfold bit
  rw [Nat.testBit_eq_decide_div_mod_eq, Nat.shiftRight_eq_div_pow]
  have : m / 2 ^ j % 2 = 0 ∨ m / 2 ^ j % 2 = 1 := by omega
  rcases this with h | h <;> rw [h] <;> rfl
theorem bit_mask {acc : List Nat} : ∀ {es : List Edge} {s j : Nat}, bit (es.foldl (fun s e => if Region.binds .any e then s ||| 2 ^ e.on ||| acc.getD e.on 0 else s) s) j = true →
    bit s j = true ∨ ∃ e ∈ es, Region.binds .any e = true ∧ (e.on = j ∨ bit (acc.getD e.on 0) j = true)
  | [], s, j, h => .inl h
  | e :: es, s, j, h => by
    rw [List.foldl_cons] at h
    rcases bit_mask h with h | ⟨e', h1, h2, h3⟩
    · split at h
      · rename_i hb
        rw [bit_test, Nat.testBit_or, Nat.testBit_or, Nat.testBit_two_pow] at h
        simp only [Bool.or_eq_true, decide_eq_true_eq] at h
        rcases h with (h | h) | h
        · left; rw [bit_test]; exact h
        · right; exact ⟨e, List.mem_cons_self .., hb, .inl h⟩
        · right; exact ⟨e, List.mem_cons_self .., hb, .inr (by rw [bit_test]; exact h)⟩
      · exact .inl h
    · exact .inr ⟨e', List.mem_cons_of_mem _ h1, h2, h3⟩
end Go.Ev
