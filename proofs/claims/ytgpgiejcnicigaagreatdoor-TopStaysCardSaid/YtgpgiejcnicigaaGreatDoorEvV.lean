/- The evaluator, part V: a region that draws its order: what each operation does. -/
import Derived.Test.YtgpgiejcnicigaaGreatDoorEvU
import Derived.Test.YtgpgiejcnicigaaGreatDoorEvP
set_option linter.unusedSimpArgs false
set_option linter.unusedVariables false
namespace Go.Ev

/-- From the region's beginning on. -/
structure TrQ (ι0 : Map) (h0 : Heap) (c0 : Nat) (w0 : World) (ι : Map) (has : Nat → Prop) (c : Nat) (w : World) : Prop where
  ext : Ext ι0 ι
  le : c0 ≤ c
  low : ∀ n, n < c0 → ι0 n = none → ι n = none
  size : w0.heap.size ≤ w.heap.size
  frame : ∀ b, b < w0.heap.size → (∀ n o x, h0.get n = some o → ι0 n = some x → x.b ≠ b) → w.heap[b]? = w0.heap[b]?
  live : ∀ n x, has n → ι n = some x → w0.heap.size ≤ x.b ∨ ∃ m p y, h0.get m = some p ∧ ι0 m = some y ∧ y.b = x.b
  names : ∀ n, has n → (∃ p, h0.get n = some p) ∨ (c0 ≤ n ∧ n < c)
  os : w.os = w0.os
  tape : w.tape = w0.tape
  output : w.output = w0.output
theorem TrQ.next {ι0 ι ι' : Map} {h0 h h' : Heap} {c0 c c' : Nat} {w0 w w' : World} {has has' : Nat → Prop} (a : TrQ ι0 h0 c0 w0 ι has c w) (b : Tr ι h c w ι' h' c' w') (hh : ∀ n o, h.get n = some o → has n)
    (hs : ∀ n, has' n → (∃ o, h'.get n = some o) ∨ (has n ∧ ∃ x, ι n = some x)) : TrQ ι0 h0 c0 w0 ι' has' c' w' where
  ext := a.ext.trans b.ext
  le := Nat.le_trans a.le b.le
  low n hn e := b.low n (Nat.lt_of_lt_of_le hn a.le) (a.low n hn e)
  size := Nat.le_trans a.size b.size
  frame k hk hn := by
    rw [b.frame k (Nat.lt_of_lt_of_le hk a.size), a.frame k hk hn]
    intro n o x e f g
    rcases a.live n x (hh n o e) f with h1 | ⟨m, p, y, e1, e2, e3⟩
    · omega
    · exact hn m p y e1 e2 (e3.trans g)
  live n x hn f := by
    rcases hs n hn with ⟨o, ho⟩ | ⟨h1, y, hy⟩
    · rcases b.live n o x ho f with h1 | ⟨m, p, y, e1, e2, e3⟩
      · exact .inl (Nat.le_trans a.size h1)
      · rcases a.live m y (hh m p e1) e2 with h1 | ⟨m', p', y', f1, f2, f3⟩
        · exact .inl (by rw [← e3]; exact h1)
        · exact .inr ⟨m', p', y', f1, f2, f3.trans e3⟩
    · have := b.ext _ _ hy
      rw [f] at this; cases this
      exact a.live n _ h1 hy
  names n hn := by
    rcases hs n hn with ⟨o, ho⟩ | ⟨h1, _⟩
    · rcases b.names n o ho with ⟨p, hp⟩ | ⟨h1, h2⟩
      · rcases a.names n (hh n p hp) with h1 | ⟨h1, h2⟩
        · exact .inl h1
        · exact .inr ⟨h1, Nat.lt_of_lt_of_le h2 b.le⟩
      · exact .inr ⟨Nat.le_trans a.le h1, h2⟩
    · rcases a.names n h1 with h1 | ⟨h1, h2⟩
      · exact .inl h1
      · exact .inr ⟨h1, Nat.lt_of_lt_of_le h2 b.le⟩
  os := b.os.trans a.os
  tape := b.tape.trans a.tape
  output := b.output.trans a.output
theorem TrQ.new {ι0 ι : Map} {h0 : Heap} {c0 c n κ : Nat} {w0 w : World} {o' : Obj} {has has' : Nat → Prop} (a : TrQ ι0 h0 c0 w0 ι has c w) (hn : ι n = none) (h1 : c0 ≤ n) (h2 : n < c) (hs : ∀ m, has' m → has m ∨ m = n) :
    TrQ ι0 h0 c0 w0 (upd ι n ⟨w.heap.size, κ, 0⟩) has' c { w with heap := w.heap.push o' } where
  ext := a.ext.trans (upd_ext _ hn)
  le := a.le
  low m hm e := by rw [upd_other _ _ (by omega)]; exact a.low m hm e
  size := by have := a.size; simp; omega
  frame b hb hf := by
    rw [← a.frame b hb hf]
    have := a.size
    simp only [Array.getElem?_push]
    rw [if_neg (by omega)]
  live m x hm hx := by
    by_cases e : m = n
    · subst e; rw [upd_same] at hx; cases hx; exact .inl a.size
    · rw [upd_other _ _ e] at hx
      rcases hs m hm with h | h
      · exact a.live m x h hx
      · exact absurd h e
  names m hm := by
    rcases hs m hm with h | h
    · exact a.names m h
    · subst h; exact .inr ⟨h1, h2⟩
  os := a.os
  tape := a.tape
  output := a.output

theorem pickT_get {t : T Value} : ∀ (xs : List Nat) {acc : T Value} {x : Nat} {v : Value}, (pickT t xs acc).get x = some v → x ∈ xs ∨ acc.get x = some v
  | [], acc, x, v, h => .inr h
  | y :: xs, acc, x, v, h => by
    unfold pickT at h
    split at h
    · rename_i hf
      rw [T.setK_eq] at h
      rcases pickT_get xs h with h | h
      · exact .inl (List.mem_cons_of_mem _ h)
      · rw [T.get_set _ _ _ _ _ (fits_lt hf)] at h
        split at h
        · rename_i e; exact .inl (by rw [e]; exact List.mem_cons_self ..)
        · exact .inr h
    · rcases pickT_get xs h with h | h
      · exact .inl (List.mem_cons_of_mem _ h)
      · exact .inr h

theorem evJ_sound {E : Env} {ι : Map} {t : T Value} {F : Frame} {ops : Array Oper} {o : Oper} (hp : ∃ t0, t = pickT t0 (slotsOf ops o) .e) (ht : ∀ x ∈ slotsOf ops o, VR ι ((t.get x).getD undef) (F.tmps.getD x undef)) (hg : GL E.G ι) (x : Operand) :
    VR ι (evJ E t x) (F.eval x) := by
  cases x with
  | tmp i =>
    simp only [evJ, Frame.eval]
    cases h : t.get i with
    | none => exact .junk _
    | some v =>
      obtain ⟨t0, rfl⟩ := hp
      rcases pickT_get _ h with h1 | h1
      · have := ht i h1
        rw [h] at this
        exact this
      · rw [T.get_e] at h1; cases h1
  | const v =>
    simp only [evJ, ev, Frame.eval]
    split
    · rename_i h; exact plainV_refl h
    · split
      · exact .func .nil .nil
      · exact .tuple .nil
      · exact .junk _
  | global g =>
    simp only [evJ, ev, Frame.eval]
    split
    · rename_i h
      obtain ⟨κ, hk⟩ := hg.1 g h
      exact .ptr hk
    · exact .junk _
  | func f => exact .func .nil .nil

theorem want_sound2 {ι : Map} {ops : Array Oper} {t : T Value} {a : Array Value} {o : Oper} {b : Bool} (hv : ∀ d ∈ slotsOf ops o, VR ι ((t.get d).getD undef) (a.getD d undef)) (e : wantA ops t o = some b) : Region.wanted o (yielded ops a) = b := by
  unfold wantA at e
  unfold Region.wanted
  split at e
  · rename_i hg
    cases e
    simp [hg]
  · rename_i j want hg
    simp only [hg]
    unfold yielded
    split at e
    · rename_i hj
      cases e
      simp [hj]
    · rename_i oj hj
      split at e
      · rename_i hd
        cases e
        simp [hj, hd]
      · rename_i d hd
        have hv := hv d (by
          refine List.mem_append.2 (.inr ?_)
          simp [hg, hj, hd])
        simp only [hj, Option.bind_some, hd]
        rw [Array.getD_eq_getD_getElem?] at hv
        split at e
        · rename_i b' hb
          cases e
          rw [hb] at hv
          simp only [Option.getD_some] at hv
          cases hx : a[d]? with
          | none =>
            rw [hx] at hv
            have := hv.bool_inv
            cases this
          | some u =>
            rw [hx] at hv
            have := hv.bool_inv
            simp only [Option.getD_some] at this
            subst this
            cases b' <;> cases want <;> rfl
        · rename_i hb
          cases e
          rw [hb] at hv
          simp only [Option.getD_some] at hv
          cases hx : a[d]? with
          | none => rfl
          | some u =>
            rw [hx] at hv
            simp only [Option.getD_some] at hv
            cases hv with
            | tuple hl => rfl
        · rename_i hb
          cases e
          rw [hb] at hv
          simp only [Option.getD_none] at hv
          cases hx : a[d]? with
          | none => rfl
          | some u =>
            rw [hx] at hv
            simp only [Option.getD_some] at hv
            have : ∃ x, u = .tuple x := by
              generalize hz : Go.undef = z at hv
              cases hv <;> cases hz
              exact ⟨_, rfl⟩
            obtain ⟨x, rfl⟩ := this
            rfl
        · cases e

/-- What a region's pass has told. -/
structure Dr (E : Env) (ops : Array Oper) (s : AS) (t : T Value) (hE : Heap) (cE : Nat) (recs : List Rec) (KE : Nat → Prop) : Prop where
  chain : ChainOK E (cloA ops.toList []) (recs.filterMap (newOf s.c)) s.h (s.c + ops.toList.length) (fun _ => False) (recs.reverse.filter isChain) hE cE KE
  rc : ∀ r ∈ recs, RecOK E ops s.c r ∧ r.i < ops.toList.length
  at_ : ∀ i o, ops.toList[i]? = some o → ∃ r ∈ recs, r.i = i ∧ r.o = o
  pw : recs.Pairwise (fun a b => a.i ≠ b.i)
  chk : ∀ r ∈ recs, checkA E ops (cloA ops.toList []) s.t t s.h s.c (recs.filterMap (newOf s.c)) (recs.reverse.filter isChain) r = true
  dsts : dstsA ops.toList = true
  chn : chainA (cloA ops.toList []) (recs.reverse.filter isChain) = true
  other : ∀ x, (∀ o ∈ ops.toList, o.dst ≠ some x) → t.get x = s.t.get x
  dfit : ∀ o ∈ ops.toList, ∀ d, o.dst = some d → d < E.nt

theorem dsts_one : ∀ {l : List Oper}, dstsA l = true → ∀ {i j : Nat} {o p : Oper} {d : Nat}, l[i]? = some o → l[j]? = some p → o.dst = some d → p.dst = some d → i = j
  | [], _, i, j, o, p, d, h, _, _, _ => by simp at h
  | q :: l, hd, i, j, o, p, d, h1, h2, h3, h4 => by
    simp only [dstsA, Bool.and_eq_true] at hd
    have key : ∀ (k : Nat) (u v : Oper), (q :: l)[0]? = some u → l[k]? = some v → u.dst = some d → v.dst = some d → False := by
      intro k u v g1 g2 g3 g4
      simp at g1; subst g1
      have := hd.1
      rw [g3] at this
      have := (List.all_eq_true.1 this) v (List.mem_of_getElem? g2)
      rw [g4] at this
      simp at this
    cases i with
    | zero => cases j with
      | zero => rfl
      | succ j => exact (key j o p h1 (by simpa using h2) h3 h4).elim
    | succ i => cases j with
      | zero => exact (key i p o h2 (by simpa using h1) h4 h3).elim
      | succ j => exact congrArg (· + 1) (dsts_one hd.2 (i := i) (j := j) (by simpa using h1) (by simpa using h2) h3 h4)
end Go.Ev
