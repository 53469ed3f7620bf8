/- The evaluator, part D: operations that look at no memory. -/
import Derived.Test.YtgpgiejcnicigaaGreatDoorEvC
set_option linter.unusedSimpArgs false
set_option linter.unusedVariables false
namespace Go.Ev

theorem VRL.map {ι : Map} {ρ ρ' : Operand → Value} (h : ∀ x, VR ι (ρ x) (ρ' x)) : ∀ l : List Operand, VRL ι (l.map ρ) (l.map ρ')
  | [] => .nil
  | x :: r => .cons (h x) (VRL.map h r)
theorem FR.map {ι : Map} {ρ ρ' : Operand → Value} (h : ∀ x, VR ι (ρ x) (ρ' x)) : ∀ l : List (Nat × Operand), FR ι (l.map fun x => (x.1, ρ x.2)) (l.map fun x => (x.1, ρ' x.2))
  | [] => .nil
  | x :: r => .cons (h x.2) (FR.map h r)

/-- A field's place: its offset and size. -/
noncomputable def fieldA (P : Program) (s : TypeId) (f : Nat) : Option (Nat × Nat × TypeId) :=
  match undA P s with
  | some (.struct fs) => match fs[f]? with
    | some fd => match sizeT P fd.type with
      | some n => some (fd.offset, n, fd.type)
      | none => none
    | none => none
  | _ => none
/-- All fields' places. -/
noncomputable def placesA (P : Program) : List Field → Option (List (Nat × Nat))
  | [] => some []
  | f :: r => match sizeT P f.type, placesA P r with
    | some n, some l => some ((f.offset, n) :: l)
    | _, _ => none
theorem places_run {P : Program} (w : World) : ∀ {fs : List Field} {l : List (Nat × Nat)}, placesA P fs = some l →
    (fs.mapM (m := Sem) fun f => do pure (f.offset, ← sizeOf f.type)).run P w = .ok l w
  | [], l, h => by simp [placesA] at h; subst h; rfl
  | f :: r, l, h => by
    simp only [placesA] at h
    split at h
    · rename_i n l' hn hl
      cases h
      have ih := places_run w hl
      simp at ih
      simp [List.mapM_cons, run_sizeT hn, ih]
    · cases h

noncomputable def sliceBoundsA (len cap : Nat) (lo hi mx : Option Value) : Option (Nat × Nat × Nat) :=
  match (match mx with | none => some cap | some (.int _ m) => if 0 ≤ m ∧ m ≤ cap then some m.toNat else none | _ => none) with
  | none => none
  | some m =>
    match (match hi with | none => if mx.isSome then none else some len | some (.int _ h) => if 0 ≤ h ∧ h ≤ m then some h.toNat else none | _ => none) with
    | none => none
    | some h =>
      match (match lo with | none => some 0 | some (.int _ l) => if 0 ≤ l ∧ l ≤ h then some l.toNat else none | _ => none) with
      | none => none
      | some l => some (l, h, m)
theorem sliceBounds_run {P : Program} {b : Bool} {len cap : Nat} {lo hi mx : Option Value} {r : Nat × Nat × Nat} (h : sliceBoundsA len cap lo hi mx = some r) (w : World) :
    (Instr.sliceBounds b len cap lo hi mx).run P w = .ok r w := by
  unfold sliceBoundsA at h
  split at h
  · cases h
  · rename_i m hm
    split at h
    · cases h
    · rename_i hh hhi
      split at h
      · cases h
      · rename_i l hl
        cases h
        have e1 : ∀ (v : Value) (y : Nat) (code : BoundsCode) (n : Nat), (match v with | .int _ m => if 0 ≤ m ∧ m ≤ (y : Int) then some m.toNat else none | _ => none) = some n → (Instr.sliceBound v y code).run P w = .ok n w := by
          intro v y code n hv
          cases v <;> simp at hv
          simp [Instr.sliceBound, asIntOf, hv.1, hv.2]
        unfold Instr.sliceBounds
        rcases mx with _ | v
        · simp only [Option.some.injEq] at hm
          subst hm
          rcases hi with _ | u
          · simp at hhi
            subst hhi
            rcases lo with _ | t
            · simp at hl; subst hl; simp
            · have := e1 t len .sliceB l (by cases t <;> simp_all)
              simp [this]
          · have h2 := fun c => e1 u cap c hh (by cases u <;> simp_all)
            rcases lo with _ | t
            · simp at hl; subst hl; simp [h2]
            · have := e1 t hh .sliceB l (by cases t <;> simp_all)
              simp [this, h2]
        · have h1 := fun c => e1 v cap c m (by cases v <;> simp_all)
          rcases hi with _ | u
          · simp at hhi
          · have h2 := fun c => e1 u m c hh (by cases u <;> simp_all)
            rcases lo with _ | t
            · simp at hl; subst hl; simp [h1, h2]
            · have := fun c => e1 t hh c l (by cases t <;> simp_all)
              simp [this, h1, h2]

noncomputable def OP (n : Nat) : Bool := Nat.ble OPEN n

noncomputable def pureOp (P : Program) (ρ : Operand → Value) : Op → Option Value
  | .move x => some (ρ x)
  | .assign x => some (ρ x)
  | .pick c a b => match ρ c with
    | .bool true => some (ρ a)
    | .bool false => some (ρ b)
    | _ => none
  | .nilCheck x => match ρ x with
    | .pointer (some a) => some (.pointer (some a))
    | _ => none
  | .unOp .not _ x => match ρ x with
    | .bool b => some (.bool !b)
    | _ => none
  | .unOp .neg _ x => match ρ x with
    | .int k n => some (.int k (k.wrap (0 - n)))
    | _ => none
  | .binOp op t x y _ => match binA op (ρ x) (ρ y) with
    | some v => some v
    | none => match op, ρ x, ρ y, undA P t with
      | .eql, .pointer (some _), .pointer none, some (.pointer _) => some (.bool false)
      | .neq, .pointer (some _), .pointer none, some (.pointer _) => some (.bool true)
      | .eql, .slice (some _) _ _, .slice none _ _, some (.slice _) => some (.bool false)
      | .neq, .slice (some _) _ _, .slice none _ _, some (.slice _) => some (.bool true)
      | op, a, b, _ => if plainV a && plainV b then (match pureRun P (do eqGuard op t x y a b; binOp op t a b) with | some (.bool r) => some (.bool r) | _ => none) else none
  | .convert src dst x => match ρ x, undA P src, undA P dst with
    | .int _ n, some (.int _), some (.int k) => some (.int k (k.wrap n))
    | _, _, _ => none
  | .makeInterface t x => match undA P t with
    | some (.interface _) => none
    | some _ => some (.iface t (ρ x))
    | none => none
  | .makeFunc (.func f) ⟨first⟩ ⟨captured⟩ => some (.func (.func f) ⟨first.map ρ⟩ ⟨captured.map ρ⟩)
  | .fieldAddr s x f => match ρ x, fieldA P s f with
    | .pointer (some ⟨n, off, none⟩), some (fo, sz, _) => if sz = 0 then none else some (.pointer (some ⟨n, off + fo, none⟩))
    | _, _ => none
  | .field t x f => match ρ x, fieldA P t f with
    | .agg ⟨cs⟩, some (fo, _, ft) => partA P ft cs fo
    | _, _ => none
  | .indexAddr t x i => match ρ i, ρ x, undA P t with
    | .int _ k, .slice (some ⟨n, off, none⟩) len _, some (.slice e) => match sizeT P e with
      | some sz => if 0 ≤ k ∧ k < len then some (.pointer (some ⟨n, off + k.toNat * sz, none⟩)) else none
      | none => none
    | .int _ k, .pointer (some ⟨n, off, none⟩), some (.array len e) => match sizeT P e with
      | some sz => if 0 ≤ k ∧ k < len then some (.pointer (some ⟨n, off + k.toNat * sz, none⟩)) else none
      | none => none
    | _, _, _ => none
  | .index t x i => match ρ i, ρ x, undA P t with
    | .int _ k, .string s, some .string => if 0 ≤ k then match s[k.toNat]? with
      | some b => some (.int .u8 b.toNat)
      | none => none
      else none
    | .int _ k, .agg ⟨cs⟩, some (.array len e) => match sizeT P e with
      | some sz => if 0 ≤ k ∧ k < len then partA P e cs (k.toNat * sz) else none
      | none => none
    | _, _, _ => none
  | .slice t x lo hi mx => match ρ x, undA P t with
    | .string s, some .string => if mx.isSome then none else match sliceBoundsA s.size s.size (lo.map ρ) (hi.map ρ) none with
      | some (l, h, _) => some (.string (s.extract l h))
      | none => none
    | .slice a len cap, some (.slice e) => match sizeT P e with
      | none => none
      | some sz =>
        if OP cap then match a with
          | some ⟨n, off, none⟩ =>
            match mx.map ρ, sliceBoundsA len (if mx.isSome then 0 else len) (lo.map ρ) (hi.map ρ) (mx.map ρ) with
            | none, some (l, h, _) => if cap = OPEN + sz then some (.slice (some ⟨n, off + l * sz, none⟩) (h - l) (OPEN + sz)) else none
            | some _, some (_, _, _) => some (.slice (some ⟨n, off, none⟩) 0 0)
            | _, none => none
          | _ => none
        else match sliceBoundsA len cap (lo.map ρ) (hi.map ρ) (mx.map ρ) with
          | some (l, h, m) => match a with
            | none => some (.slice none (h - l) (m - l))
            | some ⟨n, off, none⟩ => if cap = 0 then (if h = l then some (.slice (some ⟨n, off, none⟩) 0 0) else none) else some (.slice (some ⟨n, if m = l then off else off + l * sz, none⟩) (h - l) (m - l))
            | _ => none
          | none => none
    | .pointer (some ⟨n, off, none⟩), some (.array k e) => match sizeT P e, sliceBoundsA k k (lo.map ρ) (hi.map ρ) (mx.map ρ) with
      | some sz, some (l, h, m) => if m < OPEN then some (.slice (some ⟨n, if m = l then off else off + l * sz, none⟩) (h - l) (m - l)) else none
      | _, _ => none
    | _, _ => none
  | .typeAssert x _ t ok => match ρ x, undA P t with
    | _, some (.interface _) => none
    | .iface u v, some _ => if u = t then some (if ok then .tuple ⟨[v, .bool true]⟩ else v) else if ok then match zeroT P t with
        | some z => if plainV z then some (.tuple ⟨[z, .bool false]⟩) else none
        | none => none
      else none
    | _, _ => none
  | .extract x i => match ρ x with
    | .tuple ⟨vs⟩ => vs[i]?
    | _ => none
  | .build t ⟨parts⟩ => match zeroT P t, undA P t with
    | some (.agg ⟨zs⟩), some (.struct ⟨fs⟩) => match placesA P fs with
      | some ps => if zs.all plainS then match fillA (fun i => ps[i]?) zs (parts.map fun x => (x.1, ρ x.2)) with
        | some cs => some (.agg ⟨cs⟩)
        | none => none
        else none
      | none => none
    | some (.agg ⟨zs⟩), some (.array _ e) => match sizeT P e with
      | some sz => if zs.all plainS then match fillA (fun i => some (i * sz, sz)) zs (parts.map fun x => (x.1, ρ x.2)) with
        | some cs => some (.agg ⟨cs⟩)
        | none => none
        else none
      | none => none
    | _, _ => none
  | .call { callee := .builtin .len, args := ⟨[x]⟩, argTypes := ⟨[t]⟩ } => match ρ x, undA P t with
    | .string s, some .string => some (.int .i64 s.size)
    | .slice _ n _, some (.slice _) => some (.int .i64 n)
    | _, _ => none
  | .call { callee := .builtin .max, args := ⟨[x, y]⟩, .. } => match ρ x, ρ y with
    | .int k a, .int _ b => some (.int k (if b > a then b else a))
    | _, _ => none
  | .call { callee := .builtin .min, args := ⟨[x, y]⟩, .. } => match ρ x, ρ y with
    | .int k a, .int _ b => some (.int k (if b < a then b else a))
    | _, _ => none
  | _ => none

theorem fieldA_run {P : Program} {s : TypeId} {f fo sz : Nat} {ft : TypeId} (h : fieldA P s f = some (fo, sz, ft)) :
    ∃ fs fd, P.underlying s = some (.struct fs) ∧ fs[f]? = some fd ∧ fd.offset = fo ∧ fd.type = ft ∧ sizeT P ft = some sz := by
  unfold fieldA at h
  simp only [undA_eq] at h
  split at h
  · rename_i fs hu
    split at h
    · rename_i fd hf
      split at h
      · rename_i n hn
        cases h
        exact ⟨fs, fd, hu, hf, rfl, rfl, hn⟩
      · cases h
    · cases h
  · cases h
theorem add_none (b o n : Nat) : (⟨b, o, none⟩ : Addr).add n = ⟨b, o + n, none⟩ := by unfold Addr.add; split <;> simp_all


/-- Bounds at more room. -/
theorem sliceBoundsA_more {len c l h m : Nat} {lo hi : Option Value} (e : sliceBoundsA len len lo hi none = some (l, h, m)) (hc : len ≤ c) :
    sliceBoundsA len c lo hi none = some (l, h, c) ∧ l ≤ h ∧ h ≤ len := by
  unfold sliceBoundsA at e ⊢
  simp only at e ⊢
  rcases hi with _ | v
  · simp only [Option.isSome_none, Bool.false_eq_true, if_false] at e ⊢
    rcases lo with _ | u
    · simp at e ⊢; omega
    · cases u <;> simp at e ⊢
      rename_i k z
      by_cases hz : 0 ≤ z ∧ z ≤ (len : Int)
      · simp [hz] at e ⊢; omega
      · simp [hz] at e
  · cases v <;> simp at e ⊢
    rename_i k z
    by_cases hz : 0 ≤ z ∧ z ≤ (len : Int)
    · have hz' : 0 ≤ z ∧ z ≤ (c : Int) := by omega
      simp only [hz, hz', and_self, if_true] at e ⊢
      rcases lo with _ | u
      · simp at e ⊢; omega
      · cases u <;> first | (simp at e; done) | skip
        rename_i k' y
        dsimp only at e ⊢
        by_cases hy : 0 ≤ y ∧ y ≤ (z.toNat : Int)
        · rw [if_pos hy] at e ⊢
          simp only [Option.some.injEq, Prod.mk.injEq] at e ⊢
          obtain ⟨rfl, rfl, rfl⟩ := e
          refine ⟨⟨rfl, rfl, trivial⟩, ?_, ?_⟩ <;> omega
        · rw [if_neg hy] at e; cases e
    · simp [hz] at e
/-- What bounds tell. -/
theorem sliceBoundsA_le {len cap l h m : Nat} {lo hi mx : Option Value} (e : sliceBoundsA len cap lo hi mx = some (l, h, m)) : l ≤ h ∧ m ≤ cap := by
  unfold sliceBoundsA at e
  split at e
  · cases e
  · rename_i m' hm
    split at e
    · cases e
    · rename_i h' hh
      split at e
      · cases e
      · rename_i l' hl
        cases e
        constructor
        · rcases lo with _ | v
          · simp at hl; omega
          · cases v <;> simp at hl
            omega
        · rcases mx with _ | v
          · simp at hm; omega
          · cases v <;> simp at hm
            omega

theorem vr_opt {ι : Map} {ρ ρ' : Operand → Value} (h : ∀ x, VR ι (ρ x) (ρ' x)) {len cap : Nat} {lo hi mx : Option Operand} {r : Nat × Nat × Nat}
    (e : sliceBoundsA len cap (lo.map ρ) (hi.map ρ) (mx.map ρ) = some r) : sliceBoundsA len cap (lo.map ρ') (hi.map ρ') (mx.map ρ') = some r := by
  have key : ∀ o : Option Operand, o.map ρ' = o.map ρ ∨ ∃ u, o.map ρ = some u ∧ ∀ k n, u ≠ .int k n := by
    intro o
    rcases o with _ | o
    · exact .inl rfl
    · by_cases hi : ∃ k n, ρ o = .int k n
      · obtain ⟨k, n, hi⟩ := hi
        have := h o
        rw [hi] at this
        have e2 : ρ' o = .int k n := by generalize ρ' o = b at this; cases this; rfl
        left; simp [hi, e2]
      · right; exact ⟨ρ o, rfl, fun k n e => hi ⟨k, n, e⟩⟩
  unfold sliceBoundsA at e ⊢
  rcases key mx with e1 | ⟨u, e1, hu⟩
  · rw [e1]
    rcases key hi with e2 | ⟨u, e2, hu⟩
    · rw [e2]
      rcases key lo with e3 | ⟨u, e3, hu⟩
      · rw [e3]; exact e
      · rw [e3] at e
        split at e <;> try (cases e; done)
        split at e <;> try (cases e; done)
        cases u <;> first | exact absurd rfl (hu _ _) | simp at e
    · rw [e2] at e
      split at e <;> try (cases e; done)
      cases u <;> first | exact absurd rfl (hu _ _) | simp at e
  · rw [e1] at e
    cases u <;> first | exact absurd rfl (hu _ _) | simp at e
end Go.Ev
