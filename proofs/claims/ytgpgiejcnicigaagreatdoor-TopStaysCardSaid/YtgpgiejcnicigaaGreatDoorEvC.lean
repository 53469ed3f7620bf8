/- The evaluator, part C: operations that look at no memory. -/
import Derived.Test.YtgpgiejcnicigaaGreatDoorEvB
set_option linter.unusedSimpArgs false
set_option linter.unusedVariables false
namespace Go.Ev

noncomputable def junk : Value := .chan (some 0)
noncomputable def sizeT (P : Program) (t : TypeId) : Option Nat := (infoA P t).map (·.size)
noncomputable def aggT (P : Program) (t : TypeId) : Option Bool :=
  match undA P t with
  | some (.struct _) => some true
  | some (.array _ _) => some true
  | some _ => some false
  | none => none
noncomputable def zeroT (P : Program) (t : TypeId) : Option Value := (infoA P t).bind (·.zero)
section
variable {P : Program} {w : World}
theorem run_sizeT {t : TypeId} {n : Nat} (h : sizeT P t = some n) (w : World) : (sizeOf t).run P w = .ok n w := by
  unfold sizeT at h
  rw [infoA_eq] at h
  cases hi : P.info? t with
  | none => simp [hi] at h
  | some i => simp [hi] at h; simp [sizeOf, typeInfo, hi, h]
theorem run_aggT {t : TypeId} {b : Bool} (h : aggT P t = some b) (w : World) : (isAgg t).run P w = .ok b w := by
  unfold aggT at h
  rw [undA_eq] at h
  cases hi : P.underlying t with
  | none => simp [hi] at h
  | some d => cases d <;> simp [hi] at h <;> simp [isAgg, underlying, hi, h]
theorem run_zeroT {t : TypeId} {v : Value} (h : zeroT P t = some v) (w : World) : (zeroValue t).run P w = .ok v w := by
  unfold zeroT at h
  rw [infoA_eq] at h
  cases hi : P.info? t with
  | none => simp [hi] at h
  | some i => simp [hi] at h; simp [zeroValue, typeInfo, hi, h]
end

noncomputable def partA (P : Program) (t : TypeId) (cs : List Value) (off : Nat) : Option Value :=
  match aggT P t with
  | some true => match sizeT P t with
    | some n => if off + n ≤ cs.length then some (.agg ⟨(cs.drop off).take n⟩) else none
    | none => none
  | some false => cs[off]?
  | none => none
theorem part_sound {P : Program} {ι : Map} {t : TypeId} {cs cs' : List Value} {off : Nat} {v : Value} (h : partA P t cs off = some v) (hc : VRL ι cs cs') :
    ∃ v', VR ι v v' ∧ ∀ w, (part t ⟨cs'⟩ off).run P w = .ok v' w := by
  unfold partA at h
  split at h
  · rename_i ha
    split at h
    · rename_i n hn
      split at h
      · cases h
        refine ⟨.agg ⟨(cs'.drop off).take n⟩, .agg ((hc.drop off).take n), fun w => ?_⟩
        simp only [part, Sem.run_bind, run_aggT ha, Result.andThen_ok, if_true, run_sizeT hn, Sem.run_pure]
        congr 2
        apply Array.ext'
        simp [List.take_drop, Nat.add_comm]
      · cases h
    · cases h
  · rename_i ha
    obtain ⟨v', hv', hr⟩ := hc.get h
    refine ⟨v', hr, fun w => ?_⟩
    simp [part, Sem.run_bind, run_aggT ha, hv']
  · cases h

noncomputable def binA (op : BinOp) (x y : Value) : Option Value :=
  match x, y with
  | .int k a, .int k' b =>
    match op with
    | .add => if k = k' then some (.int k (k.wrap (a + b))) else none
    | .sub => if k = k' then some (.int k (k.wrap (a - b))) else none
    | .mul => if k = k' then some (.int k (k.wrap (a * b))) else none
    | .quo => if k = k' then (if b = 0 then none else some (.int k (k.wrap (a.tdiv b)))) else none
    | .rem => if k = k' then (if b = 0 then none else some (.int k (a.tmod b))) else none
    | .eql => if k = k' then some (.bool (a == b)) else none
    | .neq => if k = k' then some (.bool (a != b)) else none
    | .lss => if k = k' then some (.bool (a < b)) else none
    | .leq => if k = k' then some (.bool (a ≤ b)) else none
    | .gtr => if k = k' then some (.bool (a > b)) else none
    | .geq => if k = k' then some (.bool (a ≥ b)) else none
    | .shl => if b < 0 then none else some (.int k (k.wrap (a * 2 ^ (min b.toNat k.bits))))
    | .shr => if b < 0 then none else some (.int k (a.fdiv (2 ^ (min b.toNat k.bits))))
    | .or => if k = k' then some (.int k (k.wrap (BitVec.ofInt k.bits a ||| BitVec.ofInt k.bits b).toNat)) else none
    | .and => if k = k' then some (.int k (k.wrap (BitVec.ofInt k.bits a &&& BitVec.ofInt k.bits b).toNat)) else none
    | _ => none
  | .string a, .string b =>
    match op with
    | .add => if a.size + b.size < 65536 then some (.string (a ++ b)) else none
    | .eql => some (.bool (a.toList == b.toList))
    | .neq => some (.bool !(a.toList == b.toList))
    | .lss => some (.bool (Op.bytesLess a.toList b.toList))
    | .leq => some (.bool (Op.bytesLess a.toList b.toList || a.toList == b.toList))
    | .gtr => some (.bool !(Op.bytesLess a.toList b.toList || a.toList == b.toList))
    | .geq => some (.bool !(Op.bytesLess a.toList b.toList))
    | _ => none
  | _, _ => none
theorem bin_sound {P : Program} {op : BinOp} {x y v : Value} (h : binA op x y = some v) (t : TypeId) (a b : Operand) (w : World) :
    (do eqGuard op t a b x y; binOp op t x y : Sem Value).run P w = .ok v w := by
  unfold binA at h
  split at h
  · rename_i k a k' b
    split at h <;> (repeat' (split at h)) <;> first | (cases h; done) | (cases h; simp_all [eqGuard, binOp, Op.intArith, Op.intCmp, Op.intDiv, Op.shift, Op.intBits]; done) | skip
    · rename_i hb; cases h
      rw [Sem.run_bind]
      simp only [eqGuard, binOp, Op.shift, if_neg hb]
      rfl
    · rename_i hb; cases h
      rw [Sem.run_bind]
      simp only [eqGuard, binOp, Op.shift, if_neg hb]
      rfl
  · rename_i a b
    split at h <;> (repeat' (split at h)) <;> first | (cases h; done) | (cases h; simp_all [eqGuard, binOp, Op.stringOp]; done) | skip
    rename_i hb; cases h
    have e : ¬ (((a.size + b.size : Nat) : Int) > IntKind.i64.max) := by
      show ¬ (((a.size + b.size : Nat) : Int) > 9223372036854775807)
      omega
    rw [Sem.run_bind]
    simp only [eqGuard, binOp, Op.stringOp, if_neg e]
    rfl
  · cases h

/-- A computation that looks at the program alone. -/
noncomputable def pureRun (P : Program) {α : Type} : Sem α → Option α
  | .pure a => some a
  | .program k => pureRun P (k P)
  | _ => none
theorem pureRun_run {P : Program} {α : Type} {e : Sem α} {a : α} (h : pureRun P e = some a) (w : World) : e.run P w = .ok a w := by
  induction e with
  | pure b => simp [pureRun] at h; subst h; rfl
  | program k ih => simp only [pureRun] at h; exact ih P h
  | _ => simp [pureRun] at h

noncomputable def plainS : Value → Bool
  | .bool _ | .int _ _ | .string _ | .pointer none | .slice none _ _ | .map none | .nilFunc | .nilIface => true
  | _ => false
noncomputable def plainV : Value → Bool
  | .agg ⟨cs⟩ => cs.all plainS
  | v => plainS v
theorem plainS_eq {ι : Map} {v v' : Value} (h : plainS v = true) (r : VR ι v v') : v' = v := by
  cases r <;> first | rfl | simp [plainS] at h
theorem plainL_eq {ι : Map} : ∀ {a a' : List Value}, a.all plainS = true → VRL ι a a' → a' = a
  | _, _, _, .nil => rfl
  | _, _, h, .cons h1 h2 => by
    simp only [List.all_cons, Bool.and_eq_true] at h
    rw [plainS_eq h.1 h1, plainL_eq h.2 h2]
theorem plainV_eq {ι : Map} {v v' : Value} (h : plainV v = true) (r : VR ι v v') : v' = v := by
  cases r with
  | agg r => rw [plainL_eq (by simpa [plainV] using h) r]
  | _ => first | rfl | simp [plainV, plainS] at h
theorem plainS_refl {ι : Map} {v : Value} (h : plainS v = true) : VR ι v v := by
  cases v <;> simp [plainS] at h <;> first | constructor | (rename_i a; cases a <;> simp at h; constructor) | (rename_i a _ _; cases a <;> simp at h; constructor)
theorem plainL_refl {ι : Map} : ∀ {a : List Value}, a.all plainS = true → VRL ι a a
  | [], _ => .nil
  | _ :: _, h => by
    simp only [List.all_cons, Bool.and_eq_true] at h
    exact .cons (plainS_refl h.1) (plainL_refl h.2)
theorem plainV_refl {ι : Map} {v : Value} (h : plainV v = true) : VR ι v v := by
  cases v with
  | agg c => obtain ⟨c⟩ := c; exact .agg (plainL_refl (by simpa [plainV] using h))
  | _ => exact plainS_refl (by simpa [plainV] using h)

/-- The frame's view of an operand. -/
noncomputable def aeval (t : T Value) : Operand → Value
  | .tmp i => (t.get i).getD undef
  | .const v => if plainV v then v else junk
  | .global g => .pointer (some ⟨g, 0, none⟩)
  | .func f => .func (.func f) #[] #[]

noncomputable def fillA (place : Nat → Option (Nat × Nat)) (cells : List Value) : List (Nat × Value) → Option (List Value)
  | [] => some cells
  | (i, v) :: rest =>
    match place i with
    | none => none
    | some (off, size) =>
      match v with
      | .agg ⟨cs⟩ => if cs.length ≠ size || off + cs.length > cells.length then none else fillA place (putL cells off cs) rest
      | .chan _ => none
      | v => if 1 ≠ size || off + 1 > cells.length then none else fillA place (cells.set off v) rest
theorem fold_putL : ∀ (cs a : List Value) (off k : Nat), (cs.zipIdx k).foldl (fun (x : Array Value) (c : Value × Nat) => x.setIfInBounds (off + c.2) c.1) ⟨a⟩ = ⟨putL a (off + k) cs⟩
  | [], _, _, _ => rfl
  | c :: r, a, off, k => by
    rw [List.zipIdx_cons, List.foldl_cons, putL]
    have : (⟨a⟩ : Array Value).setIfInBounds (off + k) c = ⟨a.set (off + k) c⟩ := by
      apply Array.ext'
      simp
    simp only [this]
    rw [fold_putL r (a.set (off + k) c) off (k + 1)]
    rfl
theorem VRL.cr {ι : Map} {a a' : List Value} (h : VRL ι a a') : CR ι 0 a a' := fun i v hv => by simpa using h.get hv
theorem VRL.putL {ι : Map} {a a' vs vs' : List Value} (h : VRL ι a a') (hv : VRL ι vs vs') (o : Nat) : VRL ι (Ev.putL a o vs) (Ev.putL a' o vs') :=
  VRL.of_get (by rw [putL_length, putL_length, h.length]) fun i v e => by simpa using CR.putL hv h.cr o i v e
inductive FR (ι : Map) : List (Nat × Value) → List (Nat × Value) → Prop where
  | nil : FR ι [] []
  | cons {i : Nat} {v v' : Value} {a a' : List (Nat × Value)} : VR ι v v' → FR ι a a' → FR ι ((i, v) :: a) ((i, v') :: a')
theorem fill_step {place : Nat → Option (Nat × Nat)} {i off size : Nat} {v : Value} {cells cs : List Value} {rest : List (Nat × Value)} (hp : place i = some (off, size)) (e : v.cells = ⟨cs⟩) (h1 : cs.length = size) (h2 : off + cs.length ≤ cells.length) :
    Instr.fill place ⟨cells⟩ ((i, v) :: rest) = Instr.fill place ⟨putL cells off cs⟩ rest := by
  have hs : v.cells.size = size := by rw [e]; exact h1
  have hc : (⟨cells⟩ : Array Value).size = cells.length := rfl
  have hf : v.cells.zipIdx.foldl (fun (x : Array Value) (c : Value × Nat) => x.setIfInBounds (off + c.2) c.1) ⟨cells⟩ = ⟨putL cells off cs⟩ := by
    rw [e, ← Array.foldl_toList, Array.toList_zipIdx]
    exact fold_putL cs cells off 0
  simp only [Instr.fill, hp]
  rw [if_neg (by simp only [hs, hc]; simp; omega)]
  exact congrArg (fun x => Instr.fill place x rest) hf
theorem fill_sound {ι : Map} {place : Nat → Option (Nat × Nat)} : ∀ {parts parts' : List (Nat × Value)} {cells cells' r : List Value},
    fillA place cells parts = some r → FR ι parts parts' → VRL ι cells cells' →
    ∃ r', Instr.fill place ⟨cells'⟩ parts' = some ⟨r'⟩ ∧ VRL ι r r'
  | [], _, _, _, _, h, .nil, hc => by
    simp only [fillA, Option.some.injEq] at h
    subst h
    exact ⟨_, rfl, hc⟩
  | (i, v) :: rest, (_, v') :: rest', cells, cells', r, h, .cons hv hr, hc => by
    simp only [fillA] at h
    cases hp : place i with
    | none => simp [hp] at h
    | some p =>
      obtain ⟨off, size⟩ := p
      simp only [hp] at h
      have one : ∀ u u' : Value, VR ι u u' → u'.cells = ⟨[u']⟩ → (if (decide (1 ≠ size) || decide (off + 1 > cells.length)) = true then none else fillA place (cells.set off u) rest) = some r →
          ∃ r', Instr.fill place ⟨cells'⟩ ((i, u') :: rest') = some ⟨r'⟩ ∧ VRL ι r r' := by
        intro u u' hu e h
        split at h
        · cases h
        · rename_i hn
          simp at hn
          obtain ⟨r', h1, h2⟩ := fill_sound h hr (hc.set hu off)
          exact ⟨r', by rw [fill_step hp e (by simpa using hn.1) (by simpa [hc.length] using hn.2)]; exact h1, h2⟩
      cases hv with
      | agg hl =>
        simp only at h
        split at h
        · cases h
        · rename_i a a' hn
          simp at hn
          obtain ⟨r', h1, h2⟩ := fill_sound h hr (VRL.putL hc hl off)
          exact ⟨r', by rw [fill_step hp (cs := a') rfl (by rw [hl.length]; exact hn.1) (by rw [hl.length, hc.length]; exact hn.2)]; exact h1, h2⟩
      | junk => simp at h
      | tok e => simp at h
      | bool b => exact one _ _ (.bool b) rfl h
      | int k n => exact one _ _ (.int k n) rfl h
      | string b => exact one _ _ (.string b) rfl h
      | ptr0 => exact one _ _ .ptr0 rfl h
      | slice0 l c => exact one _ _ (.slice0 l c) rfl h
      | map0 => exact one _ _ .map0 rfl h
      | nilFunc => exact one _ _ .nilFunc rfl h
      | nilIface => exact one _ _ .nilIface rfl h
      | ptr e => exact one _ _ (.ptr e) rfl h
      | slice c e => exact one _ _ (.slice c e) rfl h
      | slice00 x y => exact one _ _ (.slice00 x y) rfl h
      | opn e x y z => exact one _ _ (.opn e x y z) rfl h
      | map e => exact one _ _ (.map e) rfl h
      | func x y => exact one _ _ (.func x y) rfl h
      | yield e => exact one _ _ (.yield e) rfl h
      | iface e => exact one _ _ (.iface e) rfl h
      | tuple e => exact one _ _ (.tuple e) rfl h
end Go.Ev
