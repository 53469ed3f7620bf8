/- The evaluator, part F: operations that read memory. -/
import Derived.Test.YtgpgiejcnicigaaGreatDoorEvE
import Derived.Laws.BytesString
set_option linter.unusedSimpArgs false
set_option linter.unusedVariables false
namespace Go.Ev

/-- A key that is compared at once. -/
noncomputable def keyS : Value → Bool
  | .int _ _ | .string _ => true
  | _ => false
noncomputable def findA (P : Program) (kt : TypeId) (k : Value) (es : List MapEntry) : Option (Option (Nat × Value)) :=
  match undA P kt with
  | some (.int i) => if keyS k then Instr.findNow (.int i) k es 0 else none
  | some .string => if keyS k then Instr.findNow .string k es 0 else none
  | _ => none
noncomputable def bytesA : List Value → Option (List Int)
  | [] => some []
  | .int .u8 n :: r => match bytesA r with
    | some l => some (n :: l)
    | none => none
  | _ => none
noncomputable def bytesS (l : List Int) : ByteArray := ⟨⟨l.map fun n => UInt8.ofNat n.toNat⟩⟩
theorem bytesS_eq (l : List Int) : l.foldl (fun (r : ByteArray) n => r.push (UInt8.ofNat n.toNat)) ByteArray.empty = bytesS l := by
  have : ∀ (l : List Int) (acc : List UInt8), l.foldl (fun (r : ByteArray) n => r.push (UInt8.ofNat n.toNat)) ⟨⟨acc⟩⟩ = ⟨⟨acc ++ l.map fun n => UInt8.ofNat n.toNat⟩⟩ := by
    intro l
    induction l with
    | nil => intro acc; simp
    | cons n l ih =>
      intro acc
      rw [List.foldl_cons]
      have : (⟨⟨acc⟩⟩ : ByteArray).push (UInt8.ofNat n.toNat) = ⟨⟨acc ++ [UInt8.ofNat n.toNat]⟩⟩ := by
        simp [ByteArray.push]
      rw [this, ih]
      simp
  exact this l []
theorem bytesA_map : ∀ {cs : List Value} {l : List Int}, bytesA cs = some l → cs = l.map (Value.int .u8)
  | [], l, h => by simp [bytesA] at h; subst h; rfl
  | c :: r, l, h => by
    unfold bytesA at h
    split at h
    · rename_i e; cases e
    · rename_i n r' e
      cases e
      split at h
      · rename_i l' hl
        cases h
        rw [List.map_cons, ← bytesA_map hl]
      · cases h
    · cases h

noncomputable def readOp (P : Program) (ρ : Operand → Value) (h : Heap) : Op → Option Value
  | .load t a => match ρ a with
    | .pointer (some ⟨n, off, none⟩) => match h.get n with
      | some (.cells ⟨cs⟩ _ _) => partA P t cs off
      | _ => none
    | _ => none
  | .lookup t m k ok => match undA P t with
    | some (.map kt et) => match ρ m with
      | .map (some n) => match h.get n with
        | some (.map ⟨es⟩ _) => match findA P kt (ρ k) es with
          | some (some (_, v)) => some (if ok then .tuple ⟨[v, .bool true]⟩ else v)
          | some none => match zeroT P et with
            | some z => if plainV z then some (if ok then .tuple ⟨[z, .bool false]⟩ else z) else none
            | none => none
          | none => none
        | _ => none
      | .map none => match findA P kt (ρ k) [], zeroT P et with
        | some none, some z => if plainV z then some (if ok then .tuple ⟨[z, .bool false]⟩ else z) else none
        | _, _ => none
      | _ => none
    | _ => none
  | .call { callee := .builtin .len, args := ⟨[x]⟩, argTypes := ⟨[t]⟩ } => match ρ x, undA P t with
    | .map (some n), some (.map _ _) => match h.get n with
      | some (.map ⟨es⟩ _) => some (.int .i64 es.length)
      | _ => none
    | .map none, some (.map _ _) => some (.int .i64 0)
    | _, _ => none
  | .convert src dst x => match ρ x, undA P src, undA P dst with
    | .slice none _ _, some (.slice e), some .string => match undA P e with
      | some (.int .u8) => some (.string .empty)
      | _ => none
    | .slice (some ⟨n, off, none⟩) len _, some (.slice e), some .string => match undA P e, h.get n with
      | some (.int .u8), some (.cells ⟨cs⟩ _ _) => if off + len ≤ cs.length then match bytesA ((cs.drop off).take len) with
        | some l => if len = 0 then none else some (.string (bytesS l))
        | none => none
        else none
      | _, _ => none
    | _, _, _ => none
  | .entry x => match ρ x with
    | .pointer (some ⟨r, 0, none⟩) => match h.get r with
      | some (.mapIter (some m) _ seen stepped) => match seen.back?, h.get m with
        | some stamp, some (.map ⟨es⟩ clock) => if clock != stepped then none else match es.find? (·.born == stamp) with
          | some e => if keyS e.key then some (.tuple ⟨[e.key, e.val]⟩) else none
          | none => none
        | _, _ => none
      | _ => none
    | _ => none
  | _ => none

section
variable {P : Program} {ι : Map} {ρ ρ' : Operand → Value} {h : Heap} {w : World}

theorem keyS_plain {v : Value} (h : keyS v = true) : plainV v = true := by cases v <;> simp_all [keyS, plainV, plainS]
theorem MR.find {kd : TypeDesc} {k : Value} : ∀ {es es' : List MapEntry} (_ : MR ι es es') (i : Nat) {r : Option (Nat × Value)}, Instr.findNow kd k es i = some r →
    (r = none ∧ Instr.findNow kd k es' i = some none) ∨ ∃ j v v', r = some (j, v) ∧ VR ι v v' ∧ Instr.findNow kd k es' i = some (some (j, v'))
  | _, _, .nil, i, r, h => by simp [Instr.findNow] at h; exact .inl ⟨h.symm, rfl⟩
  | _, _, .cons hv hr, i, r, h => by
    simp only [Instr.findNow] at h ⊢
    split at h
    · rename_i e
      cases h
      exact .inr ⟨i, _, _, rfl, hv, rfl⟩
    · rename_i e
      exact MR.find hr (i + 1) h
    · cases h
theorem MR.length : ∀ {es es' : List MapEntry}, MR ι es es' → es'.length = es.length
  | _, _, .nil => rfl
  | _, _, .cons _ h => by simp [MR.length h]
theorem MR.born (p : Nat → Bool) : ∀ {es es' : List MapEntry}, MR ι es es' → ∀ {e : MapEntry}, es.find? (fun e => p e.born) = some e →
    ∃ v', VR ι e.val v' ∧ es'.find? (fun e => p e.born) = some ⟨e.key, v', e.born⟩
  | _, _, .nil, _, h => by simp at h
  | _, _, .cons hv hr, e, h => by
    simp only [List.find?_cons] at h ⊢
    split at h
    · cases h
      rename_i hp
      exact ⟨_, hv, by simp [hp]⟩
    · rename_i hp
      obtain ⟨v', h1, h2⟩ := MR.born p hr h
      exact ⟨v', h1, by simp [hp, h2]⟩
theorem find_run {kt : TypeId} {k k' : Value} {es es' : List MapEntry} {r : Option (Nat × Value)} (e : findA P kt k es = some r) (hm : MR ι es es') (hk : VR ι k k') (b : Bool) :
    k' = k ∧ (∀ w, (Instr.checkKey b 10000 kt k').run P w = .ok () w) ∧
    ((r = none ∧ ∀ w, (Instr.findKey kt k' es').run P w = .ok none w) ∨ ∃ j v v', r = some (j, v) ∧ VR ι v v' ∧ ∀ w, (Instr.findKey kt k' es').run P w = .ok (some (j, v')) w) := by
  have go : ∀ kd, P.underlying kt = some kd → (∀ w, (Instr.checkKey b 10000 kt k).run P w = .ok () w) → keyS k = true → Instr.findNow kd k es 0 = some r →
      k' = k ∧ (∀ w, (Instr.checkKey b 10000 kt k').run P w = .ok () w) ∧
      ((r = none ∧ ∀ w, (Instr.findKey kt k' es').run P w = .ok none w) ∨ ∃ j v v', r = some (j, v) ∧ VR ι v v' ∧ ∀ w, (Instr.findKey kt k' es').run P w = .ok (some (j, v')) w) := by
    intro kd hu hck hkk hf
    have ek := plainV_eq (keyS_plain hkk) hk
    subst ek
    refine ⟨rfl, hck, ?_⟩
    rcases hm.find 0 hf with ⟨e1, e2⟩ | ⟨j, v, v', e1, e2, e3⟩
    · exact .inl ⟨e1, fun w => by simp [Instr.findKey, run_underlying hu, e2]⟩
    · exact .inr ⟨j, v, v', e1, e2, fun w => by simp [Instr.findKey, run_underlying hu, e3]⟩
  unfold findA at e
  simp only [undA_eq] at e
  split at e
  · rename_i i hu
    split at e
    · rename_i hk
      refine go _ hu (fun w => ?_) hk e
      show (Instr.checkKey b (9999 + 1) kt k).run P w = _
      unfold Instr.checkKey
      rw [Sem.run_bind, run_underlying hu]
      cases k <;> first | rfl | simp [keyS] at hk
    · cases e
  · rename_i hu
    split at e
    · rename_i hk
      refine go _ hu (fun w => ?_) hk e
      show (Instr.checkKey b (9999 + 1) kt k).run P w = _
      unfold Instr.checkKey
      rw [Sem.run_bind, run_underlying hu]
      cases k <;> first | rfl | simp [keyS] at hk
    · cases e
  · cases e

theorem load_sound (r : Rl ι h w) {t : TypeId} {n off : Nat} {cs : List Value} {e : TypeId} {fz : Nat × Nat} {x : Blk} {v : Value} (hn : h.get n = some (.cells ⟨cs⟩ e fz)) (hx : ι n = some x) (hv : partA P t cs off = some v) :
    ∃ v', VR ι v v' ∧ (loadVar t ⟨x.b, off + x.δ, none⟩).run P w = .ok v' w := by
  unfold partA at hv
  split at hv
  · rename_i ha
    split at hv
    · rename_i k hk
      split at hv
      · rename_i hle
        cases hv
        obtain ⟨vs', h1, h2, h3⟩ := r.range hn hx off k hle
        obtain ⟨d, hu, hd⟩ : ∃ d, P.underlying t = some d ∧ d.isRow = true := by
          unfold aggT at ha
          rw [undA_eq] at ha
          split at ha
          · rename_i hu; exact ⟨_, hu, rfl⟩
          · rename_i hu; exact ⟨_, hu, rfl⟩
          · cases ha
          · cases ha
        exact ⟨_, .agg h3, run_loadVar_mid w x.b (off + x.δ) t vs' d h2 hu hd (by rw [h1, ← infoA_eq]; exact hk)⟩
      · cases hv
    · cases hv
  · rename_i ha
    obtain ⟨v', h1, h2⟩ := r.cell hn hx hv
    exact ⟨v', h2, by simp [loadVar, Sem.run_bind, run_aggT ha, h1]⟩
  · cases hv
theorem VR.map_inv {v : Value} {n : Nat} (h : VR ι (.map (some n)) v) : ∃ x, ι n = some x ∧ v = .map (some x.b) := by cases h; exact ⟨_, by assumption, rfl⟩
theorem VR.map0_inv {v : Value} (h : VR ι (.map none) v) : v = .map none := by cases h; rfl
theorem Rl.map (r : Rl ι h w) {n : Nat} {es : List MapEntry} {c : Nat} {x : Blk} (hn : h.get n = some (.map ⟨es⟩ c)) (hx : ι n = some x) :
    ∃ es', w.heap[x.b]? = some (.map ⟨es'⟩ c) ∧ MR ι es es' := by
  obtain ⟨y, o', hy, hw, ho⟩ := r.obj n _ hn
  rw [hx] at hy; cases hy
  cases ho with
  | map hm => exact ⟨_, hw, hm⟩
theorem run_getMap {b : Nat} {es : List MapEntry} {c : Nat} (hw : w.heap[b]? = some (.map ⟨es⟩ c)) : (getObj b).run P w = .ok (.map ⟨es⟩ c) w := by
  simp [getObj, Sem.run, hw]
theorem read_sound {o : Oper} {v : Value} (r : Rl ι h w) (hE : ∀ x, VR ι (ρ x) (ρ' x)) (e : readOp P ρ h o.op = some v) :
    ∃ v', VR ι v v' ∧ (execOp ρ' o).run P w = .ok (.value v') w := by
  unfold execOp
  generalize hop : o.op = op at e
  dsimp only
  unfold readOp at e
  simp only [undA_eq] at e
  split at e
  all_goals try dsimp only
  case h_1 t a =>
    have ha := hE a
    split at e
    · rename_i n off ea
      rw [ea] at ha
      obtain ⟨x, hx, ev⟩ := ha.ptr_inv
      split at e
      · rename_i cs et fz hn
        obtain ⟨v', h1, h2⟩ := load_sound r hn hx e
        exact ⟨v', h1, lift_run (by rw [ev]; simp [Instr.loadAt, Instr.sureAddr, h2])⟩
      · cases e
    · cases e
  case h_2 t m k ok =>
    have hm := hE m
    have hk := hE k
    split at e
    · rename_i kt et hu
      split at e
      · rename_i n em
        rw [em] at hm
        obtain ⟨x, hx, ev⟩ := hm.map_inv
        split at e
        · rename_i es c hn
          obtain ⟨es', hw, hmr⟩ := r.map hn hx
          split at e
          · rename_i j v0 hf
            cases e
            obtain ⟨ek, hck, ⟨e1, _⟩ | ⟨j', v1, v', e1, hv, hfk⟩⟩ := find_run (b := es'.isEmpty) hf hmr hk
            · cases e1
            · cases e1
              refine ⟨if ok then .tuple ⟨[v', .bool true]⟩ else v', ?_, lift_run ?_⟩
              · cases ok
                · exact hv
                · exact .tuple (.cons hv (.cons (.bool _) .nil))
              · rw [ev]
                simp [Instr.lookup, run_underlying hu, run_getMap hw, hck, hfk]
          · rename_i hf
            split at e
            · rename_i z hz
              split at e
              · rename_i hp
                cases e
                obtain ⟨ek, hck, ⟨e1, hfk⟩ | ⟨j', v1, v', e1, hv, hfk⟩⟩ := find_run (b := es'.isEmpty) hf hmr hk
                · refine ⟨if ok then .tuple ⟨[z, .bool false]⟩ else z, ?_, lift_run ?_⟩
                  · cases ok
                    · exact plainV_refl hp
                    · exact .tuple (.cons (plainV_refl hp) (.cons (.bool _) .nil))
                  · rw [ev]
                    simp [Instr.lookup, run_underlying hu, run_getMap hw, hck, hfk, run_zeroT hz]
                · cases e1
              · cases e
            · cases e
          · cases e
        · cases e
      · rename_i em
        rw [em] at hm
        have ev := hm.map0_inv
        split at e
        · rename_i z hf hz
          split at e
          · rename_i hp
            cases e
            obtain ⟨ek, hck, ⟨e1, hfk⟩ | ⟨j', v1, v', e1, hv, hfk⟩⟩ := find_run (b := true) hf (MR.nil (ι := ι)) hk
            · refine ⟨if ok then .tuple ⟨[z, .bool false]⟩ else z, ?_, lift_run ?_⟩
              · cases ok
                · exact plainV_refl hp
                · exact .tuple (.cons (plainV_refl hp) (.cons (.bool _) .nil))
              · rw [ev]
                simp [Instr.lookup, run_underlying hu, hck, hfk, run_zeroT hz]
            · cases e1
          · cases e
        · cases e
      · cases e
    · cases e
  case h_3 x t =>
    have hx := hE x
    split at e
    · rename_i n a b ex hu
      rw [ex] at hx
      obtain ⟨y, hy, ev⟩ := hx.map_inv
      split at e
      · rename_i es c hn
        cases e
        obtain ⟨es', hw, hmr⟩ := r.map hn hy
        exact ⟨_, .int _ _, by simp [resolve, invoke, builtin, Builtin.len_, run_underlying hu, ev, run_getMap hw, goInt, hmr.length]⟩
      · cases e
    · rename_i a b ex hu
      cases e
      rw [ex] at hx
      exact ⟨_, .int _ _, by simp [resolve, invoke, builtin, Builtin.len_, run_underlying hu, hx.map0_inv, goInt]⟩
    · cases e
  case h_4 src dst x =>
    have hx := hE x
    split at e
    · rename_i l c et ex hs hd
      rw [ex] at hx
      split at e
      · rename_i hu
        cases e
        exact ⟨_, .string _, lift_run (by rw [hx.slice0_inv]; simp [convert, run_underlying hs, run_underlying hd, run_underlying hu, Conv.bytesToString])⟩
      · cases e
    · rename_i n off len c et ex hs hd
      rw [ex] at hx
      split at e
      · rename_i cs t2 fz hu hn
        split at e
        · rename_i hle
          split at e
          · rename_i l hl
            split at e
            · cases e
            · rename_i h0
              cases e
              have : ∃ y c', ι n = some y ∧ ρ' x = .slice (some ⟨y.b, off + y.δ, none⟩) len c' := by
                rcases hx.slice_inv with ⟨hlt, y, hy, ev⟩ | ⟨e0, _⟩ | ⟨sz', y, c, o, ec, hy, h1, h2, h3, ev⟩
                · exact ⟨y, _, hy, ev⟩
                · omega
                · refine ⟨y, c, hy, ?_⟩
                  rw [ev]
                  rcases h3 with h3 | h3
                  · omega
                  · rw [h3]
              obtain ⟨y, c', hy, ev⟩ := this
              obtain ⟨vs', h1, h2, h3⟩ := r.range hn hy off len hle
              have hb : bytesA vs' = some l := by
                have : ∀ {a a' : List Value} {l : List Int}, VRL ι a a' → bytesA a = some l → bytesA a' = some l := by
                  intro a
                  induction a with
                  | nil => intro a' l h e; cases h; exact e
                  | cons v a ih =>
                    intro a' l h e
                    cases h with
                    | cons hv hr =>
                      unfold bytesA at e
                      split at e
                      · rename_i e2; cases e2
                      · rename_i n r' e2
                        cases e2
                        split at e
                        · rename_i l' hl
                          cases e
                          rw [hv.int_inv]
                          simp [bytesA, ih hr hl]
                        · cases e
                      · cases e
                exact this h3 hl
              have hlo := run_loadCells_list (P := P) w ⟨y.b, off + y.δ, none⟩ vs' (fun j v hv => by rw [add_none]; exact h2 j v hv)
              have hlm : (loadCells ⟨y.b, off + y.δ, none⟩ len).run P w = .ok (l.map (Value.int .u8)).toArray w := by
                rw [← bytesA_map hb, ← h1]; exact hlo
              have hrun := run_bytesToString w ⟨y.b, off + y.δ, none⟩ len c' l hlm
              rw [bytesS_eq] at hrun
              refine ⟨_, .string _, lift_run ?_⟩
              rw [ev]
              simp only [convert, Sem.run_bind, run_underlying hs, run_underlying hd, run_underlying hu, Result.andThen_ok, hrun]
          · cases e
        · cases e
      · cases e
    · cases e
  case h_5 x =>
    have hx := hE x
    split at e
    · rename_i n ex
      rw [ex] at hx
      obtain ⟨y, hy, ev⟩ := hx.ptr_inv
      split at e
      · rename_i m since seen stepped hn
        split at e
        · rename_i stamp es clock hs hm
          split at e
          · cases e
          · rename_i hc
            split at e
            · rename_i en he
              split at e
              · rename_i hk
                cases e
                obtain ⟨y', o', hy', hw, ho⟩ := r.obj n _ hn
                rw [hy] at hy'; cases hy'
                cases ho with
                | mapIter hd hmm =>
                  rename_i z
                  obtain ⟨es', hw2, hmr⟩ := r.map hm hmm
                  obtain ⟨v', hv, hf⟩ := hmr.born (fun b => b == stamp) he
                  refine ⟨_, .tuple (.cons (plainV_refl (keyS_plain hk)) (.cons hv .nil)), lift_run ?_⟩
                  rw [ev]
                  have e0 : 0 + y.δ = 0 := by omega
                  have hg : (getObj y.b).run P w = .ok (.mapIter (some z.b) since seen stepped) w := by simp [getObj, Sem.run, hw]
                  rw [e0]
                  have hc2 : clock = stepped := by simpa using hc
                  simp [Instr.entry, hg, hs, run_getMap hw2, hc2, hf]
              · cases e
            · cases e
        · cases e
      · cases e
    · cases e
  case h_6 => cases e
end
end Go.Ev
