/- The evaluator, part H: operations that write. -/
import Derived.Test.YtgpgiejcnicigaaGreatDoorEvG
set_option linter.unusedSimpArgs false
set_option linter.unusedVariables false
namespace Go.Ev

theorem putL_lt : ∀ (vs a : List Value) (o i : Nat), i < o → (putL a o vs)[i]? = a[i]?
  | [], _, _, _, _ => rfl
  | v :: r, a, o, i, h => by rw [putL, putL_lt r _ _ _ (by omega), List.getElem?_set, if_neg (by omega)]
theorem putL_in : ∀ (vs a : List Value) (o j : Nat), j < vs.length → o + vs.length ≤ a.length → (putL a o vs)[o + j]? = vs[j]?
  | [], _, _, _, h, _ => by simp at h
  | v :: r, a, o, j, h, hl => by
    simp only [List.length_cons] at h hl
    cases j with
    | zero => rw [putL, putL_lt _ _ _ _ (by omega), Nat.add_zero, List.getElem?_set_self (by omega)]; rfl
    | succ j =>
      rw [putL, show o + (j + 1) = (o + 1) + j by omega, putL_in r _ _ _ (by omega) (by simp; omega)]
      simp

section
variable {P : Program} {ι : Map} {ρ ρ' : Operand → Value} {h : Heap} {w : World}

/-- A block goes on under another name. -/
theorem Rl.move (r : Rl ι h w) {n c κ δ : Nat} {p o o' : Obj} {x : Blk} (a : Above ι c) (hfn : fits n = true) (hfc : fits c = true) (hn : h.get n = some p) (hx : ι n = some x)
    (ho : OR (upd ι c ⟨x.b, κ, δ⟩) ⟨x.b, κ, δ⟩ o o') : Rl (upd ι c ⟨x.b, κ, δ⟩) ((h.del n).put c o) (w.putObj x.b o') := by
  have hc := a c (Nat.le_refl _)
  have hcn : c ≠ n := fun e => by rw [e, hx] at hc; cases hc
  obtain ⟨x', p', hx', hwp, _⟩ := r.obj n p hn
  rw [hx] at hx'; cases hx'
  constructor
  · intro m q hm
    rw [Heap.get_put hfc] at hm
    by_cases e : m = c
    · subst e
      simp only [if_true, Option.some.injEq] at hm
      subst hm
      exact ⟨_, o', upd_same _ _ _, by rw [putObj_get]; simp [lt_of_get hwp], ho⟩
    · rw [if_neg e, Heap.get_del hfn] at hm
      by_cases e2 : m = n
      · rw [if_pos e2] at hm; cases hm
      · rw [if_neg e2] at hm
        obtain ⟨y, q', hy, hw, hq⟩ := r.obj m q hm
        refine ⟨y, q', by rw [upd_other _ _ e]; exact hy, ?_, hq.mono (upd_ext _ hc)⟩
        rw [putObj_get, if_neg, hw]
        rintro ⟨e3, _⟩
        exact e2 (r.inj m n q p y x hm hn hy hx e3.symm)
  · intro m k o1 o2 y z hm hk hy hz e
    rw [Heap.get_put hfc] at hm hk
    have old : ∀ j oj yj, (if j = c then some o else (h.del n).get j) = some oj → j ≠ c → upd ι c ⟨x.b, κ, δ⟩ j = some yj → j ≠ n ∧ h.get j = some oj ∧ ι j = some yj := by
      intro j oj yj h1 h2 h3
      rw [if_neg h2, Heap.get_del hfn] at h1
      by_cases e2 : j = n
      · rw [if_pos e2] at h1; cases h1
      · rw [if_neg e2] at h1
        rw [upd_other _ _ h2] at h3
        exact ⟨e2, h1, h3⟩
    by_cases e1 : m = c <;> by_cases e2 : k = c
    · rw [e1, e2]
    · exfalso
      subst e1
      rw [upd_same] at hy; cases hy
      obtain ⟨g1, g2, g3⟩ := old k o2 z hk e2 hz
      exact g1 (r.inj k n o2 p z x g2 hn g3 hx e.symm)
    · exfalso
      subst e2
      rw [upd_same] at hz; cases hz
      obtain ⟨g1, g2, g3⟩ := old m o1 y hm e1 hy
      exact g1 (r.inj m n o1 p y x g2 hn g3 hx e)
    · obtain ⟨g1, g2, g3⟩ := old m o1 y hm e1 hy
      obtain ⟨k1, k2, k3⟩ := old k o2 z hk e2 hz
      exact r.inj m k o1 o2 y z g2 k2 g3 k3 e
theorem Tr.move {n c κ δ : Nat} {p o o' : Obj} {x : Blk} (a : Above ι c) (hfn : fits n = true) (hfc : fits c = true) (hn : h.get n = some p) (hx : ι n = some x) :
    Tr ι h c w (upd ι c ⟨x.b, κ, δ⟩) ((h.del n).put c o) (c + 1) (w.putObj x.b o') where
  ext := upd_ext _ (a c (Nat.le_refl _))
  le := Nat.le_succ _
  low m hm e := by rw [upd_other _ _ (by omega)]; exact e
  size := by simp [World.putObj]
  frame b hb hh := by
    rw [putObj_get, if_neg]
    rintro ⟨e, _⟩
    exact hh n p x hn hx e
  live m q y hm hy := by
    rw [Heap.get_put hfc] at hm
    by_cases e : m = c
    · subst e; rw [upd_same] at hy; cases hy; exact .inr ⟨n, p, x, hn, hx, rfl⟩
    · rw [if_neg e, Heap.get_del hfn] at hm
      by_cases e2 : m = n
      · rw [if_pos e2] at hm; cases hm
      · rw [if_neg e2] at hm
        rw [upd_other _ _ e] at hy
        exact .inr ⟨m, q, y, hm, hy, rfl⟩
  names m q hm := by
    rw [Heap.get_put hfc] at hm
    by_cases e : m = c
    · exact .inr ⟨by omega, by omega⟩
    · rw [if_neg e, Heap.get_del hfn] at hm
      by_cases e2 : m = n
      · rw [if_pos e2] at hm; cases hm
      · rw [if_neg e2] at hm; exact .inl ⟨q, hm⟩
  os := rfl
  tape := rfl
  output := rfl

noncomputable def oneA : Value → Bool
  | .agg _ | .tuple _ | .chan _ => false
  | _ => true
theorem oneA_one {v v' : Value} (h : oneA v = true) (r : VR ι v v') : v'.oneCell' = true := by
  cases r <;> first | rfl | simp [oneA] at h
theorem oneA_all : ∀ {a a' : List Value}, a.all oneA = true → VRL ι a a' → ∀ v ∈ a', v.oneCell' = true
  | _, _, _, .nil, v, hv => by cases hv
  | _, _, h, .cons h1 h2, v, hv => by
    simp only [List.all_cons, Bool.and_eq_true] at h
    rcases List.mem_cons.1 hv with rfl | hv
    · exact oneA_one h.1 h1
    · exact oneA_all h.2 h2 v hv

/-- The cells of a run in place. -/
theorem store_cells (r : Rl ι h w) {n off : Nat} {cs vs vs' : List Value} {t : TypeId} {x : Blk} (hn : h.get n = some (.cells ⟨cs⟩ t (0, 0))) (hx : ι n = some x) (hle : off + vs.length ≤ cs.length) (hv : VRL ι vs vs') (h1 : vs.all oneA = true) (hf : fits n = true) (c : Nat) :
    (storeCells ⟨x.b, off + x.δ, none⟩ vs').run P w = .ok () (w.setCells x.b (off + x.δ) vs') ∧ Rl ι (h.put n (.cells ⟨putL cs off vs⟩ t (0, 0))) (w.setCells x.b (off + x.δ) vs') ∧
    Tr ι h c w ι (h.put n (.cells ⟨putL cs off vs⟩ t (0, 0))) c (w.setCells x.b (off + x.δ) vs') := by
  obtain ⟨a', fz', hw, hl, hc, hz⟩ := r.cells hn hx
  have hrun := run_storeCells_cells (P := P) x.b (off + x.δ) vs' 0 w (fun j hj => by
      obtain ⟨v, hv2⟩ : ∃ v, cs[off + j]? = some v := ⟨_, List.getElem?_eq_getElem (by rw [hv.length] at hj; omega)⟩
      obtain ⟨v', h1, _⟩ := r.cell hn hx hv2
      rw [show off + x.δ + 0 + j = off + j + x.δ by omega, h1]; rfl) (fun j hj => by
      obtain ⟨v, hv2⟩ : ∃ v, cs[off + j]? = some v := ⟨_, List.getElem?_eq_getElem (by rw [hv.length] at hj; omega)⟩
      obtain ⟨v', h2, _⟩ := hc _ v hv2
      have hlt := (List.getElem?_eq_some_iff.1 h2).1
      have := hz (off + x.δ + j) (by omega)
      simpa [World.frozen?, hw] using this) (oneA_all h1 hv)
  simp only [Nat.add_zero] at hrun
  have e := setCells_eq vs' a' (off + x.δ) w x.b t fz' hw
  have ho : OR ι x (.cells ⟨putL cs off vs⟩ t (0, 0)) (.cells ⟨putL a' (off + x.δ) vs'⟩ t fz') := .cells (by rw [putL_length]; exact hl) (CR.putL hv hc off) hz
  rw [e] at hrun ⊢
  exact ⟨hrun, r.put hf hn hx ho, .put hf hn hx⟩

/-- What was found lies there. -/
theorem findNow_at {kd : TypeDesc} {k : Value} : ∀ {es : List MapEntry} {i j : Nat} {v : Value}, Instr.findNow kd k es i = some (some (j, v)) →
    ∃ m e, j = i + m ∧ es[m]? = some e ∧ e.val = v ∧ Instr.sameNow kd k e.key = some true
  | [], _, _, _, h => by simp [Instr.findNow] at h
  | e :: es, i, j, v, h => by
    simp only [Instr.findNow] at h
    split at h
    · rename_i hs
      cases h
      exact ⟨0, e, rfl, rfl, rfl, hs⟩
    · obtain ⟨m, e', h1, h2, h3, h4⟩ := findNow_at h
      exact ⟨m + 1, e', by omega, h2, h3, h4⟩
    · cases h
theorem bytes_eq {a b : ByteArray} (h : (a == b) = true) : a = b := by
  cases a; cases b
  rename_i x y
  have : (x == y) = true := h
  rw [eq_of_beq this]
theorem sameNow_bits {kd : TypeDesc} {k e : Value} (hk : keyS k = true) (h : Instr.sameNow kd k e = some true) : Instr.sameBits 10000 e k = true := by
  cases k <;> simp [keyS] at hk
  · cases e <;> cases kd <;> simp [Instr.sameNow] at h
    obtain ⟨rfl, rfl⟩ := h
    simp [Instr.sameBits]
  · cases e <;> cases kd <;> simp [Instr.sameNow] at h
    obtain rfl := bytes_eq h
    simpa [Instr.sameBits] using h
theorem MR.get : ∀ {es es' : List MapEntry} (_ : MR ι es es') {i : Nat} {e : MapEntry}, es[i]? = some e → ∃ v', es'[i]? = some ⟨e.key, v', e.born⟩ ∧ VR ι e.val v'
  | _, _, .nil, _, _, h => by simp at h
  | _, _, .cons hv hr, 0, e, h => by simp at h; subst h; exact ⟨_, rfl, hv⟩
  | _, _, .cons hv hr, i + 1, e, h => by simp at h; simpa using MR.get hr h
theorem MR.set {k v v' : Value} {b : Nat} (hv : VR ι v v') : ∀ {es es' : List MapEntry} (_ : MR ι es es') (i : Nat), MR ι (es.set i ⟨k, v, b⟩) (es'.set i ⟨k, v', b⟩)
  | _, _, .nil, _ => .nil
  | _, _, .cons h1 h2, 0 => .cons hv h2
  | _, _, .cons h1 h2, i + 1 => .cons h1 (MR.set hv h2 i)
theorem MR.app {b b' : List MapEntry} (hb : MR ι b b') : ∀ {a a' : List MapEntry}, MR ι a a' → MR ι (a ++ b) (a' ++ b')
  | _, _, .nil => hb
  | _, _, .cons h1 h2 => .cons h1 (MR.app hb h2)
theorem MR.erase : ∀ {a a' : List MapEntry} (_ : MR ι a a') (i : Nat), MR ι (a.eraseIdx i) (a'.eraseIdx i)
  | _, _, .nil, _ => by simpa using .nil
  | _, _, .cons h1 h2, 0 => h2
  | _, _, .cons h1 h2, i + 1 => .cons h1 (MR.erase h2 i)
theorem run_setMap {b : Nat} {o o' : Obj} (hw : w.heap[b]? = some o) (ho : ∀ c e f, o ≠ .cells c e f) : (setObj b o').run P w = .ok () (w.putObj b o') := by
  cases o <;> first | exact absurd rfl (ho _ _ _) | simp [setObj, Sem.run, hw, World.putObj]
end

noncomputable def putR (h : Heap) (n : Nat) (o : Obj) (v : Value) (c : Nat) : Option (Value × Heap × Nat) :=
  if fits n then T.setK D h n (some o) fun h' => some (v, h', c) else none
theorem putR_eq {h : Heap} {n : Nat} {o : Obj} {v : Value} {c : Nat} {r : Value × Heap × Nat} (e : putR h n o v c = some r) : fits n = true ∧ r = (v, h.put n o, c) := by
  unfold putR at e
  split at e
  · rename_i hf
    rw [T.setK_eq] at e
    cases e
    exact ⟨hf, rfl⟩
  · cases e

noncomputable def updA (P : Program) (ρ : Operand → Value) (h : Heap) (c : Nat) (t : TypeId) (m k v : Operand) : Option (Value × Heap × Nat) :=
  match undA P t with
  | some (.map kt _) => match ρ m with
    | .map (some n) => match h.get n with
      | some (.map ⟨es⟩ clock) => match findA P kt (ρ k) es with
        | some (some (i, _)) => match es[i]? with
          | some e => putR h n (.map ⟨es.set i ⟨ρ k, ρ v, e.born⟩⟩ clock) undef c
          | none => none
        | some none => putR h n (.map ⟨es ++ [⟨ρ k, ρ v, clock⟩]⟩ (clock + 1)) undef c
        | none => none
      | _ => none
    | _ => none
  | _ => none

section
variable {P : Program} {ι : Map} {ρ ρ' : Operand → Value} {h : Heap} {w : World}
theorem findA_at {kt : TypeId} {k : Value} {es : List MapEntry} {j : Nat} {v : Value} (e : findA P kt k es = some (some (j, v))) :
    ∃ en, es[j]? = some en ∧ en.val = v ∧ Instr.sameBits 10000 en.key k = true := by
  unfold findA at e
  simp only [undA_eq] at e
  split at e
  · split at e
    · rename_i hk
      obtain ⟨m, en, h1, h2, h3, h4⟩ := findNow_at e
      obtain rfl : j = m := by omega
      exact ⟨en, h2, h3, sameNow_bits hk h4⟩
    · cases e
  · split at e
    · rename_i hk
      obtain ⟨m, en, h1, h2, h3, h4⟩ := findNow_at e
      obtain rfl : j = m := by omega
      exact ⟨en, h2, h3, sameNow_bits hk h4⟩
    · cases e
  · cases e

theorem upd_sound (r : Rl ι h w) (hE : ∀ x, VR ι (ρ x) (ρ' x)) {c c' : Nat} {t : TypeId} {m k v : Operand} {u : Value} {h' : Heap} (a : Above ι c) (e : updA P ρ h c t m k v = some (u, h', c')) :
    Good ι h c w ((do Instr.mapUpdate t (ρ' m) (ρ' k) (ρ' v); pure .skip : Sem Next).run P w) u h' c' := by
  have hm := hE m
  have hk := hE k
  have hv := hE v
  unfold updA at e
  simp only [undA_eq] at e
  split at e
  · rename_i kt et hu
    split at e
    · rename_i n em
      rw [em] at hm
      obtain ⟨x, hx, ev⟩ := hm.map_inv
      split at e
      · rename_i es clock hn
        obtain ⟨es', hw, hmr⟩ := r.map hn hx
        split at e
        · rename_i i v0 hf
          split at e
          · rename_i en hen
            obtain ⟨hfit, er⟩ := putR_eq e
            cases er
            obtain ⟨ek, hck, ⟨e1, _⟩ | ⟨j', v1, v', e1, hv', hfk⟩⟩ := find_run (b := false) hf hmr hk
            · cases e1
            · cases e1
              obtain ⟨en2, g1, g2, g3⟩ := findA_at hf
              rw [hen] at g1; cases g1
              obtain ⟨v2, g4, g5⟩ := hmr.get hen
              refine ⟨ι, w.putObj x.b (.map ⟨es'.set i ⟨ρ k, ρ' v, en.born⟩⟩ clock), undef, .inr ⟨?_, rfl, rfl⟩, .tuple .nil, r.put hfit hn hx (.map (hmr.set hv i)), a, .put hfit hn hx⟩
              rw [ev, ek]
              rw [ek] at hck hfk
              have hes : (es'.toArray.modify i fun e => { e with key := ρ k, val := ρ' v }) = (⟨es'.set i ⟨ρ k, ρ' v, en.born⟩⟩ : Array MapEntry) := by
                apply Array.ext'
                simp only [Array.toList_modify]
                apply List.ext_getElem?
                intro q
                rw [List.getElem?_modify, List.getElem?_set]
                by_cases eq : i = q
                · subst eq
                  have : i < es'.length := (List.getElem?_eq_some_iff.1 g4).1
                  have g6 : es'[i].born = en.born := by rw [(List.getElem?_eq_some_iff.1 g4).2]
                  simp [this, g6]
                · simp [eq]
              have hst := run_setMap (P := P) (o' := .map (es'.toArray.modify i fun e => { e with key := ρ k, val := ρ' v }) clock) hw (fun _ _ _ => by simp)
              have hkk : (Instr.keyThatStays en.key (ρ k)).run P w = .ok (ρ k) w := by simp [Instr.keyThatStays, g3]
              have hgk : (((⟨es'⟩ : Array MapEntry)[i]?).map (·.key)).getD (ρ k) = en.key := by simp [g4]
              simp only [Instr.mapUpdate, Sem.run_bind, run_underlying hu, Result.andThen_ok, run_getMap hw, hck, hfk, hgk, hkk]
              show ((setObj x.b (.map (es'.toArray.modify i fun e => { e with key := ρ k, val := ρ' v }) clock)).run P w).andThen _ = _
              rw [hst, hes]; rfl
          · cases e
        · rename_i hf
          obtain ⟨hfit, er⟩ := putR_eq e
          cases er
          obtain ⟨ek, hck, ⟨e1, hfk⟩ | ⟨j', v1, v', e1, hv', hfk⟩⟩ := find_run (b := false) hf hmr hk
          · refine ⟨ι, w.putObj x.b (.map ⟨es' ++ [⟨ρ k, ρ' v, clock⟩]⟩ (clock + 1)), undef, .inr ⟨?_, rfl, rfl⟩, .tuple .nil, r.put hfit hn hx (.map (MR.app (.cons hv .nil) hmr)), a, .put hfit hn hx⟩
            rw [ev, ek]
            rw [ek] at hck hfk
            have hst := run_setMap (P := P) (o' := .map ((⟨es'⟩ : Array MapEntry).push ⟨ρ k, ρ' v, clock⟩) (clock + 1)) hw (fun _ _ _ => by simp)
            simp only [Instr.mapUpdate, Sem.run_bind, run_underlying hu, Result.andThen_ok, run_getMap hw, hck, hfk]
            rw [hst]
            have : (⟨es'⟩ : Array MapEntry).push ⟨ρ k, ρ' v, clock⟩ = ⟨es' ++ [⟨ρ k, ρ' v, clock⟩]⟩ := by apply Array.ext'; simp
            rw [this]; rfl
          · cases e1
        · cases e
      · cases e
    · cases e
  · cases e
end
end Go.Ev
