/- The evaluator, part M: what it evaluates, the machine does: operations and plain regions. -/
import Derived.Test.YtgpgiejcnicigaaGreatDoorEvL
set_option linter.unusedSimpArgs false
set_option linter.unusedVariables false
namespace Go.Ev

/-- The slots. -/
noncomputable def TR (ι : Map) (nt : Nat) (t : T Value) (a : Array Value) : Prop := a.size = nt ∧ ∀ i, VR ι ((t.get i).getD undef) (a.getD i undef)
/-- The package variables. -/
noncomputable def GL (G : Gp) (ι : Map) : Prop := (∀ g, g < G.n → ∃ κ, ι g = some ⟨g, κ, 0⟩) ∧ ι 50 = some G.X
theorem GL.ext {G : Gp} {ι ι' : Map} (h : GL G ι) (e : Ext ι ι') : GL G ι' := ⟨fun g hg => let ⟨κ, h1⟩ := h.1 g hg; ⟨κ, e _ _ h1⟩, e _ _ h.2⟩
theorem TR.ext {ι ι' : Map} {nt : Nat} {t : T Value} {a : Array Value} (h : TR ι nt t a) (e : Ext ι ι') : TR ι' nt t a := ⟨h.1, fun i => (h.2 i).mono e⟩
/-- What is called. -/
inductive TgR (ι : Map) : Tg → Deferred → Prop where
  | fn {f : FuncId} {xs args' cap' : List Value} : VRL ι xs (args' ++ cap') → TgR ι (.fn f xs) ⟨.fn (.func f) ⟨cap'⟩, ⟨args'⟩⟩
  | yield {n : Nat} {x : Blk} {xs xs' : List Value} {cap : Array Value} : ι n = some x → VRL ι xs xs' → TgR ι (.yield n xs) ⟨.fn (.yield x.b) cap, ⟨xs'⟩⟩
/-- What is done at the end. -/
inductive DR (ι : Map) : List Df → List Deferred → Prop where
  | nil : DR ι [] []
  | col {n : Nat} {x : Blk} {r : List Df} {r' : List Deferred} : ι n = some x → DR ι r r' → DR ι (.col n :: r) (⟨.collected x.b, #[]⟩ :: r')
  | fn {f : FuncId} {xs : List Value} {d : Deferred} {r : List Df} {r' : List Deferred} : TgR ι (.fn f xs) d → DR ι r r' → DR ι (.fn f xs :: r) (d :: r')
theorem TgR.ext {ι ι' : Map} (e : Ext ι ι') {t : Tg} {d : Deferred} : TgR ι t d → TgR ι' t d
  | .fn h => .fn (h.mono e)
  | .yield h1 h2 => .yield (e _ _ h1) (h2.mono e)
theorem DR.ext {ι ι' : Map} (e : Ext ι ι') : ∀ {l : List Df} {l' : List Deferred}, DR ι l l' → DR ι' l l'
  | _, _, .nil => .nil
  | _, _, .col h r => .col (e _ _ h) (r.ext e)
  | _, _, .fn h r => .fn (h.ext e) (r.ext e)

/-- What is told of a call. -/
noncomputable def CallOK (P : Program) (G : Gp) (call : CallT) : Prop :=
  ∀ tg h c v h' c', call tg h c = some (v, h', c') → ∀ ι w d, Rl ι h w → Above ι c → GL G ι → TgR ι tg d →
    ∃ nx, (invoke d.target d.args).run P w = .ok nx w ∧
      match nx with
      | .enter f args => ∀ F cs, ∃ ι' w' v', VR ι' v v' ∧ Rl ι' h' w' ∧ Above ι' c' ∧ Tr ι h c w ι' h' c' w' ∧ Steps P (lone (Frame.enter P f args .normal) (F :: cs) w) (lone (F.finish v') cs w')
      | .round l f tmps as body => ∀ F cs, ∃ ι' w' v', VR ι' v v' ∧ Rl ι' h' w' ∧ Above ι' c' ∧ Tr ι h c w ι' h' c' w' ∧ Steps P (lone (Frame.round l f tmps as body .normal) (F :: cs) w) (lone (F.finish v') cs w')
      | _ => False

/-- The frame and the heap. -/
structure SR (E : Env) (ι : Map) (s : AS) (a : Array Value) (df : List Deferred) (w : World) : Prop where
  t : TR ι E.nt s.t a
  h : Rl ι s.h w
  c : Above ι s.c
  g : GL E.G ι
  d : DR ι s.df df

theorem VR.undef {ι : Map} : VR ι undef undef := .tuple .nil
theorem ev_sound {E : Env} {ι : Map} {t : T Value} {F : Frame} (ht : TR ι E.nt t F.tmps) (hg : GL E.G ι) (x : Operand) : VR ι (ev E t x) (F.eval x) := by
  cases x with
  | tmp i => exact ht.2 i
  | const v =>
    simp only [ev, Frame.eval]
    split
    · rename_i h; exact plainV_refl h
    · split
      · exact .func .nil .nil
      · exact .tuple .nil
      · exact .junk _
  | global g =>
    simp only [ev, Frame.eval]
    split
    · rename_i h
      obtain ⟨κ, hk⟩ := hg.1 g h
      exact .ptr hk
    · exact .junk _
  | func f => exact .func .nil .nil

theorem putT_sound {E : Env} {s : AS} {dst : Option Tmp} {v : Value} {h : Heap} {c : Nat} {β : Type} {k : AS → Option β} {r : β} (e : putT E s dst v h c k = some r) :
    ∃ s', k s' = some r ∧ s'.h = h ∧ s'.c = c ∧ s'.df = s.df ∧ ∀ ι a v', TR ι E.nt s.t a → VR ι v v' → TR ι E.nt s'.t (putV a dst v') := by
  unfold putT at e
  simp only [withS_eq, forceV_eq] at e
  split at e
  · exact ⟨_, e, rfl, rfl, rfl, fun ι a v' ht hv => ht⟩
  · rename_i d
    split at e
    · rename_i hd
      simp only [Bool.and_eq_true] at hd
      rw [T.setK_eq] at e
      refine ⟨_, e, rfl, rfl, rfl, fun ι a v' ht hv => ⟨by simp [putV, ht.1], fun i => ?_⟩⟩
      have hlt : d < E.nt := by have := hd.1; exact Nat.le_of_ble_eq_true this
      show VR ι (((T.set D s.t d (some v)).get i).getD undef) ((a.setIfInBounds d v').getD i undef)
      rw [T.get_set _ _ _ _ _ (fits_lt hd.2)]
      by_cases hi : i = d
      · subst hi
        have : i < a.size := by rw [ht.1]; exact hlt
        simp [Array.getD_eq_getD_getElem?, this, hv]
      · have := ht.2 i
        rw [if_neg hi]
        have hne : d ≠ i := fun e => hi e.symm
        simpa [Array.getD_eq_getD_getElem?, hne] using this
    · cases e

theorem opA_sound {P : Program} {ι : Map} {ρ ρ' : Operand → Value} {h : Heap} {w : World} (r : Rl ι h w) {c c' : Nat} (ac : Above ι c) {o : Oper} {u : Value} {h' : Heap} (hE : ∀ x, VR ι (ρ x) (ρ' x))
    (e : opA P ρ h c o.op = some (u, h', c')) : Good ι h c w ((execOp ρ' o).run P w) u h' c' := by
  unfold opA at e
  split at e
  · rename_i v hp
    cases e
    obtain ⟨v', h1, h2⟩ := pure_sound (o := o) hE hp
    exact ⟨ι, w, v', .inl (h2 w), h1, r, ac, .refl _ _ _ _⟩
  · split at e
    · rename_i v hp
      cases e
      obtain ⟨v', h1, h2⟩ := read_sound (o := o) r hE hp
      exact ⟨ι, w, v', .inl h2, h1, r, ac, .refl _ _ _ _⟩
    · split at e
      · rename_i ob k hn
        split at e
        · rename_i hk
          obtain ⟨hf, er⟩ := putR_eq e
          cases er
          refine new_good r ac hf ?_ (new_sound (o := o) hE hn)
          cases k with
          | slice l n =>
            have : n ≤ 65536 := Nat.le_of_ble_eq_true hk
            have hO : OPEN = 18446744073709551616 := rfl
            show n < OPEN
            omega
          | _ => trivial
        · cases e
      · exact chain_sound (o := o) r ac hE e

theorem want_sound {E : Env} {ι : Map} {ops : Array Oper} {t : T Value} {a : Array Value} {o : Oper} {b : Bool} (ht : TR ι E.nt t a) (e : wantA ops t o = some b) : Region.wanted o (yielded ops a) = b := by
  unfold wantA at e
  unfold Region.wanted
  split at e
  · rename_i hg
    cases e
    simp [hg]
  · rename_i j want hg
    simp only [hg]
    unfold yielded
    split at e
    · rename_i hj
      cases e
      simp [hj]
    · rename_i oj hj
      split at e
      · rename_i hd
        cases e
        simp [hj, hd]
      · rename_i d hd
        have hv := ht.2 d
        simp only [hj, Option.bind_some, hd]
        rw [Array.getD_eq_getD_getElem?] at hv
        split at e
        · rename_i b' hb
          cases e
          rw [hb] at hv
          simp only [Option.getD_some] at hv
          cases hx : a[d]? with
          | none =>
            rw [hx] at hv
            have := hv.bool_inv
            cases this
          | some u =>
            rw [hx] at hv
            have := hv.bool_inv
            simp only [Option.getD_some] at this
            subst this
            cases b' <;> cases want <;> rfl
        · rename_i hb
          cases e
          rw [hb] at hv
          simp only [Option.getD_some] at hv
          cases hx : a[d]? with
          | none => rfl
          | some u =>
            rw [hx] at hv
            simp only [Option.getD_some] at hv
            cases hv with
            | tuple hl => rfl
        · rename_i hb
          cases e
          rw [hb] at hv
          simp only [Option.getD_none] at hv
          cases hx : a[d]? with
          | none => rfl
          | some u =>
            rw [hx] at hv
            simp only [Option.getD_some] at hv
            have : ∃ x, u = .tuple x := by
              generalize hz : Go.undef = z at hv
              cases hv <;> cases hz
              exact ⟨_, rfl⟩
            obtain ⟨x, rfl⟩ := this
            rfl
        · cases e

theorem tg_sound {ι : Map} {f f' : Value} {xs xs' : List Value} {tg : Tg} (hf : VR ι f f') (hx : VRL ι xs xs') (e : tgA f xs = some tg) :
    ∃ d, (∀ P w, (Deferred.ofValue f' ⟨xs'⟩).run P w = .ok d w) ∧ TgR ι tg d := by
  unfold tgA at e
  split at e
  · rename_i g first cap
    cases e
    cases hf with
    | func h1 h2 =>
      rename_i first' cap'
      refine ⟨⟨.fn (.func g) ⟨cap'⟩, ⟨first' ++ xs'⟩⟩, fun P w => ?_, .fn (VRL.app h2 (VRL.app hx h1))⟩
      simp [Deferred.ofValue]
  · rename_i n a b
    cases e
    generalize hz : Value.func (Fn.yield n) a b = z at hf
    cases hf <;> cases hz
    rename_i x hx2
    refine ⟨⟨.fn (.yield x.b) #[], ⟨xs'⟩⟩, fun P w => ?_, .yield hx2 hx⟩
    simp [Deferred.ofValue]
  · cases e
end Go.Ev
