/- The evaluator, part O: a loop over a function. -/
import Derived.Test.YtgpgiejcnicigaaGreatDoorEvN
set_option linter.unusedSimpArgs false
set_option linter.unusedVariables false
namespace Go.Ev

section
variable {P : Program} {fn : FuncId} {ki : CallKind} {ro : Option Nat} {df : List Deferred} {a : Array Value} {k : List Item} {cs : List Frame} {w : World}

theorem st_loopEnter {f : Operand} {params : Array Tmp} {assign body : Code} {l : Nat} {mark : List Deferred} {w1 : World} {d : Deferred} {g : FuncId} {args : Array Value}
    (h1 : (Instr.enterLoop fn a params assign body ro).run P w = .ok (l, mark) w1)
    (h2 : (Deferred.ofValue ((Fr fn ki ro df a k).eval f) #[.func (.yield l) #[] #[]]).run P w1 = .ok d w1) (h3 : (invoke d.target d.args).run P w1 = .ok (.enter g args) w1) :
    step P (lone (Fr fn ki ro df a (.code (.rangeFunc f params assign body) :: k)) cs w) =
      .next (lone (Frame.enter P g args .normal) (Fr fn ki ro (mark ++ df) a (.inRangeFunc l :: k) :: cs) w1) := by
  refine step_lone_go ?_
  simp only [Fr] at h1 h2 ⊢
  simp [stepG, stepG.exec, h1, stepG.apply, resolve, Frame.eval]
  simp [Frame.eval] at h2
  simp [h2, h3]
theorem st_loopRound {f : Operand} {params : Array Tmp} {assign body : Code} {l : Nat} {mark : List Deferred} {w1 : World} {d : Deferred} {l2 : Nat} {g : FuncId} {tm : Array Value} {b1 b2 : Code}
    (h1 : (Instr.enterLoop fn a params assign body ro).run P w = .ok (l, mark) w1)
    (h2 : (Deferred.ofValue ((Fr fn ki ro df a k).eval f) #[.func (.yield l) #[] #[]]).run P w1 = .ok d w1) (h3 : (invoke d.target d.args).run P w1 = .ok (.round l2 g tm b1 b2) w1) :
    step P (lone (Fr fn ki ro df a (.code (.rangeFunc f params assign body) :: k)) cs w) =
      .next (lone (Frame.round l2 g tm b1 b2 .normal) (Fr fn ki ro (mark ++ df) a (.inRangeFunc l :: k) :: cs) w1) := by
  refine step_lone_go ?_
  simp only [Fr] at h1 h2 ⊢
  simp [stepG, stepG.exec, h1, stepG.apply, resolve, Frame.eval]
  simp [Frame.eval] at h2
  simp [h2, h3]
theorem fr_loopFinish {l : Nat} {v : Value} : (Fr fn ki ro df a (.inRangeFunc l :: k)).finish v = Fr fn ki ro df a (.endRangeFunc l :: k) := rfl
theorem st_loopEnd {l : Nat} {jump : Option Code} {w1 : World} (h : (Instr.endLoop l).run P w = .ok jump w1) :
    step P (lone (Fr fn ki ro df a (.endRangeFunc l :: k)) cs w) = .next (lone (Fr fn ki ro df a ((jump.map Item.code).toList ++ k)) cs w1) :=
  step_lone_go (by simp [stepG, stepG.exec, Fr, h])
end

/-- What is to be done behind code. -/
def Arr (P : Program) (m : Machine) (fn : FuncId) (ki : CallKind) (ro : Option Nat) (df : List Deferred) (a : Array Value) (k : List Item) (cs : List Frame) (w : World) : Ex → Prop
  | .nrm => Steps P m (lone (Fr fn ki ro df a k) cs w)
  | .exit id => ∃ k2, Steps P m (lone (Fr fn ki ro df a (.code (.exit id) :: k2)) cs w) ∧ exitTo id k2 = exitTo id k
  | .ret => ∃ k2, Steps P m (lone (Fr fn ki ro df a (.code .ret :: k2)) cs w)
theorem Arr.of_steps {P : Program} {m m1 : Machine} {fn : FuncId} {ki : CallKind} {ro : Option Nat} {df : List Deferred} {a : Array Value} {k : List Item} {cs : List Frame} {w : World} {e : Ex} (h : Steps P m m1) (h' : Arr P m1 fn ki ro df a k cs w e) :
    Arr P m fn ki ro df a k cs w e := by
  cases e with
  | nrm => exact h.trans h'
  | exit id => obtain ⟨k2, h1, h2⟩ := h'; exact ⟨k2, h.trans h1, h2⟩
  | ret => obtain ⟨k2, h1⟩ := h'; exact ⟨k2, h.trans h1⟩

theorem toList_rel {ι : Map} {nt : Nat} {t : T Value} {a : Array Value} (h : TR ι nt t a) : VRL ι (toList t nt) a.toList := by
  refine VRL.of_get (by simp [toList, h.1]) fun i v hv => ?_
  simp only [toList, List.getElem?_map] at hv
  by_cases hi : i < nt
  · rw [List.getElem?_range hi] at hv
    simp only [Option.map_some, Option.some.injEq] at hv
    have := h.2 i
    rw [hv] at this
    have hs : i < a.size := by rw [h.1]; exact hi
    refine ⟨a[i], by simp [hs], ?_⟩
    simpa [Array.getD_eq_getD_getElem?, hs] using this
  · rw [List.getElem?_eq_none (by simp; omega)] at hv
    cases hv

section
variable {E : Env} {ki : CallKind} {ro : Option Nat}

/-- The loop begins: its block, and the block for deferred calls, are there. -/
theorem loop_start {ι : Map} {s : AS} {a : Array Value} {df : List Deferred} {w : World} {dfA : List Df} {mark : List Deferred} {hA : Heap} {cA rA : Nat} {y : Blk} {w1 : World} (hc : CallOK E.P E.G E.call)
    {f : Operand} {params : Array Tmp} {assign body : Code} {ex : Ex} {s' : AS} (r : SR E ι s a df w)
    {ι1 : Map} (r1 : Rl ι1 hA w1) (a1 : Above ι1 cA) (t1 : Tr ι s.h s.c w ι1 hA cA w1) (hy : ι1 rA = some y) (hd : DR ι1 dfA (mark ++ df))
    (hrun : (Instr.enterLoop E.fn a params assign body ro).run E.P w = .ok (w1.heap.size, mark) { w1 with heap := w1.heap.push (.loop ⟨.ready, none, E.fn, a, params, assign, body, y.b⟩) })
    (e : (match putR hA cA (.loop ⟨.ready, none, E.fn, ⟨toList s.t E.nt⟩, params, assign, body, rA⟩) undef (cA + 1) with
      | none => none
      | some (_, h1, c1) => match tgA (ev E s.t f) [.func (.yield cA) #[] #[]] with
        | none => none
        | some tg => match E.call tg h1 c1 with
          | none => none
          | some (_, h2, c2) => match h2.get cA with
            | some (.loop l) => if l.state == .busy then none else
              match putR h2 cA (.loop { l with state := .exhausted }) undef c2 with
              | none => none
              | some (_, h3, c3) => match l.pending with
                | none => some (.nrm, { s with h := h3, c := c3, df := dfA })
                | some .ret => some (.ret, { s with h := h3, c := c3, df := dfA })
                | some (.exit id) => some (.exit id, { s with h := h3, c := c3, df := dfA })
                | _ => none
            | _ => none : Option (Ex × AS)) = some (ex, s')) (k : List Item) (cs : List Frame) :
    ∃ ι' w' a' df', SR E ι' s' a' df' w' ∧ Tr ι s.h s.c w ι' s'.h s'.c w' ∧ Arr E.P (lone (Fr E.fn ki ro df a (.code (.rangeFunc f params assign body) :: k)) cs w) E.fn ki ro df' a' k cs w' ex := by
  split at e
  · cases e
  · rename_i u h1 c1 hp
    obtain ⟨hf, er⟩ := putR_eq hp
    cases er
    let x0 : Blk := ⟨w1.heap.size, 0, 0⟩
    let w2 : World := { w1 with heap := w1.heap.push (.loop ⟨.ready, none, E.fn, a, params, assign, body, y.b⟩) }
    have hn := a1 cA (Nat.le_refl _)
    have hex : Ext ι1 (upd ι1 cA x0) := upd_ext _ hn
    have hor : OR (upd ι1 cA x0) x0 (.loop ⟨.ready, none, E.fn, ⟨toList s.t E.nt⟩, params, assign, body, rA⟩) (.loop ⟨.ready, none, E.fn, a, params, assign, body, y.b⟩) := by
      obtain ⟨al⟩ := a
      exact .loop (hex _ _ hy) ((toList_rel (r.t.ext t1.ext)).mono hex)
    have r2 : Rl (upd ι1 cA x0) (hA.put cA (.loop ⟨.ready, none, E.fn, ⟨toList s.t E.nt⟩, params, assign, body, rA⟩)) w2 := Rl.new r1 hf hn hor
    have t2 : Tr ι1 hA cA w1 (upd ι1 cA x0) _ (cA + 1) w2 := Tr.new (o := .loop ⟨.ready, none, E.fn, ⟨toList s.t E.nt⟩, params, assign, body, rA⟩) hf hn
    split at e
    · cases e
    · rename_i tg htg
      have hev := ev_sound (E := E) (F := Fr E.fn ki ro df a k) r.t r.g f
      obtain ⟨d, hdr, htr⟩ := tg_sound (hev.mono (t1.ext.trans hex)) (.cons (.yield (x := x0) (upd_same _ _ _)) .nil) htg
      split at e
      · cases e
      · rename_i u2 h2 c2 hcall
        obtain ⟨nx, hnx, hgo⟩ := hc tg _ _ _ _ _ hcall (upd ι1 cA x0) w2 d r2 (a1.new _) (r.g.ext (t1.ext.trans hex)) htr
        have fin : ∀ {ι' : Map} {w' : World} {v' : Value}, Rl ι' h2 w' → Above ι' c2 → Tr (upd ι1 cA x0) (hA.put cA (.loop ⟨.ready, none, E.fn, ⟨toList s.t E.nt⟩, params, assign, body, rA⟩)) (cA + 1) w2 ι' h2 c2 w' →
            Steps E.P (lone (Fr E.fn ki ro df a (.code (.rangeFunc f params assign body) :: k)) cs w) (lone ((Fr E.fn ki ro (mark ++ df) a (.inRangeFunc w1.heap.size :: k)).finish v') cs w') →
            ∃ ι' w' a' df', SR E ι' s' a' df' w' ∧ Tr ι s.h s.c w ι' s'.h s'.c w' ∧ Arr E.P (lone (Fr E.fn ki ro df a (.code (.rangeFunc f params assign body) :: k)) cs w) E.fn ki ro df' a' k cs w' ex := by
          intro ι' w' v' k2 k3 k4 k5
          split at e
          · rename_i l hl
            split at e
            · cases e
            · rename_i hb
              split at e
              · cases e
              · rename_i u3 h3 c3 hp3
                obtain ⟨hf3, er3⟩ := putR_eq hp3
                cases er3
                obtain ⟨z, o', hz, hwz, hoz⟩ := k2.obj cA _ hl
                have hz0 := k4.ext _ _ (upd_same ι1 cA x0)
                rw [hz] at hz0; cases hz0
                cases hoz with
                | loop hdz hlz =>
                  rename_i st pe ff aa aa' ps as1 bd nn yy
                  have hst := run_setMap (P := E.P) (o' := .loop ⟨.exhausted, pe, ff, ⟨aa'⟩, ps, as1, bd, yy.b⟩) hwz (fun _ _ _ => by simp)
                  have hg : (getObj w1.heap.size).run E.P w' = .ok (.loop ⟨st, pe, ff, ⟨aa'⟩, ps, as1, bd, yy.b⟩) w' := by
                    have : w'.heap[w1.heap.size]? = some (.loop ⟨st, pe, ff, ⟨aa'⟩, ps, as1, bd, yy.b⟩) := hwz
                    simp [getObj, Sem.run, this]
                  have hend : (Instr.endLoop w1.heap.size).run E.P w' = .ok pe (w'.putObj w1.heap.size (.loop ⟨.exhausted, pe, ff, ⟨aa'⟩, ps, as1, bd, yy.b⟩)) := by
                    have hb' : (st == LoopState.busy) = false := by simpa using hb
                    simp only [Instr.endLoop, Instr.getLoop, Sem.run_bind, hg, Result.andThen_ok, Sem.run_pure, hb', Bool.false_eq_true, if_false]
                    show ((setObj x0.b _).run E.P w').andThen _ = _
                    rw [hst]; rfl
                  have r3 : Rl ι' (h2.put cA (.loop ⟨.exhausted, pe, ff, ⟨aa⟩, ps, as1, bd, nn⟩)) (w'.putObj x0.b (.loop ⟨.exhausted, pe, ff, ⟨aa'⟩, ps, as1, bd, yy.b⟩)) := k2.put hf3 hl hz (.loop hdz hlz)
                  have t3 : Tr ι' h2 c2 w' ι' (h2.put cA (.loop ⟨.exhausted, pe, ff, ⟨aa⟩, ps, as1, bd, nn⟩)) c2 (w'.putObj x0.b (.loop ⟨.exhausted, pe, ff, ⟨aa'⟩, ps, as1, bd, yy.b⟩)) := .put hf3 hl hz
                  have hall : Ext ι ι' := t1.ext.trans (hex.trans k4.ext)
                  have tall := ((t1.trans t2).trans k4).trans t3
                  have hsteps := k5.trans (.one (st_loopEnd (fn := E.fn) (ki := ki) (ro := ro) (df := mark ++ df) (a := a) (k := k) (cs := cs) hend))
                  dsimp only at e
                  have sr : ∀ t0, t0 = s.t → SR E ι' ⟨t0, h2.put cA (.loop ⟨.exhausted, pe, ff, ⟨aa⟩, ps, as1, bd, nn⟩), c2, dfA⟩ a (mark ++ df) (w'.putObj x0.b (.loop ⟨.exhausted, pe, ff, ⟨aa'⟩, ps, as1, bd, yy.b⟩)) :=
                    fun t0 h0 => ⟨by rw [h0]; exact r.t.ext hall, r3, k3, r.g.ext hall, hd.ext (hex.trans k4.ext)⟩
                  split at e
                  · cases e
                    exact ⟨ι', _, a, mark ++ df, sr _ rfl, tall, hsteps⟩
                  · cases e
                    exact ⟨ι', _, a, mark ++ df, sr _ rfl, tall, k, hsteps⟩
                  · cases e
                    exact ⟨ι', _, a, mark ++ df, sr _ rfl, tall, k, hsteps, rfl⟩
                  · cases e
          · cases e
        cases nx with
        | enter g args =>
          obtain ⟨ι', w', v', k1, k2, k3, k4, k5⟩ := hgo (Fr E.fn ki ro (mark ++ df) a (.inRangeFunc w1.heap.size :: k)) cs
          exact fin k2 k3 k4 (.head (st_loopEnter hrun (hdr _ _) hnx) k5)
        | round l2 g tm b1 b2 =>
          obtain ⟨ι', w', v', k1, k2, k3, k4, k5⟩ := hgo (Fr E.fn ki ro (mark ++ df) a (.inRangeFunc w1.heap.size :: k)) cs
          exact fin k2 k3 k4 (.head (st_loopRound hrun (hdr _ _) hnx) k5)
        | _ => exact hgo.elim
end
end Go.Ev
