/- The evaluator, part S: a call. -/
import Derived.Test.YtgpgiejcnicigaaGreatDoorEvR
import Derived.Below
set_option linter.unusedSimpArgs false
set_option linter.unusedVariables false
namespace Go.Ev
open Go.RowKit (Below)

/-- What is told of a function by a contract: its result; what was there is as it was. -/
def SummOK (P : Program) (G : Gp) (summ : FuncId → List Value → Heap → Option Value) : Prop :=
  ∀ f xs h v, summ f xs h = some v → (∃ fn body, fnA P f = some (fn, body)) ∧ ∀ ι w xs', Rl ι h w → GL G ι → VRL ι xs xs' →
    Calls P f ⟨xs'⟩ w fun e w' => ∃ v', e = .returned v' ∧ VR ι v v' ∧ Below w.heap.size w w'

theorem Rl.below {ι : Map} {h : Heap} {w w' : World} (r : Rl ι h w) (b : Below w.heap.size w w') : Rl ι h w' where
  obj n o hn := by
    obtain ⟨x, o', hx, hw, ho⟩ := r.obj n o hn
    exact ⟨x, o', hx, by rw [b.block _ (lt_of_get hw)]; exact hw, ho⟩
  inj := r.inj
theorem Tr.below {ι : Map} {h : Heap} {c : Nat} {w w' : World} (b : Below w.heap.size w w') : Tr ι h c w ι h c w' :=
  ⟨.refl ι, Nat.le_refl _, fun _ _ h => h, b.size, fun k hk _ => b.block k hk, fun n o x e f => .inr ⟨n, o, x, e, f, rfl⟩, fun _ _ e => .inl ⟨_, e⟩, b.os, b.tape, b.output⟩

theorem call_sound {P : Program} {G : Gp} {fuel : Nat} {summ : FuncId → List Value → Heap → Option Value} (hs : SummOK P G summ) (hD : ∀ E : Env, E.P = P → E.G = G → CallOK P G E.call → DrawOK E) :
    ∀ n, CallOK P G (callA P G summ fuel n) := by
  intro n
  induction n with
  | zero => intro tg h c v h' c' e; simp [callA] at e
  | succ n ih =>
    have hD' : ∀ E : Env, E.P = P → E.G = G → E.call = callA P G summ fuel n → DrawOK E := fun E h1 h2 h3 => hD E h1 h2 (by rw [h3]; exact ih)
    intro tg h c v h' c' e ι w d r ac g ht
    cases tg with
    | fn f xs =>
      simp only [callA] at e
      split at e
      · rename_i u hu
        cases e
        obtain ⟨⟨fn, body, hfn⟩, hcall⟩ := hs f xs h _ hu
        obtain ⟨xs', hx, hrun⟩ := tg_fn_run ht hfn
        refine ⟨.enter f ⟨xs'⟩, hrun w, fun F cs => ?_⟩
        obtain ⟨e', w', fr, ⟨v', he, hv, hb⟩, hcm, hf, hl⟩ := hcall ι w xs' r g hx (F :: cs)
        subst he
        exact ⟨ι, w', v', hv, r.below hb, ac, .below hb, Steps.trans hcm (.one (step_leave_returned hl))⟩
      · obtain ⟨fn, body, hfn⟩ := body_fn e
        obtain ⟨xs', hx, hrun⟩ := tg_fn_run ht hfn
        refine ⟨.enter f ⟨xs'⟩, hrun w, fun F cs => ?_⟩
        obtain ⟨ι', w', v', a', k', k1, k2, k3, k4, k5, fn', hf', hr'⟩ := body_sound ih (body_dcall ih hD') hD' e r ac g hx .normal (F :: cs)
        exact ⟨ι', w', v', k1, k2, k3, k4, k5.trans (.one (st_returned hf' hr'))⟩
    | yield l xs =>
      simp only [callA] at e
      obtain ⟨b, f, tm, as, body, h1, h2⟩ := round_sound ih hD' e r ac g ht
      exact ⟨.round b f tm as body, h1, h2⟩

/-- A call, as a contract. -/
theorem calls_of_eval {P : Program} {G : Gp} {fuel : Nat} {summ : FuncId → List Value → Heap → Option Value} (hs : SummOK P G summ) (hD : ∀ E : Env, E.P = P → E.G = G → CallOK P G E.call → DrawOK E) {n : Nat}
    {f : FuncId} {xs : List Value} {h h' : Heap} {c c' : Nat} {v : Value} (e : bodyA P G fuel (callA P G summ fuel n) (bodyA P G fuel (callA P G summ fuel n) (fun _ _ _ _ => none)) f xs h c = some (v, h', c'))
    {ι : Map} {w : World} (r : Rl ι h w) (ac : Above ι c) (g : GL G ι) {xs' : List Value} (hx : VRL ι xs xs') :
    Calls P f ⟨xs'⟩ w fun e w' => ∃ ι' v', e = .returned v' ∧ VR ι' v v' ∧ Rl ι' h' w' ∧ Tr ι h c w ι' h' c' w' := by
  intro cs
  have hc := call_sound (fuel := fuel) hs hD n
  have hD' : ∀ E : Env, E.P = P → E.G = G → E.call = callA P G summ fuel n → DrawOK E := fun E h1 h2 h3 => hD E h1 h2 (by rw [h3]; exact hc)
  obtain ⟨ι', w', v', a', k', k1, k2, k3, k4, k5, fn', hf', hr'⟩ := body_sound hc (body_dcall hc hD') hD' e r ac g hx .normal cs
  exact ⟨.returned v', w', Rt f .normal [] a' k', ⟨ι', v', rfl, k1, k2, k4⟩, k5, rfl, rfl, rfl, rfl, fn', hf', hr'⟩
end Go.Ev
