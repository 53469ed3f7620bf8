/- The evaluator, part R: a function's body, a round, a call. -/
import Derived.Test.YtgpgiejcnicigaaGreatDoorEvQ
set_option linter.unusedSimpArgs false
set_option linter.unusedVariables false
namespace Go.Ev

theorem fnA_spec {P : Program} {f : FuncId} {fn : Func} {body : Code} (h : fnA P f = some (fn, body)) :
    P.funcs[f]? = some fn ∧ fn.body = some body ∧ ∀ args w, (callFunc f args).run P w = .ok (.enter f args) w := by
  unfold fnA at h
  split at h
  · rename_i fn' hf
    replace hf := ftab_get hf
    split at h
    · cases h
    · rename_i hn
      split at h
      · rename_i b hb
        cases h
        refine ⟨hf, hb, fun args w => ?_⟩
        have hn' : ¬ fn.name = "runtime.NumGoroutine" := by simpa using hn
        simp [callFunc, Sem.run_bind, hf, hn', hb]
      · cases h
  · cases h

/-- Where a function's body comes to. -/
theorem body_sound {P : Program} {G : Gp} {fuel : Nat} {call : CallT} {dcall : DCallT} (hc : CallOK P G call) (hd : DCallOK P G dcall) (hD : ∀ E : Env, E.P = P → E.G = G → E.call = call → DrawOK E)
    {f : FuncId} {xs : List Value} {h h' : Heap} {c c' : Nat} {v : Value} (e : bodyA P G fuel call dcall f xs h c = some (v, h', c'))
    {ι : Map} {w : World} (r : Rl ι h w) (ac : Above ι c) (g : GL G ι) {xs' : List Value} (hx : VRL ι xs xs') (ki : CallKind) (cs : List Frame) :
    ∃ ι' w' v' a' k', VR ι' v v' ∧ Rl ι' h' w' ∧ Above ι' c' ∧ Tr ι h c w ι' h' c' w' ∧ Steps P (lone (Frame.enter P f ⟨xs'⟩ ki) cs w) (lone (Rt f ki [] a' k') cs w') ∧
      ∃ fn, P.funcs[f]? = some fn ∧ (results fn a').run P w' = .ok v' w' := by
  unfold bodyA at e
  split at e
  · cases e
  rename_i hl
  split at e
  · cases e
  rename_i fn body hfn
  obtain ⟨hf, hb, _⟩ := fnA_spec hfn
  simp only at e
  let E : Env := ⟨P, G, max fn.ntmps xs.length, none, f, call⟩
  have hcode : ∀ {s : AS} {ex : Ex}, codeA E fuel body ⟨ofList 0 xs .e, h, c, []⟩ = some (ex, s) → ∀ cs, ∃ ι' w' a' df', SR E ι' s a' df' w' ∧ Tr ι h c w ι' s.h s.c w' ∧
      Arr P (lone (Frame.enter P f ⟨xs'⟩ ki) cs w) f ki none df' a' [] cs w' ex := by
    intro s ex hco cs
    have r0 : SR E ι ⟨ofList 0 xs .e, h, c, []⟩ (⟨xs'⟩ ++ Array.replicate (fn.ntmps - (⟨xs'⟩ : Array Value).size) undef) [] w := ⟨TR.start hx fn.ntmps (by omega), r, ac, g, .nil⟩
    obtain ⟨ι', w', a', df', k1, k2, k3⟩ := code_sound (E := E) (ki := ki) (ro := none) hc (hD E rfl rfl rfl) fuel body hco .none r0 [] cs
    have he : Frame.enter P f ⟨xs'⟩ ki = Fr f ki none [] (⟨xs'⟩ ++ Array.replicate (fn.ntmps - (⟨xs'⟩ : Array Value).size) undef) [.code body] := by
      simp [Frame.enter, Fr, hf, hb]
    rw [he]
    exact ⟨ι', w', a', df', k1, k2, k3⟩
  split at e
  · cases e
  · cases e
  · rename_i ex s hex hco
    obtain ⟨ι1, w1, a1, df1, k1, k2, k3⟩ := hcode hco cs
    have hrt : ∃ k', Steps P (lone (Frame.enter P f ⟨xs'⟩ ki) cs w) (lone (Rt f ki df1 a1 k') cs w1) := by
      cases ex with
      | nrm => exact ⟨[], Steps.trans k3 (.one st_end)⟩
      | exit id => exact absurd rfl (hex _)
      | ret => obtain ⟨k2, q⟩ := k3; exact ⟨_, q.trans (.one st_ret)⟩
    obtain ⟨k', hk'⟩ := hrt
    split at e
    · cases e
    · rename_i h2 c2 hend
      obtain ⟨ι2, w2, g1, g2, g3, g4⟩ := end_sound hd (fn := f) (ki := ki) (a := a1) (k := k') (cs := cs) hend k1.h k1.c k1.g k1.d
      have ht2 : TR ι2 E.nt s.t a1 := k1.t.ext g3.ext
      have goal : ∀ {vs : List Value}, resA E { s with h := h2, c := c2 } fn.results.toList = some vs → v = (match vs with | [v] => v | vs => .tuple ⟨vs⟩) → h' = h2 → c' = c2 →
          ∃ ι' w' v' a' k', VR ι' v v' ∧ Rl ι' h' w' ∧ Above ι' c' ∧ Tr ι h c w ι' h' c' w' ∧ Steps P (lone (Frame.enter P f ⟨xs'⟩ ki) cs w) (lone (Rt f ki [] a' k') cs w') ∧
            ∃ fn, P.funcs[f]? = some fn ∧ (results fn a').run P w' = .ok v' w' := by
        intro vs hvs hv hh hcc
        obtain ⟨v', q1, q2⟩ := results_sound (E := E) (s := { s with h := h2, c := c2 }) ht2 g1 hvs
        subst hv hh hcc
        exact ⟨ι2, w2, v', a1, k', q1, g1, g2, k2.trans g3, hk'.trans g4, fn, hf, q2⟩
      split at e
      · rename_i v0 hres
        cases e
        exact goal hres rfl rfl rfl
      · rename_i vs hne hres
        cases e
        refine goal hres ?_ rfl rfl
        cases vs with
        | nil => rfl
        | cons a r => cases r with
          | nil => exact absurd rfl (hne a)
          | cons b r => rfl
      · cases e

theorem tg_fn_run {P : Program} {ι : Map} {f : FuncId} {xs : List Value} {d : Deferred} (h : TgR ι (.fn f xs) d) {fn : Func} {body : Code} (hf : fnA P f = some (fn, body)) :
    ∃ xs', VRL ι xs xs' ∧ ∀ w, (invoke d.target d.args).run P w = .ok (.enter f ⟨xs'⟩) w := by
  cases h with
  | fn hx =>
    rename_i args' cap'
    refine ⟨args' ++ cap', hx, fun w => ?_⟩
    have := (fnA_spec hf).2.2 (⟨args'⟩ ++ ⟨cap'⟩) w
    simp only [invoke]
    rw [this]
    simp

theorem body_fn {P : Program} {G : Gp} {fuel : Nat} {call : CallT} {dcall : DCallT} {f : FuncId} {xs : List Value} {h : Heap} {c : Nat} {x : Value × Heap × Nat} (e : bodyA P G fuel call dcall f xs h c = some x) : ∃ fn body, fnA P f = some (fn, body) := by
  unfold bodyA at e
  split at e
  · cases e
  · split at e
    · cases e
    · rename_i fn body hfn; exact ⟨fn, body, hfn⟩

theorem dcall_none (P : Program) (G : Gp) : DCallOK P G (fun _ _ _ _ => none) := fun _ _ _ _ _ _ _ e => by cases e
theorem body_dcall {P : Program} {G : Gp} {fuel : Nat} {call : CallT} (hc : CallOK P G call) (hD : ∀ E : Env, E.P = P → E.G = G → E.call = call → DrawOK E) : DCallOK P G (bodyA P G fuel call (fun _ _ _ _ => none)) := by
  intro f xs h c v h' c' e ι w d r ac g ht
  obtain ⟨fn, body, hfn⟩ := body_fn e
  obtain ⟨xs', hx, hrun⟩ := tg_fn_run ht hfn
  refine ⟨f, ⟨xs'⟩, hrun w, fun F cs hF => ?_⟩
  obtain ⟨ι', w', v', a', k', k1, k2, k3, k4, k5, fn', hf', hr'⟩ := body_sound hc (dcall_none P G) hD e r ac g hx .deferred (F :: cs)
  exact ⟨ι', w', k2, k3, k4, k5.trans (.one (st_back hf' hr' hF))⟩

theorem st_returned {P : Program} {fn : FuncId} {a : Array Value} {k : List Item} {F : Frame} {cs : List Frame} {w : World} {f : Func} {v : Value} (hf : P.funcs[fn]? = some f) (hr : (results f a).run P w = .ok v w) :
    step P (lone (Rt fn .normal [] a k) (F :: cs) w) = .next (lone (F.finish v) cs w) :=
  step_leave_returned (fr := Rt fn .normal [] a k) ⟨rfl, rfl, rfl, f, hf, hr⟩

section
variable {P : Program} {fn : FuncId} {a : Array Value} {k : List Item} {cs : List Frame} {w : World} {F : Frame} {df : List Deferred}
theorem st_begin {l : Nat} {w' : World} (h : (Instr.beginRound l).run P w = .ok () w') : step P (lone (Fr fn .normal (some l) df a (.beginRound :: k)) cs w) = .next (lone (Fr fn .normal (some l) df a k) cs w') := by
  refine step_lone_go ?_
  simp [stepG, stepG.exec, stepG.apply, Fr, h, Frame.finish]
theorem st_roundEnd {l : Nat} {v : Value} {w' : World} (h : (Instr.endRound l none).run P w = .ok v w') : step P (lone (Fr fn .normal (some l) df a []) (F :: cs) w) = .next (lone (F.finish v) cs w') := by
  refine step_lone_go ?_
  simp [stepG, stepG.exec, Fr, h, doReturn]
theorem st_roundRet {l : Nat} {v : Value} {w' : World} (h : (Instr.endRound l (some .ret)).run P w = .ok v w') : step P (lone (Fr fn .normal (some l) df a (.code .ret :: k)) (F :: cs) w) = .next (lone (F.finish v) cs w') := by
  refine step_lone_go ?_
  simp [stepG, stepG.exec, Fr, h, doReturn]
theorem st_roundExit {l id : Nat} {v : Value} {w' : World} (hk : exitTo id k = none) (h : (Instr.endRound l (some (.exit id))).run P w = .ok v w') :
    step P (lone (Fr fn .normal (some l) df a (.code (.exit id) :: k)) (F :: cs) w) = .next (lone (F.finish v) cs w') := by
  refine step_lone_go ?_
  simp [stepG, stepG.exec, Fr, h, doReturn, hk]
end

theorem setAll_eq : ∀ (l : List (Nat × Value)) (t : T Value), setAll t l = l.foldl (fun t x => T.set D t x.1 (some x.2)) t
  | [], _ => rfl
  | (i, v) :: r, t => by
    unfold setAll
    rw [T.setK_eq, setAll_eq r]
    rfl
theorem TR.all {ι : Map} {nt : Nat} : ∀ {ps : List Nat} {xs xs' : List Value} (_ : VRL ι xs xs') {t : T Value} {a : Array Value}, (∀ p ∈ ps, p < nt ∧ p < 4096) → TR ι nt t a →
    TR ι nt (setAll t (ps.zip xs)) ((ps.zip xs').foldl (fun a x => a.setIfInBounds x.1 x.2) a)
  | [], _, _, _, t, a, _, h => by simpa [setAll] using h
  | p :: ps, _, _, .nil, t, a, _, h => by simpa [setAll] using h
  | p :: ps, _, _, .cons (v := v) (v' := v') hv hr, t, a, hp, h => by
    rw [List.zip_cons_cons, List.zip_cons_cons, List.foldl_cons]
    unfold setAll
    rw [T.setK_eq]
    obtain ⟨p1, p2⟩ := hp p (List.mem_cons_self ..)
    refine TR.all hr (fun q hq => hp q (List.mem_cons_of_mem _ hq)) ⟨by simp [h.1], fun i => ?_⟩
    rw [T.get_set _ _ _ _ _ (by show p + 1 < 2 ^ 13; omega)]
    by_cases hi : i = p
    · subst hi
      have : i < a.size := by rw [h.1]; exact p1
      simp [Array.getD_eq_getD_getElem?, this, hv]
    · have := h.2 i
      rw [if_neg hi]
      have hne : p ≠ i := fun e => hi e.symm
      simpa [Array.getD_eq_getD_getElem?, hne] using this
theorem TR.list {ι : Map} {xs xs' : List Value} (hx : VRL ι xs xs') (hl : xs.length < 4096) : TR ι xs.length (ofList 0 xs .e) ⟨xs'⟩ := by
  have := TR.start hx 0 hl
  simpa using this

theorem round_sound {P : Program} {G : Gp} {fuel : Nat} {call : CallT} (hc : CallOK P G call) (hD : ∀ E : Env, E.P = P → E.G = G → E.call = call → DrawOK E)
    {l : Nat} {xs : List Value} {h h' : Heap} {c c' : Nat} {v : Value} (e : roundA P G fuel call l xs h c = some (v, h', c'))
    {ι : Map} {w : World} (r : Rl ι h w) (ac : Above ι c) (g : GL G ι) {d : Deferred} (ht : TgR ι (.yield l xs) d) :
    ∃ b f tm as body, (invoke d.target d.args).run P w = .ok (.round b f tm as body) w ∧
      ∀ F cs, ∃ ι' w' v', VR ι' v v' ∧ Rl ι' h' w' ∧ Above ι' c' ∧ Tr ι h c w ι' h' c' w' ∧ Steps P (lone (Frame.round b f tm as body .normal) (F :: cs) w) (lone (F.finish v') cs w') := by
  cases ht with
  | yield hxl hxs =>
  rename_i x xs' cap
  unfold roundA at e
  split at e
  · rename_i rr hl
    obtain ⟨y, o', hy, hw, ho⟩ := r.obj l _ hl
    rw [hxl] at hy; cases hy
    cases ho with
    | loop hdz hlz =>
    rename_i st pe ff aa aa' ps as1 bd nn yy
    split at e
    · rename_i hcond
      obtain ⟨hlen, hsz, hps⟩ := hcond
      have hg : ∀ {w : World}, w.heap[x.b]? = some (.loop ⟨st, pe, ff, ⟨aa'⟩, ps, as1, bd, yy.b⟩) → (getObj x.b).run P w = .ok (.loop ⟨st, pe, ff, ⟨aa'⟩, ps, as1, bd, yy.b⟩) w := fun hw => by simp [getObj, Sem.run, hw]
      refine ⟨x.b, ff, (ps.zip ⟨xs'⟩).foldl (fun tmps (t, a) => tmps.setIfInBounds t a) ⟨aa'⟩, as1, bd, ?_, fun F cs => ?_⟩
      · have : ¬ (⟨xs'⟩ : Array Value).size ≠ ps.size := by
          have h1 : (⟨xs'⟩ : Array Value).size = xs'.length := rfl
          rw [h1, hxs.length]
          have hlen' : xs.length = ps.size := hlen
          omega
        simp only [invoke, Instr.yield, Instr.getLoop, Sem.run_bind, hg hw, Result.andThen_ok, Sem.run_pure]
        rw [if_neg this]
        rfl
      · simp only at e
        let E : Env := ⟨P, G, aa.length, some l, ff, call⟩
        have hfr : Frame.round x.b ff ((ps.zip ⟨xs'⟩).foldl (fun tmps (t, a) => tmps.setIfInBounds t a) ⟨aa'⟩) as1 bd .normal = Fr ff .normal (some x.b) [] ((ps.toList.zip xs').foldl (fun a x => a.setIfInBounds x.1 x.2) ⟨aa'⟩) [.code as1, .beginRound, .code bd] := by
          have : (ps.zip ⟨xs'⟩).foldl (fun (tmps : Array Value) (x : Tmp × Value) => tmps.setIfInBounds x.1 x.2) ⟨aa'⟩ = (ps.toList.zip xs').foldl (fun a x => a.setIfInBounds x.1 x.2) ⟨aa'⟩ := by
            rw [← Array.foldl_toList, Array.toList_zip]
          simp only [Frame.round, Fr]
          congr 1
        rw [hfr]
        have ht0 : TR ι E.nt (setAll (ofList 0 aa .e) (ps.toList.zip xs)) ((ps.toList.zip xs').foldl (fun a x => a.setIfInBounds x.1 x.2) ⟨aa'⟩) := by
          refine TR.all hxs (fun p hp => ?_) (TR.list hlz (by exact hsz))
          have := (List.all_eq_true.1 hps) p hp
          have h1 : p < aa.length := Nat.le_of_ble_eq_true this
          have h2 : aa.length < 4096 := hsz
          exact ⟨h1, by omega⟩
        have r0 : SR E ι ⟨setAll (ofList 0 aa .e) (ps.toList.zip xs), h, c, []⟩ ((ps.toList.zip xs').foldl (fun a x => a.setIfInBounds x.1 x.2) ⟨aa'⟩) [] w := ⟨ht0, r, ac, g, .nil⟩
        split at e
        · rename_i s hco
          obtain ⟨ι1, w1, a1, df1, k1, k2, k3⟩ := code_sound (E := E) (ki := .normal) (ro := some x.b) hc (hD E rfl rfl rfl) fuel _ hco (.some hxl) r0 [.beginRound, .code bd] (F :: cs)
          have k3' : Steps P (lone (Fr ff .normal (some x.b) [] ((ps.toList.zip xs').foldl (fun a x => a.setIfInBounds x.1 x.2) ⟨aa'⟩) [.code as1, .beginRound, .code bd]) (F :: cs) w) (lone (Fr ff .normal (some x.b) df1 a1 [.beginRound, .code bd]) (F :: cs) w1) := k3
          split at e
          · rename_i r1 hl1
            split at e
            · rename_i hst
              split at e
              · cases e
              · rename_i u h1 c1 hp
                obtain ⟨hf, er⟩ := putR_eq hp
                cases er
                obtain ⟨y1, o1, hy1, hw1, ho1⟩ := k1.h.obj l _ hl1
                have hx1 := k2.ext _ _ hxl
                rw [hx1] at hy1; cases hy1
                cases ho1 with
                | loop hdz1 hlz1 =>
                rename_i st1 pe1 ff1 bb bb' ps1 as2 bd1 nn1 yy1
                have hst1 : st1 = .ready := by simpa using hst
                subst hst1
                have hset := run_setMap (P := P) (o' := .loop ⟨.busy, pe1, ff1, ⟨bb'⟩, ps1, as2, bd1, yy1.b⟩) hw1 (fun _ _ _ => by simp)
                have hg1 : (getObj x.b).run P w1 = .ok (.loop ⟨.ready, pe1, ff1, ⟨bb'⟩, ps1, as2, bd1, yy1.b⟩) w1 := by simp [getObj, Sem.run, hw1]
                have hbegin : (Instr.beginRound x.b).run P w1 = .ok () (w1.putObj x.b (.loop ⟨.busy, pe1, ff1, ⟨bb'⟩, ps1, as2, bd1, yy1.b⟩)) := by
                  simp only [Instr.beginRound, Instr.getLoop, Sem.run_bind, hg1, Result.andThen_ok, Sem.run_pure, hset]
                have r2 := k1.h.put hf hl1 hx1 (o := .loop ⟨.busy, pe1, ff1, ⟨bb⟩, ps1, as2, bd1, nn1⟩) (OR.loop (x := x) (s := .busy) (p := pe1) (f := ff1) (ps := ps1) (as := as2) (body := bd1) hdz1 hlz1)
                have t2 : Tr ι1 s.h s.c w1 ι1 (s.h.put l (.loop ⟨.busy, pe1, ff1, ⟨bb⟩, ps1, as2, bd1, nn1⟩)) s.c (w1.putObj x.b (.loop ⟨.busy, pe1, ff1, ⟨bb'⟩, ps1, as2, bd1, yy1.b⟩)) := .put hf hl1 hx1
                split at e
                · cases e
                · rename_i ex s2 hco2
                  have rb : SR E ι1 { s with h := s.h.put l (.loop ⟨.busy, pe1, ff1, ⟨bb⟩, ps1, as2, bd1, nn1⟩), c := s.c } a1 df1 (w1.putObj x.b (.loop ⟨.busy, pe1, ff1, ⟨bb'⟩, ps1, as2, bd1, yy1.b⟩)) := ⟨k1.t, r2, k1.c, k1.g, k1.d⟩
                  obtain ⟨ι3, w3, a3, df3, g1, g2, g3⟩ := code_sound (E := E) (ki := .normal) (ro := some x.b) hc (hD E rfl rfl rfl) fuel _ hco2 (.some hx1) rb [] (F :: cs)
                  have hx3 := g2.ext _ _ hx1
                  have hto : ∀ {M : Machine}, Steps P (lone (Fr ff .normal (some x.b) df1 a1 [.code bd]) (F :: cs) (w1.putObj x.b (.loop ⟨.busy, pe1, ff1, ⟨bb'⟩, ps1, as2, bd1, yy1.b⟩))) M →
                      Steps P (lone (Fr ff .normal (some x.b) [] ((ps.toList.zip xs').foldl (fun a x => a.setIfInBounds x.1 x.2) ⟨aa'⟩) [.code as1, .beginRound, .code bd]) (F :: cs) w) M :=
                    fun h => k3'.trans (.head (st_begin hbegin) h)
                  split at e
                  · rename_i r3 hl3
                    obtain ⟨y3, o3, hy3, hw3, ho3⟩ := g1.h.obj l _ hl3
                    rw [hx3] at hy3; cases hy3
                    cases ho3 with
                    | loop hdz3 hlz3 =>
                    rename_i st3 pe3 ff3 dd dd' ps3 as3 bd3 nn3 yy3
                    have hg3 : (getObj x.b).run P w3 = .ok (.loop ⟨st3, pe3, ff3, ⟨dd'⟩, ps3, as3, bd3, yy3.b⟩) w3 := by simp [getObj, Sem.run, hw3]
                    have fin : ∀ (jump : Option Code) (stN : LoopState) (b : Bool), stN = (if jump.isNone then .ready else .done) → b = jump.isNone →
                        putR s2.h l (.loop ⟨stN, jump, ff3, ⟨dd⟩, ps3, as3, bd3, nn3⟩) (.bool b) s2.c = some (v, h', c') →
                        (∀ (v' : Value) (w' : World), (Instr.endRound x.b jump).run P w3 = .ok v' w' → Steps P (lone (Fr ff .normal (some x.b) df1 a1 [.code bd]) (F :: cs) (w1.putObj x.b (.loop ⟨.busy, pe1, ff1, ⟨bb'⟩, ps1, as2, bd1, yy1.b⟩))) (lone (F.finish v') cs w')) →
                        ∃ ι' w' v', VR ι' v v' ∧ Rl ι' h' w' ∧ Above ι' c' ∧ Tr ι h c w ι' h' c' w' ∧ Steps P (lone (Fr ff .normal (some x.b) [] ((ps.toList.zip xs').foldl (fun a x => a.setIfInBounds x.1 x.2) ⟨aa'⟩) [.code as1, .beginRound, .code bd]) (F :: cs) w) (lone (F.finish v') cs w') := by
                      intro jump stN b h1 h2 h3 h4
                      obtain ⟨hf3, er3⟩ := putR_eq h3
                      cases er3
                      have hset3 := run_setMap (P := P) (o' := .loop ⟨stN, jump, ff3, ⟨dd'⟩, ps3, as3, bd3, yy3.b⟩) hw3 (fun _ _ _ => by simp)
                      have hend : (Instr.endRound x.b jump).run P w3 = .ok (.bool b) (w3.putObj x.b (.loop ⟨stN, jump, ff3, ⟨dd'⟩, ps3, as3, bd3, yy3.b⟩)) := by
                        simp only [Instr.endRound, Instr.getLoop, Sem.run_bind, hg3, Result.andThen_ok, Sem.run_pure, ← h1, hset3, h2]
                      refine ⟨ι3, _, .bool b, .bool b, g1.h.put hf3 hl3 hx3 (.loop hdz3 hlz3), g1.c, ?_, hto (h4 _ _ hend)⟩
                      exact ((k2.trans t2).trans g2).trans (.put hf3 hl3 hx3)
                    split at e
                    · exact fin none .ready true rfl rfl e fun v' w' hend => Steps.trans g3 (.one (st_roundEnd hend))
                    · obtain ⟨kk, q⟩ := g3
                      exact fin (some .ret) .done false rfl rfl e fun v' w' hend => q.trans (.one (st_roundRet hend))
                    · obtain ⟨kk, q1, q2⟩ := g3
                      exact fin (some (.exit _)) .done false rfl rfl e fun v' w' hend => q1.trans (.one (st_roundExit (by rw [q2]; rfl) hend))
                  · cases e
            · cases e
          · cases e
        · cases e
    · cases e
  · cases e
end Go.Ev
