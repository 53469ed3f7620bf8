/- The evaluator, part Q: a function's body, a round, a call. -/
import Derived.Test.YtgpgiejcnicigaaGreatDoorEvP
set_option linter.unusedSimpArgs false
set_option linter.unusedVariables false
namespace Go.Ev

theorem ofList_get {l : List Value} : ∀ {i : Nat} {t : T Value}, i + l.length < 8190 → ∀ j, (ofList i l t).get j = if i ≤ j ∧ j < i + l.length then l[j - i]? else t.get j := by
  induction l with
  | nil => intro i t _ j; simp [ofList]; omega
  | cons v r ih =>
    intro i t h j
    simp only [List.length_cons] at h
    unfold ofList
    rw [T.setK_eq, ih (by omega), T.get_set _ _ _ _ _ (by show i + 1 < 2 ^ 13; omega)]
    by_cases h1 : j = i
    · subst h1
      rw [if_neg (by omega), if_pos rfl, if_pos (by simp), Nat.sub_self]; rfl
    · by_cases h2 : i + 1 ≤ j ∧ j < i + 1 + r.length
      · rw [if_pos h2, if_pos (by simp; omega)]
        rw [show j - i = (j - (i + 1)) + 1 by omega, List.getElem?_cons_succ]
      · rw [if_neg h2, if_neg h1, if_neg (by simp; omega)]
theorem TR.start {ι : Map} {xs xs' : List Value} (hx : VRL ι xs xs') (n : Nat) (hl : xs.length < 4096) : TR ι (max n xs.length) (ofList 0 xs .e) (⟨xs'⟩ ++ Array.replicate (n - (⟨xs'⟩ : Array Value).size) undef) := by
  have hlen := hx.length
  refine ⟨by simp [hlen]; omega, fun i => ?_⟩
  rw [ofList_get (by omega)]
  by_cases hi : i < xs.length
  · rw [if_pos (by omega), Nat.sub_zero, Array.getD_eq_getD_getElem?, Array.getElem?_append_left (by simp [hlen, hi])]
    obtain ⟨v', h1, h2⟩ := hx.get (List.getElem?_eq_getElem hi)
    rw [List.getElem?_eq_getElem hi]
    simpa [h1] using h2
  · rw [if_neg (by omega)]
    have : ((⟨xs'⟩ : Array Value) ++ Array.replicate (n - (⟨xs'⟩ : Array Value).size) undef).getD i undef = undef := by
      rw [Array.getD_eq_getD_getElem?, Array.getElem?_append_right (by simp [hlen]; omega)]
      rw [Array.getElem?_replicate]
      split <;> rfl
    rw [this, T.get_e]
    exact .undef

/-- A frame that returns. -/
noncomputable def Rt (fn : FuncId) (ki : CallKind) (df : List Deferred) (a : Array Value) (todo : List Item) : Frame := { fn, tmps := a, todo, defers := df, mode := .returning, kind := ki, roundOf := none }
section
variable {P : Program} {fn : FuncId} {ki : CallKind} {df : List Deferred} {a : Array Value} {k : List Item} {cs : List Frame} {w : World}
theorem st_end : step P (lone (Fr fn ki none df a []) cs w) = .next (lone (Rt fn ki df a []) cs w) := step_lone_go (by simp [stepG, stepG.exec, Fr, Rt])
theorem st_ret : step P (lone (Fr fn ki none df a (.code .ret :: k)) cs w) = .next (lone (Rt fn ki df a (.code .ret :: k)) cs w) := step_lone_go (by simp [stepG, stepG.exec, Fr, Rt])
theorem st_collected {b : Nat} {w' : World} (h : (Instr.takeDeferred b).run P w = .ok [] w') : step P (lone (Rt fn ki (⟨.collected b, #[]⟩ :: df) a k) cs w) = .next (lone (Rt fn ki df a k) cs w') :=
  step_lone_go (by simp [stepG, unwind, Rt, h])
theorem st_deferred {d : Deferred} {g : FuncId} {args : Array Value} {w' : World} (hd : ∀ b, d.target ≠ .collected b) (hn : d.target ≠ .nil) (h : (invoke d.target d.args).run P w = .ok (.enter g args) w') :
    step P (lone (Rt fn ki (d :: df) a k) cs w) = .next (lone (Frame.enter P g args .deferred) (Rt fn ki df a k :: cs) w') := by
  refine step_lone_go ?_
  obtain ⟨t, as⟩ := d
  cases t with
  | collected b => exact absurd rfl (hd b)
  | nil => exact absurd rfl hn
  | _ =>
    simp only at h
    simp [stepG, unwind, callDeferred, Rt, h]
theorem st_back {F : Frame} {f : Func} {v : Value} (hf : P.funcs[fn]? = some f) (hr : (results f a).run P w = .ok v w) (hF : F.mode = .returning) : step P (lone (Rt fn .deferred [] a k) (F :: cs) w) = .next (lone F cs w) := by
  refine step_lone_go ?_
  simp [stepG, unwind, Rt, hf, hr, doReturn, hF]
end

noncomputable def DCallOK (P : Program) (G : Gp) (dcall : DCallT) : Prop :=
  ∀ f xs h c v h' c', dcall f xs h c = some (v, h', c') → ∀ ι w d, Rl ι h w → Above ι c → GL G ι → TgR ι (.fn f xs) d →
    ∃ g args, (invoke d.target d.args).run P w = .ok (.enter g args) w ∧
      ∀ F cs, F.mode = .returning → ∃ ι' w', Rl ι' h' w' ∧ Above ι' c' ∧ Tr ι h c w ι' h' c' w' ∧ Steps P (lone (Frame.enter P g args .deferred) (F :: cs) w) (lone F cs w')

theorem end_sound {P : Program} {G : Gp} {dcall : DCallT} (hd : DCallOK P G dcall) {fn : FuncId} {ki : CallKind} {a : Array Value} {k : List Item} {cs : List Frame} : ∀ {dfs : List Df} {h h' : Heap} {c c' : Nat}, endA dcall dfs h c = some (h', c') →
    ∀ {ι : Map} {w : World} {df : List Deferred}, Rl ι h w → Above ι c → GL G ι → DR ι dfs df →
    ∃ ι' w', Rl ι' h' w' ∧ Above ι' c' ∧ Tr ι h c w ι' h' c' w' ∧ Steps P (lone (Rt fn ki df a k) cs w) (lone (Rt fn ki [] a k) cs w')
  | [], h, h', c, c', e, ι, w, df, r, ac, g, d => by
    simp only [endA, Option.some.injEq, Prod.mk.injEq] at e
    obtain ⟨rfl, rfl⟩ := e
    cases d
    exact ⟨ι, w, r, ac, .refl _ _ _ _, .refl _ _⟩
  | .col n :: rest, h, h', c, c', e, ι, w, df, r, ac, g, d => by
    cases d with
    | col hx hr =>
    rename_i x r'
    simp only [endA] at e
    split at e
    · rename_i hn
      split at e
      · rename_i u h1 c1 hp
        obtain ⟨hf, er⟩ := putR_eq hp
        cases er
        obtain ⟨y, o', hy, hw, ho⟩ := r.obj n _ hn
        rw [hx] at hy; cases hy
        cases ho with
        | deferred =>
        have hst := run_setMap (P := P) (o' := .deferred none) hw (fun _ _ _ => by simp)
        have hg : (getObj x.b).run P w = .ok (.deferred (some [])) w := by simp [getObj, Sem.run, hw]
        have htk : (Instr.takeDeferred x.b).run P w = .ok [] (w.putObj x.b (.deferred none)) := by
          simp only [Instr.takeDeferred, Sem.run_bind, hg, Result.andThen_ok, hst, Sem.run_pure]
        have t1 : Tr ι h c w ι (h.put n (.deferred none)) c (w.putObj x.b (.deferred none)) := .put hf hn hx
        obtain ⟨ι', w', k1, k2, k3, k4⟩ := end_sound hd e (r.put hf hn hx .taken) ac g hr
        exact ⟨ι', w', k1, k2, t1.trans k3, .head (st_collected htk) k4⟩
      · cases e
    · cases e
  | .fn f xs :: rest, h, h', c, c', e, ι, w, df, r, ac, g, d => by
    cases d with
    | fn ht hr =>
    rename_i d r'
    simp only [endA] at e
    split at e
    · rename_i u h1 c1 hcall
      obtain ⟨gg, args, h2, hgo⟩ := hd f xs h c u h1 c1 hcall ι w d r ac g ht
      obtain ⟨ι1, w1, k1, k2, k3, k4⟩ := hgo (Rt fn ki r' a k) cs rfl
      obtain ⟨ι', w', g1, g2, g3, g4⟩ := end_sound hd e k1 k2 (g.ext k3.ext) (hr.ext k3.ext)
      refine ⟨ι', w', g1, g2, k3.trans g3, .head (st_deferred ?_ ?_ h2) (k4.trans g4)⟩
      · cases ht; intro b; simp
      · cases ht; simp
    · cases e

theorem res_sound {E : Env} {ι : Map} {s : AS} {a : Array Value} {w : World} (ht : TR ι E.nt s.t a) (r : Rl ι s.h w) {φ : ResultVar → Sem Value} (h1 : ∀ t, φ (.tmp t) = pure (a.getD t undef))
    (h2 : ∀ x t, φ (.cell x t) = do loadVar t (← asAddr (a.getD x undef))) : ∀ {rs : List ResultVar} {vs : List Value}, resA E s rs = some vs → ∃ vs', VRL ι vs vs' ∧ (rs.mapM φ).run E.P w = .ok vs' w
  | [], vs, e => by simp [resA] at e; subst e; exact ⟨[], .nil, rfl⟩
  | .tmp t :: rs, vs, e => by
    simp only [resA] at e
    split at e
    · rename_i l hl
      cases e
      obtain ⟨vs', k1, k2⟩ := res_sound ht r h1 h2 hl
      refine ⟨a.getD t undef :: vs', .cons (ht.2 t) k1, ?_⟩
      rw [List.mapM_cons]
      simp only [Sem.run_bind, Sem.run_pure, Result.andThen_ok, h1, k2]
    · cases e
  | .cell x t :: rs, vs, e => by
    simp only [resA] at e
    split at e
    · rename_i n off hp
      split at e
      · rename_i cs et fz hn
        split at e
        · rename_i v l hv hl
          cases e
          obtain ⟨vs', k1, k2⟩ := res_sound ht r h1 h2 hl
          have hx := ht.2 x
          rw [hp] at hx
          obtain ⟨y, hy, ev⟩ := hx.ptr_inv
          obtain ⟨v', q1, q2⟩ := load_sound (P := E.P) r hn hy hv
          have ha : (asAddr (a.getD x undef)).run E.P w = .ok ⟨y.b, off + y.δ, none⟩ w := by rw [ev]; rfl
          refine ⟨v' :: vs', .cons q1 k1, ?_⟩
          rw [List.mapM_cons]
          simp only [Sem.run_bind, Sem.run_pure, Result.andThen_ok, h2, ha, q2, k2]
        · cases e
      · cases e
    · cases e
theorem results_sound {E : Env} {ι : Map} {s : AS} {a : Array Value} {w : World} (ht : TR ι E.nt s.t a) (r : Rl ι s.h w) {fn : Func} {vs : List Value} (e : resA E s fn.results.toList = some vs) :
    ∃ v', VR ι (match vs with | [v] => v | vs => .tuple ⟨vs⟩) v' ∧ (results fn a).run E.P w = .ok v' w := by
  have hm : ∀ φ : ResultVar → Sem Value, (∀ t, φ (.tmp t) = pure (a.getD t undef)) → (∀ x t, φ (.cell x t) = do loadVar t (← asAddr (a.getD x undef))) → ∃ vs', VRL ι vs vs' ∧ (fn.results.mapM φ).run E.P w = .ok ⟨vs'⟩ w := by
    intro φ h1 h2
    obtain ⟨vs', k1, k2⟩ := res_sound ht r h1 h2 e
    refine ⟨vs', k1, ?_⟩
    have : fn.results = fn.results.toList.toArray := by simp
    rw [this, List.mapM_toArray, Sem.run_map, k2]; rfl
  have fin : ∀ m : Sem (Array Value), (∃ vs', VRL ι vs vs' ∧ m.run E.P w = .ok ⟨vs'⟩ w) → ∃ v', VR ι (match vs with | [v] => v | vs => .tuple ⟨vs⟩) v' ∧ (do let vs ← m; pure (if h : vs.size = 1 then vs[0] else .tuple vs) : Sem Value).run E.P w = .ok v' w := by
    rintro m ⟨vs', h1, h2⟩
    rw [Sem.run_bind, h2]
    cases h1 with
    | nil => exact ⟨_, .tuple .nil, rfl⟩
    | cons hv hr =>
      cases hr with
      | nil => exact ⟨_, hv, rfl⟩
      | cons hv2 hr2 => exact ⟨_, .tuple (.cons hv (.cons hv2 hr2)), by simp⟩
  unfold results
  refine fin _ (hm _ ?_ ?_)
  · intro t; rfl
  · intro x t; rfl
end Go.Ev
