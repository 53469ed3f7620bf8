/- The evaluator, part N: what it evaluates, the machine does: a region, code. -/
import Derived.Test.YtgpgiejcnicigaaGreatDoorEvM
set_option linter.unusedSimpArgs false
set_option linter.unusedVariables false
namespace Go.Ev

/-- The loop whose round it is. -/
inductive RoR (ι : Map) : Option Nat → Option Nat → Prop where
  | none : RoR ι none none
  | some {n : Nat} {x : Blk} : ι n = some x → RoR ι (some n) (some x.b)
theorem RoR.ext {ι ι' : Map} (e : Ext ι ι') {a b : Option Nat} : RoR ι a b → RoR ι' a b
  | .none => .none
  | .some h => .some (e _ _ h)

theorem fr_eval {fn : FuncId} {ki : CallKind} {ro : Option Nat} {df : List Deferred} {a : Array Value} {k : List Item} : (Fr fn ki ro df a k).tmps = a := rfl

section
variable {E : Env} {ki : CallKind} {ro : Option Nat}

theorem one_sound (hc : CallOK E.P E.G E.call) {ops : Array Oper} {i : Nat} {o : Oper} {s s' : AS} (hi : ops[i]? = some o) (e : oneOp E s o = some s') {ι : Map} {w : World} {a : Array Value} {df : List Deferred} (hr : RoR ι E.ro ro) (r : SR E ι s a df w)
    (hw : Region.wanted o (yielded ops a) = true) (k : List Item) (cs : List Frame) (rest : List Nat) :
    ∃ ι' w' a' df', SR E ι' s' a' df' w' ∧ Tr ι s.h s.c w ι' s'.h s'.c w' ∧
      Steps E.P (lone (Fr E.fn ki ro df a (.inRegion ops (i :: rest) :: k)) cs w) (lone (Fr E.fn ki ro df' a' (.inRegion ops rest :: k)) cs w') := by
  have hE : ∀ x, VR ι (ev E s.t x) ((Fr E.fn ki ro df a (.inRegion ops (i :: rest) :: k)).eval x) := ev_sound (F := Fr E.fn ki ro df a (.inRegion ops (i :: rest) :: k)) r.t r.g
  unfold oneOp at e
  simp only [withP_eq, withS_eq] at e
  split at e
  · -- a call
    rename_i f xs ts hop
    split at e
    · cases e
    · rename_i tg htg
      split at e
      · cases e
      · rename_i v h1 c1 hcall
        obtain ⟨d, hd, htr⟩ := tg_sound (hE f) (VRL.map hE xs) htg
        obtain ⟨nx, hnx, hgo⟩ := hc tg s.h s.c v h1 c1 hcall ι w d r.h r.c r.g htr
        have hrun : (execOp (Fr E.fn ki ro df a (.inRegion ops (i :: rest) :: k)).eval o).run E.P w = .ok nx w := by
          unfold execOp
          simp only [hop, Sem.run_bind, resolve]
          have : (⟨xs⟩ : Array Operand).map (Fr E.fn ki ro df a (.inRegion ops (i :: rest) :: k)).eval = ⟨xs.map (Fr E.fn ki ro df a (.inRegion ops (i :: rest) :: k)).eval⟩ := by simp
          rw [this, hd]
          exact hnx
        obtain ⟨s2, e2, eh, ec, ed, eput⟩ := putT_sound e
        cases e2
        cases nx with
        | enter g args =>
          obtain ⟨ι', w', v', k1, k2, k3, k4, k5⟩ := hgo (Fr E.fn ki ro df a (.inRegion ops (i :: rest) :: k)) cs
          refine ⟨ι', w', putV a o.dst v', df, ⟨eput _ _ _ (r.t.ext k4.ext) k1, by rw [eh]; exact k2, by rw [ec]; exact k3, r.g.ext k4.ext, by rw [ed]; exact r.d.ext k4.ext⟩, by rw [eh, ec]; exact k4, ?_⟩
          have hs := st_enter (P := E.P) (fn := E.fn) (ki := ki) (ro := ro) (df := df) (k := k) (cs := cs) (rest := rest) hi hw (by intro c; rw [hop]; simp) hrun
          refine .head hs (k5.trans ?_)
          rw [fr_finish, hi]
          exact .refl _ _
        | round l f as b1 b2 =>
          obtain ⟨ι', w', v', k1, k2, k3, k4, k5⟩ := hgo (Fr E.fn ki ro df a (.inRegion ops (i :: rest) :: k)) cs
          refine ⟨ι', w', putV a o.dst v', df, ⟨eput _ _ _ (r.t.ext k4.ext) k1, by rw [eh]; exact k2, by rw [ec]; exact k3, r.g.ext k4.ext, by rw [ed]; exact r.d.ext k4.ext⟩, by rw [eh, ec]; exact k4, ?_⟩
          have hs := st_round (P := E.P) (fn := E.fn) (ki := ki) (ro := ro) (df := df) (k := k) (cs := cs) (rest := rest) hi hw (by intro c; rw [hop]; simp) hrun
          refine .head hs (k5.trans ?_)
          rw [fr_finish, hi]
          exact .refl _ _
        | _ => exact hgo.elim
  · -- a deferred call
    rename_i f xs ts hop
    split at e
    · rename_i g args hro htg
      obtain ⟨d, hd, htr⟩ := tg_sound (hE f) (VRL.map hE xs) htg
      rw [hro] at hr
      cases hr
      obtain ⟨s2, e2, eh, ec, ed, eput⟩ := putT_sound e
      cases e2
      have hrun : (execOp (Fr E.fn ki none df a (.inRegion ops (i :: rest) :: k)).eval o).run E.P w = .ok (.defer d) w := by
        unfold execOp
        simp only [hop, Sem.run_bind, resolve]
        have : (⟨xs⟩ : Array Operand).map (Fr E.fn ki none df a (.inRegion ops (i :: rest) :: k)).eval = ⟨xs.map (Fr E.fn ki none df a (.inRegion ops (i :: rest) :: k)).eval⟩ := by simp
        rw [this, hd]
        rfl
      refine ⟨ι, w, putV a o.dst undef, d :: df, ⟨eput _ _ _ r.t .undef, by rw [eh]; exact r.h, by rw [ec]; exact r.c, r.g, by rw [ed]; exact .fn htr r.d⟩, by rw [eh, ec]; exact .refl _ _ _ _, ?_⟩
      exact .one (st_defer (P := E.P) (fn := E.fn) (ki := ki) (df := df) (k := k) (cs := cs) (rest := rest) hi hw hrun)
    · cases e
  · rename_i hn1 hn2
    split at e
    · cases e
    · rename_i v h1 c1 hop
      obtain ⟨ι', w', v', hrun, k1, k2, k3, k4⟩ := opA_sound (P := E.P) (o := o) r.h r.c hE hop
      obtain ⟨s2, e2, eh, ec, ed, eput⟩ := putT_sound e
      cases e2
      refine ⟨ι', w', putV a o.dst v', df, ⟨eput _ _ _ (r.t.ext k4.ext) k1, by rw [eh]; exact k2, by rw [ec]; exact k3, r.g.ext k4.ext, by rw [ed]; exact r.d.ext k4.ext⟩, by rw [eh, ec]; exact k4, ?_⟩
      refine .one (st_op (P := E.P) (fn := E.fn) (ki := ki) (ro := ro) (df := df) (k := k) (cs := cs) (rest := rest) hi hw ?_ ?_)
      · intro c hdc
        rw [hdc] at hop
        simp [opA, pureOp, readOp, newOp, chainOp] at hop
      · rcases hrun with hrun | ⟨h1, h2, h3⟩
        · exact .inl hrun
        · exact .inr ⟨h1, h3⟩

theorem reg_sound (hc : CallOK E.P E.G E.call) {ops : Array Oper} : ∀ (suf pre : List Oper) {s s' : AS}, ops.toList = pre ++ suf → regA E ops suf s = some s' →
    ∀ {ι : Map} {w : World} {a : Array Value} {df : List Deferred}, RoR ι E.ro ro → SR E ι s a df w → ∀ (k : List Item) (cs : List Frame),
    ∃ ι' w' a' df', SR E ι' s' a' df' w' ∧ Tr ι s.h s.c w ι' s'.h s'.c w' ∧
      Steps E.P (lone (Fr E.fn ki ro df a (.inRegion ops (List.range' pre.length suf.length) :: k)) cs w) (lone (Fr E.fn ki ro df' a' k) cs w')
  | [], pre, s, s', _, e, ι, w, a, df, _, r, k, cs => by
    simp only [regA, Option.some.injEq] at e
    subst e
    exact ⟨ι, w, a, df, r, .refl _ _ _ _, .one st_done⟩
  | o :: suf, pre, s, s', hops, e, ι, w, a, df, hr, r, k, cs => by
    have hi : ops[pre.length]? = some o := by
      rw [← Array.getElem?_toList, hops]; simp
    have hr' : List.range' pre.length (o :: suf).length = pre.length :: List.range' (pre ++ [o]).length suf.length := by
      simp [List.range'_succ]
    rw [hr']
    simp only [regA] at e
    split at e
    · cases e
    · rename_i hw
      have hwt := want_sound r.t hw
      split at e
      · cases e
      · rename_i s1 h1
        rw [oneF_eq] at h1
        obtain ⟨ι1, w1, a1, df1, k1, k2, k3⟩ := one_sound (ki := ki) hc hi h1 hr r hwt k cs (List.range' (pre ++ [o]).length suf.length)
        obtain ⟨ι2, w2, a2, df2, g1, g2, g3⟩ := reg_sound hc suf (pre ++ [o]) (by rw [hops]; simp) e (hr.ext k2.ext) k1 k cs
        exact ⟨ι2, w2, a2, df2, g1, k2.trans g2, k3.trans g3⟩
    · rename_i hw
      have hwt := want_sound r.t hw
      split at e
      · cases e
      · rename_i s1 h1
        obtain ⟨s2, e2, eh, ec, ed, eput⟩ := putT_sound h1
        cases e2
        have r1 : SR E ι s1 (putV a o.dst undef) df w := ⟨eput _ _ _ r.t .undef, by rw [eh]; exact r.h, by rw [ec]; exact r.c, r.g, by rw [ed]; exact r.d⟩
        obtain ⟨ι2, w2, a2, df2, g1, g2, g3⟩ := reg_sound hc suf (pre ++ [o]) (by rw [hops]; simp) e hr r1 k cs
        rw [eh, ec] at g2
        refine ⟨ι2, w2, a2, df2, g1, g2, .head ?_ g3⟩
        have := st_over (P := E.P) (fn := E.fn) (ki := ki) (ro := ro) (df := df) (a := a) (k := k) (cs := cs) (w := w) (ops := ops) (i := pre.length) (rest := List.range' (pre ++ [o]).length suf.length) (by simp [hi, hwt])
        rw [hi] at this
        exact this
end
end Go.Ev
