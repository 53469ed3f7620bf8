/- The evaluator, part P: code. -/
import Derived.Test.YtgpgiejcnicigaaGreatDoorEvO
set_option linter.unusedSimpArgs false
set_option linter.unusedVariables false
namespace Go.Ev
section
variable {E : Env} {ki : CallKind} {ro : Option Nat}

theorem loop_sound (hc : CallOK E.P E.G E.call) {ι : Map} {s s' : AS} {a : Array Value} {df : List Deferred} {w : World} {f : Operand} {params : Array Tmp} {assign body : Code} {ex : Ex} (hro : RoR ι E.ro ro) (r : SR E ι s a df w)
    (e : loopA E s f params assign body = some (ex, s')) (k : List Item) (cs : List Frame) :
    ∃ ι' w' a' df', SR E ι' s' a' df' w' ∧ Tr ι s.h s.c w ι' s'.h s'.c w' ∧ Arr E.P (lone (Fr E.fn ki ro df a (.code (.rangeFunc f params assign body) :: k)) cs w) E.fn ki ro df' a' k cs w' ex := by
  unfold loopA at e
  simp only at e
  split at e
  · rename_i hn
    rw [hn] at hro
    cases hro
    split at e
    · cases e
    · rename_i u hA cA hp
      obtain ⟨hf, er⟩ := putR_eq hp
      cases er
      have hn0 := r.c s.c (Nat.le_refl _)
      let x0 : Blk := ⟨w.heap.size, 0, 0⟩
      have r1 : Rl (upd ι s.c x0) (s.h.put s.c (.deferred (some []))) { w with heap := w.heap.push (.deferred (some [])) } := Rl.new r.h hf hn0 .deferred
      have t1 : Tr ι s.h s.c w (upd ι s.c x0) (s.h.put s.c (.deferred (some []))) (s.c + 1) { w with heap := w.heap.push (.deferred (some [])) } := Tr.new (o := .deferred (some [])) hf hn0
      refine loop_start (dfA := .col s.c :: s.df) (mark := [⟨.collected w.heap.size, #[]⟩]) (rA := s.c) (y := x0) hc r r1 (r.c.new _) t1 (upd_same _ _ _) ?_ ?_ e k cs
      · exact .col (x := x0) (upd_same _ _ _) (r.d.ext (upd_ext _ hn0))
      · simp [Instr.enterLoop, Sem.run_bind]; rfl
  · rename_i n hn
    rw [hn] at hro
    cases hro with
    | some hx =>
    rename_i x
    split at e
    · rename_i l hl
      obtain ⟨z, o', hz, hwz, hoz⟩ := r.h.obj n _ hl
      rw [hx] at hz; cases hz
      cases hoz with
      | loop hdz hlz =>
        rename_i st pe ff aa aa' ps as1 bd nn yy
        have hg : (getObj x.b).run E.P w = .ok (.loop ⟨st, pe, ff, ⟨aa'⟩, ps, as1, bd, yy.b⟩) w := by simp [getObj, Sem.run, hwz]
        refine loop_start (dfA := s.df) (mark := []) (rA := nn) (y := yy) hc r r.h r.c (.refl _ _ _ _) hdz r.d ?_ e k cs
        simp [Instr.enterLoop, Instr.getLoop, Sem.run_bind, hg]
    · cases e

theorem Steps.tail {P : Program} {m m1 M : Machine} (h : Steps P m M) (hs : step P m = .next m1) (hne : m ≠ M) : Steps P m1 M := by
  obtain ⟨n, hn⟩ := h
  cases n with
  | zero => simp [runN] at hn; exact absurd hn hne
  | succ n => simp only [runN, hs] at hn; exact ⟨n, hn⟩
theorem lone_todo {fr fr' : Frame} {cs cs' : List Frame} {w w' : World} (h : lone fr cs w = lone fr' cs' w') : fr.todo = fr'.todo := by
  have := congrArg (fun m : Machine => (m.gs.toList.map fun g => g.frame.todo)) h
  simpa [lone] using this

/-- A region that draws. -/
def DrawOK (E : Env) : Prop := ∀ (ki : CallKind) (ro : Option Nat) (id : Nat) (ops : Array Oper) (s s' : AS), drawA E ops s = some s' → ∀ {ι : Map} {w : World} {a : Array Value} {df : List Deferred}, RoR ι E.ro ro → SR E ι s a df w → ∀ (k : List Item) (cs : List Frame),
    ∃ ι' w' a' df', SR E ι' s' a' df' w' ∧ Tr ι s.h s.c w ι' s'.h s'.c w' ∧
      Steps E.P (lone (Fr E.fn ki ro df a (.code (.region id ops true) :: k)) cs w) (lone (Fr E.fn ki ro df' a' k) cs w')

theorem code_sound (hc : CallOK E.P E.G E.call) (hD : DrawOK E) : ∀ (n : Nat) (code : Code) {s s' : AS} {ex : Ex}, codeA E n code s = some (ex, s') → ∀ {ι : Map} {w : World} {a : Array Value} {df : List Deferred}, RoR ι E.ro ro → SR E ι s a df w → ∀ (k : List Item) (cs : List Frame),
    ∃ ι' w' a' df', SR E ι' s' a' df' w' ∧ Tr ι s.h s.c w ι' s'.h s'.c w' ∧ Arr E.P (lone (Fr E.fn ki ro df a (.code code :: k)) cs w) E.fn ki ro df' a' k cs w' ex := by
  intro n
  induction n with
  | zero => intro code s s' ex e; simp [codeA] at e
  | succ n ih =>
    intro code s s' ex e ι w a df hro r k cs
    unfold codeA at e
    split at e
    · cases e; exact ⟨ι, w, a, df, r, .refl _ _ _ _, .one st_skip⟩
    · cases e; exact ⟨ι, w, a, df, r, .refl _ _ _ _, .one st_label⟩
    · cases e; exact ⟨ι, w, a, df, r, .refl _ _ _ _, k, .refl _ _⟩
    · cases e; exact ⟨ι, w, a, df, r, .refl _ _ _ _, k, .refl _ _, rfl⟩
    · -- seq
      rename_i x y
      split at e
      · rename_i s1 h1
        obtain ⟨ι1, w1, a1, df1, k1, k2, k3⟩ := ih x h1 hro r (.code y :: k) cs
        obtain ⟨ι2, w2, a2, df2, g1, g2, g3⟩ := ih y e (hro.ext k2.ext) k1 k cs
        exact ⟨ι2, w2, a2, df2, g1, k2.trans g2, .of_steps (.head st_seq k3) g3⟩
      · rename_i hne
        obtain ⟨ι1, w1, a1, df1, k1, k2, k3⟩ := ih x e hro r (.code y :: k) cs
        refine ⟨ι1, w1, a1, df1, k1, k2, ?_⟩
        cases ex with
        | nrm => exact absurd e (hne _)
        | exit id => obtain ⟨k4, g1, g2⟩ := k3; exact ⟨k4, .head st_seq g1, by rw [g2]; rfl⟩
        | ret => obtain ⟨k4, g1⟩ := k3; exact ⟨k4, .head st_seq g1⟩
    · -- cond
      rename_i c x y
      have hev := ev_sound (E := E) (F := Fr E.fn ki ro df a (.code (.cond c x y) :: k)) r.t r.g c
      split at e
      · rename_i hb
        rw [hb] at hev
        obtain ⟨ι1, w1, a1, df1, k1, k2, k3⟩ := ih x e hro r k cs
        exact ⟨ι1, w1, a1, df1, k1, k2, .of_steps (.one (st_cond (t := true) hev.bool_inv)) k3⟩
      · rename_i hb
        rw [hb] at hev
        obtain ⟨ι1, w1, a1, df1, k1, k2, k3⟩ := ih y e hro r k cs
        exact ⟨ι1, w1, a1, df1, k1, k2, .of_steps (.one (st_cond (t := false) hev.bool_inv)) k3⟩
      · cases e
    · -- block
      rename_i id b
      split at e
      · rename_i i s1 h1
        obtain ⟨ι1, w1, a1, df1, k1, k2, k3⟩ := ih b h1 hro r (.inBlock id :: k) cs
        obtain ⟨k4, g1, g2⟩ := k3
        split at e
        · rename_i hi
          cases e
          subst hi
          refine ⟨ι1, w1, a1, df1, k1, k2, .head st_block (g1.trans (.one (st_exit ?_)))⟩
          rw [g2]; simp [exitTo]
        · rename_i hi
          cases e
          refine ⟨ι1, w1, a1, df1, k1, k2, k4, .head st_block g1, ?_⟩
          rw [g2]
          have : (id == i) = false := by simp; exact fun h => hi h.symm
          simp [exitTo, this]
      · rename_i hne
        obtain ⟨ι1, w1, a1, df1, k1, k2, k3⟩ := ih b e hro r (.inBlock id :: k) cs
        refine ⟨ι1, w1, a1, df1, k1, k2, ?_⟩
        cases ex with
        | nrm => exact .head st_block (Steps.trans k3 (.one st_inBlock))
        | exit i => exact absurd e (hne _ _)
        | ret => obtain ⟨k4, g1⟩ := k3; exact ⟨k4, .head st_block g1⟩
    · -- loop
      rename_i b
      split at e
      · rename_i s1 h1
        obtain ⟨ι1, w1, a1, df1, k1, k2, k3⟩ := ih b h1 hro r (.inLoop b :: k) cs
        obtain ⟨ι2, w2, a2, df2, g1, g2, g3⟩ := ih (.loop b) e (hro.ext k2.ext) k1 k cs
        have hs : Steps E.P (lone (Fr E.fn ki ro df a (.code (.loop b) :: k)) cs w) (lone (Fr E.fn ki ro df1 a1 (.inLoop b :: k)) cs w1) := .head st_loop k3
        refine ⟨ι2, w2, a2, df2, g1, k2.trans g2, .of_steps hs ?_⟩
        -- 'inLoop' and 'loop' step to the same machine
        have e1 := st_inLoop (P := E.P) (fn := E.fn) (ki := ki) (ro := ro) (df := df1) (a := a1) (k := k) (cs := cs) (w := w1) (c := b)
        have e2 := st_loop (P := E.P) (fn := E.fn) (ki := ki) (ro := ro) (df := df1) (a := a1) (k := k) (cs := cs) (w := w1) (c := b)
        have hne : ∀ (df' : List Deferred) (a' : Array Value) (w' : World) (t : List Item), t ≠ .code (.loop b) :: k → lone (Fr E.fn ki ro df1 a1 (.code (.loop b) :: k)) cs w1 ≠ lone (Fr E.fn ki ro df' a' t) cs w' := by
          intro df' a' w' t ht h
          have := lone_todo h
          exact ht this.symm
        have tl : ∀ {M : Machine}, Steps E.P (lone (Fr E.fn ki ro df1 a1 (.code (.loop b) :: k)) cs w1) M → lone (Fr E.fn ki ro df1 a1 (.code (.loop b) :: k)) cs w1 ≠ M → Steps E.P (lone (Fr E.fn ki ro df1 a1 (.inLoop b :: k)) cs w1) M :=
          fun h h' => .head e1 (Steps.tail h e2 h')
        cases ex with
        | nrm => exact tl g3 (hne _ _ _ _ (fun h => by have := congrArg List.length h; simp at this))
        | exit id => obtain ⟨k4, q1, q2⟩ := g3; exact ⟨k4, tl q1 (hne _ _ _ _ (by simp)), q2⟩
        | ret => obtain ⟨k4, q1⟩ := g3; exact ⟨k4, tl q1 (hne _ _ _ _ (by simp))⟩
      · rename_i hne
        obtain ⟨ι1, w1, a1, df1, k1, k2, k3⟩ := ih b e hro r (.inLoop b :: k) cs
        refine ⟨ι1, w1, a1, df1, k1, k2, ?_⟩
        cases ex with
        | nrm => exact absurd e (hne _)
        | exit id => obtain ⟨k4, g1, g2⟩ := k3; exact ⟨k4, .head st_loop g1, by rw [g2]; rfl⟩
        | ret => obtain ⟨k4, g1⟩ := k3; exact ⟨k4, .head st_loop g1⟩
    · -- region
      rename_i id ops
      split at e
      · rename_i s1 h1
        cases e
        obtain ⟨ι1, w1, a1, df1, k1, k2, k3⟩ := reg_sound (ki := ki) hc ops.toList [] (by simp) h1 hro r k cs
        refine ⟨ι1, w1, a1, df1, k1, k2, .head st_region ?_⟩
        have : List.range' ([] : List Oper).length ops.toList.length = List.range ops.size := by simp [List.range_eq_range']
        rw [this] at k3
        exact k3
      · cases e
    · rename_i id ops
      split at e
      · rename_i s1 h1
        cases e
        obtain ⟨ι1, w1, a1, df1, k1, k2, k3⟩ := hD ki ro id ops s _ h1 hro r k cs
        exact ⟨ι1, w1, a1, df1, k1, k2, k3⟩
      · cases e
    · rename_i f params assign body
      exact loop_sound hc hro r e k cs
    · cases e
end
end Go.Ev
