/- The evaluator, part L: a frame, a region, code: as the machine runs them. -/
import Derived.Test.YtgpgiejcnicigaaGreatDoorEvK
set_option linter.unusedSimpArgs false
set_option linter.unusedVariables false
namespace Go.Ev

/-- A running frame. -/
noncomputable def Fr (fn : FuncId) (ki : CallKind) (ro : Option Nat) (df : List Deferred) (a : Array Value) (todo : List Item) : Frame :=
  { fn, tmps := a, todo, defers := df, mode := .run, kind := ki, roundOf := ro }
noncomputable def putV (a : Array Value) (dst : Option Tmp) (v : Value) : Array Value :=
  match dst with
  | some d => a.setIfInBounds d v
  | none => a

section
variable {P : Program} {fn : FuncId} {ki : CallKind} {ro : Option Nat} {df : List Deferred} {a : Array Value} {k : List Item} {cs : List Frame} {w : World}

theorem fr_finish {ops : Array Oper} {i : Nat} {rest : List Nat} {v : Value} :
    (Fr fn ki ro df a (.inRegion ops (i :: rest) :: k)).finish v = Fr fn ki ro df (putV a ((ops[i]?).bind (·.dst)) v) (.inRegion ops rest :: k) := by
  simp only [Frame.finish, Fr, putV]
  cases (ops[i]?).bind (·.dst) <;> rfl
theorem st_skip : step P (lone (Fr fn ki ro df a (.code .skip :: k)) cs w) = .next (lone (Fr fn ki ro df a k) cs w) := step_lone_go (by simp [stepG, stepG.exec, Fr])
theorem st_label {l : Nat} : step P (lone (Fr fn ki ro df a (.code (.label l) :: k)) cs w) = .next (lone (Fr fn ki ro df a k) cs w) := step_lone_go (by simp [stepG, stepG.exec, Fr])
theorem st_inBlock {id : Nat} : step P (lone (Fr fn ki ro df a (.inBlock id :: k)) cs w) = .next (lone (Fr fn ki ro df a k) cs w) := step_lone_go (by simp [stepG, stepG.exec, Fr])
theorem st_seq {x y : Code} : step P (lone (Fr fn ki ro df a (.code (.seq x y) :: k)) cs w) = .next (lone (Fr fn ki ro df a (.code x :: .code y :: k)) cs w) := step_lone_go (by simp [stepG, stepG.exec, Fr])
theorem st_cond {c : Operand} {x y : Code} {t : Bool} (h : (Fr fn ki ro df a (.code (.cond c x y) :: k)).eval c = .bool t) :
    step P (lone (Fr fn ki ro df a (.code (.cond c x y) :: k)) cs w) = .next (lone (Fr fn ki ro df a (.code (if t then x else y) :: k)) cs w) := step_lone_go (by
    simp only [Fr] at h
    simp [stepG, stepG.exec, Fr, h])
theorem st_block {id : Nat} {c : Code} : step P (lone (Fr fn ki ro df a (.code (.block id c) :: k)) cs w) = .next (lone (Fr fn ki ro df a (.code c :: .inBlock id :: k)) cs w) := step_lone_go (by simp [stepG, stepG.exec, Fr])
theorem st_loop {c : Code} : step P (lone (Fr fn ki ro df a (.code (.loop c) :: k)) cs w) = .next (lone (Fr fn ki ro df a (.code c :: .inLoop c :: k)) cs w) := step_lone_go (by simp [stepG, stepG.exec, Fr])
theorem st_inLoop {c : Code} : step P (lone (Fr fn ki ro df a (.inLoop c :: k)) cs w) = .next (lone (Fr fn ki ro df a (.code c :: .inLoop c :: k)) cs w) := step_lone_go (by simp [stepG, stepG.exec, Fr])
theorem st_exit {id : Nat} {k' : List Item} (h : exitTo id k = some k') : step P (lone (Fr fn ki ro df a (.code (.exit id) :: k)) cs w) = .next (lone (Fr fn ki ro df a k') cs w) := step_lone_go (by simp [stepG, stepG.exec, Fr, h])
theorem st_region {id : Nat} {ops : Array Oper} : step P (lone (Fr fn ki ro df a (.code (.region id ops false) :: k)) cs w) = .next (lone (Fr fn ki ro df a (.inRegion ops (List.range ops.size) :: k)) cs w) :=
  step_lone_go (by simp [stepG, stepG.exec, Fr])
theorem st_draw {id : Nat} {ops : Array Oper} : step P (lone (Fr fn ki ro df a (.code (.region id ops true) :: k)) cs w) =
    .next (lone (Fr fn ki ro df a (.inRegion ops (Region.schedule (P.follows .mixedOrders) ops (w.tape w.drawn (.order fn id))) :: k)) cs w.drew) :=
  step_lone_go (by simp [stepG, stepG.exec, Fr, choose, Sem.run, Question.forced, Question.cut])
theorem st_done {ops : Array Oper} : step P (lone (Fr fn ki ro df a (.inRegion ops [] :: k)) cs w) = .next (lone (Fr fn ki ro df a k) cs w) := step_lone_go (by simp [stepG, stepG.exec, Fr])
theorem st_over {ops : Array Oper} {i : Nat} {rest : List Nat} (h : ((ops[i]?).map (Region.wanted · (yielded ops a))).getD false = false) :
    step P (lone (Fr fn ki ro df a (.inRegion ops (i :: rest) :: k)) cs w) = .next (lone (Fr fn ki ro df (putV a ((ops[i]?).bind (·.dst)) undef) (.inRegion ops rest :: k)) cs w) := by
  rw [← fr_finish]
  exact step_lone_go (by
    simp only [Fr] at *
    simp [stepG, stepG.exec, h])
theorem sG_op {ops : Array Oper} {i : Nat} {rest : List Nat} {o : Oper} (ho : ops[i]? = some o) (hw : Region.wanted o (yielded ops a) = true) (hd : ro = none ∨ ∀ c, o.op ≠ .defer c) :
    stepG P true { frame := Fr fn ki ro df a (.inRegion ops (i :: rest) :: k), callers := cs, status := .running, dying := none } w =
      stepG.apply P true (Fr fn ki ro df a (.inRegion ops (i :: rest) :: k)) cs none (execOp (Fr fn ki ro df a (.inRegion ops (i :: rest) :: k)).eval o) w := by
  rcases hd with hd | hd
  · subst hd
    simp [stepG, stepG.exec, stepG.oper, Frame.oper?, Fr, ho, hw]
  · simp only [Fr]
    cases ro with
    | none => simp [stepG, stepG.exec, stepG.oper, Frame.oper?, ho, hw]
    | some l =>
      cases hop : o.op <;> first | exact absurd hop (hd _) | simp [stepG, stepG.exec, stepG.oper, Frame.oper?, ho, hw, hop]
/-- An operation that yields. -/
theorem st_op {ops : Array Oper} {i : Nat} {rest : List Nat} {o : Oper} {v : Value} {w' : World} (ho : ops[i]? = some o) (hw : Region.wanted o (yielded ops a) = true) (hd : ∀ c, o.op ≠ .defer c)
    (hr : (execOp (Fr fn ki ro df a (.inRegion ops (i :: rest) :: k)).eval o).run P w = .ok (.value v) w' ∨ ((execOp (Fr fn ki ro df a (.inRegion ops (i :: rest) :: k)).eval o).run P w = .ok .skip w' ∧ v = undef)) :
    step P (lone (Fr fn ki ro df a (.inRegion ops (i :: rest) :: k)) cs w) = .next (lone (Fr fn ki ro df (putV a o.dst v) (.inRegion ops rest :: k)) cs w') := by
  have e : o.dst = (ops[i]?).bind (·.dst) := by rw [ho]; rfl
  rw [e, ← fr_finish]
  have hg := sG_op (P := P) (fn := fn) (ki := ki) (ro := ro) (df := df) (k := k) (cs := cs) (w := w) (rest := rest) ho hw (.inr hd)
  rcases hr with hr | ⟨hr, rfl⟩
  · exact step_lone_go (by rw [hg]; simp [stepG.apply, hr])
  · exact step_lone_go (by rw [hg]; simp [stepG.apply, hr])
/-- An operation that enters a function. -/
theorem st_enter {ops : Array Oper} {i : Nat} {rest : List Nat} {o : Oper} {f : FuncId} {args : Array Value} {w' : World} (ho : ops[i]? = some o) (hw : Region.wanted o (yielded ops a) = true) (hd : ∀ c, o.op ≠ .defer c)
    (hr : (execOp (Fr fn ki ro df a (.inRegion ops (i :: rest) :: k)).eval o).run P w = .ok (.enter f args) w') :
    step P (lone (Fr fn ki ro df a (.inRegion ops (i :: rest) :: k)) cs w) = .next (lone (Frame.enter P f args .normal) (Fr fn ki ro df a (.inRegion ops (i :: rest) :: k) :: cs) w') := by
  have hg := sG_op (P := P) (fn := fn) (ki := ki) (ro := ro) (df := df) (k := k) (cs := cs) (w := w) (rest := rest) ho hw (.inr hd)
  exact step_lone_go (by rw [hg]; simp [stepG.apply, hr]; simp [Fr])
theorem st_round {ops : Array Oper} {i : Nat} {rest : List Nat} {o : Oper} {l : Nat} {f : FuncId} {tmps : Array Value} {as body : Code} {w' : World} (ho : ops[i]? = some o) (hw : Region.wanted o (yielded ops a) = true) (hd : ∀ c, o.op ≠ .defer c)
    (hr : (execOp (Fr fn ki ro df a (.inRegion ops (i :: rest) :: k)).eval o).run P w = .ok (.round l f tmps as body) w') :
    step P (lone (Fr fn ki ro df a (.inRegion ops (i :: rest) :: k)) cs w) = .next (lone (Frame.round l f tmps as body .normal) (Fr fn ki ro df a (.inRegion ops (i :: rest) :: k) :: cs) w') := by
  have hg := sG_op (P := P) (fn := fn) (ki := ki) (ro := ro) (df := df) (k := k) (cs := cs) (w := w) (rest := rest) ho hw (.inr hd)
  exact step_lone_go (by rw [hg]; simp [stepG.apply, hr])
theorem st_defer {ops : Array Oper} {i : Nat} {rest : List Nat} {o : Oper} {d : Deferred} {w' : World} (ho : ops[i]? = some o) (hw : Region.wanted o (yielded ops a) = true)
    (hr : (execOp (Fr fn ki none df a (.inRegion ops (i :: rest) :: k)).eval o).run P w = .ok (.defer d) w') :
    step P (lone (Fr fn ki none df a (.inRegion ops (i :: rest) :: k)) cs w) = .next (lone (Fr fn ki none (d :: df) (putV a o.dst undef) (.inRegion ops rest :: k)) cs w') := by
  have e : o.dst = (ops[i]?).bind (·.dst) := by rw [ho]; rfl
  rw [e, ← fr_finish]
  have hg := sG_op (P := P) (fn := fn) (ki := ki) (ro := none) (df := df) (k := k) (cs := cs) (w := w) (rest := rest) ho hw (.inl rfl)
  exact step_lone_go (by rw [hg]; simp [stepG.apply, hr]; simp [Fr])
end
end Go.Ev
