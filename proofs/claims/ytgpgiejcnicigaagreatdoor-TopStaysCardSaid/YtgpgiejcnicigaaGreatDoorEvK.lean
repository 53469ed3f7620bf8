/- The evaluator, part K: the evaluator itself. -/
import Derived.Test.YtgpgiejcnicigaaGreatDoorEvJ
set_option linter.unusedSimpArgs false
set_option linter.unusedVariables false
namespace Go.Ev

/-- What is called. -/
inductive Tg where
  | fn (f : FuncId) (args : List Value)
  | yield (n : Nat) (args : List Value)
/-- What is done at the end. -/
inductive Df where
  | col (n : Nat)
  | fn (f : FuncId) (args : List Value)
abbrev CallT := Tg → Heap → Nat → Option (Value × Heap × Nat)

structure AS where
  t : T Value
  h : Heap
  c : Nat
  df : List Df

/-- How code ends. -/
inductive Ex where
  | nrm
  | exit (id : Nat)
  | ret

/-- How many package variables; the number that is told beside. -/
structure Gp where
  n : Nat
  X : Blk
/-- What is the same for a frame's code. -/
structure Env where
  P : Program
  /-- the package variables -/
  G : Gp
  /-- how many slots -/
  nt : Nat
  /-- the loop whose round it is -/
  ro : Option Nat
  fn : FuncId
  call : CallT

noncomputable def ev (E : Env) (t : T Value) : Operand → Value
  | .tmp i => (t.get i).getD undef
  | .const v => match plainV v with
    | true => v
    | false => match v with
      | .func (.func f) ⟨[]⟩ ⟨[]⟩ => v
      | .tuple ⟨[]⟩ => v
      | _ => junk
  | .global g => if g < E.G.n then .pointer (some ⟨g, 0, none⟩) else junk
  | .func f => .func (.func f) #[] #[]

noncomputable def kOK : NK → Bool
  | .slice _ n => Nat.ble n 65536
  | _ => true
noncomputable def opA (P : Program) (ρ : Operand → Value) (h : Heap) (c : Nat) (o : Op) : Option (Value × Heap × Nat) :=
  match pureOp P ρ o with
  | some v => some (v, h, c)
  | none => match readOp P ρ h o with
    | some v => some (v, h, c)
    | none => match newOp P ρ o with
      | some (ob, k) => if kOK k then putR h c ob (k.val c) (c + 1) else none
      | none => chainOp P ρ h c o

noncomputable def tgA (f : Value) (xs : List Value) : Option Tg :=
  match f with
  | .func (.func g) ⟨first⟩ ⟨cap⟩ => some (.fn g (first ++ xs ++ cap))
  | .func (.yield n) _ _ => some (.yield n xs)
  | _ => none

/-- Is an operation carried out? -/
noncomputable def wantA (ops : Array Oper) (t : T Value) (o : Oper) : Option Bool :=
  match o.guard with
  | none => some true
  | some (j, want) => match ops[j]? with
    | none => some false
    | some oj => match oj.dst with
      | none => some false
      | some d => match t.get d with
        | some (.bool b) => some (b == want)
        | some (.tuple ⟨[]⟩) => some false
        | none => some false
        | _ => none

/-- A state's parts, told apart. -/
noncomputable def withS {α : Type} (s : AS) (f : T Value → Heap → Nat → List Df → α) : α := AS.rec (motive := fun _ => α) (fun t h c df => f t h c df) s
theorem withS_eq {α : Type} (s : AS) (f : T Value → Heap → Nat → List Df → α) : withS s f = f s.t s.h s.c s.df := rfl
/-- A number, reckoned out. -/
noncomputable def forceN {α : Type} (n : Nat) (k : Nat → α) : α := Nat.rec (motive := fun _ => α) (k 0) (fun m _ => k (Nat.succ m)) n
theorem forceN_eq {α : Type} (n : Nat) (k : Nat → α) : forceN n k = k n := by cases n <;> rfl
noncomputable def forceI {α : Type} (n : Int) (k : Int → α) : α := Int.rec (motive := fun _ => α) (fun m => forceN m fun m => k (.ofNat m)) (fun m => forceN m fun m => k (.negSucc m)) n
theorem forceI_eq {α : Type} (n : Int) (k : Int → α) : forceI n k = k n := by
  cases n with
  | ofNat m => exact forceN_eq m (fun m => k (.ofNat m))
  | negSucc m => exact forceN_eq m (fun m => k (.negSucc m))
noncomputable def forceB {α : Type} (b : Bool) (k : Bool → α) : α := Bool.rec (motive := fun _ => α) (k false) (k true) b
theorem forceB_eq {α : Type} (b : Bool) (k : Bool → α) : forceB b k = k b := by cases b <;> rfl
/-- A value, reckoned out at its head. -/
noncomputable def forceV {α : Type} (v : Value) (k : Value → α) : α :=
  match v with
  | .int j n => forceI n fun n => k (.int j n)
  | .bool b => forceB b fun b => k (.bool b)
  | .pointer (some ⟨b, o, s⟩) => forceN b fun b => forceN o fun o => k (.pointer (some ⟨b, o, s⟩))
  | .slice (some ⟨b, o, s⟩) l c => forceN b fun b => forceN o fun o => forceN l fun l => forceN c fun c => k (.slice (some ⟨b, o, s⟩) l c)
  | .agg a => k (.agg a)
  | .tuple a => k (.tuple a)
  | .string s => k (.string s)
  | .map m => k (.map m)
  | .func f a b => k (.func f a b)
  | .iface t v => k (.iface t v)
  | v => k v
theorem forceV_eq {α : Type} (v : Value) (k : Value → α) : forceV v k = k v := by
  unfold forceV
  split <;> simp only [forceI_eq, forceB_eq, forceN_eq]

noncomputable def putT {β : Type} (E : Env) (s : AS) (dst : Option Tmp) (v : Value) (h : Heap) (c : Nat) (k : AS → Option β) : Option β :=
  withS s fun t _ _ df => match dst with
  | none => k ⟨t, h, c, df⟩
  | some d => if Nat.blt d E.nt && fits d then forceV v fun v => T.setK D t d (some v) fun t => k ⟨t, h, c, df⟩ else none

/-- The program, told apart from the environment (so that the kernel meets the same terms again). -/
noncomputable def withP {α : Type} (E : Env) (f : Program → α) : α := Env.rec (motive := fun _ => α) (fun P _ _ _ _ _ => f P) E
theorem withP_eq {α : Type} (E : Env) (f : Program → α) : withP E f = f E.P := rfl
noncomputable def oneOp (E : Env) (s0 : AS) (o : Oper) : Option AS :=
  withS s0 fun t h0 c0 df0 =>
  match o.op with
  | .call { callee := .value f, args := ⟨xs⟩, .. } => match tgA (ev E t f) (xs.map (ev E t)) with
    | none => none
    | some tg => match E.call tg h0 c0 with
      | none => none
      | some (v, h, c) => putT E ⟨t, h0, c0, df0⟩ o.dst v h c some
  | .defer { callee := .value f, args := ⟨xs⟩, .. } => match E.ro, tgA (ev E t f) (xs.map (ev E t)) with
    | none, some (.fn g args) => putT E ⟨t, h0, c0, .fn g args :: df0⟩ o.dst undef h0 c0 some
    | _, _ => none
  | op => match withP E (fun P => opA P (ev E t) h0 c0 op) with
    | none => none
    | some (v, h, c) => putT E ⟨t, h0, c0, df0⟩ o.dst v h c some

/-- The same, the common kinds told apart at once (so that the kernel reckons less). -/
noncomputable def oneF (E : Env) (s0 : AS) (o : Oper) : Option AS :=
  withS s0 fun t h0 c0 df0 =>
  match o.op with
  | .move x => putT E ⟨t, h0, c0, df0⟩ o.dst (ev E t x) h0 c0 some
  | .assign x => putT E ⟨t, h0, c0, df0⟩ o.dst (ev E t x) h0 c0 some
  | .pick c a b => match ev E t c with
    | .bool true => putT E ⟨t, h0, c0, df0⟩ o.dst (ev E t a) h0 c0 some
    | .bool false => putT E ⟨t, h0, c0, df0⟩ o.dst (ev E t b) h0 c0 some
    | _ => none
  | .nilCheck x => match ev E t x with
    | .pointer (some a) => putT E ⟨t, h0, c0, df0⟩ o.dst (.pointer (some a)) h0 c0 some
    | _ => none
  | .load ty a => match ev E t a with
    | .pointer (some ⟨n, off, none⟩) => match h0.get n with
      | some (.cells ⟨cs⟩ _ _) => match withP E (fun P => partA P ty cs off) with
        | some v => putT E ⟨t, h0, c0, df0⟩ o.dst v h0 c0 some
        | none => none
      | _ => none
    | _ => none
  | .fieldAddr st x f => match ev E t x, withP E (fun P => fieldA P st f) with
    | .pointer (some ⟨n, off, none⟩), some (fo, sz, _) => if sz = 0 then none else putT E ⟨t, h0, c0, df0⟩ o.dst (.pointer (some ⟨n, off + fo, none⟩)) h0 c0 some
    | _, _ => none
  | .extract x i => match ev E t x with
    | .tuple ⟨vs⟩ => match vs[i]? with
      | some v => putT E ⟨t, h0, c0, df0⟩ o.dst v h0 c0 some
      | none => none
    | _ => none
  | .binOp op _ x y _ => match binA op (ev E t x) (ev E t y) with
    | some v => putT E ⟨t, h0, c0, df0⟩ o.dst v h0 c0 some
    | none => oneOp E ⟨t, h0, c0, df0⟩ o
  | .store ty a x => match withP E (fun P => storeA P h0 c0 ty (ev E t a) (ev E t x)) with
    | some (v, h, c) => putT E ⟨t, h0, c0, df0⟩ o.dst v h c some
    | none => none
  | _ => oneOp E ⟨t, h0, c0, df0⟩ o
theorem oneF_eq (E : Env) (s : AS) (o : Oper) : oneF E s o = oneOp E s o := by
  unfold oneF
  simp only [withP_eq, withS_eq]
  split
  · rename_i x hop; unfold oneOp; rw [hop]; rfl
  · rename_i x hop; unfold oneOp; rw [hop]; rfl
  · rename_i c a b hop
    unfold oneOp; rw [hop]; simp only [withP_eq, withS_eq]
    simp only [opA, pureOp]
    split <;> rename_i h <;> simp [h, readOp, newOp, chainOp]
  · rename_i x hop
    unfold oneOp; rw [hop]; simp only [withP_eq, withS_eq]
    simp only [opA, pureOp]
    split <;> rename_i h <;> simp [h, readOp, newOp, chainOp]
  · rename_i t a hop
    unfold oneOp; rw [hop]; simp only [withP_eq, withS_eq]
    simp only [opA, pureOp, readOp]
    split
    · rename_i n off h
      split
      · rename_i cs e fz hg
        split
        · rename_i v hv; simp [h, hg, hv]
        · rename_i hv; simp [h, hg, hv, newOp, chainOp]
      · rename_i hg
        split <;> rename_i h2 <;> simp_all [newOp, chainOp]
    · rename_i h
      split <;> rename_i h2 <;> simp_all [newOp, chainOp]
  · rename_i st x f hop
    unfold oneOp; rw [hop]; simp only [withP_eq, withS_eq]
    simp only [opA, pureOp]
    split
    · rename_i n off fo sz ft h1 h2
      by_cases hz : sz = 0 <;> simp [h1, h2, hz, readOp, newOp, chainOp]
    · rename_i h
      split <;> rename_i h2 <;> simp_all [readOp, newOp, chainOp]
  · rename_i x i hop
    unfold oneOp; rw [hop]; simp only [withP_eq, withS_eq]
    simp only [opA, pureOp]
    split
    · rename_i vs h
      split <;> rename_i h2 <;> simp [h, h2, readOp, newOp, chainOp]
    · rename_i h
      split <;> rename_i h2 <;> simp_all [readOp, newOp, chainOp]
  · rename_i op t x y yt hop
    split
    · rename_i v hv
      unfold oneOp; rw [hop]; simp only [withP_eq, withS_eq]
      simp [opA, pureOp, hv]
    · rfl
  · rename_i t a x hop
    unfold oneOp; rw [hop]; simp only [withP_eq, withS_eq]
    simp only [opA, pureOp, readOp, newOp, chainOp]
    cases storeA E.P s.h s.c t (ev E s.t a) (ev E s.t x) <;> rfl
  · rfl

noncomputable def regA (E : Env) (ops : Array Oper) : List Oper → AS → Option AS
  | [], s => some s
  | o :: r, s => match wantA ops s.t o with
    | none => none
    | some true => match oneF E s o with
      | none => none
      | some s' => regA E ops r s'
    | some false => match putT E s o.dst undef s.h s.c some with
      | none => none
      | some s' => regA E ops r s'

noncomputable def setAll : T Value → List (Nat × Value) → T Value
  | t, [] => t
  | t, (i, v) :: r => T.setK D t i (some v) fun t' => setAll t' r
noncomputable def ofList (i : Nat) : List Value → T Value → T Value
  | [], t => t
  | v :: r, t => T.setK D t i (some v) fun t' => ofList (i + 1) r t'
noncomputable def toList (t : T Value) (n : Nat) : List Value := (List.range n).map fun i => (t.get i).getD undef

/-- Are two values the same? -/
noncomputable def veq : Nat → Value → Value → Bool
  | 0, _, _ => false
  | n + 1, x, y => match x, y with
    | .bool a, .bool b => a == b
    | .int j a, .int k b => decide (j = k) && decide (a = b)
    | .string a, .string b => decide (a.data.toList = b.data.toList)
    | .pointer none, .pointer none => true
    | .pointer (some a), .pointer (some b) => decide (a = b)
    | .slice a l c, .slice b m d => decide (a = b) && Nat.beq l m && Nat.beq c d
    | .map none, .map none => true
    | .map (some a), .map (some b) => Nat.beq a b
    | .nilFunc, .nilFunc => true
    | .nilIface, .nilIface => true
    | .func (.func f) ⟨a⟩ ⟨b⟩, .func (.func g) ⟨c⟩ ⟨d⟩ => Nat.beq f g && veqs n a c && veqs n b d
    | .iface t a, .iface u b => Nat.beq t u && veq n a b
    | .agg ⟨a⟩, .agg ⟨b⟩ => veqs n a b
    | .tuple ⟨a⟩, .tuple ⟨b⟩ => veqs n a b
    | .chan (some a), .chan (some b) => Nat.beq a b
    | _, _ => false
where veqs (n : Nat) : List Value → List Value → Bool
  | [], [] => true
  | x :: a, y :: b => veq n x y && veqs n a b
  | _, _ => false

/-- All that comes ahead of an operation. -/
noncomputable def maskA (acc : List Nat) (es : List Edge) : Nat := es.foldl (fun s e => if Region.binds .any e then s ||| 2 ^ e.on ||| acc.getD e.on 0 else s) 0
noncomputable def cloA : List Oper → List Nat → List Nat
  | [], acc => acc
  | o :: r, acc => cloA r (acc ++ [maskA acc o.after.toList])
noncomputable def bit (m j : Nat) : Bool := !(Nat.beq ((m >>> j) % 2) 0)

/-- What an operation is in a region that draws. -/
inductive Kd where
  | skip
  | pure
  | new (ob : Obj) (k : NK)
  | read
  /-- the heap and the name ahead of it, what comes -/
  | chain (h : Heap) (c : Nat) (v : Value) (h' : Heap) (c' : Nat)
/-- An operation: its number; the slots as they are when it comes up in the text. -/
structure Rec where
  i : Nat
  o : Oper
  t : T Value
  kd : Kd

noncomputable def addAll : Heap → List (Nat × Obj) → Heap
  | h, [] => h
  | h, (n, o) :: r => T.setK D h n (some o) fun h' => addAll h' r

/-- A frame's view of an operand, where only some slots are told. -/
noncomputable def evJ (E : Env) (t : T Value) : Operand → Value
  | .tmp i => (t.get i).getD junk
  | x => ev E t x
/-- These slots alone. -/
noncomputable def pickT (t : T Value) : List Nat → T Value → T Value
  | [], acc => acc
  | x :: r, acc => if fits x then T.setK D acc x (t.get x) fun acc' => pickT t r acc' else pickT t r acc
noncomputable def opsOf (op : Op) : List Operand := op.operands.toList
noncomputable def slotsOf (ops : Array Oper) (o : Oper) : List Nat :=
  (opsOf o.op).filterMap (fun | .tmp t => some t | _ => none) ++ (match o.guard with | some (j, _) => (match ops[j]? with | some oj => oj.dst.toList | none => []) | none => [])

noncomputable def callOne (E : Env) (t : T Value) (h : Heap) (c : Nat) (op : Op) : Option (Value × Heap × Nat) :=
  match op with
  | .call { callee := .value f, args := ⟨xs⟩, .. } => match tgA (evJ E t f) (xs.map (evJ E t)) with
    | some tg => E.call tg h c
    | none => none
  | op => withP E (fun P => chainOp P (evJ E t) h c op)
noncomputable def isCall : Op → Bool
  | .call { callee := .value _, .. } => true
  | _ => false

/-- The operations in the text's order; the new blocks come as late as may be. 'pend': the new blocks that no chain operation has wanted yet (the operation's number, the name, the block). -/
noncomputable def passA (E : Env) (ops : Array Oper) (cl : List Nat) (base : Nat) : List Oper → Nat → T Value → Heap → Nat → List (Nat × Nat × Obj) → List Rec → Option (T Value × Heap × Nat × List (Nat × Nat × Obj) × List Rec)
  | [], _, t, h, c, pend, recs => some (t, h, c, pend, recs)
  | o :: r, i, t, h, c, pend, recs =>
    let tt := pickT t (slotsOf ops o) .e
    let go (kd : Kd) (v : Value) (h : Heap) (c : Nat) (pend : List (Nat × Nat × Obj)) :=
      match o.dst with
      | none => passA E ops cl base r (i + 1) t h c pend (⟨i, o, tt, kd⟩ :: recs)
      | some d => if Nat.blt d E.nt && fits d then T.setK D t d (some v) fun t' => passA E ops cl base r (i + 1) t' h c pend (⟨i, o, tt, kd⟩ :: recs) else none
    match wantA ops tt o with
    | none => none
    | some false => go .skip undef h c pend
    | some true =>
      match (if isCall o.op then none else withP E (fun P => pureOp P (evJ E tt) o.op)) with
      | some v => go .pure v h c pend
      | none => match (if isCall o.op then none else withP E (fun P => readOp P (evJ E tt) (addAll h (pend.map (·.2))) o.op)) with
        | some v => go .read v h c pend
        | none => match (if isCall o.op then none else withP E (fun P => newOp P (evJ E tt) o.op)) with
          | some (ob, k) => if kOK k && fits (base + i) then go (.new ob k) (k.val (base + i)) h c ((i, base + i, ob) :: pend) else none
          | none =>
            let m := cl.getD i 0
            let h1 := addAll h ((pend.filter fun x => bit m x.1).map (·.2))
            match callOne E tt h1 c o.op with
            | none => none
            | some (v, h2, c2) => go (.chain h1 c v h2 c2) v h2 c2 (pend.filter fun x => !(bit m x.1))

/-- The slot holds it, at the end. -/
noncomputable def dstOK (t : T Value) (o : Oper) (v : Value) : Bool :=
  match o.dst with
  | none => true
  | some d => veq 8 v ((t.get d).getD undef)
/-- The heaps at which a read may come. 'done': all that is ahead of the chain's operations that are done; 'h': the heap behind them. -/
noncomputable def readsA (E : Env) (t1 t : T Value) (m : Nat) (i : Nat) (cl : List Nat) (news : List (Nat × Nat × Obj)) (o : Oper) : List Rec → Heap → Nat → Bool
  | [], h, done => (match withP E (fun P => readOp P (evJ E t1) (addAll h ((news.filter fun x => bit m x.1 && !(bit done x.1)).map (·.2))) o.op) with
      | some v => dstOK t o v
      | none => false)
  | r :: rest, h, done =>
    -- an operation of the chain that is ahead of i, and not done: i can't come here
    ((r :: rest).any (fun r => bit m r.i) || (match withP E (fun P => readOp P (evJ E t1) (addAll h ((news.filter fun x => bit m x.1 && !(bit done x.1)).map (·.2))) o.op) with
      | some v => dstOK t o v
      | none => false)) &&
    (bit (cl.getD r.i 0) i || (match r.kd with
      | .chain _ _ _ h' _ => readsA E t1 t m i cl news o rest h' (done ||| cl.getD r.i 0)
      | _ => false))

/-- Are a chain's operations one behind the other? -/
noncomputable def chainA (cl : List Nat) : List Rec → Bool
  | [] => true
  | a :: r => r.all (fun b => bit (cl.getD b.i 0) a.i) && chainA cl r
/-- The slot, as an operation finds it. -/
noncomputable def slotA (ops : List Oper) (cl : List Nat) (i : Nat) (t0 t1 t : T Value) (x : Nat) : Bool :=
  match ops.findIdx? (fun o => match o.dst with | some d => Nat.beq d x | none => false) with
  | some j => if bit (cl.getD i 0) j then veq 8 ((t1.get x).getD undef) ((t.get x).getD undef) else if bit (cl.getD j 0) i then veq 8 ((t1.get x).getD undef) ((t0.get x).getD undef) else false
  | none => veq 8 ((t1.get x).getD undef) ((t0.get x).getD undef)
noncomputable def dstsA : List Oper → Bool
  | [] => true
  | o :: r => (match o.dst with
    | some d => r.all fun p => match p.dst with
      | some e => !(Nat.beq d e)
      | none => true
    | none => true) && dstsA r
noncomputable def checkA (E : Env) (ops : Array Oper) (cl : List Nat) (t0 t : T Value) (h0 : Heap) (base : Nat) (news : List (Nat × Nat × Obj)) (chain : List Rec) (r : Rec) : Bool :=
  (slotsOf ops r.o).all (slotA ops.toList cl r.i t0 r.t t) && match r.kd with
    | .skip => (match wantA ops r.t r.o with | some false => true | _ => false) && dstOK t r.o undef
    | .pure => (match wantA ops r.t r.o with | some true => true | _ => false) && !(isCall r.o.op) && (match withP E (fun P => pureOp P (evJ E r.t) r.o.op) with | some v => dstOK t r.o v | none => false)
    | .new _ k => (match wantA ops r.t r.o with | some true => true | _ => false) && !(isCall r.o.op) && dstOK t r.o (k.val (base + r.i))
    | .read => (match wantA ops r.t r.o with | some true => true | _ => false) && !(isCall r.o.op) && readsA E r.t t (cl.getD r.i 0) r.i cl news r.o chain h0 0
    | .chain _ _ v _ _ => (match wantA ops r.t r.o with | some true => true | _ => false) && dstOK t r.o v

/-- Does what is ahead stand ahead in the text? -/
noncomputable def edgesA : List Oper → Nat → Bool
  | [], _ => true
  | o :: r, i => o.after.toList.all (fun e => !(Region.binds .any e) || Nat.blt e.on i) && edgesA r (i + 1)

/-- A region that draws its order. -/
noncomputable def drawA (E : Env) (ops : Array Oper) (s : AS) : Option AS :=
  let l := ops.toList
  let cl := cloA l []
  match passA E ops cl s.c l 0 s.t s.h (s.c + l.length) [] [] with
  | none => none
  | some (t, h, c, pend, recs) =>
    let chain := recs.reverse.filter fun r => match r.kd with | .chain .. => true | _ => false
    let news := recs.filterMap fun r => match r.kd with | .new ob _ => some (r.i, s.c + r.i, ob) | _ => none
    if edgesA l 0 && dstsA l && chainA cl chain && recs.all (checkA E ops cl s.t t s.h s.c news chain) then some { s with t, h := addAll h (pend.map (·.2)), c } else none

noncomputable def loopA (E : Env) (s : AS) (f : Operand) (params : Array Tmp) (assign body : Code) : Option (Ex × AS) :=
  let start (h : Heap) (c : Nat) (df : List Df) (r : Nat) : Option (Ex × AS) :=
    match putR h c (.loop ⟨.ready, none, E.fn, ⟨toList s.t E.nt⟩, params, assign, body, r⟩) undef (c + 1) with
    | none => none
    | some (_, h1, c1) => match tgA (ev E s.t f) [.func (.yield c) #[] #[]] with
      | none => none
      | some tg => match E.call tg h1 c1 with
        | none => none
        | some (_, h2, c2) => match h2.get c with
          | some (.loop l) => if l.state == .busy then none else
            match putR h2 c (.loop { l with state := .exhausted }) undef c2 with
            | none => none
            | some (_, h3, c3) => match l.pending with
              | none => some (.nrm, { s with h := h3, c := c3, df })
              | some .ret => some (.ret, { s with h := h3, c := c3, df })
              | some (.exit id) => some (.exit id, { s with h := h3, c := c3, df })
              | _ => none
          | _ => none
  match E.ro with
  | none => match putR s.h s.c (.deferred (some [])) undef (s.c + 1) with
    | none => none
    | some (_, h, c) => start h c (.col s.c :: s.df) s.c
  | some n => match s.h.get n with
    | some (.loop l) => start s.h s.c s.df l.defers
    | _ => none

noncomputable def codeA (E : Env) : Nat → Code → AS → Option (Ex × AS)
  | 0, _, _ => none
  | n + 1, code, s => match code with
    | .skip => some (.nrm, s)
    | .label _ => some (.nrm, s)
    | .ret => some (.ret, s)
    | .exit id => some (.exit id, s)
    | .seq a b => match codeA E n a s with
      | some (.nrm, s') => codeA E n b s'
      | r => r
    | .cond x a b => match ev E s.t x with
      | .bool true => codeA E n a s
      | .bool false => codeA E n b s
      | _ => none
    | .block id b => match codeA E n b s with
      | some (.exit i, s') => if i = id then some (.nrm, s') else some (.exit i, s')
      | r => r
    | .loop b => match codeA E n b s with
      | some (.nrm, s') => codeA E n (.loop b) s'
      | r => r
    | .region _ ops false => match regA E ops ops.toList s with
      | some s' => some (.nrm, s')
      | none => none
    | .region _ ops true => match drawA E ops s with
      | some s' => some (.nrm, s')
      | none => none
    | .rangeFunc f params assign body => loopA E s f params assign body
    | _ => none

noncomputable def resA (E : Env) (s : AS) : List ResultVar → Option (List Value)
  | [] => some []
  | .tmp t :: r => match resA E s r with
    | some l => some ((s.t.get t).getD undef :: l)
    | none => none
  | .cell a ty :: r => match (s.t.get a).getD undef with
    | .pointer (some ⟨n, off, none⟩) => match s.h.get n with
      | some (.cells ⟨cs⟩ _ _) => match partA E.P ty cs off, resA E s r with
        | some v, some l => some (v :: l)
        | _, _ => none
      | _ => none
    | _ => none

abbrev DCallT := FuncId → List Value → Heap → Nat → Option (Value × Heap × Nat)
noncomputable def endA (dcall : DCallT) : List Df → Heap → Nat → Option (Heap × Nat)
  | [], h, c => some (h, c)
  | .col n :: r, h, c => match h.get n with
    | some (.deferred (some [])) => match putR h n (.deferred none) undef c with
      | some (_, h', c') => endA dcall r h' c'
      | none => none
    | _ => none
  | .fn f args :: r, h, c => match dcall f args h c with
    | some (_, h', c') => endA dcall r h' c'
    | none => none

noncomputable def fnA (P : Program) (f : FuncId) : Option (Func × Code) :=
  match (ftab P).get f with
  | some fn => if fn.name == "runtime.NumGoroutine" then none else match fn.body with
    | some b => some (fn, b)
    | none => none
  | none => none

/-- A function's body, and what is done at its end. -/
noncomputable def bodyA (P : Program) (G : Gp) (fuel : Nat) (call : CallT) (dcall : DCallT) (f : FuncId) (args : List Value) (h : Heap) (c : Nat) : Option (Value × Heap × Nat) :=
  if 4096 ≤ args.length then none else
  match fnA P f with
  | none => none
  | some (fn, body) =>
    let E : Env := ⟨P, G, max fn.ntmps args.length, none, f, call⟩
    match codeA E fuel body ⟨ofList 0 args .e, h, c, []⟩ with
    | some (.exit _, _) => none
    | none => none
    | some (_, s) => match endA dcall s.df s.h s.c with
      | none => none
      | some (h', c') => match resA E { s with h := h', c := c' } fn.results.toList with
        | some [v] => some (v, h', c')
        | some vs => some (.tuple ⟨vs⟩, h', c')
        | none => none
/-- A round of a loop over a function. -/
noncomputable def roundA (P : Program) (G : Gp) (fuel : Nat) (call : CallT) (l : Nat) (args : List Value) (h : Heap) (c : Nat) : Option (Value × Heap × Nat) :=
  match h.get l with
  | some (.loop r) =>
    if args.length = r.params.size ∧ r.tmps.size < 4096 ∧ r.params.toList.all (fun t => Nat.blt t r.tmps.size) then
      let E : Env := ⟨P, G, r.tmps.size, some l, r.fn, call⟩
      match codeA E fuel r.assign ⟨setAll (ofList 0 r.tmps.toList .e) (r.params.toList.zip args), h, c, []⟩ with
      | some (.nrm, s) => match s.h.get l with
        | some (.loop r1) => if r1.state == .ready then match putR s.h l (.loop { r1 with state := .busy }) undef s.c with
          | none => none
          | some (_, h1, c1) => match codeA E fuel r.body { s with h := h1, c := c1 } with
            | none => none
            | some (ex, s2) => match s2.h.get l with
              | some (.loop r2) => match ex with
                | .nrm => putR s2.h l (.loop { r2 with state := .ready, pending := none }) (.bool true) s2.c
                | .ret => putR s2.h l (.loop { r2 with state := .done, pending := some .ret }) (.bool false) s2.c
                | .exit id => putR s2.h l (.loop { r2 with state := .done, pending := some (.exit id) }) (.bool false) s2.c
              | _ => none
          else none
        | _ => none
      | _ => none
    else none
  | _ => none

noncomputable def callA (P : Program) (G : Gp) (summ : FuncId → List Value → Heap → Option Value) (fuel : Nat) : Nat → CallT
  | 0 => fun _ _ _ => none
  | n + 1 => fun tg h c => match tg with
    | .fn f args => match summ f args h with
      | some v => some (v, h, c)
      | none => bodyA P G fuel (callA P G summ fuel n) (bodyA P G fuel (callA P G summ fuel n) (fun _ _ _ _ => none)) f args h c
    | .yield l args => roundA P G fuel (callA P G summ fuel n) l args h c
end Go.Ev
