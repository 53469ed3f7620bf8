/- LeadTurns: the walk. (Printed by genx.py from turns.src.) -/
import Derived.Test.YtnkmpkhiilnigaaRefTwo
import Derived.Test.YtnkmpkhiilnigaaMakeT
import Derived.Test.YtnkmpkhiilnigaaTurnRow
set_option linter.unusedSimpArgs false
set_option linter.unusedVariables false
namespace Go.Proofs.Ytnkmpkhiilnigaa.PA
open Go.RowKit Go.Shelf Go.Lib Go.Sort Go.Proofs.YtnkmpkhiilnigaaW.PrintWords Go.Proofs.YtnkmpkhiilnigaaW.PrintLast

/-- Without a block that the law writes. -/
def Less (K : Nat → Prop) (g : Nat) : Nat → Prop := fun k => K k ∧ k ≠ g
theorem Kept.less {P : (Nat → Prop) → World → Prop} (hp : Kept P) {K K' : Nat → Prop} {w w' : World} {g : Nat} (hK : ∀ k, k < w.heap.size → K k → K' k) (hc : Chg (fun k => ¬ K k) w w') (h : P (Less K g) w) : P (Less K' g) w' :=
  hp _ _ _ _ (fun k hk h => ⟨hK k hk h.1, h.2⟩) (hc.mono fun k _ hn hl => hn hl.1) h
theorem Kept.set {P : (Nat → Prop) → World → Prop} (hp : Kept P) {K : Nat → Prop} {w w' : World} {g : Nat} (hc : Chg (fun k => k = g) w w') (h : P (Less K g) w) : P (Less K g) w' :=
  hp _ _ _ _ (fun k hk h => h) (hc.mono fun k _ e hl => hl.2 e) h
theorem Kept.enter {P : (Nat → Prop) → World → Prop} (hp : Kept P) {K : Nat → Prop} {w w' : World} {g : Nat} (hg : w.heap.size ≤ g) (hc : Below w.heap.size w w') (h : P K w) : P (Less K g) w' :=
  hp _ _ _ _ (fun k hk h => ⟨h, by omega⟩) (Chg.of_below hc (fun k h1 h2 => by omega)) h
/-- The names. -/
def nm3 : Nat → ByteArray
  | 0 => ⟨#[102, 114, 111, 110, 116]⟩
  | 1 => ⟨#[98, 97, 99, 107]⟩
  | _ => ⟨#[114, 45, 49]⟩
theorem nm3_size (k : Nat) : (nm3 k).size ≤ 1000 := by
  match k with
  | 0 => decide
  | 1 => decide
  | _ + 2 => show (⟨#[114, 45, 49]⟩ : ByteArray).size ≤ 1000; decide
theorem nm3_route (k : Nat) : (nm3 k).data.toList ∈ routes := by
  match k with
  | 0 => decide
  | 1 => decide
  | _ + 2 => show ([114, 45, 49] : List UInt8) ∈ routes; decide
def nmCells : Array Value := #[.string ⟨#[102, 114, 111, 110, 116]⟩, .string ⟨#[98, 97, 99, 107]⟩, .string ⟨#[114, 45, 49]⟩]
theorem nm_cell {w : World} {g : Nat} (h : Blk w g nmCells 9) {k : Nat} (hk : k < 3) : w.cell? ⟨g, k, none⟩ = some (.string (nm3 k)) := by
  rw [h.cell]
  match k, hk with
  | 0, _ => rfl
  | 1, _ => rfl
  | 2, _ => rfl
/-- A table that is gone to. -/
structure GoalM where
  A : Option Addr
  sh : List S40
  c : Nat
  B : Option Addr
  tg : List S42
  d : Nat
structure GoalOk (g : GoalM) : Prop where
  hc : g.sh.length ≤ g.c
  hd : g.tg.length ≤ g.d
  ht : g.tg.length ≤ 4
  hs : g.sh = [] ∨ Tab R6 g.sh
def GoalM.va (g : GoalM) : Value := .slice g.A g.sh.length g.c
def GoalM.vb (g : GoalM) : Value := .slice g.B g.tg.length g.d
def noGoal : GoalM := ⟨none, [], 0, none, [], 0⟩
theorem noGoal_ok : GoalOk noGoal := ⟨by simp [noGoal], by simp [noGoal], by simp [noGoal], .inl rfl⟩
def gcells (G : Nat → GoalM) : Array Value := #[(G 0).va, (G 0).vb, (G 1).va, (G 1).vb, (G 2).va, (G 2).vb]
def upd (G : Nat → GoalM) (k : Nat) (g : GoalM) : Nat → GoalM := fun j => if j = k then g else G j
theorem upd_same (G : Nat → GoalM) (k : Nat) (g : GoalM) : upd G k g k = g := if_pos rfl
theorem gcell {w : World} {g : Nat} {G : Nat → GoalM} {t : TypeId} (h : Blk w g (gcells G) t) {k : Nat} (hk : k < 3) : w.cell? ⟨g, k * 2, none⟩ = some (G k).va ∧ w.cell? ⟨g, k * 2 + 1, none⟩ = some (G k).vb := by
  rw [h.cell, h.cell]
  match k, hk with
  | 0, _ => exact ⟨rfl, rfl⟩
  | 1, _ => exact ⟨rfl, rfl⟩
  | 2, _ => exact ⟨rfl, rfl⟩
theorem gcellE {w : World} {g : Nat} {G : Nat → GoalM} {t : TypeId} (h : Blk w g (gcells G) t) {k : Nat} (hk : k < 3) {A : Option Addr} {sh : List S40} {c : Nat} {B : Option Addr} {tg : List S42} {d : Nat} (e : G k = ⟨A, sh, c, B, tg, d⟩) :
    w.cell? ⟨g, k * 2, none⟩ = some (.slice A sh.length c) ∧ w.cell? ⟨g, k * 2 + 1, none⟩ = some (.slice B tg.length d) := by
  have := gcell h hk
  rw [e] at this
  exact this
theorem gfrozen {w : World} {g : Nat} {G : Nat → GoalM} {t : TypeId} (h : Blk w g (gcells G) t) (k : Nat) : w.frozen? ⟨g, k * 2, none⟩ = false ∧ w.frozen? ⟨g, k * 2 + 1, none⟩ = false := ⟨h.frozen _, h.frozen _⟩
theorem gset {w : World} {g : Nat} {G : Nat → GoalM} {t : TypeId} (h : Blk w g (gcells G) t) {k : Nat} (hk : k < 3) (x : GoalM) : Blk ((w.setCell ⟨g, k * 2, none⟩ x.va).setCell ⟨g, k * 2 + 1, none⟩ x.vb) g (gcells (upd G k x)) t := by
  match k, hk with
  | 0, _ => exact (h.set 0 _ rfl).set 1 _ rfl
  | 1, _ => exact (h.set 2 _ rfl).set 3 _ rfl
  | 2, _ => exact (h.set 4 _ rfl).set 5 _ rfl
theorem gcells_noS (G : Nat → GoalM) : ∀ (j : Nat) (s : ByteArray), (gcells G)[j]? ≠ some (.string s) := fun j s e => by
  match j, e with
  | 0, e => cases e
  | 1, e => cases e
  | 2, e => cases e
  | 3, e => cases e
  | 4, e => cases e
  | 5, e => cases e
  | _ + 6, e => cases e
/-- All goals in memory. -/
structure GoalsAt (g : Nat) (G : Nat → GoalM) (K : Nat → Prop) (w : World) : Prop where
  blk : BlkK g (gcells G) 29 K w
  rows : ∀ k, k < 3 → RowK (G k).A (G k).sh (Less K g) w ∧ RowKT (G k).B (G k).tg (Less K g) w ∧ GoalOk (G k)
theorem GoalsAt.less {g : Nat} {G : Nat → GoalM} {K K' : Nat → Prop} {w w' : World} (h : GoalsAt g G K w) (hK : ∀ k, k < w.heap.size → K k → K' k) (hc : Chg (fun k => ¬ K k) w w') : GoalsAt g G K' w' :=
  ⟨Kept.blk g _ _ _ _ _ _ hK hc h.blk, fun k hk => ⟨(Kept.row _ _).less hK hc (h.rows k hk).1, (Kept.rowT _ _).less hK hc (h.rows k hk).2.1, (h.rows k hk).2.2⟩⟩
theorem GoalsAt.step {g : Nat} {G : Nat → GoalM} {K : Nat → Prop} {w w' : World} (h : GoalsAt g G K w) (hc : Below w.heap.size w w') : GoalsAt g G K w' :=
  h.less (fun _ _ h => h) (Chg.of_below hc (fun k h1 h2 => by omega))
theorem GoalsAt.set {g : Nat} {G : Nat → GoalM} {K : Nat → Prop} {w : World} (h : GoalsAt g G K w) {k : Nat} (hk : k < 3) {x : GoalM} (hx : GoalOk x) (h1 : RowK x.A x.sh (Less K g) w) (h2 : RowKT x.B x.tg (Less K g) w) (hc : Chg (fun k => k = g) w ((w.setCell ⟨g, k * 2, none⟩ x.va).setCell ⟨g, k * 2 + 1, none⟩ x.vb)) : GoalsAt g (upd G k x) K ((w.setCell ⟨g, k * 2, none⟩ x.va).setCell ⟨g, k * 2 + 1, none⟩ x.vb) := by
  refine ⟨⟨h.blk.1, gset h.blk.2 hk x⟩, fun j hj => ?_⟩
  by_cases e : j = k
  · subst e
    rw [upd_same]
    exact ⟨(Kept.row _ _).set hc h1, (Kept.rowT _ _).set hc h2, hx⟩
  · rw [show upd G k x j = G j from if_neg e]
    exact ⟨(Kept.row _ _).set hc (h.rows j hj).1, (Kept.rowT _ _).set hc (h.rows j hj).2.1, (h.rows j hj).2.2⟩
theorem Chg.set2 (w : World) (g i j : Nat) (v0 v1 : Value) : Chg (fun k => k = g) w ((w.setCell ⟨g, i, none⟩ v0).setCell ⟨g, j, none⟩ v1) :=
  ((Chg.refl (fun k => k = g) w).setCell (a := ⟨g, i, none⟩) (fun _ => rfl) _).setCell (a := ⟨g, j, none⟩) (fun _ => rfl) _
theorem Two.ne {w : World} {p b q n : Nat} {K : Nat → Prop} {M D : List UInt8 → Option WayM} (h : Two w p b q K M D n) {k : Nat} (hk : K k) : b ≠ k := by
  obtain ⟨ok, _, _, _, _, h5, _⟩ := h
  exact fun e => (h5 k hk).2 e.symm
/-- What a route's table holds. -/
def nowO : Option WayM → List S40
  | none => []
  | some m => m.now
def tagO : Option WayM → List S42
  | none => []
  | some m => m.tags
theorem two_table {w : World} {p b q n : Nat} {K : Nat → Prop} {M D : List UInt8 → Option WayM} (h : Two w p b q K M D n) {t : Int} (hM : OkM M t) (name : ByteArray) (hs : name.size ≤ 1000) :
    Calls Try.prog 19 #[.pointer (some ⟨p, 0, none⟩), .string name] w fun e w' => ∃ A c B d, e = .returned (.tuple #[.agg #[.slice A (nowO (M name.data.toList)).length c, .slice B (tagO (M name.data.toList)).length d], .bool (M name.data.toList).isSome]) ∧
      (Kd.C k40 w' A (nowO (M name.data.toList)).length (nowO (M name.data.toList)) ∧ (nowO (M name.data.toList)).length ≤ c ∧ Kd.C k42 w' B (tagO (M name.data.toList)).length (tagO (M name.data.toList)) ∧ (tagO (M name.data.toList)).length ≤ d) ∧ Below w.heap.size w w' := by
  cases hm : M name.data.toList with
  | some m => exact two_table_some h hM name hs m hm
  | none =>
    refine (two_table_none h name hs hm).mono ?_
    rintro e w' ⟨rfl, hb⟩
    exact ⟨none, 0, none, 0, rfl, ⟨Kd.C_nil _ _, Nat.le_refl _, Kd.C_nil _ _, Nat.le_refl _⟩, hb⟩
theorem two_dtable {w : World} {p b q n : Nat} {K : Nat → Prop} {M D : List UInt8 → Option WayM} (h : Two w p b q K M D n) (hn : n ≤ 1000) {t : Int} (hM : OkM D t) (name : ByteArray) :
    Calls Try.prog 26 #[.pointer (some ⟨q, 0, none⟩), .string name] w fun e w' => ∃ A c B d, e = .returned (.tuple #[.agg #[.slice A (nowO (D name.data.toList)).length c, .slice B (tagO (D name.data.toList)).length d], .bool (D name.data.toList).isSome]) ∧
      (Kd.C k40 w' A (nowO (D name.data.toList)).length (nowO (D name.data.toList)) ∧ (nowO (D name.data.toList)).length ≤ c ∧ Kd.C k42 w' B (tagO (D name.data.toList)).length (tagO (D name.data.toList)) ∧ (tagO (D name.data.toList)).length ≤ d) ∧ Below w.heap.size w w' := by
  cases hm : D name.data.toList with
  | some m => exact two_dtable_some h hn hM name m hm
  | none =>
    refine (two_dtable_none h hn name hm).mono ?_
    rintro e w' ⟨rfl, hb⟩
    exact ⟨none, 0, none, 0, rfl, ⟨Kd.C_nil _ _, Nat.le_refl _, Kd.C_nil _ _, Nat.le_refl _⟩, hb⟩
theorem OkM.lens {M : List UInt8 → Option WayM} {t : Int} (h : OkM M t) (x : List UInt8) : (nowO (M x)).length ≤ 100000 ∧ (tagO (M x)).length ≤ 100000 := by
  cases hm : M x with
  | none => exact ⟨by simp [nowO], by simp [tagO]⟩
  | some m =>
    have hw := h x m hm
    exact ⟨by have := tab_len hw.cur; show m.now.length ≤ _; omega, by have := hw.tags; show m.tags.length ≤ _; omega⟩
theorem OkM.drop {M : List UInt8 → Option WayM} {t : Int} (h : OkM M t) (x : List UInt8) : OkM (setWay x Option.none M) t := fun y m e => by
  unfold setWay at e
  split at e
  · cases e
  · exact h y m e

theorem arr4_cell {w : World} {g : Nat} {a : Int} (h : Blk w g #[.int .i64 10, .int .i64 10, .int .i64 10, .int .i64 a] 3) {j : Nat} (hj : j < 4) : w.cell? ⟨g, j, none⟩ = some (.int .i64 (if j = 3 then a else 10)) := by
  rw [h.cell]
  match j, hj with
  | 0, _ => rfl
  | 1, _ => rfl
  | 2, _ => rfl
  | 3, _ => rfl
theorem hold_arr {wr w : World} (h : Below wr.heap.size wr w) (a : Int) : ∃ g w5, w5 = w.alloc (.cells #[.int .i64 10, .int .i64 10, .int .i64 10, .int .i64 a] 3) ∧ g = w.heap.size ∧ Blk w5 g #[.int .i64 10, .int .i64 10, .int .i64 10, .int .i64 a] 3 ∧ Below wr.heap.size wr w5 ∧ Below w.heap.size w w5 :=
  ⟨_, _, rfl, rfl, Blk.new _ _ _, h.alloc h.size _, (Below.refl _ _).alloc (Nat.le_refl _) _⟩

set_option maxRecDepth 100000 in
set_option maxHeartbeats 16000000 in
theorem turns_law (A0 : Option Addr) (c0 : Nat) (l0 : List TurnM) (w : World) (hr0 : TurnsAt w A0 l0) (hc0 : l0.length ≤ c0) :
    Calls Try.prog 8 #[.slice A0 l0.length c0] w fun e w' => e = .returned (.bool true) ∧ Below w.heap.size w w' := by
  have HR0 := Lib.hid hr0
  clear hr0
  go_enter Try.func8, Try.ntmps8
  go_wp2_with fail
  refine (known13 _).mono ?_
  rintro e w1 ⟨rfl, hb1⟩
  go_wp2_with fail
  refine (new_calls _).mono ?_
  rintro e w2 ⟨p, b, rfl, R2, hp, hb, hb2⟩
  have z1 := hb1.size
  obtain ⟨q, hq⟩ : ∃ q, q = w2.heap.size := ⟨_, rfl⟩
  obtain ⟨W2, hW2⟩ : ∃ W2, W2 = w2.alloc (.cells #[.slice none 0 0] 52) := ⟨_, rfl⟩
  have bW2 : Below w2.heap.size w2 W2 := by rw [hW2]; exact (Below.refl _ _).alloc (Nat.le_refl _) _
  have kq : Blk W2 q #[.slice none 0 0] 52 := by rw [hW2, hq]; exact Blk.new _ _ _
  have hRl := (RollerO.first R2).lt
  have T2 := Lib.hid (Two.first (R2.below bW2) kq (by omega) (by omega))
  have b2 := below_step (below_step hb1 hb2) bW2
  have z2 := hb2.size
  have hKw : ∀ k, k < w.heap.size → k ≠ q ∧ k ≠ b := fun k hk => ⟨by omega, by omega⟩
  obtain ⟨K, hK⟩ : ∃ K : Nat → Prop, K = fun k => k ≠ q ∧ k ≠ b := ⟨_, rfl⟩
  rw [← hK] at T2
  have HKW := Lib.hid (show ∀ k, k < w.heap.size → K k from fun k hk => by rw [hK]; exact hKw k hk)
  clear hb1 hb2 bW2 kq R2 hK hKw z1 hRl hb z2 hp
  go_upto_region 6 with fail
  rw [← hW2, ← hq]
  clear hW2 hq
  obtain ⟨gn, hgn⟩ : ∃ gn, gn = W2.heap.size := ⟨_, rfl⟩
  obtain ⟨W3, hW3⟩ : ∃ W3, W3 = W2.alloc (.cells #[.string ⟨#[102, 114, 111, 110, 116]⟩, .string ⟨#[98, 97, 99, 107]⟩, .string ⟨#[114, 45, 49]⟩] 9) := ⟨_, rfl⟩
  have bW3 : Below W2.heap.size W2 W3 := by rw [hW3]; exact (Below.refl _ _).alloc (Nat.le_refl _) _
  have kn : Blk W3 gn nmCells 9 := by rw [hW3, hgn]; exact Blk.new _ _ _
  obtain ⟨gg, hgg⟩ : ∃ gg, gg = W3.heap.size := ⟨_, rfl⟩
  obtain ⟨W4, hW4⟩ : ∃ W4, W4 = W3.alloc (.cells #[.slice none 0 0, .slice none 0 0, .slice none 0 0, .slice none 0 0, .slice none 0 0, .slice none 0 0] 29) := ⟨_, rfl⟩
  have bW4 : Below W3.heap.size W3 W4 := by rw [hW4]; exact (Below.refl _ _).alloc (Nat.le_refl _) _
  have kg : Blk W4 gg (gcells fun _ => noGoal) 29 := by rw [hW4, hgg]; exact Blk.new _ _ _
  have z3 := bW3.size
  have hnw : ∀ k, W2.heap.size ≤ k → K k := fun k hk => T2.out.new hk
  have bb := below_step bW3 bW4
  have T4 := Lib.hid (T2.out.below bb)
  have z23 : gn < gg := by have := kn.lt; omega
  obtain ⟨P, hpk, hpx, hP4⟩ : ∃ P : (Nat → Prop) → World → Prop, Kept P ∧ (∀ K W, P K W → BlkK gn nmCells 9 K W ∧ BelowK w K W) ∧ P (Less K gg) W4 :=
    ⟨_, (Kept.blk gn _ _).and (Kept.below w), fun K W h => h,
      ⟨⟨hnw _ (by omega), by omega⟩, kn.below bW4 kn.lt⟩, below_step b2 bb, fun k hk => ⟨HKW.out k hk, by have := b2.size; omega⟩⟩
  have HPK := Lib.hid hpk
  have HPX := Lib.hid hpx
  have P4 := Lib.hid hP4
  have G4 := Lib.hid (show GoalsAt gg (fun _ => noGoal) K W4 from ⟨⟨hnw _ (by omega), kg⟩, fun k hk => ⟨⟨Kd.C_nil _ _, fun hp => absurd hp (by decide)⟩, rowKT_nil _ _, noGoal_ok⟩⟩)
  have OM4 := Lib.hid (OkM.none 0)
  clear b2 bW3 bW4 bb kn kg T2 HKW hpk hpx hP4 hnw z3
  have hmk : ∀ w, (Instr.makeSlice 55 (.int .i64 3) (.int .i64 3)).run Try.prog w = .ok (.slice (some ⟨w.heap.size, 0, none⟩) 3 3) (w.alloc (.cells #[.slice none 0 0, .slice none 0 0, .slice none 0 0, .slice none 0 0, .slice none 0 0, .slice none 0 0] 29)) := fun w => by kernel_rfl
  have hgg' : gg = gn + 1 := by rw [hgg, hW3, hgn]; simp
  go_upto_region 9 with fail
  rw [← hW3, ← hgn, ← hW4, ← hgg']
  clear hmk
  clear hW3 hgn hW4 hgg hgg' z23
  go_wp2_with fail
  go_loopw [5, 8] (fun v5 v8 wr => ∃ (i n : Nat) (t : Int) (K : Nat → Prop) (M : List UInt8 → Option WayM) (G : Nat → GoalM), i ≤ l0.length ∧ i ≤ 40 ∧ v5 = .int .i64 t ∧ 0 ≤ t ∧ t ≤ 5 * (i : Int) ∧ v8 = .int .i64 i ∧ n ≤ i ∧ Hid (Two wr p b q K M M n) ∧ Hid (OkM M t) ∧ Hid (GoalsAt gg G K wr) ∧ Hid (P (Less K gg) wr)) (fun _ v8 _ => l0.length - (vI v8).toNat)
  case atStart => exact ⟨0, 0, 0, K, noWays, fun _ => noGoal, by omega, by omega, rfl, by omega, by omega, rfl, by omega, T4, OM4, G4, P4⟩
  case round =>
    clear T4 OM4 G4 P4
    obtain ⟨i, n, t, K, M, G, hi, hi40, rfl, ht0, ht1, rfl, hni, TT, OM, GG, PP⟩ := hrel
    by_cases hlt : i < l0.length
    · by_cases h40 : i < 40
      · have hlt' : (i : Int) < (l0.length : Int) := by omega
        obtain ⟨ga, oa, rfl, hga, hcs⟩ := HR0.out (fun e => by rw [e] at hlt; exact absurd hlt (Nat.not_lt_zero _))
        obtain ⟨tn, tk, ta, tw, tns, tms, hst⟩ : ∃ tn tk ta tw tns tms, l0[i] = ⟨tn, tk, ta, tw, tns, tms⟩ := ⟨_, _, _, _, _, _, rfl⟩
        obtain ⟨An, cn, Am, cm, hce, ⟨kn0, hcn⟩, km0, hcm⟩ := hcs i hlt
        rw [hst] at hce kn0 hcn km0 hcm
        have HC := Lib.hid (show ∀ (w' : World), Below w.heap.size w w' → w'.cell? ⟨ga, oa + i * 6, none⟩ = some (.int .i64 tn) ∧ w'.cell? ⟨ga, oa + i * 6 + 1, none⟩ = some (.int .i64 tk) ∧ w'.cell? ⟨ga, oa + i * 6 + 2, none⟩ = some (.int .i64 ta) ∧ w'.cell? ⟨ga, oa + i * 6 + 3, none⟩ = some (.int .i64 tw) ∧ w'.cell? ⟨ga, oa + i * 6 + 4, none⟩ = some (.slice An tns.length cn) ∧ w'.cell? ⟨ga, oa + i * 6 + 5, none⟩ = some (.slice Am tms.length cm) from fun w' hb => by
          have hc : ∀ j, w'.cell? ⟨ga, j, none⟩ = w.cell? ⟨ga, j, none⟩ := fun j => World.cell?_of_block (a := ⟨ga, j, none⟩) (hb.block ga hga)
          obtain ⟨h0, h1, h2, h3, h4, h5⟩ := hce
          exact ⟨(hc _).trans h0, (hc _).trans h1, (hc _).trans h2, (hc _).trans h3, (hc _).trans h4, (hc _).trans h5⟩)
        have KN := Lib.hid kn0
        have KM := Lib.hid km0
        clear hcs hst hce kn0 km0
        have hbw := (HPX.out _ _ PP.out).2.1
        obtain ⟨e0, e1, e2, e3, e4, e5⟩ := HC.out _ hbw
        clear hbw
        have T0 := TT
        have G0 := GG
        have P0 := PP
        clear TT GG PP
        go_wp2_with fail
        have hwi := Lib.hid (within13 ta 6 (by omega) (by omega))
        have qa0 := Int.emod_nonneg ta (b := 6) (by omega)
        have qa1 := Int.emod_lt_of_pos ta (b := 6) (by omega)
        refine (damperlaw13_within.calls ta 6 (ta % 6) _ hwi.out).mono ?_
        rintro e W1 ⟨rfl, hd_⟩
        have hd_ := hd_.below
        have T1 := Lib.hid (T0.out.below hd_)
        have G1 := Lib.hid (G0.out.step hd_)
        have P1 := Lib.hid (HPK.out.step hd_ P0.out)
        clear hwi hd_ T0 G0 P0 e0 e1 e2 e3 e4 e5
        generalize ta % 6 = qa at qa0 qa1 ⊢
        obtain ⟨u, hu⟩ : ∃ u, u = t + qa := ⟨_, rfl⟩
        have hu0 : 0 ≤ u := by omega
        have hu1 : u ≤ 5 * ((i : Int) + 1) := by omega
        have htu : t ≤ u := by omega
        have HU := Lib.hid hu
        clear hu
        go_upto_region 13 with fail
        rw [← HU.out]
        clear HU qa0 qa1
        obtain ⟨e0, e1, e2, e3, e4, e5⟩ := HC.out _ (HPX.out _ _ P1.out).2.1
        go_wp2_with fail
        have hwi := Lib.hid (within13 tn 3 (by omega) (by omega))
        have kz0 := Int.emod_nonneg tn (b := 3) (by omega)
        have kz1 := Int.emod_lt_of_pos tn (b := 3) (by omega)
        refine (damperlaw13_within.calls tn 3 (tn % 3) _ hwi.out).mono ?_
        rintro e W2 ⟨rfl, hd_⟩
        have hd_ := hd_.below
        have T2 := Lib.hid (T1.out.below hd_)
        have G2 := Lib.hid (G1.out.step hd_)
        have P2 := Lib.hid (HPK.out.step hd_ P1.out)
        clear hwi hd_ T1 G1 P1 e0 e1 e2 e3 e4 e5
        generalize tn % 3 = kz at kz0 kz1 ⊢
        obtain ⟨k, rfl⟩ := Int.eq_ofNat_of_zero_le kz0
        have hk3 : k < 3 := by omega
        have hk3i : (k : Int) < 3 := by omega
        clear kz0 kz1
        obtain ⟨e0, e1, e2, e3, e4, e5⟩ := HC.out _ (HPX.out _ _ P2.out).2.1
        go_wp2_with fail
        have hwi := Lib.hid (within13 tk 9 (by omega) (by omega))
        have k90 := Int.emod_nonneg tk (b := 9) (by omega)
        have k91 := Int.emod_lt_of_pos tk (b := 9) (by omega)
        refine (damperlaw13_within.calls tk 9 (tk % 9) _ hwi.out).mono ?_
        rintro e W3 ⟨rfl, hd_⟩
        have hd_ := hd_.below
        have T3 := Lib.hid (T2.out.below hd_)
        have G3 := Lib.hid (G2.out.step hd_)
        have P3 := Lib.hid (HPK.out.step hd_ P2.out)
        clear hwi hd_ T2 G2 P2 e0 e1 e2 e3 e4 e5
        generalize tk % 9 = k9 at k90 k91 ⊢
        clear k90 k91
        go_upto_if 55 with fail
        go_cut [10] from 25 to 171 (fun v10 wx => ∃ (n' : Nat) (K' : Nat → Prop) (M' : List UInt8 → Option WayM) (G' : Nat → GoalM), n' ≤ i + 1 ∧ Hid (Two wx p b q K' M' M' n') ∧ Hid (OkM M' u) ∧ Hid (GoalsAt gg G' K' wx) ∧ Hid (P (Less K' gg) wx))
        case first =>
          by_cases hz : k9 = 0
          · have hzb : (k9 == 0) = true := by simp [hz]
            clear hz
            have hn := nm_cell (HPX.out _ _ P3.out).1.2 hk3
            go_wp2_with fail
            refine (two_drop T3.out (nm3 k) (nm3_size k)).mono ?_
            rintro e W4 ⟨rfl, T4, hc4⟩
            have G4 := Lib.hid (G3.out.less (fun _ _ h => h) hc4)
            have P4 := Lib.hid (HPK.out.less (fun _ _ h => h) hc4 P3.out)
            have T4 := Lib.hid T4
            clear hc4 T3 G3 P3 hn
            have hn := nm_cell (HPX.out _ _ P4.out).1.2 hk3
            go_wp2_with fail
            refine (two_ddrop T4.out (by omega) (nm3 k)).mono ?_
            rintro e W5 ⟨rfl, K5, T5, hk5, hc5⟩
            have G5 := Lib.hid (G4.out.less hk5 hc5)
            have P5 := Lib.hid (HPK.out.less hk5 hc5 P4.out)
            have T5 := Lib.hid T5
            clear hc5 hk5 T4 G4 P4 hn
            go_wp2_with fail
            go_meet
            exact ⟨n, K5, _, G, by omega, T5, Lib.hid ((OM.out.mono htu).drop _), G5, P5⟩
          · have hzb : (k9 == 0) = false := by simp [hz]
            clear hz
            obtain ⟨GA, sh, gc, GB, tg, gd, hGk⟩ : ∃ A sh c B tg d, G k = ⟨A, sh, c, B, tg, d⟩ := ⟨_, _, _, _, _, _, rfl⟩
            obtain ⟨bb, hbb⟩ : ∃ bb : Bool, bb = decide (tk % 3 = 0 ∨ sh = []) := ⟨_, rfl⟩
            have hwi := Lib.hid (within13 tk 3 (by omega) (by omega))
            obtain ⟨e0, e1, e2, e3, e4, e5⟩ := HC.out _ (HPX.out _ _ P3.out).2.1
            have hg := gcell G3.out.blk.2 hk3
            rw [hGk] at hg
            have g0 : W3.cell? ⟨gg, k * 2, none⟩ = some (.slice GA sh.length gc) := hg.1
            clear hg
            go_upto_region 17 with fail
            go_cut [83] from 25 to 171 (fun v wx => v = .bool bb ∧ Below W3.heap.size W3 wx)
            case first =>
              by_cases h1 : tk % 3 = 0
              · have hb1 : (tk % 3 == 0) = true := by simp [h1]
                go_wp2_with (go_at_call 13; (with_reducible refine (damperlaw13_within.calls tk 3 (tk % 3) _ hwi.out).mono ?_); rintro e w6 ⟨rfl, hd6⟩; have hd6 := hd6.below)
                go_meet
                exact ⟨by rw [hbb, h1]; rfl, hd6⟩
              · have hb1 : (tk % 3 == 0) = false := by simp [h1]
                by_cases hsh : sh = []
                · have hb2 : ((sh.length : Int) == 0) = true := by simp [hsh]
                  go_wp2_with (go_at_call 13; (with_reducible refine (damperlaw13_within.calls tk 3 (tk % 3) _ hwi.out).mono ?_); rintro e w6 ⟨rfl, hd6⟩; have hd6 := hd6.below; have g0 := (hd6.cell (p := ⟨gg, k * 2, none⟩) (cellT_lt g0)).trans g0)
                  go_meet
                  exact ⟨by rw [hbb, decide_eq_true (Or.inr hsh)], hd6⟩
                · have hb2 : ((sh.length : Int) == 0) = false := by simp [hsh]
                  go_wp2_with (go_at_call 13; (with_reducible refine (damperlaw13_within.calls tk 3 (tk % 3) _ hwi.out).mono ?_); rintro e w6 ⟨rfl, hd6⟩; have hd6 := hd6.below; have g0 := (hd6.cell (p := ⟨gg, k * 2, none⟩) (cellT_lt g0)).trans g0)
                  go_meet
                  exact ⟨by rw [hbb, decide_eq_false (fun h => h.elim h1 hsh)], hd6⟩
            case rest =>
              obtain ⟨rfl, hbx⟩ := hcut
              have T4 := Lib.hid (T3.out.below hbx)
              have G4 := Lib.hid (G3.out.step hbx)
              have P4 := Lib.hid (HPK.out.step hbx P3.out)
              clear hbx T3 G3 P3 e0 e1 e2 e3 e4 e5 g0 hwi
              have HBB := Lib.hid hbb
              clear hbb
              go_upto_if 83 with fail
              go_cut [] from 25 to 171 (fun wx => ∃ G'', Hid (Two wx p b q K M M n) ∧ Hid (GoalsAt gg G'' K wx) ∧ Hid (P (Less K gg) wx) ∧ Hid (Tab R6 (G'' k).sh))
              case first =>
                cases bb with
                | true =>
                  clear HBB
                  obtain ⟨kk, a, ha, tb⟩ := shares_tab tns
                  have HA := Lib.hid ha
                  have TB := Lib.hid tb
                  clear ha tb
                  have dr := (Below.refl wc.heap.size wc).drew
                  have T5 := Lib.hid (T4.out.below dr)
                  have G5 := Lib.hid (G4.out.step dr)
                  have P5 := Lib.hid (HPK.out.step dr P4.out)
                  have hb5 : Below w.heap.size w wc.drew := (HPX.out _ _ P5.out).2.1
                  have B5 := Lib.hid hb5
                  have KN5 := Lib.hid (Kd.C_below KN.out hb5)
                  have KM5 := Lib.hid (Kd.C_below KM.out hb5)
                  clear dr T4 G4 P4 hb5
                  go_wp2_with fail
                  refine start_ (n := 15) (S := fun w' => w'.cell? ⟨ga, oa + i * 6 + 4, none⟩ = some (.slice An tns.length cn) ∧ w'.cell? ⟨ga, oa + i * 6 + 5, none⟩ = some (.slice Am tms.length cm)) (ds := [14]) #[false, false, false, false, false, false, false, false, false, false, false, false, false, false, false] (by kernel_rfl) rfl rfl ⟨(HC.out _ B5.out).2.2.2.2.1, (HC.out _ B5.out).2.2.2.2.2⟩ (fun hHeld => ?_)
                  refine pure_ (i := 0) (N := some 84) (v := ?_) (a' := ?_) #[true, false, false, false, false, false, false, false, false, false, false, false, false, false, false] rfl rfl (by kernel_rfl) (fun _ _ _ h => h) (Or.inl ⟨by rfl, ?_⟩) ?_ ?_
                  rotate_left
                  · intro w'
                    go_simp
                    with_reducible rfl
                  rotate_left
                  · simp only [Act.put, List.setIfInBounds_toArray, List.set_cons_zero, List.set_cons_succ]
                    rfl
                  refine pure_ (i := 1) (N := some 85) (v := ?_) (a' := ?_) #[true, true, false, false, false, false, false, false, false, false, false, false, false, false, false] rfl rfl (by kernel_rfl) (fun _ _ _ h => h) (Or.inl ⟨by rfl, ?_⟩) ?_ ?_
                  rotate_left
                  · intro w'
                    go_simp
                    with_reducible rfl
                  rotate_left
                  · simp only [Act.put, List.setIfInBounds_toArray, List.set_cons_zero, List.set_cons_succ]
                    rfl
                  refine pure_ (i := 2) (N := some 86) (v := ?_) (a' := ?_) #[true, true, true, false, false, false, false, false, false, false, false, false, false, false, false] rfl rfl (by kernel_rfl) (fun _ _ _ h => h) (Or.inl ⟨by rfl, ?_⟩) ?_ ?_
                  rotate_left
                  · intro w'
                    go_simp
                    with_reducible rfl
                  rotate_left
                  · simp only [Act.put, List.setIfInBounds_toArray, List.set_cons_zero, List.set_cons_succ]
                    rfl
                  refine pure_ (i := 3) (N := some 87) (v := ?_) (a' := ?_) #[true, true, true, true, false, false, false, false, false, false, false, false, false, false, false] rfl rfl (by kernel_rfl) (fun _ _ _ h => h) (Or.inl ⟨by rfl, ?_⟩) ?_ ?_
                  rotate_left
                  · intro w'
                    go_simp
                    with_reducible rfl
                  rotate_left
                  · simp only [Act.put, List.setIfInBounds_toArray, List.set_cons_zero, List.set_cons_succ]
                    rfl
                  refine pure_ (i := 4) (N := some 88) (v := ?_) (a' := ?_) #[true, true, true, true, true, false, false, false, false, false, false, false, false, false, false] rfl rfl (by kernel_rfl) (fun _ _ _ h => h) (Or.inl ⟨by rfl, ?_⟩) ?_ ?_
                  rotate_left
                  · intro w'
                    go_simp
                    with_reducible rfl
                  rotate_left
                  · simp only [Act.put, List.setIfInBounds_toArray, List.set_cons_zero, List.set_cons_succ]
                    rfl
                  refine pure_ (i := 5) (N := some 89) (v := ?_) (a' := ?_) #[true, true, true, true, true, true, false, false, false, false, false, false, false, false, false] rfl rfl (by kernel_rfl) (fun _ _ _ h => h) (Or.inl ⟨by rfl, ?_⟩) ?_ ?_
                  rotate_left
                  · intro w'
                    go_simp
                    with_reducible rfl
                  rotate_left
                  · simp only [Act.put, List.setIfInBounds_toArray, List.set_cons_zero, List.set_cons_succ]
                    rfl
                  refine pure_ (i := 7) (N := some 91) (v := ?_) (a' := ?_) #[true, true, true, true, true, true, false, true, false, false, false, false, false, false, false] rfl rfl (by kernel_rfl) (fun _ _ _ h => h) (Or.inl ⟨by rfl, ?_⟩) ?_ ?_
                  rotate_left
                  · intro w'
                    go_simp
                    with_reducible rfl
                  rotate_left
                  · simp only [Act.put, List.setIfInBounds_toArray, List.set_cons_zero, List.set_cons_succ]
                    rfl
                  refine pure_ (i := 8) (N := some 92) (v := ?_) (a' := ?_) #[true, true, true, true, true, true, false, true, true, false, false, false, false, false, false] rfl rfl (by kernel_rfl) (fun _ _ _ h => h) (Or.inl ⟨by rfl, ?_⟩) ?_ ?_
                  rotate_left
                  · intro w'
                    go_simp
                    with_reducible rfl
                  rotate_left
                  · simp only [Act.put, List.setIfInBounds_toArray, List.set_cons_zero, List.set_cons_succ]
                    rfl
                  refine pure_ (i := 9) (N := some 93) (v := ?_) (a' := ?_) #[true, true, true, true, true, true, false, true, true, true, false, false, false, false, false] rfl rfl (by kernel_rfl) (fun _ _ _ h => h) (Or.inl ⟨by rfl, ?_⟩) ?_ ?_
                  rotate_left
                  · intro w'
                    go_simp
                    with_reducible rfl
                  rotate_left
                  · simp only [Act.put, List.setIfInBounds_toArray, List.set_cons_zero, List.set_cons_succ]
                    rfl
                  refine pure_ (i := 10) (N := some 94) (v := ?_) (a' := ?_) #[true, true, true, true, true, true, false, true, true, true, true, false, false, false, false] rfl rfl (by kernel_rfl) (fun _ _ _ h => h) (Or.inl ⟨by rfl, ?_⟩) ?_ ?_
                  rotate_left
                  · intro w'
                    go_simp
                    with_reducible rfl
                  rotate_left
                  · simp only [Act.put, List.setIfInBounds_toArray, List.set_cons_zero, List.set_cons_succ]
                    rfl
                  refine take_ (i := 6) (N := some 90) (v := ?_) (a' := ?_) #[true, true, true, true, true, true, true, true, true, true, true, false, false, false, false] rfl rfl (by kernel_rfl) (fun _ _ _ h => h) (Or.inl ⟨by rfl, ?_⟩) hHeld ?_ ?_
                  rotate_left
                  · rintro w' ⟨s0, s1⟩
                    go_simp
                    with_reducible rfl
                  rotate_left
                  · simp only [Act.put, List.setIfInBounds_toArray, List.set_cons_zero, List.set_cons_succ]
                    rfl
                  refine take_ (i := 11) (N := some 95) (v := ?_) (a' := ?_) #[true, true, true, true, true, true, true, true, true, true, true, true, false, false, false] rfl rfl (by kernel_rfl) (fun _ _ _ h => h) (Or.inl ⟨by rfl, ?_⟩) hHeld ?_ ?_
                  rotate_left
                  · rintro w' ⟨s0, s1⟩
                    go_simp
                    with_reducible rfl
                  rotate_left
                  · simp only [Act.put, List.setIfInBounds_toArray, List.set_cons_zero, List.set_cons_succ]
                    rfl
                  refine one_ (i := 12) (N := some 96) #[true, true, true, true, true, true, true, true, true, true, true, true, true, false, false] rfl rfl (by kernel_rfl) (by decide) (fun K hK => ?_)
                  refine goes_ Try.func12 (by kernel_rfl) rfl #[.slice An tns.length cn, .slice Am tms.length cm] (by rfl) rfl rfl (by simp only [List.map_toArray, List.map_cons, List.map_nil]; rfl) ?_
                  with_reducible refine (make_tags An cn tns Am cm tms _ KN5.out hcn KM5.out kk a HA.out).mono ?_
                  rintro e W7 ⟨Bx, dx, Dx, gx, rfl, ⟨x0, x1⟩, ⟨x2, x3⟩, ⟨x4, x5⟩, _, hb7⟩
                  have T7 := Lib.hid (T5.out.below hb7)
                  have G7 := Lib.hid (G5.out.step hb7)
                  have P7 := Lib.hid (HPK.out.step hb7 P5.out)
                  have B7 := Lib.hid (below_step B5.out hb7)
                  refine ⟨_, rfl, ?_⟩
                  refine hK.out _ _ ⟨(HC.out _ B7.out).2.2.2.2.1, (HC.out _ B7.out).2.2.2.2.2⟩ (fun hHeld => ?_)
                  clear hK K
                  refine norm_ (a' := ?_) ?_ ?_
                  rotate_left
                  · show Act.put _ (some 96) _ = _
                    simp only [Act.put, List.setIfInBounds_toArray, List.set_cons_zero, List.set_cons_succ]
                    rfl
                  refine pure_ (i := 13) (N := some 97) (v := ?_) (a' := ?_) #[true, true, true, true, true, true, true, true, true, true, true, true, true, true, false] rfl rfl (by kernel_rfl) (fun _ _ _ h => h) (Or.inl ⟨by rfl, ?_⟩) ?_ ?_
                  rotate_left
                  · intro w'
                    go_simp
                    with_reducible rfl
                  rotate_left
                  · simp only [Act.put, List.setIfInBounds_toArray, List.set_cons_zero, List.set_cons_succ]
                    rfl
                  refine last_ (i := 14) (N := none) #[true, true, true, true, true, true, true, true, true, true, true, true, true, true, true] rfl rfl (by kernel_rfl) (by decide) (fun K hK => ?_)
                  obtain ⟨g0, g1⟩ := gcell G7.out.blk.2 hk3
                  obtain ⟨f0, f1⟩ := gfrozen G7.out.blk.2 k
                  have c2 := Chg.set2 W7 gg (k * 2) (k * 2 + 1) (.slice Bx a.length dx) (.slice Dx (tagsOf tms).length gx)
                  rw [show (G k).va = .slice (G k).A (G k).sh.length (G k).c from rfl] at g0
                  rw [show (G k).vb = .slice (G k).B (G k).tg.length (G k).d from rfl] at g1
                  refine skip_ (w1 := ?_) (by rfl) rfl ?_ ?_
                  rotate_left
                  · go_simp
                    rfl
                  refine hK.out _ _ ?_
                  clear hK K
                  refine done_ (by kernel_rfl) ?_
                  have hgw : gg < wc.drew.heap.size := G5.out.blk.2.lt
                  have hx : GoalOk (⟨Bx, a, dx, Dx, tagsOf tms, gx⟩ : GoalM) := ⟨x0, x1, tagsOf_len tms, .inr TB.out⟩
                  have hr1 : RowK Bx a (Less K gg) W7 := ⟨x2, fun hp ad e => ⟨T5.out.new (x4 hp ad e), by have hh : wc.drew.heap.size ≤ ad.block := x4 hp ad e; omega⟩⟩
                  have hr2 : RowKT Dx (tagsOf tms) (Less K gg) W7 := ⟨x3, fun hp ad e => ⟨T5.out.new (x5 hp ad e), by have hh : wc.drew.heap.size ≤ ad.block := x5 hp ad e; omega⟩⟩
                  have T8 := Lib.hid (T7.out.tab c2 (T7.out.ne G7.out.blk.1) G7.out.blk.2 (gcells_noS G))
                  have G8 := Lib.hid (G7.out.set hk3 hx hr1 hr2 c2)
                  have P8 := Lib.hid (HPK.out.set c2 P7.out)
                  clear hgw hx hr1 hr2 c2 x0 x1 x2 x3 x4 x5 T5 G5 P5 T7 G7 P7 B5 B7 KN5 KM5 g0 g1 f0 f1
                  go_wp2_with fail
                  go_meet
                  exact ⟨upd G k ⟨Bx, a, dx, Dx, tagsOf tms, gx⟩, T8, G8, P8, Lib.hid (by rw [upd_same]; exact TB.out)⟩
                | false =>
                  have hh := of_decide_eq_false HBB.out.symm
                  have tb : Tab R6 (G k).sh := by
                    rcases (G4.out.rows k hk3).2.2.hs with h | h
                    · rw [hGk] at h
                      exact absurd (Or.inr h) hh
                    · exact h
                  have TB := Lib.hid tb
                  clear hh tb HBB
                  go_wp2_with fail
                  go_meet
                  exact ⟨G, T4, G4, P4, TB⟩
              case rest =>
                obtain ⟨G2, T6, G6, P6, TB⟩ := hcut
                clear T4 G4 P4 HBB hGk GA sh gc GB tg gd
                obtain ⟨GA, sh, gc, GB, tg, gd, hGk⟩ : ∃ A sh c B tg d, G2 k = ⟨A, sh, c, B, tg, d⟩ := ⟨_, _, _, _, _, _, rfl⟩
                have HGK := Lib.hid hGk
                have TS : Hid (Tab R6 sh) := Lib.hid (by have := TB.out; rw [hGk] at this; exact this)
                have hok := (G6.out.rows k hk3).2.2
                rw [hGk] at hok
                have HOK := Lib.hid hok
                clear hGk hok TB
                have dr := (Below.refl wc.heap.size wc).drew
                have T7 := Lib.hid (T6.out.below dr)
                have G7 := Lib.hid (G6.out.step dr)
                have P7 := Lib.hid (HPK.out.step dr P6.out)
                have hb7 : Below w.heap.size w wc.drew := (HPX.out _ _ P7.out).2.1
                have B7 := Lib.hid hb7
                clear dr T6 G6 P6 hb7
                have HWA := Lib.hid (within13 tw 61 (by omega) (by omega))
                have qw0 := Int.emod_nonneg tw (b := 61) (by omega)
                have qw1 := Int.emod_lt_of_pos tw (b := 61) (by omega)
                generalize tw % 61 = qw at HWA qw0 qw1
                obtain ⟨z, hz⟩ : ∃ z, IntKind.i64.wrap (tw.tdiv 61) = z := ⟨_, rfl⟩
                have HWB := Lib.hid (within13 z 4 (by omega) (by omega))
                have qz0 := Int.emod_nonneg z (b := 4) (by omega)
                have qz1 := Int.emod_lt_of_pos z (b := 4) (by omega)
                generalize z % 4 = qz at HWB qz0 qz1
                obtain ⟨jb, rfl⟩ := Int.eq_ofNat_of_zero_le qz0
                have hj4 : jb < 4 := by omega
                have hj4i : (jb : Int) < 4 := by omega
                obtain ⟨wh, hwh⟩ : ∃ wh : Int, wh = if jb = 3 then qw else 10 := ⟨_, rfl⟩
                have hwh1 : wh ≤ 61 := by rw [hwh]; split <;> omega
                have HWH := Lib.hid hwh
                clear hwh qz0 qz1 qw0 qw1
                go_wp2_with fail
                refine start_ (n := 17) (S := fun w' => w'.cell? ⟨ga, oa + i * 6 + 3, none⟩ = some (.int .i64 tw) ∧ Below wc.drew.heap.size wc.drew w') (ds := []) #[false, false, false, false, false, false, false, false, false, false, false, false, false, false, false, false, false] (by kernel_rfl) rfl rfl ⟨(HC.out _ B7.out).2.2.2.1, Below.refl _ _⟩ (fun hHeld => ?_)
                refine pure_ (i := 0) (N := some 98) (v := ?_) (a' := ?_) #[true, false, false, false, false, false, false, false, false, false, false, false, false, false, false, false, false] rfl rfl (by kernel_rfl) (fun _ _ _ h => h) (Or.inl ⟨by rfl, ?_⟩) ?_ ?_
                rotate_left
                · intro w'
                  go_simp
                  with_reducible rfl
                rotate_left
                · simp only [Act.put, List.setIfInBounds_toArray, List.set_cons_zero, List.set_cons_succ]
                  rfl
                refine pure_ (i := 1) (N := some 99) (v := ?_) (a' := ?_) #[true, true, false, false, false, false, false, false, false, false, false, false, false, false, false, false, false] rfl rfl (by kernel_rfl) (fun _ _ _ h => h) (Or.inl ⟨by rfl, ?_⟩) ?_ ?_
                rotate_left
                · intro w'
                  go_simp
                  with_reducible rfl
                rotate_left
                · simp only [Act.put, List.setIfInBounds_toArray, List.set_cons_zero, List.set_cons_succ]
                  rfl
                refine pure_ (i := 2) (N := some 100) (v := ?_) (a' := ?_) #[true, true, true, false, false, false, false, false, false, false, false, false, false, false, false, false, false] rfl rfl (by kernel_rfl) (fun _ _ _ h => h) (Or.inl ⟨by rfl, ?_⟩) ?_ ?_
                rotate_left
                · intro w'
                  go_simp
                  with_reducible rfl
                rotate_left
                · simp only [Act.put, List.setIfInBounds_toArray, List.set_cons_zero, List.set_cons_succ]
                  rfl
                refine pure_ (i := 3) (N := some 101) (v := ?_) (a' := ?_) #[true, true, true, true, false, false, false, false, false, false, false, false, false, false, false, false, false] rfl rfl (by kernel_rfl) (fun _ _ _ h => h) (Or.inl ⟨by rfl, ?_⟩) ?_ ?_
                rotate_left
                · intro w'
                  go_simp
                  with_reducible rfl
                rotate_left
                · simp only [Act.put, List.setIfInBounds_toArray, List.set_cons_zero, List.set_cons_succ]
                  rfl
                refine pure_ (i := 7) (N := some 105) (v := ?_) (a' := ?_) #[true, true, true, true, false, false, false, true, false, false, false, false, false, false, false, false, false] rfl rfl (by kernel_rfl) (fun _ _ _ h => h) (Or.inl ⟨by rfl, ?_⟩) ?_ ?_
                rotate_left
                · intro w'
                  go_simp
                  with_reducible rfl
                rotate_left
                · simp only [Act.put, List.setIfInBounds_toArray, List.set_cons_zero, List.set_cons_succ]
                  rfl
                refine pure_ (i := 8) (N := some 106) (v := ?_) (a' := ?_) #[true, true, true, true, false, false, false, true, true, false, false, false, false, false, false, false, false] rfl rfl (by kernel_rfl) (fun _ _ _ h => h) (Or.inl ⟨by rfl, ?_⟩) ?_ ?_
                rotate_left
                · intro w'
                  go_simp
                  with_reducible rfl
                rotate_left
                · simp only [Act.put, List.setIfInBounds_toArray, List.set_cons_zero, List.set_cons_succ]
                  rfl
                refine pure_ (i := 9) (N := some 107) (v := ?_) (a' := ?_) #[true, true, true, true, false, false, false, true, true, true, false, false, false, false, false, false, false] rfl rfl (by kernel_rfl) (fun _ _ _ h => h) (Or.inl ⟨by rfl, ?_⟩) ?_ ?_
                rotate_left
                · intro w'
                  go_simp
                  with_reducible rfl
                rotate_left
                · simp only [Act.put, List.setIfInBounds_toArray, List.set_cons_zero, List.set_cons_succ]
                  rfl
                refine pure_ (i := 10) (N := some 108) (v := ?_) (a' := ?_) #[true, true, true, true, false, false, false, true, true, true, true, false, false, false, false, false, false] rfl rfl (by kernel_rfl) (fun _ _ _ h => h) (Or.inl ⟨by rfl, ?_⟩) ?_ ?_
                rotate_left
                · intro w'
                  go_simp
                  with_reducible rfl
                rotate_left
                · simp only [Act.put, List.setIfInBounds_toArray, List.set_cons_zero, List.set_cons_succ]
                  rfl
                refine take_ (i := 4) (N := some 102) (v := ?_) (a' := ?_) #[true, true, true, true, true, false, false, true, true, true, true, false, false, false, false, false, false] rfl rfl (by kernel_rfl) (fun _ _ _ h => h) (Or.inl ⟨by rfl, ?_⟩) hHeld ?_ ?_
                rotate_left
                · rintro w' ⟨s0, s1⟩
                  go_simp
                  with_reducible rfl
                rotate_left
                · simp only [Act.put, List.setIfInBounds_toArray, List.set_cons_zero, List.set_cons_succ]
                  rfl
                refine take_ (i := 11) (N := some 109) (v := ?_) (a' := ?_) #[true, true, true, true, true, false, false, true, true, true, true, true, false, false, false, false, false] rfl rfl (by kernel_rfl) (fun _ _ _ h => h) (Or.inl ⟨by rfl, ?_⟩) hHeld ?_ ?_
                rotate_left
                · rintro w' ⟨s0, s1⟩
                  go_simp
                  with_reducible rfl
                rotate_left
                · simp only [Act.put, List.setIfInBounds_toArray, List.set_cons_zero, List.set_cons_succ]
                  rfl
                refine pure_ (i := 12) (N := some 110) (v := ?_) (a' := ?_) #[true, true, true, true, true, false, false, true, true, true, true, true, true, false, false, false, false] rfl rfl (by kernel_rfl) (fun _ _ _ h => h) (Or.inl ⟨by rfl, ?_⟩) ?_ ?_
                rotate_left
                · intro w'
                  go_simp
                  with_reducible rfl
                rotate_left
                · simp only [Act.put, List.setIfInBounds_toArray, List.set_cons_zero, List.set_cons_succ]
                  rfl
                refine one_ (i := 5) (N := some 103) #[true, true, true, true, true, true, false, true, true, true, true, true, true, false, false, false, false] rfl rfl (by kernel_rfl) (by decide) (fun K hK => ?_)
                refine goes_ Try.func13 (by kernel_rfl) rfl #[.int .i64 tw, .int .i64 61] (by rfl) rfl rfl (by simp only [List.map_toArray, List.map_cons, List.map_nil]; rfl) ?_
                with_reducible refine (damperlaw13_within.calls tw 61 qw _ HWA.out).mono ?_
                rintro e w5 ⟨rfl, h5⟩
                have h5 := h5.below
                refine ⟨_, rfl, ?_⟩
                refine hK.out _ _ ⟨(HC.out _ (below_step B7.out (below_step hHeld.2 h5))).2.2.2.1, below_step hHeld.2 h5⟩ (fun hHeld => ?_)
                clear hK K
                refine norm_ (a' := ?_) ?_ ?_
                rotate_left
                · show Act.put _ (some 103) _ = _
                  simp only [Act.put, List.setIfInBounds_toArray, List.set_cons_zero, List.set_cons_succ]
                  rfl
                refine join_ (σ := Nat) 3 #[true, true, true, true, true, true, true, true, true, true, true, true, true, true, false, false, false] (fun s => [(104, .slice (some ⟨s, 0, none⟩) 4 4), (111, .int .i64 jb)]) (fun s w' => w'.cell? ⟨ga, oa + i * 6 + 3, none⟩ = some (.int .i64 tw) ∧ Below wc.drew.heap.size wc.drew w' ∧ Blk w' s #[.int .i64 10, .int .i64 10, .int .i64 10, .int .i64 qw] 3) ?_ ?_
                rotate_left
                · intro hCont
                  refine two_ (i := 6) (j := 13) (Ni := some 104) (Nj := some 111) #[true, true, true, true, true, true, true, true, true, true, true, true, true, false, false, false, false] #[true, true, true, true, true, true, false, true, true, true, true, true, true, true, false, false, false] rfl rfl rfl rfl (by kernel_rfl) (by decide) (by decide) (fun K hK => ?_) (fun K hK => ?_)
                  · skip
                    refine value_ (w1 := ?_) (v := ?_) (by rfl) rfl ?_ ?_
                    rotate_left 2
                    · go_simp
                      constructor
                      · rfl
                      · rfl
                    obtain ⟨g31, w6, hw6, hg31, k31, b6, bb6⟩ := hold_arr hHeld.2 qw
                    rw [← hw6, ← hg31]
                    clear hw6 hg31
                    refine hK.out _ _ ⟨(HC.out _ (below_step B7.out b6)).2.2.2.1, b6⟩ (fun hHeld => ?_)
                    clear hK K
                    refine norm_ (a' := ?_) ?_ ?_
                    rotate_left
                    · show Act.put _ (some 104) _ = _
                      simp only [Act.put, List.setIfInBounds_toArray, List.set_cons_zero, List.set_cons_succ]
                      rfl
                    refine one_ (i := 13) (N := some 111) #[true, true, true, true, true, true, true, true, true, true, true, true, true, true, false, false, false] rfl rfl (by kernel_rfl) (by decide) (fun K hK => ?_)
                    refine goes_ Try.func13 (by kernel_rfl) rfl #[.int .i64 z, .int .i64 4] (by rfl) rfl rfl (by simp only [List.map_toArray, List.map_cons, List.map_nil]; rfl) ?_
                    with_reducible refine (damperlaw13_within.calls z 4 jb _ HWB.out).mono ?_
                    rintro e w9 ⟨rfl, h9⟩
                    have h9 := h9.below
                    have k31 := k31.below h9 k31.lt
                    refine ⟨_, rfl, ?_⟩
                    refine hK.out _ _ ⟨(HC.out _ (below_step B7.out (below_step hHeld.2 h9))).2.2.2.1, below_step hHeld.2 h9⟩ (fun hHeld => ?_)
                    clear hK K
                    refine norm_ (a' := ?_) ?_ ?_
                    rotate_left
                    · show Act.put _ (some 111) _ = _
                      simp only [Act.put, List.setIfInBounds_toArray, List.set_cons_zero, List.set_cons_succ]
                      rfl
                    exact norm_ (by simp only [putAll, Act.put, List.setIfInBounds_toArray, List.set_cons_zero, List.set_cons_succ]) (hCont g31 _ ⟨hHeld.1, hHeld.2, k31⟩)
                  · skip
                    refine goes_ Try.func13 (by kernel_rfl) rfl #[.int .i64 z, .int .i64 4] (by rfl) rfl rfl (by simp only [List.map_toArray, List.map_cons, List.map_nil]; rfl) ?_
                    with_reducible refine (damperlaw13_within.calls z 4 jb _ HWB.out).mono ?_
                    rintro e w9 ⟨rfl, h9⟩
                    have h9 := h9.below
                    refine ⟨_, rfl, ?_⟩
                    refine hK.out _ _ ⟨(HC.out _ (below_step B7.out (below_step hHeld.2 h9))).2.2.2.1, below_step hHeld.2 h9⟩ (fun hHeld => ?_)
                    clear hK K
                    refine norm_ (a' := ?_) ?_ ?_
                    rotate_left
                    · show Act.put _ (some 111) _ = _
                      simp only [Act.put, List.setIfInBounds_toArray, List.set_cons_zero, List.set_cons_succ]
                      rfl
                    refine one_ (i := 6) (N := some 104) #[true, true, true, true, true, true, true, true, true, true, true, true, true, true, false, false, false] rfl rfl (by kernel_rfl) (by decide) (fun K hK => ?_)
                    refine value_ (w1 := ?_) (v := ?_) (by rfl) rfl ?_ ?_
                    rotate_left 2
                    · go_simp
                      constructor
                      · rfl
                      · rfl
                    obtain ⟨g31, w6, hw6, hg31, k31, b6, bb6⟩ := hold_arr hHeld.2 qw
                    rw [← hw6, ← hg31]
                    clear hw6 hg31
                    refine hK.out _ _ ⟨(HC.out _ (below_step B7.out b6)).2.2.2.1, b6⟩ (fun hHeld => ?_)
                    clear hK K
                    refine norm_ (a' := ?_) ?_ ?_
                    rotate_left
                    · show Act.put _ (some 104) _ = _
                      simp only [Act.put, List.setIfInBounds_toArray, List.set_cons_zero, List.set_cons_succ]
                      rfl
                    exact norm_ (by simp only [putAll, Act.put, List.setIfInBounds_toArray, List.set_cons_zero, List.set_cons_succ]) (hCont g31 _ ⟨hHeld.1, hHeld.2, k31⟩)
                rintro g31 w8 ⟨q1_, q2_, k31⟩
                have hHeld := And.intro q1_ q2_
                refine norm_ (a' := ?_) ?_ ?_
                rotate_left
                · simp only [putAll, Act.put, List.setIfInBounds_toArray, List.set_cons_zero, List.set_cons_succ]
                  rfl
                refine pure_ (i := 14) (N := some 112) (v := ?_) (a' := ?_) #[true, true, true, true, true, true, true, true, true, true, true, true, true, true, true, false, false] rfl rfl (by kernel_rfl) (fun _ _ _ h => h) (Or.inl ⟨by rfl, ?_⟩) ?_ ?_
                rotate_left
                · intro w'
                  go_simp
                  with_reducible rfl
                rotate_left
                · simp only [Act.put, List.setIfInBounds_toArray, List.set_cons_zero, List.set_cons_succ]
                  rfl
                refine one_ (i := 15) (N := some 113) #[true, true, true, true, true, true, true, true, true, true, true, true, true, true, true, true, false] rfl rfl (by kernel_rfl) (by decide) (fun K hK => ?_)
                have hc15 := arr4_cell k31 hj4
                rw [← HWH.out] at hc15
                refine value_ (w1 := ?_) (v := ?_) (by rfl) rfl ?_ ?_
                rotate_left 2
                · go_simp
                  constructor
                  · rfl
                  · rfl
                refine hK.out _ _ ⟨hHeld.1, hHeld.2⟩ (fun hHeld => ?_)
                clear hK K
                refine norm_ (a' := ?_) ?_ ?_
                rotate_left
                · show Act.put _ (some 113) _ = _
                  simp only [Act.put, List.setIfInBounds_toArray, List.set_cons_zero, List.set_cons_succ]
                  rfl
                refine pure_ (i := 16) (N := some 10) (v := ?_) (a' := ?_) #[true, true, true, true, true, true, true, true, true, true, true, true, true, true, true, true, true] rfl rfl (by kernel_rfl) (fun _ _ _ h => h) (Or.inl ⟨by rfl, ?_⟩) ?_ ?_
                rotate_left
                · intro w'
                  go_simp
                  with_reducible rfl
                rotate_left
                · simp only [Act.put, List.setIfInBounds_toArray, List.set_cons_zero, List.set_cons_succ]
                  rfl
                refine done_ (by kernel_rfl) ?_
                have bx := below_step hHeld.2 (Below.refl w8.heap.size w8).drew
                have T9 := Lib.hid (T7.out.below bx)
                have G9 := Lib.hid (G7.out.step bx)
                have P9 := Lib.hid (HPK.out.step bx P7.out)
                clear T7 G7 P7 B7 HWA HWB hz HWH k31 hHeld q1_ q2_ bx hj4 hj4i
                obtain ⟨mw, hmw⟩ : ∃ mw, mw = turnW (M (nm3 k).data.toList) sh tg u wh := ⟨_, rfl⟩
                have HMW := Lib.hid hmw
                have hln : sh.length ≤ 1000000 := by have := tab_len TS.out; omega
                have htn : tg.length ≤ 4 := HOK.out.ht
                have hr9 := G9.out.rows k hk3
                rw [HGK.out] at hr9
                have C90 := Lib.hid (RowK.c hr9.1)
                have C91 := Lib.hid (show Kd.C k42 _ GB tg.length tg from hr9.2.1.1)
                clear hmw hr9
                go_wp2_with fail
                refine start_ (n := 27) (S := fun w' => w'.cell? ⟨gn, k, none⟩ = some (.string (nm3 k)) ∧ w'.cell? ⟨gg, k * 2, none⟩ = some (.slice GA sh.length gc) ∧ w'.cell? ⟨gg, k * 2 + 1, none⟩ = some (.slice GB tg.length gd)) (ds := []) #[false, false, false, false, false, false, false, false, false, false, false, false, false, false, false, false, false, false, false, false, false, false, false, false, false, false, false] (by kernel_rfl) rfl rfl ⟨nm_cell (HPX.out _ _ P9.out).1.2 hk3, (gcellE G9.out.blk.2 hk3 HGK.out).1, (gcellE G9.out.blk.2 hk3 HGK.out).2⟩ (fun hHeld => ?_)
                refine pure_ (i := 0) (N := some 114) (v := ?_) (a' := ?_) #[true, false, false, false, false, false, false, false, false, false, false, false, false, false, false, false, false, false, false, false, false, false, false, false, false, false, false] rfl rfl (by kernel_rfl) (fun _ _ _ h => h) (Or.inl ⟨by rfl, ?_⟩) ?_ ?_
                rotate_left
                · intro w'
                  go_simp
                  with_reducible rfl
                rotate_left
                · simp only [Act.put, List.setIfInBounds_toArray, List.set_cons_zero, List.set_cons_succ]
                  rfl
                refine pure_ (i := 1) (N := some 115) (v := ?_) (a' := ?_) #[true, true, false, false, false, false, false, false, false, false, false, false, false, false, false, false, false, false, false, false, false, false, false, false, false, false, false] rfl rfl (by kernel_rfl) (fun _ _ _ h => h) (Or.inl ⟨by rfl, ?_⟩) ?_ ?_
                rotate_left
                · intro w'
                  go_simp
                  with_reducible rfl
                rotate_left
                · simp only [Act.put, List.setIfInBounds_toArray, List.set_cons_zero, List.set_cons_succ]
                  rfl
                refine pure_ (i := 2) (N := some 116) (v := ?_) (a' := ?_) #[true, true, true, false, false, false, false, false, false, false, false, false, false, false, false, false, false, false, false, false, false, false, false, false, false, false, false] rfl rfl (by kernel_rfl) (fun _ _ _ h => h) (Or.inl ⟨by rfl, ?_⟩) ?_ ?_
                rotate_left
                · intro w'
                  go_simp
                  with_reducible rfl
                rotate_left
                · simp only [Act.put, List.setIfInBounds_toArray, List.set_cons_zero, List.set_cons_succ]
                  rfl
                refine pure_ (i := 3) (N := some 117) (v := ?_) (a' := ?_) #[true, true, true, true, false, false, false, false, false, false, false, false, false, false, false, false, false, false, false, false, false, false, false, false, false, false, false] rfl rfl (by kernel_rfl) (fun _ _ _ h => h) (Or.inl ⟨by rfl, ?_⟩) ?_ ?_
                rotate_left
                · intro w'
                  go_simp
                  with_reducible rfl
                rotate_left
                · simp only [Act.put, List.setIfInBounds_toArray, List.set_cons_zero, List.set_cons_succ]
                  rfl
                refine pure_ (i := 5) (N := some 119) (v := ?_) (a' := ?_) #[true, true, true, true, false, true, false, false, false, false, false, false, false, false, false, false, false, false, false, false, false, false, false, false, false, false, false] rfl rfl (by kernel_rfl) (fun _ _ _ h => h) (Or.inl ⟨by rfl, ?_⟩) ?_ ?_
                rotate_left
                · intro w'
                  go_simp
                  with_reducible rfl
                rotate_left
                · simp only [Act.put, List.setIfInBounds_toArray, List.set_cons_zero, List.set_cons_succ]
                  rfl
                refine pure_ (i := 6) (N := some 120) (v := ?_) (a' := ?_) #[true, true, true, true, false, true, true, false, false, false, false, false, false, false, false, false, false, false, false, false, false, false, false, false, false, false, false] rfl rfl (by kernel_rfl) (fun _ _ _ h => h) (Or.inl ⟨by rfl, ?_⟩) ?_ ?_
                rotate_left
                · intro w'
                  go_simp
                  with_reducible rfl
                rotate_left
                · simp only [Act.put, List.setIfInBounds_toArray, List.set_cons_zero, List.set_cons_succ]
                  rfl
                refine pure_ (i := 7) (N := some 121) (v := ?_) (a' := ?_) #[true, true, true, true, false, true, true, true, false, false, false, false, false, false, false, false, false, false, false, false, false, false, false, false, false, false, false] rfl rfl (by kernel_rfl) (fun _ _ _ h => h) (Or.inl ⟨by rfl, ?_⟩) ?_ ?_
                rotate_left
                · intro w'
                  go_simp
                  with_reducible rfl
                rotate_left
                · simp only [Act.put, List.setIfInBounds_toArray, List.set_cons_zero, List.set_cons_succ]
                  rfl
                refine pure_ (i := 10) (N := some 124) (v := ?_) (a' := ?_) #[true, true, true, true, false, true, true, true, false, false, true, false, false, false, false, false, false, false, false, false, false, false, false, false, false, false, false] rfl rfl (by kernel_rfl) (fun _ _ _ h => h) (Or.inl ⟨by rfl, ?_⟩) ?_ ?_
                rotate_left
                · intro w'
                  go_simp
                  with_reducible rfl
                rotate_left
                · simp only [Act.put, List.setIfInBounds_toArray, List.set_cons_zero, List.set_cons_succ]
                  rfl
                refine pure_ (i := 11) (N := some 125) (v := ?_) (a' := ?_) #[true, true, true, true, false, true, true, true, false, false, true, true, false, false, false, false, false, false, false, false, false, false, false, false, false, false, false] rfl rfl (by kernel_rfl) (fun _ _ _ h => h) (Or.inl ⟨by rfl, ?_⟩) ?_ ?_
                rotate_left
                · intro w'
                  go_simp
                  with_reducible rfl
                rotate_left
                · simp only [Act.put, List.setIfInBounds_toArray, List.set_cons_zero, List.set_cons_succ]
                  rfl
                refine pure_ (i := 13) (N := some 127) (v := ?_) (a' := ?_) #[true, true, true, true, false, true, true, true, false, false, true, true, false, true, false, false, false, false, false, false, false, false, false, false, false, false, false] rfl rfl (by kernel_rfl) (fun _ _ _ h => h) (Or.inl ⟨by rfl, ?_⟩) ?_ ?_
                rotate_left
                · intro w'
                  go_simp
                  with_reducible rfl
                rotate_left
                · simp only [Act.put, List.setIfInBounds_toArray, List.set_cons_zero, List.set_cons_succ]
                  rfl
                refine pure_ (i := 14) (N := some 128) (v := ?_) (a' := ?_) #[true, true, true, true, false, true, true, true, false, false, true, true, false, true, true, false, false, false, false, false, false, false, false, false, false, false, false] rfl rfl (by kernel_rfl) (fun _ _ _ h => h) (Or.inl ⟨by rfl, ?_⟩) ?_ ?_
                rotate_left
                · intro w'
                  go_simp
                  with_reducible rfl
                rotate_left
                · simp only [Act.put, List.setIfInBounds_toArray, List.set_cons_zero, List.set_cons_succ]
                  rfl
                refine pure_ (i := 15) (N := some 129) (v := ?_) (a' := ?_) #[true, true, true, true, false, true, true, true, false, false, true, true, false, true, true, true, false, false, false, false, false, false, false, false, false, false, false] rfl rfl (by kernel_rfl) (fun _ _ _ h => h) (Or.inl ⟨by rfl, ?_⟩) ?_ ?_
                rotate_left
                · intro w'
                  go_simp
                  with_reducible rfl
                rotate_left
                · simp only [Act.put, List.setIfInBounds_toArray, List.set_cons_zero, List.set_cons_succ]
                  rfl
                refine pure_ (i := 16) (N := some 130) (v := ?_) (a' := ?_) #[true, true, true, true, false, true, true, true, false, false, true, true, false, true, true, true, true, false, false, false, false, false, false, false, false, false, false] rfl rfl (by kernel_rfl) (fun _ _ _ h => h) (Or.inl ⟨by rfl, ?_⟩) ?_ ?_
                rotate_left
                · intro w'
                  go_simp
                  with_reducible rfl
                rotate_left
                · simp only [Act.put, List.setIfInBounds_toArray, List.set_cons_zero, List.set_cons_succ]
                  rfl
                refine pure_ (i := 18) (N := some 132) (v := ?_) (a' := ?_) #[true, true, true, true, false, true, true, true, false, false, true, true, false, true, true, true, true, false, true, false, false, false, false, false, false, false, false] rfl rfl (by kernel_rfl) (fun _ _ _ h => h) (Or.inl ⟨by rfl, ?_⟩) ?_ ?_
                rotate_left
                · intro w'
                  go_simp
                  with_reducible rfl
                rotate_left
                · simp only [Act.put, List.setIfInBounds_toArray, List.set_cons_zero, List.set_cons_succ]
                  rfl
                refine pure_ (i := 19) (N := some 133) (v := ?_) (a' := ?_) #[true, true, true, true, false, true, true, true, false, false, true, true, false, true, true, true, true, false, true, true, false, false, false, false, false, false, false] rfl rfl (by kernel_rfl) (fun _ _ _ h => h) (Or.inl ⟨by rfl, ?_⟩) ?_ ?_
                rotate_left
                · intro w'
                  go_simp
                  with_reducible rfl
                rotate_left
                · simp only [Act.put, List.setIfInBounds_toArray, List.set_cons_zero, List.set_cons_succ]
                  rfl
                refine pure_ (i := 20) (N := some 134) (v := ?_) (a' := ?_) #[true, true, true, true, false, true, true, true, false, false, true, true, false, true, true, true, true, false, true, true, true, false, false, false, false, false, false] rfl rfl (by kernel_rfl) (fun _ _ _ h => h) (Or.inl ⟨by rfl, ?_⟩) ?_ ?_
                rotate_left
                · intro w'
                  go_simp
                  with_reducible rfl
                rotate_left
                · simp only [Act.put, List.setIfInBounds_toArray, List.set_cons_zero, List.set_cons_succ]
                  rfl
                refine pure_ (i := 22) (N := some 136) (v := ?_) (a' := ?_) #[true, true, true, true, false, true, true, true, false, false, true, true, false, true, true, true, true, false, true, true, true, false, true, false, false, false, false] rfl rfl (by kernel_rfl) (fun _ _ _ h => h) (Or.inl ⟨by rfl, ?_⟩) ?_ ?_
                rotate_left
                · intro w'
                  go_simp
                  with_reducible rfl
                rotate_left
                · simp only [Act.put, List.setIfInBounds_toArray, List.set_cons_zero, List.set_cons_succ]
                  rfl
                refine pure_ (i := 23) (N := some 137) (v := ?_) (a' := ?_) #[true, true, true, true, false, true, true, true, false, false, true, true, false, true, true, true, true, false, true, true, true, false, true, true, false, false, false] rfl rfl (by kernel_rfl) (fun _ _ _ h => h) (Or.inl ⟨by rfl, ?_⟩) ?_ ?_
                rotate_left
                · intro w'
                  go_simp
                  with_reducible rfl
                rotate_left
                · simp only [Act.put, List.setIfInBounds_toArray, List.set_cons_zero, List.set_cons_succ]
                  rfl
                refine take_ (i := 4) (N := some 118) (v := ?_) (a' := ?_) #[true, true, true, true, true, true, true, true, false, false, true, true, false, true, true, true, true, false, true, true, true, false, true, true, false, false, false] rfl rfl (by kernel_rfl) (fun _ _ _ h => h) (Or.inl ⟨by rfl, ?_⟩) hHeld ?_ ?_
                rotate_left
                · rintro w' ⟨s0, s1, s2⟩
                  go_simp
                  with_reducible rfl
                rotate_left
                · simp only [Act.put, List.setIfInBounds_toArray, List.set_cons_zero, List.set_cons_succ]
                  rfl
                refine take_ (i := 8) (N := some 122) (v := ?_) (a' := ?_) #[true, true, true, true, true, true, true, true, true, false, true, true, false, true, true, true, true, false, true, true, true, false, true, true, false, false, false] rfl rfl (by kernel_rfl) (fun _ _ _ h => h) (Or.inl ⟨by rfl, ?_⟩) hHeld ?_ ?_
                rotate_left
                · rintro w' ⟨s0, s1, s2⟩
                  go_simp
                  with_reducible rfl
                rotate_left
                · simp only [Act.put, List.setIfInBounds_toArray, List.set_cons_zero, List.set_cons_succ]
                  rfl
                refine take_ (i := 17) (N := some 131) (v := ?_) (a' := ?_) #[true, true, true, true, true, true, true, true, true, false, true, true, false, true, true, true, true, true, true, true, true, false, true, true, false, false, false] rfl rfl (by kernel_rfl) (fun _ _ _ h => h) (Or.inl ⟨by rfl, ?_⟩) hHeld ?_ ?_
                rotate_left
                · rintro w' ⟨s0, s1, s2⟩
                  go_simp
                  with_reducible rfl
                rotate_left
                · simp only [Act.put, List.setIfInBounds_toArray, List.set_cons_zero, List.set_cons_succ]
                  rfl
                refine take_ (i := 21) (N := some 135) (v := ?_) (a' := ?_) #[true, true, true, true, true, true, true, true, true, false, true, true, false, true, true, true, true, true, true, true, true, true, true, true, false, false, false] rfl rfl (by kernel_rfl) (fun _ _ _ h => h) (Or.inl ⟨by rfl, ?_⟩) hHeld ?_ ?_
                rotate_left
                · rintro w' ⟨s0, s1, s2⟩
                  go_simp
                  with_reducible rfl
                rotate_left
                · simp only [Act.put, List.setIfInBounds_toArray, List.set_cons_zero, List.set_cons_succ]
                  rfl
                refine one_ (i := 9) (N := some 123) #[true, true, true, true, true, true, true, true, true, true, true, true, false, true, true, true, true, true, true, true, true, true, true, true, false, false, false] rfl rfl (by kernel_rfl) (by decide) (fun K hK => ?_)
                refine goes_ Try.func25 (by kernel_rfl) rfl #[.agg #[.slice GA sh.length gc, .slice GB tg.length gd]] (by rfl) rfl rfl (by simp only [List.map_toArray, List.map_cons, List.map_nil]; rfl) ?_
                with_reducible refine (copy_calls _ C90.out HOK.out.hc C91.out HOK.out.hd hln (by omega)).mono ?_
                rintro e w1_ ⟨A1, c1, B1, d1, rfl, ⟨r0, l0_, r1, l1_⟩, _, h1_⟩
                have T10 := Lib.hid (T9.out.below h1_)
                have G10 := Lib.hid (G9.out.step h1_)
                have P10 := Lib.hid (HPK.out.step h1_ P9.out)
                refine ⟨_, rfl, ?_⟩
                refine hK.out _ _ ⟨nm_cell (HPX.out _ _ P10.out).1.2 hk3, (gcellE G10.out.blk.2 hk3 HGK.out).1, (gcellE G10.out.blk.2 hk3 HGK.out).2⟩ (fun hHeld => ?_)
                clear hK K
                refine norm_ (a' := ?_) ?_ ?_
                rotate_left
                · show Act.put _ (some 123) _ = _
                  simp only [Act.put, List.setIfInBounds_toArray, List.set_cons_zero, List.set_cons_succ]
                  rfl
                refine one_ (i := 12) (N := some 126) #[true, true, true, true, true, true, true, true, true, true, true, true, true, true, true, true, true, true, true, true, true, true, true, true, false, false, false] rfl rfl (by kernel_rfl) (by decide) (fun K hK => ?_)
                refine goes_ Try.func14 (by kernel_rfl) rfl #[.pointer (some ⟨p, 0, none⟩), .string (nm3 k), .agg #[.slice A1 sh.length c1, .slice B1 tg.length d1], .int .i64 u, .int .i64 wh] (by rfl) rfl rfl (by simp only [List.map_toArray, List.map_cons, List.map_nil]; rfl) ?_
                with_reducible refine (two_turn T10.out OM.out (nm3 k) (nm3_size k) (nm3_route k) A1 c1 sh B1 d1 tg r0 r1 TS.out (by omega) u wh ht0 htu (by omega) (by omega)).mono ?_
                rintro e w2_ ⟨A2, c2, B2, d2, rfl, ⟨ra, za, rb, zb⟩, T11, O11, hc11⟩
                rw [← HMW.out] at ra za T11 O11 ⊢
                have G11 := Lib.hid (G10.out.less (fun _ _ h => h) hc11)
                have P11 := Lib.hid (HPK.out.less (fun _ _ h => h) hc11 P10.out)
                have hr11 := G11.out.rows k hk3
                rw [HGK.out] at hr11
                have c110 := RowK.c hr11.1
                have c111 : Kd.C k42 _ GB tg.length tg := hr11.2.1.1
                refine ⟨_, rfl, ?_⟩
                refine hK.out _ _ ⟨nm_cell (HPX.out _ _ P11.out).1.2 hk3, (gcellE G11.out.blk.2 hk3 HGK.out).1, (gcellE G11.out.blk.2 hk3 HGK.out).2⟩ (fun hHeld => ?_)
                clear hK K
                refine norm_ (a' := ?_) ?_ ?_
                rotate_left
                · show Act.put _ (some 126) _ = _
                  simp only [Act.put, List.setIfInBounds_toArray, List.set_cons_zero, List.set_cons_succ]
                  rfl
                refine one_ (i := 24) (N := some 138) #[true, true, true, true, true, true, true, true, true, true, true, true, true, true, true, true, true, true, true, true, true, true, true, true, true, false, false] rfl rfl (by kernel_rfl) (by decide) (fun K hK => ?_)
                refine goes_ Try.func21 (by kernel_rfl) rfl #[.pointer (some ⟨q, 0, none⟩), .string (nm3 k), .agg #[.slice GA sh.length gc, .slice GB tg.length gd], .int .i64 u, .int .i64 wh] (by rfl) rfl rfl (by simp only [List.map_toArray, List.map_cons, List.map_nil]; rfl) ?_
                with_reducible refine (two_dturn T11 (by omega) OM.out (nm3 k) GA gc sh GB gd tg c110 HOK.out.hc c111 HOK.out.hd TS.out (by omega) u wh ht0 htu (by omega) (by omega)).mono ?_
                rintro e w3_ ⟨A3, c3, B3, d3, rfl, ⟨rc, zc, rd, zd⟩, K3, T12, O12, hk12, hc12⟩
                rw [← HMW.out] at rc zc T12 O12 ⊢
                have G12 := Lib.hid (G11.out.less hk12 hc12)
                have P12 := Lib.hid (HPK.out.less hk12 hc12 P11.out)
                have ra := Kept.row _ _ _ _ _ _ hk12 hc12 ra
                have rb := Kept.rowT _ _ _ _ _ _ hk12 hc12 rb
                have hml : mw.now.length ≤ 100000 := by have := tab_len (O12 _ mw (setWay_same _ _ _)).cur; omega
                have ca := RowK.c ra
                have cb : Kd.C k42 _ B2 tg.length tg := rb.1
                refine ⟨_, rfl, ?_⟩
                refine hK.out _ _ ⟨nm_cell (HPX.out _ _ P12.out).1.2 hk3, (gcellE G12.out.blk.2 hk3 HGK.out).1, (gcellE G12.out.blk.2 hk3 HGK.out).2⟩ (fun hHeld => ?_)
                clear hK K
                refine norm_ (a' := ?_) ?_ ?_
                rotate_left
                · show Act.put _ (some 138) _ = _
                  simp only [Act.put, List.setIfInBounds_toArray, List.set_cons_zero, List.set_cons_succ]
                  rfl
                refine one_ (i := 25) (N := some 139) #[true, true, true, true, true, true, true, true, true, true, true, true, true, true, true, true, true, true, true, true, true, true, true, true, true, true, false] rfl rfl (by kernel_rfl) (by decide) (fun K hK => ?_)
                refine goes_ Try.func18 (by kernel_rfl) rfl #[.agg #[.slice A2 mw.now.length c2, .slice B2 tg.length d2], .agg #[.slice A3 mw.now.length c3, .slice B3 tg.length d3]] (by rfl) rfl rfl (by simp only [List.map_toArray, List.map_cons, List.map_nil]; rfl) ?_
                with_reducible refine (sameS _ ca za cb zb rc zc rd zd hml (by omega) rfl rfl).mono ?_
                rintro e w4_ ⟨rfl, h4_⟩
                have T13 := Lib.hid (T12.below h4_)
                have G13 := Lib.hid (G12.out.step h4_)
                have P13 := Lib.hid (HPK.out.step h4_ P12.out)
                refine ⟨_, rfl, ?_⟩
                refine hK.out _ _ ⟨nm_cell (HPX.out _ _ P13.out).1.2 hk3, (gcellE G13.out.blk.2 hk3 HGK.out).1, (gcellE G13.out.blk.2 hk3 HGK.out).2⟩ (fun hHeld => ?_)
                clear hK K
                refine norm_ (a' := ?_) ?_ ?_
                rotate_left
                · show Act.put _ (some 139) _ = _
                  simp only [Act.put, List.setIfInBounds_toArray, List.set_cons_zero, List.set_cons_succ]
                  rfl
                refine pure_ (i := 26) (N := some 140) (v := ?_) (a' := ?_) #[true, true, true, true, true, true, true, true, true, true, true, true, true, true, true, true, true, true, true, true, true, true, true, true, true, true, true] rfl rfl (by kernel_rfl) (fun _ _ _ h => h) (Or.inl ⟨by rfl, ?_⟩) ?_ ?_
                rotate_left
                · intro w'
                  go_simp
                  with_reducible rfl
                rotate_left
                · simp only [Act.put, List.setIfInBounds_toArray, List.set_cons_zero, List.set_cons_succ]
                  rfl
                refine done_ (by kernel_rfl) ?_
                have O13 := Lib.hid O12
                clear T9 G9 P9 T10 G10 P10 T11 O11 hc11 G11 P11 hr11 T12 O12 hk12 hc12 G12 P12 r0 r1 ra rb rc rd h1_ h4_ C90 C91
                go_wp2_with fail
                go_meet
                exact ⟨n + 1, K3, _, G2, by omega, T13, O13, G13, P13⟩
        case rest =>
          obtain ⟨n', K', M', G', hn', T3, OM3, G3, P3⟩ := hcut
          clear OM HC KN KM hcn hcm hga
          go_wp2_with fail
          go_loopw [11] (fun v11 wr => ∃ (j : Nat), j ≤ 3 ∧ v11 = .int .i64 j ∧ Hid (Two wr p b q K' M' M' n') ∧ Hid (GoalsAt gg G' K' wr) ∧ Hid (P (Less K' gg) wr)) (fun v11 _ => 3 - (vI v11).toNat)
          case atStart => exact ⟨0, by omega, rfl, T3, G3, P3⟩
          case round =>
            clear T3 G3 P3
            obtain ⟨j, hj, rfl, T4, G4, P4⟩ := hrel
            by_cases hj3 : j < 3
            · have hj3i : (j : Int) < 3 := by omega
              have hn := nm_cell (HPX.out _ _ P4.out).1.2 hj3
              have hls := OM3.out.lens (nm3 j).data.toList
              have HLS := Lib.hid hls
              clear hls
              go_wp2_with fail
              refine (two_table T4.out OM3.out (nm3 j) (nm3_size j)).mono ?_
              rintro e W5 ⟨A5, c5, B5, d5, rfl, ⟨r0, y0, r1, y1⟩, hb5⟩
              obtain ⟨W6, hW6⟩ : ∃ W6, W6 = W5.alloc (.cells #[.slice A5 (nowO (M' (nm3 j).data.toList)).length c5, .slice B5 (tagO (M' (nm3 j).data.toList)).length d5] 29) := ⟨_, rfl⟩
              have bW6 : Below W5.heap.size W5 W6 := by rw [hW6]; exact (Below.refl _ _).alloc (Nat.le_refl _) _
              have k6 : Blk W6 W5.heap.size #[.slice A5 (nowO (M' (nm3 j).data.toList)).length c5, .slice B5 (tagO (M' (nm3 j).data.toList)).length d5] 29 := by rw [hW6]; exact Blk.new _ _ _
              obtain ⟨g6, hg6⟩ : ∃ g6, g6 = W5.heap.size := ⟨_, rfl⟩
              rw [← hg6] at k6
              have bb6 := below_step hb5 bW6
              have T6 := Lib.hid (T4.out.below bb6)
              have G6 := Lib.hid (G4.out.step bb6)
              have P6 := Lib.hid (HPK.out.step bb6 P4.out)
              have K6 := Lib.hid k6
              have R60 := Lib.hid (Kd.C_below r0 bW6)
              have R61 := Lib.hid (Kd.C_below r1 bW6)
              clear r0 r1 hb5 bW6 bb6 k6 T4 G4 P4 hn
              have hn := nm_cell (HPX.out _ _ P6.out).1.2 hj3
              go_upto_region 26 with fail
              rw [← hW6, ← hg6]
              clear hW6 hg6
              go_wp2_with fail
              refine (two_dtable T6.out (by omega) OM3.out (nm3 j)).mono ?_
              rintro e W7 ⟨A7, c7, B7, d7, rfl, ⟨r0, x0, r1, x1⟩, hb7⟩
              obtain ⟨W8, hW8⟩ : ∃ W8, W8 = W7.alloc (.cells #[.slice A7 (nowO (M' (nm3 j).data.toList)).length c7, .slice B7 (tagO (M' (nm3 j).data.toList)).length d7] 29) := ⟨_, rfl⟩
              have bW8 : Below W7.heap.size W7 W8 := by rw [hW8]; exact (Below.refl _ _).alloc (Nat.le_refl _) _
              have k8 : Blk W8 W7.heap.size #[.slice A7 (nowO (M' (nm3 j).data.toList)).length c7, .slice B7 (tagO (M' (nm3 j).data.toList)).length d7] 29 := by rw [hW8]; exact Blk.new _ _ _
              obtain ⟨g8, hg8⟩ : ∃ g8, g8 = W7.heap.size := ⟨_, rfl⟩
              rw [← hg8] at k8
              have bb8 := below_step hb7 bW8
              have T8 := Lib.hid (T6.out.below bb8)
              have G8 := Lib.hid (G6.out.step bb8)
              have P8 := Lib.hid (HPK.out.step bb8 P6.out)
              have K68 := Lib.hid (K6.out.below bb8 K6.out.lt)
              have K8 := Lib.hid k8
              have R80 := Lib.hid (Kd.C_below r0 bW8)
              have R81 := Lib.hid (Kd.C_below r1 bW8)
              have R60 := Lib.hid (Kd.C_below R60.out bb8)
              have R61 := Lib.hid (Kd.C_below R61.out bb8)
              clear r0 r1 hb7 bW8 bb8 k8 T6 G6 P6 K6 hn
              go_upto_region 27 with fail
              rw [← hW8, ← hg8]
              clear hW8 hg8
              have a0 := K68.out.cell 0
              have a1 := K68.out.cell 1
              have b0 := K8.out.cell 0
              have b1_ := K8.out.cell 1
              simp only [List.getElem?_toArray, List.getElem?_cons_zero, List.getElem?_cons_succ] at a0 a1 b0 b1_
              have SM := Lib.hid (sameS W8 R60.out y0 R61.out y1 R80.out x0 R81.out x1 HLS.out.1 HLS.out.2 rfl rfl)
              generalize (M' (nm3 j).data.toList).isSome = is
              have hne : (is != is) = false := by simp
              clear K68 K8 R60 R61 R80 R81
              go_wp2_with (go_at_call 18; (with_reducible refine SM.out.mono ?_); rintro e w9 ⟨rfl, h9⟩; have T9 := Lib.hid (T8.out.below h9); have G9 := Lib.hid (G8.out.step h9); have P9 := Lib.hid (HPK.out.step h9 P8.out); clear h9)
              go_roundw
              case rel => exact ⟨j + 1, by omega, by go_num, T9, G9, P9⟩
              case measure => simp [vI]; omega
            · obtain rfl : j = 3 := by omega
              go_wp2_with fail
              go_roundw
              case rel => exact ⟨i + 1, n', u, K', M', G', by omega, by omega, rfl, hu0, by omega, by go_num, hn', T4, OM3, G4, P4⟩
              case measure => simp [vI]; omega
      · obtain rfl : i = 40 := by omega
        go_wp2_with fail
        go_ret
        exact ⟨rfl, (HPX.out _ _ PP.out).2.1⟩
    · obtain rfl : i = l0.length := by omega
      go_wp2_with fail
      go_ret
      exact ⟨rfl, (HPX.out _ _ PP.out).2.1⟩

end Go.Proofs.Ytnkmpkhiilnigaa.PA
