/- The pod's methods, one contract each: what they answer and what becomes of the pod, told by a plain model. -/
import Derived.Test.YtefcchnmgnlanaaSet
import Derived.Test.YtefcchnmgnlanaaChg
import Derived.Test.YtefcchnmgnlanaaProg
import Derived.WalkKit
import Derived.WalkLawsBesides
import Derived.WalkSpells
import Derived.Outline
import Derived.Deep.QuietTactic
import Derived.BigQuiet
import Derived.Lib.Hide
import Derived.Laws.EntriesVeiled
namespace Go.Proofs.Ytefcchnmgnlanaa
open Go.RowKit Go.Maps

/-- A pod: its state, how many it may have, its requests. -/
structure PodM where
  st : Int
  room : Int
  S : List Int

def PodM.fin (m : PodM) : PodM := if m.st = 3 ∧ m.S = [] then { m with st := 4 } else m
def PodM.up (m : PodM) : Int × PodM := if m.st = 1 then (0, { m with st := 2 }) else (9, m)
def PodM.drain (m : PodM) : Int × PodM := if m.st = 1 ∨ m.st = 2 then (0, PodM.fin { m with st := 3 }) else (9, m)
def PodM.take (m : PodM) (x : Int) : Int × PodM := if m.st ≠ 2 then (9, m) else if x ∈ m.S then (5, m) else if m.room ≤ m.S.length then (8, m) else (0, { m with S := x :: m.S })
def PodM.give (m : PodM) (x : Int) : Int × PodM := if x ∈ m.S then (0, PodM.fin { m with S := m.S.erase x }) else (6, m.fin)

/-- The pod m lies at block p of w, its map at block mb. -/
structure PodAt (w : World) (p mb : Nat) (m : PodM) : Prop where
  blk : Blk w p #[.int .i64 m.st, .map (some mb), .int .i64 m.room] 47
  set : OwnsSet w Try.prog 3 4 mb m.S
  ne : p ≠ mb

theorem PodAt.chg {F : Nat → Prop} {w w' : World} {p mb : Nat} {m : PodM} (h : PodAt w p mb m) (hc : Chg F w w') (h1 : ¬ F p) (h2 : ¬ F mb) : PodAt w' p mb m :=
  ⟨h.blk.chg hc h1, h.set.same (hc.block mb h.set.lt h2), h.ne⟩

/-- What a pod's method may change. -/
abbrev PF (p mb : Nat) : Nat → Prop := fun k => k = p ∨ k = mb

theorem state_calls {w : World} {p mb : Nat} {m : PodM} (h : PodAt w p mb m) :
    Calls Try.prog 16 #[.pointer (some ⟨p, 0, none⟩)] w fun e w' => e = .returned (.int .i64 m.st) ∧ w = w' := by
  have c0 := h.blk.cell 0
  simp at c0
  go_enter Try.func16, Try.ntmps16
  go_wp2
  go_ret
  exact ⟨rfl, rfl⟩

theorem load_calls {w : World} {p mb : Nat} {m : PodM} (h : PodAt w p mb m) :
    Calls Try.prog 15 #[.pointer (some ⟨p, 0, none⟩)] w fun e w' => e = .returned (.int .i64 m.S.length) ∧ w = w' := by
  have c1 := h.blk.cell 1
  simp at c1
  go_enter Try.func15, Try.ntmps15
  go_wp2_with (at_len; refine wpList_len_set _ rfl _ 43 rfl 3 4 Try.underlying43 mb m.S rfl h.set ?_)
  go_ret
  exact ⟨rfl, rfl⟩

theorem up_calls {w : World} {p mb : Nat} {m : PodM} (h : PodAt w p mb m) :
    Calls Try.prog 12 #[.pointer (some ⟨p, 0, none⟩)] w fun e w' => e = .returned (.int .i64 m.up.1) ∧ PodAt w' p mb m.up.2 ∧ Chg (PF p mb) w w' := by
  have c0 := h.blk.cell 0
  have f0 := h.blk.frozen 0
  simp at c0
  by_cases e : m.st = 1
  · have hu : m.up = (0, { m with st := 2 }) := by simp [PodM.up, e]
    rw [hu]; clear hu
    have e1 : (m.st != 1) = false := by simp [e]
    have H := Lib.hid e; clear e
    go_enter Try.func12, Try.ntmps12
    go_wp2
    go_ret
    exact ⟨rfl, ⟨h.blk.set 0 _ rfl, h.set.same (Below.heap_setCell _ _ _ _ h.ne.symm), h.ne⟩, (Chg.refl _ _).setCell (fun _ => .inl rfl) _⟩
  · have hu : m.up = (9, m) := by simp [PodM.up, e]
    rw [hu]; clear hu
    have e1 : (m.st != 1) = true := by simp [e]
    clear e
    go_enter Try.func12, Try.ntmps12
    go_wp2
    go_ret
    exact ⟨rfl, h, Chg.refl _ _⟩


theorem zero4 (w : World) : (zeroValue 4).run Try.prog w = .ok (.bool false) w := by kernel_rfl

theorem put_twice {w : World} {p mb : Nat} {m : PodM} (h : PodAt w p mb m) (x : Int) (hw : (Lit.int .i64 x).wf = true) (hx : x ∈ m.S) :
    Calls Try.prog 28 #[.pointer (some ⟨p, 1, none⟩), .int .i64 x] w fun e w' => e = .returned (.int .i64 5) ∧ w = w' := by
  have c1 := h.blk.cell 1
  simp at c1
  go_enter Try.func28, Try.ntmps28
  go_wp2_with (at_lookup; refine wpList_lookup_set _ rfl _ _ 43 rfl 3 4 Try.underlying3 Try.underlying43 Try.underlying4 (zero4 _) mb m.S rfl h.set x rfl hw true (decide_eq_true hx) ?_)
  go_ret
  exact ⟨rfl, rfl⟩

theorem put_any {w : World} {p mb : Nat} {m : PodM} (h : PodAt w p mb m) (x : Int) (hw : (Lit.int .i64 x).wf = true) (hx : x ∉ m.S) (hr : m.S.length ≤ 1000) :
    Calls Try.prog 28 #[.pointer (some ⟨p, 1, none⟩), .int .i64 x] w fun e w' => e = .returned (.int .i64 (if m.room ≤ m.S.length then 8 else 0)) ∧ PodAt w' p mb (if m.room ≤ m.S.length then m else { m with S := x :: m.S }) ∧ Chg (PF p mb) w w' := by
  have c1 := h.blk.cell 1
  have c2 := h.blk.cell 2
  simp at c1 c2
  have hl : ∀ n, (Builtin.len_ #[43] 3 #[.map (some mb)]).run Try.prog (w.drewN n) = .ok (.int .i64 m.S.length) (w.drewN n) := fun n => by
    obtain ⟨D, hD, hs⟩ := h.set
    rw [← hs.size_]
    exact World.ownsMap.len (w := w.drewN n) hD Try.underlying43 _
  by_cases e : m.room ≤ m.S.length
  · rw [if_pos e, if_pos e]
    go_enter Try.func28, Try.ntmps28
    go_wp2_with (at_lookup; refine wpList_lookup_set _ rfl _ _ 43 rfl 3 4 Try.underlying3 Try.underlying43 Try.underlying4 (zero4 _) mb m.S rfl h.set x rfl hw false (decide_eq_false hx) ?_)
    go_quiet (fail)
    go_wp2
    go_ret
    exact ⟨rfl, h.chg ((Chg.refl (fun _ => False) _).drewN _) id id, (Chg.refl _ _).drewN _⟩
  · rw [if_neg e, if_neg e]
    go_enter Try.func28, Try.ntmps28
    go_wp2_with (at_lookup; refine wpList_lookup_set _ rfl _ _ 43 rfl 3 4 Try.underlying3 Try.underlying43 Try.underlying4 (zero4 _) mb m.S rfl h.set x rfl hw false (decide_eq_false hx) ?_)
    go_quiet (fail)
    have h' : PodAt (w.drewN nq) p mb m := h.chg ((Chg.refl (fun _ => False) _).drewN _) id id
    go_wp2_with (at_mapUpdate; refine wpList_put_set _ rfl _ _ _ 43 rfl 3 4 Try.underlying3 Try.underlying43 Try.underlying4 mb m.S rfl h'.set (by unfold maxLen; omega) x rfl hw rfl hx ?_; intro w1 hs1 ht1)
    go_ret
    exact ⟨rfl, ⟨h'.blk.chg (Chg.of_turned (F := fun k => k = mb) ht1 rfl) h.ne, hs1, h.ne⟩, ((Chg.refl _ _).drewN _).turned ht1 (fun _ => .inr rfl)⟩

theorem bagtake_none {w : World} {p mb : Nat} {m : PodM} (h : PodAt w p mb m) (x : Int) (hw : (Lit.int .i64 x).wf = true) (hx : x ∉ m.S) :
    Calls Try.prog 29 #[.pointer (some ⟨p, 1, none⟩), .int .i64 x] w fun e w' => e = .returned (.int .i64 6) ∧ w = w' := by
  have c1 := h.blk.cell 1
  simp at c1
  go_enter Try.func29, Try.ntmps29
  go_wp2_with (at_lookup; refine wpList_lookup_set _ rfl _ _ 43 rfl 3 4 Try.underlying3 Try.underlying43 Try.underlying4 (zero4 _) mb m.S rfl h.set x rfl hw false (decide_eq_false hx) ?_)
  go_ret
  exact ⟨rfl, rfl⟩

theorem bagtake_one {w : World} {p mb : Nat} {m : PodM} (h : PodAt w p mb m) (x : Int) (hw : (Lit.int .i64 x).wf = true) (hx : x ∈ m.S) :
    Calls Try.prog 29 #[.pointer (some ⟨p, 1, none⟩), .int .i64 x] w fun e w' => e = .returned (.int .i64 0) ∧ PodAt w' p mb { m with S := m.S.erase x } ∧ Chg (PF p mb) w w' := by
  have c1 := h.blk.cell 1
  simp at c1
  go_enter Try.func29, Try.ntmps29
  go_wp2_with (first
    | (at_lookup; refine wpList_lookup_set _ rfl _ _ 43 rfl 3 4 Try.underlying3 Try.underlying43 Try.underlying4 (zero4 _) mb m.S rfl h.set x rfl hw true (decide_eq_true hx) ?_)
    | (at_delete; refine wpList_del_set _ rfl _ _ 43 3 rfl 4 Try.underlying3 Try.underlying43 mb m.S rfl h.set x rfl hw ?_; intro w1 hs1 ht1))
  go_ret
  exact ⟨rfl, ⟨h.blk.chg (Chg.of_turned (F := fun k => k = mb) ht1 rfl) h.ne, hs1, h.ne⟩, (Chg.refl _ _).turned ht1 (fun _ => .inr rfl)⟩

theorem take_calls {w : World} {p mb : Nat} {m : PodM} (h : PodAt w p mb m) (x : Int) (hw : (Lit.int .i64 x).wf = true) (hr : m.S.length ≤ 1000) :
    Calls Try.prog 13 #[.pointer (some ⟨p, 0, none⟩), .int .i64 x] w fun e w' => e = .returned (.int .i64 (m.take x).1) ∧ PodAt w' p mb (m.take x).2 ∧ Chg (PF p mb) w w' := by
  have c0 := h.blk.cell 0
  simp at c0
  by_cases e : m.st = 2
  · have e1 : (m.st != 2) = false := by simp [e]
    have H := Lib.hid e; clear e
    by_cases hx : x ∈ m.S
    · have hu : m.take x = (5, m) := by simp [PodM.take, H.out, hx]
      rw [hu]; clear hu
      have HX := Lib.hid hx; clear hx
      go_enter Try.func13, Try.ntmps13
      go_wp2_with (go_at_call 28; refine (put_twice h x hw HX.out).mono ?_; rintro e w' ⟨rfl, rfl⟩)
      go_ret
      exact ⟨rfl, h, Chg.refl _ _⟩
    · have hu : m.take x = (if m.room ≤ m.S.length then 8 else 0, if m.room ≤ m.S.length then m else { m with S := x :: m.S }) := by
        simp only [PodM.take, H.out, hx]; simp; split <;> rfl
      rw [hu]; clear hu
      have HX := Lib.hid hx; clear hx
      generalize hv : (if m.room ≤ m.S.length then (8 : Int) else 0) = v
      generalize hm : (if m.room ≤ m.S.length then m else { m with S := x :: m.S }) = m2
      have hp := put_any h x hw HX.out hr
      rw [hv, hm] at hp
      have HP := Lib.hid hp; clear hp hv hm
      go_enter Try.func13, Try.ntmps13
      go_wp2_with (go_at_call 28; refine HP.out.mono ?_; rintro e w' ⟨rfl, h2, hc2⟩)
      go_ret
      exact ⟨rfl, h2, hc2⟩
  · have hu : m.take x = (9, m) := by simp [PodM.take, e]
    rw [hu]; clear hu
    have e1 : (m.st != 2) = true := by simp [e]
    clear e
    go_enter Try.func13, Try.ntmps13
    go_wp2
    go_ret
    exact ⟨rfl, h, Chg.refl _ _⟩

theorem end_calls {w : World} {p mb : Nat} {m : PodM} (h : PodAt w p mb m) :
    Calls Try.prog 30 #[.pointer (some ⟨p, 0, none⟩)] w fun e w' => e = .returned (.tuple #[]) ∧ PodAt w' p mb m.fin ∧ Chg (PF p mb) w w' := by
  have c0 := h.blk.cell 0
  have f0 := h.blk.frozen 0
  simp at c0
  by_cases e : m.st = 3
  · have e1 : (m.st == 3) = true := by simp [e]
    have H := Lib.hid e; clear e
    by_cases hx : m.S = []
    · have hu : m.fin = { m with st := 4 } := by simp [PodM.fin, H.out, hx]
      rw [hu]; clear hu
      have hz : (((m.S.length : Nat) : Int) == 0) = true := by simp [hx]
      have HX := Lib.hid hx; clear hx
      go_enter Try.func30, Try.ntmps30
      go_wp2_with (go_at_call 15; refine (load_calls h).mono ?_; rintro e w' ⟨rfl, rfl⟩)
      go_end0
      exact ⟨rfl, ⟨h.blk.set 0 _ rfl, h.set.same (Below.heap_setCell _ _ _ _ h.ne.symm), h.ne⟩, (Chg.refl _ _).setCell (fun _ => .inl rfl) _⟩
    · have hu : m.fin = m := by simp [PodM.fin, hx]
      rw [hu]; clear hu
      have hz : (((m.S.length : Nat) : Int) == 0) = false := by simp [hx]
      clear hx
      go_enter Try.func30, Try.ntmps30
      go_wp2_with (go_at_call 15; refine (load_calls h).mono ?_; rintro e w' ⟨rfl, rfl⟩)
      go_end0
      exact ⟨rfl, h, Chg.refl _ _⟩
  · have hu : m.fin = m := by simp [PodM.fin, e]
    rw [hu]; clear hu
    have e1 : (m.st == 3) = false := by simp [e]
    clear e
    go_enter Try.func30, Try.ntmps30
    go_wp2
    go_end0
    exact ⟨rfl, h, Chg.refl _ _⟩

theorem give_calls {w : World} {p mb : Nat} {m : PodM} (h : PodAt w p mb m) (x : Int) (hw : (Lit.int .i64 x).wf = true) :
    Calls Try.prog 14 #[.pointer (some ⟨p, 0, none⟩), .int .i64 x] w fun e w' => e = .returned (.int .i64 (m.give x).1) ∧ PodAt w' p mb (m.give x).2 ∧ Chg (PF p mb) w w' := by
  by_cases hx : x ∈ m.S
  · have hu : m.give x = (0, PodM.fin { m with S := m.S.erase x }) := by simp [PodM.give, hx]
    rw [hu]; clear hu
    have HX := Lib.hid hx; clear hx
    go_enter Try.func14, Try.ntmps14
    go_wp2_with fail
    refine (bagtake_one h x hw HX.out).mono ?_
    rintro e w1 ⟨rfl, h1, hc1⟩
    go_wp2_with fail
    refine (end_calls h1).mono ?_
    rintro e w2 ⟨rfl, h2, hc2⟩
    go_wp2_with fail
    go_ret
    exact ⟨rfl, h2, hc1.trans hc2 (fun _ _ h => h)⟩
  · have hu : m.give x = (6, m.fin) := by simp [PodM.give, hx]
    rw [hu]; clear hu
    have HX := Lib.hid hx; clear hx
    go_enter Try.func14, Try.ntmps14
    go_wp2_with fail
    refine (bagtake_none h x hw HX.out).mono ?_
    rintro e w1 ⟨rfl, rfl⟩
    go_wp2_with fail
    refine (end_calls h).mono ?_
    rintro e w2 ⟨rfl, h2, hc2⟩
    go_wp2_with fail
    go_ret
    exact ⟨rfl, h2, hc2⟩

theorem drain_calls {w : World} {p mb : Nat} {m : PodM} (h : PodAt w p mb m) :
    Calls Try.prog 24 #[.pointer (some ⟨p, 0, none⟩)] w fun e w' => e = .returned (.int .i64 m.drain.1) ∧ PodAt w' p mb m.drain.2 ∧ Chg (PF p mb) w w' := by
  have c0 := h.blk.cell 0
  have f0 := h.blk.frozen 0
  simp at c0
  by_cases e : m.st = 1 ∨ m.st = 2
  · have hu : m.drain = (0, PodM.fin { m with st := 3 }) := by simp [PodM.drain, e]
    rw [hu]; clear hu
    rcases e with e | e
    · have e1 : (m.st != 1) = false := by simp [e]
      clear e
      go_enter Try.func24, Try.ntmps24
      go_wp2_with fail
      have h1 : PodAt (w.setCell ⟨p, 0, none⟩ (.int .i64 3)) p mb { m with st := 3 } := ⟨h.blk.set 0 _ rfl, h.set.same (Below.heap_setCell _ _ _ _ h.ne.symm), h.ne⟩
      refine (end_calls h1).mono ?_
      rintro e w2 ⟨rfl, h2, hc2⟩
      go_wp2_with fail
      go_ret
      exact ⟨rfl, h2, ((Chg.refl _ _).setCell (fun _ => .inl rfl) _).trans hc2 (fun _ _ h => h)⟩
    · have e1 : (m.st != 1) = true := by simp [e]
      have e2 : (m.st != 2) = false := by simp [e]
      clear e
      go_enter Try.func24, Try.ntmps24
      go_wp2_with fail
      have h1 : PodAt (w.setCell ⟨p, 0, none⟩ (.int .i64 3)) p mb { m with st := 3 } := ⟨h.blk.set 0 _ rfl, h.set.same (Below.heap_setCell _ _ _ _ h.ne.symm), h.ne⟩
      refine (end_calls h1).mono ?_
      rintro e w2 ⟨rfl, h2, hc2⟩
      go_wp2_with fail
      go_ret
      exact ⟨rfl, h2, ((Chg.refl _ _).setCell (fun _ => .inl rfl) _).trans hc2 (fun _ _ h => h)⟩
  · have hu : m.drain = (9, m) := by simp [PodM.drain, e]
    rw [hu]; clear hu
    have e1 : (m.st != 1) = true := by simp; omega
    have e2 : (m.st != 2) = true := by simp; omega
    clear e
    go_enter Try.func24, Try.ntmps24
    go_wp2
    go_ret
    exact ⟨rfl, h, Chg.refl _ _⟩

/-- A new pod, its two blocks new. -/
theorem new_calls (w : World) (room : Int) :
    Calls Try.prog 11 #[.int .i64 room] w fun e w' => ∃ p mb, e = .returned (.pointer (some ⟨p, 0, none⟩)) ∧ PodAt w' p mb ⟨1, room, []⟩ ∧ w.heap.size ≤ p ∧ w.heap.size ≤ mb ∧ Below w.heap.size w w' := by
  have hmm := @run_makeMap Try.prog
  go_enter Try.func11, Try.ntmps11
  go_wp2
  go_ret
  refine ⟨w.heap.size + 1, w.heap.size, rfl, ⟨?_, ?_, ?_⟩, by omega, by omega, ((Below.refl _ _).alloc (Nat.le_refl _) _).alloc (by simp) _⟩
  · have := Blk.new (w.alloc (.map #[] 0)) #[.int .i64 1, .map (some w.heap.size), .int .i64 room] 47
    simpa using this
  · exact (OwnsSet.made w _ _ _).same (Below.heap_alloc _ _ _ (by simp))
  · omega

/-- Go's remainder, made not negative. -/
def Wi (a n : Int) : Int := a % n
theorem Wi.lo {a n : Int} (h : 1 ≤ n) : 0 ≤ Wi a n := Int.emod_nonneg a (by omega)
theorem Wi.hi {a n : Int} (h : 1 ≤ n) : Wi a n < n := Int.emod_lt_of_pos a (by omega)

theorem ret_int {k : IntKind} {a b : Int} (h : a = b) : Ending.returned (.int k a) = .returned (.int k b) := by rw [h]

theorem tmod_facts (a n : Int) (h1 : 1 ≤ n) (ha : a < 0) : (a.tmod n < 0 → a.tmod n + n = Wi a n) ∧ (¬ a.tmod n < 0 → a.tmod n = Wi a n) ∧ -n < a.tmod n ∧ a.tmod n ≤ 0 := by
  have l1 := Int.emod_nonneg a (b := n) (by omega)
  have l2 := Int.emod_lt_of_pos a (b := n) (by omega)
  have h3 : (n.natAbs : Int) = n := by omega
  have := Int.tmod_eq_emod (a := a) (b := n)
  unfold Wi
  by_cases hd : n ∣ a
  · rw [if_pos (.inr hd)] at this
    have := Int.emod_eq_zero_of_dvd hd
    omega
  · rw [if_neg (by omega)] at this
    have : a % n ≠ 0 := fun h => hd (Int.dvd_of_emod_eq_zero h)
    omega

theorem within_calls (a n : Int) (w : World) (h1 : 1 ≤ n) (h2 : n ≤ 4611686018427387904) :
    Calls Try.prog 10 #[.int .i64 a, .int .i64 n] w fun e w' => e = .returned (.int .i64 (Wi a n)) ∧ w = w' := by
  by_cases ha : 0 ≤ a
  · have l1 := Int.emod_nonneg a (b := n) (by omega)
    have l2 := Int.emod_lt_of_pos a (b := n) (by omega)
    go_enter Try.func10, Try.ntmps10
    go_wp2
    go_ret
    exact ⟨rfl, rfl⟩
  · obtain ⟨f1, f2, f3, f4⟩ := tmod_facts a n h1 (by omega)
    have F1 := Lib.hid f1; have F2 := Lib.hid f2
    clear f1 f2
    by_cases hneg : a.tmod n < 0
    · go_enter Try.func10, Try.ntmps10
      go_wp2
      go_ret
      exact ⟨ret_int (F1.out hneg), rfl⟩
    · go_enter Try.func10, Try.ntmps10
      go_wp2
      go_ret
      exact ⟨ret_int (F2.out hneg), rfl⟩

end Go.Proofs.Ytefcchnmgnlanaa
