/- The document's pod: Drain, Kill, Give. -/
import Derived.Test.YtefcchnmgnlanaaRefTake
namespace Go.Proofs.Ytefcchnmgnlanaa
open Go.RowKit Go.Maps Go.Sort

/-- append, onto a row that is new since B, in a plain region. -/
theorem list_app {ops : Array Oper} {rest : List Oper} {o : Oper} {a : Act} {Q : Exit → Act → World → Prop} (w : World) (hgd : o.guard = none) (s x : Operand) (ho : o.op = .call { callee := .builtin .append, args := #[s, x], argTypes := #[22, 22] })
    (B : Nat) (v : Value) (xs : List Int) (hs : a.eval s = v) (hown : Row w B v xs)
    (A : Option Addr) (m c : Nat) (ys : List Int) (hx : a.eval x = .slice A m c) (hm : ys.length = m) (hsrc : SrcI w A ys) (hn : xs.length ≤ 1000000) (hm6 : m ≤ 1000000) (hB : B ≤ w.heap.size)
    (h : ∀ v' w', Row w' B v' (xs ++ ys) → Below B w w' → (v' = .slice none 0 0 ↔ v = .slice none 0 0 ∧ m = 0) → wpList Try.prog ops Q rest (a.put o.dst v') w') : wpList Try.prog ops Q (o :: rest) a w := by
  obtain ⟨i0, hi, hz0, hz1, hz2⟩ := info_parts info3
  subst hm
  have hown' : w.ownsRow B 3 1 v xs.length (xs.map encZ) := hown
  refine wpList_append_any (P := Try.prog) w hgd s x 22 ho B 3 i0 (.int .i64 0) 1 8 Try.underlying22 hi hz0 hz1 hz2 rfl (by omega) v xs.length (xs.map encZ) hs hown' A ys.length c (ys.map encZ) hx (by simp) hsrc
    (fun u hu => by obtain ⟨y, _, rfl⟩ := List.mem_map.1 hu; rfl) (by unfold maxLen; omega) (by omega) hB ?_
  intro v' w' h1 h2 h3 h4
  refine h v' w' (Row.of_ins (by rw [List.map_append]; exact h1) (by simp)) ?_ h3
  refine ⟨h2.os, h2.tape, h2.output, h2.size, fun k hk => h2.block k (Nat.lt_of_lt_of_le hk hB) ?_⟩
  rcases hown'.2 with ⟨rfl, _⟩ | ⟨g, cap, cur, rfl, hg, _⟩
  · simp [Value.ownBlock]
  · simp [Value.ownBlock]; omega

theorem rdrain_calls {w : World} {x : Nat} {m : RefM} (h : RefAt w x m) :
    Calls Try.prog 25 #[.pointer (some ⟨x, 0, none⟩)] w fun e w' => e = .returned (.int .i64 m.drain.1) ∧ RefAt w' x m.drain.2 ∧ Chg (XF x) w w' := by
  have h' := h
  obtain ⟨conc, st, L⟩ := m
  obtain ⟨v, hb0, hrow, hnil⟩ := h
  have hb : Blk w x #[.int .i64 conc, .int .i64 st, v] 54 := hb0
  change Row w (x + 1) v L at hrow
  change v = .slice none 0 0 ↔ L = [] at hnil
  clear hb0
  have c1 := hb.cell 1
  have c2 := hb.cell 2
  have f1 := hb.frozen 1
  simp at c1 c2
  obtain ⟨A, cp, rfl, hsh⟩ := hrow.shape
  clear hsh
  have HNIL := Lib.hid hnil
  clear hnil
  by_cases e : st = 1 ∨ st = 2
  · have hu : RefM.drain ⟨conc, st, L⟩ = (0, ⟨conc, if L = [] then 4 else 3, L⟩) := by simp [RefM.drain, e]
    rw [hu]; clear hu h'
    have hc1 : Chg (XF x) w (w.setCell ⟨x, 1, none⟩ (.int .i64 4)) := (Chg.refl (XF x) w).setCell (a := ⟨x, 1, none⟩) (fun _ => rfl) _
    have hc2 : Chg (XF x) w (w.setCell ⟨x, 1, none⟩ (.int .i64 3)) := (Chg.refl (XF x) w).setCell (a := ⟨x, 1, none⟩) (fun _ => rfl) _
    by_cases hL : L = []
    · rw [if_pos hL]
      have hl : L.length = 0 := by rw [hL]; rfl
      have e2 : (0 < L.length) = False := by simp [hl]
      have hl' : L.length ≤ 0 := by omega
      have E2 := Lib.hid e2
      clear hL hl e2
      rcases e with e | e
      · have e1 : (st != 1) = false := by simp [e]
        clear e
        go_enter Try.func25, Try.ntmps25
        go_wp2
        go_ret
        exact ⟨rfl, ⟨_, hb.set 1 _ rfl, hrow.chg hc1 (fun k hk hF => by have : k = x := hF; omega), HNIL.out⟩, hc1⟩
      · have e1 : (st != 1) = true := by simp [e]
        have e2 : (st != 2) = false := by simp [e]
        clear e
        go_enter Try.func25, Try.ntmps25
        go_wp2
        go_ret
        exact ⟨rfl, ⟨_, hb.set 1 _ rfl, hrow.chg hc1 (fun k hk hF => by have : k = x := hF; omega), HNIL.out⟩, hc1⟩
    · rw [if_neg hL]
      have hl : 0 < L.length := List.length_pos_iff.2 hL
      clear hL
      rcases e with e | e
      · have e1 : (st != 1) = false := by simp [e]
        clear e
        go_enter Try.func25, Try.ntmps25
        go_wp2
        go_ret
        have hq : Chg (XF x) w ((w.setCell ⟨x, 1, none⟩ (.int .i64 4)).setCell ⟨x, 1, none⟩ (.int .i64 3)) := hc1.setCell (a := ⟨x, 1, none⟩) (fun _ => rfl) _
        have hs1 := hb.set 1 (.int .i64 4) rfl
        exact ⟨rfl, ⟨_, hs1.set 1 _ rfl, hrow.chg hq (fun k hk hF => by have : k = x := hF; omega), HNIL.out⟩, hq⟩
      · have e1 : (st != 1) = true := by simp [e]
        have e2 : (st != 2) = false := by simp [e]
        clear e
        go_enter Try.func25, Try.ntmps25
        go_wp2
        go_ret
        have hq : Chg (XF x) w ((w.setCell ⟨x, 1, none⟩ (.int .i64 4)).setCell ⟨x, 1, none⟩ (.int .i64 3)) := hc1.setCell (a := ⟨x, 1, none⟩) (fun _ => rfl) _
        have hs1 := hb.set 1 (.int .i64 4) rfl
        exact ⟨rfl, ⟨_, hs1.set 1 _ rfl, hrow.chg hq (fun k hk hF => by have : k = x := hF; omega), HNIL.out⟩, hq⟩
  · have hu : RefM.drain ⟨conc, st, L⟩ = (9, ⟨conc, st, L⟩) := by simp [RefM.drain, e]
    rw [hu]; clear hu
    have e1 : (st != 1) = true := by simp; omega
    have e2 : (st != 2) = true := by simp; omega
    clear e
    go_enter Try.func25, Try.ntmps25
    go_wp2
    go_ret
    exact ⟨rfl, h', Chg.refl _ _⟩

theorem rkill_dead {w : World} {x : Nat} {m : RefM} (h : RefAt w x m) (e : m.st = 4) :
    Calls Try.prog 23 #[.pointer (some ⟨x, 0, none⟩)] w fun e w' => e = .returned (.tuple #[.slice none 0 0, .int .i64 9]) ∧ w = w' := by
  obtain ⟨v, hb, hrow, _⟩ := h
  have c1 := hb.cell 1
  simp at c1
  have e1 : (m.st == 4) = true := by simp [e]
  clear e
  go_enter Try.func23, Try.ntmps23
  go_wp2_with fail
  go_ret2
  exact ⟨rfl, rfl⟩

/-- Its requests, as they lay; it has none behind it. -/
theorem rkill_calls {w : World} {x : Nat} {m : RefM} (h : RefAt w x m) (e : m.st ≠ 4) :
    Calls Try.prog 23 #[.pointer (some ⟨x, 0, none⟩)] w fun e w' => ∃ v, e = .returned (.tuple #[v, .int .i64 0]) ∧ Row w' (x + 1) v m.L ∧ RefAt w' x { m with st := 4, L := [] } ∧ Chg (XF x) w w' := by
  obtain ⟨v, hb, hrow, _⟩ := h
  have c1 := hb.cell 1
  have c2 := hb.cell 2
  have f1 := hb.frozen 1
  have f2 := hb.frozen 2
  simp at c1 c2
  have e1 : (m.st == 4) = false := by simp [e]
  clear e
  obtain ⟨A, cp, rfl, hsh⟩ := hrow.shape
  clear hsh
  go_enter Try.func23, Try.ntmps23
  go_wp2_with fail
  go_ret2
  have hc1 : Chg (XF x) w ((w.setCell ⟨x, 1, none⟩ (.int .i64 4)).setCell ⟨x, 2, none⟩ (.slice none 0 0)) := ((Chg.refl (XF x) w).setCell (a := ⟨x, 1, none⟩) (fun _ => rfl) _).setCell (a := ⟨x, 2, none⟩) (fun _ => rfl) _
  have hs1 := hb.set 1 (.int .i64 4) rfl
  exact ⟨_, rfl, hrow.chg hc1 (fun k hk hF => by have : k = x := hF; omega), ⟨_, hs1.set 2 _ rfl, World.ownsRow_nil _ _ _ _, by simp⟩, hc1⟩

end Go.Proofs.Ytefcchnmgnlanaa
