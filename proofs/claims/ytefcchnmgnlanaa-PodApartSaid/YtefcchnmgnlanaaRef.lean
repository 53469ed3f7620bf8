/- The document's pod, its methods, by a plain model. -/
import Derived.Test.YtefcchnmgnlanaaKill
import Derived.Test.YtefcchnmgnlanaaApp
import Derived.Deep.RegionHeld3
namespace Go.Proofs.Ytefcchnmgnlanaa
open Go.RowKit Go.Maps

/-- The document's pod: how many it may have, its state, its requests. -/
structure RefM where
  conc : Int
  st : Int
  L : List Int

def RefM.up (m : RefM) : Int × RefM := if m.st = 1 then (0, { m with st := 2 }) else (9, m)
def RefM.drain (m : RefM) : Int × RefM := if m.st = 1 ∨ m.st = 2 then (0, { m with st := if m.L = [] then 4 else 3 }) else (9, m)
def insI (x : Int) (l : List Int) : List Int := l.takeWhile (fun y => decide (y < x)) ++ [x] ++ l.dropWhile (fun y => decide (y < x))
def RefM.take (m : RefM) (x : Int) : Int × RefM := if m.st ≠ 2 then (9, m) else if x ∈ m.L then (5, m) else if m.conc ≤ m.L.length then (8, m) else (0, { m with L := insI x m.L })
def RefM.give (m : RefM) (x : Int) : Int × RefM := if x ∈ m.L then (0, { m with L := m.L.filter (fun y => decide (y ≠ x)), st := if m.st = 3 ∧ m.L.filter (fun y => decide (y ≠ x)) = [] then 4 else m.st }) else (6, m)

/-- The document's pod m lies at block x of w. -/
def RefAt (w : World) (x : Nat) (m : RefM) : Prop := ∃ v, Blk w x #[.int .i64 m.conc, .int .i64 m.st, v] 54 ∧ Row w (x + 1) v m.L ∧ (v = .slice none 0 0 ↔ m.L = [])

/-- What its methods may change. -/
abbrev XF (x : Nat) : Nat → Prop := fun k => k = x

theorem RefAt.chg {F : Nat → Prop} {w w' : World} {x : Nat} {m : RefM} (h : RefAt w x m) (hc : Chg F w w') (h1 : ∀ k, x ≤ k → ¬ F k) : RefAt w' x m := by
  obtain ⟨v, hb, hr, hn⟩ := h
  exact ⟨v, hb.chg hc (h1 x (Nat.le_refl _)), hr.chg hc (fun k hk => h1 k (by omega)), hn⟩

theorem rnew_calls (w : World) (conc : Int) :
    Calls Try.prog 19 #[.int .i64 conc] w fun e w' => ∃ x, e = .returned (.pointer (some ⟨x, 0, none⟩)) ∧ RefAt w' x ⟨conc, 1, []⟩ ∧ w.heap.size ≤ x ∧ Below w.heap.size w w' := by
  go_enter Try.func19, Try.ntmps19
  go_wp2
  go_ret
  exact ⟨w.heap.size, rfl, ⟨_, Blk.new _ _ _, World.ownsRow_nil _ _ _ _, by simp⟩, by omega, (Below.refl _ _).alloc (Nat.le_refl _) _⟩

theorem rstate_calls {w : World} {x : Nat} {m : RefM} (h : RefAt w x m) :
    Calls Try.prog 27 #[.pointer (some ⟨x, 0, none⟩)] w fun e w' => e = .returned (.int .i64 m.st) ∧ w = w' := by
  obtain ⟨v, hb, hr, _⟩ := h
  have c1 := hb.cell 1
  simp at c1
  go_enter Try.func27, Try.ntmps27
  go_wp2
  go_ret
  exact ⟨rfl, rfl⟩

theorem rload_calls {w : World} {x : Nat} {m : RefM} (h : RefAt w x m) :
    Calls Try.prog 22 #[.pointer (some ⟨x, 0, none⟩)] w fun e w' => e = .returned (.int .i64 m.L.length) ∧ w = w' := by
  obtain ⟨v, hb, hr, _⟩ := h
  have c2 := hb.cell 2
  simp at c2
  obtain ⟨A, c, rfl, _⟩ := hr.shape
  go_enter Try.func22, Try.ntmps22
  go_wp2
  go_ret
  exact ⟨rfl, rfl⟩

theorem rup_calls {w : World} {x : Nat} {m : RefM} (h : RefAt w x m) :
    Calls Try.prog 20 #[.pointer (some ⟨x, 0, none⟩)] w fun e w' => e = .returned (.int .i64 m.up.1) ∧ RefAt w' x m.up.2 ∧ Chg (XF x) w w' := by
  by_cases e : m.st = 1
  · have hu : m.up = (0, { m with st := 2 }) := by simp [RefM.up, e]
    rw [hu]; clear hu
    obtain ⟨v, hb, hr, hn⟩ := h
    have HN := Lib.hid hn
    clear hn
    have c1 := hb.cell 1
    have f1 := hb.frozen 1
    simp at c1
    have e1 : (m.st != 1) = false := by simp [e]
    have H := Lib.hid e; clear e
    go_enter Try.func20, Try.ntmps20
    go_wp2
    go_ret
    have hc : Chg (XF x) w (w.setCell ⟨x, 1, none⟩ (.int .i64 2)) := (Chg.refl (XF x) w).setCell (a := ⟨x, 1, none⟩) (fun _ => rfl) _
    exact ⟨rfl, ⟨v, hb.set 1 _ rfl, hr.chg hc (fun k hk hF => by have : k = x := hF; omega), HN.out⟩, hc⟩
  · have hu : m.up = (9, m) := by simp [RefM.up, e]
    rw [hu]; clear hu
    have h' := h
    obtain ⟨v, hb, hr, _⟩ := h
    have c1 := hb.cell 1
    simp at c1
    have e1 : (m.st != 1) = true := by simp [e]
    clear e
    go_enter Try.func20, Try.ntmps20
    go_wp2
    go_ret
    exact ⟨rfl, h', Chg.refl _ _⟩

theorem has_calls {w : World} {x : Nat} {m : RefM} (h : RefAt w x m) (id : Int) (hr : m.L.length ≤ 1000) (c : Bool) (hc : decide (id ∈ m.L) = c) :
    Calls Try.prog 34 #[.pointer (some ⟨x, 0, none⟩), .int .i64 id] w fun e w' => e = .returned (.bool c) ∧ w = w' := by
  obtain ⟨v, hb, hrow, _⟩ := h
  have c2 := hb.cell 2
  simp at c2
  obtain ⟨A, cp, rfl, hsh⟩ := hrow.shape
  clear hb hrow
  have HC := Lib.hid hc
  clear hc
  go_enter Try.func34, Try.ntmps34
  go_wp2_with fail
  go_loop [5] (fun v => ∃ i : Nat, i ≤ m.L.length ∧ v = .int .i64 i ∧ Hid (id ∉ m.L.take i)) (fun v => m.L.length - (vInt v).toNat)
  case atStart => exact ⟨0, by omega, rfl, by simp [Hid]⟩
  case round =>
    obtain ⟨i, hi, rfl, hn⟩ := hrel
    by_cases hlt : i < m.L.length
    · obtain ⟨g, rfl, hg, hgl, hcell⟩ := hsh (by omega)
      have hce := hcell i hlt
      have hd : m.L.take (i + 1) = m.L.take i ++ [m.L.getD i 0] := by
        rw [List.take_succ_eq_append_getElem hlt]
        simp [List.getD_eq_getElem?_getD, hlt]
      have hmem : m.L.getD i 0 ∈ m.L := by
        have : m.L.getD i 0 = m.L[i] := by simp [List.getD_eq_getElem?_getD, hlt]
        rw [this]; exact List.getElem_mem hlt
      have HD := Lib.hid hd
      have HM := Lib.hid hmem
      clear hcell hd hmem hsh
      generalize hq : m.L.getD i 0 = q at hce HD HM
      clear hq
      by_cases e : q = id
      · have e1 : (q == id) = true := by simp [e]
        have hh : c = true := by rw [← HC.out]; exact decide_eq_true (e ▸ HM.out)
        clear e
        subst hh
        go_wp2_with fail
        go_ret
        exact ⟨rfl, rfl⟩
      · have e1 : (q == id) = false := by simp [e]
        have hn' := Lib.hid (show id ∉ m.L.take (i + 1) from by rw [HD.out]; intro h; rcases List.mem_append.1 h with h | h
                                                                · exact hn.out h
                                                                · simp at h; exact e h.symm)
        clear e
        go_wp2_with fail
        go_round
        case rel => exact ⟨i + 1, by omega, by go_num, hn'⟩
        case measure => simp [vInt]; omega
    · have hh : c = false := by rw [← HC.out]; exact decide_eq_false (fun h => hn.out (by rw [List.take_of_length_le (by omega)]; exact h))
      subst hh
      go_wp2_with fail
      go_ret
      exact ⟨rfl, rfl⟩

end Go.Proofs.Ytefcchnmgnlanaa
