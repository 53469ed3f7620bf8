/- damperlaw2's Route: what it makes. (Printed by route.py, route1.py, genx.py.) -/
import Derived.Test.YtnkmpkhiilnigaaGreatDoorSCfgB
import Derived.Test.YtnkmpkhiilnigaaGreatDoorDResM
set_option linter.unusedSimpArgs false
set_option linter.unusedVariables false
namespace Go.Proofs.YtnkmpkhiilnigaaGreatDoor.PR
open Go.RowKit Go.Shelf Go.Lib Go.Sort Go.Maps Go.Proofs.YtnkmpkhiilnigaaGreatDoor.PA Go.Proofs.YtnkmpkhiilnigaaGreatDoorW.PrintWords Go.Proofs.YtnkmpkhiilnigaaGreatDoorW.PrintLast

abbrev rA : Array Value := #[.string ⟨#[102, 114, 111, 110, 116]⟩, .string ⟨#[98, 97, 99, 107]⟩, .string ⟨#[114, 45, 49]⟩]
abbrev rB : Array Value := #[.string ⟨#[119, 101, 98]⟩, .string ⟨#[97, 112, 105]⟩, .string ⟨#[97, 45, 98]⟩]
abbrev zR : Array Value := #[.string ⟨#[]⟩, .string ⟨#[]⟩, .slice none 0 0, .int .i64 0]
def nA (k : Nat) : ByteArray := match k with | 0 => ⟨#[102, 114, 111, 110, 116]⟩ | 1 => ⟨#[98, 97, 99, 107]⟩ | _ => ⟨#[114, 45, 49]⟩
def nB (k : Nat) : ByteArray := match k with | 0 => ⟨#[119, 101, 98]⟩ | 1 => ⟨#[97, 112, 105]⟩ | _ => ⟨#[97, 45, 98]⟩
theorem rA_at {k : Nat} (h : k < 3) : rA[k]? = some (.string (nA k)) := by
  match k, h with
  | 0, _ => rfl
  | 1, _ => rfl
  | 2, _ => rfl
theorem rB_at {k : Nat} (h : k < 3) : rB[k]? = some (.string (nB k)) := by
  match k, h with
  | 0, _ => rfl
  | 1, _ => rfl
  | 2, _ => rfl
theorem nB_size (k : Nat) : (nB k).size ≤ 3 := by
  unfold nB
  split <;> decide
/-- A revision's name, of a configuration; or none. -/
def RevForm (cfg r : ByteArray) : Prop := r = ⟨#[]⟩ ∨ ∃ d : Nat, d < 4 ∧ r = cfg ++ ⟨#[45]⟩ ++ ⟨#[UInt8.ofNat (49 + d)]⟩
def TagForm (i : Nat) (t : ByteArray) : Prop := t = ⟨#[]⟩ ∨ t = ⟨#[116]⟩ ++ ⟨#[UInt8.ofNat (48 + i)]⟩
/-- The targets on the way. -/
structure RtL (cfg : ByteArray) (left : Int) (ts : List TgM) : Prop where
  pct : ∀ t ∈ ts, 0 ≤ t.pct ∧ t.pct ≤ 100
  rev : ∀ t ∈ ts, RevForm cfg t.rev
  tag : ∀ i (h : i < ts.length), TagForm i ts[i].tag
  sum : (ts.map (·.pct)).sum = 100 - left
  lo : 0 ≤ left
  hi : left ≤ 100
theorem RtL.nil (cfg : ByteArray) : RtL cfg 100 [] := ⟨fun t h => (by simp at h), fun t h => (by simp at h), fun i h => (by simp at h), rfl, by omega, by omega⟩
theorem RtL.snoc {cfg : ByteArray} {left : Int} {ts : List TgM} (h : RtL cfg left ts) {rv tg : ByteArray} {p : Int} (h0 : 0 ≤ p) (h1 : p ≤ left) (hr : RevForm cfg rv) (ht : TagForm ts.length tg) : RtL cfg (left - p) (ts ++ [⟨rv, tg, p⟩]) := by
  have := h.hi
  refine ⟨fun t hm => ?_, fun t hm => ?_, fun i hi => ?_, ?_, by omega, by omega⟩
  · rcases List.mem_append.1 hm with hm | hm
    · exact h.pct t hm
    · rw [List.mem_singleton.1 hm]; exact ⟨h0, by show p ≤ 100; omega⟩
  · rcases List.mem_append.1 hm with hm | hm
    · exact h.rev t hm
    · rw [List.mem_singleton.1 hm]; exact hr
  · by_cases hlt : i < ts.length
    · rw [List.getElem_append_left hlt]; exact h.tag i hlt
    · obtain rfl : i = ts.length := by simp at hi; omega
      rw [List.getElem_append_right (Nat.le_refl _)]
      simpa using ht
  · rw [List.map_append, List.sum_append, h.sum]
    simp
    omega
/-- Targets in a row. -/
def elTg : El Tryz.prog TgM := ⟨29, 70, fun t => [.string t.rev, .string t.tag, .int .i64 t.pct], 3, 40, .agg #[.string ⟨#[]⟩, .string ⟨#[]⟩, .int .i64 0], Tryz.underlying29, by kernel_rfl, rfl, by omega, by omega, fun _ => rfl, fun x u hu => by
  simp only [List.mem_cons, List.not_mem_nil, or_false] at hu
  rcases hu with rfl | rfl | rfl <;> rfl⟩
theorem tgs_row {w : World} {B c : Nat} {A : Option Addr} {ts : List TgM} (h : RowG elTg w B (.slice A ts.length c) ts) : TgsAt w A ts := fun hne => by
  have h0 : 0 < ts.length := List.length_pos_iff.2 hne
  obtain ⟨g, c', hv, _, _, _, hg, hc⟩ := h.cells h0
  cases hv
  refine ⟨g, 0, rfl, hg, fun i hi => ?_⟩
  have e0 := hc i hi 0 (by show 0 < 3; omega)
  have e1 := hc i hi 1 (by show 1 < 3; omega)
  have e2 := hc i hi 2 (by show 2 < 3; omega)
  rw [Nat.zero_add]
  exact ⟨e0, e1, e2⟩
theorem int_at {w : World} {A : Option Addr} {n : Nat} {xs : List Int} (h : Kd.C (Kd.int .i64) w A n xs) {j : Nat} (hj : j < n) : ∃ g o, A = some ⟨g, o, none⟩ ∧ g < w.heap.size ∧ w.cell? ⟨g, o + j, none⟩ = some (.int .i64 (rd xs (j : Int))) := by
  obtain ⟨ad, hA, hc0⟩ := Kd.at_int h (j : Int) (by omega) (by omega)
  obtain ⟨ad', hA', hz0⟩ := Kd.at_int h 0 (by omega) (by omega)
  rw [hA] at hA'
  cases hA'
  subst hA
  obtain ⟨g, o, sp⟩ := ad
  have hc : w.cell? ((⟨g, o, sp⟩ : Addr).add j) = some (.int .i64 (rd xs (j : Int))) := hc0
  have hz : w.cell? ((⟨g, o, sp⟩ : Addr).add 0) = some (.int .i64 (rd xs 0)) := hz0
  have hs : sp = none := by simpa [Addr.add] using World.cell?_spot hz
  subst hs
  rw [add_at] at hc
  exact ⟨g, o, rfl, PB.cell_lt hc, hc⟩
theorem byte_cell (w : World) (z : Int) : (w.alloc (.cells #[.int .u8 z] 5)).cell? ⟨w.heap.size, 0, none⟩ = some (.int .u8 z) := by
  have k := Blk.new w #[.int .u8 z] 5
  rw [k.cell]; rfl
theorem hold_byte (w : World) (z : Int) : ∃ g w5, w5 = w.alloc (.cells #[.int .u8 z] 5) ∧ g = w.heap.size ∧ w5.cell? ⟨g, 0, none⟩ = some (.int .u8 z) ∧ Below w.heap.size w w5 :=
  ⟨_, _, rfl, rfl, byte_cell w z, (Below.refl _ _).alloc (Nat.le_refl _) _⟩
theorem conv1 {w : World} {g : Nat} {u : UInt8} (h : w.cell? ⟨g, 0, none⟩ = some (.int .u8 (u.toNat : Int))) : (convert 71 9 (.slice (some ⟨g, 0, none⟩) 1 1)).run Tryz.prog w = .ok (.string ⟨#[u]⟩) w :=
  run_convert_bytes_back (P := Tryz.prog) w 71 9 5 ⟨g, 0, none⟩ 1 [u] Tryz.underlying71 Tryz.underlying5 Tryz.underlying9 (fun j hj => by
    obtain rfl : j = 0 := by simpa using hj
    exact h)
/-- What is there while the targets are made. -/
structure RtS (w : World) (b g6 g7 : Nat) (cs : Array Value) (v : Value) (ts : List TgM) (wx : World) : Prop where
  k7 : Blk wx g7 cs 31
  row : RowG elTg wx b v ts
  k6 : Blk wx g6 #[.string ⟨#[]⟩, .string ⟨#[]⟩, .slice none 0 0, .int .i64 0] 31
  bl : Below w.heap.size w wx
theorem RtS.below {w wx wy : World} {b g6 g7 : Nat} {cs : Array Value} {v : Value} {ts : List TgM} (h : RtS w b g6 g7 cs v ts wx) (hb : Below wx.heap.size wx wy) : RtS w b g6 g7 cs v ts wy :=
  ⟨h.k7.below hb h.k7.lt, h.row.below hb (Nat.le_refl _), h.k6.below hb h.k6.lt, stepB h.bl hb⟩
/-- What Route makes. -/
def RtPost (w : World) (e : Ending) (w' : World) : Prop := ∃ nm cfg rl T c ts k, e = .returned (.agg #[.string nm, .string cfg, .slice T (ts : List TgM).length c, .int .i64 rl]) ∧ TgsAt w' T ts ∧ RtL cfg 0 ts ∧ ts.length ≤ 6 ∧ cfg = nB k ∧ Below w.heap.size w w'
/-- What is made on the way through region 1. -/
structure RtF (w : World) (a b c : Bool) (s : Nat × Nat × Nat) (w' : World) : Prop where
  A : a = true → Blk w' s.1 rA 9
  B : b = true → Blk w' s.2.1 rB 9
  C : c = true → Blk w' s.2.2 zR 31 ∧ w.heap.size ≤ s.2.2
  bl : Below w.heap.size w w'
section
variable {w w1 w2 : World} {a b c : Bool} {s : Nat × Nat × Nat}
theorem RtF.below (h : RtF w a b c s w1) (hb : Below w1.heap.size w1 w2) : RtF w a b c s w2 :=
  ⟨fun e => (h.A e).below hb (h.A e).lt, fun e => (h.B e).below hb (h.B e).lt, fun e => ⟨(h.C e).1.below hb (h.C e).1.lt, (h.C e).2⟩, stepB h.bl hb⟩
theorem RtF.opA (h : RtF w false b c s w1) : RtF w true b c (w1.heap.size, s.2) (w1.alloc (.cells rA 9)) := by
  have hb : Below w1.heap.size w1 (w1.alloc (.cells rA 9)) := (Below.refl _ _).alloc (Nat.le_refl _) _
  exact ⟨fun _ => Blk.new _ _ _, (h.below hb).B, (h.below hb).C, (h.below hb).bl⟩
theorem RtF.opB (h : RtF w a false c s w1) : RtF w a true c (s.1, w1.heap.size, s.2.2) (w1.alloc (.cells rB 9)) := by
  have hb : Below w1.heap.size w1 (w1.alloc (.cells rB 9)) := (Below.refl _ _).alloc (Nat.le_refl _) _
  exact ⟨(h.below hb).A, fun _ => Blk.new _ _ _, (h.below hb).C, (h.below hb).bl⟩
theorem RtF.opC (h : RtF w a b false s w1) : RtF w a b true (s.1, s.2.1, w1.heap.size) (w1.alloc (.cells zR 31)) := by
  have hb : Below w1.heap.size w1 (w1.alloc (.cells zR 31)) := (Below.refl _ _).alloc (Nat.le_refl _) _
  exact ⟨(h.below hb).A, (h.below hb).B, fun _ => ⟨Blk.new _ _ _, h.bl.size⟩, (h.below hb).bl⟩
end

set_option maxRecDepth 100000 in
set_option maxHeartbeats 16000000 in
theorem route_calls (a0 : Int) (A : Option Addr) (c : Nat) (xs : List Int) (a2 : Int) (w : World) (hx : Kd.C (Kd.int .i64) w A xs.length xs) :
    Calls Tryz.prog 6 #[.int .i64 a0, .slice A xs.length c, .int .i64 a2] w (RtPost w) := by
  have HX := Lib.hid hx
  clear hx
  obtain ⟨k1, h1⟩ : ∃ k : Nat, a0 % 3 = (k : Int) := ⟨(a0 % 3).toNat, by omega⟩
  obtain ⟨k2, h2⟩ : ∃ k : Nat, wrap64 (a0.tdiv 3) % 3 = (k : Int) := ⟨(wrap64 (a0.tdiv 3) % 3).toNat, by omega⟩
  obtain ⟨k3, h3⟩ : ∃ k : Nat, a2 % 61 = (k : Int) := ⟨(a2 % 61).toNat, by omega⟩
  have A1 := Lib.hid (show PB.damperlaw2_within.f a0 3 = some (k1 : Int) from by rw [← h1]; exact PB.within2 a0 3 (by omega) (by omega))
  have A2 := Lib.hid (show PB.damperlaw2_within.f (wrap64 (a0.tdiv 3)) 3 = some (k2 : Int) from by rw [← h2]; exact PB.within2 _ 3 (by omega) (by omega))
  have A3 := Lib.hid (show PB.damperlaw2_within.f a2 61 = some (k3 : Int) from by rw [← h3]; exact PB.within2 a2 61 (by omega) (by omega))
  have hk1 : k1 < 3 := by omega
  have hk2 : k2 < 3 := by omega
  have hk1i : (k1 : Int) < 3 := by omega
  have hk2i : (k2 : Int) < 3 := by omega
  clear h1 h2 h3
  go_enter Tryz.func6, Tryz.ntmps6
  obtain ⟨W0, hW0⟩ : ∃ W0, W0 = w.alloc (.cells zR 31) := ⟨_, rfl⟩
  have g0 : Blk W0 w.heap.size zR 31 := by rw [hW0]; exact Blk.new _ _ _
  have B0 : Below w.heap.size w W0 := by rw [hW0]; exact (Below.refl _ _).alloc (Nat.le_refl _) _
  have G0 := Lib.hid g0
  have BW0 := Lib.hid B0
  clear g0 B0
  go_upto_region 1 with fail
  rw [← hW0]
  clear hW0
  have hF0 : RtF W0 false false false (0, 0, 0) W0.drew := ⟨(fun h => by cases h), (fun h => by cases h), (fun h => by cases h), (Below.refl _ _).drew⟩
  obtain ⟨g6, hg6⟩ : ∃ g, g = w.heap.size := ⟨_, rfl⟩
  have HG6 := Lib.hid hg6
  rw [← hg6]
  clear hg6
  go_wp2_with fail
  refine start_ (n := 16) (S := fun w' => True) (ds := [15]) #[false, false, false, false, false, false, false, false, false, false, false, false, false, false, false, false] (by kernel_rfl) rfl rfl trivial (fun hHeld => ?_)
  refine pure_ (i := 1) (N := some 14) (v := ?_) (a' := ?_) #[false, true, false, false, false, false, false, false, false, false, false, false, false, false, false, false] rfl rfl (by kernel_rfl) (fun _ _ _ h => h) (Or.inl ⟨by rfl, ?_⟩) ?_ ?_
  rotate_left
  · intro w'
    go_simp
    with_reducible rfl
  rotate_left
  · simp only [Act.put, List.setIfInBounds_toArray, List.set_cons_zero, List.set_cons_succ, i64_w, i32_w]
    rfl
  refine pure_ (i := 6) (N := some 19) (v := ?_) (a' := ?_) #[false, true, false, false, false, false, true, false, false, false, false, false, false, false, false, false] rfl rfl (by kernel_rfl) (fun _ _ _ h => h) (Or.inl ⟨by rfl, ?_⟩) ?_ ?_
  rotate_left
  · intro w'
    go_simp
    with_reducible rfl
  rotate_left
  · simp only [Act.put, List.setIfInBounds_toArray, List.set_cons_zero, List.set_cons_succ, i64_w, i32_w]
    rfl
  refine pure_ (i := 7) (N := some 20) (v := ?_) (a' := ?_) #[false, true, false, false, false, false, true, true, false, false, false, false, false, false, false, false] rfl rfl (by kernel_rfl) (fun _ _ _ h => h) (Or.inl ⟨by rfl, ?_⟩) ?_ ?_
  rotate_left
  · intro w'
    go_simp
    with_reducible rfl
  rotate_left
  · simp only [Act.put, List.setIfInBounds_toArray, List.set_cons_zero, List.set_cons_succ, i64_w, i32_w]
    rfl
  refine pure_ (i := 11) (N := some 24) (v := ?_) (a' := ?_) #[false, true, false, false, false, false, true, true, false, false, false, true, false, false, false, false] rfl rfl (by kernel_rfl) (fun _ _ _ h => h) (Or.inl ⟨by rfl, ?_⟩) ?_ ?_
  rotate_left
  · intro w'
    go_simp
    with_reducible rfl
  rotate_left
  · simp only [Act.put, List.setIfInBounds_toArray, List.set_cons_zero, List.set_cons_succ, i64_w, i32_w]
    rfl
  refine join_ (σ := Nat × Nat × Nat) 1 #[true, true, true, true, true, true, true, true, true, true, true, true, true, true, true, false] (fun s => [(13, .slice (some ⟨s.1, 0, none⟩) 3 3), (15, .int .i64 (k1 : Int)), (16, .pointer (some ⟨s.1, k1, none⟩)), (17, .string (nA k1)), (18, .slice (some ⟨s.2.1, 0, none⟩) 3 3), (21, .int .i64 (k2 : Int)), (22, .pointer (some ⟨s.2.1, k2, none⟩)), (23, .string (nB k2)), (25, .int .i64 (k3 : Int)), (26, .agg #[.string (nA k1), .string (nB k2), .slice none 0 0, .int .i64 (k3 : Int)]), (7, .pointer (some ⟨s.2.2, 0, none⟩))]) (fun s w' => RtF W0 true true true s w') ?_ ?_
  rotate_left
  · intro hJ0_2_4_5_8_10_12_14
    refine join_ (σ := Nat × Nat × Nat) 2 #[true, true, true, true, true, true, true, true, true, true, true, true, true, true, false, false] (fun s => [(13, .slice (some ⟨s.1, 0, none⟩) 3 3), (15, .int .i64 (k1 : Int)), (16, .pointer (some ⟨s.1, k1, none⟩)), (17, .string (nA k1)), (18, .slice (some ⟨s.2.1, 0, none⟩) 3 3), (21, .int .i64 (k2 : Int)), (22, .pointer (some ⟨s.2.1, k2, none⟩)), (23, .string (nB k2)), (25, .int .i64 (k3 : Int)), (26, .agg #[.string (nA k1), .string (nB k2), .slice none 0 0, .int .i64 (k3 : Int)])]) (fun s w' => RtF W0 true true false s w') ?_ ?_
    · skip
      rintro s wx hF
      have hHeld : True := trivial
      refine norm_ (a' := ?_) ?_ ?_
      rotate_left
      · simp only [putAll, Act.put, List.setIfInBounds_toArray, List.set_cons_zero, List.set_cons_succ]
        rfl
      refine one_ (i := 14) (N := some 7) #[true, true, true, true, true, true, true, true, true, true, true, true, true, true, true, false] rfl rfl (by kernel_rfl) (by decide) (fun K hK => ?_)
      refine value_ (w1 := ?_) (v := ?_) (by rfl) rfl ?_ ?_
      rotate_left 2
      · go_simp
        constructor
        · rfl
        · rfl
      refine hK.out _ _ trivial (fun hHeld => ?_)
      clear hK K
      refine norm_ (a' := ?_) ?_ ?_
      rotate_left
      · show Act.put _ (some 7) _ = _
        simp only [Act.put, List.setIfInBounds_toArray, List.set_cons_zero, List.set_cons_succ, i64_w, i32_w]
        rfl
      exact norm_ (by first | (simp only [putAll, Act.put, List.setIfInBounds_toArray, List.set_cons_zero, List.set_cons_succ]; done) | (simp only [putAll, Act.put, List.setIfInBounds_toArray, List.set_cons_zero, List.set_cons_succ]; rfl)) (hJ0_2_4_5_8_10_12_14 (s.1, s.2.1, wx.heap.size) _ hF.opC)
    intro hJ0_2_4_5_8_10_12
    refine join_ (σ := Nat × Nat × Nat) 3 #[true, true, true, true, true, true, true, true, true, true, true, true, false, false, true, false] (fun s => [(13, .slice (some ⟨s.1, 0, none⟩) 3 3), (15, .int .i64 (k1 : Int)), (16, .pointer (some ⟨s.1, k1, none⟩)), (17, .string (nA k1)), (18, .slice (some ⟨s.2.1, 0, none⟩) 3 3), (21, .int .i64 (k2 : Int)), (22, .pointer (some ⟨s.2.1, k2, none⟩)), (23, .string (nB k2)), (7, .pointer (some ⟨s.2.2, 0, none⟩))]) (fun s w' => RtF W0 true true true s w') ?_ ?_
    · skip
      rintro s wx hF
      have hHeld : True := trivial
      refine norm_ (a' := ?_) ?_ ?_
      rotate_left
      · simp only [putAll, Act.put, List.setIfInBounds_toArray, List.set_cons_zero, List.set_cons_succ]
        rfl
      refine one_ (i := 12) (N := some 25) #[true, true, true, true, true, true, true, true, true, true, true, true, true, false, true, false] rfl rfl (by kernel_rfl) (by decide) (fun K hK => ?_)
      refine goes_ Tryz.func22 (by kernel_rfl) rfl #[.int .i64 a2, .int .i64 61] (by rfl) rfl rfl (by simp only [List.map_toArray, List.map_cons, List.map_nil]; rfl) ?_
      with_reducible refine (PB.damperlaw2_within.calls a2 61 k3 _ A3.out).mono ?_
      rintro e w3 ⟨rfl, h3⟩
      refine ⟨_, rfl, ?_⟩
      refine hK.out _ _ trivial (fun hHeld => ?_)
      clear hK K
      refine norm_ (a' := ?_) ?_ ?_
      rotate_left
      · show Act.put _ (some 25) _ = _
        simp only [Act.put, List.setIfInBounds_toArray, List.set_cons_zero, List.set_cons_succ, i64_w, i32_w]
        rfl
      refine pure_ (i := 13) (N := some 26) (v := ?_) (a' := ?_) #[true, true, true, true, true, true, true, true, true, true, true, true, true, true, true, false] rfl rfl (by kernel_rfl) (fun _ _ _ h => h) (Or.inl ⟨by rfl, ?_⟩) ?_ ?_
      rotate_left
      · intro w'
        go_simp
        with_reducible rfl
      rotate_left
      · simp only [Act.put, List.setIfInBounds_toArray, List.set_cons_zero, List.set_cons_succ, i64_w, i32_w]
        rfl
      exact norm_ (by first | (simp only [putAll, Act.put, List.setIfInBounds_toArray, List.set_cons_zero, List.set_cons_succ]; done) | (simp only [putAll, Act.put, List.setIfInBounds_toArray, List.set_cons_zero, List.set_cons_succ]; rfl)) (hJ0_2_4_5_8_10_12_14 s _ (hF.below h3.below))
    intro hJ0_2_4_5_8_10_14
    refine join_ (σ := Nat × Nat × Nat) 3 #[true, true, true, true, true, true, true, true, true, true, false, true, true, false, true, false] (fun s => [(13, .slice (some ⟨s.1, 0, none⟩) 3 3), (15, .int .i64 (k1 : Int)), (16, .pointer (some ⟨s.1, k1, none⟩)), (17, .string (nA k1)), (18, .slice (some ⟨s.2.1, 0, none⟩) 3 3), (21, .int .i64 (k2 : Int)), (22, .pointer (some ⟨s.2.1, k2, none⟩)), (25, .int .i64 (k3 : Int)), (7, .pointer (some ⟨s.2.2, 0, none⟩))]) (fun s w' => RtF W0 true true true s w') ?_ ?_
    · skip
      rintro s wx hF
      have hHeld : True := trivial
      refine norm_ (a' := ?_) ?_ ?_
      rotate_left
      · simp only [putAll, Act.put, List.setIfInBounds_toArray, List.set_cons_zero, List.set_cons_succ]
        rfl
      refine one_ (i := 10) (N := some 23) #[true, true, true, true, true, true, true, true, true, true, true, true, true, false, true, false] rfl rfl (by kernel_rfl) (by decide) (fun K hK => ?_)
      have hc := (hF.B rfl).cell k2
      rw [rB_at hk2] at hc
      refine value_ (w1 := ?_) (v := ?_) (by rfl) rfl ?_ ?_
      rotate_left 2
      · go_simp
        constructor
        · rfl
        · rfl
      refine hK.out _ _ trivial (fun hHeld => ?_)
      clear hK K
      refine norm_ (a' := ?_) ?_ ?_
      rotate_left
      · show Act.put _ (some 23) _ = _
        simp only [Act.put, List.setIfInBounds_toArray, List.set_cons_zero, List.set_cons_succ, i64_w, i32_w]
        rfl
      refine pure_ (i := 13) (N := some 26) (v := ?_) (a' := ?_) #[true, true, true, true, true, true, true, true, true, true, true, true, true, true, true, false] rfl rfl (by kernel_rfl) (fun _ _ _ h => h) (Or.inl ⟨by rfl, ?_⟩) ?_ ?_
      rotate_left
      · intro w'
        go_simp
        with_reducible rfl
      rotate_left
      · simp only [Act.put, List.setIfInBounds_toArray, List.set_cons_zero, List.set_cons_succ, i64_w, i32_w]
        rfl
      exact norm_ (by first | (simp only [putAll, Act.put, List.setIfInBounds_toArray, List.set_cons_zero, List.set_cons_succ]; done) | (simp only [putAll, Act.put, List.setIfInBounds_toArray, List.set_cons_zero, List.set_cons_succ]; rfl)) (hJ0_2_4_5_8_10_12_14 s _ hF)
    intro hJ0_2_4_5_8_12_14
    refine join_ (σ := Nat × Nat × Nat) 3 #[true, true, true, true, false, true, true, true, true, true, true, true, true, false, true, false] (fun s => [(13, .slice (some ⟨s.1, 0, none⟩) 3 3), (15, .int .i64 (k1 : Int)), (16, .pointer (some ⟨s.1, k1, none⟩)), (18, .slice (some ⟨s.2.1, 0, none⟩) 3 3), (21, .int .i64 (k2 : Int)), (22, .pointer (some ⟨s.2.1, k2, none⟩)), (23, .string (nB k2)), (25, .int .i64 (k3 : Int)), (7, .pointer (some ⟨s.2.2, 0, none⟩))]) (fun s w' => RtF W0 true true true s w') ?_ ?_
    · skip
      rintro s wx hF
      have hHeld : True := trivial
      refine norm_ (a' := ?_) ?_ ?_
      rotate_left
      · simp only [putAll, Act.put, List.setIfInBounds_toArray, List.set_cons_zero, List.set_cons_succ]
        rfl
      refine one_ (i := 4) (N := some 17) #[true, true, true, true, true, true, true, true, true, true, true, true, true, false, true, false] rfl rfl (by kernel_rfl) (by decide) (fun K hK => ?_)
      have hc := (hF.A rfl).cell k1
      rw [rA_at hk1] at hc
      refine value_ (w1 := ?_) (v := ?_) (by rfl) rfl ?_ ?_
      rotate_left 2
      · go_simp
        constructor
        · rfl
        · rfl
      refine hK.out _ _ trivial (fun hHeld => ?_)
      clear hK K
      refine norm_ (a' := ?_) ?_ ?_
      rotate_left
      · show Act.put _ (some 17) _ = _
        simp only [Act.put, List.setIfInBounds_toArray, List.set_cons_zero, List.set_cons_succ, i64_w, i32_w]
        rfl
      refine pure_ (i := 13) (N := some 26) (v := ?_) (a' := ?_) #[true, true, true, true, true, true, true, true, true, true, true, true, true, true, true, false] rfl rfl (by kernel_rfl) (fun _ _ _ h => h) (Or.inl ⟨by rfl, ?_⟩) ?_ ?_
      rotate_left
      · intro w'
        go_simp
        with_reducible rfl
      rotate_left
      · simp only [Act.put, List.setIfInBounds_toArray, List.set_cons_zero, List.set_cons_succ, i64_w, i32_w]
        rfl
      exact norm_ (by first | (simp only [putAll, Act.put, List.setIfInBounds_toArray, List.set_cons_zero, List.set_cons_succ]; done) | (simp only [putAll, Act.put, List.setIfInBounds_toArray, List.set_cons_zero, List.set_cons_succ]; rfl)) (hJ0_2_4_5_8_10_12_14 s _ hF)
    intro hJ0_2_5_8_10_12_14
    refine join_ (σ := Nat × Nat × Nat) 4 #[true, true, true, true, true, true, true, true, true, true, true, true, false, false, false, false] (fun s => [(13, .slice (some ⟨s.1, 0, none⟩) 3 3), (15, .int .i64 (k1 : Int)), (16, .pointer (some ⟨s.1, k1, none⟩)), (17, .string (nA k1)), (18, .slice (some ⟨s.2.1, 0, none⟩) 3 3), (21, .int .i64 (k2 : Int)), (22, .pointer (some ⟨s.2.1, k2, none⟩)), (23, .string (nB k2))]) (fun s w' => RtF W0 true true false s w') ?_ ?_
    · skip
      rintro s wx hF
      have hHeld : True := trivial
      refine norm_ (a' := ?_) ?_ ?_
      rotate_left
      · simp only [putAll, Act.put, List.setIfInBounds_toArray, List.set_cons_zero, List.set_cons_succ]
        rfl
      refine two_ (i := 12) (j := 14) (Ni := some 25) (Nj := some 7) #[true, true, true, true, true, true, true, true, true, true, true, true, true, false, false, false] #[true, true, true, true, true, true, true, true, true, true, true, true, false, false, true, false] rfl rfl rfl rfl (by kernel_rfl) (by decide) (by decide) (fun K hK => ?_) (fun K hK => ?_)
      · skip
        refine goes_ Tryz.func22 (by kernel_rfl) rfl #[.int .i64 a2, .int .i64 61] (by rfl) rfl rfl (by simp only [List.map_toArray, List.map_cons, List.map_nil]; rfl) ?_
        with_reducible refine (PB.damperlaw2_within.calls a2 61 k3 _ A3.out).mono ?_
        rintro e w3 ⟨rfl, h3⟩
        refine ⟨_, rfl, ?_⟩
        refine hK.out _ _ trivial (fun hHeld => ?_)
        clear hK K
        refine norm_ (a' := ?_) ?_ ?_
        rotate_left
        · show Act.put _ (some 25) _ = _
          simp only [Act.put, List.setIfInBounds_toArray, List.set_cons_zero, List.set_cons_succ, i64_w, i32_w]
          rfl
        refine pure_ (i := 13) (N := some 26) (v := ?_) (a' := ?_) #[true, true, true, true, true, true, true, true, true, true, true, true, true, true, false, false] rfl rfl (by kernel_rfl) (fun _ _ _ h => h) (Or.inl ⟨by rfl, ?_⟩) ?_ ?_
        rotate_left
        · intro w'
          go_simp
          with_reducible rfl
        rotate_left
        · simp only [Act.put, List.setIfInBounds_toArray, List.set_cons_zero, List.set_cons_succ, i64_w, i32_w]
          rfl
        exact norm_ (by first | (simp only [putAll, Act.put, List.setIfInBounds_toArray, List.set_cons_zero, List.set_cons_succ]; done) | (simp only [putAll, Act.put, List.setIfInBounds_toArray, List.set_cons_zero, List.set_cons_succ]; rfl)) (hJ0_2_4_5_8_10_12 s _ (hF.below h3.below))
      · skip
        refine value_ (w1 := ?_) (v := ?_) (by rfl) rfl ?_ ?_
        rotate_left 2
        · go_simp
          constructor
          · rfl
          · rfl
        refine hK.out _ _ trivial (fun hHeld => ?_)
        clear hK K
        refine norm_ (a' := ?_) ?_ ?_
        rotate_left
        · show Act.put _ (some 7) _ = _
          simp only [Act.put, List.setIfInBounds_toArray, List.set_cons_zero, List.set_cons_succ, i64_w, i32_w]
          rfl
        exact norm_ (by first | (simp only [putAll, Act.put, List.setIfInBounds_toArray, List.set_cons_zero, List.set_cons_succ]; done) | (simp only [putAll, Act.put, List.setIfInBounds_toArray, List.set_cons_zero, List.set_cons_succ]; rfl)) (hJ0_2_4_5_8_10_14 (s.1, s.2.1, wx.heap.size) _ hF.opC)
    intro hJ0_2_4_5_8_10
    refine join_ (σ := Nat × Nat × Nat) 4 #[true, true, true, true, true, true, true, true, true, true, false, true, true, false, false, false] (fun s => [(13, .slice (some ⟨s.1, 0, none⟩) 3 3), (15, .int .i64 (k1 : Int)), (16, .pointer (some ⟨s.1, k1, none⟩)), (17, .string (nA k1)), (18, .slice (some ⟨s.2.1, 0, none⟩) 3 3), (21, .int .i64 (k2 : Int)), (22, .pointer (some ⟨s.2.1, k2, none⟩)), (25, .int .i64 (k3 : Int))]) (fun s w' => RtF W0 true true false s w') ?_ ?_
    · skip
      rintro s wx hF
      have hHeld : True := trivial
      refine norm_ (a' := ?_) ?_ ?_
      rotate_left
      · simp only [putAll, Act.put, List.setIfInBounds_toArray, List.set_cons_zero, List.set_cons_succ]
        rfl
      refine two_ (i := 10) (j := 14) (Ni := some 23) (Nj := some 7) #[true, true, true, true, true, true, true, true, true, true, true, true, true, false, false, false] #[true, true, true, true, true, true, true, true, true, true, false, true, true, false, true, false] rfl rfl rfl rfl (by kernel_rfl) (by decide) (by decide) (fun K hK => ?_) (fun K hK => ?_)
      · skip
        have hc := (hF.B rfl).cell k2
        rw [rB_at hk2] at hc
        refine value_ (w1 := ?_) (v := ?_) (by rfl) rfl ?_ ?_
        rotate_left 2
        · go_simp
          constructor
          · rfl
          · rfl
        refine hK.out _ _ trivial (fun hHeld => ?_)
        clear hK K
        refine norm_ (a' := ?_) ?_ ?_
        rotate_left
        · show Act.put _ (some 23) _ = _
          simp only [Act.put, List.setIfInBounds_toArray, List.set_cons_zero, List.set_cons_succ, i64_w, i32_w]
          rfl
        refine pure_ (i := 13) (N := some 26) (v := ?_) (a' := ?_) #[true, true, true, true, true, true, true, true, true, true, true, true, true, true, false, false] rfl rfl (by kernel_rfl) (fun _ _ _ h => h) (Or.inl ⟨by rfl, ?_⟩) ?_ ?_
        rotate_left
        · intro w'
          go_simp
          with_reducible rfl
        rotate_left
        · simp only [Act.put, List.setIfInBounds_toArray, List.set_cons_zero, List.set_cons_succ, i64_w, i32_w]
          rfl
        exact norm_ (by first | (simp only [putAll, Act.put, List.setIfInBounds_toArray, List.set_cons_zero, List.set_cons_succ]; done) | (simp only [putAll, Act.put, List.setIfInBounds_toArray, List.set_cons_zero, List.set_cons_succ]; rfl)) (hJ0_2_4_5_8_10_12 s _ hF)
      · skip
        refine value_ (w1 := ?_) (v := ?_) (by rfl) rfl ?_ ?_
        rotate_left 2
        · go_simp
          constructor
          · rfl
          · rfl
        refine hK.out _ _ trivial (fun hHeld => ?_)
        clear hK K
        refine norm_ (a' := ?_) ?_ ?_
        rotate_left
        · show Act.put _ (some 7) _ = _
          simp only [Act.put, List.setIfInBounds_toArray, List.set_cons_zero, List.set_cons_succ, i64_w, i32_w]
          rfl
        exact norm_ (by first | (simp only [putAll, Act.put, List.setIfInBounds_toArray, List.set_cons_zero, List.set_cons_succ]; done) | (simp only [putAll, Act.put, List.setIfInBounds_toArray, List.set_cons_zero, List.set_cons_succ]; rfl)) (hJ0_2_4_5_8_12_14 (s.1, s.2.1, wx.heap.size) _ hF.opC)
    intro hJ0_2_4_5_8_12
    refine join_ (σ := Nat × Nat × Nat) 4 #[true, true, true, true, true, true, true, true, true, true, false, true, false, false, true, false] (fun s => [(13, .slice (some ⟨s.1, 0, none⟩) 3 3), (15, .int .i64 (k1 : Int)), (16, .pointer (some ⟨s.1, k1, none⟩)), (17, .string (nA k1)), (18, .slice (some ⟨s.2.1, 0, none⟩) 3 3), (21, .int .i64 (k2 : Int)), (22, .pointer (some ⟨s.2.1, k2, none⟩)), (7, .pointer (some ⟨s.2.2, 0, none⟩))]) (fun s w' => RtF W0 true true true s w') ?_ ?_
    · skip
      rintro s wx hF
      have hHeld : True := trivial
      refine norm_ (a' := ?_) ?_ ?_
      rotate_left
      · simp only [putAll, Act.put, List.setIfInBounds_toArray, List.set_cons_zero, List.set_cons_succ]
        rfl
      refine two_ (i := 10) (j := 12) (Ni := some 23) (Nj := some 25) #[true, true, true, true, true, true, true, true, true, true, true, true, false, false, true, false] #[true, true, true, true, true, true, true, true, true, true, false, true, true, false, true, false] rfl rfl rfl rfl (by kernel_rfl) (by decide) (by decide) (fun K hK => ?_) (fun K hK => ?_)
      · skip
        have hc := (hF.B rfl).cell k2
        rw [rB_at hk2] at hc
        refine value_ (w1 := ?_) (v := ?_) (by rfl) rfl ?_ ?_
        rotate_left 2
        · go_simp
          constructor
          · rfl
          · rfl
        refine hK.out _ _ trivial (fun hHeld => ?_)
        clear hK K
        refine norm_ (a' := ?_) ?_ ?_
        rotate_left
        · show Act.put _ (some 23) _ = _
          simp only [Act.put, List.setIfInBounds_toArray, List.set_cons_zero, List.set_cons_succ, i64_w, i32_w]
          rfl
        exact norm_ (by first | (simp only [putAll, Act.put, List.setIfInBounds_toArray, List.set_cons_zero, List.set_cons_succ]; done) | (simp only [putAll, Act.put, List.setIfInBounds_toArray, List.set_cons_zero, List.set_cons_succ]; rfl)) (hJ0_2_4_5_8_10_14 s _ hF)
      · skip
        refine goes_ Tryz.func22 (by kernel_rfl) rfl #[.int .i64 a2, .int .i64 61] (by rfl) rfl rfl (by simp only [List.map_toArray, List.map_cons, List.map_nil]; rfl) ?_
        with_reducible refine (PB.damperlaw2_within.calls a2 61 k3 _ A3.out).mono ?_
        rintro e w3 ⟨rfl, h3⟩
        refine ⟨_, rfl, ?_⟩
        refine hK.out _ _ trivial (fun hHeld => ?_)
        clear hK K
        refine norm_ (a' := ?_) ?_ ?_
        rotate_left
        · show Act.put _ (some 25) _ = _
          simp only [Act.put, List.setIfInBounds_toArray, List.set_cons_zero, List.set_cons_succ, i64_w, i32_w]
          rfl
        exact norm_ (by first | (simp only [putAll, Act.put, List.setIfInBounds_toArray, List.set_cons_zero, List.set_cons_succ]; done) | (simp only [putAll, Act.put, List.setIfInBounds_toArray, List.set_cons_zero, List.set_cons_succ]; rfl)) (hJ0_2_4_5_8_12_14 s _ (hF.below h3.below))
    intro hJ0_2_4_5_8_14
    refine join_ (σ := Nat × Nat × Nat) 5 #[true, true, true, true, true, false, true, true, true, false, false, true, true, false, true, false] (fun s => [(13, .slice (some ⟨s.1, 0, none⟩) 3 3), (15, .int .i64 (k1 : Int)), (16, .pointer (some ⟨s.1, k1, none⟩)), (17, .string (nA k1)), (21, .int .i64 (k2 : Int)), (25, .int .i64 (k3 : Int)), (7, .pointer (some ⟨s.2.2, 0, none⟩))]) (fun s w' => RtF W0 true false true s w') ?_ ?_
    · skip
      rintro s wx hF
      have hHeld : True := trivial
      refine norm_ (a' := ?_) ?_ ?_
      rotate_left
      · simp only [putAll, Act.put, List.setIfInBounds_toArray, List.set_cons_zero, List.set_cons_succ]
        rfl
      refine one_ (i := 5) (N := some 18) #[true, true, true, true, true, true, true, true, true, false, false, true, true, false, true, false] rfl rfl (by kernel_rfl) (by decide) (fun K hK => ?_)
      refine value_ (w1 := ?_) (v := ?_) (by rfl) rfl ?_ ?_
      rotate_left 2
      · go_simp
        constructor
        · rfl
        · rfl
      refine hK.out _ _ trivial (fun hHeld => ?_)
      clear hK K
      refine norm_ (a' := ?_) ?_ ?_
      rotate_left
      · show Act.put _ (some 18) _ = _
        simp only [Act.put, List.setIfInBounds_toArray, List.set_cons_zero, List.set_cons_succ, i64_w, i32_w]
        rfl
      refine pure_ (i := 9) (N := some 22) (v := ?_) (a' := ?_) #[true, true, true, true, true, true, true, true, true, true, false, true, true, false, true, false] rfl rfl (by kernel_rfl) (fun _ _ _ h => h) (Or.inl ⟨by rfl, ?_⟩) ?_ ?_
      rotate_left
      · intro w'
        go_simp
        with_reducible rfl
      rotate_left
      · simp only [Act.put, List.setIfInBounds_toArray, List.set_cons_zero, List.set_cons_succ, i64_w, i32_w]
        rfl
      exact norm_ (by first | (simp only [putAll, Act.put, List.setIfInBounds_toArray, List.set_cons_zero, List.set_cons_succ]; done) | (simp only [putAll, Act.put, List.setIfInBounds_toArray, List.set_cons_zero, List.set_cons_succ]; rfl)) (hJ0_2_4_5_8_12_14 (s.1, wx.heap.size, s.2.2) _ hF.opB)
    intro hJ0_2_4_8_12_14
    refine join_ (σ := Nat × Nat × Nat) 4 #[true, true, true, true, false, true, true, true, true, true, true, true, true, false, false, false] (fun s => [(13, .slice (some ⟨s.1, 0, none⟩) 3 3), (15, .int .i64 (k1 : Int)), (16, .pointer (some ⟨s.1, k1, none⟩)), (18, .slice (some ⟨s.2.1, 0, none⟩) 3 3), (21, .int .i64 (k2 : Int)), (22, .pointer (some ⟨s.2.1, k2, none⟩)), (23, .string (nB k2)), (25, .int .i64 (k3 : Int))]) (fun s w' => RtF W0 true true false s w') ?_ ?_
    · skip
      rintro s wx hF
      have hHeld : True := trivial
      refine norm_ (a' := ?_) ?_ ?_
      rotate_left
      · simp only [putAll, Act.put, List.setIfInBounds_toArray, List.set_cons_zero, List.set_cons_succ]
        rfl
      refine two_ (i := 4) (j := 14) (Ni := some 17) (Nj := some 7) #[true, true, true, true, true, true, true, true, true, true, true, true, true, false, false, false] #[true, true, true, true, false, true, true, true, true, true, true, true, true, false, true, false] rfl rfl rfl rfl (by kernel_rfl) (by decide) (by decide) (fun K hK => ?_) (fun K hK => ?_)
      · skip
        have hc := (hF.A rfl).cell k1
        rw [rA_at hk1] at hc
        refine value_ (w1 := ?_) (v := ?_) (by rfl) rfl ?_ ?_
        rotate_left 2
        · go_simp
          constructor
          · rfl
          · rfl
        refine hK.out _ _ trivial (fun hHeld => ?_)
        clear hK K
        refine norm_ (a' := ?_) ?_ ?_
        rotate_left
        · show Act.put _ (some 17) _ = _
          simp only [Act.put, List.setIfInBounds_toArray, List.set_cons_zero, List.set_cons_succ, i64_w, i32_w]
          rfl
        refine pure_ (i := 13) (N := some 26) (v := ?_) (a' := ?_) #[true, true, true, true, true, true, true, true, true, true, true, true, true, true, false, false] rfl rfl (by kernel_rfl) (fun _ _ _ h => h) (Or.inl ⟨by rfl, ?_⟩) ?_ ?_
        rotate_left
        · intro w'
          go_simp
          with_reducible rfl
        rotate_left
        · simp only [Act.put, List.setIfInBounds_toArray, List.set_cons_zero, List.set_cons_succ, i64_w, i32_w]
          rfl
        exact norm_ (by first | (simp only [putAll, Act.put, List.setIfInBounds_toArray, List.set_cons_zero, List.set_cons_succ]; done) | (simp only [putAll, Act.put, List.setIfInBounds_toArray, List.set_cons_zero, List.set_cons_succ]; rfl)) (hJ0_2_4_5_8_10_12 s _ hF)
      · skip
        refine value_ (w1 := ?_) (v := ?_) (by rfl) rfl ?_ ?_
        rotate_left 2
        · go_simp
          constructor
          · rfl
          · rfl
        refine hK.out _ _ trivial (fun hHeld => ?_)
        clear hK K
        refine norm_ (a' := ?_) ?_ ?_
        rotate_left
        · show Act.put _ (some 7) _ = _
          simp only [Act.put, List.setIfInBounds_toArray, List.set_cons_zero, List.set_cons_succ, i64_w, i32_w]
          rfl
        exact norm_ (by first | (simp only [putAll, Act.put, List.setIfInBounds_toArray, List.set_cons_zero, List.set_cons_succ]; done) | (simp only [putAll, Act.put, List.setIfInBounds_toArray, List.set_cons_zero, List.set_cons_succ]; rfl)) (hJ0_2_5_8_10_12_14 (s.1, s.2.1, wx.heap.size) _ hF.opC)
    intro hJ0_2_5_8_10_12
    refine join_ (σ := Nat × Nat × Nat) 4 #[true, true, true, true, false, true, true, true, true, true, true, true, false, false, true, false] (fun s => [(13, .slice (some ⟨s.1, 0, none⟩) 3 3), (15, .int .i64 (k1 : Int)), (16, .pointer (some ⟨s.1, k1, none⟩)), (18, .slice (some ⟨s.2.1, 0, none⟩) 3 3), (21, .int .i64 (k2 : Int)), (22, .pointer (some ⟨s.2.1, k2, none⟩)), (23, .string (nB k2)), (7, .pointer (some ⟨s.2.2, 0, none⟩))]) (fun s w' => RtF W0 true true true s w') ?_ ?_
    · skip
      rintro s wx hF
      have hHeld : True := trivial
      refine norm_ (a' := ?_) ?_ ?_
      rotate_left
      · simp only [putAll, Act.put, List.setIfInBounds_toArray, List.set_cons_zero, List.set_cons_succ]
        rfl
      refine two_ (i := 4) (j := 12) (Ni := some 17) (Nj := some 25) #[true, true, true, true, true, true, true, true, true, true, true, true, false, false, true, false] #[true, true, true, true, false, true, true, true, true, true, true, true, true, false, true, false] rfl rfl rfl rfl (by kernel_rfl) (by decide) (by decide) (fun K hK => ?_) (fun K hK => ?_)
      · skip
        have hc := (hF.A rfl).cell k1
        rw [rA_at hk1] at hc
        refine value_ (w1 := ?_) (v := ?_) (by rfl) rfl ?_ ?_
        rotate_left 2
        · go_simp
          constructor
          · rfl
          · rfl
        refine hK.out _ _ trivial (fun hHeld => ?_)
        clear hK K
        refine norm_ (a' := ?_) ?_ ?_
        rotate_left
        · show Act.put _ (some 17) _ = _
          simp only [Act.put, List.setIfInBounds_toArray, List.set_cons_zero, List.set_cons_succ, i64_w, i32_w]
          rfl
        exact norm_ (by first | (simp only [putAll, Act.put, List.setIfInBounds_toArray, List.set_cons_zero, List.set_cons_succ]; done) | (simp only [putAll, Act.put, List.setIfInBounds_toArray, List.set_cons_zero, List.set_cons_succ]; rfl)) (hJ0_2_4_5_8_10_14 s _ hF)
      · skip
        refine goes_ Tryz.func22 (by kernel_rfl) rfl #[.int .i64 a2, .int .i64 61] (by rfl) rfl rfl (by simp only [List.map_toArray, List.map_cons, List.map_nil]; rfl) ?_
        with_reducible refine (PB.damperlaw2_within.calls a2 61 k3 _ A3.out).mono ?_
        rintro e w3 ⟨rfl, h3⟩
        refine ⟨_, rfl, ?_⟩
        refine hK.out _ _ trivial (fun hHeld => ?_)
        clear hK K
        refine norm_ (a' := ?_) ?_ ?_
        rotate_left
        · show Act.put _ (some 25) _ = _
          simp only [Act.put, List.setIfInBounds_toArray, List.set_cons_zero, List.set_cons_succ, i64_w, i32_w]
          rfl
        exact norm_ (by first | (simp only [putAll, Act.put, List.setIfInBounds_toArray, List.set_cons_zero, List.set_cons_succ]; done) | (simp only [putAll, Act.put, List.setIfInBounds_toArray, List.set_cons_zero, List.set_cons_succ]; rfl)) (hJ0_2_5_8_10_12_14 s _ (hF.below h3.below))
    intro hJ0_2_5_8_10_14
    refine join_ (σ := Nat × Nat × Nat) 4 #[true, true, true, true, false, true, true, true, true, true, false, true, true, false, true, false] (fun s => [(13, .slice (some ⟨s.1, 0, none⟩) 3 3), (15, .int .i64 (k1 : Int)), (16, .pointer (some ⟨s.1, k1, none⟩)), (18, .slice (some ⟨s.2.1, 0, none⟩) 3 3), (21, .int .i64 (k2 : Int)), (22, .pointer (some ⟨s.2.1, k2, none⟩)), (25, .int .i64 (k3 : Int)), (7, .pointer (some ⟨s.2.2, 0, none⟩))]) (fun s w' => RtF W0 true true true s w') ?_ ?_
    · skip
      rintro s wx hF
      have hHeld : True := trivial
      refine norm_ (a' := ?_) ?_ ?_
      rotate_left
      · simp only [putAll, Act.put, List.setIfInBounds_toArray, List.set_cons_zero, List.set_cons_succ]
        rfl
      refine two_ (i := 4) (j := 10) (Ni := some 17) (Nj := some 23) #[true, true, true, true, true, true, true, true, true, true, false, true, true, false, true, false] #[true, true, true, true, false, true, true, true, true, true, true, true, true, false, true, false] rfl rfl rfl rfl (by kernel_rfl) (by decide) (by decide) (fun K hK => ?_) (fun K hK => ?_)
      · skip
        have hc := (hF.A rfl).cell k1
        rw [rA_at hk1] at hc
        refine value_ (w1 := ?_) (v := ?_) (by rfl) rfl ?_ ?_
        rotate_left 2
        · go_simp
          constructor
          · rfl
          · rfl
        refine hK.out _ _ trivial (fun hHeld => ?_)
        clear hK K
        refine norm_ (a' := ?_) ?_ ?_
        rotate_left
        · show Act.put _ (some 17) _ = _
          simp only [Act.put, List.setIfInBounds_toArray, List.set_cons_zero, List.set_cons_succ, i64_w, i32_w]
          rfl
        exact norm_ (by first | (simp only [putAll, Act.put, List.setIfInBounds_toArray, List.set_cons_zero, List.set_cons_succ]; done) | (simp only [putAll, Act.put, List.setIfInBounds_toArray, List.set_cons_zero, List.set_cons_succ]; rfl)) (hJ0_2_4_5_8_12_14 s _ hF)
      · skip
        have hc := (hF.B rfl).cell k2
        rw [rB_at hk2] at hc
        refine value_ (w1 := ?_) (v := ?_) (by rfl) rfl ?_ ?_
        rotate_left 2
        · go_simp
          constructor
          · rfl
          · rfl
        refine hK.out _ _ trivial (fun hHeld => ?_)
        clear hK K
        refine norm_ (a' := ?_) ?_ ?_
        rotate_left
        · show Act.put _ (some 23) _ = _
          simp only [Act.put, List.setIfInBounds_toArray, List.set_cons_zero, List.set_cons_succ, i64_w, i32_w]
          rfl
        exact norm_ (by first | (simp only [putAll, Act.put, List.setIfInBounds_toArray, List.set_cons_zero, List.set_cons_succ]; done) | (simp only [putAll, Act.put, List.setIfInBounds_toArray, List.set_cons_zero, List.set_cons_succ]; rfl)) (hJ0_2_5_8_10_12_14 s _ hF)
    intro hJ0_2_5_8_12_14
    refine join_ (σ := Nat × Nat × Nat) 5 #[false, true, true, false, false, true, true, true, true, true, true, true, true, false, true, false] (fun s => [(15, .int .i64 (k1 : Int)), (18, .slice (some ⟨s.2.1, 0, none⟩) 3 3), (21, .int .i64 (k2 : Int)), (22, .pointer (some ⟨s.2.1, k2, none⟩)), (23, .string (nB k2)), (25, .int .i64 (k3 : Int)), (7, .pointer (some ⟨s.2.2, 0, none⟩))]) (fun s w' => RtF W0 false true true s w') ?_ ?_
    · skip
      rintro s wx hF
      have hHeld : True := trivial
      refine norm_ (a' := ?_) ?_ ?_
      rotate_left
      · simp only [putAll, Act.put, List.setIfInBounds_toArray, List.set_cons_zero, List.set_cons_succ]
        rfl
      refine one_ (i := 0) (N := some 13) #[true, true, true, false, false, true, true, true, true, true, true, true, true, false, true, false] rfl rfl (by kernel_rfl) (by decide) (fun K hK => ?_)
      refine value_ (w1 := ?_) (v := ?_) (by rfl) rfl ?_ ?_
      rotate_left 2
      · go_simp
        constructor
        · rfl
        · rfl
      refine hK.out _ _ trivial (fun hHeld => ?_)
      clear hK K
      refine norm_ (a' := ?_) ?_ ?_
      rotate_left
      · show Act.put _ (some 13) _ = _
        simp only [Act.put, List.setIfInBounds_toArray, List.set_cons_zero, List.set_cons_succ, i64_w, i32_w]
        rfl
      refine pure_ (i := 3) (N := some 16) (v := ?_) (a' := ?_) #[true, true, true, true, false, true, true, true, true, true, true, true, true, false, true, false] rfl rfl (by kernel_rfl) (fun _ _ _ h => h) (Or.inl ⟨by rfl, ?_⟩) ?_ ?_
      rotate_left
      · intro w'
        go_simp
        with_reducible rfl
      rotate_left
      · simp only [Act.put, List.setIfInBounds_toArray, List.set_cons_zero, List.set_cons_succ, i64_w, i32_w]
        rfl
      exact norm_ (by first | (simp only [putAll, Act.put, List.setIfInBounds_toArray, List.set_cons_zero, List.set_cons_succ]; done) | (simp only [putAll, Act.put, List.setIfInBounds_toArray, List.set_cons_zero, List.set_cons_succ]; rfl)) (hJ0_2_5_8_10_12_14 (wx.heap.size, s.2) _ hF.opA)
    intro hJ2_5_8_10_12_14
    refine join_ (σ := Nat × Nat × Nat) 5 #[true, true, true, true, true, true, true, true, true, true, false, true, false, false, false, false] (fun s => [(13, .slice (some ⟨s.1, 0, none⟩) 3 3), (15, .int .i64 (k1 : Int)), (16, .pointer (some ⟨s.1, k1, none⟩)), (17, .string (nA k1)), (18, .slice (some ⟨s.2.1, 0, none⟩) 3 3), (21, .int .i64 (k2 : Int)), (22, .pointer (some ⟨s.2.1, k2, none⟩))]) (fun s w' => RtF W0 true true false s w') ?_ ?_
    · skip
      rintro s wx hF
      have hHeld : True := trivial
      refine norm_ (a' := ?_) ?_ ?_
      rotate_left
      · simp only [putAll, Act.put, List.setIfInBounds_toArray, List.set_cons_zero, List.set_cons_succ]
        rfl
      refine three_ (i := 10) (j := 12) (k := 14) (Ni := some 23) (Nj := some 25) (Nk := some 7) #[true, true, true, true, true, true, true, true, true, true, true, true, false, false, false, false] #[true, true, true, true, true, true, true, true, true, true, false, true, true, false, false, false] #[true, true, true, true, true, true, true, true, true, true, false, true, false, false, true, false] rfl rfl rfl rfl rfl rfl (by kernel_rfl) (by decide) (by decide) (by decide) (fun K hK => ?_) (fun K hK => ?_) (fun K hK => ?_)
      · skip
        have hc := (hF.B rfl).cell k2
        rw [rB_at hk2] at hc
        refine value_ (w1 := ?_) (v := ?_) (by rfl) rfl ?_ ?_
        rotate_left 2
        · go_simp
          constructor
          · rfl
          · rfl
        refine hK.out _ _ trivial (fun hHeld => ?_)
        clear hK K
        refine norm_ (a' := ?_) ?_ ?_
        rotate_left
        · show Act.put _ (some 23) _ = _
          simp only [Act.put, List.setIfInBounds_toArray, List.set_cons_zero, List.set_cons_succ, i64_w, i32_w]
          rfl
        exact norm_ (by first | (simp only [putAll, Act.put, List.setIfInBounds_toArray, List.set_cons_zero, List.set_cons_succ]; done) | (simp only [putAll, Act.put, List.setIfInBounds_toArray, List.set_cons_zero, List.set_cons_succ]; rfl)) (hJ0_2_4_5_8_10 s _ hF)
      · skip
        refine goes_ Tryz.func22 (by kernel_rfl) rfl #[.int .i64 a2, .int .i64 61] (by rfl) rfl rfl (by simp only [List.map_toArray, List.map_cons, List.map_nil]; rfl) ?_
        with_reducible refine (PB.damperlaw2_within.calls a2 61 k3 _ A3.out).mono ?_
        rintro e w3 ⟨rfl, h3⟩
        refine ⟨_, rfl, ?_⟩
        refine hK.out _ _ trivial (fun hHeld => ?_)
        clear hK K
        refine norm_ (a' := ?_) ?_ ?_
        rotate_left
        · show Act.put _ (some 25) _ = _
          simp only [Act.put, List.setIfInBounds_toArray, List.set_cons_zero, List.set_cons_succ, i64_w, i32_w]
          rfl
        exact norm_ (by first | (simp only [putAll, Act.put, List.setIfInBounds_toArray, List.set_cons_zero, List.set_cons_succ]; done) | (simp only [putAll, Act.put, List.setIfInBounds_toArray, List.set_cons_zero, List.set_cons_succ]; rfl)) (hJ0_2_4_5_8_12 s _ (hF.below h3.below))
      · skip
        refine value_ (w1 := ?_) (v := ?_) (by rfl) rfl ?_ ?_
        rotate_left 2
        · go_simp
          constructor
          · rfl
          · rfl
        refine hK.out _ _ trivial (fun hHeld => ?_)
        clear hK K
        refine norm_ (a' := ?_) ?_ ?_
        rotate_left
        · show Act.put _ (some 7) _ = _
          simp only [Act.put, List.setIfInBounds_toArray, List.set_cons_zero, List.set_cons_succ, i64_w, i32_w]
          rfl
        exact norm_ (by first | (simp only [putAll, Act.put, List.setIfInBounds_toArray, List.set_cons_zero, List.set_cons_succ]; done) | (simp only [putAll, Act.put, List.setIfInBounds_toArray, List.set_cons_zero, List.set_cons_succ]; rfl)) (hJ0_2_4_5_8_14 (s.1, s.2.1, wx.heap.size) _ hF.opC)
    intro hJ0_2_4_5_8
    refine join_ (σ := Nat × Nat × Nat) 6 #[true, true, true, true, true, true, true, true, false, false, false, true, false, false, true, false] (fun s => [(13, .slice (some ⟨s.1, 0, none⟩) 3 3), (15, .int .i64 (k1 : Int)), (16, .pointer (some ⟨s.1, k1, none⟩)), (17, .string (nA k1)), (18, .slice (some ⟨s.2.1, 0, none⟩) 3 3), (7, .pointer (some ⟨s.2.2, 0, none⟩))]) (fun s w' => RtF W0 true true true s w') ?_ ?_
    · skip
      rintro s wx hF
      have hHeld : True := trivial
      refine norm_ (a' := ?_) ?_ ?_
      rotate_left
      · simp only [putAll, Act.put, List.setIfInBounds_toArray, List.set_cons_zero, List.set_cons_succ]
        rfl
      refine one_ (i := 8) (N := some 21) #[true, true, true, true, true, true, true, true, true, false, false, true, false, false, true, false] rfl rfl (by kernel_rfl) (by decide) (fun K hK => ?_)
      refine goes_ Tryz.func22 (by kernel_rfl) rfl #[.int .i64 (wrap64 (a0.tdiv 3)), .int .i64 3] (by rfl) rfl rfl (by simp only [List.map_toArray, List.map_cons, List.map_nil]; rfl) ?_
      with_reducible refine (PB.damperlaw2_within.calls (wrap64 (a0.tdiv 3)) 3 k2 _ A2.out).mono ?_
      rintro e w3 ⟨rfl, h3⟩
      refine ⟨_, rfl, ?_⟩
      refine hK.out _ _ trivial (fun hHeld => ?_)
      clear hK K
      refine norm_ (a' := ?_) ?_ ?_
      rotate_left
      · show Act.put _ (some 21) _ = _
        simp only [Act.put, List.setIfInBounds_toArray, List.set_cons_zero, List.set_cons_succ, i64_w, i32_w]
        rfl
      refine pure_ (i := 9) (N := some 22) (v := ?_) (a' := ?_) #[true, true, true, true, true, true, true, true, true, true, false, true, false, false, true, false] rfl rfl (by kernel_rfl) (fun _ _ _ h => h) (Or.inl ⟨by rfl, ?_⟩) ?_ ?_
      rotate_left
      · intro w'
        go_simp
        with_reducible rfl
      rotate_left
      · simp only [Act.put, List.setIfInBounds_toArray, List.set_cons_zero, List.set_cons_succ, i64_w, i32_w]
        rfl
      exact norm_ (by first | (simp only [putAll, Act.put, List.setIfInBounds_toArray, List.set_cons_zero, List.set_cons_succ]; done) | (simp only [putAll, Act.put, List.setIfInBounds_toArray, List.set_cons_zero, List.set_cons_succ]; rfl)) (hJ0_2_4_5_8_14 s _ (hF.below h3.below))
    intro hJ0_2_4_5_14
    refine join_ (σ := Nat × Nat × Nat) 6 #[true, true, true, true, true, false, true, true, true, false, false, true, true, false, false, false] (fun s => [(13, .slice (some ⟨s.1, 0, none⟩) 3 3), (15, .int .i64 (k1 : Int)), (16, .pointer (some ⟨s.1, k1, none⟩)), (17, .string (nA k1)), (21, .int .i64 (k2 : Int)), (25, .int .i64 (k3 : Int))]) (fun s w' => RtF W0 true false false s w') ?_ ?_
    · skip
      rintro s wx hF
      have hHeld : True := trivial
      refine norm_ (a' := ?_) ?_ ?_
      rotate_left
      · simp only [putAll, Act.put, List.setIfInBounds_toArray, List.set_cons_zero, List.set_cons_succ]
        rfl
      refine two_ (i := 5) (j := 14) (Ni := some 18) (Nj := some 7) #[true, true, true, true, true, true, true, true, true, false, false, true, true, false, false, false] #[true, true, true, true, true, false, true, true, true, false, false, true, true, false, true, false] rfl rfl rfl rfl (by kernel_rfl) (by decide) (by decide) (fun K hK => ?_) (fun K hK => ?_)
      · skip
        refine value_ (w1 := ?_) (v := ?_) (by rfl) rfl ?_ ?_
        rotate_left 2
        · go_simp
          constructor
          · rfl
          · rfl
        refine hK.out _ _ trivial (fun hHeld => ?_)
        clear hK K
        refine norm_ (a' := ?_) ?_ ?_
        rotate_left
        · show Act.put _ (some 18) _ = _
          simp only [Act.put, List.setIfInBounds_toArray, List.set_cons_zero, List.set_cons_succ, i64_w, i32_w]
          rfl
        refine pure_ (i := 9) (N := some 22) (v := ?_) (a' := ?_) #[true, true, true, true, true, true, true, true, true, true, false, true, true, false, false, false] rfl rfl (by kernel_rfl) (fun _ _ _ h => h) (Or.inl ⟨by rfl, ?_⟩) ?_ ?_
        rotate_left
        · intro w'
          go_simp
          with_reducible rfl
        rotate_left
        · simp only [Act.put, List.setIfInBounds_toArray, List.set_cons_zero, List.set_cons_succ, i64_w, i32_w]
          rfl
        exact norm_ (by first | (simp only [putAll, Act.put, List.setIfInBounds_toArray, List.set_cons_zero, List.set_cons_succ]; done) | (simp only [putAll, Act.put, List.setIfInBounds_toArray, List.set_cons_zero, List.set_cons_succ]; rfl)) (hJ0_2_4_5_8_12 (s.1, wx.heap.size, s.2.2) _ hF.opB)
      · skip
        refine value_ (w1 := ?_) (v := ?_) (by rfl) rfl ?_ ?_
        rotate_left 2
        · go_simp
          constructor
          · rfl
          · rfl
        refine hK.out _ _ trivial (fun hHeld => ?_)
        clear hK K
        refine norm_ (a' := ?_) ?_ ?_
        rotate_left
        · show Act.put _ (some 7) _ = _
          simp only [Act.put, List.setIfInBounds_toArray, List.set_cons_zero, List.set_cons_succ, i64_w, i32_w]
          rfl
        exact norm_ (by first | (simp only [putAll, Act.put, List.setIfInBounds_toArray, List.set_cons_zero, List.set_cons_succ]; done) | (simp only [putAll, Act.put, List.setIfInBounds_toArray, List.set_cons_zero, List.set_cons_succ]; rfl)) (hJ0_2_4_8_12_14 (s.1, s.2.1, wx.heap.size) _ hF.opC)
    intro hJ0_2_4_8_12
    refine join_ (σ := Nat × Nat × Nat) 6 #[true, true, true, true, true, false, true, true, true, false, false, true, false, false, true, false] (fun s => [(13, .slice (some ⟨s.1, 0, none⟩) 3 3), (15, .int .i64 (k1 : Int)), (16, .pointer (some ⟨s.1, k1, none⟩)), (17, .string (nA k1)), (21, .int .i64 (k2 : Int)), (7, .pointer (some ⟨s.2.2, 0, none⟩))]) (fun s w' => RtF W0 true false true s w') ?_ ?_
    · skip
      rintro s wx hF
      have hHeld : True := trivial
      refine norm_ (a' := ?_) ?_ ?_
      rotate_left
      · simp only [putAll, Act.put, List.setIfInBounds_toArray, List.set_cons_zero, List.set_cons_succ]
        rfl
      refine two_ (i := 5) (j := 12) (Ni := some 18) (Nj := some 25) #[true, true, true, true, true, true, true, true, true, false, false, true, false, false, true, false] #[true, true, true, true, true, false, true, true, true, false, false, true, true, false, true, false] rfl rfl rfl rfl (by kernel_rfl) (by decide) (by decide) (fun K hK => ?_) (fun K hK => ?_)
      · skip
        refine value_ (w1 := ?_) (v := ?_) (by rfl) rfl ?_ ?_
        rotate_left 2
        · go_simp
          constructor
          · rfl
          · rfl
        refine hK.out _ _ trivial (fun hHeld => ?_)
        clear hK K
        refine norm_ (a' := ?_) ?_ ?_
        rotate_left
        · show Act.put _ (some 18) _ = _
          simp only [Act.put, List.setIfInBounds_toArray, List.set_cons_zero, List.set_cons_succ, i64_w, i32_w]
          rfl
        refine pure_ (i := 9) (N := some 22) (v := ?_) (a' := ?_) #[true, true, true, true, true, true, true, true, true, true, false, true, false, false, true, false] rfl rfl (by kernel_rfl) (fun _ _ _ h => h) (Or.inl ⟨by rfl, ?_⟩) ?_ ?_
        rotate_left
        · intro w'
          go_simp
          with_reducible rfl
        rotate_left
        · simp only [Act.put, List.setIfInBounds_toArray, List.set_cons_zero, List.set_cons_succ, i64_w, i32_w]
          rfl
        exact norm_ (by first | (simp only [putAll, Act.put, List.setIfInBounds_toArray, List.set_cons_zero, List.set_cons_succ]; done) | (simp only [putAll, Act.put, List.setIfInBounds_toArray, List.set_cons_zero, List.set_cons_succ]; rfl)) (hJ0_2_4_5_8_14 (s.1, wx.heap.size, s.2.2) _ hF.opB)
      · skip
        refine goes_ Tryz.func22 (by kernel_rfl) rfl #[.int .i64 a2, .int .i64 61] (by rfl) rfl rfl (by simp only [List.map_toArray, List.map_cons, List.map_nil]; rfl) ?_
        with_reducible refine (PB.damperlaw2_within.calls a2 61 k3 _ A3.out).mono ?_
        rintro e w3 ⟨rfl, h3⟩
        refine ⟨_, rfl, ?_⟩
        refine hK.out _ _ trivial (fun hHeld => ?_)
        clear hK K
        refine norm_ (a' := ?_) ?_ ?_
        rotate_left
        · show Act.put _ (some 25) _ = _
          simp only [Act.put, List.setIfInBounds_toArray, List.set_cons_zero, List.set_cons_succ, i64_w, i32_w]
          rfl
        exact norm_ (by first | (simp only [putAll, Act.put, List.setIfInBounds_toArray, List.set_cons_zero, List.set_cons_succ]; done) | (simp only [putAll, Act.put, List.setIfInBounds_toArray, List.set_cons_zero, List.set_cons_succ]; rfl)) (hJ0_2_4_8_12_14 s _ (hF.below h3.below))
    intro hJ0_2_4_8_14
    refine join_ (σ := Nat × Nat × Nat) 5 #[true, true, true, true, false, true, true, true, true, true, true, true, false, false, false, false] (fun s => [(13, .slice (some ⟨s.1, 0, none⟩) 3 3), (15, .int .i64 (k1 : Int)), (16, .pointer (some ⟨s.1, k1, none⟩)), (18, .slice (some ⟨s.2.1, 0, none⟩) 3 3), (21, .int .i64 (k2 : Int)), (22, .pointer (some ⟨s.2.1, k2, none⟩)), (23, .string (nB k2))]) (fun s w' => RtF W0 true true false s w') ?_ ?_
    · skip
      rintro s wx hF
      have hHeld : True := trivial
      refine norm_ (a' := ?_) ?_ ?_
      rotate_left
      · simp only [putAll, Act.put, List.setIfInBounds_toArray, List.set_cons_zero, List.set_cons_succ]
        rfl
      refine three_ (i := 4) (j := 12) (k := 14) (Ni := some 17) (Nj := some 25) (Nk := some 7) #[true, true, true, true, true, true, true, true, true, true, true, true, false, false, false, false] #[true, true, true, true, false, true, true, true, true, true, true, true, true, false, false, false] #[true, true, true, true, false, true, true, true, true, true, true, true, false, false, true, false] rfl rfl rfl rfl rfl rfl (by kernel_rfl) (by decide) (by decide) (by decide) (fun K hK => ?_) (fun K hK => ?_) (fun K hK => ?_)
      · skip
        have hc := (hF.A rfl).cell k1
        rw [rA_at hk1] at hc
        refine value_ (w1 := ?_) (v := ?_) (by rfl) rfl ?_ ?_
        rotate_left 2
        · go_simp
          constructor
          · rfl
          · rfl
        refine hK.out _ _ trivial (fun hHeld => ?_)
        clear hK K
        refine norm_ (a' := ?_) ?_ ?_
        rotate_left
        · show Act.put _ (some 17) _ = _
          simp only [Act.put, List.setIfInBounds_toArray, List.set_cons_zero, List.set_cons_succ, i64_w, i32_w]
          rfl
        exact norm_ (by first | (simp only [putAll, Act.put, List.setIfInBounds_toArray, List.set_cons_zero, List.set_cons_succ]; done) | (simp only [putAll, Act.put, List.setIfInBounds_toArray, List.set_cons_zero, List.set_cons_succ]; rfl)) (hJ0_2_4_5_8_10 s _ hF)
      · skip
        refine goes_ Tryz.func22 (by kernel_rfl) rfl #[.int .i64 a2, .int .i64 61] (by rfl) rfl rfl (by simp only [List.map_toArray, List.map_cons, List.map_nil]; rfl) ?_
        with_reducible refine (PB.damperlaw2_within.calls a2 61 k3 _ A3.out).mono ?_
        rintro e w3 ⟨rfl, h3⟩
        refine ⟨_, rfl, ?_⟩
        refine hK.out _ _ trivial (fun hHeld => ?_)
        clear hK K
        refine norm_ (a' := ?_) ?_ ?_
        rotate_left
        · show Act.put _ (some 25) _ = _
          simp only [Act.put, List.setIfInBounds_toArray, List.set_cons_zero, List.set_cons_succ, i64_w, i32_w]
          rfl
        exact norm_ (by first | (simp only [putAll, Act.put, List.setIfInBounds_toArray, List.set_cons_zero, List.set_cons_succ]; done) | (simp only [putAll, Act.put, List.setIfInBounds_toArray, List.set_cons_zero, List.set_cons_succ]; rfl)) (hJ0_2_5_8_10_12 s _ (hF.below h3.below))
      · skip
        refine value_ (w1 := ?_) (v := ?_) (by rfl) rfl ?_ ?_
        rotate_left 2
        · go_simp
          constructor
          · rfl
          · rfl
        refine hK.out _ _ trivial (fun hHeld => ?_)
        clear hK K
        refine norm_ (a' := ?_) ?_ ?_
        rotate_left
        · show Act.put _ (some 7) _ = _
          simp only [Act.put, List.setIfInBounds_toArray, List.set_cons_zero, List.set_cons_succ, i64_w, i32_w]
          rfl
        exact norm_ (by first | (simp only [putAll, Act.put, List.setIfInBounds_toArray, List.set_cons_zero, List.set_cons_succ]; done) | (simp only [putAll, Act.put, List.setIfInBounds_toArray, List.set_cons_zero, List.set_cons_succ]; rfl)) (hJ0_2_5_8_10_14 (s.1, s.2.1, wx.heap.size) _ hF.opC)
    intro hJ0_2_5_8_10
    refine join_ (σ := Nat × Nat × Nat) 5 #[true, true, true, true, false, true, true, true, true, true, false, true, true, false, false, false] (fun s => [(13, .slice (some ⟨s.1, 0, none⟩) 3 3), (15, .int .i64 (k1 : Int)), (16, .pointer (some ⟨s.1, k1, none⟩)), (18, .slice (some ⟨s.2.1, 0, none⟩) 3 3), (21, .int .i64 (k2 : Int)), (22, .pointer (some ⟨s.2.1, k2, none⟩)), (25, .int .i64 (k3 : Int))]) (fun s w' => RtF W0 true true false s w') ?_ ?_
    · skip
      rintro s wx hF
      have hHeld : True := trivial
      refine norm_ (a' := ?_) ?_ ?_
      rotate_left
      · simp only [putAll, Act.put, List.setIfInBounds_toArray, List.set_cons_zero, List.set_cons_succ]
        rfl
      refine three_ (i := 4) (j := 10) (k := 14) (Ni := some 17) (Nj := some 23) (Nk := some 7) #[true, true, true, true, true, true, true, true, true, true, false, true, true, false, false, false] #[true, true, true, true, false, true, true, true, true, true, true, true, true, false, false, false] #[true, true, true, true, false, true, true, true, true, true, false, true, true, false, true, false] rfl rfl rfl rfl rfl rfl (by kernel_rfl) (by decide) (by decide) (by decide) (fun K hK => ?_) (fun K hK => ?_) (fun K hK => ?_)
      · skip
        have hc := (hF.A rfl).cell k1
        rw [rA_at hk1] at hc
        refine value_ (w1 := ?_) (v := ?_) (by rfl) rfl ?_ ?_
        rotate_left 2
        · go_simp
          constructor
          · rfl
          · rfl
        refine hK.out _ _ trivial (fun hHeld => ?_)
        clear hK K
        refine norm_ (a' := ?_) ?_ ?_
        rotate_left
        · show Act.put _ (some 17) _ = _
          simp only [Act.put, List.setIfInBounds_toArray, List.set_cons_zero, List.set_cons_succ, i64_w, i32_w]
          rfl
        exact norm_ (by first | (simp only [putAll, Act.put, List.setIfInBounds_toArray, List.set_cons_zero, List.set_cons_succ]; done) | (simp only [putAll, Act.put, List.setIfInBounds_toArray, List.set_cons_zero, List.set_cons_succ]; rfl)) (hJ0_2_4_5_8_12 s _ hF)
      · skip
        have hc := (hF.B rfl).cell k2
        rw [rB_at hk2] at hc
        refine value_ (w1 := ?_) (v := ?_) (by rfl) rfl ?_ ?_
        rotate_left 2
        · go_simp
          constructor
          · rfl
          · rfl
        refine hK.out _ _ trivial (fun hHeld => ?_)
        clear hK K
        refine norm_ (a' := ?_) ?_ ?_
        rotate_left
        · show Act.put _ (some 23) _ = _
          simp only [Act.put, List.setIfInBounds_toArray, List.set_cons_zero, List.set_cons_succ, i64_w, i32_w]
          rfl
        exact norm_ (by first | (simp only [putAll, Act.put, List.setIfInBounds_toArray, List.set_cons_zero, List.set_cons_succ]; done) | (simp only [putAll, Act.put, List.setIfInBounds_toArray, List.set_cons_zero, List.set_cons_succ]; rfl)) (hJ0_2_5_8_10_12 s _ hF)
      · skip
        refine value_ (w1 := ?_) (v := ?_) (by rfl) rfl ?_ ?_
        rotate_left 2
        · go_simp
          constructor
          · rfl
          · rfl
        refine hK.out _ _ trivial (fun hHeld => ?_)
        clear hK K
        refine norm_ (a' := ?_) ?_ ?_
        rotate_left
        · show Act.put _ (some 7) _ = _
          simp only [Act.put, List.setIfInBounds_toArray, List.set_cons_zero, List.set_cons_succ, i64_w, i32_w]
          rfl
        exact norm_ (by first | (simp only [putAll, Act.put, List.setIfInBounds_toArray, List.set_cons_zero, List.set_cons_succ]; done) | (simp only [putAll, Act.put, List.setIfInBounds_toArray, List.set_cons_zero, List.set_cons_succ]; rfl)) (hJ0_2_5_8_12_14 (s.1, s.2.1, wx.heap.size) _ hF.opC)
    intro hJ0_2_5_8_12
    refine join_ (σ := Nat × Nat × Nat) 5 #[true, true, true, true, false, true, true, true, true, true, false, true, false, false, true, false] (fun s => [(13, .slice (some ⟨s.1, 0, none⟩) 3 3), (15, .int .i64 (k1 : Int)), (16, .pointer (some ⟨s.1, k1, none⟩)), (18, .slice (some ⟨s.2.1, 0, none⟩) 3 3), (21, .int .i64 (k2 : Int)), (22, .pointer (some ⟨s.2.1, k2, none⟩)), (7, .pointer (some ⟨s.2.2, 0, none⟩))]) (fun s w' => RtF W0 true true true s w') ?_ ?_
    · skip
      rintro s wx hF
      have hHeld : True := trivial
      refine norm_ (a' := ?_) ?_ ?_
      rotate_left
      · simp only [putAll, Act.put, List.setIfInBounds_toArray, List.set_cons_zero, List.set_cons_succ]
        rfl
      refine three_ (i := 4) (j := 10) (k := 12) (Ni := some 17) (Nj := some 23) (Nk := some 25) #[true, true, true, true, true, true, true, true, true, true, false, true, false, false, true, false] #[true, true, true, true, false, true, true, true, true, true, true, true, false, false, true, false] #[true, true, true, true, false, true, true, true, true, true, false, true, true, false, true, false] rfl rfl rfl rfl rfl rfl (by kernel_rfl) (by decide) (by decide) (by decide) (fun K hK => ?_) (fun K hK => ?_) (fun K hK => ?_)
      · skip
        have hc := (hF.A rfl).cell k1
        rw [rA_at hk1] at hc
        refine value_ (w1 := ?_) (v := ?_) (by rfl) rfl ?_ ?_
        rotate_left 2
        · go_simp
          constructor
          · rfl
          · rfl
        refine hK.out _ _ trivial (fun hHeld => ?_)
        clear hK K
        refine norm_ (a' := ?_) ?_ ?_
        rotate_left
        · show Act.put _ (some 17) _ = _
          simp only [Act.put, List.setIfInBounds_toArray, List.set_cons_zero, List.set_cons_succ, i64_w, i32_w]
          rfl
        exact norm_ (by first | (simp only [putAll, Act.put, List.setIfInBounds_toArray, List.set_cons_zero, List.set_cons_succ]; done) | (simp only [putAll, Act.put, List.setIfInBounds_toArray, List.set_cons_zero, List.set_cons_succ]; rfl)) (hJ0_2_4_5_8_14 s _ hF)
      · skip
        have hc := (hF.B rfl).cell k2
        rw [rB_at hk2] at hc
        refine value_ (w1 := ?_) (v := ?_) (by rfl) rfl ?_ ?_
        rotate_left 2
        · go_simp
          constructor
          · rfl
          · rfl
        refine hK.out _ _ trivial (fun hHeld => ?_)
        clear hK K
        refine norm_ (a' := ?_) ?_ ?_
        rotate_left
        · show Act.put _ (some 23) _ = _
          simp only [Act.put, List.setIfInBounds_toArray, List.set_cons_zero, List.set_cons_succ, i64_w, i32_w]
          rfl
        exact norm_ (by first | (simp only [putAll, Act.put, List.setIfInBounds_toArray, List.set_cons_zero, List.set_cons_succ]; done) | (simp only [putAll, Act.put, List.setIfInBounds_toArray, List.set_cons_zero, List.set_cons_succ]; rfl)) (hJ0_2_5_8_10_14 s _ hF)
      · skip
        refine goes_ Tryz.func22 (by kernel_rfl) rfl #[.int .i64 a2, .int .i64 61] (by rfl) rfl rfl (by simp only [List.map_toArray, List.map_cons, List.map_nil]; rfl) ?_
        with_reducible refine (PB.damperlaw2_within.calls a2 61 k3 _ A3.out).mono ?_
        rintro e w3 ⟨rfl, h3⟩
        refine ⟨_, rfl, ?_⟩
        refine hK.out _ _ trivial (fun hHeld => ?_)
        clear hK K
        refine norm_ (a' := ?_) ?_ ?_
        rotate_left
        · show Act.put _ (some 25) _ = _
          simp only [Act.put, List.setIfInBounds_toArray, List.set_cons_zero, List.set_cons_succ, i64_w, i32_w]
          rfl
        exact norm_ (by first | (simp only [putAll, Act.put, List.setIfInBounds_toArray, List.set_cons_zero, List.set_cons_succ]; done) | (simp only [putAll, Act.put, List.setIfInBounds_toArray, List.set_cons_zero, List.set_cons_succ]; rfl)) (hJ0_2_5_8_12_14 s _ (hF.below h3.below))
    intro hJ0_2_5_8_14
    refine join_ (σ := Nat × Nat × Nat) 6 #[true, true, true, true, false, false, true, true, true, false, false, true, true, false, true, false] (fun s => [(13, .slice (some ⟨s.1, 0, none⟩) 3 3), (15, .int .i64 (k1 : Int)), (16, .pointer (some ⟨s.1, k1, none⟩)), (21, .int .i64 (k2 : Int)), (25, .int .i64 (k3 : Int)), (7, .pointer (some ⟨s.2.2, 0, none⟩))]) (fun s w' => RtF W0 true false true s w') ?_ ?_
    · skip
      rintro s wx hF
      have hHeld : True := trivial
      refine norm_ (a' := ?_) ?_ ?_
      rotate_left
      · simp only [putAll, Act.put, List.setIfInBounds_toArray, List.set_cons_zero, List.set_cons_succ]
        rfl
      refine two_ (i := 4) (j := 5) (Ni := some 17) (Nj := some 18) #[true, true, true, true, true, false, true, true, true, false, false, true, true, false, true, false] #[true, true, true, true, false, true, true, true, true, false, false, true, true, false, true, false] rfl rfl rfl rfl (by kernel_rfl) (by decide) (by decide) (fun K hK => ?_) (fun K hK => ?_)
      · skip
        have hc := (hF.A rfl).cell k1
        rw [rA_at hk1] at hc
        refine value_ (w1 := ?_) (v := ?_) (by rfl) rfl ?_ ?_
        rotate_left 2
        · go_simp
          constructor
          · rfl
          · rfl
        refine hK.out _ _ trivial (fun hHeld => ?_)
        clear hK K
        refine norm_ (a' := ?_) ?_ ?_
        rotate_left
        · show Act.put _ (some 17) _ = _
          simp only [Act.put, List.setIfInBounds_toArray, List.set_cons_zero, List.set_cons_succ, i64_w, i32_w]
          rfl
        exact norm_ (by first | (simp only [putAll, Act.put, List.setIfInBounds_toArray, List.set_cons_zero, List.set_cons_succ]; done) | (simp only [putAll, Act.put, List.setIfInBounds_toArray, List.set_cons_zero, List.set_cons_succ]; rfl)) (hJ0_2_4_8_12_14 s _ hF)
      · skip
        refine value_ (w1 := ?_) (v := ?_) (by rfl) rfl ?_ ?_
        rotate_left 2
        · go_simp
          constructor
          · rfl
          · rfl
        refine hK.out _ _ trivial (fun hHeld => ?_)
        clear hK K
        refine norm_ (a' := ?_) ?_ ?_
        rotate_left
        · show Act.put _ (some 18) _ = _
          simp only [Act.put, List.setIfInBounds_toArray, List.set_cons_zero, List.set_cons_succ, i64_w, i32_w]
          rfl
        refine pure_ (i := 9) (N := some 22) (v := ?_) (a' := ?_) #[true, true, true, true, false, true, true, true, true, true, false, true, true, false, true, false] rfl rfl (by kernel_rfl) (fun _ _ _ h => h) (Or.inl ⟨by rfl, ?_⟩) ?_ ?_
        rotate_left
        · intro w'
          go_simp
          with_reducible rfl
        rotate_left
        · simp only [Act.put, List.setIfInBounds_toArray, List.set_cons_zero, List.set_cons_succ, i64_w, i32_w]
          rfl
        exact norm_ (by first | (simp only [putAll, Act.put, List.setIfInBounds_toArray, List.set_cons_zero, List.set_cons_succ]; done) | (simp only [putAll, Act.put, List.setIfInBounds_toArray, List.set_cons_zero, List.set_cons_succ]; rfl)) (hJ0_2_5_8_12_14 (s.1, wx.heap.size, s.2.2) _ hF.opB)
    intro hJ0_2_8_12_14
    refine join_ (σ := Nat × Nat × Nat) 6 #[false, true, true, false, false, true, true, true, true, true, true, true, true, false, false, false] (fun s => [(15, .int .i64 (k1 : Int)), (18, .slice (some ⟨s.2.1, 0, none⟩) 3 3), (21, .int .i64 (k2 : Int)), (22, .pointer (some ⟨s.2.1, k2, none⟩)), (23, .string (nB k2)), (25, .int .i64 (k3 : Int))]) (fun s w' => RtF W0 false true false s w') ?_ ?_
    · skip
      rintro s wx hF
      have hHeld : True := trivial
      refine norm_ (a' := ?_) ?_ ?_
      rotate_left
      · simp only [putAll, Act.put, List.setIfInBounds_toArray, List.set_cons_zero, List.set_cons_succ]
        rfl
      refine two_ (i := 0) (j := 14) (Ni := some 13) (Nj := some 7) #[true, true, true, false, false, true, true, true, true, true, true, true, true, false, false, false] #[false, true, true, false, false, true, true, true, true, true, true, true, true, false, true, false] rfl rfl rfl rfl (by kernel_rfl) (by decide) (by decide) (fun K hK => ?_) (fun K hK => ?_)
      · skip
        refine value_ (w1 := ?_) (v := ?_) (by rfl) rfl ?_ ?_
        rotate_left 2
        · go_simp
          constructor
          · rfl
          · rfl
        refine hK.out _ _ trivial (fun hHeld => ?_)
        clear hK K
        refine norm_ (a' := ?_) ?_ ?_
        rotate_left
        · show Act.put _ (some 13) _ = _
          simp only [Act.put, List.setIfInBounds_toArray, List.set_cons_zero, List.set_cons_succ, i64_w, i32_w]
          rfl
        refine pure_ (i := 3) (N := some 16) (v := ?_) (a' := ?_) #[true, true, true, true, false, true, true, true, true, true, true, true, true, false, false, false] rfl rfl (by kernel_rfl) (fun _ _ _ h => h) (Or.inl ⟨by rfl, ?_⟩) ?_ ?_
        rotate_left
        · intro w'
          go_simp
          with_reducible rfl
        rotate_left
        · simp only [Act.put, List.setIfInBounds_toArray, List.set_cons_zero, List.set_cons_succ, i64_w, i32_w]
          rfl
        exact norm_ (by first | (simp only [putAll, Act.put, List.setIfInBounds_toArray, List.set_cons_zero, List.set_cons_succ]; done) | (simp only [putAll, Act.put, List.setIfInBounds_toArray, List.set_cons_zero, List.set_cons_succ]; rfl)) (hJ0_2_5_8_10_12 (wx.heap.size, s.2) _ hF.opA)
      · skip
        refine value_ (w1 := ?_) (v := ?_) (by rfl) rfl ?_ ?_
        rotate_left 2
        · go_simp
          constructor
          · rfl
          · rfl
        refine hK.out _ _ trivial (fun hHeld => ?_)
        clear hK K
        refine norm_ (a' := ?_) ?_ ?_
        rotate_left
        · show Act.put _ (some 7) _ = _
          simp only [Act.put, List.setIfInBounds_toArray, List.set_cons_zero, List.set_cons_succ, i64_w, i32_w]
          rfl
        exact norm_ (by first | (simp only [putAll, Act.put, List.setIfInBounds_toArray, List.set_cons_zero, List.set_cons_succ]; done) | (simp only [putAll, Act.put, List.setIfInBounds_toArray, List.set_cons_zero, List.set_cons_succ]; rfl)) (hJ2_5_8_10_12_14 (s.1, s.2.1, wx.heap.size) _ hF.opC)
    intro hJ2_5_8_10_12
    refine join_ (σ := Nat × Nat × Nat) 6 #[false, true, true, false, false, true, true, true, true, true, true, true, false, false, true, false] (fun s => [(15, .int .i64 (k1 : Int)), (18, .slice (some ⟨s.2.1, 0, none⟩) 3 3), (21, .int .i64 (k2 : Int)), (22, .pointer (some ⟨s.2.1, k2, none⟩)), (23, .string (nB k2)), (7, .pointer (some ⟨s.2.2, 0, none⟩))]) (fun s w' => RtF W0 false true true s w') ?_ ?_
    · skip
      rintro s wx hF
      have hHeld : True := trivial
      refine norm_ (a' := ?_) ?_ ?_
      rotate_left
      · simp only [putAll, Act.put, List.setIfInBounds_toArray, List.set_cons_zero, List.set_cons_succ]
        rfl
      refine two_ (i := 0) (j := 12) (Ni := some 13) (Nj := some 25) #[true, true, true, false, false, true, true, true, true, true, true, true, false, false, true, false] #[false, true, true, false, false, true, true, true, true, true, true, true, true, false, true, false] rfl rfl rfl rfl (by kernel_rfl) (by decide) (by decide) (fun K hK => ?_) (fun K hK => ?_)
      · skip
        refine value_ (w1 := ?_) (v := ?_) (by rfl) rfl ?_ ?_
        rotate_left 2
        · go_simp
          constructor
          · rfl
          · rfl
        refine hK.out _ _ trivial (fun hHeld => ?_)
        clear hK K
        refine norm_ (a' := ?_) ?_ ?_
        rotate_left
        · show Act.put _ (some 13) _ = _
          simp only [Act.put, List.setIfInBounds_toArray, List.set_cons_zero, List.set_cons_succ, i64_w, i32_w]
          rfl
        refine pure_ (i := 3) (N := some 16) (v := ?_) (a' := ?_) #[true, true, true, true, false, true, true, true, true, true, true, true, false, false, true, false] rfl rfl (by kernel_rfl) (fun _ _ _ h => h) (Or.inl ⟨by rfl, ?_⟩) ?_ ?_
        rotate_left
        · intro w'
          go_simp
          with_reducible rfl
        rotate_left
        · simp only [Act.put, List.setIfInBounds_toArray, List.set_cons_zero, List.set_cons_succ, i64_w, i32_w]
          rfl
        exact norm_ (by first | (simp only [putAll, Act.put, List.setIfInBounds_toArray, List.set_cons_zero, List.set_cons_succ]; done) | (simp only [putAll, Act.put, List.setIfInBounds_toArray, List.set_cons_zero, List.set_cons_succ]; rfl)) (hJ0_2_5_8_10_14 (wx.heap.size, s.2) _ hF.opA)
      · skip
        refine goes_ Tryz.func22 (by kernel_rfl) rfl #[.int .i64 a2, .int .i64 61] (by rfl) rfl rfl (by simp only [List.map_toArray, List.map_cons, List.map_nil]; rfl) ?_
        with_reducible refine (PB.damperlaw2_within.calls a2 61 k3 _ A3.out).mono ?_
        rintro e w3 ⟨rfl, h3⟩
        refine ⟨_, rfl, ?_⟩
        refine hK.out _ _ trivial (fun hHeld => ?_)
        clear hK K
        refine norm_ (a' := ?_) ?_ ?_
        rotate_left
        · show Act.put _ (some 25) _ = _
          simp only [Act.put, List.setIfInBounds_toArray, List.set_cons_zero, List.set_cons_succ, i64_w, i32_w]
          rfl
        exact norm_ (by first | (simp only [putAll, Act.put, List.setIfInBounds_toArray, List.set_cons_zero, List.set_cons_succ]; done) | (simp only [putAll, Act.put, List.setIfInBounds_toArray, List.set_cons_zero, List.set_cons_succ]; rfl)) (hJ2_5_8_10_12_14 s _ (hF.below h3.below))
    intro hJ2_5_8_10_14
    refine join_ (σ := Nat × Nat × Nat) 6 #[false, true, true, false, false, true, true, true, true, true, false, true, true, false, true, false] (fun s => [(15, .int .i64 (k1 : Int)), (18, .slice (some ⟨s.2.1, 0, none⟩) 3 3), (21, .int .i64 (k2 : Int)), (22, .pointer (some ⟨s.2.1, k2, none⟩)), (25, .int .i64 (k3 : Int)), (7, .pointer (some ⟨s.2.2, 0, none⟩))]) (fun s w' => RtF W0 false true true s w') ?_ ?_
    · skip
      rintro s wx hF
      have hHeld : True := trivial
      refine norm_ (a' := ?_) ?_ ?_
      rotate_left
      · simp only [putAll, Act.put, List.setIfInBounds_toArray, List.set_cons_zero, List.set_cons_succ]
        rfl
      refine two_ (i := 0) (j := 10) (Ni := some 13) (Nj := some 23) #[true, true, true, false, false, true, true, true, true, true, false, true, true, false, true, false] #[false, true, true, false, false, true, true, true, true, true, true, true, true, false, true, false] rfl rfl rfl rfl (by kernel_rfl) (by decide) (by decide) (fun K hK => ?_) (fun K hK => ?_)
      · skip
        refine value_ (w1 := ?_) (v := ?_) (by rfl) rfl ?_ ?_
        rotate_left 2
        · go_simp
          constructor
          · rfl
          · rfl
        refine hK.out _ _ trivial (fun hHeld => ?_)
        clear hK K
        refine norm_ (a' := ?_) ?_ ?_
        rotate_left
        · show Act.put _ (some 13) _ = _
          simp only [Act.put, List.setIfInBounds_toArray, List.set_cons_zero, List.set_cons_succ, i64_w, i32_w]
          rfl
        refine pure_ (i := 3) (N := some 16) (v := ?_) (a' := ?_) #[true, true, true, true, false, true, true, true, true, true, false, true, true, false, true, false] rfl rfl (by kernel_rfl) (fun _ _ _ h => h) (Or.inl ⟨by rfl, ?_⟩) ?_ ?_
        rotate_left
        · intro w'
          go_simp
          with_reducible rfl
        rotate_left
        · simp only [Act.put, List.setIfInBounds_toArray, List.set_cons_zero, List.set_cons_succ, i64_w, i32_w]
          rfl
        exact norm_ (by first | (simp only [putAll, Act.put, List.setIfInBounds_toArray, List.set_cons_zero, List.set_cons_succ]; done) | (simp only [putAll, Act.put, List.setIfInBounds_toArray, List.set_cons_zero, List.set_cons_succ]; rfl)) (hJ0_2_5_8_12_14 (wx.heap.size, s.2) _ hF.opA)
      · skip
        have hc := (hF.B rfl).cell k2
        rw [rB_at hk2] at hc
        refine value_ (w1 := ?_) (v := ?_) (by rfl) rfl ?_ ?_
        rotate_left 2
        · go_simp
          constructor
          · rfl
          · rfl
        refine hK.out _ _ trivial (fun hHeld => ?_)
        clear hK K
        refine norm_ (a' := ?_) ?_ ?_
        rotate_left
        · show Act.put _ (some 23) _ = _
          simp only [Act.put, List.setIfInBounds_toArray, List.set_cons_zero, List.set_cons_succ, i64_w, i32_w]
          rfl
        exact norm_ (by first | (simp only [putAll, Act.put, List.setIfInBounds_toArray, List.set_cons_zero, List.set_cons_succ]; done) | (simp only [putAll, Act.put, List.setIfInBounds_toArray, List.set_cons_zero, List.set_cons_succ]; rfl)) (hJ2_5_8_10_12_14 s _ hF)
    intro hJ2_5_8_12_14
    refine join_ (σ := Nat × Nat × Nat) 7 #[true, true, true, true, true, true, true, true, false, false, false, true, false, false, false, false] (fun s => [(13, .slice (some ⟨s.1, 0, none⟩) 3 3), (15, .int .i64 (k1 : Int)), (16, .pointer (some ⟨s.1, k1, none⟩)), (17, .string (nA k1)), (18, .slice (some ⟨s.2.1, 0, none⟩) 3 3)]) (fun s w' => RtF W0 true true false s w') ?_ ?_
    · skip
      rintro s wx hF
      have hHeld : True := trivial
      refine norm_ (a' := ?_) ?_ ?_
      rotate_left
      · simp only [putAll, Act.put, List.setIfInBounds_toArray, List.set_cons_zero, List.set_cons_succ]
        rfl
      refine two_ (i := 8) (j := 14) (Ni := some 21) (Nj := some 7) #[true, true, true, true, true, true, true, true, true, false, false, true, false, false, false, false] #[true, true, true, true, true, true, true, true, false, false, false, true, false, false, true, false] rfl rfl rfl rfl (by kernel_rfl) (by decide) (by decide) (fun K hK => ?_) (fun K hK => ?_)
      · skip
        refine goes_ Tryz.func22 (by kernel_rfl) rfl #[.int .i64 (wrap64 (a0.tdiv 3)), .int .i64 3] (by rfl) rfl rfl (by simp only [List.map_toArray, List.map_cons, List.map_nil]; rfl) ?_
        with_reducible refine (PB.damperlaw2_within.calls (wrap64 (a0.tdiv 3)) 3 k2 _ A2.out).mono ?_
        rintro e w3 ⟨rfl, h3⟩
        refine ⟨_, rfl, ?_⟩
        refine hK.out _ _ trivial (fun hHeld => ?_)
        clear hK K
        refine norm_ (a' := ?_) ?_ ?_
        rotate_left
        · show Act.put _ (some 21) _ = _
          simp only [Act.put, List.setIfInBounds_toArray, List.set_cons_zero, List.set_cons_succ, i64_w, i32_w]
          rfl
        refine pure_ (i := 9) (N := some 22) (v := ?_) (a' := ?_) #[true, true, true, true, true, true, true, true, true, true, false, true, false, false, false, false] rfl rfl (by kernel_rfl) (fun _ _ _ h => h) (Or.inl ⟨by rfl, ?_⟩) ?_ ?_
        rotate_left
        · intro w'
          go_simp
          with_reducible rfl
        rotate_left
        · simp only [Act.put, List.setIfInBounds_toArray, List.set_cons_zero, List.set_cons_succ, i64_w, i32_w]
          rfl
        exact norm_ (by first | (simp only [putAll, Act.put, List.setIfInBounds_toArray, List.set_cons_zero, List.set_cons_succ]; done) | (simp only [putAll, Act.put, List.setIfInBounds_toArray, List.set_cons_zero, List.set_cons_succ]; rfl)) (hJ0_2_4_5_8 s _ (hF.below h3.below))
      · skip
        refine value_ (w1 := ?_) (v := ?_) (by rfl) rfl ?_ ?_
        rotate_left 2
        · go_simp
          constructor
          · rfl
          · rfl
        refine hK.out _ _ trivial (fun hHeld => ?_)
        clear hK K
        refine norm_ (a' := ?_) ?_ ?_
        rotate_left
        · show Act.put _ (some 7) _ = _
          simp only [Act.put, List.setIfInBounds_toArray, List.set_cons_zero, List.set_cons_succ, i64_w, i32_w]
          rfl
        exact norm_ (by first | (simp only [putAll, Act.put, List.setIfInBounds_toArray, List.set_cons_zero, List.set_cons_succ]; done) | (simp only [putAll, Act.put, List.setIfInBounds_toArray, List.set_cons_zero, List.set_cons_succ]; rfl)) (hJ0_2_4_5_14 (s.1, s.2.1, wx.heap.size) _ hF.opC)
    intro hJ0_2_4_5
    refine join_ (σ := Nat × Nat × Nat) 7 #[true, true, true, true, true, false, true, true, true, false, false, true, false, false, false, false] (fun s => [(13, .slice (some ⟨s.1, 0, none⟩) 3 3), (15, .int .i64 (k1 : Int)), (16, .pointer (some ⟨s.1, k1, none⟩)), (17, .string (nA k1)), (21, .int .i64 (k2 : Int))]) (fun s w' => RtF W0 true false false s w') ?_ ?_
    · skip
      rintro s wx hF
      have hHeld : True := trivial
      refine norm_ (a' := ?_) ?_ ?_
      rotate_left
      · simp only [putAll, Act.put, List.setIfInBounds_toArray, List.set_cons_zero, List.set_cons_succ]
        rfl
      refine three_ (i := 5) (j := 12) (k := 14) (Ni := some 18) (Nj := some 25) (Nk := some 7) #[true, true, true, true, true, true, true, true, true, false, false, true, false, false, false, false] #[true, true, true, true, true, false, true, true, true, false, false, true, true, false, false, false] #[true, true, true, true, true, false, true, true, true, false, false, true, false, false, true, false] rfl rfl rfl rfl rfl rfl (by kernel_rfl) (by decide) (by decide) (by decide) (fun K hK => ?_) (fun K hK => ?_) (fun K hK => ?_)
      · skip
        refine value_ (w1 := ?_) (v := ?_) (by rfl) rfl ?_ ?_
        rotate_left 2
        · go_simp
          constructor
          · rfl
          · rfl
        refine hK.out _ _ trivial (fun hHeld => ?_)
        clear hK K
        refine norm_ (a' := ?_) ?_ ?_
        rotate_left
        · show Act.put _ (some 18) _ = _
          simp only [Act.put, List.setIfInBounds_toArray, List.set_cons_zero, List.set_cons_succ, i64_w, i32_w]
          rfl
        refine pure_ (i := 9) (N := some 22) (v := ?_) (a' := ?_) #[true, true, true, true, true, true, true, true, true, true, false, true, false, false, false, false] rfl rfl (by kernel_rfl) (fun _ _ _ h => h) (Or.inl ⟨by rfl, ?_⟩) ?_ ?_
        rotate_left
        · intro w'
          go_simp
          with_reducible rfl
        rotate_left
        · simp only [Act.put, List.setIfInBounds_toArray, List.set_cons_zero, List.set_cons_succ, i64_w, i32_w]
          rfl
        exact norm_ (by first | (simp only [putAll, Act.put, List.setIfInBounds_toArray, List.set_cons_zero, List.set_cons_succ]; done) | (simp only [putAll, Act.put, List.setIfInBounds_toArray, List.set_cons_zero, List.set_cons_succ]; rfl)) (hJ0_2_4_5_8 (s.1, wx.heap.size, s.2.2) _ hF.opB)
      · skip
        refine goes_ Tryz.func22 (by kernel_rfl) rfl #[.int .i64 a2, .int .i64 61] (by rfl) rfl rfl (by simp only [List.map_toArray, List.map_cons, List.map_nil]; rfl) ?_
        with_reducible refine (PB.damperlaw2_within.calls a2 61 k3 _ A3.out).mono ?_
        rintro e w3 ⟨rfl, h3⟩
        refine ⟨_, rfl, ?_⟩
        refine hK.out _ _ trivial (fun hHeld => ?_)
        clear hK K
        refine norm_ (a' := ?_) ?_ ?_
        rotate_left
        · show Act.put _ (some 25) _ = _
          simp only [Act.put, List.setIfInBounds_toArray, List.set_cons_zero, List.set_cons_succ, i64_w, i32_w]
          rfl
        exact norm_ (by first | (simp only [putAll, Act.put, List.setIfInBounds_toArray, List.set_cons_zero, List.set_cons_succ]; done) | (simp only [putAll, Act.put, List.setIfInBounds_toArray, List.set_cons_zero, List.set_cons_succ]; rfl)) (hJ0_2_4_8_12 s _ (hF.below h3.below))
      · skip
        refine value_ (w1 := ?_) (v := ?_) (by rfl) rfl ?_ ?_
        rotate_left 2
        · go_simp
          constructor
          · rfl
          · rfl
        refine hK.out _ _ trivial (fun hHeld => ?_)
        clear hK K
        refine norm_ (a' := ?_) ?_ ?_
        rotate_left
        · show Act.put _ (some 7) _ = _
          simp only [Act.put, List.setIfInBounds_toArray, List.set_cons_zero, List.set_cons_succ, i64_w, i32_w]
          rfl
        exact norm_ (by first | (simp only [putAll, Act.put, List.setIfInBounds_toArray, List.set_cons_zero, List.set_cons_succ]; done) | (simp only [putAll, Act.put, List.setIfInBounds_toArray, List.set_cons_zero, List.set_cons_succ]; rfl)) (hJ0_2_4_8_14 (s.1, s.2.1, wx.heap.size) _ hF.opC)
    intro hJ0_2_4_8
    refine join_ (σ := Nat × Nat × Nat) 7 #[true, true, true, true, true, false, true, true, false, false, false, true, false, false, true, false] (fun s => [(13, .slice (some ⟨s.1, 0, none⟩) 3 3), (15, .int .i64 (k1 : Int)), (16, .pointer (some ⟨s.1, k1, none⟩)), (17, .string (nA k1)), (7, .pointer (some ⟨s.2.2, 0, none⟩))]) (fun s w' => RtF W0 true false true s w') ?_ ?_
    · skip
      rintro s wx hF
      have hHeld : True := trivial
      refine norm_ (a' := ?_) ?_ ?_
      rotate_left
      · simp only [putAll, Act.put, List.setIfInBounds_toArray, List.set_cons_zero, List.set_cons_succ]
        rfl
      refine two_ (i := 5) (j := 8) (Ni := some 18) (Nj := some 21) #[true, true, true, true, true, true, true, true, false, false, false, true, false, false, true, false] #[true, true, true, true, true, false, true, true, true, false, false, true, false, false, true, false] rfl rfl rfl rfl (by kernel_rfl) (by decide) (by decide) (fun K hK => ?_) (fun K hK => ?_)
      · skip
        refine value_ (w1 := ?_) (v := ?_) (by rfl) rfl ?_ ?_
        rotate_left 2
        · go_simp
          constructor
          · rfl
          · rfl
        refine hK.out _ _ trivial (fun hHeld => ?_)
        clear hK K
        refine norm_ (a' := ?_) ?_ ?_
        rotate_left
        · show Act.put _ (some 18) _ = _
          simp only [Act.put, List.setIfInBounds_toArray, List.set_cons_zero, List.set_cons_succ, i64_w, i32_w]
          rfl
        exact norm_ (by first | (simp only [putAll, Act.put, List.setIfInBounds_toArray, List.set_cons_zero, List.set_cons_succ]; done) | (simp only [putAll, Act.put, List.setIfInBounds_toArray, List.set_cons_zero, List.set_cons_succ]; rfl)) (hJ0_2_4_5_14 (s.1, wx.heap.size, s.2.2) _ hF.opB)
      · skip
        refine goes_ Tryz.func22 (by kernel_rfl) rfl #[.int .i64 (wrap64 (a0.tdiv 3)), .int .i64 3] (by rfl) rfl rfl (by simp only [List.map_toArray, List.map_cons, List.map_nil]; rfl) ?_
        with_reducible refine (PB.damperlaw2_within.calls (wrap64 (a0.tdiv 3)) 3 k2 _ A2.out).mono ?_
        rintro e w3 ⟨rfl, h3⟩
        refine ⟨_, rfl, ?_⟩
        refine hK.out _ _ trivial (fun hHeld => ?_)
        clear hK K
        refine norm_ (a' := ?_) ?_ ?_
        rotate_left
        · show Act.put _ (some 21) _ = _
          simp only [Act.put, List.setIfInBounds_toArray, List.set_cons_zero, List.set_cons_succ, i64_w, i32_w]
          rfl
        exact norm_ (by first | (simp only [putAll, Act.put, List.setIfInBounds_toArray, List.set_cons_zero, List.set_cons_succ]; done) | (simp only [putAll, Act.put, List.setIfInBounds_toArray, List.set_cons_zero, List.set_cons_succ]; rfl)) (hJ0_2_4_8_14 s _ (hF.below h3.below))
    intro hJ0_2_4_14
    refine join_ (σ := Nat × Nat × Nat) 6 #[true, true, true, true, false, true, true, true, true, true, false, true, false, false, false, false] (fun s => [(13, .slice (some ⟨s.1, 0, none⟩) 3 3), (15, .int .i64 (k1 : Int)), (16, .pointer (some ⟨s.1, k1, none⟩)), (18, .slice (some ⟨s.2.1, 0, none⟩) 3 3), (21, .int .i64 (k2 : Int)), (22, .pointer (some ⟨s.2.1, k2, none⟩))]) (fun s w' => RtF W0 true true false s w') ?_ ?_
    · skip
      rintro s wx hF
      have hHeld : True := trivial
      refine norm_ (a' := ?_) ?_ ?_
      rotate_left
      · simp only [putAll, Act.put, List.setIfInBounds_toArray, List.set_cons_zero, List.set_cons_succ]
        rfl
      refine four_ (i := 4) (j := 10) (k := 12) (m := 14) (Ni := some 17) (Nj := some 23) (Nk := some 25) (Nm := some 7) #[true, true, true, true, true, true, true, true, true, true, false, true, false, false, false, false] #[true, true, true, true, false, true, true, true, true, true, true, true, false, false, false, false] #[true, true, true, true, false, true, true, true, true, true, false, true, true, false, false, false] #[true, true, true, true, false, true, true, true, true, true, false, true, false, false, true, false] rfl rfl rfl rfl rfl rfl rfl rfl (by kernel_rfl) (by decide) (by decide) (by decide) (by decide) (fun K hK => ?_) (fun K hK => ?_) (fun K hK => ?_) (fun K hK => ?_)
      · skip
        have hc := (hF.A rfl).cell k1
        rw [rA_at hk1] at hc
        refine value_ (w1 := ?_) (v := ?_) (by rfl) rfl ?_ ?_
        rotate_left 2
        · go_simp
          constructor
          · rfl
          · rfl
        refine hK.out _ _ trivial (fun hHeld => ?_)
        clear hK K
        refine norm_ (a' := ?_) ?_ ?_
        rotate_left
        · show Act.put _ (some 17) _ = _
          simp only [Act.put, List.setIfInBounds_toArray, List.set_cons_zero, List.set_cons_succ, i64_w, i32_w]
          rfl
        exact norm_ (by first | (simp only [putAll, Act.put, List.setIfInBounds_toArray, List.set_cons_zero, List.set_cons_succ]; done) | (simp only [putAll, Act.put, List.setIfInBounds_toArray, List.set_cons_zero, List.set_cons_succ]; rfl)) (hJ0_2_4_5_8 s _ hF)
      · skip
        have hc := (hF.B rfl).cell k2
        rw [rB_at hk2] at hc
        refine value_ (w1 := ?_) (v := ?_) (by rfl) rfl ?_ ?_
        rotate_left 2
        · go_simp
          constructor
          · rfl
          · rfl
        refine hK.out _ _ trivial (fun hHeld => ?_)
        clear hK K
        refine norm_ (a' := ?_) ?_ ?_
        rotate_left
        · show Act.put _ (some 23) _ = _
          simp only [Act.put, List.setIfInBounds_toArray, List.set_cons_zero, List.set_cons_succ, i64_w, i32_w]
          rfl
        exact norm_ (by first | (simp only [putAll, Act.put, List.setIfInBounds_toArray, List.set_cons_zero, List.set_cons_succ]; done) | (simp only [putAll, Act.put, List.setIfInBounds_toArray, List.set_cons_zero, List.set_cons_succ]; rfl)) (hJ0_2_5_8_10 s _ hF)
      · skip
        refine goes_ Tryz.func22 (by kernel_rfl) rfl #[.int .i64 a2, .int .i64 61] (by rfl) rfl rfl (by simp only [List.map_toArray, List.map_cons, List.map_nil]; rfl) ?_
        with_reducible refine (PB.damperlaw2_within.calls a2 61 k3 _ A3.out).mono ?_
        rintro e w3 ⟨rfl, h3⟩
        refine ⟨_, rfl, ?_⟩
        refine hK.out _ _ trivial (fun hHeld => ?_)
        clear hK K
        refine norm_ (a' := ?_) ?_ ?_
        rotate_left
        · show Act.put _ (some 25) _ = _
          simp only [Act.put, List.setIfInBounds_toArray, List.set_cons_zero, List.set_cons_succ, i64_w, i32_w]
          rfl
        exact norm_ (by first | (simp only [putAll, Act.put, List.setIfInBounds_toArray, List.set_cons_zero, List.set_cons_succ]; done) | (simp only [putAll, Act.put, List.setIfInBounds_toArray, List.set_cons_zero, List.set_cons_succ]; rfl)) (hJ0_2_5_8_12 s _ (hF.below h3.below))
      · skip
        refine value_ (w1 := ?_) (v := ?_) (by rfl) rfl ?_ ?_
        rotate_left 2
        · go_simp
          constructor
          · rfl
          · rfl
        refine hK.out _ _ trivial (fun hHeld => ?_)
        clear hK K
        refine norm_ (a' := ?_) ?_ ?_
        rotate_left
        · show Act.put _ (some 7) _ = _
          simp only [Act.put, List.setIfInBounds_toArray, List.set_cons_zero, List.set_cons_succ, i64_w, i32_w]
          rfl
        exact norm_ (by first | (simp only [putAll, Act.put, List.setIfInBounds_toArray, List.set_cons_zero, List.set_cons_succ]; done) | (simp only [putAll, Act.put, List.setIfInBounds_toArray, List.set_cons_zero, List.set_cons_succ]; rfl)) (hJ0_2_5_8_14 (s.1, s.2.1, wx.heap.size) _ hF.opC)
    intro hJ0_2_5_8
    refine join_ (σ := Nat × Nat × Nat) 7 #[true, true, true, true, false, true, true, true, false, false, false, true, false, false, true, false] (fun s => [(13, .slice (some ⟨s.1, 0, none⟩) 3 3), (15, .int .i64 (k1 : Int)), (16, .pointer (some ⟨s.1, k1, none⟩)), (18, .slice (some ⟨s.2.1, 0, none⟩) 3 3), (7, .pointer (some ⟨s.2.2, 0, none⟩))]) (fun s w' => RtF W0 true true true s w') ?_ ?_
    · skip
      rintro s wx hF
      have hHeld : True := trivial
      refine norm_ (a' := ?_) ?_ ?_
      rotate_left
      · simp only [putAll, Act.put, List.setIfInBounds_toArray, List.set_cons_zero, List.set_cons_succ]
        rfl
      refine two_ (i := 4) (j := 8) (Ni := some 17) (Nj := some 21) #[true, true, true, true, true, true, true, true, false, false, false, true, false, false, true, false] #[true, true, true, true, false, true, true, true, true, false, false, true, false, false, true, false] rfl rfl rfl rfl (by kernel_rfl) (by decide) (by decide) (fun K hK => ?_) (fun K hK => ?_)
      · skip
        have hc := (hF.A rfl).cell k1
        rw [rA_at hk1] at hc
        refine value_ (w1 := ?_) (v := ?_) (by rfl) rfl ?_ ?_
        rotate_left 2
        · go_simp
          constructor
          · rfl
          · rfl
        refine hK.out _ _ trivial (fun hHeld => ?_)
        clear hK K
        refine norm_ (a' := ?_) ?_ ?_
        rotate_left
        · show Act.put _ (some 17) _ = _
          simp only [Act.put, List.setIfInBounds_toArray, List.set_cons_zero, List.set_cons_succ, i64_w, i32_w]
          rfl
        exact norm_ (by first | (simp only [putAll, Act.put, List.setIfInBounds_toArray, List.set_cons_zero, List.set_cons_succ]; done) | (simp only [putAll, Act.put, List.setIfInBounds_toArray, List.set_cons_zero, List.set_cons_succ]; rfl)) (hJ0_2_4_5_14 s _ hF)
      · skip
        refine goes_ Tryz.func22 (by kernel_rfl) rfl #[.int .i64 (wrap64 (a0.tdiv 3)), .int .i64 3] (by rfl) rfl rfl (by simp only [List.map_toArray, List.map_cons, List.map_nil]; rfl) ?_
        with_reducible refine (PB.damperlaw2_within.calls (wrap64 (a0.tdiv 3)) 3 k2 _ A2.out).mono ?_
        rintro e w3 ⟨rfl, h3⟩
        refine ⟨_, rfl, ?_⟩
        refine hK.out _ _ trivial (fun hHeld => ?_)
        clear hK K
        refine norm_ (a' := ?_) ?_ ?_
        rotate_left
        · show Act.put _ (some 21) _ = _
          simp only [Act.put, List.setIfInBounds_toArray, List.set_cons_zero, List.set_cons_succ, i64_w, i32_w]
          rfl
        refine pure_ (i := 9) (N := some 22) (v := ?_) (a' := ?_) #[true, true, true, true, false, true, true, true, true, true, false, true, false, false, true, false] rfl rfl (by kernel_rfl) (fun _ _ _ h => h) (Or.inl ⟨by rfl, ?_⟩) ?_ ?_
        rotate_left
        · intro w'
          go_simp
          with_reducible rfl
        rotate_left
        · simp only [Act.put, List.setIfInBounds_toArray, List.set_cons_zero, List.set_cons_succ, i64_w, i32_w]
          rfl
        exact norm_ (by first | (simp only [putAll, Act.put, List.setIfInBounds_toArray, List.set_cons_zero, List.set_cons_succ]; done) | (simp only [putAll, Act.put, List.setIfInBounds_toArray, List.set_cons_zero, List.set_cons_succ]; rfl)) (hJ0_2_5_8_14 s _ (hF.below h3.below))
    intro hJ0_2_5_14
    refine join_ (σ := Nat × Nat × Nat) 7 #[true, true, true, true, false, false, true, true, true, false, false, true, true, false, false, false] (fun s => [(13, .slice (some ⟨s.1, 0, none⟩) 3 3), (15, .int .i64 (k1 : Int)), (16, .pointer (some ⟨s.1, k1, none⟩)), (21, .int .i64 (k2 : Int)), (25, .int .i64 (k3 : Int))]) (fun s w' => RtF W0 true false false s w') ?_ ?_
    · skip
      rintro s wx hF
      have hHeld : True := trivial
      refine norm_ (a' := ?_) ?_ ?_
      rotate_left
      · simp only [putAll, Act.put, List.setIfInBounds_toArray, List.set_cons_zero, List.set_cons_succ]
        rfl
      refine three_ (i := 4) (j := 5) (k := 14) (Ni := some 17) (Nj := some 18) (Nk := some 7) #[true, true, true, true, true, false, true, true, true, false, false, true, true, false, false, false] #[true, true, true, true, false, true, true, true, true, false, false, true, true, false, false, false] #[true, true, true, true, false, false, true, true, true, false, false, true, true, false, true, false] rfl rfl rfl rfl rfl rfl (by kernel_rfl) (by decide) (by decide) (by decide) (fun K hK => ?_) (fun K hK => ?_) (fun K hK => ?_)
      · skip
        have hc := (hF.A rfl).cell k1
        rw [rA_at hk1] at hc
        refine value_ (w1 := ?_) (v := ?_) (by rfl) rfl ?_ ?_
        rotate_left 2
        · go_simp
          constructor
          · rfl
          · rfl
        refine hK.out _ _ trivial (fun hHeld => ?_)
        clear hK K
        refine norm_ (a' := ?_) ?_ ?_
        rotate_left
        · show Act.put _ (some 17) _ = _
          simp only [Act.put, List.setIfInBounds_toArray, List.set_cons_zero, List.set_cons_succ, i64_w, i32_w]
          rfl
        exact norm_ (by first | (simp only [putAll, Act.put, List.setIfInBounds_toArray, List.set_cons_zero, List.set_cons_succ]; done) | (simp only [putAll, Act.put, List.setIfInBounds_toArray, List.set_cons_zero, List.set_cons_succ]; rfl)) (hJ0_2_4_8_12 s _ hF)
      · skip
        refine value_ (w1 := ?_) (v := ?_) (by rfl) rfl ?_ ?_
        rotate_left 2
        · go_simp
          constructor
          · rfl
          · rfl
        refine hK.out _ _ trivial (fun hHeld => ?_)
        clear hK K
        refine norm_ (a' := ?_) ?_ ?_
        rotate_left
        · show Act.put _ (some 18) _ = _
          simp only [Act.put, List.setIfInBounds_toArray, List.set_cons_zero, List.set_cons_succ, i64_w, i32_w]
          rfl
        refine pure_ (i := 9) (N := some 22) (v := ?_) (a' := ?_) #[true, true, true, true, false, true, true, true, true, true, false, true, true, false, false, false] rfl rfl (by kernel_rfl) (fun _ _ _ h => h) (Or.inl ⟨by rfl, ?_⟩) ?_ ?_
        rotate_left
        · intro w'
          go_simp
          with_reducible rfl
        rotate_left
        · simp only [Act.put, List.setIfInBounds_toArray, List.set_cons_zero, List.set_cons_succ, i64_w, i32_w]
          rfl
        exact norm_ (by first | (simp only [putAll, Act.put, List.setIfInBounds_toArray, List.set_cons_zero, List.set_cons_succ]; done) | (simp only [putAll, Act.put, List.setIfInBounds_toArray, List.set_cons_zero, List.set_cons_succ]; rfl)) (hJ0_2_5_8_12 (s.1, wx.heap.size, s.2.2) _ hF.opB)
      · skip
        refine value_ (w1 := ?_) (v := ?_) (by rfl) rfl ?_ ?_
        rotate_left 2
        · go_simp
          constructor
          · rfl
          · rfl
        refine hK.out _ _ trivial (fun hHeld => ?_)
        clear hK K
        refine norm_ (a' := ?_) ?_ ?_
        rotate_left
        · show Act.put _ (some 7) _ = _
          simp only [Act.put, List.setIfInBounds_toArray, List.set_cons_zero, List.set_cons_succ, i64_w, i32_w]
          rfl
        exact norm_ (by first | (simp only [putAll, Act.put, List.setIfInBounds_toArray, List.set_cons_zero, List.set_cons_succ]; done) | (simp only [putAll, Act.put, List.setIfInBounds_toArray, List.set_cons_zero, List.set_cons_succ]; rfl)) (hJ0_2_8_12_14 (s.1, s.2.1, wx.heap.size) _ hF.opC)
    intro hJ0_2_8_12
    refine join_ (σ := Nat × Nat × Nat) 7 #[true, true, true, true, false, false, true, true, true, false, false, true, false, false, true, false] (fun s => [(13, .slice (some ⟨s.1, 0, none⟩) 3 3), (15, .int .i64 (k1 : Int)), (16, .pointer (some ⟨s.1, k1, none⟩)), (21, .int .i64 (k2 : Int)), (7, .pointer (some ⟨s.2.2, 0, none⟩))]) (fun s w' => RtF W0 true false true s w') ?_ ?_
    · skip
      rintro s wx hF
      have hHeld : True := trivial
      refine norm_ (a' := ?_) ?_ ?_
      rotate_left
      · simp only [putAll, Act.put, List.setIfInBounds_toArray, List.set_cons_zero, List.set_cons_succ]
        rfl
      refine three_ (i := 4) (j := 5) (k := 12) (Ni := some 17) (Nj := some 18) (Nk := some 25) #[true, true, true, true, true, false, true, true, true, false, false, true, false, false, true, false] #[true, true, true, true, false, true, true, true, true, false, false, true, false, false, true, false] #[true, true, true, true, false, false, true, true, true, false, false, true, true, false, true, false] rfl rfl rfl rfl rfl rfl (by kernel_rfl) (by decide) (by decide) (by decide) (fun K hK => ?_) (fun K hK => ?_) (fun K hK => ?_)
      · skip
        have hc := (hF.A rfl).cell k1
        rw [rA_at hk1] at hc
        refine value_ (w1 := ?_) (v := ?_) (by rfl) rfl ?_ ?_
        rotate_left 2
        · go_simp
          constructor
          · rfl
          · rfl
        refine hK.out _ _ trivial (fun hHeld => ?_)
        clear hK K
        refine norm_ (a' := ?_) ?_ ?_
        rotate_left
        · show Act.put _ (some 17) _ = _
          simp only [Act.put, List.setIfInBounds_toArray, List.set_cons_zero, List.set_cons_succ, i64_w, i32_w]
          rfl
        exact norm_ (by first | (simp only [putAll, Act.put, List.setIfInBounds_toArray, List.set_cons_zero, List.set_cons_succ]; done) | (simp only [putAll, Act.put, List.setIfInBounds_toArray, List.set_cons_zero, List.set_cons_succ]; rfl)) (hJ0_2_4_8_14 s _ hF)
      · skip
        refine value_ (w1 := ?_) (v := ?_) (by rfl) rfl ?_ ?_
        rotate_left 2
        · go_simp
          constructor
          · rfl
          · rfl
        refine hK.out _ _ trivial (fun hHeld => ?_)
        clear hK K
        refine norm_ (a' := ?_) ?_ ?_
        rotate_left
        · show Act.put _ (some 18) _ = _
          simp only [Act.put, List.setIfInBounds_toArray, List.set_cons_zero, List.set_cons_succ, i64_w, i32_w]
          rfl
        refine pure_ (i := 9) (N := some 22) (v := ?_) (a' := ?_) #[true, true, true, true, false, true, true, true, true, true, false, true, false, false, true, false] rfl rfl (by kernel_rfl) (fun _ _ _ h => h) (Or.inl ⟨by rfl, ?_⟩) ?_ ?_
        rotate_left
        · intro w'
          go_simp
          with_reducible rfl
        rotate_left
        · simp only [Act.put, List.setIfInBounds_toArray, List.set_cons_zero, List.set_cons_succ, i64_w, i32_w]
          rfl
        exact norm_ (by first | (simp only [putAll, Act.put, List.setIfInBounds_toArray, List.set_cons_zero, List.set_cons_succ]; done) | (simp only [putAll, Act.put, List.setIfInBounds_toArray, List.set_cons_zero, List.set_cons_succ]; rfl)) (hJ0_2_5_8_14 (s.1, wx.heap.size, s.2.2) _ hF.opB)
      · skip
        refine goes_ Tryz.func22 (by kernel_rfl) rfl #[.int .i64 a2, .int .i64 61] (by rfl) rfl rfl (by simp only [List.map_toArray, List.map_cons, List.map_nil]; rfl) ?_
        with_reducible refine (PB.damperlaw2_within.calls a2 61 k3 _ A3.out).mono ?_
        rintro e w3 ⟨rfl, h3⟩
        refine ⟨_, rfl, ?_⟩
        refine hK.out _ _ trivial (fun hHeld => ?_)
        clear hK K
        refine norm_ (a' := ?_) ?_ ?_
        rotate_left
        · show Act.put _ (some 25) _ = _
          simp only [Act.put, List.setIfInBounds_toArray, List.set_cons_zero, List.set_cons_succ, i64_w, i32_w]
          rfl
        exact norm_ (by first | (simp only [putAll, Act.put, List.setIfInBounds_toArray, List.set_cons_zero, List.set_cons_succ]; done) | (simp only [putAll, Act.put, List.setIfInBounds_toArray, List.set_cons_zero, List.set_cons_succ]; rfl)) (hJ0_2_8_12_14 s _ (hF.below h3.below))
    intro hJ0_2_8_14
    refine join_ (σ := Nat × Nat × Nat) 7 #[false, true, true, false, false, true, true, true, true, true, true, true, false, false, false, false] (fun s => [(15, .int .i64 (k1 : Int)), (18, .slice (some ⟨s.2.1, 0, none⟩) 3 3), (21, .int .i64 (k2 : Int)), (22, .pointer (some ⟨s.2.1, k2, none⟩)), (23, .string (nB k2))]) (fun s w' => RtF W0 false true false s w') ?_ ?_
    · skip
      rintro s wx hF
      have hHeld : True := trivial
      refine norm_ (a' := ?_) ?_ ?_
      rotate_left
      · simp only [putAll, Act.put, List.setIfInBounds_toArray, List.set_cons_zero, List.set_cons_succ]
        rfl
      refine three_ (i := 0) (j := 12) (k := 14) (Ni := some 13) (Nj := some 25) (Nk := some 7) #[true, true, true, false, false, true, true, true, true, true, true, true, false, false, false, false] #[false, true, true, false, false, true, true, true, true, true, true, true, true, false, false, false] #[false, true, true, false, false, true, true, true, true, true, true, true, false, false, true, false] rfl rfl rfl rfl rfl rfl (by kernel_rfl) (by decide) (by decide) (by decide) (fun K hK => ?_) (fun K hK => ?_) (fun K hK => ?_)
      · skip
        refine value_ (w1 := ?_) (v := ?_) (by rfl) rfl ?_ ?_
        rotate_left 2
        · go_simp
          constructor
          · rfl
          · rfl
        refine hK.out _ _ trivial (fun hHeld => ?_)
        clear hK K
        refine norm_ (a' := ?_) ?_ ?_
        rotate_left
        · show Act.put _ (some 13) _ = _
          simp only [Act.put, List.setIfInBounds_toArray, List.set_cons_zero, List.set_cons_succ, i64_w, i32_w]
          rfl
        refine pure_ (i := 3) (N := some 16) (v := ?_) (a' := ?_) #[true, true, true, true, false, true, true, true, true, true, true, true, false, false, false, false] rfl rfl (by kernel_rfl) (fun _ _ _ h => h) (Or.inl ⟨by rfl, ?_⟩) ?_ ?_
        rotate_left
        · intro w'
          go_simp
          with_reducible rfl
        rotate_left
        · simp only [Act.put, List.setIfInBounds_toArray, List.set_cons_zero, List.set_cons_succ, i64_w, i32_w]
          rfl
        exact norm_ (by first | (simp only [putAll, Act.put, List.setIfInBounds_toArray, List.set_cons_zero, List.set_cons_succ]; done) | (simp only [putAll, Act.put, List.setIfInBounds_toArray, List.set_cons_zero, List.set_cons_succ]; rfl)) (hJ0_2_5_8_10 (wx.heap.size, s.2) _ hF.opA)
      · skip
        refine goes_ Tryz.func22 (by kernel_rfl) rfl #[.int .i64 a2, .int .i64 61] (by rfl) rfl rfl (by simp only [List.map_toArray, List.map_cons, List.map_nil]; rfl) ?_
        with_reducible refine (PB.damperlaw2_within.calls a2 61 k3 _ A3.out).mono ?_
        rintro e w3 ⟨rfl, h3⟩
        refine ⟨_, rfl, ?_⟩
        refine hK.out _ _ trivial (fun hHeld => ?_)
        clear hK K
        refine norm_ (a' := ?_) ?_ ?_
        rotate_left
        · show Act.put _ (some 25) _ = _
          simp only [Act.put, List.setIfInBounds_toArray, List.set_cons_zero, List.set_cons_succ, i64_w, i32_w]
          rfl
        exact norm_ (by first | (simp only [putAll, Act.put, List.setIfInBounds_toArray, List.set_cons_zero, List.set_cons_succ]; done) | (simp only [putAll, Act.put, List.setIfInBounds_toArray, List.set_cons_zero, List.set_cons_succ]; rfl)) (hJ2_5_8_10_12 s _ (hF.below h3.below))
      · skip
        refine value_ (w1 := ?_) (v := ?_) (by rfl) rfl ?_ ?_
        rotate_left 2
        · go_simp
          constructor
          · rfl
          · rfl
        refine hK.out _ _ trivial (fun hHeld => ?_)
        clear hK K
        refine norm_ (a' := ?_) ?_ ?_
        rotate_left
        · show Act.put _ (some 7) _ = _
          simp only [Act.put, List.setIfInBounds_toArray, List.set_cons_zero, List.set_cons_succ, i64_w, i32_w]
          rfl
        exact norm_ (by first | (simp only [putAll, Act.put, List.setIfInBounds_toArray, List.set_cons_zero, List.set_cons_succ]; done) | (simp only [putAll, Act.put, List.setIfInBounds_toArray, List.set_cons_zero, List.set_cons_succ]; rfl)) (hJ2_5_8_10_14 (s.1, s.2.1, wx.heap.size) _ hF.opC)
    intro hJ2_5_8_10
    refine join_ (σ := Nat × Nat × Nat) 7 #[false, true, true, false, false, true, true, true, true, true, false, true, true, false, false, false] (fun s => [(15, .int .i64 (k1 : Int)), (18, .slice (some ⟨s.2.1, 0, none⟩) 3 3), (21, .int .i64 (k2 : Int)), (22, .pointer (some ⟨s.2.1, k2, none⟩)), (25, .int .i64 (k3 : Int))]) (fun s w' => RtF W0 false true false s w') ?_ ?_
    · skip
      rintro s wx hF
      have hHeld : True := trivial
      refine norm_ (a' := ?_) ?_ ?_
      rotate_left
      · simp only [putAll, Act.put, List.setIfInBounds_toArray, List.set_cons_zero, List.set_cons_succ]
        rfl
      refine three_ (i := 0) (j := 10) (k := 14) (Ni := some 13) (Nj := some 23) (Nk := some 7) #[true, true, true, false, false, true, true, true, true, true, false, true, true, false, false, false] #[false, true, true, false, false, true, true, true, true, true, true, true, true, false, false, false] #[false, true, true, false, false, true, true, true, true, true, false, true, true, false, true, false] rfl rfl rfl rfl rfl rfl (by kernel_rfl) (by decide) (by decide) (by decide) (fun K hK => ?_) (fun K hK => ?_) (fun K hK => ?_)
      · skip
        refine value_ (w1 := ?_) (v := ?_) (by rfl) rfl ?_ ?_
        rotate_left 2
        · go_simp
          constructor
          · rfl
          · rfl
        refine hK.out _ _ trivial (fun hHeld => ?_)
        clear hK K
        refine norm_ (a' := ?_) ?_ ?_
        rotate_left
        · show Act.put _ (some 13) _ = _
          simp only [Act.put, List.setIfInBounds_toArray, List.set_cons_zero, List.set_cons_succ, i64_w, i32_w]
          rfl
        refine pure_ (i := 3) (N := some 16) (v := ?_) (a' := ?_) #[true, true, true, true, false, true, true, true, true, true, false, true, true, false, false, false] rfl rfl (by kernel_rfl) (fun _ _ _ h => h) (Or.inl ⟨by rfl, ?_⟩) ?_ ?_
        rotate_left
        · intro w'
          go_simp
          with_reducible rfl
        rotate_left
        · simp only [Act.put, List.setIfInBounds_toArray, List.set_cons_zero, List.set_cons_succ, i64_w, i32_w]
          rfl
        exact norm_ (by first | (simp only [putAll, Act.put, List.setIfInBounds_toArray, List.set_cons_zero, List.set_cons_succ]; done) | (simp only [putAll, Act.put, List.setIfInBounds_toArray, List.set_cons_zero, List.set_cons_succ]; rfl)) (hJ0_2_5_8_12 (wx.heap.size, s.2) _ hF.opA)
      · skip
        have hc := (hF.B rfl).cell k2
        rw [rB_at hk2] at hc
        refine value_ (w1 := ?_) (v := ?_) (by rfl) rfl ?_ ?_
        rotate_left 2
        · go_simp
          constructor
          · rfl
          · rfl
        refine hK.out _ _ trivial (fun hHeld => ?_)
        clear hK K
        refine norm_ (a' := ?_) ?_ ?_
        rotate_left
        · show Act.put _ (some 23) _ = _
          simp only [Act.put, List.setIfInBounds_toArray, List.set_cons_zero, List.set_cons_succ, i64_w, i32_w]
          rfl
        exact norm_ (by first | (simp only [putAll, Act.put, List.setIfInBounds_toArray, List.set_cons_zero, List.set_cons_succ]; done) | (simp only [putAll, Act.put, List.setIfInBounds_toArray, List.set_cons_zero, List.set_cons_succ]; rfl)) (hJ2_5_8_10_12 s _ hF)
      · skip
        refine value_ (w1 := ?_) (v := ?_) (by rfl) rfl ?_ ?_
        rotate_left 2
        · go_simp
          constructor
          · rfl
          · rfl
        refine hK.out _ _ trivial (fun hHeld => ?_)
        clear hK K
        refine norm_ (a' := ?_) ?_ ?_
        rotate_left
        · show Act.put _ (some 7) _ = _
          simp only [Act.put, List.setIfInBounds_toArray, List.set_cons_zero, List.set_cons_succ, i64_w, i32_w]
          rfl
        exact norm_ (by first | (simp only [putAll, Act.put, List.setIfInBounds_toArray, List.set_cons_zero, List.set_cons_succ]; done) | (simp only [putAll, Act.put, List.setIfInBounds_toArray, List.set_cons_zero, List.set_cons_succ]; rfl)) (hJ2_5_8_12_14 (s.1, s.2.1, wx.heap.size) _ hF.opC)
    intro hJ2_5_8_12
    refine join_ (σ := Nat × Nat × Nat) 7 #[false, true, true, false, false, true, true, true, true, true, false, true, false, false, true, false] (fun s => [(15, .int .i64 (k1 : Int)), (18, .slice (some ⟨s.2.1, 0, none⟩) 3 3), (21, .int .i64 (k2 : Int)), (22, .pointer (some ⟨s.2.1, k2, none⟩)), (7, .pointer (some ⟨s.2.2, 0, none⟩))]) (fun s w' => RtF W0 false true true s w') ?_ ?_
    · skip
      rintro s wx hF
      have hHeld : True := trivial
      refine norm_ (a' := ?_) ?_ ?_
      rotate_left
      · simp only [putAll, Act.put, List.setIfInBounds_toArray, List.set_cons_zero, List.set_cons_succ]
        rfl
      refine three_ (i := 0) (j := 10) (k := 12) (Ni := some 13) (Nj := some 23) (Nk := some 25) #[true, true, true, false, false, true, true, true, true, true, false, true, false, false, true, false] #[false, true, true, false, false, true, true, true, true, true, true, true, false, false, true, false] #[false, true, true, false, false, true, true, true, true, true, false, true, true, false, true, false] rfl rfl rfl rfl rfl rfl (by kernel_rfl) (by decide) (by decide) (by decide) (fun K hK => ?_) (fun K hK => ?_) (fun K hK => ?_)
      · skip
        refine value_ (w1 := ?_) (v := ?_) (by rfl) rfl ?_ ?_
        rotate_left 2
        · go_simp
          constructor
          · rfl
          · rfl
        refine hK.out _ _ trivial (fun hHeld => ?_)
        clear hK K
        refine norm_ (a' := ?_) ?_ ?_
        rotate_left
        · show Act.put _ (some 13) _ = _
          simp only [Act.put, List.setIfInBounds_toArray, List.set_cons_zero, List.set_cons_succ, i64_w, i32_w]
          rfl
        refine pure_ (i := 3) (N := some 16) (v := ?_) (a' := ?_) #[true, true, true, true, false, true, true, true, true, true, false, true, false, false, true, false] rfl rfl (by kernel_rfl) (fun _ _ _ h => h) (Or.inl ⟨by rfl, ?_⟩) ?_ ?_
        rotate_left
        · intro w'
          go_simp
          with_reducible rfl
        rotate_left
        · simp only [Act.put, List.setIfInBounds_toArray, List.set_cons_zero, List.set_cons_succ, i64_w, i32_w]
          rfl
        exact norm_ (by first | (simp only [putAll, Act.put, List.setIfInBounds_toArray, List.set_cons_zero, List.set_cons_succ]; done) | (simp only [putAll, Act.put, List.setIfInBounds_toArray, List.set_cons_zero, List.set_cons_succ]; rfl)) (hJ0_2_5_8_14 (wx.heap.size, s.2) _ hF.opA)
      · skip
        have hc := (hF.B rfl).cell k2
        rw [rB_at hk2] at hc
        refine value_ (w1 := ?_) (v := ?_) (by rfl) rfl ?_ ?_
        rotate_left 2
        · go_simp
          constructor
          · rfl
          · rfl
        refine hK.out _ _ trivial (fun hHeld => ?_)
        clear hK K
        refine norm_ (a' := ?_) ?_ ?_
        rotate_left
        · show Act.put _ (some 23) _ = _
          simp only [Act.put, List.setIfInBounds_toArray, List.set_cons_zero, List.set_cons_succ, i64_w, i32_w]
          rfl
        exact norm_ (by first | (simp only [putAll, Act.put, List.setIfInBounds_toArray, List.set_cons_zero, List.set_cons_succ]; done) | (simp only [putAll, Act.put, List.setIfInBounds_toArray, List.set_cons_zero, List.set_cons_succ]; rfl)) (hJ2_5_8_10_14 s _ hF)
      · skip
        refine goes_ Tryz.func22 (by kernel_rfl) rfl #[.int .i64 a2, .int .i64 61] (by rfl) rfl rfl (by simp only [List.map_toArray, List.map_cons, List.map_nil]; rfl) ?_
        with_reducible refine (PB.damperlaw2_within.calls a2 61 k3 _ A3.out).mono ?_
        rintro e w3 ⟨rfl, h3⟩
        refine ⟨_, rfl, ?_⟩
        refine hK.out _ _ trivial (fun hHeld => ?_)
        clear hK K
        refine norm_ (a' := ?_) ?_ ?_
        rotate_left
        · show Act.put _ (some 25) _ = _
          simp only [Act.put, List.setIfInBounds_toArray, List.set_cons_zero, List.set_cons_succ, i64_w, i32_w]
          rfl
        exact norm_ (by first | (simp only [putAll, Act.put, List.setIfInBounds_toArray, List.set_cons_zero, List.set_cons_succ]; done) | (simp only [putAll, Act.put, List.setIfInBounds_toArray, List.set_cons_zero, List.set_cons_succ]; rfl)) (hJ2_5_8_12_14 s _ (hF.below h3.below))
    intro hJ2_5_8_14
    refine join_ (σ := Nat × Nat × Nat) 8 #[false, true, true, false, false, false, true, true, true, false, false, true, true, false, true, false] (fun s => [(15, .int .i64 (k1 : Int)), (21, .int .i64 (k2 : Int)), (25, .int .i64 (k3 : Int)), (7, .pointer (some ⟨s.2.2, 0, none⟩))]) (fun s w' => RtF W0 false false true s w') ?_ ?_
    · skip
      rintro s wx hF
      have hHeld : True := trivial
      refine norm_ (a' := ?_) ?_ ?_
      rotate_left
      · simp only [putAll, Act.put, List.setIfInBounds_toArray, List.set_cons_zero, List.set_cons_succ]
        rfl
      refine two_ (i := 0) (j := 5) (Ni := some 13) (Nj := some 18) #[true, true, true, false, false, false, true, true, true, false, false, true, true, false, true, false] #[false, true, true, false, false, true, true, true, true, false, false, true, true, false, true, false] rfl rfl rfl rfl (by kernel_rfl) (by decide) (by decide) (fun K hK => ?_) (fun K hK => ?_)
      · skip
        refine value_ (w1 := ?_) (v := ?_) (by rfl) rfl ?_ ?_
        rotate_left 2
        · go_simp
          constructor
          · rfl
          · rfl
        refine hK.out _ _ trivial (fun hHeld => ?_)
        clear hK K
        refine norm_ (a' := ?_) ?_ ?_
        rotate_left
        · show Act.put _ (some 13) _ = _
          simp only [Act.put, List.setIfInBounds_toArray, List.set_cons_zero, List.set_cons_succ, i64_w, i32_w]
          rfl
        refine pure_ (i := 3) (N := some 16) (v := ?_) (a' := ?_) #[true, true, true, true, false, false, true, true, true, false, false, true, true, false, true, false] rfl rfl (by kernel_rfl) (fun _ _ _ h => h) (Or.inl ⟨by rfl, ?_⟩) ?_ ?_
        rotate_left
        · intro w'
          go_simp
          with_reducible rfl
        rotate_left
        · simp only [Act.put, List.setIfInBounds_toArray, List.set_cons_zero, List.set_cons_succ, i64_w, i32_w]
          rfl
        exact norm_ (by first | (simp only [putAll, Act.put, List.setIfInBounds_toArray, List.set_cons_zero, List.set_cons_succ]; done) | (simp only [putAll, Act.put, List.setIfInBounds_toArray, List.set_cons_zero, List.set_cons_succ]; rfl)) (hJ0_2_8_12_14 (wx.heap.size, s.2) _ hF.opA)
      · skip
        refine value_ (w1 := ?_) (v := ?_) (by rfl) rfl ?_ ?_
        rotate_left 2
        · go_simp
          constructor
          · rfl
          · rfl
        refine hK.out _ _ trivial (fun hHeld => ?_)
        clear hK K
        refine norm_ (a' := ?_) ?_ ?_
        rotate_left
        · show Act.put _ (some 18) _ = _
          simp only [Act.put, List.setIfInBounds_toArray, List.set_cons_zero, List.set_cons_succ, i64_w, i32_w]
          rfl
        refine pure_ (i := 9) (N := some 22) (v := ?_) (a' := ?_) #[false, true, true, false, false, true, true, true, true, true, false, true, true, false, true, false] rfl rfl (by kernel_rfl) (fun _ _ _ h => h) (Or.inl ⟨by rfl, ?_⟩) ?_ ?_
        rotate_left
        · intro w'
          go_simp
          with_reducible rfl
        rotate_left
        · simp only [Act.put, List.setIfInBounds_toArray, List.set_cons_zero, List.set_cons_succ, i64_w, i32_w]
          rfl
        exact norm_ (by first | (simp only [putAll, Act.put, List.setIfInBounds_toArray, List.set_cons_zero, List.set_cons_succ]; done) | (simp only [putAll, Act.put, List.setIfInBounds_toArray, List.set_cons_zero, List.set_cons_succ]; rfl)) (hJ2_5_8_12_14 (s.1, wx.heap.size, s.2.2) _ hF.opB)
    intro hJ2_8_12_14
    refine join_ (σ := Nat × Nat × Nat) 8 #[true, true, true, true, true, false, true, true, false, false, false, true, false, false, false, false] (fun s => [(13, .slice (some ⟨s.1, 0, none⟩) 3 3), (15, .int .i64 (k1 : Int)), (16, .pointer (some ⟨s.1, k1, none⟩)), (17, .string (nA k1))]) (fun s w' => RtF W0 true false false s w') ?_ ?_
    · skip
      rintro s wx hF
      have hHeld : True := trivial
      refine norm_ (a' := ?_) ?_ ?_
      rotate_left
      · simp only [putAll, Act.put, List.setIfInBounds_toArray, List.set_cons_zero, List.set_cons_succ]
        rfl
      refine three_ (i := 5) (j := 8) (k := 14) (Ni := some 18) (Nj := some 21) (Nk := some 7) #[true, true, true, true, true, true, true, true, false, false, false, true, false, false, false, false] #[true, true, true, true, true, false, true, true, true, false, false, true, false, false, false, false] #[true, true, true, true, true, false, true, true, false, false, false, true, false, false, true, false] rfl rfl rfl rfl rfl rfl (by kernel_rfl) (by decide) (by decide) (by decide) (fun K hK => ?_) (fun K hK => ?_) (fun K hK => ?_)
      · skip
        refine value_ (w1 := ?_) (v := ?_) (by rfl) rfl ?_ ?_
        rotate_left 2
        · go_simp
          constructor
          · rfl
          · rfl
        refine hK.out _ _ trivial (fun hHeld => ?_)
        clear hK K
        refine norm_ (a' := ?_) ?_ ?_
        rotate_left
        · show Act.put _ (some 18) _ = _
          simp only [Act.put, List.setIfInBounds_toArray, List.set_cons_zero, List.set_cons_succ, i64_w, i32_w]
          rfl
        exact norm_ (by first | (simp only [putAll, Act.put, List.setIfInBounds_toArray, List.set_cons_zero, List.set_cons_succ]; done) | (simp only [putAll, Act.put, List.setIfInBounds_toArray, List.set_cons_zero, List.set_cons_succ]; rfl)) (hJ0_2_4_5 (s.1, wx.heap.size, s.2.2) _ hF.opB)
      · skip
        refine goes_ Tryz.func22 (by kernel_rfl) rfl #[.int .i64 (wrap64 (a0.tdiv 3)), .int .i64 3] (by rfl) rfl rfl (by simp only [List.map_toArray, List.map_cons, List.map_nil]; rfl) ?_
        with_reducible refine (PB.damperlaw2_within.calls (wrap64 (a0.tdiv 3)) 3 k2 _ A2.out).mono ?_
        rintro e w3 ⟨rfl, h3⟩
        refine ⟨_, rfl, ?_⟩
        refine hK.out _ _ trivial (fun hHeld => ?_)
        clear hK K
        refine norm_ (a' := ?_) ?_ ?_
        rotate_left
        · show Act.put _ (some 21) _ = _
          simp only [Act.put, List.setIfInBounds_toArray, List.set_cons_zero, List.set_cons_succ, i64_w, i32_w]
          rfl
        exact norm_ (by first | (simp only [putAll, Act.put, List.setIfInBounds_toArray, List.set_cons_zero, List.set_cons_succ]; done) | (simp only [putAll, Act.put, List.setIfInBounds_toArray, List.set_cons_zero, List.set_cons_succ]; rfl)) (hJ0_2_4_8 s _ (hF.below h3.below))
      · skip
        refine value_ (w1 := ?_) (v := ?_) (by rfl) rfl ?_ ?_
        rotate_left 2
        · go_simp
          constructor
          · rfl
          · rfl
        refine hK.out _ _ trivial (fun hHeld => ?_)
        clear hK K
        refine norm_ (a' := ?_) ?_ ?_
        rotate_left
        · show Act.put _ (some 7) _ = _
          simp only [Act.put, List.setIfInBounds_toArray, List.set_cons_zero, List.set_cons_succ, i64_w, i32_w]
          rfl
        exact norm_ (by first | (simp only [putAll, Act.put, List.setIfInBounds_toArray, List.set_cons_zero, List.set_cons_succ]; done) | (simp only [putAll, Act.put, List.setIfInBounds_toArray, List.set_cons_zero, List.set_cons_succ]; rfl)) (hJ0_2_4_14 (s.1, s.2.1, wx.heap.size) _ hF.opC)
    intro hJ0_2_4
    refine join_ (σ := Nat × Nat × Nat) 8 #[true, true, true, true, false, true, true, true, false, false, false, true, false, false, false, false] (fun s => [(13, .slice (some ⟨s.1, 0, none⟩) 3 3), (15, .int .i64 (k1 : Int)), (16, .pointer (some ⟨s.1, k1, none⟩)), (18, .slice (some ⟨s.2.1, 0, none⟩) 3 3)]) (fun s w' => RtF W0 true true false s w') ?_ ?_
    · skip
      rintro s wx hF
      have hHeld : True := trivial
      refine norm_ (a' := ?_) ?_ ?_
      rotate_left
      · simp only [putAll, Act.put, List.setIfInBounds_toArray, List.set_cons_zero, List.set_cons_succ]
        rfl
      refine three_ (i := 4) (j := 8) (k := 14) (Ni := some 17) (Nj := some 21) (Nk := some 7) #[true, true, true, true, true, true, true, true, false, false, false, true, false, false, false, false] #[true, true, true, true, false, true, true, true, true, false, false, true, false, false, false, false] #[true, true, true, true, false, true, true, true, false, false, false, true, false, false, true, false] rfl rfl rfl rfl rfl rfl (by kernel_rfl) (by decide) (by decide) (by decide) (fun K hK => ?_) (fun K hK => ?_) (fun K hK => ?_)
      · skip
        have hc := (hF.A rfl).cell k1
        rw [rA_at hk1] at hc
        refine value_ (w1 := ?_) (v := ?_) (by rfl) rfl ?_ ?_
        rotate_left 2
        · go_simp
          constructor
          · rfl
          · rfl
        refine hK.out _ _ trivial (fun hHeld => ?_)
        clear hK K
        refine norm_ (a' := ?_) ?_ ?_
        rotate_left
        · show Act.put _ (some 17) _ = _
          simp only [Act.put, List.setIfInBounds_toArray, List.set_cons_zero, List.set_cons_succ, i64_w, i32_w]
          rfl
        exact norm_ (by first | (simp only [putAll, Act.put, List.setIfInBounds_toArray, List.set_cons_zero, List.set_cons_succ]; done) | (simp only [putAll, Act.put, List.setIfInBounds_toArray, List.set_cons_zero, List.set_cons_succ]; rfl)) (hJ0_2_4_5 s _ hF)
      · skip
        refine goes_ Tryz.func22 (by kernel_rfl) rfl #[.int .i64 (wrap64 (a0.tdiv 3)), .int .i64 3] (by rfl) rfl rfl (by simp only [List.map_toArray, List.map_cons, List.map_nil]; rfl) ?_
        with_reducible refine (PB.damperlaw2_within.calls (wrap64 (a0.tdiv 3)) 3 k2 _ A2.out).mono ?_
        rintro e w3 ⟨rfl, h3⟩
        refine ⟨_, rfl, ?_⟩
        refine hK.out _ _ trivial (fun hHeld => ?_)
        clear hK K
        refine norm_ (a' := ?_) ?_ ?_
        rotate_left
        · show Act.put _ (some 21) _ = _
          simp only [Act.put, List.setIfInBounds_toArray, List.set_cons_zero, List.set_cons_succ, i64_w, i32_w]
          rfl
        refine pure_ (i := 9) (N := some 22) (v := ?_) (a' := ?_) #[true, true, true, true, false, true, true, true, true, true, false, true, false, false, false, false] rfl rfl (by kernel_rfl) (fun _ _ _ h => h) (Or.inl ⟨by rfl, ?_⟩) ?_ ?_
        rotate_left
        · intro w'
          go_simp
          with_reducible rfl
        rotate_left
        · simp only [Act.put, List.setIfInBounds_toArray, List.set_cons_zero, List.set_cons_succ, i64_w, i32_w]
          rfl
        exact norm_ (by first | (simp only [putAll, Act.put, List.setIfInBounds_toArray, List.set_cons_zero, List.set_cons_succ]; done) | (simp only [putAll, Act.put, List.setIfInBounds_toArray, List.set_cons_zero, List.set_cons_succ]; rfl)) (hJ0_2_5_8 s _ (hF.below h3.below))
      · skip
        refine value_ (w1 := ?_) (v := ?_) (by rfl) rfl ?_ ?_
        rotate_left 2
        · go_simp
          constructor
          · rfl
          · rfl
        refine hK.out _ _ trivial (fun hHeld => ?_)
        clear hK K
        refine norm_ (a' := ?_) ?_ ?_
        rotate_left
        · show Act.put _ (some 7) _ = _
          simp only [Act.put, List.setIfInBounds_toArray, List.set_cons_zero, List.set_cons_succ, i64_w, i32_w]
          rfl
        exact norm_ (by first | (simp only [putAll, Act.put, List.setIfInBounds_toArray, List.set_cons_zero, List.set_cons_succ]; done) | (simp only [putAll, Act.put, List.setIfInBounds_toArray, List.set_cons_zero, List.set_cons_succ]; rfl)) (hJ0_2_5_14 (s.1, s.2.1, wx.heap.size) _ hF.opC)
    intro hJ0_2_5
    refine join_ (σ := Nat × Nat × Nat) 8 #[true, true, true, true, false, false, true, true, true, false, false, true, false, false, false, false] (fun s => [(13, .slice (some ⟨s.1, 0, none⟩) 3 3), (15, .int .i64 (k1 : Int)), (16, .pointer (some ⟨s.1, k1, none⟩)), (21, .int .i64 (k2 : Int))]) (fun s w' => RtF W0 true false false s w') ?_ ?_
    · skip
      rintro s wx hF
      have hHeld : True := trivial
      refine norm_ (a' := ?_) ?_ ?_
      rotate_left
      · simp only [putAll, Act.put, List.setIfInBounds_toArray, List.set_cons_zero, List.set_cons_succ]
        rfl
      refine four_ (i := 4) (j := 5) (k := 12) (m := 14) (Ni := some 17) (Nj := some 18) (Nk := some 25) (Nm := some 7) #[true, true, true, true, true, false, true, true, true, false, false, true, false, false, false, false] #[true, true, true, true, false, true, true, true, true, false, false, true, false, false, false, false] #[true, true, true, true, false, false, true, true, true, false, false, true, true, false, false, false] #[true, true, true, true, false, false, true, true, true, false, false, true, false, false, true, false] rfl rfl rfl rfl rfl rfl rfl rfl (by kernel_rfl) (by decide) (by decide) (by decide) (by decide) (fun K hK => ?_) (fun K hK => ?_) (fun K hK => ?_) (fun K hK => ?_)
      · skip
        have hc := (hF.A rfl).cell k1
        rw [rA_at hk1] at hc
        refine value_ (w1 := ?_) (v := ?_) (by rfl) rfl ?_ ?_
        rotate_left 2
        · go_simp
          constructor
          · rfl
          · rfl
        refine hK.out _ _ trivial (fun hHeld => ?_)
        clear hK K
        refine norm_ (a' := ?_) ?_ ?_
        rotate_left
        · show Act.put _ (some 17) _ = _
          simp only [Act.put, List.setIfInBounds_toArray, List.set_cons_zero, List.set_cons_succ, i64_w, i32_w]
          rfl
        exact norm_ (by first | (simp only [putAll, Act.put, List.setIfInBounds_toArray, List.set_cons_zero, List.set_cons_succ]; done) | (simp only [putAll, Act.put, List.setIfInBounds_toArray, List.set_cons_zero, List.set_cons_succ]; rfl)) (hJ0_2_4_8 s _ hF)
      · skip
        refine value_ (w1 := ?_) (v := ?_) (by rfl) rfl ?_ ?_
        rotate_left 2
        · go_simp
          constructor
          · rfl
          · rfl
        refine hK.out _ _ trivial (fun hHeld => ?_)
        clear hK K
        refine norm_ (a' := ?_) ?_ ?_
        rotate_left
        · show Act.put _ (some 18) _ = _
          simp only [Act.put, List.setIfInBounds_toArray, List.set_cons_zero, List.set_cons_succ, i64_w, i32_w]
          rfl
        refine pure_ (i := 9) (N := some 22) (v := ?_) (a' := ?_) #[true, true, true, true, false, true, true, true, true, true, false, true, false, false, false, false] rfl rfl (by kernel_rfl) (fun _ _ _ h => h) (Or.inl ⟨by rfl, ?_⟩) ?_ ?_
        rotate_left
        · intro w'
          go_simp
          with_reducible rfl
        rotate_left
        · simp only [Act.put, List.setIfInBounds_toArray, List.set_cons_zero, List.set_cons_succ, i64_w, i32_w]
          rfl
        exact norm_ (by first | (simp only [putAll, Act.put, List.setIfInBounds_toArray, List.set_cons_zero, List.set_cons_succ]; done) | (simp only [putAll, Act.put, List.setIfInBounds_toArray, List.set_cons_zero, List.set_cons_succ]; rfl)) (hJ0_2_5_8 (s.1, wx.heap.size, s.2.2) _ hF.opB)
      · skip
        refine goes_ Tryz.func22 (by kernel_rfl) rfl #[.int .i64 a2, .int .i64 61] (by rfl) rfl rfl (by simp only [List.map_toArray, List.map_cons, List.map_nil]; rfl) ?_
        with_reducible refine (PB.damperlaw2_within.calls a2 61 k3 _ A3.out).mono ?_
        rintro e w3 ⟨rfl, h3⟩
        refine ⟨_, rfl, ?_⟩
        refine hK.out _ _ trivial (fun hHeld => ?_)
        clear hK K
        refine norm_ (a' := ?_) ?_ ?_
        rotate_left
        · show Act.put _ (some 25) _ = _
          simp only [Act.put, List.setIfInBounds_toArray, List.set_cons_zero, List.set_cons_succ, i64_w, i32_w]
          rfl
        exact norm_ (by first | (simp only [putAll, Act.put, List.setIfInBounds_toArray, List.set_cons_zero, List.set_cons_succ]; done) | (simp only [putAll, Act.put, List.setIfInBounds_toArray, List.set_cons_zero, List.set_cons_succ]; rfl)) (hJ0_2_8_12 s _ (hF.below h3.below))
      · skip
        refine value_ (w1 := ?_) (v := ?_) (by rfl) rfl ?_ ?_
        rotate_left 2
        · go_simp
          constructor
          · rfl
          · rfl
        refine hK.out _ _ trivial (fun hHeld => ?_)
        clear hK K
        refine norm_ (a' := ?_) ?_ ?_
        rotate_left
        · show Act.put _ (some 7) _ = _
          simp only [Act.put, List.setIfInBounds_toArray, List.set_cons_zero, List.set_cons_succ, i64_w, i32_w]
          rfl
        exact norm_ (by first | (simp only [putAll, Act.put, List.setIfInBounds_toArray, List.set_cons_zero, List.set_cons_succ]; done) | (simp only [putAll, Act.put, List.setIfInBounds_toArray, List.set_cons_zero, List.set_cons_succ]; rfl)) (hJ0_2_8_14 (s.1, s.2.1, wx.heap.size) _ hF.opC)
    intro hJ0_2_8
    refine join_ (σ := Nat × Nat × Nat) 8 #[true, true, true, true, false, false, true, true, false, false, false, true, false, false, true, false] (fun s => [(13, .slice (some ⟨s.1, 0, none⟩) 3 3), (15, .int .i64 (k1 : Int)), (16, .pointer (some ⟨s.1, k1, none⟩)), (7, .pointer (some ⟨s.2.2, 0, none⟩))]) (fun s w' => RtF W0 true false true s w') ?_ ?_
    · skip
      rintro s wx hF
      have hHeld : True := trivial
      refine norm_ (a' := ?_) ?_ ?_
      rotate_left
      · simp only [putAll, Act.put, List.setIfInBounds_toArray, List.set_cons_zero, List.set_cons_succ]
        rfl
      refine three_ (i := 4) (j := 5) (k := 8) (Ni := some 17) (Nj := some 18) (Nk := some 21) #[true, true, true, true, true, false, true, true, false, false, false, true, false, false, true, false] #[true, true, true, true, false, true, true, true, false, false, false, true, false, false, true, false] #[true, true, true, true, false, false, true, true, true, false, false, true, false, false, true, false] rfl rfl rfl rfl rfl rfl (by kernel_rfl) (by decide) (by decide) (by decide) (fun K hK => ?_) (fun K hK => ?_) (fun K hK => ?_)
      · skip
        have hc := (hF.A rfl).cell k1
        rw [rA_at hk1] at hc
        refine value_ (w1 := ?_) (v := ?_) (by rfl) rfl ?_ ?_
        rotate_left 2
        · go_simp
          constructor
          · rfl
          · rfl
        refine hK.out _ _ trivial (fun hHeld => ?_)
        clear hK K
        refine norm_ (a' := ?_) ?_ ?_
        rotate_left
        · show Act.put _ (some 17) _ = _
          simp only [Act.put, List.setIfInBounds_toArray, List.set_cons_zero, List.set_cons_succ, i64_w, i32_w]
          rfl
        exact norm_ (by first | (simp only [putAll, Act.put, List.setIfInBounds_toArray, List.set_cons_zero, List.set_cons_succ]; done) | (simp only [putAll, Act.put, List.setIfInBounds_toArray, List.set_cons_zero, List.set_cons_succ]; rfl)) (hJ0_2_4_14 s _ hF)
      · skip
        refine value_ (w1 := ?_) (v := ?_) (by rfl) rfl ?_ ?_
        rotate_left 2
        · go_simp
          constructor
          · rfl
          · rfl
        refine hK.out _ _ trivial (fun hHeld => ?_)
        clear hK K
        refine norm_ (a' := ?_) ?_ ?_
        rotate_left
        · show Act.put _ (some 18) _ = _
          simp only [Act.put, List.setIfInBounds_toArray, List.set_cons_zero, List.set_cons_succ, i64_w, i32_w]
          rfl
        exact norm_ (by first | (simp only [putAll, Act.put, List.setIfInBounds_toArray, List.set_cons_zero, List.set_cons_succ]; done) | (simp only [putAll, Act.put, List.setIfInBounds_toArray, List.set_cons_zero, List.set_cons_succ]; rfl)) (hJ0_2_5_14 (s.1, wx.heap.size, s.2.2) _ hF.opB)
      · skip
        refine goes_ Tryz.func22 (by kernel_rfl) rfl #[.int .i64 (wrap64 (a0.tdiv 3)), .int .i64 3] (by rfl) rfl rfl (by simp only [List.map_toArray, List.map_cons, List.map_nil]; rfl) ?_
        with_reducible refine (PB.damperlaw2_within.calls (wrap64 (a0.tdiv 3)) 3 k2 _ A2.out).mono ?_
        rintro e w3 ⟨rfl, h3⟩
        refine ⟨_, rfl, ?_⟩
        refine hK.out _ _ trivial (fun hHeld => ?_)
        clear hK K
        refine norm_ (a' := ?_) ?_ ?_
        rotate_left
        · show Act.put _ (some 21) _ = _
          simp only [Act.put, List.setIfInBounds_toArray, List.set_cons_zero, List.set_cons_succ, i64_w, i32_w]
          rfl
        exact norm_ (by first | (simp only [putAll, Act.put, List.setIfInBounds_toArray, List.set_cons_zero, List.set_cons_succ]; done) | (simp only [putAll, Act.put, List.setIfInBounds_toArray, List.set_cons_zero, List.set_cons_succ]; rfl)) (hJ0_2_8_14 s _ (hF.below h3.below))
    intro hJ0_2_14
    refine join_ (σ := Nat × Nat × Nat) 9 #[true, true, false, false, false, true, true, true, false, false, false, true, false, false, true, false] (fun s => [(13, .slice (some ⟨s.1, 0, none⟩) 3 3), (18, .slice (some ⟨s.2.1, 0, none⟩) 3 3), (7, .pointer (some ⟨s.2.2, 0, none⟩))]) (fun s w' => RtF W0 true true true s w') ?_ ?_
    · skip
      rintro s wx hF
      have hHeld : True := trivial
      refine norm_ (a' := ?_) ?_ ?_
      rotate_left
      · simp only [putAll, Act.put, List.setIfInBounds_toArray, List.set_cons_zero, List.set_cons_succ]
        rfl
      refine one_ (i := 2) (N := some 15) #[true, true, true, false, false, true, true, true, false, false, false, true, false, false, true, false] rfl rfl (by kernel_rfl) (by decide) (fun K hK => ?_)
      refine goes_ Tryz.func22 (by kernel_rfl) rfl #[.int .i64 a0, .int .i64 3] (by rfl) rfl rfl (by simp only [List.map_toArray, List.map_cons, List.map_nil]; rfl) ?_
      with_reducible refine (PB.damperlaw2_within.calls a0 3 k1 _ A1.out).mono ?_
      rintro e w3 ⟨rfl, h3⟩
      refine ⟨_, rfl, ?_⟩
      refine hK.out _ _ trivial (fun hHeld => ?_)
      clear hK K
      refine norm_ (a' := ?_) ?_ ?_
      rotate_left
      · show Act.put _ (some 15) _ = _
        simp only [Act.put, List.setIfInBounds_toArray, List.set_cons_zero, List.set_cons_succ, i64_w, i32_w]
        rfl
      refine pure_ (i := 3) (N := some 16) (v := ?_) (a' := ?_) #[true, true, true, true, false, true, true, true, false, false, false, true, false, false, true, false] rfl rfl (by kernel_rfl) (fun _ _ _ h => h) (Or.inl ⟨by rfl, ?_⟩) ?_ ?_
      rotate_left
      · intro w'
        go_simp
        with_reducible rfl
      rotate_left
      · simp only [Act.put, List.setIfInBounds_toArray, List.set_cons_zero, List.set_cons_succ, i64_w, i32_w]
        rfl
      exact norm_ (by first | (simp only [putAll, Act.put, List.setIfInBounds_toArray, List.set_cons_zero, List.set_cons_succ]; done) | (simp only [putAll, Act.put, List.setIfInBounds_toArray, List.set_cons_zero, List.set_cons_succ]; rfl)) (hJ0_2_5_14 s _ (hF.below h3.below))
    intro hJ0_5_14
    refine join_ (σ := Nat × Nat × Nat) 8 #[false, true, true, false, false, true, true, true, true, true, false, true, false, false, false, false] (fun s => [(15, .int .i64 (k1 : Int)), (18, .slice (some ⟨s.2.1, 0, none⟩) 3 3), (21, .int .i64 (k2 : Int)), (22, .pointer (some ⟨s.2.1, k2, none⟩))]) (fun s w' => RtF W0 false true false s w') ?_ ?_
    · skip
      rintro s wx hF
      have hHeld : True := trivial
      refine norm_ (a' := ?_) ?_ ?_
      rotate_left
      · simp only [putAll, Act.put, List.setIfInBounds_toArray, List.set_cons_zero, List.set_cons_succ]
        rfl
      refine four_ (i := 0) (j := 10) (k := 12) (m := 14) (Ni := some 13) (Nj := some 23) (Nk := some 25) (Nm := some 7) #[true, true, true, false, false, true, true, true, true, true, false, true, false, false, false, false] #[false, true, true, false, false, true, true, true, true, true, true, true, false, false, false, false] #[false, true, true, false, false, true, true, true, true, true, false, true, true, false, false, false] #[false, true, true, false, false, true, true, true, true, true, false, true, false, false, true, false] rfl rfl rfl rfl rfl rfl rfl rfl (by kernel_rfl) (by decide) (by decide) (by decide) (by decide) (fun K hK => ?_) (fun K hK => ?_) (fun K hK => ?_) (fun K hK => ?_)
      · skip
        refine value_ (w1 := ?_) (v := ?_) (by rfl) rfl ?_ ?_
        rotate_left 2
        · go_simp
          constructor
          · rfl
          · rfl
        refine hK.out _ _ trivial (fun hHeld => ?_)
        clear hK K
        refine norm_ (a' := ?_) ?_ ?_
        rotate_left
        · show Act.put _ (some 13) _ = _
          simp only [Act.put, List.setIfInBounds_toArray, List.set_cons_zero, List.set_cons_succ, i64_w, i32_w]
          rfl
        refine pure_ (i := 3) (N := some 16) (v := ?_) (a' := ?_) #[true, true, true, true, false, true, true, true, true, true, false, true, false, false, false, false] rfl rfl (by kernel_rfl) (fun _ _ _ h => h) (Or.inl ⟨by rfl, ?_⟩) ?_ ?_
        rotate_left
        · intro w'
          go_simp
          with_reducible rfl
        rotate_left
        · simp only [Act.put, List.setIfInBounds_toArray, List.set_cons_zero, List.set_cons_succ, i64_w, i32_w]
          rfl
        exact norm_ (by first | (simp only [putAll, Act.put, List.setIfInBounds_toArray, List.set_cons_zero, List.set_cons_succ]; done) | (simp only [putAll, Act.put, List.setIfInBounds_toArray, List.set_cons_zero, List.set_cons_succ]; rfl)) (hJ0_2_5_8 (wx.heap.size, s.2) _ hF.opA)
      · skip
        have hc := (hF.B rfl).cell k2
        rw [rB_at hk2] at hc
        refine value_ (w1 := ?_) (v := ?_) (by rfl) rfl ?_ ?_
        rotate_left 2
        · go_simp
          constructor
          · rfl
          · rfl
        refine hK.out _ _ trivial (fun hHeld => ?_)
        clear hK K
        refine norm_ (a' := ?_) ?_ ?_
        rotate_left
        · show Act.put _ (some 23) _ = _
          simp only [Act.put, List.setIfInBounds_toArray, List.set_cons_zero, List.set_cons_succ, i64_w, i32_w]
          rfl
        exact norm_ (by first | (simp only [putAll, Act.put, List.setIfInBounds_toArray, List.set_cons_zero, List.set_cons_succ]; done) | (simp only [putAll, Act.put, List.setIfInBounds_toArray, List.set_cons_zero, List.set_cons_succ]; rfl)) (hJ2_5_8_10 s _ hF)
      · skip
        refine goes_ Tryz.func22 (by kernel_rfl) rfl #[.int .i64 a2, .int .i64 61] (by rfl) rfl rfl (by simp only [List.map_toArray, List.map_cons, List.map_nil]; rfl) ?_
        with_reducible refine (PB.damperlaw2_within.calls a2 61 k3 _ A3.out).mono ?_
        rintro e w3 ⟨rfl, h3⟩
        refine ⟨_, rfl, ?_⟩
        refine hK.out _ _ trivial (fun hHeld => ?_)
        clear hK K
        refine norm_ (a' := ?_) ?_ ?_
        rotate_left
        · show Act.put _ (some 25) _ = _
          simp only [Act.put, List.setIfInBounds_toArray, List.set_cons_zero, List.set_cons_succ, i64_w, i32_w]
          rfl
        exact norm_ (by first | (simp only [putAll, Act.put, List.setIfInBounds_toArray, List.set_cons_zero, List.set_cons_succ]; done) | (simp only [putAll, Act.put, List.setIfInBounds_toArray, List.set_cons_zero, List.set_cons_succ]; rfl)) (hJ2_5_8_12 s _ (hF.below h3.below))
      · skip
        refine value_ (w1 := ?_) (v := ?_) (by rfl) rfl ?_ ?_
        rotate_left 2
        · go_simp
          constructor
          · rfl
          · rfl
        refine hK.out _ _ trivial (fun hHeld => ?_)
        clear hK K
        refine norm_ (a' := ?_) ?_ ?_
        rotate_left
        · show Act.put _ (some 7) _ = _
          simp only [Act.put, List.setIfInBounds_toArray, List.set_cons_zero, List.set_cons_succ, i64_w, i32_w]
          rfl
        exact norm_ (by first | (simp only [putAll, Act.put, List.setIfInBounds_toArray, List.set_cons_zero, List.set_cons_succ]; done) | (simp only [putAll, Act.put, List.setIfInBounds_toArray, List.set_cons_zero, List.set_cons_succ]; rfl)) (hJ2_5_8_14 (s.1, s.2.1, wx.heap.size) _ hF.opC)
    intro hJ2_5_8
    refine join_ (σ := Nat × Nat × Nat) 9 #[false, true, true, false, false, true, true, true, false, false, false, true, false, false, true, false] (fun s => [(15, .int .i64 (k1 : Int)), (18, .slice (some ⟨s.2.1, 0, none⟩) 3 3), (7, .pointer (some ⟨s.2.2, 0, none⟩))]) (fun s w' => RtF W0 false true true s w') ?_ ?_
    · skip
      rintro s wx hF
      have hHeld : True := trivial
      refine norm_ (a' := ?_) ?_ ?_
      rotate_left
      · simp only [putAll, Act.put, List.setIfInBounds_toArray, List.set_cons_zero, List.set_cons_succ]
        rfl
      refine two_ (i := 0) (j := 8) (Ni := some 13) (Nj := some 21) #[true, true, true, false, false, true, true, true, false, false, false, true, false, false, true, false] #[false, true, true, false, false, true, true, true, true, false, false, true, false, false, true, false] rfl rfl rfl rfl (by kernel_rfl) (by decide) (by decide) (fun K hK => ?_) (fun K hK => ?_)
      · skip
        refine value_ (w1 := ?_) (v := ?_) (by rfl) rfl ?_ ?_
        rotate_left 2
        · go_simp
          constructor
          · rfl
          · rfl
        refine hK.out _ _ trivial (fun hHeld => ?_)
        clear hK K
        refine norm_ (a' := ?_) ?_ ?_
        rotate_left
        · show Act.put _ (some 13) _ = _
          simp only [Act.put, List.setIfInBounds_toArray, List.set_cons_zero, List.set_cons_succ, i64_w, i32_w]
          rfl
        refine pure_ (i := 3) (N := some 16) (v := ?_) (a' := ?_) #[true, true, true, true, false, true, true, true, false, false, false, true, false, false, true, false] rfl rfl (by kernel_rfl) (fun _ _ _ h => h) (Or.inl ⟨by rfl, ?_⟩) ?_ ?_
        rotate_left
        · intro w'
          go_simp
          with_reducible rfl
        rotate_left
        · simp only [Act.put, List.setIfInBounds_toArray, List.set_cons_zero, List.set_cons_succ, i64_w, i32_w]
          rfl
        exact norm_ (by first | (simp only [putAll, Act.put, List.setIfInBounds_toArray, List.set_cons_zero, List.set_cons_succ]; done) | (simp only [putAll, Act.put, List.setIfInBounds_toArray, List.set_cons_zero, List.set_cons_succ]; rfl)) (hJ0_2_5_14 (wx.heap.size, s.2) _ hF.opA)
      · skip
        refine goes_ Tryz.func22 (by kernel_rfl) rfl #[.int .i64 (wrap64 (a0.tdiv 3)), .int .i64 3] (by rfl) rfl rfl (by simp only [List.map_toArray, List.map_cons, List.map_nil]; rfl) ?_
        with_reducible refine (PB.damperlaw2_within.calls (wrap64 (a0.tdiv 3)) 3 k2 _ A2.out).mono ?_
        rintro e w3 ⟨rfl, h3⟩
        refine ⟨_, rfl, ?_⟩
        refine hK.out _ _ trivial (fun hHeld => ?_)
        clear hK K
        refine norm_ (a' := ?_) ?_ ?_
        rotate_left
        · show Act.put _ (some 21) _ = _
          simp only [Act.put, List.setIfInBounds_toArray, List.set_cons_zero, List.set_cons_succ, i64_w, i32_w]
          rfl
        refine pure_ (i := 9) (N := some 22) (v := ?_) (a' := ?_) #[false, true, true, false, false, true, true, true, true, true, false, true, false, false, true, false] rfl rfl (by kernel_rfl) (fun _ _ _ h => h) (Or.inl ⟨by rfl, ?_⟩) ?_ ?_
        rotate_left
        · intro w'
          go_simp
          with_reducible rfl
        rotate_left
        · simp only [Act.put, List.setIfInBounds_toArray, List.set_cons_zero, List.set_cons_succ, i64_w, i32_w]
          rfl
        exact norm_ (by first | (simp only [putAll, Act.put, List.setIfInBounds_toArray, List.set_cons_zero, List.set_cons_succ]; done) | (simp only [putAll, Act.put, List.setIfInBounds_toArray, List.set_cons_zero, List.set_cons_succ]; rfl)) (hJ2_5_8_14 s _ (hF.below h3.below))
    intro hJ2_5_14
    refine join_ (σ := Nat × Nat × Nat) 9 #[false, true, true, false, false, false, true, true, true, false, false, true, true, false, false, false] (fun s => [(15, .int .i64 (k1 : Int)), (21, .int .i64 (k2 : Int)), (25, .int .i64 (k3 : Int))]) (fun s w' => RtF W0 false false false s w') ?_ ?_
    · skip
      rintro s wx hF
      have hHeld : True := trivial
      refine norm_ (a' := ?_) ?_ ?_
      rotate_left
      · simp only [putAll, Act.put, List.setIfInBounds_toArray, List.set_cons_zero, List.set_cons_succ]
        rfl
      refine three_ (i := 0) (j := 5) (k := 14) (Ni := some 13) (Nj := some 18) (Nk := some 7) #[true, true, true, false, false, false, true, true, true, false, false, true, true, false, false, false] #[false, true, true, false, false, true, true, true, true, false, false, true, true, false, false, false] #[false, true, true, false, false, false, true, true, true, false, false, true, true, false, true, false] rfl rfl rfl rfl rfl rfl (by kernel_rfl) (by decide) (by decide) (by decide) (fun K hK => ?_) (fun K hK => ?_) (fun K hK => ?_)
      · skip
        refine value_ (w1 := ?_) (v := ?_) (by rfl) rfl ?_ ?_
        rotate_left 2
        · go_simp
          constructor
          · rfl
          · rfl
        refine hK.out _ _ trivial (fun hHeld => ?_)
        clear hK K
        refine norm_ (a' := ?_) ?_ ?_
        rotate_left
        · show Act.put _ (some 13) _ = _
          simp only [Act.put, List.setIfInBounds_toArray, List.set_cons_zero, List.set_cons_succ, i64_w, i32_w]
          rfl
        refine pure_ (i := 3) (N := some 16) (v := ?_) (a' := ?_) #[true, true, true, true, false, false, true, true, true, false, false, true, true, false, false, false] rfl rfl (by kernel_rfl) (fun _ _ _ h => h) (Or.inl ⟨by rfl, ?_⟩) ?_ ?_
        rotate_left
        · intro w'
          go_simp
          with_reducible rfl
        rotate_left
        · simp only [Act.put, List.setIfInBounds_toArray, List.set_cons_zero, List.set_cons_succ, i64_w, i32_w]
          rfl
        exact norm_ (by first | (simp only [putAll, Act.put, List.setIfInBounds_toArray, List.set_cons_zero, List.set_cons_succ]; done) | (simp only [putAll, Act.put, List.setIfInBounds_toArray, List.set_cons_zero, List.set_cons_succ]; rfl)) (hJ0_2_8_12 (wx.heap.size, s.2) _ hF.opA)
      · skip
        refine value_ (w1 := ?_) (v := ?_) (by rfl) rfl ?_ ?_
        rotate_left 2
        · go_simp
          constructor
          · rfl
          · rfl
        refine hK.out _ _ trivial (fun hHeld => ?_)
        clear hK K
        refine norm_ (a' := ?_) ?_ ?_
        rotate_left
        · show Act.put _ (some 18) _ = _
          simp only [Act.put, List.setIfInBounds_toArray, List.set_cons_zero, List.set_cons_succ, i64_w, i32_w]
          rfl
        refine pure_ (i := 9) (N := some 22) (v := ?_) (a' := ?_) #[false, true, true, false, false, true, true, true, true, true, false, true, true, false, false, false] rfl rfl (by kernel_rfl) (fun _ _ _ h => h) (Or.inl ⟨by rfl, ?_⟩) ?_ ?_
        rotate_left
        · intro w'
          go_simp
          with_reducible rfl
        rotate_left
        · simp only [Act.put, List.setIfInBounds_toArray, List.set_cons_zero, List.set_cons_succ, i64_w, i32_w]
          rfl
        exact norm_ (by first | (simp only [putAll, Act.put, List.setIfInBounds_toArray, List.set_cons_zero, List.set_cons_succ]; done) | (simp only [putAll, Act.put, List.setIfInBounds_toArray, List.set_cons_zero, List.set_cons_succ]; rfl)) (hJ2_5_8_12 (s.1, wx.heap.size, s.2.2) _ hF.opB)
      · skip
        refine value_ (w1 := ?_) (v := ?_) (by rfl) rfl ?_ ?_
        rotate_left 2
        · go_simp
          constructor
          · rfl
          · rfl
        refine hK.out _ _ trivial (fun hHeld => ?_)
        clear hK K
        refine norm_ (a' := ?_) ?_ ?_
        rotate_left
        · show Act.put _ (some 7) _ = _
          simp only [Act.put, List.setIfInBounds_toArray, List.set_cons_zero, List.set_cons_succ, i64_w, i32_w]
          rfl
        exact norm_ (by first | (simp only [putAll, Act.put, List.setIfInBounds_toArray, List.set_cons_zero, List.set_cons_succ]; done) | (simp only [putAll, Act.put, List.setIfInBounds_toArray, List.set_cons_zero, List.set_cons_succ]; rfl)) (hJ2_8_12_14 (s.1, s.2.1, wx.heap.size) _ hF.opC)
    intro hJ2_8_12
    refine join_ (σ := Nat × Nat × Nat) 9 #[false, true, true, false, false, false, true, true, true, false, false, true, false, false, true, false] (fun s => [(15, .int .i64 (k1 : Int)), (21, .int .i64 (k2 : Int)), (7, .pointer (some ⟨s.2.2, 0, none⟩))]) (fun s w' => RtF W0 false false true s w') ?_ ?_
    · skip
      rintro s wx hF
      have hHeld : True := trivial
      refine norm_ (a' := ?_) ?_ ?_
      rotate_left
      · simp only [putAll, Act.put, List.setIfInBounds_toArray, List.set_cons_zero, List.set_cons_succ]
        rfl
      refine three_ (i := 0) (j := 5) (k := 12) (Ni := some 13) (Nj := some 18) (Nk := some 25) #[true, true, true, false, false, false, true, true, true, false, false, true, false, false, true, false] #[false, true, true, false, false, true, true, true, true, false, false, true, false, false, true, false] #[false, true, true, false, false, false, true, true, true, false, false, true, true, false, true, false] rfl rfl rfl rfl rfl rfl (by kernel_rfl) (by decide) (by decide) (by decide) (fun K hK => ?_) (fun K hK => ?_) (fun K hK => ?_)
      · skip
        refine value_ (w1 := ?_) (v := ?_) (by rfl) rfl ?_ ?_
        rotate_left 2
        · go_simp
          constructor
          · rfl
          · rfl
        refine hK.out _ _ trivial (fun hHeld => ?_)
        clear hK K
        refine norm_ (a' := ?_) ?_ ?_
        rotate_left
        · show Act.put _ (some 13) _ = _
          simp only [Act.put, List.setIfInBounds_toArray, List.set_cons_zero, List.set_cons_succ, i64_w, i32_w]
          rfl
        refine pure_ (i := 3) (N := some 16) (v := ?_) (a' := ?_) #[true, true, true, true, false, false, true, true, true, false, false, true, false, false, true, false] rfl rfl (by kernel_rfl) (fun _ _ _ h => h) (Or.inl ⟨by rfl, ?_⟩) ?_ ?_
        rotate_left
        · intro w'
          go_simp
          with_reducible rfl
        rotate_left
        · simp only [Act.put, List.setIfInBounds_toArray, List.set_cons_zero, List.set_cons_succ, i64_w, i32_w]
          rfl
        exact norm_ (by first | (simp only [putAll, Act.put, List.setIfInBounds_toArray, List.set_cons_zero, List.set_cons_succ]; done) | (simp only [putAll, Act.put, List.setIfInBounds_toArray, List.set_cons_zero, List.set_cons_succ]; rfl)) (hJ0_2_8_14 (wx.heap.size, s.2) _ hF.opA)
      · skip
        refine value_ (w1 := ?_) (v := ?_) (by rfl) rfl ?_ ?_
        rotate_left 2
        · go_simp
          constructor
          · rfl
          · rfl
        refine hK.out _ _ trivial (fun hHeld => ?_)
        clear hK K
        refine norm_ (a' := ?_) ?_ ?_
        rotate_left
        · show Act.put _ (some 18) _ = _
          simp only [Act.put, List.setIfInBounds_toArray, List.set_cons_zero, List.set_cons_succ, i64_w, i32_w]
          rfl
        refine pure_ (i := 9) (N := some 22) (v := ?_) (a' := ?_) #[false, true, true, false, false, true, true, true, true, true, false, true, false, false, true, false] rfl rfl (by kernel_rfl) (fun _ _ _ h => h) (Or.inl ⟨by rfl, ?_⟩) ?_ ?_
        rotate_left
        · intro w'
          go_simp
          with_reducible rfl
        rotate_left
        · simp only [Act.put, List.setIfInBounds_toArray, List.set_cons_zero, List.set_cons_succ, i64_w, i32_w]
          rfl
        exact norm_ (by first | (simp only [putAll, Act.put, List.setIfInBounds_toArray, List.set_cons_zero, List.set_cons_succ]; done) | (simp only [putAll, Act.put, List.setIfInBounds_toArray, List.set_cons_zero, List.set_cons_succ]; rfl)) (hJ2_5_8_14 (s.1, wx.heap.size, s.2.2) _ hF.opB)
      · skip
        refine goes_ Tryz.func22 (by kernel_rfl) rfl #[.int .i64 a2, .int .i64 61] (by rfl) rfl rfl (by simp only [List.map_toArray, List.map_cons, List.map_nil]; rfl) ?_
        with_reducible refine (PB.damperlaw2_within.calls a2 61 k3 _ A3.out).mono ?_
        rintro e w3 ⟨rfl, h3⟩
        refine ⟨_, rfl, ?_⟩
        refine hK.out _ _ trivial (fun hHeld => ?_)
        clear hK K
        refine norm_ (a' := ?_) ?_ ?_
        rotate_left
        · show Act.put _ (some 25) _ = _
          simp only [Act.put, List.setIfInBounds_toArray, List.set_cons_zero, List.set_cons_succ, i64_w, i32_w]
          rfl
        exact norm_ (by first | (simp only [putAll, Act.put, List.setIfInBounds_toArray, List.set_cons_zero, List.set_cons_succ]; done) | (simp only [putAll, Act.put, List.setIfInBounds_toArray, List.set_cons_zero, List.set_cons_succ]; rfl)) (hJ2_8_12_14 s _ (hF.below h3.below))
    intro hJ2_8_14
    refine join_ (σ := Nat × Nat × Nat) 9 #[true, true, true, true, false, false, true, true, false, false, false, true, false, false, false, false] (fun s => [(13, .slice (some ⟨s.1, 0, none⟩) 3 3), (15, .int .i64 (k1 : Int)), (16, .pointer (some ⟨s.1, k1, none⟩))]) (fun s w' => RtF W0 true false false s w') ?_ ?_
    · skip
      rintro s wx hF
      have hHeld : True := trivial
      refine norm_ (a' := ?_) ?_ ?_
      rotate_left
      · simp only [putAll, Act.put, List.setIfInBounds_toArray, List.set_cons_zero, List.set_cons_succ]
        rfl
      refine four_ (i := 4) (j := 5) (k := 8) (m := 14) (Ni := some 17) (Nj := some 18) (Nk := some 21) (Nm := some 7) #[true, true, true, true, true, false, true, true, false, false, false, true, false, false, false, false] #[true, true, true, true, false, true, true, true, false, false, false, true, false, false, false, false] #[true, true, true, true, false, false, true, true, true, false, false, true, false, false, false, false] #[true, true, true, true, false, false, true, true, false, false, false, true, false, false, true, false] rfl rfl rfl rfl rfl rfl rfl rfl (by kernel_rfl) (by decide) (by decide) (by decide) (by decide) (fun K hK => ?_) (fun K hK => ?_) (fun K hK => ?_) (fun K hK => ?_)
      · skip
        have hc := (hF.A rfl).cell k1
        rw [rA_at hk1] at hc
        refine value_ (w1 := ?_) (v := ?_) (by rfl) rfl ?_ ?_
        rotate_left 2
        · go_simp
          constructor
          · rfl
          · rfl
        refine hK.out _ _ trivial (fun hHeld => ?_)
        clear hK K
        refine norm_ (a' := ?_) ?_ ?_
        rotate_left
        · show Act.put _ (some 17) _ = _
          simp only [Act.put, List.setIfInBounds_toArray, List.set_cons_zero, List.set_cons_succ, i64_w, i32_w]
          rfl
        exact norm_ (by first | (simp only [putAll, Act.put, List.setIfInBounds_toArray, List.set_cons_zero, List.set_cons_succ]; done) | (simp only [putAll, Act.put, List.setIfInBounds_toArray, List.set_cons_zero, List.set_cons_succ]; rfl)) (hJ0_2_4 s _ hF)
      · skip
        refine value_ (w1 := ?_) (v := ?_) (by rfl) rfl ?_ ?_
        rotate_left 2
        · go_simp
          constructor
          · rfl
          · rfl
        refine hK.out _ _ trivial (fun hHeld => ?_)
        clear hK K
        refine norm_ (a' := ?_) ?_ ?_
        rotate_left
        · show Act.put _ (some 18) _ = _
          simp only [Act.put, List.setIfInBounds_toArray, List.set_cons_zero, List.set_cons_succ, i64_w, i32_w]
          rfl
        exact norm_ (by first | (simp only [putAll, Act.put, List.setIfInBounds_toArray, List.set_cons_zero, List.set_cons_succ]; done) | (simp only [putAll, Act.put, List.setIfInBounds_toArray, List.set_cons_zero, List.set_cons_succ]; rfl)) (hJ0_2_5 (s.1, wx.heap.size, s.2.2) _ hF.opB)
      · skip
        refine goes_ Tryz.func22 (by kernel_rfl) rfl #[.int .i64 (wrap64 (a0.tdiv 3)), .int .i64 3] (by rfl) rfl rfl (by simp only [List.map_toArray, List.map_cons, List.map_nil]; rfl) ?_
        with_reducible refine (PB.damperlaw2_within.calls (wrap64 (a0.tdiv 3)) 3 k2 _ A2.out).mono ?_
        rintro e w3 ⟨rfl, h3⟩
        refine ⟨_, rfl, ?_⟩
        refine hK.out _ _ trivial (fun hHeld => ?_)
        clear hK K
        refine norm_ (a' := ?_) ?_ ?_
        rotate_left
        · show Act.put _ (some 21) _ = _
          simp only [Act.put, List.setIfInBounds_toArray, List.set_cons_zero, List.set_cons_succ, i64_w, i32_w]
          rfl
        exact norm_ (by first | (simp only [putAll, Act.put, List.setIfInBounds_toArray, List.set_cons_zero, List.set_cons_succ]; done) | (simp only [putAll, Act.put, List.setIfInBounds_toArray, List.set_cons_zero, List.set_cons_succ]; rfl)) (hJ0_2_8 s _ (hF.below h3.below))
      · skip
        refine value_ (w1 := ?_) (v := ?_) (by rfl) rfl ?_ ?_
        rotate_left 2
        · go_simp
          constructor
          · rfl
          · rfl
        refine hK.out _ _ trivial (fun hHeld => ?_)
        clear hK K
        refine norm_ (a' := ?_) ?_ ?_
        rotate_left
        · show Act.put _ (some 7) _ = _
          simp only [Act.put, List.setIfInBounds_toArray, List.set_cons_zero, List.set_cons_succ, i64_w, i32_w]
          rfl
        exact norm_ (by first | (simp only [putAll, Act.put, List.setIfInBounds_toArray, List.set_cons_zero, List.set_cons_succ]; done) | (simp only [putAll, Act.put, List.setIfInBounds_toArray, List.set_cons_zero, List.set_cons_succ]; rfl)) (hJ0_2_14 (s.1, s.2.1, wx.heap.size) _ hF.opC)
    intro hJ0_2
    refine join_ (σ := Nat × Nat × Nat) 10 #[true, true, false, false, false, true, true, true, false, false, false, true, false, false, false, false] (fun s => [(13, .slice (some ⟨s.1, 0, none⟩) 3 3), (18, .slice (some ⟨s.2.1, 0, none⟩) 3 3)]) (fun s w' => RtF W0 true true false s w') ?_ ?_
    · skip
      rintro s wx hF
      have hHeld : True := trivial
      refine norm_ (a' := ?_) ?_ ?_
      rotate_left
      · simp only [putAll, Act.put, List.setIfInBounds_toArray, List.set_cons_zero, List.set_cons_succ]
        rfl
      refine two_ (i := 2) (j := 14) (Ni := some 15) (Nj := some 7) #[true, true, true, false, false, true, true, true, false, false, false, true, false, false, false, false] #[true, true, false, false, false, true, true, true, false, false, false, true, false, false, true, false] rfl rfl rfl rfl (by kernel_rfl) (by decide) (by decide) (fun K hK => ?_) (fun K hK => ?_)
      · skip
        refine goes_ Tryz.func22 (by kernel_rfl) rfl #[.int .i64 a0, .int .i64 3] (by rfl) rfl rfl (by simp only [List.map_toArray, List.map_cons, List.map_nil]; rfl) ?_
        with_reducible refine (PB.damperlaw2_within.calls a0 3 k1 _ A1.out).mono ?_
        rintro e w3 ⟨rfl, h3⟩
        refine ⟨_, rfl, ?_⟩
        refine hK.out _ _ trivial (fun hHeld => ?_)
        clear hK K
        refine norm_ (a' := ?_) ?_ ?_
        rotate_left
        · show Act.put _ (some 15) _ = _
          simp only [Act.put, List.setIfInBounds_toArray, List.set_cons_zero, List.set_cons_succ, i64_w, i32_w]
          rfl
        refine pure_ (i := 3) (N := some 16) (v := ?_) (a' := ?_) #[true, true, true, true, false, true, true, true, false, false, false, true, false, false, false, false] rfl rfl (by kernel_rfl) (fun _ _ _ h => h) (Or.inl ⟨by rfl, ?_⟩) ?_ ?_
        rotate_left
        · intro w'
          go_simp
          with_reducible rfl
        rotate_left
        · simp only [Act.put, List.setIfInBounds_toArray, List.set_cons_zero, List.set_cons_succ, i64_w, i32_w]
          rfl
        exact norm_ (by first | (simp only [putAll, Act.put, List.setIfInBounds_toArray, List.set_cons_zero, List.set_cons_succ]; done) | (simp only [putAll, Act.put, List.setIfInBounds_toArray, List.set_cons_zero, List.set_cons_succ]; rfl)) (hJ0_2_5 s _ (hF.below h3.below))
      · skip
        refine value_ (w1 := ?_) (v := ?_) (by rfl) rfl ?_ ?_
        rotate_left 2
        · go_simp
          constructor
          · rfl
          · rfl
        refine hK.out _ _ trivial (fun hHeld => ?_)
        clear hK K
        refine norm_ (a' := ?_) ?_ ?_
        rotate_left
        · show Act.put _ (some 7) _ = _
          simp only [Act.put, List.setIfInBounds_toArray, List.set_cons_zero, List.set_cons_succ, i64_w, i32_w]
          rfl
        exact norm_ (by first | (simp only [putAll, Act.put, List.setIfInBounds_toArray, List.set_cons_zero, List.set_cons_succ]; done) | (simp only [putAll, Act.put, List.setIfInBounds_toArray, List.set_cons_zero, List.set_cons_succ]; rfl)) (hJ0_5_14 (s.1, s.2.1, wx.heap.size) _ hF.opC)
    intro hJ0_5
    refine join_ (σ := Nat × Nat × Nat) 10 #[true, true, false, false, false, false, true, true, false, false, false, true, false, false, true, false] (fun s => [(13, .slice (some ⟨s.1, 0, none⟩) 3 3), (7, .pointer (some ⟨s.2.2, 0, none⟩))]) (fun s w' => RtF W0 true false true s w') ?_ ?_
    · skip
      rintro s wx hF
      have hHeld : True := trivial
      refine norm_ (a' := ?_) ?_ ?_
      rotate_left
      · simp only [putAll, Act.put, List.setIfInBounds_toArray, List.set_cons_zero, List.set_cons_succ]
        rfl
      refine two_ (i := 2) (j := 5) (Ni := some 15) (Nj := some 18) #[true, true, true, false, false, false, true, true, false, false, false, true, false, false, true, false] #[true, true, false, false, false, true, true, true, false, false, false, true, false, false, true, false] rfl rfl rfl rfl (by kernel_rfl) (by decide) (by decide) (fun K hK => ?_) (fun K hK => ?_)
      · skip
        refine goes_ Tryz.func22 (by kernel_rfl) rfl #[.int .i64 a0, .int .i64 3] (by rfl) rfl rfl (by simp only [List.map_toArray, List.map_cons, List.map_nil]; rfl) ?_
        with_reducible refine (PB.damperlaw2_within.calls a0 3 k1 _ A1.out).mono ?_
        rintro e w3 ⟨rfl, h3⟩
        refine ⟨_, rfl, ?_⟩
        refine hK.out _ _ trivial (fun hHeld => ?_)
        clear hK K
        refine norm_ (a' := ?_) ?_ ?_
        rotate_left
        · show Act.put _ (some 15) _ = _
          simp only [Act.put, List.setIfInBounds_toArray, List.set_cons_zero, List.set_cons_succ, i64_w, i32_w]
          rfl
        refine pure_ (i := 3) (N := some 16) (v := ?_) (a' := ?_) #[true, true, true, true, false, false, true, true, false, false, false, true, false, false, true, false] rfl rfl (by kernel_rfl) (fun _ _ _ h => h) (Or.inl ⟨by rfl, ?_⟩) ?_ ?_
        rotate_left
        · intro w'
          go_simp
          with_reducible rfl
        rotate_left
        · simp only [Act.put, List.setIfInBounds_toArray, List.set_cons_zero, List.set_cons_succ, i64_w, i32_w]
          rfl
        exact norm_ (by first | (simp only [putAll, Act.put, List.setIfInBounds_toArray, List.set_cons_zero, List.set_cons_succ]; done) | (simp only [putAll, Act.put, List.setIfInBounds_toArray, List.set_cons_zero, List.set_cons_succ]; rfl)) (hJ0_2_14 s _ (hF.below h3.below))
      · skip
        refine value_ (w1 := ?_) (v := ?_) (by rfl) rfl ?_ ?_
        rotate_left 2
        · go_simp
          constructor
          · rfl
          · rfl
        refine hK.out _ _ trivial (fun hHeld => ?_)
        clear hK K
        refine norm_ (a' := ?_) ?_ ?_
        rotate_left
        · show Act.put _ (some 18) _ = _
          simp only [Act.put, List.setIfInBounds_toArray, List.set_cons_zero, List.set_cons_succ, i64_w, i32_w]
          rfl
        exact norm_ (by first | (simp only [putAll, Act.put, List.setIfInBounds_toArray, List.set_cons_zero, List.set_cons_succ]; done) | (simp only [putAll, Act.put, List.setIfInBounds_toArray, List.set_cons_zero, List.set_cons_succ]; rfl)) (hJ0_5_14 (s.1, wx.heap.size, s.2.2) _ hF.opB)
    intro hJ0_14
    refine join_ (σ := Nat × Nat × Nat) 10 #[false, true, true, false, false, true, true, true, false, false, false, true, false, false, false, false] (fun s => [(15, .int .i64 (k1 : Int)), (18, .slice (some ⟨s.2.1, 0, none⟩) 3 3)]) (fun s w' => RtF W0 false true false s w') ?_ ?_
    · skip
      rintro s wx hF
      have hHeld : True := trivial
      refine norm_ (a' := ?_) ?_ ?_
      rotate_left
      · simp only [putAll, Act.put, List.setIfInBounds_toArray, List.set_cons_zero, List.set_cons_succ]
        rfl
      refine three_ (i := 0) (j := 8) (k := 14) (Ni := some 13) (Nj := some 21) (Nk := some 7) #[true, true, true, false, false, true, true, true, false, false, false, true, false, false, false, false] #[false, true, true, false, false, true, true, true, true, false, false, true, false, false, false, false] #[false, true, true, false, false, true, true, true, false, false, false, true, false, false, true, false] rfl rfl rfl rfl rfl rfl (by kernel_rfl) (by decide) (by decide) (by decide) (fun K hK => ?_) (fun K hK => ?_) (fun K hK => ?_)
      · skip
        refine value_ (w1 := ?_) (v := ?_) (by rfl) rfl ?_ ?_
        rotate_left 2
        · go_simp
          constructor
          · rfl
          · rfl
        refine hK.out _ _ trivial (fun hHeld => ?_)
        clear hK K
        refine norm_ (a' := ?_) ?_ ?_
        rotate_left
        · show Act.put _ (some 13) _ = _
          simp only [Act.put, List.setIfInBounds_toArray, List.set_cons_zero, List.set_cons_succ, i64_w, i32_w]
          rfl
        refine pure_ (i := 3) (N := some 16) (v := ?_) (a' := ?_) #[true, true, true, true, false, true, true, true, false, false, false, true, false, false, false, false] rfl rfl (by kernel_rfl) (fun _ _ _ h => h) (Or.inl ⟨by rfl, ?_⟩) ?_ ?_
        rotate_left
        · intro w'
          go_simp
          with_reducible rfl
        rotate_left
        · simp only [Act.put, List.setIfInBounds_toArray, List.set_cons_zero, List.set_cons_succ, i64_w, i32_w]
          rfl
        exact norm_ (by first | (simp only [putAll, Act.put, List.setIfInBounds_toArray, List.set_cons_zero, List.set_cons_succ]; done) | (simp only [putAll, Act.put, List.setIfInBounds_toArray, List.set_cons_zero, List.set_cons_succ]; rfl)) (hJ0_2_5 (wx.heap.size, s.2) _ hF.opA)
      · skip
        refine goes_ Tryz.func22 (by kernel_rfl) rfl #[.int .i64 (wrap64 (a0.tdiv 3)), .int .i64 3] (by rfl) rfl rfl (by simp only [List.map_toArray, List.map_cons, List.map_nil]; rfl) ?_
        with_reducible refine (PB.damperlaw2_within.calls (wrap64 (a0.tdiv 3)) 3 k2 _ A2.out).mono ?_
        rintro e w3 ⟨rfl, h3⟩
        refine ⟨_, rfl, ?_⟩
        refine hK.out _ _ trivial (fun hHeld => ?_)
        clear hK K
        refine norm_ (a' := ?_) ?_ ?_
        rotate_left
        · show Act.put _ (some 21) _ = _
          simp only [Act.put, List.setIfInBounds_toArray, List.set_cons_zero, List.set_cons_succ, i64_w, i32_w]
          rfl
        refine pure_ (i := 9) (N := some 22) (v := ?_) (a' := ?_) #[false, true, true, false, false, true, true, true, true, true, false, true, false, false, false, false] rfl rfl (by kernel_rfl) (fun _ _ _ h => h) (Or.inl ⟨by rfl, ?_⟩) ?_ ?_
        rotate_left
        · intro w'
          go_simp
          with_reducible rfl
        rotate_left
        · simp only [Act.put, List.setIfInBounds_toArray, List.set_cons_zero, List.set_cons_succ, i64_w, i32_w]
          rfl
        exact norm_ (by first | (simp only [putAll, Act.put, List.setIfInBounds_toArray, List.set_cons_zero, List.set_cons_succ]; done) | (simp only [putAll, Act.put, List.setIfInBounds_toArray, List.set_cons_zero, List.set_cons_succ]; rfl)) (hJ2_5_8 s _ (hF.below h3.below))
      · skip
        refine value_ (w1 := ?_) (v := ?_) (by rfl) rfl ?_ ?_
        rotate_left 2
        · go_simp
          constructor
          · rfl
          · rfl
        refine hK.out _ _ trivial (fun hHeld => ?_)
        clear hK K
        refine norm_ (a' := ?_) ?_ ?_
        rotate_left
        · show Act.put _ (some 7) _ = _
          simp only [Act.put, List.setIfInBounds_toArray, List.set_cons_zero, List.set_cons_succ, i64_w, i32_w]
          rfl
        exact norm_ (by first | (simp only [putAll, Act.put, List.setIfInBounds_toArray, List.set_cons_zero, List.set_cons_succ]; done) | (simp only [putAll, Act.put, List.setIfInBounds_toArray, List.set_cons_zero, List.set_cons_succ]; rfl)) (hJ2_5_14 (s.1, s.2.1, wx.heap.size) _ hF.opC)
    intro hJ2_5
    refine join_ (σ := Nat × Nat × Nat) 10 #[false, true, true, false, false, false, true, true, true, false, false, true, false, false, false, false] (fun s => [(15, .int .i64 (k1 : Int)), (21, .int .i64 (k2 : Int))]) (fun s w' => RtF W0 false false false s w') ?_ ?_
    · skip
      rintro s wx hF
      have hHeld : True := trivial
      refine norm_ (a' := ?_) ?_ ?_
      rotate_left
      · simp only [putAll, Act.put, List.setIfInBounds_toArray, List.set_cons_zero, List.set_cons_succ]
        rfl
      refine four_ (i := 0) (j := 5) (k := 12) (m := 14) (Ni := some 13) (Nj := some 18) (Nk := some 25) (Nm := some 7) #[true, true, true, false, false, false, true, true, true, false, false, true, false, false, false, false] #[false, true, true, false, false, true, true, true, true, false, false, true, false, false, false, false] #[false, true, true, false, false, false, true, true, true, false, false, true, true, false, false, false] #[false, true, true, false, false, false, true, true, true, false, false, true, false, false, true, false] rfl rfl rfl rfl rfl rfl rfl rfl (by kernel_rfl) (by decide) (by decide) (by decide) (by decide) (fun K hK => ?_) (fun K hK => ?_) (fun K hK => ?_) (fun K hK => ?_)
      · skip
        refine value_ (w1 := ?_) (v := ?_) (by rfl) rfl ?_ ?_
        rotate_left 2
        · go_simp
          constructor
          · rfl
          · rfl
        refine hK.out _ _ trivial (fun hHeld => ?_)
        clear hK K
        refine norm_ (a' := ?_) ?_ ?_
        rotate_left
        · show Act.put _ (some 13) _ = _
          simp only [Act.put, List.setIfInBounds_toArray, List.set_cons_zero, List.set_cons_succ, i64_w, i32_w]
          rfl
        refine pure_ (i := 3) (N := some 16) (v := ?_) (a' := ?_) #[true, true, true, true, false, false, true, true, true, false, false, true, false, false, false, false] rfl rfl (by kernel_rfl) (fun _ _ _ h => h) (Or.inl ⟨by rfl, ?_⟩) ?_ ?_
        rotate_left
        · intro w'
          go_simp
          with_reducible rfl
        rotate_left
        · simp only [Act.put, List.setIfInBounds_toArray, List.set_cons_zero, List.set_cons_succ, i64_w, i32_w]
          rfl
        exact norm_ (by first | (simp only [putAll, Act.put, List.setIfInBounds_toArray, List.set_cons_zero, List.set_cons_succ]; done) | (simp only [putAll, Act.put, List.setIfInBounds_toArray, List.set_cons_zero, List.set_cons_succ]; rfl)) (hJ0_2_8 (wx.heap.size, s.2) _ hF.opA)
      · skip
        refine value_ (w1 := ?_) (v := ?_) (by rfl) rfl ?_ ?_
        rotate_left 2
        · go_simp
          constructor
          · rfl
          · rfl
        refine hK.out _ _ trivial (fun hHeld => ?_)
        clear hK K
        refine norm_ (a' := ?_) ?_ ?_
        rotate_left
        · show Act.put _ (some 18) _ = _
          simp only [Act.put, List.setIfInBounds_toArray, List.set_cons_zero, List.set_cons_succ, i64_w, i32_w]
          rfl
        refine pure_ (i := 9) (N := some 22) (v := ?_) (a' := ?_) #[false, true, true, false, false, true, true, true, true, true, false, true, false, false, false, false] rfl rfl (by kernel_rfl) (fun _ _ _ h => h) (Or.inl ⟨by rfl, ?_⟩) ?_ ?_
        rotate_left
        · intro w'
          go_simp
          with_reducible rfl
        rotate_left
        · simp only [Act.put, List.setIfInBounds_toArray, List.set_cons_zero, List.set_cons_succ, i64_w, i32_w]
          rfl
        exact norm_ (by first | (simp only [putAll, Act.put, List.setIfInBounds_toArray, List.set_cons_zero, List.set_cons_succ]; done) | (simp only [putAll, Act.put, List.setIfInBounds_toArray, List.set_cons_zero, List.set_cons_succ]; rfl)) (hJ2_5_8 (s.1, wx.heap.size, s.2.2) _ hF.opB)
      · skip
        refine goes_ Tryz.func22 (by kernel_rfl) rfl #[.int .i64 a2, .int .i64 61] (by rfl) rfl rfl (by simp only [List.map_toArray, List.map_cons, List.map_nil]; rfl) ?_
        with_reducible refine (PB.damperlaw2_within.calls a2 61 k3 _ A3.out).mono ?_
        rintro e w3 ⟨rfl, h3⟩
        refine ⟨_, rfl, ?_⟩
        refine hK.out _ _ trivial (fun hHeld => ?_)
        clear hK K
        refine norm_ (a' := ?_) ?_ ?_
        rotate_left
        · show Act.put _ (some 25) _ = _
          simp only [Act.put, List.setIfInBounds_toArray, List.set_cons_zero, List.set_cons_succ, i64_w, i32_w]
          rfl
        exact norm_ (by first | (simp only [putAll, Act.put, List.setIfInBounds_toArray, List.set_cons_zero, List.set_cons_succ]; done) | (simp only [putAll, Act.put, List.setIfInBounds_toArray, List.set_cons_zero, List.set_cons_succ]; rfl)) (hJ2_8_12 s _ (hF.below h3.below))
      · skip
        refine value_ (w1 := ?_) (v := ?_) (by rfl) rfl ?_ ?_
        rotate_left 2
        · go_simp
          constructor
          · rfl
          · rfl
        refine hK.out _ _ trivial (fun hHeld => ?_)
        clear hK K
        refine norm_ (a' := ?_) ?_ ?_
        rotate_left
        · show Act.put _ (some 7) _ = _
          simp only [Act.put, List.setIfInBounds_toArray, List.set_cons_zero, List.set_cons_succ, i64_w, i32_w]
          rfl
        exact norm_ (by first | (simp only [putAll, Act.put, List.setIfInBounds_toArray, List.set_cons_zero, List.set_cons_succ]; done) | (simp only [putAll, Act.put, List.setIfInBounds_toArray, List.set_cons_zero, List.set_cons_succ]; rfl)) (hJ2_8_14 (s.1, s.2.1, wx.heap.size) _ hF.opC)
    intro hJ2_8
    refine join_ (σ := Nat × Nat × Nat) 10 #[false, true, true, false, false, false, true, true, false, false, false, true, false, false, true, false] (fun s => [(15, .int .i64 (k1 : Int)), (7, .pointer (some ⟨s.2.2, 0, none⟩))]) (fun s w' => RtF W0 false false true s w') ?_ ?_
    · skip
      rintro s wx hF
      have hHeld : True := trivial
      refine norm_ (a' := ?_) ?_ ?_
      rotate_left
      · simp only [putAll, Act.put, List.setIfInBounds_toArray, List.set_cons_zero, List.set_cons_succ]
        rfl
      refine three_ (i := 0) (j := 5) (k := 8) (Ni := some 13) (Nj := some 18) (Nk := some 21) #[true, true, true, false, false, false, true, true, false, false, false, true, false, false, true, false] #[false, true, true, false, false, true, true, true, false, false, false, true, false, false, true, false] #[false, true, true, false, false, false, true, true, true, false, false, true, false, false, true, false] rfl rfl rfl rfl rfl rfl (by kernel_rfl) (by decide) (by decide) (by decide) (fun K hK => ?_) (fun K hK => ?_) (fun K hK => ?_)
      · skip
        refine value_ (w1 := ?_) (v := ?_) (by rfl) rfl ?_ ?_
        rotate_left 2
        · go_simp
          constructor
          · rfl
          · rfl
        refine hK.out _ _ trivial (fun hHeld => ?_)
        clear hK K
        refine norm_ (a' := ?_) ?_ ?_
        rotate_left
        · show Act.put _ (some 13) _ = _
          simp only [Act.put, List.setIfInBounds_toArray, List.set_cons_zero, List.set_cons_succ, i64_w, i32_w]
          rfl
        refine pure_ (i := 3) (N := some 16) (v := ?_) (a' := ?_) #[true, true, true, true, false, false, true, true, false, false, false, true, false, false, true, false] rfl rfl (by kernel_rfl) (fun _ _ _ h => h) (Or.inl ⟨by rfl, ?_⟩) ?_ ?_
        rotate_left
        · intro w'
          go_simp
          with_reducible rfl
        rotate_left
        · simp only [Act.put, List.setIfInBounds_toArray, List.set_cons_zero, List.set_cons_succ, i64_w, i32_w]
          rfl
        exact norm_ (by first | (simp only [putAll, Act.put, List.setIfInBounds_toArray, List.set_cons_zero, List.set_cons_succ]; done) | (simp only [putAll, Act.put, List.setIfInBounds_toArray, List.set_cons_zero, List.set_cons_succ]; rfl)) (hJ0_2_14 (wx.heap.size, s.2) _ hF.opA)
      · skip
        refine value_ (w1 := ?_) (v := ?_) (by rfl) rfl ?_ ?_
        rotate_left 2
        · go_simp
          constructor
          · rfl
          · rfl
        refine hK.out _ _ trivial (fun hHeld => ?_)
        clear hK K
        refine norm_ (a' := ?_) ?_ ?_
        rotate_left
        · show Act.put _ (some 18) _ = _
          simp only [Act.put, List.setIfInBounds_toArray, List.set_cons_zero, List.set_cons_succ, i64_w, i32_w]
          rfl
        exact norm_ (by first | (simp only [putAll, Act.put, List.setIfInBounds_toArray, List.set_cons_zero, List.set_cons_succ]; done) | (simp only [putAll, Act.put, List.setIfInBounds_toArray, List.set_cons_zero, List.set_cons_succ]; rfl)) (hJ2_5_14 (s.1, wx.heap.size, s.2.2) _ hF.opB)
      · skip
        refine goes_ Tryz.func22 (by kernel_rfl) rfl #[.int .i64 (wrap64 (a0.tdiv 3)), .int .i64 3] (by rfl) rfl rfl (by simp only [List.map_toArray, List.map_cons, List.map_nil]; rfl) ?_
        with_reducible refine (PB.damperlaw2_within.calls (wrap64 (a0.tdiv 3)) 3 k2 _ A2.out).mono ?_
        rintro e w3 ⟨rfl, h3⟩
        refine ⟨_, rfl, ?_⟩
        refine hK.out _ _ trivial (fun hHeld => ?_)
        clear hK K
        refine norm_ (a' := ?_) ?_ ?_
        rotate_left
        · show Act.put _ (some 21) _ = _
          simp only [Act.put, List.setIfInBounds_toArray, List.set_cons_zero, List.set_cons_succ, i64_w, i32_w]
          rfl
        exact norm_ (by first | (simp only [putAll, Act.put, List.setIfInBounds_toArray, List.set_cons_zero, List.set_cons_succ]; done) | (simp only [putAll, Act.put, List.setIfInBounds_toArray, List.set_cons_zero, List.set_cons_succ]; rfl)) (hJ2_8_14 s _ (hF.below h3.below))
    intro hJ2_14
    refine join_ (σ := Nat × Nat × Nat) 10 #[false, true, false, false, false, true, true, true, false, false, false, true, false, false, true, false] (fun s => [(18, .slice (some ⟨s.2.1, 0, none⟩) 3 3), (7, .pointer (some ⟨s.2.2, 0, none⟩))]) (fun s w' => RtF W0 false true true s w') ?_ ?_
    · skip
      rintro s wx hF
      have hHeld : True := trivial
      refine norm_ (a' := ?_) ?_ ?_
      rotate_left
      · simp only [putAll, Act.put, List.setIfInBounds_toArray, List.set_cons_zero, List.set_cons_succ]
        rfl
      refine two_ (i := 0) (j := 2) (Ni := some 13) (Nj := some 15) #[true, true, false, false, false, true, true, true, false, false, false, true, false, false, true, false] #[false, true, true, false, false, true, true, true, false, false, false, true, false, false, true, false] rfl rfl rfl rfl (by kernel_rfl) (by decide) (by decide) (fun K hK => ?_) (fun K hK => ?_)
      · skip
        refine value_ (w1 := ?_) (v := ?_) (by rfl) rfl ?_ ?_
        rotate_left 2
        · go_simp
          constructor
          · rfl
          · rfl
        refine hK.out _ _ trivial (fun hHeld => ?_)
        clear hK K
        refine norm_ (a' := ?_) ?_ ?_
        rotate_left
        · show Act.put _ (some 13) _ = _
          simp only [Act.put, List.setIfInBounds_toArray, List.set_cons_zero, List.set_cons_succ, i64_w, i32_w]
          rfl
        exact norm_ (by first | (simp only [putAll, Act.put, List.setIfInBounds_toArray, List.set_cons_zero, List.set_cons_succ]; done) | (simp only [putAll, Act.put, List.setIfInBounds_toArray, List.set_cons_zero, List.set_cons_succ]; rfl)) (hJ0_5_14 (wx.heap.size, s.2) _ hF.opA)
      · skip
        refine goes_ Tryz.func22 (by kernel_rfl) rfl #[.int .i64 a0, .int .i64 3] (by rfl) rfl rfl (by simp only [List.map_toArray, List.map_cons, List.map_nil]; rfl) ?_
        with_reducible refine (PB.damperlaw2_within.calls a0 3 k1 _ A1.out).mono ?_
        rintro e w3 ⟨rfl, h3⟩
        refine ⟨_, rfl, ?_⟩
        refine hK.out _ _ trivial (fun hHeld => ?_)
        clear hK K
        refine norm_ (a' := ?_) ?_ ?_
        rotate_left
        · show Act.put _ (some 15) _ = _
          simp only [Act.put, List.setIfInBounds_toArray, List.set_cons_zero, List.set_cons_succ, i64_w, i32_w]
          rfl
        exact norm_ (by first | (simp only [putAll, Act.put, List.setIfInBounds_toArray, List.set_cons_zero, List.set_cons_succ]; done) | (simp only [putAll, Act.put, List.setIfInBounds_toArray, List.set_cons_zero, List.set_cons_succ]; rfl)) (hJ2_5_14 s _ (hF.below h3.below))
    intro hJ5_14
    refine join_ (σ := Nat × Nat × Nat) 11 #[true, true, false, false, false, false, true, true, false, false, false, true, false, false, false, false] (fun s => [(13, .slice (some ⟨s.1, 0, none⟩) 3 3)]) (fun s w' => RtF W0 true false false s w') ?_ ?_
    · skip
      rintro s wx hF
      have hHeld : True := trivial
      refine norm_ (a' := ?_) ?_ ?_
      rotate_left
      · simp only [putAll, Act.put, List.setIfInBounds_toArray, List.set_cons_zero, List.set_cons_succ]
        rfl
      refine three_ (i := 2) (j := 5) (k := 14) (Ni := some 15) (Nj := some 18) (Nk := some 7) #[true, true, true, false, false, false, true, true, false, false, false, true, false, false, false, false] #[true, true, false, false, false, true, true, true, false, false, false, true, false, false, false, false] #[true, true, false, false, false, false, true, true, false, false, false, true, false, false, true, false] rfl rfl rfl rfl rfl rfl (by kernel_rfl) (by decide) (by decide) (by decide) (fun K hK => ?_) (fun K hK => ?_) (fun K hK => ?_)
      · skip
        refine goes_ Tryz.func22 (by kernel_rfl) rfl #[.int .i64 a0, .int .i64 3] (by rfl) rfl rfl (by simp only [List.map_toArray, List.map_cons, List.map_nil]; rfl) ?_
        with_reducible refine (PB.damperlaw2_within.calls a0 3 k1 _ A1.out).mono ?_
        rintro e w3 ⟨rfl, h3⟩
        refine ⟨_, rfl, ?_⟩
        refine hK.out _ _ trivial (fun hHeld => ?_)
        clear hK K
        refine norm_ (a' := ?_) ?_ ?_
        rotate_left
        · show Act.put _ (some 15) _ = _
          simp only [Act.put, List.setIfInBounds_toArray, List.set_cons_zero, List.set_cons_succ, i64_w, i32_w]
          rfl
        refine pure_ (i := 3) (N := some 16) (v := ?_) (a' := ?_) #[true, true, true, true, false, false, true, true, false, false, false, true, false, false, false, false] rfl rfl (by kernel_rfl) (fun _ _ _ h => h) (Or.inl ⟨by rfl, ?_⟩) ?_ ?_
        rotate_left
        · intro w'
          go_simp
          with_reducible rfl
        rotate_left
        · simp only [Act.put, List.setIfInBounds_toArray, List.set_cons_zero, List.set_cons_succ, i64_w, i32_w]
          rfl
        exact norm_ (by first | (simp only [putAll, Act.put, List.setIfInBounds_toArray, List.set_cons_zero, List.set_cons_succ]; done) | (simp only [putAll, Act.put, List.setIfInBounds_toArray, List.set_cons_zero, List.set_cons_succ]; rfl)) (hJ0_2 s _ (hF.below h3.below))
      · skip
        refine value_ (w1 := ?_) (v := ?_) (by rfl) rfl ?_ ?_
        rotate_left 2
        · go_simp
          constructor
          · rfl
          · rfl
        refine hK.out _ _ trivial (fun hHeld => ?_)
        clear hK K
        refine norm_ (a' := ?_) ?_ ?_
        rotate_left
        · show Act.put _ (some 18) _ = _
          simp only [Act.put, List.setIfInBounds_toArray, List.set_cons_zero, List.set_cons_succ, i64_w, i32_w]
          rfl
        exact norm_ (by first | (simp only [putAll, Act.put, List.setIfInBounds_toArray, List.set_cons_zero, List.set_cons_succ]; done) | (simp only [putAll, Act.put, List.setIfInBounds_toArray, List.set_cons_zero, List.set_cons_succ]; rfl)) (hJ0_5 (s.1, wx.heap.size, s.2.2) _ hF.opB)
      · skip
        refine value_ (w1 := ?_) (v := ?_) (by rfl) rfl ?_ ?_
        rotate_left 2
        · go_simp
          constructor
          · rfl
          · rfl
        refine hK.out _ _ trivial (fun hHeld => ?_)
        clear hK K
        refine norm_ (a' := ?_) ?_ ?_
        rotate_left
        · show Act.put _ (some 7) _ = _
          simp only [Act.put, List.setIfInBounds_toArray, List.set_cons_zero, List.set_cons_succ, i64_w, i32_w]
          rfl
        exact norm_ (by first | (simp only [putAll, Act.put, List.setIfInBounds_toArray, List.set_cons_zero, List.set_cons_succ]; done) | (simp only [putAll, Act.put, List.setIfInBounds_toArray, List.set_cons_zero, List.set_cons_succ]; rfl)) (hJ0_14 (s.1, s.2.1, wx.heap.size) _ hF.opC)
    intro hJ0
    refine join_ (σ := Nat × Nat × Nat) 11 #[false, true, true, false, false, false, true, true, false, false, false, true, false, false, false, false] (fun s => [(15, .int .i64 (k1 : Int))]) (fun s w' => RtF W0 false false false s w') ?_ ?_
    · skip
      rintro s wx hF
      have hHeld : True := trivial
      refine norm_ (a' := ?_) ?_ ?_
      rotate_left
      · simp only [putAll, Act.put, List.setIfInBounds_toArray, List.set_cons_zero, List.set_cons_succ]
        rfl
      refine four_ (i := 0) (j := 5) (k := 8) (m := 14) (Ni := some 13) (Nj := some 18) (Nk := some 21) (Nm := some 7) #[true, true, true, false, false, false, true, true, false, false, false, true, false, false, false, false] #[false, true, true, false, false, true, true, true, false, false, false, true, false, false, false, false] #[false, true, true, false, false, false, true, true, true, false, false, true, false, false, false, false] #[false, true, true, false, false, false, true, true, false, false, false, true, false, false, true, false] rfl rfl rfl rfl rfl rfl rfl rfl (by kernel_rfl) (by decide) (by decide) (by decide) (by decide) (fun K hK => ?_) (fun K hK => ?_) (fun K hK => ?_) (fun K hK => ?_)
      · skip
        refine value_ (w1 := ?_) (v := ?_) (by rfl) rfl ?_ ?_
        rotate_left 2
        · go_simp
          constructor
          · rfl
          · rfl
        refine hK.out _ _ trivial (fun hHeld => ?_)
        clear hK K
        refine norm_ (a' := ?_) ?_ ?_
        rotate_left
        · show Act.put _ (some 13) _ = _
          simp only [Act.put, List.setIfInBounds_toArray, List.set_cons_zero, List.set_cons_succ, i64_w, i32_w]
          rfl
        refine pure_ (i := 3) (N := some 16) (v := ?_) (a' := ?_) #[true, true, true, true, false, false, true, true, false, false, false, true, false, false, false, false] rfl rfl (by kernel_rfl) (fun _ _ _ h => h) (Or.inl ⟨by rfl, ?_⟩) ?_ ?_
        rotate_left
        · intro w'
          go_simp
          with_reducible rfl
        rotate_left
        · simp only [Act.put, List.setIfInBounds_toArray, List.set_cons_zero, List.set_cons_succ, i64_w, i32_w]
          rfl
        exact norm_ (by first | (simp only [putAll, Act.put, List.setIfInBounds_toArray, List.set_cons_zero, List.set_cons_succ]; done) | (simp only [putAll, Act.put, List.setIfInBounds_toArray, List.set_cons_zero, List.set_cons_succ]; rfl)) (hJ0_2 (wx.heap.size, s.2) _ hF.opA)
      · skip
        refine value_ (w1 := ?_) (v := ?_) (by rfl) rfl ?_ ?_
        rotate_left 2
        · go_simp
          constructor
          · rfl
          · rfl
        refine hK.out _ _ trivial (fun hHeld => ?_)
        clear hK K
        refine norm_ (a' := ?_) ?_ ?_
        rotate_left
        · show Act.put _ (some 18) _ = _
          simp only [Act.put, List.setIfInBounds_toArray, List.set_cons_zero, List.set_cons_succ, i64_w, i32_w]
          rfl
        exact norm_ (by first | (simp only [putAll, Act.put, List.setIfInBounds_toArray, List.set_cons_zero, List.set_cons_succ]; done) | (simp only [putAll, Act.put, List.setIfInBounds_toArray, List.set_cons_zero, List.set_cons_succ]; rfl)) (hJ2_5 (s.1, wx.heap.size, s.2.2) _ hF.opB)
      · skip
        refine goes_ Tryz.func22 (by kernel_rfl) rfl #[.int .i64 (wrap64 (a0.tdiv 3)), .int .i64 3] (by rfl) rfl rfl (by simp only [List.map_toArray, List.map_cons, List.map_nil]; rfl) ?_
        with_reducible refine (PB.damperlaw2_within.calls (wrap64 (a0.tdiv 3)) 3 k2 _ A2.out).mono ?_
        rintro e w3 ⟨rfl, h3⟩
        refine ⟨_, rfl, ?_⟩
        refine hK.out _ _ trivial (fun hHeld => ?_)
        clear hK K
        refine norm_ (a' := ?_) ?_ ?_
        rotate_left
        · show Act.put _ (some 21) _ = _
          simp only [Act.put, List.setIfInBounds_toArray, List.set_cons_zero, List.set_cons_succ, i64_w, i32_w]
          rfl
        exact norm_ (by first | (simp only [putAll, Act.put, List.setIfInBounds_toArray, List.set_cons_zero, List.set_cons_succ]; done) | (simp only [putAll, Act.put, List.setIfInBounds_toArray, List.set_cons_zero, List.set_cons_succ]; rfl)) (hJ2_8 s _ (hF.below h3.below))
      · skip
        refine value_ (w1 := ?_) (v := ?_) (by rfl) rfl ?_ ?_
        rotate_left 2
        · go_simp
          constructor
          · rfl
          · rfl
        refine hK.out _ _ trivial (fun hHeld => ?_)
        clear hK K
        refine norm_ (a' := ?_) ?_ ?_
        rotate_left
        · show Act.put _ (some 7) _ = _
          simp only [Act.put, List.setIfInBounds_toArray, List.set_cons_zero, List.set_cons_succ, i64_w, i32_w]
          rfl
        exact norm_ (by first | (simp only [putAll, Act.put, List.setIfInBounds_toArray, List.set_cons_zero, List.set_cons_succ]; done) | (simp only [putAll, Act.put, List.setIfInBounds_toArray, List.set_cons_zero, List.set_cons_succ]; rfl)) (hJ2_14 (s.1, s.2.1, wx.heap.size) _ hF.opC)
    intro hJ2
    refine join_ (σ := Nat × Nat × Nat) 11 #[false, true, false, false, false, true, true, true, false, false, false, true, false, false, false, false] (fun s => [(18, .slice (some ⟨s.2.1, 0, none⟩) 3 3)]) (fun s w' => RtF W0 false true false s w') ?_ ?_
    · skip
      rintro s wx hF
      have hHeld : True := trivial
      refine norm_ (a' := ?_) ?_ ?_
      rotate_left
      · simp only [putAll, Act.put, List.setIfInBounds_toArray, List.set_cons_zero, List.set_cons_succ]
        rfl
      refine three_ (i := 0) (j := 2) (k := 14) (Ni := some 13) (Nj := some 15) (Nk := some 7) #[true, true, false, false, false, true, true, true, false, false, false, true, false, false, false, false] #[false, true, true, false, false, true, true, true, false, false, false, true, false, false, false, false] #[false, true, false, false, false, true, true, true, false, false, false, true, false, false, true, false] rfl rfl rfl rfl rfl rfl (by kernel_rfl) (by decide) (by decide) (by decide) (fun K hK => ?_) (fun K hK => ?_) (fun K hK => ?_)
      · skip
        refine value_ (w1 := ?_) (v := ?_) (by rfl) rfl ?_ ?_
        rotate_left 2
        · go_simp
          constructor
          · rfl
          · rfl
        refine hK.out _ _ trivial (fun hHeld => ?_)
        clear hK K
        refine norm_ (a' := ?_) ?_ ?_
        rotate_left
        · show Act.put _ (some 13) _ = _
          simp only [Act.put, List.setIfInBounds_toArray, List.set_cons_zero, List.set_cons_succ, i64_w, i32_w]
          rfl
        exact norm_ (by first | (simp only [putAll, Act.put, List.setIfInBounds_toArray, List.set_cons_zero, List.set_cons_succ]; done) | (simp only [putAll, Act.put, List.setIfInBounds_toArray, List.set_cons_zero, List.set_cons_succ]; rfl)) (hJ0_5 (wx.heap.size, s.2) _ hF.opA)
      · skip
        refine goes_ Tryz.func22 (by kernel_rfl) rfl #[.int .i64 a0, .int .i64 3] (by rfl) rfl rfl (by simp only [List.map_toArray, List.map_cons, List.map_nil]; rfl) ?_
        with_reducible refine (PB.damperlaw2_within.calls a0 3 k1 _ A1.out).mono ?_
        rintro e w3 ⟨rfl, h3⟩
        refine ⟨_, rfl, ?_⟩
        refine hK.out _ _ trivial (fun hHeld => ?_)
        clear hK K
        refine norm_ (a' := ?_) ?_ ?_
        rotate_left
        · show Act.put _ (some 15) _ = _
          simp only [Act.put, List.setIfInBounds_toArray, List.set_cons_zero, List.set_cons_succ, i64_w, i32_w]
          rfl
        exact norm_ (by first | (simp only [putAll, Act.put, List.setIfInBounds_toArray, List.set_cons_zero, List.set_cons_succ]; done) | (simp only [putAll, Act.put, List.setIfInBounds_toArray, List.set_cons_zero, List.set_cons_succ]; rfl)) (hJ2_5 s _ (hF.below h3.below))
      · skip
        refine value_ (w1 := ?_) (v := ?_) (by rfl) rfl ?_ ?_
        rotate_left 2
        · go_simp
          constructor
          · rfl
          · rfl
        refine hK.out _ _ trivial (fun hHeld => ?_)
        clear hK K
        refine norm_ (a' := ?_) ?_ ?_
        rotate_left
        · show Act.put _ (some 7) _ = _
          simp only [Act.put, List.setIfInBounds_toArray, List.set_cons_zero, List.set_cons_succ, i64_w, i32_w]
          rfl
        exact norm_ (by first | (simp only [putAll, Act.put, List.setIfInBounds_toArray, List.set_cons_zero, List.set_cons_succ]; done) | (simp only [putAll, Act.put, List.setIfInBounds_toArray, List.set_cons_zero, List.set_cons_succ]; rfl)) (hJ5_14 (s.1, s.2.1, wx.heap.size) _ hF.opC)
    intro hJ5
    refine join_ (σ := Nat × Nat × Nat) 11 #[false, true, false, false, false, false, true, true, false, false, false, true, false, false, true, false] (fun s => [(7, .pointer (some ⟨s.2.2, 0, none⟩))]) (fun s w' => RtF W0 false false true s w') ?_ ?_
    · skip
      rintro s wx hF
      have hHeld : True := trivial
      refine norm_ (a' := ?_) ?_ ?_
      rotate_left
      · simp only [putAll, Act.put, List.setIfInBounds_toArray, List.set_cons_zero, List.set_cons_succ]
        rfl
      refine three_ (i := 0) (j := 2) (k := 5) (Ni := some 13) (Nj := some 15) (Nk := some 18) #[true, true, false, false, false, false, true, true, false, false, false, true, false, false, true, false] #[false, true, true, false, false, false, true, true, false, false, false, true, false, false, true, false] #[false, true, false, false, false, true, true, true, false, false, false, true, false, false, true, false] rfl rfl rfl rfl rfl rfl (by kernel_rfl) (by decide) (by decide) (by decide) (fun K hK => ?_) (fun K hK => ?_) (fun K hK => ?_)
      · skip
        refine value_ (w1 := ?_) (v := ?_) (by rfl) rfl ?_ ?_
        rotate_left 2
        · go_simp
          constructor
          · rfl
          · rfl
        refine hK.out _ _ trivial (fun hHeld => ?_)
        clear hK K
        refine norm_ (a' := ?_) ?_ ?_
        rotate_left
        · show Act.put _ (some 13) _ = _
          simp only [Act.put, List.setIfInBounds_toArray, List.set_cons_zero, List.set_cons_succ, i64_w, i32_w]
          rfl
        exact norm_ (by first | (simp only [putAll, Act.put, List.setIfInBounds_toArray, List.set_cons_zero, List.set_cons_succ]; done) | (simp only [putAll, Act.put, List.setIfInBounds_toArray, List.set_cons_zero, List.set_cons_succ]; rfl)) (hJ0_14 (wx.heap.size, s.2) _ hF.opA)
      · skip
        refine goes_ Tryz.func22 (by kernel_rfl) rfl #[.int .i64 a0, .int .i64 3] (by rfl) rfl rfl (by simp only [List.map_toArray, List.map_cons, List.map_nil]; rfl) ?_
        with_reducible refine (PB.damperlaw2_within.calls a0 3 k1 _ A1.out).mono ?_
        rintro e w3 ⟨rfl, h3⟩
        refine ⟨_, rfl, ?_⟩
        refine hK.out _ _ trivial (fun hHeld => ?_)
        clear hK K
        refine norm_ (a' := ?_) ?_ ?_
        rotate_left
        · show Act.put _ (some 15) _ = _
          simp only [Act.put, List.setIfInBounds_toArray, List.set_cons_zero, List.set_cons_succ, i64_w, i32_w]
          rfl
        exact norm_ (by first | (simp only [putAll, Act.put, List.setIfInBounds_toArray, List.set_cons_zero, List.set_cons_succ]; done) | (simp only [putAll, Act.put, List.setIfInBounds_toArray, List.set_cons_zero, List.set_cons_succ]; rfl)) (hJ2_14 s _ (hF.below h3.below))
      · skip
        refine value_ (w1 := ?_) (v := ?_) (by rfl) rfl ?_ ?_
        rotate_left 2
        · go_simp
          constructor
          · rfl
          · rfl
        refine hK.out _ _ trivial (fun hHeld => ?_)
        clear hK K
        refine norm_ (a' := ?_) ?_ ?_
        rotate_left
        · show Act.put _ (some 18) _ = _
          simp only [Act.put, List.setIfInBounds_toArray, List.set_cons_zero, List.set_cons_succ, i64_w, i32_w]
          rfl
        exact norm_ (by first | (simp only [putAll, Act.put, List.setIfInBounds_toArray, List.set_cons_zero, List.set_cons_succ]; done) | (simp only [putAll, Act.put, List.setIfInBounds_toArray, List.set_cons_zero, List.set_cons_succ]; rfl)) (hJ5_14 (s.1, wx.heap.size, s.2.2) _ hF.opB)
    intro hJ14
    refine four_ (i := 0) (j := 2) (k := 5) (m := 14) (Ni := some 13) (Nj := some 15) (Nk := some 18) (Nm := some 7) #[true, true, false, false, false, false, true, true, false, false, false, true, false, false, false, false] #[false, true, true, false, false, false, true, true, false, false, false, true, false, false, false, false] #[false, true, false, false, false, true, true, true, false, false, false, true, false, false, false, false] #[false, true, false, false, false, false, true, true, false, false, false, true, false, false, true, false] rfl rfl rfl rfl rfl rfl rfl rfl (by kernel_rfl) (by decide) (by decide) (by decide) (by decide) (fun K hK => ?_) (fun K hK => ?_) (fun K hK => ?_) (fun K hK => ?_)
    · skip
      refine value_ (w1 := ?_) (v := ?_) (by rfl) rfl ?_ ?_
      rotate_left 2
      · go_simp
        constructor
        · rfl
        · rfl
      refine hK.out _ _ trivial (fun hHeld => ?_)
      clear hK K
      refine norm_ (a' := ?_) ?_ ?_
      rotate_left
      · show Act.put _ (some 13) _ = _
        simp only [Act.put, List.setIfInBounds_toArray, List.set_cons_zero, List.set_cons_succ, i64_w, i32_w]
        rfl
      exact norm_ (by first | (simp only [putAll, Act.put, List.setIfInBounds_toArray, List.set_cons_zero, List.set_cons_succ]; done) | (simp only [putAll, Act.put, List.setIfInBounds_toArray, List.set_cons_zero, List.set_cons_succ]; rfl)) (hJ0 (W0.drew.heap.size, ((0, 0, 0) : Nat × Nat × Nat).2) _ hF0.opA)
    · skip
      refine goes_ Tryz.func22 (by kernel_rfl) rfl #[.int .i64 a0, .int .i64 3] (by rfl) rfl rfl (by simp only [List.map_toArray, List.map_cons, List.map_nil]; rfl) ?_
      with_reducible refine (PB.damperlaw2_within.calls a0 3 k1 _ A1.out).mono ?_
      rintro e w3 ⟨rfl, h3⟩
      refine ⟨_, rfl, ?_⟩
      refine hK.out _ _ trivial (fun hHeld => ?_)
      clear hK K
      refine norm_ (a' := ?_) ?_ ?_
      rotate_left
      · show Act.put _ (some 15) _ = _
        simp only [Act.put, List.setIfInBounds_toArray, List.set_cons_zero, List.set_cons_succ, i64_w, i32_w]
        rfl
      exact norm_ (by first | (simp only [putAll, Act.put, List.setIfInBounds_toArray, List.set_cons_zero, List.set_cons_succ]; done) | (simp only [putAll, Act.put, List.setIfInBounds_toArray, List.set_cons_zero, List.set_cons_succ]; rfl)) (hJ2 ((0, 0, 0) : Nat × Nat × Nat) _ (hF0.below h3.below))
    · skip
      refine value_ (w1 := ?_) (v := ?_) (by rfl) rfl ?_ ?_
      rotate_left 2
      · go_simp
        constructor
        · rfl
        · rfl
      refine hK.out _ _ trivial (fun hHeld => ?_)
      clear hK K
      refine norm_ (a' := ?_) ?_ ?_
      rotate_left
      · show Act.put _ (some 18) _ = _
        simp only [Act.put, List.setIfInBounds_toArray, List.set_cons_zero, List.set_cons_succ, i64_w, i32_w]
        rfl
      exact norm_ (by first | (simp only [putAll, Act.put, List.setIfInBounds_toArray, List.set_cons_zero, List.set_cons_succ]; done) | (simp only [putAll, Act.put, List.setIfInBounds_toArray, List.set_cons_zero, List.set_cons_succ]; rfl)) (hJ5 (((0, 0, 0) : Nat × Nat × Nat).1, W0.drew.heap.size, ((0, 0, 0) : Nat × Nat × Nat).2.2) _ hF0.opB)
    · skip
      refine value_ (w1 := ?_) (v := ?_) (by rfl) rfl ?_ ?_
      rotate_left 2
      · go_simp
        constructor
        · rfl
        · rfl
      refine hK.out _ _ trivial (fun hHeld => ?_)
      clear hK K
      refine norm_ (a' := ?_) ?_ ?_
      rotate_left
      · show Act.put _ (some 7) _ = _
        simp only [Act.put, List.setIfInBounds_toArray, List.set_cons_zero, List.set_cons_succ, i64_w, i32_w]
        rfl
      exact norm_ (by first | (simp only [putAll, Act.put, List.setIfInBounds_toArray, List.set_cons_zero, List.set_cons_succ]; done) | (simp only [putAll, Act.put, List.setIfInBounds_toArray, List.set_cons_zero, List.set_cons_succ]; rfl)) (hJ14 (((0, 0, 0) : Nat × Nat × Nat).1, ((0, 0, 0) : Nat × Nat × Nat).2.1, W0.drew.heap.size) _ hF0.opC)
  rintro s wx hF
  have hHeld : True := trivial
  refine norm_ (a' := ?_) ?_ ?_
  rotate_left
  · simp only [putAll, Act.put, List.setIfInBounds_toArray, List.set_cons_zero, List.set_cons_succ]
    rfl
  refine last_ (i := 15) (N := none) #[true, true, true, true, true, true, true, true, true, true, true, true, true, true, true, true] rfl rfl (by kernel_rfl) (by decide) (fun K hK => ?_)
  have kr := (hF.C rfl).1
  have x0 := kr.cell 0
  have x1 := kr.cell 1
  have x2 := kr.cell 2
  have x3 := kr.cell 3
  have f0 := kr.frozen 0
  have f1 := kr.frozen 1
  have f2 := kr.frozen 2
  have f3 := kr.frozen 3
  refine skip_ (w1 := ?_) (by rfl) rfl ?_ ?_
  rotate_left
  · go_simp
    rfl
  refine hK.out _ _ ?_
  clear hK K
  refine done_ (by kernel_rfl) ?_
  obtain ⟨gA, gB, g7⟩ := s
  have hge : W0.heap.size ≤ g7 := (hF.C rfl).2
  have kq : Blk ((((wx.setCell ⟨g7, 0, none⟩ (.string (nA k1))).setCell ⟨g7, 1, none⟩ (.string (nB k2))).setCell ⟨g7, 2, none⟩ (.slice none 0 0)).setCell ⟨g7, 3, none⟩ (.int .i64 (k3 : Int))) g7 #[.string (nA k1), .string (nB k2), .slice none 0 0, .int .i64 (k3 : Int)] 31 := (((kr.set 0 _ rfl).set 1 _ rfl).set 2 _ rfl).set 3 _ rfl
  have bq : Below W0.heap.size W0 ((((wx.setCell ⟨g7, 0, none⟩ (.string (nA k1))).setCell ⟨g7, 1, none⟩ (.string (nB k2))).setCell ⟨g7, 2, none⟩ (.slice none 0 0)).setCell ⟨g7, 3, none⟩ (.int .i64 (k3 : Int))) := (((hF.bl.setCell (p := ⟨g7, 0, none⟩) hge _).setCell (p := ⟨g7, 1, none⟩) hge _).setCell (p := ⟨g7, 2, none⟩) hge _).setCell (p := ⟨g7, 3, none⟩) hge _
  have KQ := Lib.hid kq
  have BQ := Lib.hid bq
  clear kq bq x0 x1 x2 x3 f0 f1 f2 f3 hF kr hF0 hHeld
  go_upto_region 2 with fail
  generalize (((wx.setCell ⟨g7, 0, none⟩ (.string (nA k1))).setCell ⟨g7, 1, none⟩ (.string (nB k2))).setCell ⟨g7, 2, none⟩ (.slice none 0 0)).setCell ⟨g7, 3, none⟩ (.int .i64 (k3 : Int)) = W1 at KQ BQ ⊢
  have k6 : Blk W1 g6 #[.string ⟨#[]⟩, .string ⟨#[]⟩, .slice none 0 0, .int .i64 0] 31 := by
    rw [HG6.out]
    exact G0.out.below BQ.out G0.out.lt
  obtain ⟨b, hb⟩ : ∃ b, b = W0.heap.size := ⟨_, rfl⟩
  have hb6 : g6 < b := by rw [HG6.out, hb]; exact G0.out.lt
  have hg6w : w.heap.size ≤ g6 := Nat.le_of_eq HG6.out.symm
  have hwb : w.heap.size ≤ b := by rw [hb]; exact BW0.out.size
  rw [← hb] at hge
  have RS1 := Lib.hid (show RtS w b g6 g7 #[.string (nA k1), .string (nB k2), .slice none 0 0, .int .i64 (k3 : Int)] (.slice none 0 0) [] W1 from ⟨KQ.out, RowG.nil _ _ _, k6, stepB BW0.out BQ.out⟩)
  have hb1 : b ≤ W1.heap.size := by rw [hb]; exact BQ.out.size
  have hcs := nB_size k2
  have HKK := Lib.hid (show ∃ k, nB k2 = nB k from ⟨k2, rfl⟩)
  generalize nB k2 = cf at RS1 hcs HKK ⊢
  generalize nA k1 = nmr at RS1 ⊢
  generalize (k3 : Int) = rl at RS1 ⊢
  clear k6 KQ BQ hb A1 A2 A3 hk1 hk2 hk1i hk2i G0 BW0 HG6
  go_upto_if 29 with fail
  go_cut [9] from 29 to 34 (fun v9 wx => ∃ n : Nat, 1 ≤ n ∧ n ≤ 6 ∧ v9 = .int .i64 (n : Int) ∧ Hid (Below W1.heap.size W1 wx))
  case first =>
    by_cases hl : 0 < xs.length
    · have hli : (0 : Int) < (xs.length : Int) := by omega
      obtain ⟨gz, oz, rfl, hgz, hce⟩ := int_at HX.out hl
      have e1 : W1.cell? ⟨gz, oz, none⟩ = some (.int .i64 (rd xs 0)) := (RS1.out.bl.cell (p := ⟨gz, oz, none⟩) hgz).trans hce
      clear hce
      generalize rd xs 0 = y at e1
      have hwi := Lib.hid (PB.within2 y 6 (by omega) (by omega))
      have y0 := Int.emod_nonneg y (b := 6) (by omega)
      have y1 := Int.emod_lt_of_pos y (b := 6) (by omega)
      have hld : decide ((0 : Int) < (xs.length : Int)) = true := decide_eq_true hli
      go_wp2_with fail
      refine (PB.damperlaw2_within.calls y 6 (y % 6) _ hwi.out).mono ?_
      rintro e wa ⟨rfl, hda⟩
      have hda := hda.below
      clear hwi e1
      obtain ⟨m, hm⟩ : ∃ m : Nat, y % 6 = (m : Int) := ⟨(y % 6).toNat, by omega⟩
      rw [hm] at y0 y1 ⊢
      clear hm
      go_wp2_with fail
      go_meet
      exact ⟨1 + m, by omega, by omega, by go_num, Lib.hid hda⟩
    · have hl0 : xs.length = 0 := by omega
      go_wp2_with fail
      go_meet
      exact ⟨1, by omega, by omega, rfl, Lib.hid (Below.refl _ _)⟩
  case rest =>
    obtain ⟨n, hn1, hn6, rfl, hbc⟩ := hcut
    have RS2 := Lib.hid (RS1.out.below hbc.out)
    clear RS1 hbc hb1
    go_wp2_with fail
    go_loopw [8, 10] (fun v8 v10 wr => ∃ (i : Nat) (left : Int) (ts : List TgM) (v : Value), i ≤ n ∧ v8 = .int .i64 left ∧ v10 = .int .i64 (i : Int) ∧ Hid (ts.length = i) ∧ Hid (RtL cf left ts) ∧ Hid (i = n → left = 0) ∧ Hid (RtS w b g6 g7 #[.string nmr, .string cf, v, .int .i64 rl] v ts wr)) (fun _ v10 _ => n - (PB.vI v10).toNat)
    case atStart => exact ⟨0, 100, [], _, by omega, rfl, rfl, Lib.hid rfl, Lib.hid (RtL.nil _), Lib.hid (fun e => by omega), RS2⟩
    case round =>
      clear RS2
      obtain ⟨i, left, ts, v, hi, rfl, rfl, HTL, HTS, HL0, RS⟩ := hrel
      have l0 := HTS.out.lo
      have l1 := HTS.out.hi
      by_cases hlt : i < n
      · have hlt' : (i : Int) < (n : Int) := by omega
        clear HL0
        go_upto_if 45 with fail
        go_cut [11] from 45 to 50 (fun v11 wx => ∃ k : Int, v11 = .int .i64 k ∧ Hid (Below wr.heap.size wr wx))
        case first =>
          by_cases hl : (i : Int) + 1 < (xs.length : Int)
          · obtain ⟨gz, oz, rfl, hgz, hce⟩ := int_at HX.out (j := i + 1) (by omega)
            have e1 : wr.cell? ⟨gz, oz + (i + 1), none⟩ = some (.int .i64 (rd xs ((i + 1 : Nat) : Int))) := (RS.out.bl.cell (p := ⟨gz, oz + (i + 1), none⟩) hgz).trans hce
            clear hce
            generalize rd xs ((i + 1 : Nat) : Int) = y at e1
            go_wp2_with fail
            go_meet
            exact ⟨_, rfl, Lib.hid (Below.refl _ _)⟩
          · go_wp2_with fail
            go_meet
            exact ⟨_, rfl, Lib.hid (Below.refl _ _)⟩
        case rest =>
          obtain ⟨k, rfl, hbc⟩ := hcut
          have RSc := Lib.hid (RS.out.below hbc.out)
          clear RS hbc
          have hwi := Lib.hid (PB.within2 k (left + 1) (by omega) (by omega))
          have p0 := Int.emod_nonneg k (b := left + 1) (by omega)
          have p1 := Int.emod_lt_of_pos k (b := left + 1) (by omega)
          go_wp2_with fail
          refine (PB.damperlaw2_within.calls k (left + 1) (k % (left + 1)) _ hwi.out).mono ?_
          rintro e wa ⟨rfl, hda⟩
          have RSa := Lib.hid (RSc.out.below hda.below)
          clear hwi hda RSc
          generalize k % (left + 1) = p at p0 p1 ⊢
          obtain ⟨gt, hgt⟩ : ∃ gt, gt = wa.heap.size := ⟨_, rfl⟩
          obtain ⟨W2, hW2⟩ : ∃ W2, W2 = wa.alloc (.cells #[.string ⟨#[]⟩, .string ⟨#[]⟩, .int .i64 p] 70) := ⟨_, rfl⟩
          have KT := Lib.hid (show Blk W2 gt #[.string ⟨#[]⟩, .string ⟨#[]⟩, .int .i64 p] 70 from by rw [hW2, hgt]; exact Blk.new _ _ _)
          have BT := Lib.hid (show Below gt wa W2 from by rw [hW2, hgt]; exact (Below.refl _ _).alloc (Nat.le_refl _) _)
          have HGT := Lib.hid hgt
          go_upto_if 59 with fail
          rw [← hW2, ← hgt]
          clear hW2 hgt
          go_cut [] from 59 to 61 (fun wx => ∃ p' : Int, 0 ≤ p' ∧ p' ≤ left ∧ Hid (i + 1 = n → p' = left) ∧ Hid (Blk wx gt #[.string ⟨#[]⟩, .string ⟨#[]⟩, .int .i64 p'] 70) ∧ Hid (Below gt wa wx))
          case first =>
            by_cases hlast : i + 1 = n
            · have hq : ((i : Int) == (n : Int) - 1) = true := by rw [beq_iff_eq]; omega
              have x2 := KT.out.cell 2
              have f2 := KT.out.frozen 2
              simp only [List.getElem?_toArray, List.getElem?_cons_zero, List.getElem?_cons_succ] at x2
              go_wp2_with fail
              go_meet
              exact ⟨left, l0, by omega, Lib.hid (fun _ => rfl), Lib.hid (KT.out.set 2 _ rfl), Lib.hid (BT.out.setCell (p := ⟨gt, 2, none⟩) (Nat.le_refl _) _)⟩
            · have hq : ((i : Int) == (n : Int) - 1) = false := by rw [beq_eq_false_iff_ne]; omega
              go_wp2_with fail
              go_meet
              exact ⟨p, p0, by omega, Lib.hid (fun e => absurd e hlast), KT, BT⟩
          case rest =>
            obtain ⟨p', s0, s1, HP, KT2, BT2⟩ := hcut
            clear KT BT p0 p1
            obtain ⟨q, hq⟩ : ∃ q, q = IntKind.i64.wrap (k.tdiv 101) := ⟨_, rfl⟩
            have hqs := hq.symm
            have hwi := Lib.hid (PB.within2 q 3 (by omega) (by omega))
            have r0 := Int.emod_nonneg q (b := 3) (by omega)
            clear hq
            have RSb := Lib.hid (RSa.out.below (show Below wa.heap.size wa _ from HGT.out ▸ BT2.out))
            go_wp2_with fail
            refine (PB.damperlaw2_within.calls q 3 (q % 3) _ hwi.out).mono ?_
            rintro e wb ⟨rfl, hdb⟩
            have hdb := hdb.below
            have KT3 := Lib.hid (KT2.out.below hdb KT2.out.lt)
            have BT3 := Lib.hid (BT2.out.trans (hdb.mono (by have := KT2.out.lt; omega)))
            clear hwi KT2 BT2 hdb hqs
            generalize q % 3 = r at r0 ⊢
            go_upto_if 65 with fail
            go_cut [] from 65 to 77 (fun wx => ∃ rv : ByteArray, Hid (RevForm cf rv) ∧ Hid (Blk wx gt #[.string rv, .string ⟨#[]⟩, .int .i64 p'] 70) ∧ Hid (Below gt wa wx))
            case first =>
              by_cases hr : 0 < r
              · have hrd : decide (0 < r) = true := decide_eq_true hr
                obtain ⟨q2, hq2⟩ : ∃ q2, q2 = IntKind.i64.wrap (k.tdiv 303) := ⟨_, rfl⟩
                have hqs := hq2.symm
                obtain ⟨d, hd⟩ : ∃ d : Nat, q2 % 4 = (d : Int) := ⟨(q2 % 4).toNat, by omega⟩
                have hd4 : d < 4 := by omega
                have hwi := Lib.hid (show PB.damperlaw2_within.f q2 4 = some (d : Int) from by rw [← hd]; exact PB.within2 q2 4 (by omega) (by omega))
                clear hq2 hd
                obtain ⟨u, hu⟩ : ∃ u : UInt8, u = UInt8.ofNat (49 + d) := ⟨_, rfl⟩
                have hun : (u.toNat : Int) = 49 + (d : Int) := by
                  rw [hu, UInt8.toNat_ofNat']
                  omega
                have HU := Lib.hid hu
                have hwv : IntKind.i64.wrap (49 + (d : Int)) = 49 + (d : Int) := IntWalk.i64_in _ (by omega)
                have hwu : IntKind.u8.wrap (49 + (d : Int)) = (u.toNat : Int) := by
                  rw [hun]
                  exact IntWalk.u8_in _ (by omega)
                clear hu hun
                have hz1 : ¬ 9223372036854775807 < cf.size + 1 := by omega
                have hz2 : ¬ 9223372036854775807 < cf.size + 1 + 1 := by omega
                have dr := (Below.refl wb.heap.size wb).drew
                have KTd := Lib.hid (KT3.out.below dr KT3.out.lt)
                have hlt3 : gt ≤ wb.heap.size := by have := KT3.out.lt; omega
                have BTd := Lib.hid (BT3.out.trans (dr.mono hlt3))
                have RSd := Lib.hid (RSa.out.below (show Below wa.heap.size wa _ from HGT.out ▸ BTd.out))
                clear dr
                go_wp2_with fail
                refine start_ (n := 13) (S := fun w' => w'.cell? ⟨g7, 1, none⟩ = some (.string cf)) (ds := [12]) #[false, false, false, false, false, false, false, false, false, false, false, false, false] (by kernel_rfl) rfl rfl (RSd.out.k7.cell 1) (fun hHeld => ?_)
                refine pure_ (i := 0) (N := some 66) (v := ?_) (a' := ?_) #[true, false, false, false, false, false, false, false, false, false, false, false, false] rfl rfl (by kernel_rfl) (fun _ _ _ h => h) (Or.inl ⟨by rfl, ?_⟩) ?_ ?_
                rotate_left
                · intro w'
                  go_simp
                  with_reducible rfl
                rotate_left
                · simp only [Act.put, List.setIfInBounds_toArray, List.set_cons_zero, List.set_cons_succ]
                  rfl
                refine pure_ (i := 3) (N := some 69) (v := ?_) (a' := ?_) #[true, false, false, true, false, false, false, false, false, false, false, false, false] rfl rfl (by kernel_rfl) (fun _ _ _ h => h) (Or.inl ⟨by rfl, ?_⟩) ?_ ?_
                rotate_left
                · intro w'
                  go_simp
                  with_reducible rfl
                rotate_left
                · simp only [Act.put, List.setIfInBounds_toArray, List.set_cons_zero, List.set_cons_succ]
                  rfl
                refine pure_ (i := 4) (N := some 70) (v := ?_) (a' := ?_) #[true, false, false, true, true, false, false, false, false, false, false, false, false] rfl rfl (by kernel_rfl) (fun _ _ _ h => h) (Or.inl ⟨by rfl, ?_⟩) ?_ ?_
                rotate_left
                · intro w'
                  go_simp
                  with_reducible rfl
                rotate_left
                · simp only [Act.put, List.setIfInBounds_toArray, List.set_cons_zero, List.set_cons_succ]
                  rfl
                refine take_ (i := 1) (N := some 67) (v := ?_) (a' := ?_) #[true, true, false, true, true, false, false, false, false, false, false, false, false] rfl rfl (by kernel_rfl) (fun _ _ _ h => h) (Or.inl ⟨by rfl, ?_⟩) hHeld ?_ ?_
                rotate_left
                · intro w' s0
                  go_simp
                  with_reducible rfl
                rotate_left
                · simp only [Act.put, List.setIfInBounds_toArray, List.set_cons_zero, List.set_cons_succ]
                  rfl
                refine pure_ (i := 2) (N := some 68) (v := ?_) (a' := ?_) #[true, true, true, true, true, false, false, false, false, false, false, false, false] rfl rfl (by kernel_rfl) (fun _ _ _ h => h) (Or.inl ⟨by rfl, ?_⟩) ?_ ?_
                rotate_left
                · intro w'
                  go_simp
                  with_reducible rfl
                rotate_left
                · simp only [Act.put, List.setIfInBounds_toArray, List.set_cons_zero, List.set_cons_succ]
                  rfl
                refine one_ (i := 5) (N := some 71) #[true, true, true, true, true, true, false, false, false, false, false, false, false] rfl rfl (by kernel_rfl) (by decide) (fun K hK => ?_)
                refine goes_ Tryz.func22 (by kernel_rfl) rfl #[.int .i64 q2, .int .i64 4] (by rfl) rfl rfl (by simp only [List.map_toArray, List.map_cons, List.map_nil]; rfl) ?_
                with_reducible refine (PB.damperlaw2_within.calls q2 4 d _ hwi.out).mono ?_
                rintro e w5 ⟨rfl, hd5⟩
                have hd5 := hd5.below
                have hl5 : gt ≤ w5.heap.size := by have := hd5.size; have := KTd.out.lt; omega
                have KT5 := Lib.hid (KTd.out.below hd5 KTd.out.lt)
                have BT5 := Lib.hid (BTd.out.trans (hd5.mono (by have := KTd.out.lt; omega)))
                have RS5 := Lib.hid (RSd.out.below hd5)
                clear hd5
                refine ⟨_, rfl, ?_⟩
                refine hK.out _ _ (RS5.out.k7.cell 1) (fun hHeld => ?_)
                clear hK K
                refine norm_ (a' := ?_) ?_ ?_
                rotate_left
                · show Act.put _ (some 71) _ = _
                  simp only [Act.put, List.setIfInBounds_toArray, List.set_cons_zero, List.set_cons_succ]
                  rfl
                refine pure_ (i := 6) (N := some 72) (v := ?_) (a' := ?_) #[true, true, true, true, true, true, true, false, false, false, false, false, false] rfl rfl (by kernel_rfl) (fun _ _ _ h => h) (Or.inl ⟨by rfl, ?_⟩) ?_ ?_
                rotate_left
                · intro w'
                  go_simp
                  with_reducible rfl
                rotate_left
                · simp only [Act.put, List.setIfInBounds_toArray, List.set_cons_zero, List.set_cons_succ]
                  rfl
                refine pure_ (i := 7) (N := some 73) (v := ?_) (a' := ?_) #[true, true, true, true, true, true, true, true, false, false, false, false, false] rfl rfl (by kernel_rfl) (fun _ _ _ h => h) (Or.inl ⟨by rfl, ?_⟩) ?_ ?_
                rotate_left
                · intro w'
                  go_simp
                  with_reducible rfl
                rotate_left
                · simp only [Act.put, List.setIfInBounds_toArray, List.set_cons_zero, List.set_cons_succ]
                  rfl
                refine one_ (i := 8) (N := some 74) #[true, true, true, true, true, true, true, true, true, false, false, false, false] rfl rfl (by kernel_rfl) (by decide) (fun K hK => ?_)
                refine value_ (w1 := ?_) (v := ?_) (by rfl) rfl ?_ ?_
                rotate_left 2
                · go_simp
                  constructor
                  · rfl
                  · rfl
                obtain ⟨g8, w8, hw8, hg8, hs8, b8⟩ := hold_byte w5 (u.toNat : Int)
                rw [← hw8, ← hg8]
                clear hw8 hg8
                have KT8 := Lib.hid (KT5.out.below b8 KT5.out.lt)
                have BT8 := Lib.hid (BT5.out.trans (b8.mono hl5))
                have RS8 := Lib.hid (RS5.out.below b8)
                clear b8
                refine hK.out _ _ (RS8.out.k7.cell 1) (fun hHeld => ?_)
                clear hK K
                refine norm_ (a' := ?_) ?_ ?_
                rotate_left
                · show Act.put _ (some 74) _ = _
                  simp only [Act.put, List.setIfInBounds_toArray, List.set_cons_zero, List.set_cons_succ]
                  rfl
                refine one_ (i := 9) (N := some 75) #[true, true, true, true, true, true, true, true, true, true, false, false, false] rfl rfl (by kernel_rfl) (by decide) (fun K hK => ?_)
                have hcv := conv1 hs8
                refine value_ (w1 := ?_) (v := ?_) (by rfl) rfl ?_ ?_
                rotate_left 2
                · go_simp
                  constructor
                  · rfl
                  · rfl
                refine hK.out _ _ (hHeld) (fun hHeld => ?_)
                clear hK K
                refine norm_ (a' := ?_) ?_ ?_
                rotate_left
                · show Act.put _ (some 75) _ = _
                  simp only [Act.put, List.setIfInBounds_toArray, List.set_cons_zero, List.set_cons_succ]
                  rfl
                refine pure_ (i := 10) (N := some 76) (v := ?_) (a' := ?_) #[true, true, true, true, true, true, true, true, true, true, true, false, false] rfl rfl (by kernel_rfl) (fun _ _ _ h => h) (Or.inl ⟨by rfl, ?_⟩) ?_ ?_
                rotate_left
                · intro w'
                  go_simp
                  with_reducible rfl
                rotate_left
                · simp only [Act.put, List.setIfInBounds_toArray, List.set_cons_zero, List.set_cons_succ]
                  rfl
                refine pure_ (i := 11) (N := some 77) (v := ?_) (a' := ?_) #[true, true, true, true, true, true, true, true, true, true, true, true, false] rfl rfl (by kernel_rfl) (fun _ _ _ h => h) (Or.inl ⟨by rfl, ?_⟩) ?_ ?_
                rotate_left
                · intro w'
                  go_simp
                  with_reducible rfl
                rotate_left
                · simp only [Act.put, List.setIfInBounds_toArray, List.set_cons_zero, List.set_cons_succ]
                  rfl
                refine last_ (i := 12) (N := none) #[true, true, true, true, true, true, true, true, true, true, true, true, true] rfl rfl (by kernel_rfl) (by decide) (fun K hK => ?_)
                have x0 := KT8.out.cell 0
                have f0 := KT8.out.frozen 0
                simp only [List.getElem?_toArray, List.getElem?_cons_zero, List.getElem?_cons_succ] at x0
                refine skip_ (w1 := ?_) (by rfl) rfl ?_ ?_
                rotate_left
                · go_simp
                  rfl
                refine hK.out _ _ ?_
                clear hK K
                refine done_ (by kernel_rfl) ?_
                go_wp2_with fail
                go_meet
                exact ⟨cf ++ ⟨#[45]⟩ ++ ⟨#[u]⟩, Lib.hid (.inr ⟨d, hd4, by rw [HU.out]⟩), Lib.hid (KT8.out.set 0 _ rfl), Lib.hid (BT8.out.setCell (p := ⟨gt, 0, none⟩) (Nat.le_refl _) _)⟩
              · have hrd : decide (0 < r) = false := decide_eq_false hr
                go_wp2_with fail
                go_meet
                exact ⟨⟨#[]⟩, Lib.hid (.inl rfl), KT3, BT3⟩
            case rest =>
              obtain ⟨rv, HRV, KT4, BT4⟩ := hcut
              clear KT3 BT3 r0
              obtain ⟨q, hq⟩ : ∃ q, q = IntKind.i64.wrap (k.tdiv 1212) := ⟨_, rfl⟩
              have hqs := hq.symm
              have hwi := Lib.hid (PB.within2 q 3 (by omega) (by omega))
              clear hq
              go_wp2_with fail
              refine (PB.damperlaw2_within.calls q 3 (q % 3) _ hwi.out).mono ?_
              rintro e wb ⟨rfl, hdb⟩
              have hdb := hdb.below
              have KT5 := Lib.hid (KT4.out.below hdb KT4.out.lt)
              have BT5 := Lib.hid (BT4.out.trans (hdb.mono (by have := KT4.out.lt; omega)))
              clear hwi KT4 BT4 hdb hqs
              generalize q % 3 = r
              go_upto_if 81 with fail
              go_cut [] from 81 to 88 (fun wx => ∃ tg : ByteArray, Hid (TagForm i tg) ∧ Hid (Blk wx gt #[.string rv, .string tg, .int .i64 p'] 70) ∧ Hid (Below gt wa wx))
              case first =>
                by_cases hr : r = 0
                · have hrd : (r == 0) = true := by rw [hr]; rfl
                  obtain ⟨u, hu⟩ : ∃ u : UInt8, u = UInt8.ofNat (48 + i) := ⟨_, rfl⟩
                  have hun : (u.toNat : Int) = 48 + (i : Int) := by
                    rw [hu, UInt8.toNat_ofNat']
                    omega
                  have HU := Lib.hid hu
                  have hwv : IntKind.i64.wrap (48 + (i : Int)) = 48 + (i : Int) := IntWalk.i64_in _ (by omega)
                  have hwu : IntKind.u8.wrap (48 + (i : Int)) = (u.toNat : Int) := by
                    rw [hun]
                    exact IntWalk.u8_in _ (by omega)
                  clear hu hun hr
                  have hcv := conv1 (byte_cell wb (u.toNat : Int))
                  have bb : Below wb.heap.size wb (wb.alloc (.cells #[.int .u8 (u.toNat : Int)] 5)) := (Below.refl _ _).alloc (Nat.le_refl _) _
                  have KT6 := Lib.hid (KT5.out.below bb KT5.out.lt)
                  have BT6 := Lib.hid (BT5.out.trans (bb.mono (by have := KT5.out.lt; omega)))
                  have x1 := KT6.out.cell 1
                  have f1 := KT6.out.frozen 1
                  simp only [List.getElem?_toArray, List.getElem?_cons_zero, List.getElem?_cons_succ] at x1
                  clear bb
                  go_wp2_with fail
                  go_meet
                  exact ⟨⟨#[116]⟩ ++ ⟨#[u]⟩, Lib.hid (.inr (by rw [HU.out])), Lib.hid (KT6.out.set 1 _ rfl), Lib.hid (BT6.out.setCell (p := ⟨gt, 1, none⟩) (Nat.le_refl _) _)⟩
                · have hrd : (r == 0) = false := by rw [beq_eq_false_iff_ne]; exact hr
                  go_wp2_with fail
                  go_meet
                  exact ⟨⟨#[]⟩, Lib.hid (.inl rfl), KT5, BT5⟩
              case rest =>
                obtain ⟨tg, HTG, KT6, BT6⟩ := hcut
                clear KT5 BT5
                have RS6 := Lib.hid (RSa.out.below (show Below wa.heap.size wa wc from HGT.out ▸ BT6.out))
                have hb6c : b ≤ wc.heap.size := by have := RS6.out.k7.lt; omega
                have t0 := KT6.out.cell 0
                have t1 := KT6.out.cell 1
                have t2 := KT6.out.cell 2
                simp only [List.getElem?_toArray, List.getElem?_cons_zero, List.getElem?_cons_succ] at t0 t1 t2
                have hrow := RS6.out.row
                obtain ⟨vA, vc, rfl, _⟩ := hrow.shape
                have k7 := RS6.out.k7
                have k6 := RS6.out.k6
                have bl6 := RS6.out.bl
                obtain ⟨m, hm⟩ : ∃ m, m = ts.length := ⟨_, rfl⟩
                rw [← hm] at hrow k7
                have HM := Lib.hid hm
                have HLN := Lib.hid (show ts.length ≤ 1000000 from by rw [HTL.out]; omega)
                have hmi : m = i := by rw [hm, HTL.out]
                have HMI := Lib.hid hmi
                clear hm hmi
                have b8 : Below wc.heap.size wc (wc.alloc (.cells #[.string rv, .string tg, .int .i64 p'] 70)) := (Below.refl _ _).alloc (Nat.le_refl _) _
                have KW := Lib.hid (SrcG.one (E := elTg) (x := ⟨rv, tg, p'⟩) (Blk.new wc #[.string rv, .string tg, .int .i64 p'] 70))
                have HR8 := Lib.hid (RowG.below hrow b8 (Nat.le_refl _))
                have K78 := Lib.hid (k7.below b8 k7.lt)
                have K68 := Lib.hid (k6.below b8 k6.lt)
                have BL8 := Lib.hid (stepB bl6 b8)
                have HZ8 := Lib.hid (Nat.le_trans hb6c b8.size)
                have q2 := k7.cell 2
                simp only [List.getElem?_toArray, List.getElem?_cons_zero, List.getElem?_cons_succ] at q2
                clear b8 hrow k7 k6 bl6 RS6 RSa
                go_wp2_with (at_builtin; refine list_appN elTg _ rfl (.tmp 94) (.tmp 96) rfl b (.slice vA m vc) ts (by rfl) HR8.out (some ⟨wc.heap.size, 0, none⟩) 1 1 [⟨rv, tg, p'⟩] (by rfl) rfl KW.out HLN.out (by omega) HZ8.out ?_; intro v9 w9 r9 c9 o9; obtain ⟨A1, n1, rfl, hn1, _⟩ := r9.shape; obtain ⟨m9, hm9⟩ : ∃ m9 : Nat, m9 = (ts ++ [(⟨rv, tg, p'⟩ : TgM)]).length := ⟨_, rfl⟩; rw [← hm9] at r9 hn1 ⊢; have HM9 := Lib.hid hm9; clear hm9; have k9 := K78.out.chg c9 (fun e => by obtain ⟨_, cs, hk⟩ := PB.own_at HR8.out e; exact PB.blk_neT hk K78.out (by decide) rfl); have e1 := k9.cell 2; simp only [List.getElem?_toArray, List.getElem?_cons_zero, List.getElem?_cons_succ] at e1; have f1 := k9.frozen 2)
                have k6' := K68.out.chg c9 (fun e => by obtain ⟨_, cs, hk⟩ := PB.own_at HR8.out e; exact PB.blk_neT hk K68.out (by decide) rfl)
                have kq := k9.set 2 (.slice A1 m9 n1) (cs' := #[.string nmr, .string cf, .slice A1 m9 n1, .int .i64 rl]) rfl
                have cq : Chg (fun k => k = g7) w9 (w9.setCell ⟨g7, 2, none⟩ (.slice A1 m9 n1)) := (Chg.refl (fun k => k = g7) w9).setCell (a := ⟨g7, 2, none⟩) (fun _ => rfl) _
                have R9 := PB.RowG.keep r9 cq (fun k cs hk e => by subst e; exact PB.blk_neT hk k9 (by decide) rfl)
                have K6' := k6'.chg cq (by omega)
                have bl9 := c9.below_of BL8.out BL8.out.size (fun k hk e => by have := (PB.own_at HR8.out e).1; omega)
                have BL9 := bl9.setCell (p := ⟨g7, 2, none⟩) (by show w.heap.size ≤ g7; omega) (.slice A1 m9 n1)
                have RS9 := Lib.hid (show RtS w b g6 g7 #[.string nmr, .string cf, .slice A1 m9 n1, .int .i64 rl] (.slice A1 m9 n1) (ts ++ [⟨rv, tg, p'⟩]) _ from ⟨kq, R9, K6', BL9⟩)
                have HTS9 := Lib.hid (HTS.out.snoc s0 s1 HRV.out (by rw [HTL.out]; exact HTG.out))
                have HL9 := Lib.hid (show i + 1 = n → left - p' = 0 from fun e => by have := HP.out e; omega)
                have HTL9 := Lib.hid (show (ts ++ [(⟨rv, tg, p'⟩ : TgM)]).length = i + 1 from by rw [List.length_append, HTL.out]; rfl)
                clear k6' kq cq R9 K6' bl9 BL9 k9 e1 f1 r9 c9 o9 hn1 t0 t1 t2 q2
                go_wp2_with fail
                go_roundw
                case rel => exact ⟨i + 1, left - p', ts ++ [⟨rv, tg, p'⟩], _, by omega, rfl, by go_num, HTL9, HTS9, HL9, RS9⟩
                case measure => simp [PB.vI]; omega
      · obtain rfl : i = n := by omega
        have hl := HL0.out rfl
        subst hl
        have k7 := RS.out.k7
        have k6 := RS.out.k6
        have hrow := RS.out.row
        have bl := RS.out.bl
        obtain ⟨vA, vc, rfl, _⟩ := hrow.shape
        obtain ⟨m, hm⟩ : ∃ m, m = ts.length := ⟨_, rfl⟩
        rw [← hm] at hrow k7
        have HM := Lib.hid hm
        clear hm
        have y0 := k7.cell 0
        have y1 := k7.cell 1
        have y2 := k7.cell 2
        have y3 := k7.cell 3
        have x0 := k6.cell 0
        have x1 := k6.cell 1
        have x2 := k6.cell 2
        have x3 := k6.cell 3
        have f0 := k6.frozen 0
        have f1 := k6.frozen 1
        have f2 := k6.frozen 2
        have f3 := k6.frozen 3
        simp only [List.getElem?_toArray, List.getElem?_cons_zero, List.getElem?_cons_succ] at x0 x1 x2 x3 y0 y1 y2 y3
        have kq : Blk ((((wr.setCell ⟨g6, 0, none⟩ (.string nmr)).setCell ⟨g6, 1, none⟩ (.string cf)).setCell ⟨g6, 2, none⟩ (.slice vA m vc)).setCell ⟨g6, 3, none⟩ (.int .i64 rl)) g6 #[.string nmr, .string cf, .slice vA m vc, .int .i64 rl] 31 := (((k6.set 0 _ rfl).set 1 _ rfl).set 2 _ rfl).set 3 _ rfl
        have cq : Chg (fun k => k = g6) wr ((((wr.setCell ⟨g6, 0, none⟩ (.string nmr)).setCell ⟨g6, 1, none⟩ (.string cf)).setCell ⟨g6, 2, none⟩ (.slice vA m vc)).setCell ⟨g6, 3, none⟩ (.int .i64 rl)) := ((((Chg.refl (fun k => k = g6) wr).setCell (a := ⟨g6, 0, none⟩) (fun _ => rfl) _).setCell (a := ⟨g6, 1, none⟩) (fun _ => rfl) _).setCell (a := ⟨g6, 2, none⟩) (fun _ => rfl) _).setCell (a := ⟨g6, 3, none⟩) (fun _ => rfl) _
        have R9 := Lib.hid (PB.RowG.keep hrow cq (fun k cs hk e => by subst e; exact PB.blk_neT hk k6 (by decide) rfl))
        have BL9 := Lib.hid (cq.below_of bl bl.size (fun k hk e => by omega))
        have KQ := Lib.hid kq
        clear kq cq k7 k6 hrow bl hlt hi HL0 RS
        go_wp2_with fail
        clear x0 x1 x2 x3 y0 y1 y2 y3 f0 f1 f2 f3
        have y0 := KQ.out.cell 0
        have y1 := KQ.out.cell 1
        have y2 := KQ.out.cell 2
        have y3 := KQ.out.cell 3
        simp only [List.getElem?_toArray, List.getElem?_cons_zero, List.getElem?_cons_succ] at y0 y1 y2 y3
        refine bodyPost_ret (v := .agg #[.string nmr, .string cf, .slice vA m vc, .int .i64 rl]) (by simp [results, Tryz.results6, go_sem, y0, y1, y2, y3]) rfl ?_
        obtain ⟨kk, hkk⟩ := HKK.out
        have hm := HM.out
        subst hm
        exact ⟨nmr, cf, rl, vA, vc, ts, kk, rfl, tgs_row R9.out, HTS.out, by rw [HTL.out]; exact hn6, hkk, BL9.out⟩

end Go.Proofs.YtnkmpkhiilnigaaGreatDoor.PR
