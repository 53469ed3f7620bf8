/- PodFills: the walk. -/
import Derived.Test.YtefcchnmgnlanaaPodK
import Derived.Test.YtefcchnmgnlanaaInts
namespace Go.Proofs.Ytefcchnmgnlanaa
open Go.RowKit Go.Maps

theorem wf_small (x : Int) (h0 : 0 ≤ x) (h1 : x ≤ 1000000) : (Lit.int .i64 x).wf = true := WalkArith.wf_i64 (by omega)

theorem take_yes {m : PodM} {x : Int} (h1 : m.st = 2) (h2 : x ∉ m.S) (h3 : (m.S.length : Int) < m.room) : m.take x = (0, { m with S := x :: m.S }) := by
  unfold PodM.take
  rw [if_neg (by simp [h1]), if_neg h2, if_neg (by omega)]
theorem take_full {m : PodM} {x : Int} (h1 : m.st = 2) (h2 : x ∉ m.S) (h3 : m.room ≤ m.S.length) : m.take x = (8, m) := by
  unfold PodM.take
  rw [if_neg (by simp [h1]), if_neg h2, if_pos h3]
theorem take_twice {m : PodM} {x : Int} (h1 : m.st = 2) (h2 : x ∈ m.S) : m.take x = (5, m) := by
  unfold PodM.take
  rw [if_neg (by simp [h1]), if_pos h2]
theorem take_state {m : PodM} {x : Int} (h1 : m.st ≠ 2) : m.take x = (9, m) := by
  unfold PodM.take
  rw [if_pos h1]
theorem fin_other {m : PodM} (h1 : m.st ≠ 3) : m.fin = m := by
  unfold PodM.fin
  rw [if_neg (fun h => h1 h.1)]

/-- S holds just the numbers from 1 to i. -/
def Upto (i : Nat) (S : List Int) : Prop := S.length = i ∧ ∀ x : Int, x ∈ S ↔ 1 ≤ x ∧ x ≤ i
theorem Upto.nil : Upto 0 [] := ⟨rfl, fun x => by simp; omega⟩
theorem Upto.step {i : Nat} {S : List Int} (h : Upto i S) : Upto (i + 1) (((i : Int) + 1) :: S) :=
  ⟨by simp [h.1], fun x => by rw [List.mem_cons, h.2]; omega⟩

theorem Upto.erase {i : Nat} {S : List Int} {q : Int} (h : Upto i S) (h0 : 1 ≤ q) (h1 : q ≤ i) (hn : S.Nodup) :
    (S.erase q).length = i - 1 ∧ q ∉ S.erase q ∧ Upto i (q :: S.erase q) := by
  have hq : q ∈ S := (h.2 _).2 ⟨h0, by omega⟩
  have hl : (S.erase q).length = i - 1 := by rw [List.length_erase_of_mem hq, h.1]
  refine ⟨hl, hn.not_mem_erase, by rw [List.length_cons, hl]; omega, fun x => ?_⟩
  rw [List.mem_cons]
  by_cases e : x = q
  · subst e; simp; omega
  · rw [List.mem_erase_of_ne e, h.2]; simp [e]

set_option maxRecDepth 100000 in
theorem fills_walk (conc : Int) (A : Option Addr) (n cap : Nat) (xs : List Int) (w : World) (hx : Ints w A n xs) :
    Calls Try.prog 3 #[.int .i64 conc, .slice A n cap] w fun e w' => e = .returned (.bool true) ∧ Below w.heap.size w w' := by
  have hroom := hx.room
  go_enter Try.func3, Try.ntmps3
  go_wp2_with fail
  refine (known_calls _).mono ?_
  rintro e w1 ⟨rfl, hb1⟩
  go_wp2_with fail
  refine (within_calls _ _ _ (by omega) (by omega)).mono ?_
  rintro e w2 ⟨rfl, rfl⟩
  have hk0 := Wi.lo (a := conc) (n := 8) (by omega)
  have hk1 := Wi.hi (a := conc) (n := 8) (by omega)
  obtain ⟨K, hK⟩ : ∃ K : Nat, 1 + Wi conc 8 = K := ⟨(1 + Wi conc 8).toNat, by omega⟩
  have hK8 : K ≤ 8 := by omega
  have hK1 : 1 ≤ K := by omega
  have HK := Lib.hid hK
  clear hK
  go_wp2_with fail
  rw [HK.out]
  clear HK hk0 hk1
  refine (new_calls _ _).mono ?_
  rintro e w2 ⟨p, mb, rfl, h2, hp, hm, hb2⟩
  have b2 : Below w.heap.size w w2 := hb1.trans (hb2.mono hb1.size)
  have hp' : w.heap.size ≤ p := Nat.le_trans hb1.size hp
  have hm' : w.heap.size ≤ mb := Nat.le_trans hb1.size hm
  clear hp hm hb1 hb2
  go_wp2_with fail
  have t := up_calls h2
  rw [show PodM.up ⟨1, (K : Int), []⟩ = (0, ⟨2, (K : Int), []⟩) from by simp [PodM.up]] at t
  refine t.mono ?_
  clear t
  rintro e w3 ⟨rfl, h3, hc3⟩
  have b3 := hc3.below_of b2 b2.size (fun k hk hF => by rcases hF with rfl | rfl <;> omega)
  clear hc3 h2 b2
  go_wp2_with fail
  go_loopw [7] (fun v wr => ∃ (i : Nat) (S : List Int), i ≤ K ∧ v = .int .i64 ((i : Int) + 1) ∧ Hid (Upto i S) ∧ PodAt wr p mb ⟨2, (K : Int), S⟩ ∧ Below w.heap.size w wr) (fun v _ => K + 2 - (vInt v).toNat)
  case atStart => exact ⟨0, [], by omega, by simp, Upto.nil, h3, b3⟩
  case round =>
    obtain ⟨i, S, hi, rfl, hS, hp1, hb⟩ := hrel
    by_cases hlt : i < K
    · go_wp2_with fail
      have t := take_calls hp1 ((i : Int) + 1) (wf_small _ (by omega) (by omega)) (by have := hS.out.1; simp; omega)
      rw [show PodM.take ⟨2, (K : Int), S⟩ ((i : Int) + 1) = (0, ⟨2, (K : Int), ((i : Int) + 1) :: S⟩) from by
        have h1 := hS.out.1
        exact take_yes rfl (fun h => by have := (hS.out.2 _).1 h; omega) (by simp; omega)] at t
      refine t.mono ?_
      clear t
      rintro e w4 ⟨rfl, h4, hc4⟩
      have b4 := hc4.below_of hb hb.size (fun k hk hF => by rcases hF with rfl | rfl <;> omega)
      clear hc4 hp1 hb
      go_wp2_with fail
      go_roundw
      case rel => exact ⟨i + 1, _, by omega, by go_num, hS.out.step, h4, b4⟩
      case measure => simp [vInt]; omega
    · obtain rfl : K = i := by omega
      go_wp2_with fail
      have p0 := hS.out
      clear hS
      have P0 := Lib.hid p0; clear p0
      go_loopw [8] (fun v wr => ∃ (j : Nat) (S : List Int), j ≤ n ∧ v = .int .i64 j ∧ Hid (Upto K S) ∧ PodAt wr p mb ⟨2, (K : Int), S⟩ ∧ Below w.heap.size w wr) (fun v _ => n - (vInt v).toNat)
      case atStart => exact ⟨0, S, by omega, rfl, P0, hp1, hb⟩
      case round =>
        obtain ⟨j, S, hj, rfl, hS, hp1, hb⟩ := hrel
        by_cases hlt : j < n
        · by_cases h40 : j < 40
          · obtain ⟨b, o, rfl, hbl, hcell⟩ := hx.at_ (by omega)
            have hc := (hb.cell (p := ⟨b, o + j, none⟩) hbl).trans (hcell j hlt)
            clear hcell
            go_wp2_with fail
            refine (within_calls _ _ _ (by omega) (by omega)).mono ?_
            rintro e w4 ⟨rfl, rfl⟩
            have hi0 := Wi.lo (a := xs[j]?.getD 0) (n := (K : Int)) (by omega)
            have hi1 := Wi.hi (a := xs[j]?.getD 0) (n := (K : Int)) (by omega)
            generalize Wi (xs[j]?.getD 0) ((K : Int)) = q at hi0 hi1 ⊢
            go_wp2_with fail
            have t := take_calls hp1 99 (by decide) (by have := hS.out.1; simp; omega)
            rw [take_full rfl (fun h => by have := (hS.out.2 _).1 h; omega) (by have := hS.out.1; simp; omega)] at t
            refine t.mono ?_
            clear t
            rintro e w4 ⟨rfl, h4, hc4⟩
            have b4 := hc4.below_of hb hb.size (fun k hk hF => by rcases hF with rfl | rfl <;> omega)
            clear hc4 hp1 hb
            go_wp2_with fail
            have t := give_calls h4 (1 + q) (wf_small _ (by omega) (by omega))
            rw [show PodM.give ⟨2, (K : Int), S⟩ (1 + q) = (0, ⟨2, (K : Int), S.erase (1 + q)⟩) from by unfold PodM.give; rw [if_pos ((hS.out.2 _).2 (by omega)), fin_other (by simp)]] at t
            refine t.mono ?_
            clear t
            rintro e w5 ⟨rfl, h5, hc5⟩
            have b5 := hc5.below_of b4 b4.size (fun k hk hF => by rcases hF with rfl | rfl <;> omega)
            have hnd := h4.set.nodup
            clear hc5 h4 b4
            go_wp2_with fail
            have t := give_calls h5 (1 + q) (wf_small _ (by omega) (by omega))
            rw [show PodM.give ⟨2, (K : Int), S.erase (1 + q)⟩ (1 + q) = (6, ⟨2, (K : Int), S.erase (1 + q)⟩) from by unfold PodM.give; rw [if_neg hnd.not_mem_erase, fin_other (by simp)]] at t
            refine t.mono ?_
            clear t
            rintro e w6 ⟨rfl, h6, hc6⟩
            have b6 := hc6.below_of b5 b5.size (fun k hk hF => by rcases hF with rfl | rfl <;> omega)
            clear hc6 h5 b5
            have hS2 := Lib.hid (hS.out.erase (q := 1 + q) (by omega) (by omega) hnd)
            clear hS hnd
            generalize S.erase (1 + q) = S2 at h6 hS2
            go_wp2_with fail
            refine (load_calls h6).mono ?_
            rintro e w7 ⟨rfl, rfl⟩
            rw [show (S2.length : Int) = K - 1 from by have := hS2.out.1; omega]
            go_wp2_with fail
            have t := take_calls h6 (1 + q) (wf_small _ (by omega) (by omega)) (by have := hS2.out.1; simp; omega)
            rw [take_yes rfl hS2.out.2.1 (by have := hS2.out.1; simp; omega)] at t
            refine t.mono ?_
            clear t
            rintro e w8 ⟨rfl, h8, hc8⟩
            have b8 := hc8.below_of b6 b6.size (fun k hk hF => by rcases hF with rfl | rfl <;> omega)
            clear hc8 h6 b6
            go_wp2_with fail
            refine (load_calls h8).mono ?_
            rintro e w9 ⟨rfl, rfl⟩
            rw [show (((1 + q) :: S2).length : Int) = K from by rw [List.length_cons, hS2.out.1]; omega]
            go_wp2_with fail
            go_roundw
            case rel => exact ⟨j + 1, _, by omega, by go_num, hS2.out.2.2, h8, b8⟩
            case measure => simp [vInt]; omega
          · go_wp2_with fail
            refine (state_calls hp1).mono ?_
            rintro e w4 ⟨rfl, rfl⟩
            go_wp2_with fail
            go_ret
            exact ⟨rfl, hb⟩
        · go_wp2_with fail
          refine (state_calls hp1).mono ?_
          rintro e w4 ⟨rfl, rfl⟩
          go_wp2_with fail
          go_ret
          exact ⟨rfl, hb⟩

end Go.Proofs.Ytefcchnmgnlanaa
