/- PodDrains: the walk. -/
import Derived.Test.YtefcchnmgnlanaaPodFills
import Derived.Test.YtefcchnmgnlanaaKill
namespace Go.Proofs.Ytefcchnmgnlanaa
open Go.RowKit Go.Maps

/-- A draining pod that has the requests from i + 1 to M, or a dead one. -/
def Rest (i M : Nat) (st : Int) (S : List Int) : Prop := S.length = M - i ∧ (∀ x : Int, x ∈ S ↔ (i : Int) + 1 ≤ x ∧ x ≤ M) ∧ (i < M → st = 3) ∧ (M ≤ i → st = 4)

theorem Rest.of_drain {M : Nat} {S : List Int} (h : Upto M S) (K : Int) : ∃ st, PodM.drain ⟨2, K, S⟩ = (0, ⟨st, K, S⟩) ∧ Rest 0 M st S := by
  by_cases e : M = 0
  · have : S = [] := List.eq_nil_of_length_eq_zero (by rw [h.1, e])
    subst this
    exact ⟨4, by simp [PodM.drain, PodM.fin], by simp [e], fun x => by simp; omega, fun h => by omega, fun _ => rfl⟩
  · have : S ≠ [] := fun hs => e (by rw [← h.1, hs]; rfl)
    exact ⟨3, by simp [PodM.drain, PodM.fin, this], h.1, fun x => by rw [h.2]; omega, fun _ => rfl, fun h => by omega⟩

theorem Rest.give {i M : Nat} {S : List Int} (h : Rest i M 3 S) (hn : S.Nodup) (hi : i < M) (K : Int) : ∃ st, PodM.give ⟨3, K, S⟩ ((i : Int) + 1) = (0, ⟨st, K, S.erase ((i : Int) + 1)⟩) ∧ Rest (i + 1) M st (S.erase ((i : Int) + 1)) := by
  obtain ⟨h1, h2, _, _⟩ := h
  have hm : ((i : Int) + 1) ∈ S := (h2 _).2 ⟨by omega, by omega⟩
  have hl : (S.erase ((i : Int) + 1)).length = M - (i + 1) := by rw [List.length_erase_of_mem hm, h1]; omega
  have hx : ∀ x : Int, x ∈ S.erase ((i : Int) + 1) ↔ ((i + 1 : Nat) : Int) + 1 ≤ x ∧ x ≤ M := fun x => by
    rw [hn.mem_erase_iff, h2]; omega
  by_cases e : M ≤ i + 1
  · have : S.erase ((i : Int) + 1) = [] := List.eq_nil_of_length_eq_zero (by omega)
    exact ⟨4, by simp [PodM.give, PodM.fin, hm, this], hl, hx, fun h => by omega, fun _ => rfl⟩
  · have : S.erase ((i : Int) + 1) ≠ [] := fun hs => by rw [hs] at hl; simp at hl; omega
    exact ⟨3, by simp [PodM.give, PodM.fin, hm, this], hl, hx, fun _ => rfl, fun h => by omega⟩

set_option maxRecDepth 100000 in
theorem drains_walk (conc na : Int) (A : Option Addr) (n cap : Nat) (xs : List Int) (w : World) (hx : Ints w A n xs) :
    Calls Try.prog 7 #[.int .i64 conc, .int .i64 na, .slice A n cap] w fun e w' => e = .returned (.bool true) ∧ Below w.heap.size w w' := by
  have hroom := hx.room
  clear hx
  go_enter Try.func7, Try.ntmps7
  go_wp2_with fail
  refine (known_calls _).mono ?_
  rintro e w1 ⟨rfl, hb1⟩
  go_wp2_with fail
  refine (within_calls _ _ _ (by omega) (by omega)).mono ?_
  rintro e w2 ⟨rfl, rfl⟩
  have hk0 := Wi.lo (a := conc) (n := 8) (by omega)
  have hk1 := Wi.hi (a := conc) (n := 8) (by omega)
  obtain ⟨K, hK⟩ : ∃ K : Nat, 1 + Wi conc 8 = K := ⟨(1 + Wi conc 8).toNat, by omega⟩
  have hK8 : K ≤ 8 := by omega
  have hK1 : 1 ≤ K := by omega
  have HK := Lib.hid hK
  clear hK
  go_wp2_with fail
  rw [HK.out]
  clear HK hk0 hk1
  refine (within_calls _ _ _ (by omega) (by omega)).mono ?_
  rintro e w2 ⟨rfl, rfl⟩
  have hk0 := Wi.lo (a := na) (n := (K : Int) + 1) (by omega)
  have hk1 := Wi.hi (a := na) (n := (K : Int) + 1) (by omega)
  obtain ⟨M, hM⟩ : ∃ M : Nat, Wi na ((K : Int) + 1) = M := ⟨(Wi na ((K : Int) + 1)).toNat, by omega⟩
  have hMK : M ≤ K := by omega
  rw [hM]
  clear hk0 hk1 hM
  go_wp2_with fail
  refine (new_calls _ _).mono ?_
  rintro e w2 ⟨p, mb, rfl, h2, hp, hm, hb2⟩
  have b2 : Below w.heap.size w w2 := hb1.trans (hb2.mono hb1.size)
  have hp' : w.heap.size ≤ p := Nat.le_trans hb1.size hp
  have hm' : w.heap.size ≤ mb := Nat.le_trans hb1.size hm
  clear hp hm hb1 hb2
  go_wp2_with fail
  have t := up_calls h2
  rw [show PodM.up ⟨1, (K : Int), []⟩ = (0, ⟨2, (K : Int), []⟩) from by simp [PodM.up]] at t
  refine t.mono ?_
  clear t
  rintro e w3 ⟨rfl, h3, hc3⟩
  have b3 := hc3.below_of b2 b2.size (fun k hk hF => by rcases hF with rfl | rfl <;> omega)
  clear hc3 h2 b2
  go_wp2_with fail
  go_loopw [10] (fun v wr => ∃ (i : Nat) (S : List Int), i ≤ M ∧ v = .int .i64 ((i : Int) + 1) ∧ Hid (Upto i S) ∧ PodAt wr p mb ⟨2, (K : Int), S⟩ ∧ Below w.heap.size w wr) (fun v _ => M + 2 - (vInt v).toNat)
  case atStart => exact ⟨0, [], by omega, by simp, Upto.nil, h3, b3⟩
  case round =>
    obtain ⟨i, S, hi, rfl, hS, hp1, hb⟩ := hrel
    by_cases hlt : i < M
    · go_wp2_with fail
      have t := take_calls hp1 ((i : Int) + 1) (wf_small _ (by omega) (by omega)) (by have := hS.out.1; simp; omega)
      rw [show PodM.take ⟨2, (K : Int), S⟩ ((i : Int) + 1) = (0, ⟨2, (K : Int), ((i : Int) + 1) :: S⟩) from by
        have h1 := hS.out.1
        exact take_yes rfl (fun h => by have := (hS.out.2 _).1 h; omega) (by simp; omega)] at t
      refine t.mono ?_
      clear t
      rintro e w4 ⟨rfl, h4, hc4⟩
      have b4 := hc4.below_of hb hb.size (fun k hk hF => by rcases hF with rfl | rfl <;> omega)
      clear hc4 hp1 hb
      go_wp2_with fail
      go_roundw
      case rel => exact ⟨i + 1, _, by omega, by go_num, hS.out.step, h4, b4⟩
      case measure => simp [vInt]; omega
    · obtain rfl : M = i := by omega
      go_wp2_with fail
      obtain ⟨st, ed, hR⟩ := Rest.of_drain hS.out (K : Int)
      have t := drain_calls hp1
      rw [ed] at t
      clear ed hS
      refine t.mono ?_
      clear t
      rintro e w4 ⟨rfl, h4, hc4⟩
      have b4 := hc4.below_of hb hb.size (fun k hk hF => by rcases hF with rfl | rfl <;> omega)
      clear hc4 hp1 hb
      have hst : st ≠ 2 := by
        by_cases e : M = 0
        · rw [hR.2.2.2 (by omega)]; decide
        · rw [hR.2.2.1 (by omega)]; decide
      have HR := Lib.hid hR
      have HS := Lib.hid hst
      clear hR hst
      go_wp2_with fail
      have t := take_calls h4 99 (by decide) (by have := HR.out.1; simp; omega)
      rw [take_state HS.out] at t
      refine t.mono ?_
      clear t HS
      rintro e w5 ⟨rfl, h5, hc5⟩
      have b5 := hc5.below_of b4 b4.size (fun k hk hF => by rcases hF with rfl | rfl <;> omega)
      clear hc5 h4 b4
      go_wp2_with fail
      go_loopw [11] (fun v wr => ∃ (i : Nat) (st : Int) (S : List Int), i ≤ M ∧ v = .int .i64 ((i : Int) + 1) ∧ Hid (Rest i M st S) ∧ PodAt wr p mb ⟨st, (K : Int), S⟩ ∧ Below w.heap.size w wr) (fun v _ => M + 2 - (vInt v).toNat)
      case atStart => exact ⟨0, st, S, by omega, by simp, HR, h5, b5⟩
      case round =>
        clear HR h5 b5
        obtain ⟨i, st, S, hi, rfl, hS, hp1, hb⟩ := hrel
        by_cases hlt : i < M
        · obtain rfl : st = 3 := hS.out.2.2.1 hlt
          obtain ⟨st', eg, hR⟩ := hS.out.give hp1.set.nodup hlt (K : Int)
          have HE := Lib.hid eg
          have HR := Lib.hid hR
          clear eg hR
          go_wp2_with fail
          refine (state_calls hp1).mono ?_
          rintro e w6 ⟨rfl, rfl⟩
          go_wp2_with fail
          refine (load_calls hp1).mono ?_
          rintro e w6 ⟨rfl, rfl⟩
          rw [show (S.length : Int) = (M : Int) - ((i : Int) + 1) + 1 from by have := hS.out.1; omega]
          go_wp2_with fail
          have t := drain_calls hp1
          rw [show PodM.drain ⟨3, (K : Int), S⟩ = (9, ⟨3, (K : Int), S⟩) from by simp [PodM.drain]] at t
          refine t.mono ?_
          clear t
          rintro e w7 ⟨rfl, h7, hc7⟩
          have b7 := hc7.below_of hb hb.size (fun k hk hF => by rcases hF with rfl | rfl <;> omega)
          clear hc7 hp1 hb
          go_wp2_with fail
          have t := up_calls h7
          rw [show PodM.up ⟨3, (K : Int), S⟩ = (9, ⟨3, (K : Int), S⟩) from by simp [PodM.up]] at t
          refine t.mono ?_
          clear t
          rintro e w8 ⟨rfl, h8, hc8⟩
          have b8 := hc8.below_of b7 b7.size (fun k hk hF => by rcases hF with rfl | rfl <;> omega)
          clear hc8 h7 b7
          go_wp2_with fail
          have t := give_calls h8 ((i : Int) + 1) (wf_small _ (by omega) (by omega))
          rw [HE.out] at t
          refine t.mono ?_
          clear t HE
          rintro e w9 ⟨rfl, h9, hc9⟩
          have b9 := hc9.below_of b8 b8.size (fun k hk hF => by rcases hF with rfl | rfl <;> omega)
          clear hc9 h8 b8
          go_wp2_with fail
          go_roundw
          case rel => exact ⟨i + 1, _, _, by omega, by go_num, HR, h9, b9⟩
          case measure => simp [vInt]; omega
        · obtain rfl : M = i := by omega
          obtain rfl : st = 4 := hS.out.2.2.2 (by omega)
          obtain rfl : S = [] := List.eq_nil_of_length_eq_zero (by rw [hS.out.1]; omega)
          clear hS
          go_wp2_with fail
          go_loopw [12] (fun v wr => ∃ (i : Nat), i ≤ n ∧ v = .int .i64 i ∧ PodAt wr p mb ⟨4, (K : Int), []⟩ ∧ Below w.heap.size w wr) (fun v _ => n - (vInt v).toNat)
          case atStart => exact ⟨0, by omega, by simp, hp1, hb⟩
          case round =>
            clear hp1 hb
            obtain ⟨j, hj, rfl, hp1, hb⟩ := hrel
            by_cases hlt : j < n
            · by_cases h20 : j < 20
              · go_wp2_with fail
                refine (kill_dead hp1 rfl).mono ?_
                rintro e w7 ⟨rfl, rfl⟩
                go_wp2_with fail
                have t := up_calls hp1
                rw [show PodM.up ⟨4, (K : Int), []⟩ = (9, ⟨4, (K : Int), []⟩) from by simp [PodM.up]] at t
                refine t.mono ?_
                clear t
                rintro e w8 ⟨rfl, h8, hc8⟩
                have b8 := hc8.below_of hb hb.size (fun k hk hF => by rcases hF with rfl | rfl <;> omega)
                clear hc8 hp1 hb
                go_wp2_with fail
                have t := drain_calls h8
                rw [show PodM.drain ⟨4, (K : Int), []⟩ = (9, ⟨4, (K : Int), []⟩) from by simp [PodM.drain]] at t
                refine t.mono ?_
                clear t
                rintro e w9 ⟨rfl, h9, hc9⟩
                have b9 := hc9.below_of b8 b8.size (fun k hk hF => by rcases hF with rfl | rfl <;> omega)
                clear hc9 h8 b8
                go_wp2_with fail
                have t := take_calls h9 1 (by decide) (by simp)
                rw [take_state (by simp)] at t
                refine t.mono ?_
                clear t
                rintro e w10 ⟨rfl, h10, hc10⟩
                have b10 := hc10.below_of b9 b9.size (fun k hk hF => by rcases hF with rfl | rfl <;> omega)
                clear hc10 h9 b9
                go_wp2_with fail
                have t := give_calls h10 1 (by decide)
                rw [show PodM.give ⟨4, (K : Int), []⟩ 1 = (6, ⟨4, (K : Int), []⟩) from by simp [PodM.give, PodM.fin]] at t
                refine t.mono ?_
                clear t
                rintro e w11 ⟨rfl, h11, hc11⟩
                have b11 := hc11.below_of b10 b10.size (fun k hk hF => by rcases hF with rfl | rfl <;> omega)
                clear hc11 h10 b10
                go_wp2_with fail
                go_roundw
                case rel => exact ⟨j + 1, by omega, by go_num, h11, b11⟩
                case measure => simp [vInt]; omega
              · go_wp2_with fail
                refine (state_calls hp1).mono ?_
                rintro e w7 ⟨rfl, rfl⟩
                go_wp2_with fail
                refine (load_calls hp1).mono ?_
                rintro e w7 ⟨rfl, rfl⟩
                go_wp2_with fail
                go_ret
                exact ⟨rfl, hb⟩
            · go_wp2_with fail
              refine (state_calls hp1).mono ?_
              rintro e w7 ⟨rfl, rfl⟩
              go_wp2_with fail
              refine (load_calls hp1).mono ?_
              rintro e w7 ⟨rfl, rfl⟩
              go_wp2_with fail
              go_ret
              exact ⟨rfl, hb⟩

end Go.Proofs.Ytefcchnmgnlanaa
