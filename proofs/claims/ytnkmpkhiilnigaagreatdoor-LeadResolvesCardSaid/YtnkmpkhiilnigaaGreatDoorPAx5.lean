-- Printed by a turned copy of the print program: some contracts are given by hand.
import Derived.Test.YtnkmpkhiilnigaaGreatDoorPAx0
import Derived.Test.YtnkmpkhiilnigaaGreatDoorPAx4
import Derived.Test.YtnkmpkhiilnigaaGreatDoorGTabs
set_option linter.unusedSimpArgs false
set_option linter.unusedVariables false
namespace Go.Proofs.YtnkmpkhiilnigaaGreatDoor.PA
open Go.RowKit Go.Proofs.YtnkmpkhiilnigaaGreatDoorW.PrintWords Go.Proofs.YtnkmpkhiilnigaaGreatDoorW.PrintLast Go.Proofs.YtnkmpkhiilnigaaGreatDoorW.PrintMore
attribute [local go_sem] max2_int min2_int max_two min_two max_three min_three max_four min_four   -- for this text's walks alone

/-! ### damperref1_Split: function 51 -/
def damperref1_Split.l0 : Nat → ByteArray → Int → Int → Int → Option (ByteArray × Int × Bool)
  | 0, _, _, _, _ => none
  | k + 1, x0, x5, x6, x7 => if x5 > 0 then (if 0 ≤ (wrap64 (x5 - 1)) then (if (wrap64 (x5 - 1)) < (x0.size : Int) then (if (bt x0 (wrap64 (x5 - 1))) ≥ 48 then (if (bt x0 (wrap64 (x5 - 1))) ≤ 57 then (if x7 ≤ 999999 then (damperref1_Split.l0 k x0 (wrap64 (x5 - 1)) (wrap64 (x6 + (wrap64 (x7 * (((bt x0 (wrap64 (x5 - 1))) - 48) % 256))))) (wrap64 (x7 * 10))) else (if x5 < 1 then (some ((⟨#[]⟩ : ByteArray), 0, false)) else (if x5 = (x0.size : Int) then (some ((⟨#[]⟩ : ByteArray), 0, false)) else (if (bt x0 (wrap64 (x5 - 1))) = 45 then (if 0 ≤ x5 then (if x5 < (x0.size : Int) then (if (bt x0 x5) = 48 then (some ((⟨#[]⟩ : ByteArray), 0, false)) else (if (wrap64 (x5 - 1)) ≤ (x0.size : Int) then ((damperref1_Name.f k (x0.extract 0 ((wrap64 (x5 - 1)) : Int).toNat)).bind fun t110 => (if t110 = true then (some (x0.extract 0 ((wrap64 (x5 - 1)) : Int).toNat, x6, true)) else (some ((⟨#[]⟩ : ByteArray), 0, false)))) else (none))) else (none)) else (none)) else (some ((⟨#[]⟩ : ByteArray), 0, false)))))) else (if x5 < 1 then (some ((⟨#[]⟩ : ByteArray), 0, false)) else (if x5 = (x0.size : Int) then (some ((⟨#[]⟩ : ByteArray), 0, false)) else (if (bt x0 (wrap64 (x5 - 1))) = 45 then (if 0 ≤ x5 then (if x5 < (x0.size : Int) then (if (bt x0 x5) = 48 then (some ((⟨#[]⟩ : ByteArray), 0, false)) else (if (wrap64 (x5 - 1)) ≤ (x0.size : Int) then ((damperref1_Name.f k (x0.extract 0 ((wrap64 (x5 - 1)) : Int).toNat)).bind fun t111 => (if t111 = true then (some (x0.extract 0 ((wrap64 (x5 - 1)) : Int).toNat, x6, true)) else (some ((⟨#[]⟩ : ByteArray), 0, false)))) else (none))) else (none)) else (none)) else (some ((⟨#[]⟩ : ByteArray), 0, false)))))) else (if x5 < 1 then (some ((⟨#[]⟩ : ByteArray), 0, false)) else (if x5 = (x0.size : Int) then (some ((⟨#[]⟩ : ByteArray), 0, false)) else (if (bt x0 (wrap64 (x5 - 1))) = 45 then (if 0 ≤ x5 then (if x5 < (x0.size : Int) then (if (bt x0 x5) = 48 then (some ((⟨#[]⟩ : ByteArray), 0, false)) else (if (wrap64 (x5 - 1)) ≤ (x0.size : Int) then ((damperref1_Name.f k (x0.extract 0 ((wrap64 (x5 - 1)) : Int).toNat)).bind fun t112 => (if t112 = true then (some (x0.extract 0 ((wrap64 (x5 - 1)) : Int).toNat, x6, true)) else (some ((⟨#[]⟩ : ByteArray), 0, false)))) else (none))) else (none)) else (none)) else (some ((⟨#[]⟩ : ByteArray), 0, false)))))) else (none)) else (none)) else (if x5 < 1 then (some ((⟨#[]⟩ : ByteArray), 0, false)) else (if x5 = (x0.size : Int) then (some ((⟨#[]⟩ : ByteArray), 0, false)) else (if 0 ≤ (wrap64 (x5 - 1)) then (if (wrap64 (x5 - 1)) < (x0.size : Int) then (if (bt x0 (wrap64 (x5 - 1))) = 45 then (if 0 ≤ x5 then (if x5 < (x0.size : Int) then (if (bt x0 x5) = 48 then (some ((⟨#[]⟩ : ByteArray), 0, false)) else (if (wrap64 (x5 - 1)) ≤ (x0.size : Int) then ((damperref1_Name.f k (x0.extract 0 ((wrap64 (x5 - 1)) : Int).toNat)).bind fun t113 => (if t113 = true then (some (x0.extract 0 ((wrap64 (x5 - 1)) : Int).toNat, x6, true)) else (some ((⟨#[]⟩ : ByteArray), 0, false)))) else (none))) else (none)) else (none)) else (some ((⟨#[]⟩ : ByteArray), 0, false))) else (none)) else (none))))
def damperref1_Split.f (k : Nat) (a0 : ByteArray) : Option (ByteArray × Int × Bool) := damperref1_Split.l0 k a0 (a0.size : Int) 0 1
theorem damperref1_Split.mono_l : ∀ k, (∀ y0 y1 y2 y3, LeO (damperref1_Split.l0 k y0 y1 y2 y3) (damperref1_Split.l0 (k + 1) y0 y1 y2 y3))
  | 0 => fun _ _ _ _ r h => by simp [damperref1_Split.l0] at h
  | k + 1 => by
    have ih0 := damperref1_Split.mono_l k
    · intro y0 y1 y2 y3
      unfold damperref1_Split.l0
      repeat' first
      | (with_reducible exact ih0 _ _ _ _)
      | (with_reducible exact damperref1_Name.mono _ _)
      | (with_reducible exact LeO.refl _)
      | (with_reducible exact LeO.none _)
      | (with_reducible refine LeO.ite ?_ ?_)
      | (with_reducible refine LeO.bind ?_ (fun _ => ?_))
      | exact ih0 _ _ _ _
      | exact damperref1_Name.mono _ _
      | exact LeO.none _
      | refine LeO.ite ?_ ?_
      | refine LeO.bind ?_ (fun _ => ?_)
theorem damperref1_Split.mono : ∀ a0 k, LeO (damperref1_Split.f k a0) (damperref1_Split.f (k + 1) a0) := by
  intro a0 k
  have ih0 := damperref1_Split.mono_l k
  unfold damperref1_Split.f
  repeat' first
      | (with_reducible exact ih0 _ _ _ _)
      | (with_reducible exact damperref1_Name.mono _ _)
      | (with_reducible exact LeO.refl _)
      | (with_reducible exact LeO.none _)
      | (with_reducible refine LeO.ite ?_ ?_)
      | (with_reducible refine LeO.bind ?_ (fun _ => ?_))
      | exact ih0 _ _ _ _
      | exact damperref1_Name.mono _ _
      | exact LeO.none _
      | refine LeO.ite ?_ ?_
      | refine LeO.bind ?_ (fun _ => ?_)
set_option maxHeartbeats 8000000 in
set_option maxRecDepth 100000 in
theorem damperref1_Split.calls (k : Nat) (a0 : ByteArray) (r1 : ByteArray) (r2 : Int) (r3 : Bool) (w : World) (h : damperref1_Split.f k a0 = some (r1, r2, r3)) :
    Calls Tryz.prog 51 #[.string a0] w fun e w' => e = .returned (.tuple #[.string r1, .int .i64 r2, .bool r3]) ∧ Drawn0 w w' := by
  have H : (damperref1_Split.l0 k a0 (a0.size : Int) 0 1) = some (r1, r2, r3) := h
  clear h
  have H' := Aside0.mk H
  clear H
  go_enter Tryz.func51, Tryz.ntmps51
  go_wp2
  go_loopg [5, 6, 7] k (fun kq v5 v6 v7 w' => ∃ (x5_1 : Int) (x6_1 : Int) (x7_1 : Int), v5 = .int .i64 x5_1 ∧ v6 = .int .i64 x6_1 ∧ v7 = .int .i64 x7_1 ∧ Aside0 (damperref1_Split.l0 kq a0 x5_1 x6_1 x7_1 = some (r1, r2, r3)) ∧ Aside0 (kq ≤ k) ∧ Drawn0 w w')
  case atStart => exact ⟨((a0.size : Int)), (0), (1), (by first | rfl | (simp; done) | (simp [*]; done) | (rw [Int.sub_self]; simp [wrap64]; done)), (by first | rfl | (simp; done) | (simp [*]; done) | (rw [Int.sub_self]; simp [wrap64]; done)), (by first | rfl | (simp; done) | (simp [*]; done) | (rw [Int.sub_self]; simp [wrap64]; done)), H', ⟨Nat.le_refl _⟩, by repeat (first | exact Drawn0.refl _ | apply Drawn0.step)⟩
  case round =>
    clear H'
    obtain ⟨x5_1, x6_1, x7_1, rfl, rfl, rfl, HA, HK1, ⟨m1, rfl⟩⟩ := hrel
    cases gk with
    | zero => exact absurd HA.out (by simp [damperref1_Split.l0])
    | succ k1 =>
      have H := HA.out
      clear HA
      simp only [damperref1_Split.l0] at H
      by_cases c2 : x5_1 > 0
      · rw [if_pos c2] at H
        have c2b0 : decide (0 < x5_1) = true := decide_eq_true c2
        clear c2
        obtain ⟨ji3, hji3⟩ : ∃ j_ : Int, (wrap64 (x5_1 - 1)) = j_ := ⟨_, rfl⟩
        replace H : (if 0 ≤ (ji3) then (if (ji3) < (a0.size : Int) then (if (bt a0 (ji3)) ≥ 48 then (if (bt a0 (ji3)) ≤ 57 then (if x7_1 ≤ 999999 then (damperref1_Split.l0 k1 a0 ji3 (wrap64 (x6_1 + (wrap64 (x7_1 * (((bt a0 (ji3)) - 48) % 256))))) (wrap64 (x7_1 * 10))) else (if x5_1 < 1 then (some ((⟨#[]⟩ : ByteArray), 0, false)) else (if x5_1 = (a0.size : Int) then (some ((⟨#[]⟩ : ByteArray), 0, false)) else (if (bt a0 (ji3)) = 45 then (if 0 ≤ x5_1 then (if x5_1 < (a0.size : Int) then (if (bt a0 x5_1) = 48 then (some ((⟨#[]⟩ : ByteArray), 0, false)) else (if (ji3) ≤ (a0.size : Int) then ((damperref1_Name.f k1 (a0.extract 0 ((ji3) : Int).toNat)).bind fun t110 => (if t110 = true then (some (a0.extract 0 ((ji3) : Int).toNat, x6_1, true)) else (some ((⟨#[]⟩ : ByteArray), 0, false)))) else (none))) else (none)) else (none)) else (some ((⟨#[]⟩ : ByteArray), 0, false)))))) else (if x5_1 < 1 then (some ((⟨#[]⟩ : ByteArray), 0, false)) else (if x5_1 = (a0.size : Int) then (some ((⟨#[]⟩ : ByteArray), 0, false)) else (if (bt a0 (ji3)) = 45 then (if 0 ≤ x5_1 then (if x5_1 < (a0.size : Int) then (if (bt a0 x5_1) = 48 then (some ((⟨#[]⟩ : ByteArray), 0, false)) else (if (ji3) ≤ (a0.size : Int) then ((damperref1_Name.f k1 (a0.extract 0 ((ji3) : Int).toNat)).bind fun t111 => (if t111 = true then (some (a0.extract 0 ((ji3) : Int).toNat, x6_1, true)) else (some ((⟨#[]⟩ : ByteArray), 0, false)))) else (none))) else (none)) else (none)) else (some ((⟨#[]⟩ : ByteArray), 0, false)))))) else (if x5_1 < 1 then (some ((⟨#[]⟩ : ByteArray), 0, false)) else (if x5_1 = (a0.size : Int) then (some ((⟨#[]⟩ : ByteArray), 0, false)) else (if (bt a0 (ji3)) = 45 then (if 0 ≤ x5_1 then (if x5_1 < (a0.size : Int) then (if (bt a0 x5_1) = 48 then (some ((⟨#[]⟩ : ByteArray), 0, false)) else (if (ji3) ≤ (a0.size : Int) then ((damperref1_Name.f k1 (a0.extract 0 ((ji3) : Int).toNat)).bind fun t112 => (if t112 = true then (some (a0.extract 0 ((ji3) : Int).toNat, x6_1, true)) else (some ((⟨#[]⟩ : ByteArray), 0, false)))) else (none))) else (none)) else (none)) else (some ((⟨#[]⟩ : ByteArray), 0, false)))))) else (none)) else (none)) = some (r1, r2, r3) := by first | (rw [hji3] at H; exact H) | (simp only [hji3] at H ⊢; exact H)
        have hji3w : (IntKind.i64.wrap (x5_1 - 1)) = ji3 := (i64_w _).trans hji3
        by_cases c4 : 0 ≤ (ji3)
        · rw [if_pos c4] at H
          have c4b0 : decide (0 ≤ (ji3)) = true := decide_eq_true c4
          clear c4
          by_cases c5 : (ji3) < (a0.size : Int)
          · rw [if_pos c5] at H
            have c5b0 : decide ((ji3) < (a0.size : Int)) = true := decide_eq_true c5
            clear c5
            by_cases c7 : (bt a0 (ji3)) ≥ 48
            · rw [if_pos c7] at H
              have c7b0 : decide (48 ≤ (bt a0 (ji3))) = true := decide_eq_true c7
              clear c7
              by_cases c9 : (bt a0 (ji3)) ≤ 57
              · rw [if_pos c9] at H
                have c9b0 : decide ((bt a0 (ji3)) ≤ 57) = true := decide_eq_true c9
                clear c9
                by_cases c10 : x7_1 ≤ 999999
                · rw [if_pos c10] at H
                  have c10b0 : decide (x7_1 ≤ 999999) = true := decide_eq_true c10
                  clear c10
                  have H' := Aside0.mk H
                  clear H
                  have p6 : 0 ≤ ((ji3) : Int) := of_decide_eq_true (by first | (with_reducible assumption) | assumption)
                  have q6 : (ji3) < (a0.size : Int) := of_decide_eq_true (by first | (with_reducible assumption) | assumption)
                  have hx6 := bt_at a0 (ji3)
                  replace p6 := eq_true p6
                  replace q6 := eq_true q6
                  have p8 : 0 ≤ ((ji3) : Int) := of_decide_eq_true (by first | (with_reducible assumption) | assumption)
                  have q8 : (ji3) < (a0.size : Int) := of_decide_eq_true (by first | (with_reducible assumption) | assumption)
                  have hx8 := bt_at a0 (ji3)
                  replace p8 := eq_true p8
                  replace q8 := eq_true q8
                  have p11 : 0 ≤ ((ji3) : Int) := of_decide_eq_true (by first | (with_reducible assumption) | assumption)
                  have q11 : (ji3) < (a0.size : Int) := of_decide_eq_true (by first | (with_reducible assumption) | assumption)
                  have hx11 := bt_at a0 (ji3)
                  replace p11 := eq_true p11
                  replace q11 := eq_true q11
                  go_wp2
                  go_roundg k1
                  case measure => have := HK1.out; omega
                  case rel => exact ⟨(ji3), (wrap64 (x6_1 + (wrap64 (x7_1 * (((bt a0 (ji3)) - 48) % 256))))), (wrap64 (x7_1 * 10)), (by first | rfl | (simp; done) | (simp only [← hji3] <;> (first | rfl | simp)) | (simp [*]; done) | (rw [Int.sub_self]; simp [wrap64]; done)), (by first | rfl | (simp; done) | (simp only [← hji3] <;> (first | rfl | simp)) | (simp [*]; done) | (rw [Int.sub_self]; simp [wrap64]; done)), (by first | rfl | (simp; done) | (simp [*]; done) | (rw [Int.sub_self]; simp [wrap64]; done)), H', ⟨by have := HK1.out; omega⟩, by repeat (first | exact Drawn0.refl _ | apply Drawn0.step)⟩
                · rw [if_neg c10] at H
                  have c10b0 : decide (x7_1 ≤ 999999) = false := decide_eq_false c10
                  clear c10
                  by_cases c12 : x5_1 < 1
                  · rw [if_pos c12] at H
                    have c12b0 : decide (x5_1 < 1) = true := decide_eq_true c12
                    clear c12
                    simp only [Option.some.injEq, Prod.mk.injEq] at H
                    obtain ⟨rfl, rfl, rfl⟩ := H
                    have p6 : 0 ≤ ((ji3) : Int) := of_decide_eq_true (by first | (with_reducible assumption) | assumption)
                    have q6 : (ji3) < (a0.size : Int) := of_decide_eq_true (by first | (with_reducible assumption) | assumption)
                    have hx6 := bt_at a0 (ji3)
                    replace p6 := eq_true p6
                    replace q6 := eq_true q6
                    have p8 : 0 ≤ ((ji3) : Int) := of_decide_eq_true (by first | (with_reducible assumption) | assumption)
                    have q8 : (ji3) < (a0.size : Int) := of_decide_eq_true (by first | (with_reducible assumption) | assumption)
                    have hx8 := bt_at a0 (ji3)
                    replace p8 := eq_true p8
                    replace q8 := eq_true q8
                    go_wp2
                    go_ret3
                    exact ⟨by first | rfl | (simp; done) | (simp only [← hji3] <;> (first | rfl | simp)) | (simp [*]; done) | (rw [Int.sub_self]; simp [wrap64]; done), by repeat (first | exact Drawn0.refl _ | apply Drawn0.step)⟩
                  · rw [if_neg c12] at H
                    have c12b0 : decide (x5_1 < 1) = false := decide_eq_false c12
                    clear c12
                    by_cases c13 : x5_1 = (a0.size : Int)
                    · rw [if_pos c13] at H
                      have c13b0 : (x5_1 == (a0.size : Int)) = true := beq_iff_eq.mpr c13
                      have c13b1 : (x5_1 != (a0.size : Int)) = false := bne_eq_false_iff_eq.mpr c13
                      clear c13
                      simp only [Option.some.injEq, Prod.mk.injEq] at H
                      obtain ⟨rfl, rfl, rfl⟩ := H
                      have p6 : 0 ≤ ((ji3) : Int) := of_decide_eq_true (by first | (with_reducible assumption) | assumption)
                      have q6 : (ji3) < (a0.size : Int) := of_decide_eq_true (by first | (with_reducible assumption) | assumption)
                      have hx6 := bt_at a0 (ji3)
                      replace p6 := eq_true p6
                      replace q6 := eq_true q6
                      have p8 : 0 ≤ ((ji3) : Int) := of_decide_eq_true (by first | (with_reducible assumption) | assumption)
                      have q8 : (ji3) < (a0.size : Int) := of_decide_eq_true (by first | (with_reducible assumption) | assumption)
                      have hx8 := bt_at a0 (ji3)
                      replace p8 := eq_true p8
                      replace q8 := eq_true q8
                      go_wp2
                      go_ret3
                      exact ⟨by first | rfl | (simp; done) | (simp only [← hji3] <;> (first | rfl | simp)) | (simp [*]; done) | (rw [Int.sub_self]; simp [wrap64]; done), by repeat (first | exact Drawn0.refl _ | apply Drawn0.step)⟩
                    · rw [if_neg c13] at H
                      have c13b0 : (x5_1 == (a0.size : Int)) = false := beq_eq_false_iff_ne.mpr c13
                      have c13b1 : (x5_1 != (a0.size : Int)) = true := bne_iff_ne.mpr c13
                      by_cases c15 : (bt a0 (ji3)) = 45
                      · rw [if_pos c15] at H
                        have c15b0 : ((bt a0 (ji3)) == 45) = true := beq_iff_eq.mpr c15
                        have c15b1 : ((bt a0 (ji3)) != 45) = false := bne_eq_false_iff_eq.mpr c15
                        clear c15
                        by_cases c16 : 0 ≤ x5_1
                        · rw [if_pos c16] at H
                          have c16b0 : decide (0 ≤ x5_1) = true := decide_eq_true c16
                          clear c16
                          by_cases c17 : x5_1 < (a0.size : Int)
                          · rw [if_pos c17] at H
                            have c17b0 : decide (x5_1 < (a0.size : Int)) = true := decide_eq_true c17
                            clear c17
                            by_cases c19 : (bt a0 x5_1) = 48
                            · rw [if_pos c19] at H
                              have c19b0 : ((bt a0 x5_1) == 48) = true := beq_iff_eq.mpr c19
                              have c19b1 : ((bt a0 x5_1) != 48) = false := bne_eq_false_iff_eq.mpr c19
                              clear c19
                              simp only [Option.some.injEq, Prod.mk.injEq] at H
                              obtain ⟨rfl, rfl, rfl⟩ := H
                              have p6 : 0 ≤ ((ji3) : Int) := of_decide_eq_true (by first | (with_reducible assumption) | assumption)
                              have q6 : (ji3) < (a0.size : Int) := of_decide_eq_true (by first | (with_reducible assumption) | assumption)
                              have hx6 := bt_at a0 (ji3)
                              replace p6 := eq_true p6
                              replace q6 := eq_true q6
                              have p8 : 0 ≤ ((ji3) : Int) := of_decide_eq_true (by first | (with_reducible assumption) | assumption)
                              have q8 : (ji3) < (a0.size : Int) := of_decide_eq_true (by first | (with_reducible assumption) | assumption)
                              have hx8 := bt_at a0 (ji3)
                              replace p8 := eq_true p8
                              replace q8 := eq_true q8
                              have p14 : 0 ≤ ((ji3) : Int) := of_decide_eq_true (by first | (with_reducible assumption) | assumption)
                              have q14 : (ji3) < (a0.size : Int) := of_decide_eq_true (by first | (with_reducible assumption) | assumption)
                              have hx14 := bt_at a0 (ji3)
                              replace p14 := eq_true p14
                              replace q14 := eq_true q14
                              have p18 : 0 ≤ (x5_1 : Int) := of_decide_eq_true (by first | (with_reducible assumption) | assumption)
                              have q18 : x5_1 < (a0.size : Int) := of_decide_eq_true (by first | (with_reducible assumption) | assumption)
                              have hx18 := bt_at a0 x5_1
                              replace p18 := eq_true p18
                              replace q18 := eq_true q18
                              go_wp2
                              go_ret3
                              exact ⟨by first | rfl | (simp; done) | (simp only [← hji3] <;> (first | rfl | simp)) | (simp [*]; done) | (rw [Int.sub_self]; simp [wrap64]; done), by repeat (first | exact Drawn0.refl _ | apply Drawn0.step)⟩
                            · rw [if_neg c19] at H
                              have c19b0 : ((bt a0 x5_1) == 48) = false := beq_eq_false_iff_ne.mpr c19
                              have c19b1 : ((bt a0 x5_1) != 48) = true := bne_iff_ne.mpr c19
                              have c20b0 := eq_true (of_decide_eq_true (by first | (with_reducible assumption) | assumption) : 0 ≤ (ji3))
                              by_cases c21 : (ji3) ≤ (a0.size : Int)
                              · rw [if_pos c21] at H
                                have c21b0 := eq_true c21
                                have c21b1 : decide ((ji3) ≤ (a0.size : Int)) = true := decide_eq_true c21
                                clear c21
                                replace H := Option.bind_eq_some_iff.mp H
                                obtain ⟨t110, A220, H⟩ := H
                                replace H : (if t110 = true then (some (a0.extract 0 ((ji3) : Int).toNat, x6_1, true)) else (some ((⟨#[]⟩ : ByteArray), 0, false))) = some (r1, r2, r3) := H
                                have A22 := Aside0.mk A220
                                clear A220
                                by_cases c23 : t110 = true
                                · subst c23
                                  have H1 : (some (a0.extract 0 ((ji3) : Int).toNat, x6_1, true)) = some (r1, r2, r3) := by rw [if_pos rfl] at H; exact H
                                  clear H
                                  have H := H1
                                  clear H1
                                  have c24b0 := eq_true (of_decide_eq_true (by first | (with_reducible assumption) | assumption) : 0 ≤ (ji3))
                                  have c25b0 := eq_true (of_decide_eq_true (by first | (with_reducible assumption) | assumption) : (ji3) ≤ (a0.size : Int))
                                  simp only [Option.some.injEq, Prod.mk.injEq] at H
                                  obtain ⟨rfl, rfl, rfl⟩ := H
                                  have p6 : 0 ≤ ((ji3) : Int) := of_decide_eq_true (by first | (with_reducible assumption) | assumption)
                                  have q6 : (ji3) < (a0.size : Int) := of_decide_eq_true (by first | (with_reducible assumption) | assumption)
                                  have hx6 := bt_at a0 (ji3)
                                  replace p6 := eq_true p6
                                  replace q6 := eq_true q6
                                  have p8 : 0 ≤ ((ji3) : Int) := of_decide_eq_true (by first | (with_reducible assumption) | assumption)
                                  have q8 : (ji3) < (a0.size : Int) := of_decide_eq_true (by first | (with_reducible assumption) | assumption)
                                  have hx8 := bt_at a0 (ji3)
                                  replace p8 := eq_true p8
                                  replace q8 := eq_true q8
                                  have p14 : 0 ≤ ((ji3) : Int) := of_decide_eq_true (by first | (with_reducible assumption) | assumption)
                                  have q14 : (ji3) < (a0.size : Int) := of_decide_eq_true (by first | (with_reducible assumption) | assumption)
                                  have hx14 := bt_at a0 (ji3)
                                  replace p14 := eq_true p14
                                  replace q14 := eq_true q14
                                  have p18 : 0 ≤ (x5_1 : Int) := of_decide_eq_true (by first | (with_reducible assumption) | assumption)
                                  have q18 : x5_1 < (a0.size : Int) := of_decide_eq_true (by first | (with_reducible assumption) | assumption)
                                  have hx18 := bt_at a0 x5_1
                                  replace p18 := eq_true p18
                                  replace q18 := eq_true q18
                                  go_wp2_with (first | (go_at_call 39; (with_reducible refine (damperref1_Name.calls k1 (a0.extract 0 ((ji3) : Int).toNat) true _ A22.out).mono ?_); rintro e w' ⟨rfl, ⟨nd, rfl⟩⟩))
                                  go_ret3
                                  exact ⟨by first | rfl | (simp; done) | (simp only [← hji3] <;> (first | rfl | simp)) | (simp [*]; done) | (rw [Int.sub_self]; simp [wrap64]; done), by repeat (first | exact Drawn0.refl _ | apply Drawn0.step)⟩
                                · replace c23 := Bool.eq_false_iff.mpr c23
                                  subst c23
                                  have H1 : (some ((⟨#[]⟩ : ByteArray), 0, false)) = some (r1, r2, r3) := by rw [if_neg (show ¬ (false = true) by decide)] at H; exact H
                                  clear H
                                  have H := H1
                                  clear H1
                                  simp only [Option.some.injEq, Prod.mk.injEq] at H
                                  obtain ⟨rfl, rfl, rfl⟩ := H
                                  have p6 : 0 ≤ ((ji3) : Int) := of_decide_eq_true (by first | (with_reducible assumption) | assumption)
                                  have q6 : (ji3) < (a0.size : Int) := of_decide_eq_true (by first | (with_reducible assumption) | assumption)
                                  have hx6 := bt_at a0 (ji3)
                                  replace p6 := eq_true p6
                                  replace q6 := eq_true q6
                                  have p8 : 0 ≤ ((ji3) : Int) := of_decide_eq_true (by first | (with_reducible assumption) | assumption)
                                  have q8 : (ji3) < (a0.size : Int) := of_decide_eq_true (by first | (with_reducible assumption) | assumption)
                                  have hx8 := bt_at a0 (ji3)
                                  replace p8 := eq_true p8
                                  replace q8 := eq_true q8
                                  have p14 : 0 ≤ ((ji3) : Int) := of_decide_eq_true (by first | (with_reducible assumption) | assumption)
                                  have q14 : (ji3) < (a0.size : Int) := of_decide_eq_true (by first | (with_reducible assumption) | assumption)
                                  have hx14 := bt_at a0 (ji3)
                                  replace p14 := eq_true p14
                                  replace q14 := eq_true q14
                                  have p18 : 0 ≤ (x5_1 : Int) := of_decide_eq_true (by first | (with_reducible assumption) | assumption)
                                  have q18 : x5_1 < (a0.size : Int) := of_decide_eq_true (by first | (with_reducible assumption) | assumption)
                                  have hx18 := bt_at a0 x5_1
                                  replace p18 := eq_true p18
                                  replace q18 := eq_true q18
                                  go_wp2_with (first | (go_at_call 39; (with_reducible refine (damperref1_Name.calls k1 (a0.extract 0 ((ji3) : Int).toNat) false _ A22.out).mono ?_); rintro e w' ⟨rfl, ⟨nd, rfl⟩⟩))
                                  go_ret3
                                  exact ⟨by first | rfl | (simp; done) | (simp only [← hji3] <;> (first | rfl | simp)) | (simp [*]; done) | (rw [Int.sub_self]; simp [wrap64]; done), by repeat (first | exact Drawn0.refl _ | apply Drawn0.step)⟩
                              · rw [if_neg c21] at H
                                exact absurd H (by simp)
                          · rw [if_neg c17] at H
                            exact absurd H (by simp)
                        · rw [if_neg c16] at H
                          exact absurd H (by simp)
                      · rw [if_neg c15] at H
                        have c15b0 : ((bt a0 (ji3)) == 45) = false := beq_eq_false_iff_ne.mpr c15
                        have c15b1 : ((bt a0 (ji3)) != 45) = true := bne_iff_ne.mpr c15
                        simp only [Option.some.injEq, Prod.mk.injEq] at H
                        obtain ⟨rfl, rfl, rfl⟩ := H
                        have p6 : 0 ≤ ((ji3) : Int) := of_decide_eq_true (by first | (with_reducible assumption) | assumption)
                        have q6 : (ji3) < (a0.size : Int) := of_decide_eq_true (by first | (with_reducible assumption) | assumption)
                        have hx6 := bt_at a0 (ji3)
                        replace p6 := eq_true p6
                        replace q6 := eq_true q6
                        have p8 : 0 ≤ ((ji3) : Int) := of_decide_eq_true (by first | (with_reducible assumption) | assumption)
                        have q8 : (ji3) < (a0.size : Int) := of_decide_eq_true (by first | (with_reducible assumption) | assumption)
                        have hx8 := bt_at a0 (ji3)
                        replace p8 := eq_true p8
                        replace q8 := eq_true q8
                        have p14 : 0 ≤ ((ji3) : Int) := of_decide_eq_true (by first | (with_reducible assumption) | assumption)
                        have q14 : (ji3) < (a0.size : Int) := of_decide_eq_true (by first | (with_reducible assumption) | assumption)
                        have hx14 := bt_at a0 (ji3)
                        replace p14 := eq_true p14
                        replace q14 := eq_true q14
                        go_wp2
                        go_ret3
                        exact ⟨by first | rfl | (simp; done) | (simp only [← hji3] <;> (first | rfl | simp)) | (simp [*]; done) | (rw [Int.sub_self]; simp [wrap64]; done), by repeat (first | exact Drawn0.refl _ | apply Drawn0.step)⟩
              · rw [if_neg c9] at H
                have c9b0 : decide ((bt a0 (ji3)) ≤ 57) = false := decide_eq_false c9
                clear c9
                by_cases c26 : x5_1 < 1
                · rw [if_pos c26] at H
                  have c26b0 : decide (x5_1 < 1) = true := decide_eq_true c26
                  clear c26
                  simp only [Option.some.injEq, Prod.mk.injEq] at H
                  obtain ⟨rfl, rfl, rfl⟩ := H
                  have p6 : 0 ≤ ((ji3) : Int) := of_decide_eq_true (by first | (with_reducible assumption) | assumption)
                  have q6 : (ji3) < (a0.size : Int) := of_decide_eq_true (by first | (with_reducible assumption) | assumption)
                  have hx6 := bt_at a0 (ji3)
                  replace p6 := eq_true p6
                  replace q6 := eq_true q6
                  have p8 : 0 ≤ ((ji3) : Int) := of_decide_eq_true (by first | (with_reducible assumption) | assumption)
                  have q8 : (ji3) < (a0.size : Int) := of_decide_eq_true (by first | (with_reducible assumption) | assumption)
                  have hx8 := bt_at a0 (ji3)
                  replace p8 := eq_true p8
                  replace q8 := eq_true q8
                  go_wp2
                  go_ret3
                  exact ⟨by first | rfl | (simp; done) | (simp only [← hji3] <;> (first | rfl | simp)) | (simp [*]; done) | (rw [Int.sub_self]; simp [wrap64]; done), by repeat (first | exact Drawn0.refl _ | apply Drawn0.step)⟩
                · rw [if_neg c26] at H
                  have c26b0 : decide (x5_1 < 1) = false := decide_eq_false c26
                  clear c26
                  by_cases c27 : x5_1 = (a0.size : Int)
                  · rw [if_pos c27] at H
                    have c27b0 : (x5_1 == (a0.size : Int)) = true := beq_iff_eq.mpr c27
                    have c27b1 : (x5_1 != (a0.size : Int)) = false := bne_eq_false_iff_eq.mpr c27
                    clear c27
                    simp only [Option.some.injEq, Prod.mk.injEq] at H
                    obtain ⟨rfl, rfl, rfl⟩ := H
                    have p6 : 0 ≤ ((ji3) : Int) := of_decide_eq_true (by first | (with_reducible assumption) | assumption)
                    have q6 : (ji3) < (a0.size : Int) := of_decide_eq_true (by first | (with_reducible assumption) | assumption)
                    have hx6 := bt_at a0 (ji3)
                    replace p6 := eq_true p6
                    replace q6 := eq_true q6
                    have p8 : 0 ≤ ((ji3) : Int) := of_decide_eq_true (by first | (with_reducible assumption) | assumption)
                    have q8 : (ji3) < (a0.size : Int) := of_decide_eq_true (by first | (with_reducible assumption) | assumption)
                    have hx8 := bt_at a0 (ji3)
                    replace p8 := eq_true p8
                    replace q8 := eq_true q8
                    go_wp2
                    go_ret3
                    exact ⟨by first | rfl | (simp; done) | (simp only [← hji3] <;> (first | rfl | simp)) | (simp [*]; done) | (rw [Int.sub_self]; simp [wrap64]; done), by repeat (first | exact Drawn0.refl _ | apply Drawn0.step)⟩
                  · rw [if_neg c27] at H
                    have c27b0 : (x5_1 == (a0.size : Int)) = false := beq_eq_false_iff_ne.mpr c27
                    have c27b1 : (x5_1 != (a0.size : Int)) = true := bne_iff_ne.mpr c27
                    by_cases c29 : (bt a0 (ji3)) = 45
                    · rw [if_pos c29] at H
                      have c29b0 : ((bt a0 (ji3)) == 45) = true := beq_iff_eq.mpr c29
                      have c29b1 : ((bt a0 (ji3)) != 45) = false := bne_eq_false_iff_eq.mpr c29
                      clear c29
                      by_cases c30 : 0 ≤ x5_1
                      · rw [if_pos c30] at H
                        have c30b0 : decide (0 ≤ x5_1) = true := decide_eq_true c30
                        clear c30
                        by_cases c31 : x5_1 < (a0.size : Int)
                        · rw [if_pos c31] at H
                          have c31b0 : decide (x5_1 < (a0.size : Int)) = true := decide_eq_true c31
                          clear c31
                          by_cases c33 : (bt a0 x5_1) = 48
                          · rw [if_pos c33] at H
                            have c33b0 : ((bt a0 x5_1) == 48) = true := beq_iff_eq.mpr c33
                            have c33b1 : ((bt a0 x5_1) != 48) = false := bne_eq_false_iff_eq.mpr c33
                            clear c33
                            simp only [Option.some.injEq, Prod.mk.injEq] at H
                            obtain ⟨rfl, rfl, rfl⟩ := H
                            have p6 : 0 ≤ ((ji3) : Int) := of_decide_eq_true (by first | (with_reducible assumption) | assumption)
                            have q6 : (ji3) < (a0.size : Int) := of_decide_eq_true (by first | (with_reducible assumption) | assumption)
                            have hx6 := bt_at a0 (ji3)
                            replace p6 := eq_true p6
                            replace q6 := eq_true q6
                            have p8 : 0 ≤ ((ji3) : Int) := of_decide_eq_true (by first | (with_reducible assumption) | assumption)
                            have q8 : (ji3) < (a0.size : Int) := of_decide_eq_true (by first | (with_reducible assumption) | assumption)
                            have hx8 := bt_at a0 (ji3)
                            replace p8 := eq_true p8
                            replace q8 := eq_true q8
                            have p28 : 0 ≤ ((ji3) : Int) := of_decide_eq_true (by first | (with_reducible assumption) | assumption)
                            have q28 : (ji3) < (a0.size : Int) := of_decide_eq_true (by first | (with_reducible assumption) | assumption)
                            have hx28 := bt_at a0 (ji3)
                            replace p28 := eq_true p28
                            replace q28 := eq_true q28
                            have p32 : 0 ≤ (x5_1 : Int) := of_decide_eq_true (by first | (with_reducible assumption) | assumption)
                            have q32 : x5_1 < (a0.size : Int) := of_decide_eq_true (by first | (with_reducible assumption) | assumption)
                            have hx32 := bt_at a0 x5_1
                            replace p32 := eq_true p32
                            replace q32 := eq_true q32
                            go_wp2
                            go_ret3
                            exact ⟨by first | rfl | (simp; done) | (simp only [← hji3] <;> (first | rfl | simp)) | (simp [*]; done) | (rw [Int.sub_self]; simp [wrap64]; done), by repeat (first | exact Drawn0.refl _ | apply Drawn0.step)⟩
                          · rw [if_neg c33] at H
                            have c33b0 : ((bt a0 x5_1) == 48) = false := beq_eq_false_iff_ne.mpr c33
                            have c33b1 : ((bt a0 x5_1) != 48) = true := bne_iff_ne.mpr c33
                            have c34b0 := eq_true (of_decide_eq_true (by first | (with_reducible assumption) | assumption) : 0 ≤ (ji3))
                            by_cases c35 : (ji3) ≤ (a0.size : Int)
                            · rw [if_pos c35] at H
                              have c35b0 := eq_true c35
                              have c35b1 : decide ((ji3) ≤ (a0.size : Int)) = true := decide_eq_true c35
                              clear c35
                              replace H := Option.bind_eq_some_iff.mp H
                              obtain ⟨t111, A360, H⟩ := H
                              replace H : (if t111 = true then (some (a0.extract 0 ((ji3) : Int).toNat, x6_1, true)) else (some ((⟨#[]⟩ : ByteArray), 0, false))) = some (r1, r2, r3) := H
                              have A36 := Aside0.mk A360
                              clear A360
                              by_cases c37 : t111 = true
                              · subst c37
                                have H1 : (some (a0.extract 0 ((ji3) : Int).toNat, x6_1, true)) = some (r1, r2, r3) := by rw [if_pos rfl] at H; exact H
                                clear H
                                have H := H1
                                clear H1
                                have c38b0 := eq_true (of_decide_eq_true (by first | (with_reducible assumption) | assumption) : 0 ≤ (ji3))
                                have c39b0 := eq_true (of_decide_eq_true (by first | (with_reducible assumption) | assumption) : (ji3) ≤ (a0.size : Int))
                                simp only [Option.some.injEq, Prod.mk.injEq] at H
                                obtain ⟨rfl, rfl, rfl⟩ := H
                                have p6 : 0 ≤ ((ji3) : Int) := of_decide_eq_true (by first | (with_reducible assumption) | assumption)
                                have q6 : (ji3) < (a0.size : Int) := of_decide_eq_true (by first | (with_reducible assumption) | assumption)
                                have hx6 := bt_at a0 (ji3)
                                replace p6 := eq_true p6
                                replace q6 := eq_true q6
                                have p8 : 0 ≤ ((ji3) : Int) := of_decide_eq_true (by first | (with_reducible assumption) | assumption)
                                have q8 : (ji3) < (a0.size : Int) := of_decide_eq_true (by first | (with_reducible assumption) | assumption)
                                have hx8 := bt_at a0 (ji3)
                                replace p8 := eq_true p8
                                replace q8 := eq_true q8
                                have p28 : 0 ≤ ((ji3) : Int) := of_decide_eq_true (by first | (with_reducible assumption) | assumption)
                                have q28 : (ji3) < (a0.size : Int) := of_decide_eq_true (by first | (with_reducible assumption) | assumption)
                                have hx28 := bt_at a0 (ji3)
                                replace p28 := eq_true p28
                                replace q28 := eq_true q28
                                have p32 : 0 ≤ (x5_1 : Int) := of_decide_eq_true (by first | (with_reducible assumption) | assumption)
                                have q32 : x5_1 < (a0.size : Int) := of_decide_eq_true (by first | (with_reducible assumption) | assumption)
                                have hx32 := bt_at a0 x5_1
                                replace p32 := eq_true p32
                                replace q32 := eq_true q32
                                go_wp2_with (first | (go_at_call 39; (with_reducible refine (damperref1_Name.calls k1 (a0.extract 0 ((ji3) : Int).toNat) true _ A36.out).mono ?_); rintro e w' ⟨rfl, ⟨nd, rfl⟩⟩))
                                go_ret3
                                exact ⟨by first | rfl | (simp; done) | (simp only [← hji3] <;> (first | rfl | simp)) | (simp [*]; done) | (rw [Int.sub_self]; simp [wrap64]; done), by repeat (first | exact Drawn0.refl _ | apply Drawn0.step)⟩
                              · replace c37 := Bool.eq_false_iff.mpr c37
                                subst c37
                                have H1 : (some ((⟨#[]⟩ : ByteArray), 0, false)) = some (r1, r2, r3) := by rw [if_neg (show ¬ (false = true) by decide)] at H; exact H
                                clear H
                                have H := H1
                                clear H1
                                simp only [Option.some.injEq, Prod.mk.injEq] at H
                                obtain ⟨rfl, rfl, rfl⟩ := H
                                have p6 : 0 ≤ ((ji3) : Int) := of_decide_eq_true (by first | (with_reducible assumption) | assumption)
                                have q6 : (ji3) < (a0.size : Int) := of_decide_eq_true (by first | (with_reducible assumption) | assumption)
                                have hx6 := bt_at a0 (ji3)
                                replace p6 := eq_true p6
                                replace q6 := eq_true q6
                                have p8 : 0 ≤ ((ji3) : Int) := of_decide_eq_true (by first | (with_reducible assumption) | assumption)
                                have q8 : (ji3) < (a0.size : Int) := of_decide_eq_true (by first | (with_reducible assumption) | assumption)
                                have hx8 := bt_at a0 (ji3)
                                replace p8 := eq_true p8
                                replace q8 := eq_true q8
                                have p28 : 0 ≤ ((ji3) : Int) := of_decide_eq_true (by first | (with_reducible assumption) | assumption)
                                have q28 : (ji3) < (a0.size : Int) := of_decide_eq_true (by first | (with_reducible assumption) | assumption)
                                have hx28 := bt_at a0 (ji3)
                                replace p28 := eq_true p28
                                replace q28 := eq_true q28
                                have p32 : 0 ≤ (x5_1 : Int) := of_decide_eq_true (by first | (with_reducible assumption) | assumption)
                                have q32 : x5_1 < (a0.size : Int) := of_decide_eq_true (by first | (with_reducible assumption) | assumption)
                                have hx32 := bt_at a0 x5_1
                                replace p32 := eq_true p32
                                replace q32 := eq_true q32
                                go_wp2_with (first | (go_at_call 39; (with_reducible refine (damperref1_Name.calls k1 (a0.extract 0 ((ji3) : Int).toNat) false _ A36.out).mono ?_); rintro e w' ⟨rfl, ⟨nd, rfl⟩⟩))
                                go_ret3
                                exact ⟨by first | rfl | (simp; done) | (simp only [← hji3] <;> (first | rfl | simp)) | (simp [*]; done) | (rw [Int.sub_self]; simp [wrap64]; done), by repeat (first | exact Drawn0.refl _ | apply Drawn0.step)⟩
                            · rw [if_neg c35] at H
                              exact absurd H (by simp)
                        · rw [if_neg c31] at H
                          exact absurd H (by simp)
                      · rw [if_neg c30] at H
                        exact absurd H (by simp)
                    · rw [if_neg c29] at H
                      have c29b0 : ((bt a0 (ji3)) == 45) = false := beq_eq_false_iff_ne.mpr c29
                      have c29b1 : ((bt a0 (ji3)) != 45) = true := bne_iff_ne.mpr c29
                      simp only [Option.some.injEq, Prod.mk.injEq] at H
                      obtain ⟨rfl, rfl, rfl⟩ := H
                      have p6 : 0 ≤ ((ji3) : Int) := of_decide_eq_true (by first | (with_reducible assumption) | assumption)
                      have q6 : (ji3) < (a0.size : Int) := of_decide_eq_true (by first | (with_reducible assumption) | assumption)
                      have hx6 := bt_at a0 (ji3)
                      replace p6 := eq_true p6
                      replace q6 := eq_true q6
                      have p8 : 0 ≤ ((ji3) : Int) := of_decide_eq_true (by first | (with_reducible assumption) | assumption)
                      have q8 : (ji3) < (a0.size : Int) := of_decide_eq_true (by first | (with_reducible assumption) | assumption)
                      have hx8 := bt_at a0 (ji3)
                      replace p8 := eq_true p8
                      replace q8 := eq_true q8
                      have p28 : 0 ≤ ((ji3) : Int) := of_decide_eq_true (by first | (with_reducible assumption) | assumption)
                      have q28 : (ji3) < (a0.size : Int) := of_decide_eq_true (by first | (with_reducible assumption) | assumption)
                      have hx28 := bt_at a0 (ji3)
                      replace p28 := eq_true p28
                      replace q28 := eq_true q28
                      go_wp2
                      go_ret3
                      exact ⟨by first | rfl | (simp; done) | (simp only [← hji3] <;> (first | rfl | simp)) | (simp [*]; done) | (rw [Int.sub_self]; simp [wrap64]; done), by repeat (first | exact Drawn0.refl _ | apply Drawn0.step)⟩
            · rw [if_neg c7] at H
              have c7b0 : decide (48 ≤ (bt a0 (ji3))) = false := decide_eq_false c7
              clear c7
              by_cases c40 : x5_1 < 1
              · rw [if_pos c40] at H
                have c40b0 : decide (x5_1 < 1) = true := decide_eq_true c40
                clear c40
                simp only [Option.some.injEq, Prod.mk.injEq] at H
                obtain ⟨rfl, rfl, rfl⟩ := H
                have p6 : 0 ≤ ((ji3) : Int) := of_decide_eq_true (by first | (with_reducible assumption) | assumption)
                have q6 : (ji3) < (a0.size : Int) := of_decide_eq_true (by first | (with_reducible assumption) | assumption)
                have hx6 := bt_at a0 (ji3)
                replace p6 := eq_true p6
                replace q6 := eq_true q6
                go_wp2
                go_ret3
                exact ⟨by first | rfl | (simp; done) | (simp only [← hji3] <;> (first | rfl | simp)) | (simp [*]; done) | (rw [Int.sub_self]; simp [wrap64]; done), by repeat (first | exact Drawn0.refl _ | apply Drawn0.step)⟩
              · rw [if_neg c40] at H
                have c40b0 : decide (x5_1 < 1) = false := decide_eq_false c40
                clear c40
                by_cases c41 : x5_1 = (a0.size : Int)
                · rw [if_pos c41] at H
                  have c41b0 : (x5_1 == (a0.size : Int)) = true := beq_iff_eq.mpr c41
                  have c41b1 : (x5_1 != (a0.size : Int)) = false := bne_eq_false_iff_eq.mpr c41
                  clear c41
                  simp only [Option.some.injEq, Prod.mk.injEq] at H
                  obtain ⟨rfl, rfl, rfl⟩ := H
                  have p6 : 0 ≤ ((ji3) : Int) := of_decide_eq_true (by first | (with_reducible assumption) | assumption)
                  have q6 : (ji3) < (a0.size : Int) := of_decide_eq_true (by first | (with_reducible assumption) | assumption)
                  have hx6 := bt_at a0 (ji3)
                  replace p6 := eq_true p6
                  replace q6 := eq_true q6
                  go_wp2
                  go_ret3
                  exact ⟨by first | rfl | (simp; done) | (simp only [← hji3] <;> (first | rfl | simp)) | (simp [*]; done) | (rw [Int.sub_self]; simp [wrap64]; done), by repeat (first | exact Drawn0.refl _ | apply Drawn0.step)⟩
                · rw [if_neg c41] at H
                  have c41b0 : (x5_1 == (a0.size : Int)) = false := beq_eq_false_iff_ne.mpr c41
                  have c41b1 : (x5_1 != (a0.size : Int)) = true := bne_iff_ne.mpr c41
                  by_cases c43 : (bt a0 (ji3)) = 45
                  · rw [if_pos c43] at H
                    have c43b0 : ((bt a0 (ji3)) == 45) = true := beq_iff_eq.mpr c43
                    have c43b1 : ((bt a0 (ji3)) != 45) = false := bne_eq_false_iff_eq.mpr c43
                    clear c43
                    by_cases c44 : 0 ≤ x5_1
                    · rw [if_pos c44] at H
                      have c44b0 : decide (0 ≤ x5_1) = true := decide_eq_true c44
                      clear c44
                      by_cases c45 : x5_1 < (a0.size : Int)
                      · rw [if_pos c45] at H
                        have c45b0 : decide (x5_1 < (a0.size : Int)) = true := decide_eq_true c45
                        clear c45
                        by_cases c47 : (bt a0 x5_1) = 48
                        · rw [if_pos c47] at H
                          have c47b0 : ((bt a0 x5_1) == 48) = true := beq_iff_eq.mpr c47
                          have c47b1 : ((bt a0 x5_1) != 48) = false := bne_eq_false_iff_eq.mpr c47
                          clear c47
                          simp only [Option.some.injEq, Prod.mk.injEq] at H
                          obtain ⟨rfl, rfl, rfl⟩ := H
                          have p6 : 0 ≤ ((ji3) : Int) := of_decide_eq_true (by first | (with_reducible assumption) | assumption)
                          have q6 : (ji3) < (a0.size : Int) := of_decide_eq_true (by first | (with_reducible assumption) | assumption)
                          have hx6 := bt_at a0 (ji3)
                          replace p6 := eq_true p6
                          replace q6 := eq_true q6
                          have p42 : 0 ≤ ((ji3) : Int) := of_decide_eq_true (by first | (with_reducible assumption) | assumption)
                          have q42 : (ji3) < (a0.size : Int) := of_decide_eq_true (by first | (with_reducible assumption) | assumption)
                          have hx42 := bt_at a0 (ji3)
                          replace p42 := eq_true p42
                          replace q42 := eq_true q42
                          have p46 : 0 ≤ (x5_1 : Int) := of_decide_eq_true (by first | (with_reducible assumption) | assumption)
                          have q46 : x5_1 < (a0.size : Int) := of_decide_eq_true (by first | (with_reducible assumption) | assumption)
                          have hx46 := bt_at a0 x5_1
                          replace p46 := eq_true p46
                          replace q46 := eq_true q46
                          go_wp2
                          go_ret3
                          exact ⟨by first | rfl | (simp; done) | (simp only [← hji3] <;> (first | rfl | simp)) | (simp [*]; done) | (rw [Int.sub_self]; simp [wrap64]; done), by repeat (first | exact Drawn0.refl _ | apply Drawn0.step)⟩
                        · rw [if_neg c47] at H
                          have c47b0 : ((bt a0 x5_1) == 48) = false := beq_eq_false_iff_ne.mpr c47
                          have c47b1 : ((bt a0 x5_1) != 48) = true := bne_iff_ne.mpr c47
                          have c48b0 := eq_true (of_decide_eq_true (by first | (with_reducible assumption) | assumption) : 0 ≤ (ji3))
                          by_cases c49 : (ji3) ≤ (a0.size : Int)
                          · rw [if_pos c49] at H
                            have c49b0 := eq_true c49
                            have c49b1 : decide ((ji3) ≤ (a0.size : Int)) = true := decide_eq_true c49
                            clear c49
                            replace H := Option.bind_eq_some_iff.mp H
                            obtain ⟨t112, A500, H⟩ := H
                            replace H : (if t112 = true then (some (a0.extract 0 ((ji3) : Int).toNat, x6_1, true)) else (some ((⟨#[]⟩ : ByteArray), 0, false))) = some (r1, r2, r3) := H
                            have A50 := Aside0.mk A500
                            clear A500
                            by_cases c51 : t112 = true
                            · subst c51
                              have H1 : (some (a0.extract 0 ((ji3) : Int).toNat, x6_1, true)) = some (r1, r2, r3) := by rw [if_pos rfl] at H; exact H
                              clear H
                              have H := H1
                              clear H1
                              have c52b0 := eq_true (of_decide_eq_true (by first | (with_reducible assumption) | assumption) : 0 ≤ (ji3))
                              have c53b0 := eq_true (of_decide_eq_true (by first | (with_reducible assumption) | assumption) : (ji3) ≤ (a0.size : Int))
                              simp only [Option.some.injEq, Prod.mk.injEq] at H
                              obtain ⟨rfl, rfl, rfl⟩ := H
                              have p6 : 0 ≤ ((ji3) : Int) := of_decide_eq_true (by first | (with_reducible assumption) | assumption)
                              have q6 : (ji3) < (a0.size : Int) := of_decide_eq_true (by first | (with_reducible assumption) | assumption)
                              have hx6 := bt_at a0 (ji3)
                              replace p6 := eq_true p6
                              replace q6 := eq_true q6
                              have p42 : 0 ≤ ((ji3) : Int) := of_decide_eq_true (by first | (with_reducible assumption) | assumption)
                              have q42 : (ji3) < (a0.size : Int) := of_decide_eq_true (by first | (with_reducible assumption) | assumption)
                              have hx42 := bt_at a0 (ji3)
                              replace p42 := eq_true p42
                              replace q42 := eq_true q42
                              have p46 : 0 ≤ (x5_1 : Int) := of_decide_eq_true (by first | (with_reducible assumption) | assumption)
                              have q46 : x5_1 < (a0.size : Int) := of_decide_eq_true (by first | (with_reducible assumption) | assumption)
                              have hx46 := bt_at a0 x5_1
                              replace p46 := eq_true p46
                              replace q46 := eq_true q46
                              go_wp2_with (first | (go_at_call 39; (with_reducible refine (damperref1_Name.calls k1 (a0.extract 0 ((ji3) : Int).toNat) true _ A50.out).mono ?_); rintro e w' ⟨rfl, ⟨nd, rfl⟩⟩))
                              go_ret3
                              exact ⟨by first | rfl | (simp; done) | (simp only [← hji3] <;> (first | rfl | simp)) | (simp [*]; done) | (rw [Int.sub_self]; simp [wrap64]; done), by repeat (first | exact Drawn0.refl _ | apply Drawn0.step)⟩
                            · replace c51 := Bool.eq_false_iff.mpr c51
                              subst c51
                              have H1 : (some ((⟨#[]⟩ : ByteArray), 0, false)) = some (r1, r2, r3) := by rw [if_neg (show ¬ (false = true) by decide)] at H; exact H
                              clear H
                              have H := H1
                              clear H1
                              simp only [Option.some.injEq, Prod.mk.injEq] at H
                              obtain ⟨rfl, rfl, rfl⟩ := H
                              have p6 : 0 ≤ ((ji3) : Int) := of_decide_eq_true (by first | (with_reducible assumption) | assumption)
                              have q6 : (ji3) < (a0.size : Int) := of_decide_eq_true (by first | (with_reducible assumption) | assumption)
                              have hx6 := bt_at a0 (ji3)
                              replace p6 := eq_true p6
                              replace q6 := eq_true q6
                              have p42 : 0 ≤ ((ji3) : Int) := of_decide_eq_true (by first | (with_reducible assumption) | assumption)
                              have q42 : (ji3) < (a0.size : Int) := of_decide_eq_true (by first | (with_reducible assumption) | assumption)
                              have hx42 := bt_at a0 (ji3)
                              replace p42 := eq_true p42
                              replace q42 := eq_true q42
                              have p46 : 0 ≤ (x5_1 : Int) := of_decide_eq_true (by first | (with_reducible assumption) | assumption)
                              have q46 : x5_1 < (a0.size : Int) := of_decide_eq_true (by first | (with_reducible assumption) | assumption)
                              have hx46 := bt_at a0 x5_1
                              replace p46 := eq_true p46
                              replace q46 := eq_true q46
                              go_wp2_with (first | (go_at_call 39; (with_reducible refine (damperref1_Name.calls k1 (a0.extract 0 ((ji3) : Int).toNat) false _ A50.out).mono ?_); rintro e w' ⟨rfl, ⟨nd, rfl⟩⟩))
                              go_ret3
                              exact ⟨by first | rfl | (simp; done) | (simp only [← hji3] <;> (first | rfl | simp)) | (simp [*]; done) | (rw [Int.sub_self]; simp [wrap64]; done), by repeat (first | exact Drawn0.refl _ | apply Drawn0.step)⟩
                          · rw [if_neg c49] at H
                            exact absurd H (by simp)
                      · rw [if_neg c45] at H
                        exact absurd H (by simp)
                    · rw [if_neg c44] at H
                      exact absurd H (by simp)
                  · rw [if_neg c43] at H
                    have c43b0 : ((bt a0 (ji3)) == 45) = false := beq_eq_false_iff_ne.mpr c43
                    have c43b1 : ((bt a0 (ji3)) != 45) = true := bne_iff_ne.mpr c43
                    simp only [Option.some.injEq, Prod.mk.injEq] at H
                    obtain ⟨rfl, rfl, rfl⟩ := H
                    have p6 : 0 ≤ ((ji3) : Int) := of_decide_eq_true (by first | (with_reducible assumption) | assumption)
                    have q6 : (ji3) < (a0.size : Int) := of_decide_eq_true (by first | (with_reducible assumption) | assumption)
                    have hx6 := bt_at a0 (ji3)
                    replace p6 := eq_true p6
                    replace q6 := eq_true q6
                    have p42 : 0 ≤ ((ji3) : Int) := of_decide_eq_true (by first | (with_reducible assumption) | assumption)
                    have q42 : (ji3) < (a0.size : Int) := of_decide_eq_true (by first | (with_reducible assumption) | assumption)
                    have hx42 := bt_at a0 (ji3)
                    replace p42 := eq_true p42
                    replace q42 := eq_true q42
                    go_wp2
                    go_ret3
                    exact ⟨by first | rfl | (simp; done) | (simp only [← hji3] <;> (first | rfl | simp)) | (simp [*]; done) | (rw [Int.sub_self]; simp [wrap64]; done), by repeat (first | exact Drawn0.refl _ | apply Drawn0.step)⟩
          · rw [if_neg c5] at H
            exact absurd H (by simp)
        · rw [if_neg c4] at H
          exact absurd H (by simp)
      · rw [if_neg c2] at H
        have c2b0 : decide (0 < x5_1) = false := decide_eq_false c2
        clear c2
        by_cases c54 : x5_1 < 1
        · rw [if_pos c54] at H
          have c54b0 : decide (x5_1 < 1) = true := decide_eq_true c54
          clear c54
          simp only [Option.some.injEq, Prod.mk.injEq] at H
          obtain ⟨rfl, rfl, rfl⟩ := H
          go_wp2
          go_ret3
          exact ⟨by first | rfl | (simp; done) | (simp [*]; done) | (rw [Int.sub_self]; simp [wrap64]; done), by repeat (first | exact Drawn0.refl _ | apply Drawn0.step)⟩
        · rw [if_neg c54] at H
          have c54b0 : decide (x5_1 < 1) = false := decide_eq_false c54
          clear c54
          by_cases c55 : x5_1 = (a0.size : Int)
          · rw [if_pos c55] at H
            have c55b0 : (x5_1 == (a0.size : Int)) = true := beq_iff_eq.mpr c55
            have c55b1 : (x5_1 != (a0.size : Int)) = false := bne_eq_false_iff_eq.mpr c55
            clear c55
            simp only [Option.some.injEq, Prod.mk.injEq] at H
            obtain ⟨rfl, rfl, rfl⟩ := H
            go_wp2
            go_ret3
            exact ⟨by first | rfl | (simp; done) | (simp [*]; done) | (rw [Int.sub_self]; simp [wrap64]; done), by repeat (first | exact Drawn0.refl _ | apply Drawn0.step)⟩
          · rw [if_neg c55] at H
            have c55b0 : (x5_1 == (a0.size : Int)) = false := beq_eq_false_iff_ne.mpr c55
            have c55b1 : (x5_1 != (a0.size : Int)) = true := bne_iff_ne.mpr c55
            obtain ⟨ji56, hji56⟩ : ∃ j_ : Int, (wrap64 (x5_1 - 1)) = j_ := ⟨_, rfl⟩
            replace H : (if 0 ≤ (ji56) then (if (ji56) < (a0.size : Int) then (if (bt a0 (ji56)) = 45 then (if 0 ≤ x5_1 then (if x5_1 < (a0.size : Int) then (if (bt a0 x5_1) = 48 then (some ((⟨#[]⟩ : ByteArray), 0, false)) else (if (ji56) ≤ (a0.size : Int) then ((damperref1_Name.f k1 (a0.extract 0 ((ji56) : Int).toNat)).bind fun t113 => (if t113 = true then (some (a0.extract 0 ((ji56) : Int).toNat, x6_1, true)) else (some ((⟨#[]⟩ : ByteArray), 0, false)))) else (none))) else (none)) else (none)) else (some ((⟨#[]⟩ : ByteArray), 0, false))) else (none)) else (none)) = some (r1, r2, r3) := by first | (rw [hji56] at H; exact H) | (simp only [hji56] at H ⊢; exact H)
            have hji56w : (IntKind.i64.wrap (x5_1 - 1)) = ji56 := (i64_w _).trans hji56
            by_cases c57 : 0 ≤ (ji56)
            · rw [if_pos c57] at H
              have c57b0 : decide (0 ≤ (ji56)) = true := decide_eq_true c57
              clear c57
              by_cases c58 : (ji56) < (a0.size : Int)
              · rw [if_pos c58] at H
                have c58b0 : decide ((ji56) < (a0.size : Int)) = true := decide_eq_true c58
                clear c58
                by_cases c60 : (bt a0 (ji56)) = 45
                · rw [if_pos c60] at H
                  have c60b0 : ((bt a0 (ji56)) == 45) = true := beq_iff_eq.mpr c60
                  have c60b1 : ((bt a0 (ji56)) != 45) = false := bne_eq_false_iff_eq.mpr c60
                  clear c60
                  by_cases c61 : 0 ≤ x5_1
                  · rw [if_pos c61] at H
                    have c61b0 : decide (0 ≤ x5_1) = true := decide_eq_true c61
                    clear c61
                    by_cases c62 : x5_1 < (a0.size : Int)
                    · rw [if_pos c62] at H
                      have c62b0 : decide (x5_1 < (a0.size : Int)) = true := decide_eq_true c62
                      clear c62
                      by_cases c64 : (bt a0 x5_1) = 48
                      · rw [if_pos c64] at H
                        have c64b0 : ((bt a0 x5_1) == 48) = true := beq_iff_eq.mpr c64
                        have c64b1 : ((bt a0 x5_1) != 48) = false := bne_eq_false_iff_eq.mpr c64
                        clear c64
                        simp only [Option.some.injEq, Prod.mk.injEq] at H
                        obtain ⟨rfl, rfl, rfl⟩ := H
                        have p59 : 0 ≤ ((ji56) : Int) := of_decide_eq_true (by first | (with_reducible assumption) | assumption)
                        have q59 : (ji56) < (a0.size : Int) := of_decide_eq_true (by first | (with_reducible assumption) | assumption)
                        have hx59 := bt_at a0 (ji56)
                        replace p59 := eq_true p59
                        replace q59 := eq_true q59
                        have p63 : 0 ≤ (x5_1 : Int) := of_decide_eq_true (by first | (with_reducible assumption) | assumption)
                        have q63 : x5_1 < (a0.size : Int) := of_decide_eq_true (by first | (with_reducible assumption) | assumption)
                        have hx63 := bt_at a0 x5_1
                        replace p63 := eq_true p63
                        replace q63 := eq_true q63
                        go_wp2
                        go_ret3
                        exact ⟨by first | rfl | (simp; done) | (simp only [← hji56] <;> (first | rfl | simp)) | (simp [*]; done) | (rw [Int.sub_self]; simp [wrap64]; done), by repeat (first | exact Drawn0.refl _ | apply Drawn0.step)⟩
                      · rw [if_neg c64] at H
                        have c64b0 : ((bt a0 x5_1) == 48) = false := beq_eq_false_iff_ne.mpr c64
                        have c64b1 : ((bt a0 x5_1) != 48) = true := bne_iff_ne.mpr c64
                        have c65b0 := eq_true (of_decide_eq_true (by first | (with_reducible assumption) | assumption) : 0 ≤ (ji56))
                        by_cases c66 : (ji56) ≤ (a0.size : Int)
                        · rw [if_pos c66] at H
                          have c66b0 := eq_true c66
                          have c66b1 : decide ((ji56) ≤ (a0.size : Int)) = true := decide_eq_true c66
                          clear c66
                          replace H := Option.bind_eq_some_iff.mp H
                          obtain ⟨t113, A670, H⟩ := H
                          replace H : (if t113 = true then (some (a0.extract 0 ((ji56) : Int).toNat, x6_1, true)) else (some ((⟨#[]⟩ : ByteArray), 0, false))) = some (r1, r2, r3) := H
                          have A67 := Aside0.mk A670
                          clear A670
                          by_cases c68 : t113 = true
                          · subst c68
                            have H1 : (some (a0.extract 0 ((ji56) : Int).toNat, x6_1, true)) = some (r1, r2, r3) := by rw [if_pos rfl] at H; exact H
                            clear H
                            have H := H1
                            clear H1
                            have c69b0 := eq_true (of_decide_eq_true (by first | (with_reducible assumption) | assumption) : 0 ≤ (ji56))
                            have c70b0 := eq_true (of_decide_eq_true (by first | (with_reducible assumption) | assumption) : (ji56) ≤ (a0.size : Int))
                            simp only [Option.some.injEq, Prod.mk.injEq] at H
                            obtain ⟨rfl, rfl, rfl⟩ := H
                            have p59 : 0 ≤ ((ji56) : Int) := of_decide_eq_true (by first | (with_reducible assumption) | assumption)
                            have q59 : (ji56) < (a0.size : Int) := of_decide_eq_true (by first | (with_reducible assumption) | assumption)
                            have hx59 := bt_at a0 (ji56)
                            replace p59 := eq_true p59
                            replace q59 := eq_true q59
                            have p63 : 0 ≤ (x5_1 : Int) := of_decide_eq_true (by first | (with_reducible assumption) | assumption)
                            have q63 : x5_1 < (a0.size : Int) := of_decide_eq_true (by first | (with_reducible assumption) | assumption)
                            have hx63 := bt_at a0 x5_1
                            replace p63 := eq_true p63
                            replace q63 := eq_true q63
                            go_wp2_with (first | (go_at_call 39; (with_reducible refine (damperref1_Name.calls k1 (a0.extract 0 ((ji56) : Int).toNat) true _ A67.out).mono ?_); rintro e w' ⟨rfl, ⟨nd, rfl⟩⟩))
                            go_ret3
                            exact ⟨by first | rfl | (simp; done) | (simp only [← hji56] <;> (first | rfl | simp)) | (simp [*]; done) | (rw [Int.sub_self]; simp [wrap64]; done), by repeat (first | exact Drawn0.refl _ | apply Drawn0.step)⟩
                          · replace c68 := Bool.eq_false_iff.mpr c68
                            subst c68
                            have H1 : (some ((⟨#[]⟩ : ByteArray), 0, false)) = some (r1, r2, r3) := by rw [if_neg (show ¬ (false = true) by decide)] at H; exact H
                            clear H
                            have H := H1
                            clear H1
                            simp only [Option.some.injEq, Prod.mk.injEq] at H
                            obtain ⟨rfl, rfl, rfl⟩ := H
                            have p59 : 0 ≤ ((ji56) : Int) := of_decide_eq_true (by first | (with_reducible assumption) | assumption)
                            have q59 : (ji56) < (a0.size : Int) := of_decide_eq_true (by first | (with_reducible assumption) | assumption)
                            have hx59 := bt_at a0 (ji56)
                            replace p59 := eq_true p59
                            replace q59 := eq_true q59
                            have p63 : 0 ≤ (x5_1 : Int) := of_decide_eq_true (by first | (with_reducible assumption) | assumption)
                            have q63 : x5_1 < (a0.size : Int) := of_decide_eq_true (by first | (with_reducible assumption) | assumption)
                            have hx63 := bt_at a0 x5_1
                            replace p63 := eq_true p63
                            replace q63 := eq_true q63
                            go_wp2_with (first | (go_at_call 39; (with_reducible refine (damperref1_Name.calls k1 (a0.extract 0 ((ji56) : Int).toNat) false _ A67.out).mono ?_); rintro e w' ⟨rfl, ⟨nd, rfl⟩⟩))
                            go_ret3
                            exact ⟨by first | rfl | (simp; done) | (simp only [← hji56] <;> (first | rfl | simp)) | (simp [*]; done) | (rw [Int.sub_self]; simp [wrap64]; done), by repeat (first | exact Drawn0.refl _ | apply Drawn0.step)⟩
                        · rw [if_neg c66] at H
                          exact absurd H (by simp)
                    · rw [if_neg c62] at H
                      exact absurd H (by simp)
                  · rw [if_neg c61] at H
                    exact absurd H (by simp)
                · rw [if_neg c60] at H
                  have c60b0 : ((bt a0 (ji56)) == 45) = false := beq_eq_false_iff_ne.mpr c60
                  have c60b1 : ((bt a0 (ji56)) != 45) = true := bne_iff_ne.mpr c60
                  simp only [Option.some.injEq, Prod.mk.injEq] at H
                  obtain ⟨rfl, rfl, rfl⟩ := H
                  have p59 : 0 ≤ ((ji56) : Int) := of_decide_eq_true (by first | (with_reducible assumption) | assumption)
                  have q59 : (ji56) < (a0.size : Int) := of_decide_eq_true (by first | (with_reducible assumption) | assumption)
                  have hx59 := bt_at a0 (ji56)
                  replace p59 := eq_true p59
                  replace q59 := eq_true q59
                  go_wp2
                  go_ret3
                  exact ⟨by first | rfl | (simp; done) | (simp only [← hji56] <;> (first | rfl | simp)) | (simp [*]; done) | (rw [Int.sub_self]; simp [wrap64]; done), by repeat (first | exact Drawn0.refl _ | apply Drawn0.step)⟩
              · rw [if_neg c58] at H
                exact absurd H (by simp)
            · rw [if_neg c57] at H
              exact absurd H (by simp)

/-! ### damperref5_revision: function 33 -/
def damperref5_revision.f (k : Nat) (a0 : ByteArray) : Option (Bool) := (damperref1_Split.f k a0).bind fun bt114 => (some bt114.2.2)
theorem damperref5_revision.mono : ∀ a0 k, LeO (damperref5_revision.f k a0) (damperref5_revision.f (k + 1) a0) := by
  intro a0 k
  unfold damperref5_revision.f
  repeat' first
      | (with_reducible exact damperref1_Split.mono _ _)
      | (with_reducible exact LeO.refl _)
      | (with_reducible exact LeO.none _)
      | (with_reducible refine LeO.ite ?_ ?_)
      | (with_reducible refine LeO.bind ?_ (fun _ => ?_))
      | exact damperref1_Split.mono _ _
      | exact LeO.none _
      | refine LeO.ite ?_ ?_
      | refine LeO.bind ?_ (fun _ => ?_)
set_option maxHeartbeats 8000000 in
set_option maxRecDepth 100000 in
theorem damperref5_revision.calls (k : Nat) (a0 : ByteArray) (r : Bool) (w : World) (h : damperref5_revision.f k a0 = some r) :
    Calls Tryz.prog 33 #[.string a0] w fun e w' => e = .returned (.bool r) ∧ Drawn0 w w' := by
  have H : ((damperref1_Split.f k a0).bind fun bt114 => (some bt114.2.2)) = some r := h
  clear h
  replace H := Option.bind_eq_some_iff.mp H
  obtain ⟨⟨t114, t115, t116⟩, A20, H⟩ := H
  replace H : (some t116) = some r := H
  have A2 := Aside0.mk A20
  clear A20
  obtain rfl := Option.some.inj H
  go_enter Tryz.func33, Tryz.ntmps33
  go_wp2_with (first | ((with_reducible refine gate_callee (f := 51) rfl ?_); refine goesL_ (some 8) rfl rfl Tryz.func51 (by kernel_rfl) rfl #[.string a0] rfl (by (try simp only [List.map_toArray, List.map_cons, List.map_nil]); first | done | rfl | (simp only [List.length_drop, List.length_take]; rfl)) ?_; (with_reducible refine (damperref1_Split.calls k a0 t114 t115 t116 _ A2.out).mono ?_); rintro e w' ⟨rfl, ⟨nd, rfl⟩⟩; refine ⟨_, rfl, ?_⟩))
  go_ret
  exact ⟨by first | rfl | (simp; done) | (simp [*]; done) | (rw [Int.sub_self]; simp [wrap64]; done), by repeat (first | exact Drawn0.refl _ | apply Drawn0.step)⟩

/-! ### damperref5_Sound: function 34 -/
-- NEEDS Derived.Test.YtnkmpkhiilnigaaGreatDoorGTabs
def damperref5_Sound.f (l0 : List (S51)) : Option (Bool) := if (soundB l0 && l0.all (fun s => damperref5_revision.f 100 s.f0 == some true)) = true then some true else none
theorem damperref5_Sound.calls (A0 : Option Addr) (c0 : Nat) (l0 : List (S51)) (r : Bool) (w : World) (hr0 : Kd.C k51 w A0 l0.length l0) (_hc0 : l0.length ≤ c0) (h : damperref5_Sound.f l0 = some r) :
    Calls Tryz.prog 34 #[.slice A0 l0.length c0] w fun e w' => e = .returned (.bool r) ∧ Below w.heap.size w w' := by
  unfold damperref5_Sound.f at h
  by_cases hc : (soundB l0 && l0.all (fun s => damperref5_revision.f 100 s.f0 == some true)) = true
  · rw [if_pos hc] at h
    obtain rfl : true = r := Option.some.inj h
    simp only [Bool.and_eq_true, List.all_eq_true, beq_iff_eq] at hc
    exact sound_calls A0 c0 l0 w hr0 (soundB_iff.1 hc.1) (fun s hs w => damperref5_revision.calls 100 s.f0 true w (hc.2 s hs))
  · rw [if_neg hc] at h
    cases h

end Go.Proofs.YtnkmpkhiilnigaaGreatDoor.PA
