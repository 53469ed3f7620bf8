-- Printed by a turned copy of the print program: some contracts are given by hand.
import Derived.Test.YtnkmpkhiilnigaaDoorProg
import Derived.Below
import Derived.Deep.Draws
import Derived.Deep.AppendLies
import Derived.Maps.AppendAt
import Derived.OwnWalk
import Derived.Laws.BytesArg
import Derived.Laws.MakeOwn
import Derived.Laws.OwnMore
import Derived.Deep.OwnRows
import Derived.Tactics
import Derived.Lib.ConvBytes
import Derived.Laws.Slices
import Derived.WalkKit
import Derived.KernelRfl
import Derived.RowKit3
import Derived.Deep.LoopGhost
import Derived.Deep.QuietTactic
import Derived.BigQuiet
import Derived.WideLaws
import Derived.Deep.DeepCutAuto
import Derived.Deep.CutBlock
import Derived.Deep.RegionHeld3
import Derived.Laws.Rows
import Derived.Lib.AppendStr
import Derived.ArgAppend
import Derived.Laws.IdiomCopy
import Derived.OrdersHeld
import Derived.Laws.BitsLemmas
import Derived.RowKit
import Derived.Test.YtnkmpkhiilnigaaDoorWWords
import Derived.Test.YtnkmpkhiilnigaaDoorWLast
import Derived.Test.YtnkmpkhiilnigaaDoorWTab
import Derived.Test.YtnkmpkhiilnigaaDoorWFour
import Derived.Test.YtnkmpkhiilnigaaDoorWQPut
import Derived.Test.YtnkmpkhiilnigaaDoorWApart
import Derived.Test.YtnkmpkhiilnigaaDoorWArr
import Derived.Test.YtnkmpkhiilnigaaDoorWZeros
import Derived.Test.YtnkmpkhiilnigaaDoorWFoot
import Derived.Test.YtnkmpkhiilnigaaDoorWKept
import Derived.Test.YtnkmpkhiilnigaaDoorWShare
import Derived.Test.YtnkmpkhiilnigaaDoorWN
import Derived.Test.YtnkmpkhiilnigaaDoorWFootNe
import Derived.Test.YtnkmpkhiilnigaaDoorWAt
import Derived.Test.YtnkmpkhiilnigaaDoorWEqStruct
import Derived.Test.YtnkmpkhiilnigaaDoorWRepsOne
import Derived.Test.YtnkmpkhiilnigaaDoorWInv
import Derived.Test.YtnkmpkhiilnigaaDoorWInvWords
import Derived.Test.YtnkmpkhiilnigaaDoorWGuard
import Derived.Test.YtnkmpkhiilnigaaDoorWNEv
import Derived.Test.YtnkmpkhiilnigaaDoorWMore
set_option linter.unusedSimpArgs false
set_option linter.unusedVariables false
namespace Go.Proofs.YtnkmpkhiilnigaaDoor.PC
open Go.RowKit Go.Proofs.YtnkmpkhiilnigaaDoorW.PrintWords Go.Proofs.YtnkmpkhiilnigaaDoorW.PrintLast Go.Proofs.YtnkmpkhiilnigaaDoorW.PrintMore
attribute [local go_sem] max2_int min2_int max_two min_two max_three min_three max_four min_four   -- for this text's walks alone



def errW : Option Int → Value
  | none => .nilIface
  | some c => .iface 0 (.int .i64 c)
theorem errW_none : errW none = .nilIface := rfl
theorem errW_some (c : Int) : errW (some c) = .iface 0 (.int .i64 c) := rfl

-- the values' own types

end Go.Proofs.YtnkmpkhiilnigaaDoor.PC

-- Printed by a turned copy of the print program: some contracts are given by hand.
set_option linter.unusedSimpArgs false
set_option linter.unusedVariables false
namespace Go.Proofs.YtnkmpkhiilnigaaDoor.PC
open Go.RowKit Go.Proofs.YtnkmpkhiilnigaaDoorW.PrintWords Go.Proofs.YtnkmpkhiilnigaaDoorW.PrintLast Go.Proofs.YtnkmpkhiilnigaaDoorW.PrintMore
attribute [local go_sem] max2_int min2_int max_two min_two max_three min_three max_four min_four   -- for this text's walks alone

/-! ### api_early: function 26 -/
def api_early.f (a0 : Int) : Option (ByteArray) := if a0 = 0 then (some (⟨#[111, 107]⟩ : ByteArray)) else (if a0 = 1 then (some (⟨#[110, 97, 109, 101]⟩ : ByteArray)) else (if a0 = 2 then (some (⟨#[97, 114, 103]⟩ : ByteArray)) else (if a0 = 3 then (some (⟨#[108, 111, 110, 103]⟩ : ByteArray)) else (if a0 = 4 then (some (⟨#[115, 117, 109]⟩ : ByteArray)) else (if a0 = 5 then (some (⟨#[116, 119, 105, 99, 101]⟩ : ByteArray)) else (if a0 = 6 then (some (⟨#[110, 111, 110, 101]⟩ : ByteArray)) else (some (⟨#[101, 114, 114, 111, 114]⟩ : ByteArray))))))))
set_option maxHeartbeats 8000000 in
set_option maxRecDepth 100000 in
theorem api_early.calls (a0 : Int) (r : ByteArray) (w : World) (h : api_early.f a0 = some r) :
    Calls Tryd.prog 26 #[.int .i64 a0] w fun e w' => e = .returned (.string r) ∧ Drawn0 w w' := by
  have H : (if a0 = 0 then (some (⟨#[111, 107]⟩ : ByteArray)) else (if a0 = 1 then (some (⟨#[110, 97, 109, 101]⟩ : ByteArray)) else (if a0 = 2 then (some (⟨#[97, 114, 103]⟩ : ByteArray)) else (if a0 = 3 then (some (⟨#[108, 111, 110, 103]⟩ : ByteArray)) else (if a0 = 4 then (some (⟨#[115, 117, 109]⟩ : ByteArray)) else (if a0 = 5 then (some (⟨#[116, 119, 105, 99, 101]⟩ : ByteArray)) else (if a0 = 6 then (some (⟨#[110, 111, 110, 101]⟩ : ByteArray)) else (some (⟨#[101, 114, 114, 111, 114]⟩ : ByteArray))))))))) = some r := h
  clear h
  by_cases c2 : a0 = 0
  · rw [if_pos c2] at H
    have c2b0 : (a0 == 0) = true := beq_iff_eq.mpr c2
    have c2b1 : (a0 != 0) = false := bne_eq_false_iff_eq.mpr c2
    clear c2
    obtain rfl := Option.some.inj H
    go_enter Tryd.func26, Tryd.ntmps26
    go_wp2
    go_ret
    exact ⟨by first | rfl | (simp; done) | (simp [*]; done) | (rw [Int.sub_self]; simp [wrap64]; done), by repeat (first | exact Drawn0.refl _ | apply Drawn0.step)⟩
  · rw [if_neg c2] at H
    have c2b0 : (a0 == 0) = false := beq_eq_false_iff_ne.mpr c2
    have c2b1 : (a0 != 0) = true := bne_iff_ne.mpr c2
    by_cases c3 : a0 = 1
    · rw [if_pos c3] at H
      have c3b0 : (a0 == 1) = true := beq_iff_eq.mpr c3
      have c3b1 : (a0 != 1) = false := bne_eq_false_iff_eq.mpr c3
      clear c3
      obtain rfl := Option.some.inj H
      go_enter Tryd.func26, Tryd.ntmps26
      go_wp2
      go_ret
      exact ⟨by first | rfl | (simp; done) | (simp [*]; done) | (rw [Int.sub_self]; simp [wrap64]; done), by repeat (first | exact Drawn0.refl _ | apply Drawn0.step)⟩
    · rw [if_neg c3] at H
      have c3b0 : (a0 == 1) = false := beq_eq_false_iff_ne.mpr c3
      have c3b1 : (a0 != 1) = true := bne_iff_ne.mpr c3
      by_cases c4 : a0 = 2
      · rw [if_pos c4] at H
        have c4b0 : (a0 == 2) = true := beq_iff_eq.mpr c4
        have c4b1 : (a0 != 2) = false := bne_eq_false_iff_eq.mpr c4
        clear c4
        obtain rfl := Option.some.inj H
        go_enter Tryd.func26, Tryd.ntmps26
        go_wp2
        go_ret
        exact ⟨by first | rfl | (simp; done) | (simp [*]; done) | (rw [Int.sub_self]; simp [wrap64]; done), by repeat (first | exact Drawn0.refl _ | apply Drawn0.step)⟩
      · rw [if_neg c4] at H
        have c4b0 : (a0 == 2) = false := beq_eq_false_iff_ne.mpr c4
        have c4b1 : (a0 != 2) = true := bne_iff_ne.mpr c4
        by_cases c5 : a0 = 3
        · rw [if_pos c5] at H
          have c5b0 : (a0 == 3) = true := beq_iff_eq.mpr c5
          have c5b1 : (a0 != 3) = false := bne_eq_false_iff_eq.mpr c5
          clear c5
          obtain rfl := Option.some.inj H
          go_enter Tryd.func26, Tryd.ntmps26
          go_wp2
          go_ret
          exact ⟨by first | rfl | (simp; done) | (simp [*]; done) | (rw [Int.sub_self]; simp [wrap64]; done), by repeat (first | exact Drawn0.refl _ | apply Drawn0.step)⟩
        · rw [if_neg c5] at H
          have c5b0 : (a0 == 3) = false := beq_eq_false_iff_ne.mpr c5
          have c5b1 : (a0 != 3) = true := bne_iff_ne.mpr c5
          by_cases c6 : a0 = 4
          · rw [if_pos c6] at H
            have c6b0 : (a0 == 4) = true := beq_iff_eq.mpr c6
            have c6b1 : (a0 != 4) = false := bne_eq_false_iff_eq.mpr c6
            clear c6
            obtain rfl := Option.some.inj H
            go_enter Tryd.func26, Tryd.ntmps26
            go_wp2
            go_ret
            exact ⟨by first | rfl | (simp; done) | (simp [*]; done) | (rw [Int.sub_self]; simp [wrap64]; done), by repeat (first | exact Drawn0.refl _ | apply Drawn0.step)⟩
          · rw [if_neg c6] at H
            have c6b0 : (a0 == 4) = false := beq_eq_false_iff_ne.mpr c6
            have c6b1 : (a0 != 4) = true := bne_iff_ne.mpr c6
            by_cases c7 : a0 = 5
            · rw [if_pos c7] at H
              have c7b0 : (a0 == 5) = true := beq_iff_eq.mpr c7
              have c7b1 : (a0 != 5) = false := bne_eq_false_iff_eq.mpr c7
              clear c7
              obtain rfl := Option.some.inj H
              go_enter Tryd.func26, Tryd.ntmps26
              go_wp2
              go_ret
              exact ⟨by first | rfl | (simp; done) | (simp [*]; done) | (rw [Int.sub_self]; simp [wrap64]; done), by repeat (first | exact Drawn0.refl _ | apply Drawn0.step)⟩
            · rw [if_neg c7] at H
              have c7b0 : (a0 == 5) = false := beq_eq_false_iff_ne.mpr c7
              have c7b1 : (a0 != 5) = true := bne_iff_ne.mpr c7
              by_cases c8 : a0 = 6
              · rw [if_pos c8] at H
                have c8b0 : (a0 == 6) = true := beq_iff_eq.mpr c8
                have c8b1 : (a0 != 6) = false := bne_eq_false_iff_eq.mpr c8
                clear c8
                obtain rfl := Option.some.inj H
                go_enter Tryd.func26, Tryd.ntmps26
                go_wp2
                go_ret
                exact ⟨by first | rfl | (simp; done) | (simp [*]; done) | (rw [Int.sub_self]; simp [wrap64]; done), by repeat (first | exact Drawn0.refl _ | apply Drawn0.step)⟩
              · rw [if_neg c8] at H
                have c8b0 : (a0 == 6) = false := beq_eq_false_iff_ne.mpr c8
                have c8b1 : (a0 != 6) = true := bne_iff_ne.mpr c8
                obtain rfl := Option.some.inj H
                go_enter Tryd.func26, Tryd.ntmps26
                go_wp2
                go_ret
                exact ⟨by first | rfl | (simp; done) | (simp [*]; done) | (rw [Int.sub_self]; simp [wrap64]; done), by repeat (first | exact Drawn0.refl _ | apply Drawn0.step)⟩

/-! ### api_late: function 27 -/
def api_late.f (a0 : Int) : Option (ByteArray) := if a0 = 7 then (some (⟨#[115, 116, 97, 108, 101]⟩ : ByteArray)) else (if a0 = 8 then (some (⟨#[102, 117, 108, 108]⟩ : ByteArray)) else (if a0 = 9 then (some (⟨#[115, 116, 97, 116, 101]⟩ : ByteArray)) else (if a0 = 10 then (some (⟨#[99, 117, 116]⟩ : ByteArray)) else (if a0 = 11 then (some (⟨#[109, 111, 114, 101]⟩ : ByteArray)) else (if a0 = 12 then (some (⟨#[107, 105, 110, 100]⟩ : ByteArray)) else (some (⟨#[101, 114, 114, 111, 114]⟩ : ByteArray)))))))
set_option maxHeartbeats 8000000 in
set_option maxRecDepth 100000 in
theorem api_late.calls (a0 : Int) (r : ByteArray) (w : World) (h : api_late.f a0 = some r) :
    Calls Tryd.prog 27 #[.int .i64 a0] w fun e w' => e = .returned (.string r) ∧ Drawn0 w w' := by
  have H : (if a0 = 7 then (some (⟨#[115, 116, 97, 108, 101]⟩ : ByteArray)) else (if a0 = 8 then (some (⟨#[102, 117, 108, 108]⟩ : ByteArray)) else (if a0 = 9 then (some (⟨#[115, 116, 97, 116, 101]⟩ : ByteArray)) else (if a0 = 10 then (some (⟨#[99, 117, 116]⟩ : ByteArray)) else (if a0 = 11 then (some (⟨#[109, 111, 114, 101]⟩ : ByteArray)) else (if a0 = 12 then (some (⟨#[107, 105, 110, 100]⟩ : ByteArray)) else (some (⟨#[101, 114, 114, 111, 114]⟩ : ByteArray)))))))) = some r := h
  clear h
  by_cases c2 : a0 = 7
  · rw [if_pos c2] at H
    have c2b0 : (a0 == 7) = true := beq_iff_eq.mpr c2
    have c2b1 : (a0 != 7) = false := bne_eq_false_iff_eq.mpr c2
    clear c2
    obtain rfl := Option.some.inj H
    go_enter Tryd.func27, Tryd.ntmps27
    go_wp2
    go_ret
    exact ⟨by first | rfl | (simp; done) | (simp [*]; done) | (rw [Int.sub_self]; simp [wrap64]; done), by repeat (first | exact Drawn0.refl _ | apply Drawn0.step)⟩
  · rw [if_neg c2] at H
    have c2b0 : (a0 == 7) = false := beq_eq_false_iff_ne.mpr c2
    have c2b1 : (a0 != 7) = true := bne_iff_ne.mpr c2
    by_cases c3 : a0 = 8
    · rw [if_pos c3] at H
      have c3b0 : (a0 == 8) = true := beq_iff_eq.mpr c3
      have c3b1 : (a0 != 8) = false := bne_eq_false_iff_eq.mpr c3
      clear c3
      obtain rfl := Option.some.inj H
      go_enter Tryd.func27, Tryd.ntmps27
      go_wp2
      go_ret
      exact ⟨by first | rfl | (simp; done) | (simp [*]; done) | (rw [Int.sub_self]; simp [wrap64]; done), by repeat (first | exact Drawn0.refl _ | apply Drawn0.step)⟩
    · rw [if_neg c3] at H
      have c3b0 : (a0 == 8) = false := beq_eq_false_iff_ne.mpr c3
      have c3b1 : (a0 != 8) = true := bne_iff_ne.mpr c3
      by_cases c4 : a0 = 9
      · rw [if_pos c4] at H
        have c4b0 : (a0 == 9) = true := beq_iff_eq.mpr c4
        have c4b1 : (a0 != 9) = false := bne_eq_false_iff_eq.mpr c4
        clear c4
        obtain rfl := Option.some.inj H
        go_enter Tryd.func27, Tryd.ntmps27
        go_wp2
        go_ret
        exact ⟨by first | rfl | (simp; done) | (simp [*]; done) | (rw [Int.sub_self]; simp [wrap64]; done), by repeat (first | exact Drawn0.refl _ | apply Drawn0.step)⟩
      · rw [if_neg c4] at H
        have c4b0 : (a0 == 9) = false := beq_eq_false_iff_ne.mpr c4
        have c4b1 : (a0 != 9) = true := bne_iff_ne.mpr c4
        by_cases c5 : a0 = 10
        · rw [if_pos c5] at H
          have c5b0 : (a0 == 10) = true := beq_iff_eq.mpr c5
          have c5b1 : (a0 != 10) = false := bne_eq_false_iff_eq.mpr c5
          clear c5
          obtain rfl := Option.some.inj H
          go_enter Tryd.func27, Tryd.ntmps27
          go_wp2
          go_ret
          exact ⟨by first | rfl | (simp; done) | (simp [*]; done) | (rw [Int.sub_self]; simp [wrap64]; done), by repeat (first | exact Drawn0.refl _ | apply Drawn0.step)⟩
        · rw [if_neg c5] at H
          have c5b0 : (a0 == 10) = false := beq_eq_false_iff_ne.mpr c5
          have c5b1 : (a0 != 10) = true := bne_iff_ne.mpr c5
          by_cases c6 : a0 = 11
          · rw [if_pos c6] at H
            have c6b0 : (a0 == 11) = true := beq_iff_eq.mpr c6
            have c6b1 : (a0 != 11) = false := bne_eq_false_iff_eq.mpr c6
            clear c6
            obtain rfl := Option.some.inj H
            go_enter Tryd.func27, Tryd.ntmps27
            go_wp2
            go_ret
            exact ⟨by first | rfl | (simp; done) | (simp [*]; done) | (rw [Int.sub_self]; simp [wrap64]; done), by repeat (first | exact Drawn0.refl _ | apply Drawn0.step)⟩
          · rw [if_neg c6] at H
            have c6b0 : (a0 == 11) = false := beq_eq_false_iff_ne.mpr c6
            have c6b1 : (a0 != 11) = true := bne_iff_ne.mpr c6
            by_cases c7 : a0 = 12
            · rw [if_pos c7] at H
              have c7b0 : (a0 == 12) = true := beq_iff_eq.mpr c7
              have c7b1 : (a0 != 12) = false := bne_eq_false_iff_eq.mpr c7
              clear c7
              obtain rfl := Option.some.inj H
              go_enter Tryd.func27, Tryd.ntmps27
              go_wp2
              go_ret
              exact ⟨by first | rfl | (simp; done) | (simp [*]; done) | (rw [Int.sub_self]; simp [wrap64]; done), by repeat (first | exact Drawn0.refl _ | apply Drawn0.step)⟩
            · rw [if_neg c7] at H
              have c7b0 : (a0 == 12) = false := beq_eq_false_iff_ne.mpr c7
              have c7b1 : (a0 != 12) = true := bne_iff_ne.mpr c7
              obtain rfl := Option.some.inj H
              go_enter Tryd.func27, Tryd.ntmps27
              go_wp2
              go_ret
              exact ⟨by first | rfl | (simp; done) | (simp [*]; done) | (rw [Int.sub_self]; simp [wrap64]; done), by repeat (first | exact Drawn0.refl _ | apply Drawn0.step)⟩

/-! ### api_Errno_Error: function 13 -/
def api_Errno_Error.f (a0 : Int) : Option (ByteArray) := if a0 ≤ 6 then ((api_early.f a0).bind fun t101 => (some t101)) else ((api_late.f a0).bind fun t102 => (some t102))
set_option maxHeartbeats 8000000 in
set_option maxRecDepth 100000 in
theorem api_Errno_Error.calls (a0 : Int) (r : ByteArray) (w : World) (h : api_Errno_Error.f a0 = some r) :
    Calls Tryd.prog 13 #[.int .i64 a0] w fun e w' => e = .returned (.string r) ∧ Drawn0 w w' := by
  have H : (if a0 ≤ 6 then ((api_early.f a0).bind fun t101 => (some t101)) else ((api_late.f a0).bind fun t102 => (some t102))) = some r := h
  clear h
  by_cases c2 : a0 ≤ 6
  · rw [if_pos c2] at H
    have c2b0 : decide (a0 ≤ 6) = true := decide_eq_true c2
    clear c2
    replace H := Option.bind_eq_some_iff.mp H
    obtain ⟨t101, A30, H⟩ := H
    replace H : (some t101) = some r := H
    have A3 := Aside0.mk A30
    clear A30
    obtain rfl := Option.some.inj H
    go_enter Tryd.func13, Tryd.ntmps13
    go_wp2_with (first | ((with_reducible refine gate_callee (f := 26) rfl ?_); refine goesL_ (some 6) rfl rfl Tryd.func26 (by kernel_rfl) rfl #[.int .i64 a0] rfl (by (try simp only [List.map_toArray, List.map_cons, List.map_nil]); first | done | rfl | (simp only [List.length_drop, List.length_take]; rfl)) ?_; (with_reducible refine (api_early.calls a0 t101 _ A3.out).mono ?_); rintro e w' ⟨rfl, ⟨nd, rfl⟩⟩; refine ⟨_, rfl, ?_⟩))
    go_ret
    exact ⟨by first | rfl | (simp; done) | (simp [*]; done) | (rw [Int.sub_self]; simp [wrap64]; done), by repeat (first | exact Drawn0.refl _ | apply Drawn0.step)⟩
  · rw [if_neg c2] at H
    have c2b0 : decide (a0 ≤ 6) = false := decide_eq_false c2
    clear c2
    replace H := Option.bind_eq_some_iff.mp H
    obtain ⟨t102, A40, H⟩ := H
    replace H : (some t102) = some r := H
    have A4 := Aside0.mk A40
    clear A40
    obtain rfl := Option.some.inj H
    go_enter Tryd.func13, Tryd.ntmps13
    go_wp2_with (first | ((with_reducible refine gate_callee (f := 27) rfl ?_); refine goesL_ (some 8) rfl rfl Tryd.func27 (by kernel_rfl) rfl #[.int .i64 a0] rfl (by (try simp only [List.map_toArray, List.map_cons, List.map_nil]); first | done | rfl | (simp only [List.length_drop, List.length_take]; rfl)) ?_; (with_reducible refine (api_late.calls a0 t102 _ A4.out).mono ?_); rintro e w' ⟨rfl, ⟨nd, rfl⟩⟩; refine ⟨_, rfl, ?_⟩))
    go_ret
    exact ⟨by first | rfl | (simp; done) | (simp [*]; done) | (rw [Int.sub_self]; simp [wrap64]; done), by repeat (first | exact Drawn0.refl _ | apply Drawn0.step)⟩

end Go.Proofs.YtnkmpkhiilnigaaDoor.PC
