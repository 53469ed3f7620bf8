/- damperlaw2's Config. -/
import Derived.Test.YtnkmpkhiilnigaaGreatDoorSStepB
set_option linter.unusedSimpArgs false
set_option linter.unusedVariables false
namespace Go.Proofs.YtnkmpkhiilnigaaGreatDoor.PB
open Go.RowKit Go.Shelf Go.Lib Go.Sort Go.Maps Go.Proofs.YtnkmpkhiilnigaaGreatDoorW.PrintWords Go.Proofs.YtnkmpkhiilnigaaGreatDoorW.PrintLast

theorem within2 (a n : Int) (h1 : 1 ≤ n) (h2 : n ≤ 4611686018427387904) : damperlaw2_within.f a n = some (a % n) := within_ex a n h1 h2
def names2 : List ByteArray := [⟨#[119, 101, 98]⟩, ⟨#[97, 112, 105]⟩, ⟨#[97, 45, 98]⟩]
/-- What Config makes. -/
def cfgOf (c : CfgM) (name : Int) : CfgM := ⟨rdOf ByteArray.empty names2 (name % 3), c.img % 256, 1 + c.conc % 8, c.mn % (1 + c.mx % 10 + 1), 1 + c.mx % 10, c.grc % 31⟩
theorem cfgOf_valid (c : CfgM) (name : Int) : ValidN (cfgOf c name).nm := by
  show ValidN (rdOf ByteArray.empty names2 (name % 3))
  have h0 := Int.emod_nonneg name (b := 3) (by omega)
  have h1 := Int.emod_lt_of_pos name (b := 3) (by omega)
  generalize name % 3 = q at h0 h1
  have : q = 0 ∨ q = 1 ∨ q = 2 := by omega
  rcases this with rfl | rfl | rfl
  · exact ⟨by decide, by decide, by decide, by decide, by decide⟩
  · exact ⟨by decide, by decide, by decide, by decide, by decide⟩
  · exact ⟨by decide, by decide, by decide, by decide, by decide⟩
theorem config_f (c : CfgM) (name : Int) : damperlaw2_Config.f c.nm c.img c.conc c.mn c.mx c.grc name = some ((cfgOf c name).nm, (cfgOf c name).img, (cfgOf c name).conc, (cfgOf c name).mn, (cfgOf c name).mx, (cfgOf c name).grc) := by
  have h0 := Int.emod_nonneg name (b := 3) (by omega)
  have h1 := Int.emod_lt_of_pos name (b := 3) (by omega)
  have m0 := Int.emod_nonneg c.mx (b := 10) (by omega)
  have m1 := Int.emod_lt_of_pos c.mx (b := 10) (by omega)
  have k0 := Int.emod_nonneg c.conc (b := 8) (by omega)
  have k1 := Int.emod_lt_of_pos c.conc (b := 8) (by omega)
  have w1 : wrap64 (1 + c.mx % 10) = 1 + c.mx % 10 := w64 (by omega) (by omega)
  have w2 : wrap64 (1 + c.mx % 10 + 1) = 1 + c.mx % 10 + 1 := w64 (by omega) (by omega)
  have w3 : wrap64 (1 + c.conc % 8) = 1 + c.conc % 8 := w64 (by omega) (by omega)
  have e1 := within2 name 3 (by omega) (by omega)
  have e2 := within2 c.img 256 (by omega) (by omega)
  have e3 := within2 c.conc 8 (by omega) (by omega)
  have e4 := within2 c.mx 10 (by omega) (by omega)
  have e5 := within2 c.mn (1 + c.mx % 10 + 1) (by omega) (by omega)
  have e6 := within2 c.grc 31 (by omega) (by omega)
  unfold damperlaw2_Config.f
  rw [Option.bind_some, e1, Option.bind_some, if_pos h0]
  refine (if_pos ?_).trans ?_
  · exact h1
  rw [e2, Option.bind_some, e3, Option.bind_some, e4, Option.bind_some, w1, w2, e5, Option.bind_some, e6, Option.bind_some, w3]
  rfl
theorem cfg_calls (c : CfgM) (name : Int) (w : World) {v : Value} (hv : encC c = v) {r : Value} (hr : encC (cfgOf c name) = r) : Calls Tryz.prog 15 #[v, .int .i64 name] w fun e w' => e = .returned r ∧ Below w.heap.size w w' := by
  subst hv
  subst hr
  exact damperlaw2_Config.calls c.nm c.img c.conc c.mn c.mx c.grc name _ _ _ _ _ _ w (config_f c name)

end Go.Proofs.YtnkmpkhiilnigaaGreatDoor.PB
