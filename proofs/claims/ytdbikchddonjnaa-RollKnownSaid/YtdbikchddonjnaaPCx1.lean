-- Printed by a turned copy of the print program: some contracts are given by hand.
import Derived.Test.YtdbikchddonjnaaPCx0
import Derived.Test.YtdbikchddonjnaaKnownW
set_option linter.unusedSimpArgs false
set_option linter.unusedVariables false
namespace Go.Proofs.Ytdbikchddonjnaa.PC
open Go.RowKit Go.Proofs.YtdbikchddonjnaaW.PrintWords Go.Proofs.YtdbikchddonjnaaW.PrintLast Go.Proofs.YtdbikchddonjnaaW.PrintMore
attribute [local go_sem] max2_int min2_int max_two min_two max_three min_three max_four min_four   -- for this text's walks alone

/-! ### damperlaw6_RollKnown: function 8 -/
-- NEEDS Derived.Test.YtdbikchddonjnaaKnownW
def damperlaw6_RollKnown.f (_a0 : Int) : Option (Bool) := some true
theorem damperlaw6_RollKnown.calls (a0 : Int) (r : Bool) (w : World)  (h : damperlaw6_RollKnown.f a0 = some r) :
    Calls Try.prog 8 #[.int .i64 a0] w fun e w' => e = .returned (.bool r) ∧ Below w.heap.size w w' := by
  obtain rfl : true = r := Option.some.inj h
  exact PA.known_law a0 w 

/-- THE ONE PURE STATEMENT of damperlaw6_RollKnown: yours. -/
def damperlaw6_RollKnown.Pure : Prop := ∀ (a0 : Int), (Lit.int .i64 a0).wf = true → damperlaw6_RollKnown.f a0 = some true
theorem damperlaw6_RollKnown.walk (P : damperlaw6_RollKnown.Pure) (a0 : Int) (w : World) (w0 : (Lit.int .i64 a0).wf = true) :
    Calls Try.prog 8 #[.int .i64 a0] w fun e w' => e = .returned (.bool true) ∧ Below w.heap.size w w' := by
  have h := P a0 w0
  refine (damperlaw6_RollKnown.calls a0 true w h).mono ?_
  rintro e w' ⟨rfl, hd⟩
  exact ⟨rfl, hd⟩

end Go.Proofs.Ytdbikchddonjnaa.PC
