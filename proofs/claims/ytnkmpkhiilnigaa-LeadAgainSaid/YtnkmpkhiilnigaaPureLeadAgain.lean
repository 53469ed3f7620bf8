import Derived.Test.YtnkmpkhiilnigaaPEx1
namespace Go.Proofs.Ytnkmpkhiilnigaa.Pure
open Go.RowKit Go.Proofs.Ytnkmpkhiilnigaa.PE Go.Proofs.YtnkmpkhiilnigaaW.PrintWords Go.Proofs.YtnkmpkhiilnigaaW.PrintLast

/-- The theorem that the row asks: the walk (LeadAgainW) bears it. -/
theorem LeadAgain : damperlaw13_LeadAgain.Pure := by
  intro l0 l1 l2 a3 _ _ _ _ _ _ _ _ _ _
  rfl

end Go.Proofs.Ytnkmpkhiilnigaa.Pure
