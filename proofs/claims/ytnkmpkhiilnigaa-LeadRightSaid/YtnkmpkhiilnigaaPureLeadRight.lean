import Derived.Test.YtnkmpkhiilnigaaPFx1
namespace Go.Proofs.Ytnkmpkhiilnigaa.Pure
open Go.RowKit Go.Proofs.Ytnkmpkhiilnigaa.PF Go.Proofs.YtnkmpkhiilnigaaW.PrintWords Go.Proofs.YtnkmpkhiilnigaaW.PrintLast

/-- The theorem that the row asks: the walk (LeadRightW) bears it. -/
theorem LeadRight : damperlaw13_LeadRight.Pure := by
  intro l0 l1 a2 l3 _ _ _ _ _ _ _ _ _ _
  rfl

end Go.Proofs.Ytnkmpkhiilnigaa.Pure
