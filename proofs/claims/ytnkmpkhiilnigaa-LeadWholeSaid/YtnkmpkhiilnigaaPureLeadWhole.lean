import Derived.Test.YtnkmpkhiilnigaaPJx1
namespace Go.Proofs.Ytnkmpkhiilnigaa.Pure
open Go.RowKit Go.Proofs.Ytnkmpkhiilnigaa.PJ Go.Proofs.YtnkmpkhiilnigaaW.PrintWords Go.Proofs.YtnkmpkhiilnigaaW.PrintLast

/-- The theorem that the row asks: the walk (LeadWholeW) bears it. -/
theorem LeadWhole : damperlaw13_LeadWhole.Pure := by
  intro l0 l1 a2 a3 a4 l5 _ _ _ _ _ _ _ _ _ _ _ _
  rfl

end Go.Proofs.Ytnkmpkhiilnigaa.Pure
