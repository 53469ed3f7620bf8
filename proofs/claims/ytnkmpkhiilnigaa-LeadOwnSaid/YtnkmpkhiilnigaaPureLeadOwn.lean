import Derived.Test.YtnkmpkhiilnigaaPHx1
namespace Go.Proofs.Ytnkmpkhiilnigaa.Pure
open Go.RowKit Go.Proofs.Ytnkmpkhiilnigaa.PH Go.Proofs.YtnkmpkhiilnigaaW.PrintWords Go.Proofs.YtnkmpkhiilnigaaW.PrintLast

/-- The theorem that the row asks: the walk (LeadOwnW) bears it. -/
theorem LeadOwn : damperlaw13_LeadOwn.Pure := by
  intro l0 l1 a2 _ _ _ _ _ _ _
  rfl

end Go.Proofs.Ytnkmpkhiilnigaa.Pure
