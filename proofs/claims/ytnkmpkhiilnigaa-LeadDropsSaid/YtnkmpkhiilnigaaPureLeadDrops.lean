import Derived.Test.YtnkmpkhiilnigaaPIx1
namespace Go.Proofs.Ytnkmpkhiilnigaa.Pure
open Go.RowKit Go.Proofs.Ytnkmpkhiilnigaa.PI Go.Proofs.YtnkmpkhiilnigaaW.PrintWords Go.Proofs.YtnkmpkhiilnigaaW.PrintLast

/-- The theorem that the row asks: the walk (LeadDropsW) bears it. -/
theorem LeadDrops : damperlaw13_LeadDrops.Pure := by
  intro l0 l1 a2 a3 _ _ _ _ _ _ _ _
  rfl

end Go.Proofs.Ytnkmpkhiilnigaa.Pure
