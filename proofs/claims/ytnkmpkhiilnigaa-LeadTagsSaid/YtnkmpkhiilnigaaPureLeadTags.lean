import Derived.Test.YtnkmpkhiilnigaaPGx1
namespace Go.Proofs.Ytnkmpkhiilnigaa.Pure
open Go.RowKit Go.Proofs.Ytnkmpkhiilnigaa.PG Go.Proofs.YtnkmpkhiilnigaaW.PrintWords Go.Proofs.YtnkmpkhiilnigaaW.PrintLast

/-- The theorem that the row asks: the walk (LeadTagsW) bears it. -/
theorem LeadTags : damperlaw13_LeadTags.Pure := by
  intro l0 l1 l2 l3 a4 _ _ _ _ _ _ _ _ _ _ _ _ _
  rfl

end Go.Proofs.Ytnkmpkhiilnigaa.Pure
