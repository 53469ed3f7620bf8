import Derived.Test.YtdbikchddonjnaaPBx1
namespace Go.Proofs.Ytdbikchddonjnaa.Pure
open Go.RowKit Go.Proofs.Ytdbikchddonjnaa.PB Go.Proofs.YtdbikchddonjnaaW.PrintWords Go.Proofs.YtdbikchddonjnaaW.PrintLast

/-- The theorem that the row asks: the walk (SoundLaw) bears it. -/
theorem RollSound : damperlaw6_RollSound.Pure := by
  intro l0 l1 a2 _ _ _ _ _ _ _
  rfl

end Go.Proofs.Ytdbikchddonjnaa.Pure
