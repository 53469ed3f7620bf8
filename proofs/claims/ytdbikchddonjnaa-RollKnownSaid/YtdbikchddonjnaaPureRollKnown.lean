import Derived.Test.YtdbikchddonjnaaPCx1
namespace Go.Proofs.Ytdbikchddonjnaa.Pure
open Go.RowKit Go.Proofs.Ytdbikchddonjnaa.PC Go.Proofs.YtdbikchddonjnaaW.PrintWords Go.Proofs.YtdbikchddonjnaaW.PrintLast

/-- The theorem that the row asks: the walk (KnownW) bears it. -/
theorem RollKnown : damperlaw6_RollKnown.Pure := by
  intro a0 _
  rfl

end Go.Proofs.Ytdbikchddonjnaa.Pure
