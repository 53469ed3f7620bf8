/- TopStays, evaluated: n leaves 4 by eight, both is true. -/
import Derived.Test.YtgpgiejcnicigaaGreatDoorSumB
import Derived.KernelRfl
namespace Go.Proofs.YtgpgiejcnicigaaGreatDoor.Sm
open Go.Ev
theorem ev4t (X : Blk) : isTrue (run X 4 true) = true := by kernel_rfl
end Go.Proofs.YtgpgiejcnicigaaGreatDoor.Sm
