/- TopStays, evaluated: n leaves 2 by eight, both is true. -/
import Derived.Test.YtgpgiejcnicigaaGreatDoorSumB
import Derived.KernelRfl
namespace Go.Proofs.YtgpgiejcnicigaaGreatDoor.Sm
open Go.Ev
theorem ev2t (X : Blk) : isTrue (run X 2 true) = true := by kernel_rfl
end Go.Proofs.YtgpgiejcnicigaaGreatDoor.Sm
