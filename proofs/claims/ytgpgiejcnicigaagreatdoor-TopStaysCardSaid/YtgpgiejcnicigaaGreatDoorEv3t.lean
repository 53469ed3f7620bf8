/- TopStays, evaluated: n leaves 3 by eight, both is true. -/
import Derived.Test.YtgpgiejcnicigaaGreatDoorSumB
import Derived.KernelRfl
namespace Go.Proofs.YtgpgiejcnicigaaGreatDoor.Sm
open Go.Ev
theorem ev3t (X : Blk) : isTrue (run X 3 true) = true := by kernel_rfl
end Go.Proofs.YtgpgiejcnicigaaGreatDoor.Sm
