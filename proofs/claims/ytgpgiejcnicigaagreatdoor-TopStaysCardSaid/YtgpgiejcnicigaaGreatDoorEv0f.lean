/- TopStays, evaluated: n leaves 0 by eight, both is false. -/
import Derived.Test.YtgpgiejcnicigaaGreatDoorSumB
import Derived.KernelRfl
namespace Go.Proofs.YtgpgiejcnicigaaGreatDoor.Sm
open Go.Ev
theorem ev0f (X : Blk) : isTrue (run X 0 false) = true := by kernel_rfl
end Go.Proofs.YtgpgiejcnicigaaGreatDoor.Sm
