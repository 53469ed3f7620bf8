-- Printed by a turned copy of the print program: some contracts are given by hand.
import Derived.Test.YtmiojmnifnnncaaDoorProg
import Derived.Below
import Derived.Deep.Draws
import Derived.Deep.AppendLies
import Derived.Maps.AppendAt
import Derived.OwnWalk
import Derived.Laws.BytesArg
import Derived.Laws.MakeOwn
import Derived.Laws.OwnMore
import Derived.Deep.OwnRows
import Derived.Tactics
import Derived.Lib.ConvBytes
import Derived.Laws.Slices
import Derived.WalkKit
import Derived.KernelRfl
import Derived.RowKit3
import Derived.Deep.LoopGhost
import Derived.Deep.QuietTactic
import Derived.BigQuiet
import Derived.WideLaws
import Derived.Deep.DeepCutAuto
import Derived.Deep.CutBlock
import Derived.Deep.RegionHeld3
import Derived.Laws.Rows
import Derived.Lib.AppendStr
import Derived.ArgAppend
import Derived.Laws.IdiomCopy
import Derived.OrdersHeld
import Derived.Laws.BitsLemmas
import Derived.RowKit
import Derived.Test.YtmiojmnifnnncaaDoorWWords
import Derived.Test.YtmiojmnifnnncaaDoorWLast
import Derived.Test.YtmiojmnifnnncaaDoorWTab
import Derived.Test.YtmiojmnifnnncaaDoorWFour
import Derived.Test.YtmiojmnifnnncaaDoorWQPut
import Derived.Test.YtmiojmnifnnncaaDoorWApart
import Derived.Test.YtmiojmnifnnncaaDoorWArr
import Derived.Test.YtmiojmnifnnncaaDoorWZeros
import Derived.Test.YtmiojmnifnnncaaDoorWFoot
import Derived.Test.YtmiojmnifnnncaaDoorWKept
import Derived.Test.YtmiojmnifnnncaaDoorWShare
import Derived.Test.YtmiojmnifnnncaaDoorWN
import Derived.Test.YtmiojmnifnnncaaDoorWFootNe
import Derived.Test.YtmiojmnifnnncaaDoorWAt
import Derived.Test.YtmiojmnifnnncaaDoorWEqStruct
import Derived.Test.YtmiojmnifnnncaaDoorWRepsOne
import Derived.Test.YtmiojmnifnnncaaDoorWInv
import Derived.Test.YtmiojmnifnnncaaDoorWInvWords
import Derived.Test.YtmiojmnifnnncaaDoorWGuard
import Derived.Test.YtmiojmnifnnncaaDoorWNEv
import Derived.Test.YtmiojmnifnnncaaDoorWMore
set_option linter.unusedSimpArgs false
set_option linter.unusedVariables false
namespace Go.Proofs.YtmiojmnifnnncaaDoor.PA
open Go.RowKit Go.Proofs.YtmiojmnifnnncaaDoorW.PrintWords Go.Proofs.YtmiojmnifnnncaaDoorW.PrintLast Go.Proofs.YtmiojmnifnnncaaDoorW.PrintMore
attribute [local go_sem] max2_int min2_int max_two min_two max_three min_three max_four min_four   -- for this text's walks alone



def errW : Option Int → Value
  | none => .nilIface
  | some c => .iface 0 (.int .i64 c)
theorem errW_none : errW none = .nilIface := rfl
theorem errW_some (c : Int) : errW (some c) = .iface 0 (.int .i64 c) := rfl

theorem info5 : (Tryd.prog.info? 5).map (fun i => (i.zero, i.size, i.bytes)) = some (some (.int .u8 0), 1, 1) := by kernel_rfl
theorem info9 : (Tryd.prog.info? 9).map (fun i => (i.zero, i.size, i.bytes)) = some (some (.string ⟨#[]⟩), 1, 16) := by kernel_rfl
-- the values' own types

end Go.Proofs.YtmiojmnifnnncaaDoor.PA
