-- Printed by a turned copy of the print program: some contracts are given by hand.
import Derived.Test.YtnkmpkhiilnigaaDoorProg
import Derived.Below
import Derived.Deep.Draws
import Derived.Deep.AppendLies
import Derived.Maps.AppendAt
import Derived.OwnWalk
import Derived.Laws.BytesArg
import Derived.Laws.MakeOwn
import Derived.Laws.OwnMore
import Derived.Deep.OwnRows
import Derived.Tactics
import Derived.Lib.ConvBytes
import Derived.Laws.Slices
import Derived.WalkKit
import Derived.KernelRfl
import Derived.RowKit3
import Derived.Deep.LoopGhost
import Derived.Deep.QuietTactic
import Derived.BigQuiet
import Derived.WideLaws
import Derived.Deep.DeepCutAuto
import Derived.Deep.CutBlock
import Derived.Deep.RegionHeld3
import Derived.Laws.Rows
import Derived.Lib.AppendStr
import Derived.ArgAppend
import Derived.Laws.IdiomCopy
import Derived.OrdersHeld
import Derived.Laws.BitsLemmas
import Derived.RowKit
import Derived.Test.YtnkmpkhiilnigaaDoorWWords
import Derived.Test.YtnkmpkhiilnigaaDoorWLast
import Derived.Test.YtnkmpkhiilnigaaDoorWTab
import Derived.Test.YtnkmpkhiilnigaaDoorWFour
import Derived.Test.YtnkmpkhiilnigaaDoorWQPut
import Derived.Test.YtnkmpkhiilnigaaDoorWApart
import Derived.Test.YtnkmpkhiilnigaaDoorWArr
import Derived.Test.YtnkmpkhiilnigaaDoorWZeros
import Derived.Test.YtnkmpkhiilnigaaDoorWFoot
import Derived.Test.YtnkmpkhiilnigaaDoorWKept
import Derived.Test.YtnkmpkhiilnigaaDoorWShare
import Derived.Test.YtnkmpkhiilnigaaDoorWN
import Derived.Test.YtnkmpkhiilnigaaDoorWFootNe
import Derived.Test.YtnkmpkhiilnigaaDoorWAt
import Derived.Test.YtnkmpkhiilnigaaDoorWEqStruct
import Derived.Test.YtnkmpkhiilnigaaDoorWRepsOne
import Derived.Test.YtnkmpkhiilnigaaDoorWInv
import Derived.Test.YtnkmpkhiilnigaaDoorWInvWords
import Derived.Test.YtnkmpkhiilnigaaDoorWGuard
import Derived.Test.YtnkmpkhiilnigaaDoorWNEv
import Derived.Test.YtnkmpkhiilnigaaDoorWMore
set_option linter.unusedSimpArgs false
set_option linter.unusedVariables false
namespace Go.Proofs.YtnkmpkhiilnigaaDoor.PB
open Go.RowKit Go.Proofs.YtnkmpkhiilnigaaDoorW.PrintWords Go.Proofs.YtnkmpkhiilnigaaDoorW.PrintLast Go.Proofs.YtnkmpkhiilnigaaDoorW.PrintMore
attribute [local go_sem] max2_int min2_int max_two min_two max_three min_three max_four min_four   -- for this text's walks alone



def errW : Option Int → Value
  | none => .nilIface
  | some c => .iface 0 (.int .i64 c)
theorem errW_none : errW none = .nilIface := rfl
theorem errW_some (c : Int) : errW (some c) = .iface 0 (.int .i64 c) := rfl

theorem info5 : (Tryd.prog.info? 5).map (fun i => (i.zero, i.size, i.bytes)) = some (some (.int .u8 0), 1, 1) := by kernel_rfl
-- the values' own types

end Go.Proofs.YtnkmpkhiilnigaaDoor.PB
