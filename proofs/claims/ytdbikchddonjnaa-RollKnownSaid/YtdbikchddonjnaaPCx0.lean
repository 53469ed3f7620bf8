-- Printed by a turned copy of the print program: some contracts are given by hand.
import Derived.Test.YtdbikchddonjnaaProg
import Derived.Below
import Derived.Deep.Draws
import Derived.Deep.AppendLies
import Derived.Maps.AppendAt
import Derived.OwnWalk
import Derived.Laws.BytesArg
import Derived.Laws.MakeOwn
import Derived.Laws.OwnMore
import Derived.Deep.OwnRows
import Derived.Tactics
import Derived.Lib.ConvBytes
import Derived.Laws.Slices
import Derived.WalkKit
import Derived.KernelRfl
import Derived.RowKit3
import Derived.Deep.LoopGhost
import Derived.Deep.QuietTactic
import Derived.BigQuiet
import Derived.WideLaws
import Derived.Deep.DeepCutAuto
import Derived.Deep.CutBlock
import Derived.Deep.RegionHeld3
import Derived.Laws.Rows
import Derived.Lib.AppendStr
import Derived.ArgAppend
import Derived.Laws.IdiomCopy
import Derived.OrdersHeld
import Derived.Laws.BitsLemmas
import Derived.RowKit
import Derived.Test.YtdbikchddonjnaaWWords
import Derived.Test.YtdbikchddonjnaaWLast
import Derived.Test.YtdbikchddonjnaaWTab
import Derived.Test.YtdbikchddonjnaaWFour
import Derived.Test.YtdbikchddonjnaaWQPut
import Derived.Test.YtdbikchddonjnaaWApart
import Derived.Test.YtdbikchddonjnaaWArr
import Derived.Test.YtdbikchddonjnaaWZeros
import Derived.Test.YtdbikchddonjnaaWFoot
import Derived.Test.YtdbikchddonjnaaWKept
import Derived.Test.YtdbikchddonjnaaWShare
import Derived.Test.YtdbikchddonjnaaWN
import Derived.Test.YtdbikchddonjnaaWFootNe
import Derived.Test.YtdbikchddonjnaaWAt
import Derived.Test.YtdbikchddonjnaaWEqStruct
import Derived.Test.YtdbikchddonjnaaWRepsOne
import Derived.Test.YtdbikchddonjnaaWInv
import Derived.Test.YtdbikchddonjnaaWInvWords
import Derived.Test.YtdbikchddonjnaaWGuard
import Derived.Test.YtdbikchddonjnaaWNEv
import Derived.Test.YtdbikchddonjnaaWMore
set_option linter.unusedSimpArgs false
set_option linter.unusedVariables false
namespace Go.Proofs.Ytdbikchddonjnaa.PC
open Go.RowKit Go.Proofs.YtdbikchddonjnaaW.PrintWords Go.Proofs.YtdbikchddonjnaaW.PrintLast Go.Proofs.YtdbikchddonjnaaW.PrintMore
attribute [local go_sem] max2_int min2_int max_two min_two max_three min_three max_four min_four   -- for this text's walks alone



def errW : Option Int → Value
  | none => .nilIface
  | some c => .iface 0 (.int .i64 c)
theorem errW_none : errW none = .nilIface := rfl
theorem errW_some (c : Int) : errW (some c) = .iface 0 (.int .i64 c) := rfl

-- the values' own types

end Go.Proofs.Ytdbikchddonjnaa.PC
