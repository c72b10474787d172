/- Printed for this claim by a program of the session: contracts of Go functions: a call answers what its Lean function tells, wherever that tells something. -/
import Derived.Test.YtoebcbhadcpcoaaDoorProg
import Derived.Below
import Derived.Deep.Draws
import Derived.Deep.AppendLies
import Derived.Maps.AppendAt
import Derived.OwnWalk
import Derived.Laws.BytesArg
import Derived.Laws.MakeOwn
import Derived.Laws.OwnMore
import Derived.Deep.OwnRows
import Derived.Tactics
import Derived.Lib.ConvBytes
import Derived.Laws.Slices
import Derived.WalkKit
import Derived.KernelRfl
import Derived.RowKit3
import Derived.Deep.LoopGhost
import Derived.Deep.QuietTactic
import Derived.BigQuiet
import Derived.WideLaws
import Derived.Deep.DeepCutAuto
import Derived.Deep.CutBlock
import Derived.Deep.RegionHeld3
import Derived.Laws.Rows
import Derived.Lib.AppendStr
import Derived.ArgAppend
import Derived.Laws.IdiomCopy
import Derived.OrdersHeld
import Derived.Laws.BitsLemmas
import Derived.RowKit
import Derived.Test.YtoebcbhadcpcoaaDoorWWords
import Derived.Test.YtoebcbhadcpcoaaDoorWLast
import Derived.Test.YtoebcbhadcpcoaaDoorWTab
import Derived.Test.YtoebcbhadcpcoaaDoorWFour
import Derived.Test.YtoebcbhadcpcoaaDoorWQPut
import Derived.Test.YtoebcbhadcpcoaaDoorWApart
import Derived.Test.YtoebcbhadcpcoaaDoorWArr
import Derived.Test.YtoebcbhadcpcoaaDoorWZeros
import Derived.Test.YtoebcbhadcpcoaaDoorWFoot
import Derived.Test.YtoebcbhadcpcoaaDoorWKept
import Derived.Test.YtoebcbhadcpcoaaDoorWShare
import Derived.Test.YtoebcbhadcpcoaaDoorWN
import Derived.Test.YtoebcbhadcpcoaaDoorWFootNe
import Derived.Test.YtoebcbhadcpcoaaDoorWAt
import Derived.Test.YtoebcbhadcpcoaaDoorWEqStruct
import Derived.Test.YtoebcbhadcpcoaaDoorWRepsOne
import Derived.Test.YtoebcbhadcpcoaaDoorWInv
import Derived.Test.YtoebcbhadcpcoaaDoorWInvWords
import Derived.Test.YtoebcbhadcpcoaaDoorWGuard
import Derived.Test.YtoebcbhadcpcoaaDoorWNEv
import Derived.Test.YtoebcbhadcpcoaaDoorWMore
namespace Go.Proofs.YtoebcbhadcpcoaaDoor.PA
open Go.RowKit Go.Proofs.YtoebcbhadcpcoaaDoorW.PrintWords Go.Proofs.YtoebcbhadcpcoaaDoorW.PrintLast Go.Proofs.YtoebcbhadcpcoaaDoorW.PrintMore
attribute [local go_sem] max2_int min2_int max_two min_two max_three min_three max_four min_four   -- for this text's walks alone
set_option linter.unusedVariables false
set_option linter.unusedSimpArgs false



def errW : Option Int → Value
  | none => .nilIface
  | some c => .iface 0 (.int .i64 c)
theorem errW_none : errW none = .nilIface := rfl
theorem errW_some (c : Int) : errW (some c) = .iface 0 (.int .i64 c) := rfl

theorem info3 : (Tryd.prog.info? 3).map (fun i => (i.zero, i.size, i.bytes)) = some (some (.int .i64 0), 1, 8) := by kernel_rfl
theorem info5 : (Tryd.prog.info? 5).map (fun i => (i.zero, i.size, i.bytes)) = some (some (.int .u8 0), 1, 1) := by kernel_rfl
theorem info22 : (Tryd.prog.info? 22).map (fun i => (i.zero, i.size, i.bytes)) = some (some (.int .u64 0), 1, 8) := by kernel_rfl
-- the values' own types

end Go.Proofs.YtoebcbhadcpcoaaDoor.PA
