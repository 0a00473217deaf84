-- written by hprint.py (a driver of this session's round the print), from the translation; not trusted: Lean checks it.
import Derived.Test.YtbnniapnbjmbhaaProg
import Derived.Below
import Derived.Deep.Draws
import Derived.Deep.AppendLies
import Derived.Maps.AppendAt
import Derived.OwnWalk
import Derived.Laws.BytesArg
import Derived.Laws.MakeOwn
import Derived.Laws.OwnMore
import Derived.Deep.OwnRows
import Derived.Tactics
import Derived.Lib.ConvBytes
import Derived.Laws.Slices
import Derived.WalkKit
import Derived.KernelRfl
import Derived.RowKit3
import Derived.Deep.LoopGhost
import Derived.Deep.QuietTactic
import Derived.BigQuiet
import Derived.WideLaws
import Derived.Deep.DeepCutAuto
import Derived.Deep.CutBlock
import Derived.Deep.RegionHeld3
import Derived.Laws.Rows
import Derived.Lib.AppendStr
import Derived.ArgAppend
import Derived.Laws.IdiomCopy
import Derived.OrdersHeld
import Derived.Laws.BitsLemmas
import Derived.RowKit
import Derived.Test.YtbnniapnbjmbhaaH
import Derived.Test.YtbnniapnbjmbhaaWWords
import Derived.Test.YtbnniapnbjmbhaaWLast
import Derived.Test.YtbnniapnbjmbhaaWTab
import Derived.Test.YtbnniapnbjmbhaaWFour
import Derived.Test.YtbnniapnbjmbhaaWQPut
import Derived.Test.YtbnniapnbjmbhaaWApart
import Derived.Test.YtbnniapnbjmbhaaWArr
import Derived.Test.YtbnniapnbjmbhaaWZeros
import Derived.Test.YtbnniapnbjmbhaaWFoot
import Derived.Test.YtbnniapnbjmbhaaWKept
import Derived.Test.YtbnniapnbjmbhaaWShare
import Derived.Test.YtbnniapnbjmbhaaWN
import Derived.Test.YtbnniapnbjmbhaaWFootNe
import Derived.Test.YtbnniapnbjmbhaaWAt
import Derived.Test.YtbnniapnbjmbhaaWEqStruct
import Derived.Test.YtbnniapnbjmbhaaWRepsOne
import Derived.Test.YtbnniapnbjmbhaaWInv
import Derived.Test.YtbnniapnbjmbhaaWInvWords
import Derived.Test.YtbnniapnbjmbhaaWGuard
import Derived.Test.YtbnniapnbjmbhaaWNEv
import Derived.Test.YtbnniapnbjmbhaaWMore
namespace Go.Proofs.Ytbnniapnbjmbhaa.PA
open Go.RowKit Go.Proofs.YtbnniapnbjmbhaaW.PrintWords Go.Proofs.YtbnniapnbjmbhaaW.PrintLast Go.Proofs.YtbnniapnbjmbhaaW.PrintMore
attribute [local go_sem] max2_int min2_int max_two min_two max_three min_three max_four min_four   -- for this text's walks alone
set_option linter.unusedVariables false
set_option linter.unusedSimpArgs false



def errW : Option Int → Value
  | none => .nilIface
  | some c => .iface 0 (.int .i64 c)
theorem errW_none : errW none = .nilIface := rfl
theorem errW_some (c : Int) : errW (some c) = .iface 0 (.int .i64 c) := rfl

theorem info5 : (Try.prog.info? 5).map (fun i => (i.zero, i.size, i.bytes)) = some (some (.int .u8 0), 1, 1) := by kernel_rfl
-- the values' own types

end Go.Proofs.Ytbnniapnbjmbhaa.PA
