/- Written by a program of this session (wip/tools/mk.py) out of the kit's printing programs and of texts of our own: the contracts of the Go functions that the law goes through, and the row of the law. No condition is added. -/
import Derived.Test.YtcjnbcfhbiijbaaProg
import Derived.Below
import Derived.Deep.Draws
import Derived.Deep.AppendLies
import Derived.Maps.AppendAt
import Derived.OwnWalk
import Derived.Laws.BytesArg
import Derived.Laws.MakeOwn
import Derived.Laws.OwnMore
import Derived.Deep.OwnRows
import Derived.Tactics
import Derived.Lib.ConvBytes
import Derived.Laws.Slices
import Derived.WalkKit
import Derived.KernelRfl
import Derived.RowKit3
import Derived.Deep.LoopGhost
import Derived.Deep.QuietTactic
import Derived.BigQuiet
import Derived.WideLaws
import Derived.Deep.DeepCutAuto
import Derived.Deep.CutBlock
import Derived.Deep.RegionHeld3
import Derived.Laws.Rows
import Derived.Lib.AppendStr
import Derived.ArgAppend
import Derived.Laws.IdiomCopy
import Derived.OrdersHeld
import Derived.Laws.BitsLemmas
import Derived.RowKit
import Derived.Lib.SlBytesConst
import Derived.Test.YtcjnbcfhbiijbaaWWords
import Derived.Test.YtcjnbcfhbiijbaaWLast
import Derived.Test.YtcjnbcfhbiijbaaWTab
import Derived.Test.YtcjnbcfhbiijbaaWFour
import Derived.Test.YtcjnbcfhbiijbaaWQPut
import Derived.Test.YtcjnbcfhbiijbaaWApart
import Derived.Test.YtcjnbcfhbiijbaaWArr
import Derived.Test.YtcjnbcfhbiijbaaWZeros
import Derived.Test.YtcjnbcfhbiijbaaWFoot
import Derived.Test.YtcjnbcfhbiijbaaWKept
import Derived.Test.YtcjnbcfhbiijbaaWShare
import Derived.Test.YtcjnbcfhbiijbaaWN
import Derived.Test.YtcjnbcfhbiijbaaWFootNe
import Derived.Test.YtcjnbcfhbiijbaaWAt
import Derived.Test.YtcjnbcfhbiijbaaWEqStruct
import Derived.Test.YtcjnbcfhbiijbaaWRepsOne
import Derived.Test.YtcjnbcfhbiijbaaWInv
import Derived.Test.YtcjnbcfhbiijbaaWInvWords
import Derived.Test.YtcjnbcfhbiijbaaWGuard
import Derived.Test.YtcjnbcfhbiijbaaWNEv
import Derived.Test.YtcjnbcfhbiijbaaWMore
namespace Go.Proofs.Ytcjnbcfhbiijbaa.QCrcParts
open Go.RowKit Go.Proofs.YtcjnbcfhbiijbaaW.PrintWords Go.Proofs.YtcjnbcfhbiijbaaW.PrintLast Go.Proofs.YtcjnbcfhbiijbaaW.PrintMore
attribute [local go_sem] max2_int min2_int max_two min_two max_three min_three max_four min_four   -- for this text's walks alone
set_option linter.unusedVariables false
set_option linter.unusedSimpArgs false



def errW : Option Int → Value
  | none => .nilIface
  | some c => .iface 0 (.int .i64 c)
theorem errW_none : errW none = .nilIface := rfl
theorem errW_some (c : Int) : errW (some c) = .iface 0 (.int .i64 c) := rfl

theorem info5 : (Try.prog.info? 5).map (fun i => (i.zero, i.size, i.bytes)) = some (some (.int .u8 0), 1, 1) := by kernel_rfl
-- the values' own types

end Go.Proofs.Ytcjnbcfhbiijbaa.QCrcParts
