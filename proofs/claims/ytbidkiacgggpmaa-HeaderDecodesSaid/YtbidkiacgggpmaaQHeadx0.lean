/- Written by a program of this session (wip/tools/mk.py) out of the kit's printing programs and of texts of our own: the contracts of the Go functions that the law goes through, and the row of the law. No condition is added. -/
import Derived.Test.YtbidkiacgggpmaaProg
import Derived.Below
import Derived.Deep.Draws
import Derived.Deep.AppendLies
import Derived.Maps.AppendAt
import Derived.OwnWalk
import Derived.Laws.BytesArg
import Derived.Laws.MakeOwn
import Derived.Laws.OwnMore
import Derived.Deep.OwnRows
import Derived.Tactics
import Derived.Lib.ConvBytes
import Derived.Laws.Slices
import Derived.WalkKit
import Derived.KernelRfl
import Derived.RowKit3
import Derived.Deep.LoopGhost
import Derived.Deep.QuietTactic
import Derived.BigQuiet
import Derived.WideLaws
import Derived.Deep.DeepCutAuto
import Derived.Deep.CutBlock
import Derived.Deep.RegionHeld3
import Derived.Laws.Rows
import Derived.Lib.AppendStr
import Derived.ArgAppend
import Derived.Laws.IdiomCopy
import Derived.OrdersHeld
import Derived.Laws.BitsLemmas
import Derived.RowKit
import Derived.Lib.SlBytesConst
import Derived.Test.YtbidkiacgggpmaaFrozen
import Derived.Test.YtbidkiacgggpmaaWWords
import Derived.Test.YtbidkiacgggpmaaWLast
import Derived.Test.YtbidkiacgggpmaaWTab
import Derived.Test.YtbidkiacgggpmaaWFour
import Derived.Test.YtbidkiacgggpmaaWQPut
import Derived.Test.YtbidkiacgggpmaaWApart
import Derived.Test.YtbidkiacgggpmaaWArr
import Derived.Test.YtbidkiacgggpmaaWZeros
import Derived.Test.YtbidkiacgggpmaaWFoot
import Derived.Test.YtbidkiacgggpmaaWKept
import Derived.Test.YtbidkiacgggpmaaWShare
import Derived.Test.YtbidkiacgggpmaaWN
import Derived.Test.YtbidkiacgggpmaaWFootNe
import Derived.Test.YtbidkiacgggpmaaWAt
import Derived.Test.YtbidkiacgggpmaaWEqStruct
import Derived.Test.YtbidkiacgggpmaaWRepsOne
import Derived.Test.YtbidkiacgggpmaaWInv
import Derived.Test.YtbidkiacgggpmaaWInvWords
import Derived.Test.YtbidkiacgggpmaaWGuard
import Derived.Test.YtbidkiacgggpmaaWNEv
import Derived.Test.YtbidkiacgggpmaaWMore
namespace Go.Proofs.Ytbidkiacgggpmaa.QHead
open Go.RowKit Go.Proofs.YtbidkiacgggpmaaW.PrintWords Go.Proofs.YtbidkiacgggpmaaW.PrintLast Go.Proofs.YtbidkiacgggpmaaW.PrintMore
attribute [local go_sem] max2_int min2_int max_two min_two max_three min_three max_four min_four   -- for this text's walks alone
set_option linter.unusedVariables false
set_option linter.unusedSimpArgs false

open Go.Proofs.YtbidkiacgggpmaaW.PrintMore in
theorem min_seven (ats : Array TypeId) (ty : TypeId) (a b c d e f g : Value) : Builtin.min_ ats ty #[a, b, c, d, e, f, g] = (Builtin.min2 a b >>= fun s => Builtin.min2 s c >>= fun s => Builtin.min2 s d >>= fun s => Builtin.min2 s e >>= fun s => Builtin.min2 s f >>= fun s => Builtin.min2 s g >>= fun s => pure s) := by simp only [Builtin.min_, List.foldlM_cons, List.foldlM_nil]


def errW : Option Int → Value
  | none => .nilIface
  | some c => .iface 0 (.int .i64 c)
theorem errW_none : errW none = .nilIface := rfl
theorem errW_some (c : Int) : errW (some c) = .iface 0 (.int .i64 c) := rfl

theorem info3 : (Try.prog.info? 3).map (fun i => (i.zero, i.size, i.bytes)) = some (some (.int .i64 0), 1, 8) := by kernel_rfl
theorem info5 : (Try.prog.info? 5).map (fun i => (i.zero, i.size, i.bytes)) = some (some (.int .u8 0), 1, 1) := by kernel_rfl
theorem info54 : (Try.prog.info? 54).map (fun i => (i.zero, i.size, i.bytes)) = some (some (.int .u64 0), 1, 8) := by kernel_rfl
-- the values' own types

end Go.Proofs.Ytbidkiacgggpmaa.QHead
