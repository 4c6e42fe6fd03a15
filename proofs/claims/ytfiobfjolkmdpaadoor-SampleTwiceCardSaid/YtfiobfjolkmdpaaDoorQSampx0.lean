/- Written by a program of this session (wip/tools/mk.py) out of the kit's printing programs and of texts of our own: the contracts of the Go functions that the law goes through, and the row of the law. No condition is added. -/
import Derived.Test.YtfiobfjolkmdpaaDoorProg
import Derived.Below
import Derived.Deep.Draws
import Derived.Deep.AppendLies
import Derived.Maps.AppendAt
import Derived.OwnWalk
import Derived.Laws.BytesArg
import Derived.Laws.MakeOwn
import Derived.Laws.OwnMore
import Derived.Deep.OwnRows
import Derived.Tactics
import Derived.Lib.ConvBytes
import Derived.Laws.Slices
import Derived.WalkKit
import Derived.KernelRfl
import Derived.RowKit3
import Derived.Deep.LoopGhost
import Derived.Deep.QuietTactic
import Derived.BigQuiet
import Derived.WideLaws
import Derived.Deep.DeepCutAuto
import Derived.Deep.CutBlock
import Derived.Deep.RegionHeld3
import Derived.Laws.Rows
import Derived.Lib.AppendStr
import Derived.ArgAppend
import Derived.Laws.IdiomCopy
import Derived.OrdersHeld
import Derived.Laws.BitsLemmas
import Derived.RowKit
import Derived.Maps.OwnSet
import Derived.Laws.Bits64b
import Derived.Lib.TrailingZeros
import Derived.Lib.SlBytesConst
import Derived.Test.YtfiobfjolkmdpaaDoorFrozen
import Derived.Test.YtfiobfjolkmdpaaDoorWWords
import Derived.Test.YtfiobfjolkmdpaaDoorWLast
import Derived.Test.YtfiobfjolkmdpaaDoorWTab
import Derived.Test.YtfiobfjolkmdpaaDoorWFour
import Derived.Test.YtfiobfjolkmdpaaDoorWQPut
import Derived.Test.YtfiobfjolkmdpaaDoorWApart
import Derived.Test.YtfiobfjolkmdpaaDoorWArr
import Derived.Test.YtfiobfjolkmdpaaDoorWZeros
import Derived.Test.YtfiobfjolkmdpaaDoorWFoot
import Derived.Test.YtfiobfjolkmdpaaDoorWKept
import Derived.Test.YtfiobfjolkmdpaaDoorWShare
import Derived.Test.YtfiobfjolkmdpaaDoorWN
import Derived.Test.YtfiobfjolkmdpaaDoorWFootNe
import Derived.Test.YtfiobfjolkmdpaaDoorWAt
import Derived.Test.YtfiobfjolkmdpaaDoorWEqStruct
import Derived.Test.YtfiobfjolkmdpaaDoorWRepsOne
import Derived.Test.YtfiobfjolkmdpaaDoorWInv
import Derived.Test.YtfiobfjolkmdpaaDoorWInvWords
import Derived.Test.YtfiobfjolkmdpaaDoorWGuard
import Derived.Test.YtfiobfjolkmdpaaDoorWNEv
import Derived.Test.YtfiobfjolkmdpaaDoorWMore
namespace Go.Proofs.YtfiobfjolkmdpaaDoor.QSamp
open Go.RowKit Go.Proofs.YtfiobfjolkmdpaaDoorW.PrintWords Go.Proofs.YtfiobfjolkmdpaaDoorW.PrintLast Go.Proofs.YtfiobfjolkmdpaaDoorW.PrintMore
attribute [local go_sem] max2_int min2_int max_two min_two max_three min_three max_four min_four   -- for this text's walks alone
set_option linter.unusedVariables false
set_option linter.unusedSimpArgs false

open Go.Proofs.YtfiobfjolkmdpaaDoorW.PrintMore in
theorem min_seven (ats : Array TypeId) (ty : TypeId) (a b c d e f g : Value) : Builtin.min_ ats ty #[a, b, c, d, e, f, g] = (Builtin.min2 a b >>= fun s => Builtin.min2 s c >>= fun s => Builtin.min2 s d >>= fun s => Builtin.min2 s e >>= fun s => Builtin.min2 s f >>= fun s => Builtin.min2 s g >>= fun s => pure s) := by simp only [Builtin.min_, List.foldlM_cons, List.foldlM_nil]


def errW : Option Int → Value
  | none => .nilIface
  | some c => .iface 0 (.int .i64 c)
theorem errW_none : errW none = .nilIface := rfl
theorem errW_some (c : Int) : errW (some c) = .iface 0 (.int .i64 c) := rfl

theorem info3 : (Tryd.prog.info? 3).map (fun i => (i.zero, i.size, i.bytes)) = some (some (.int .i64 0), 1, 8) := by kernel_rfl
-- the values' own types

end Go.Proofs.YtfiobfjolkmdpaaDoor.QSamp
