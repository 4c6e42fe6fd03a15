/- Lemmas of the print's words that this claim's texts mention (cut by wip/tools/cutwords.py out of what print.sh wrote for the seat). No condition is added. -/
import Derived.Test.YtjfdjbmahahllaaWInv
import Derived.Test.YtjfdjbmahahllaaWFootNe
namespace Go.Proofs.YtjfdjbmahahllaaW.PrintWords
open Go.RowKit
end Go.Proofs.YtjfdjbmahahllaaW.PrintWords
namespace Go.Proofs.YtjfdjbmahahllaaW.PrintLast
section
variable {ops : Array Oper} {a : Act} {o og : Oper} {g : Nat} {t : Tmp} {u : Bool}
end
end Go.Proofs.YtjfdjbmahahllaaW.PrintLast
