/- Lemmas of the print's words that this claim's texts mention (cut by wip/tools/cutwords.py out of what print.sh wrote for the seat). No condition is added. -/
import Derived.Test.YtjfdjbmahahllaaWTab
namespace Go.Proofs.YtjfdjbmahahllaaW.PrintLast
section
variable {P : Program} {ops : Array Oper} {Q : Exit → Act → World → Prop} {md : Region.Mode} {S : World → Prop} {ds : List Nat} {T : Bool × List (List Nat × List Nat)}
end
end Go.Proofs.YtjfdjbmahahllaaW.PrintLast
