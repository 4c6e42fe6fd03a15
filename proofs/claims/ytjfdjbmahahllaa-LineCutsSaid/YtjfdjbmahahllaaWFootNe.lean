/- Lemmas of the print's words that this claim's texts mention (cut by wip/tools/cutwords.py out of what print.sh wrote for the seat). No condition is added. -/
import Derived.Test.YtjfdjbmahahllaaWN
namespace Go.Proofs.YtjfdjbmahahllaaW.PrintWords
open Go.RowKit
namespace Kd
section
variable {α : Type} {d : Kd α} {W : World} {g n : Nat} {S ok : Nat → Prop} {A : Option Addr} {ad : Addr} {xs : List α}
end
end Kd
end Go.Proofs.YtjfdjbmahahllaaW.PrintWords
