/- Lemmas of the print's words that this claim's texts mention (cut by wip/tools/cutwords.py out of what print.sh wrote for the seat). No condition is added. -/
import Derived.Test.YtjfdjbmahahllaaWFootNe
namespace Go.Proofs.YtjfdjbmahahllaaW.PrintWords
open Go.RowKit
section
variable {w w' u : World} {m B g : Nat} {o : Obj} {row : Option Nat} {S : Nat → Prop} {a : Addr} {v : Value}
end
namespace Kd
section
variable {α : Type} {d : Kd α} {e base n m : Nat} {ok : Nat → Prop} {w w' : World} {v : Value} {A : Option Addr} {xs : List α}
end
end Kd
end Go.Proofs.YtjfdjbmahahllaaW.PrintWords
