/- Written by a program of this session (wip/tools/rowgen.py): what the law's Go function must answer, over plain numbers and lists: for every argument that the row lets in, true. No condition is added. -/
import Derived.Test.YtjfdjbmahahllaaQLineLLineReplays
namespace Go.Proofs.Ytjfdjbmahahllaa
open Go Go.RowKit Go.Proofs.Ytjfdjbmahahllaa.QLine Go.Proofs.YtjfdjbmahahllaaW.PrintWords
def StLineReplays : Prop := ∀ (l0 : (List (List Int))) (a1 : Int), (l0.length ≤ maxLen ∧ l0.length * 24 ≤ 140737488351232 ∧ ∀ x0 ∈ l0, (x0.length ≤ maxLen ∧ x0.length * 1 ≤ 140737488351232 ∧ ∀ x1 ∈ x0, (Lit.int .u8 x1).wf = true)) → (Lit.int .i64 a1).wf = true → ∃ k, stowagelaw15_LineReplays.f k l0 a1 = some true
end Go.Proofs.Ytjfdjbmahahllaa
