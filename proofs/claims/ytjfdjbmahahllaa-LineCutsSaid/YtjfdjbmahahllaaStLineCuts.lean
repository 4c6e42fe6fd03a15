/- Written by a program of this session (wip/tools/rowgen.py): what the law's Go function must answer, over plain numbers and lists: for every argument that the row lets in, true. No condition is added. -/
import Derived.Test.YtjfdjbmahahllaaQLineLLineCuts
namespace Go.Proofs.Ytjfdjbmahahllaa
open Go Go.RowKit Go.Proofs.Ytjfdjbmahahllaa.QLine Go.Proofs.YtjfdjbmahahllaaW.PrintWords
def StLineCuts : Prop := ∀ (l0 : (List (List S23))) (a1 : Int) (a2 : Int), (l0.length ≤ maxLen ∧ l0.length * 24 ≤ 140737488351232 ∧ ∀ x0 ∈ l0, (x0.length ≤ maxLen ∧ x0.length * 56 ≤ 140737488351232 ∧ ∀ x1 ∈ x0, ((Lit.int .i64 x1.f0).wf = true ∧ ((Lit.int .i64 x1.f1).wf = true ∧ ((Lit.int .i64 x1.f2).wf = true ∧ ((Lit.int .i64 x1.f3).wf = true ∧ ((Lit.int .i64 x1.f4).wf = true ∧ (x1.f5.size ≤ 140737488351232)))))))) → (Lit.int .u16 a1).wf = true → (Lit.int .u16 a2).wf = true → ∃ k, stowagelaw15_LineCuts.f k l0 a1 a2 = some true
end Go.Proofs.Ytjfdjbmahahllaa
