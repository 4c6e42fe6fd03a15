/- Written by a program of this session (wip/tools/rowgen.py): what the law's Go function must answer, over plain numbers and lists: for every argument that the row lets in, true. No condition is added. -/
import Derived.Test.YtbidkiacgggpmaaQHeadLHeaderDecodes
namespace Go.Proofs.Ytbidkiacgggpmaa
open Go Go.RowKit Go.Proofs.Ytbidkiacgggpmaa.QHead Go.Proofs.YtbidkiacgggpmaaW.PrintWords
def StHeaderDecodes : Prop := ∀ (l0 : (List Int)), (l0.length ≤ maxLen ∧ l0.length * 1 ≤ 140737488351232 ∧ ∀ x0 ∈ l0, (Lit.int .u8 x0).wf = true) → ∃ k, stowagelaw18_HeaderDecodes.f k l0 = some true
end Go.Proofs.Ytbidkiacgggpmaa
