/- Written by a program of this session (wip/tools/rowgen.py): what the law's Go function must answer, over plain numbers and lists: for every argument that the row lets in, true. No condition is added. -/
import Derived.Test.YtbidkiacgggpmaaQHeadLHeaderEncodes
namespace Go.Proofs.Ytbidkiacgggpmaa
open Go Go.RowKit Go.Proofs.Ytbidkiacgggpmaa.QHead Go.Proofs.YtbidkiacgggpmaaW.PrintWords
def StHeaderEncodes : Prop := ∀ (a0_0 : Int) (a0_1 : Int) (a0_2 : Int) (a0_3 : Int) (a0_4 : Int) (a0_5 : ByteArray), ((Lit.int .i64 a0_0).wf = true ∧ ((Lit.int .i64 a0_1).wf = true ∧ ((Lit.int .i64 a0_2).wf = true ∧ ((Lit.int .i64 a0_3).wf = true ∧ ((Lit.int .i64 a0_4).wf = true ∧ (a0_5.size ≤ 140737488351232)))))) → ∃ k, stowagelaw18_HeaderEncodes.f k a0_0 a0_1 a0_2 a0_3 a0_4 a0_5 = some true
end Go.Proofs.Ytbidkiacgggpmaa
