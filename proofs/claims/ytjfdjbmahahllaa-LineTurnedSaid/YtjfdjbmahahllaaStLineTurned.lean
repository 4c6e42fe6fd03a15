/- Written by a program of this session (wip/tools/rowgen.py): what the law's Go function must answer, over plain numbers and lists: for every argument that the row lets in, true. No condition is added. -/
import Derived.Test.YtjfdjbmahahllaaQLineLLineTurned
namespace Go.Proofs.Ytjfdjbmahahllaa
open Go Go.RowKit Go.Proofs.Ytjfdjbmahahllaa.QLine Go.Proofs.YtjfdjbmahahllaaW.PrintWords
def StLineTurned : Prop := ∀ (a0_0 : Int) (a0_1 : Int) (a0_2 : Bool) (a0_3 : Int) (a0_4 : Int) (a0_5 : Int) (a0_6 : Int) (a0_7 : Int) (a0_8 : ByteArray) (a1 : Int) (a2 : Int), ((Lit.int .i64 a0_0).wf = true ∧ ((Lit.int .i64 a0_1).wf = true ∧ (True ∧ (((Lit.int .i64 a0_3).wf = true ∧ ((Lit.int .i64 a0_4).wf = true ∧ ((Lit.int .i64 a0_5).wf = true ∧ ((Lit.int .i64 a0_6).wf = true ∧ ((Lit.int .i64 a0_7).wf = true ∧ (a0_8.size ≤ 140737488351232)))))))))) → (Lit.int .u16 a1).wf = true → (Lit.int .u32 a2).wf = true → ∃ k, stowagelaw15_LineTurned.f k a0_0 a0_1 a0_2 a0_3 a0_4 a0_5 a0_6 a0_7 a0_8 a1 a2 = some true
end Go.Proofs.Ytjfdjbmahahllaa
