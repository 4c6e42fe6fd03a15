/- For every line, the program's sector and error are the reference's (P15.1). No condition. -/
import Derived.Test.YtjfdjbmahahllaaLinePlainE
import Derived.Test.YtjfdjbmahahllaaStLineEncodes
namespace Go.Proofs.Ytjfdjbmahahllaa.Pure
open Go.RowKit Go.Proofs.Ytjfdjbmahahllaa.QLine Go.Proofs.YtjfdjbmahahllaaW.PrintWords Go.Proofs.YtjfdjbmahahllaaW.PrintLast Go.Proofs.YtjfdjbmahahllaaW.PrintMore Go.Proofs.Ytjfdjbmahahllaa.PackPlain
theorem LineEncodes : StLineEncodes := by
  intro g s last kd a b c d key _
  apply Ev.rounds
  unfold stowagelaw15_LineEncodes.f
  refine Ev.bind (enc_ev g s last kd a b c d key) ?_
  refine Ev.bind (renc_ev g s last kd a b c d key) ?_
  refine Ev.bind awake_ev ?_
  refine Ev.congr (f := fun _ => some true) (fun k => ?_) (Ev.now _)
  simp
end Go.Proofs.Ytjfdjbmahahllaa.Pure
