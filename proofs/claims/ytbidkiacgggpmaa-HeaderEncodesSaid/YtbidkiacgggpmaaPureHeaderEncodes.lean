/- For every head, the program's sector and error are the reference's (P18.1). No condition. -/
import Derived.Test.YtbidkiacgggpmaaHeadPlainE
import Derived.Test.YtbidkiacgggpmaaStHeaderEncodes
namespace Go.Proofs.Ytbidkiacgggpmaa.Pure
open Go.RowKit Go.Proofs.Ytbidkiacgggpmaa.QHead Go.Proofs.YtbidkiacgggpmaaW.PrintWords Go.Proofs.YtbidkiacgggpmaaW.PrintLast Go.Proofs.YtbidkiacgggpmaaW.PrintMore Go.Proofs.Ytbidkiacgggpmaa.PackPlain
theorem HeaderEncodes : StHeaderEncodes := by
  intro t v b s n tag _
  apply Ev.rounds
  unfold stowagelaw18_HeaderEncodes.f
  refine Ev.bind (enc_ev t v b s n tag) ?_
  refine Ev.bind (renc_ev t v b s n tag) ?_
  refine Ev.bind awake_ev ?_
  refine Ev.congr (f := fun _ => some true) (fun k => ?_) (Ev.now _)
  simp
end Go.Proofs.Ytbidkiacgggpmaa.Pure
