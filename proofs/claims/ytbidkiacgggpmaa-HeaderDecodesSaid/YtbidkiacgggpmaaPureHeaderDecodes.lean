/- For every sequence of bytes, the program's head and error are the reference's (P18.1). No condition. -/
import Derived.Test.YtbidkiacgggpmaaHeadPlainD
import Derived.Test.YtbidkiacgggpmaaStHeaderDecodes
namespace Go.Proofs.Ytbidkiacgggpmaa.Pure
open Go.RowKit Go.Proofs.Ytbidkiacgggpmaa.QHead Go.Proofs.YtbidkiacgggpmaaW.PrintWords Go.Proofs.YtbidkiacgggpmaaW.PrintLast Go.Proofs.YtbidkiacgggpmaaW.PrintMore Go.Proofs.Ytbidkiacgggpmaa.PackPlain
theorem HeaderDecodes : StHeaderDecodes := by
  intro l h
  have hb : Bytes l := bytes_of_wf h.2.2
  apply Ev.rounds
  unfold stowagelaw18_HeaderDecodes.f
  refine Ev.bind (dec_ev l hb) ?_
  refine Ev.bind (rdec_ev l hb) ?_
  refine Ev.bind awake_ev ?_
  refine Ev.congr (f := fun _ => some true) (fun k => ?_) (Ev.now _)
  simp
end Go.Proofs.Ytbidkiacgggpmaa.Pure
