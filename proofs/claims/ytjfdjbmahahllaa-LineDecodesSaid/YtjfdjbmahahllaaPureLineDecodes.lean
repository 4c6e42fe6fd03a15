/- For every sequence of bytes, the program's line and error are the reference's (P15.1). No condition. -/
import Derived.Test.YtjfdjbmahahllaaLinePlainD
import Derived.Test.YtjfdjbmahahllaaStLineDecodes
namespace Go.Proofs.Ytjfdjbmahahllaa.Pure
open Go.RowKit Go.Proofs.Ytjfdjbmahahllaa.QLine Go.Proofs.YtjfdjbmahahllaaW.PrintWords Go.Proofs.YtjfdjbmahahllaaW.PrintLast Go.Proofs.YtjfdjbmahahllaaW.PrintMore Go.Proofs.Ytjfdjbmahahllaa.PackPlain
theorem LineDecodes : StLineDecodes := by
  intro l0 h0
  have hb : Bytes l0 := bytes_of_wf h0.2.2
  obtain ⟨K1, m1⟩ := dec_ev l0 hb
  obtain ⟨K2, m2⟩ := rdec_ev l0 hb
  obtain ⟨K3, m3⟩ := awake_ev
  refine ⟨K1 + K2 + K3, ?_⟩
  have n1 := m1 (K1 + K2 + K3) (by omega)
  have n2 := m2 (K1 + K2 + K3) (by omega)
  have n3 := m3 (K1 + K2 + K3) (by omega)
  dsimp only at n1 n2 n3
  unfold stowagelaw15_LineDecodes.f
  rw [n1]
  simp only [Option.bind_some]
  rw [n2]
  simp only [Option.bind_some]
  rw [n3]
  simp
end Go.Proofs.Ytjfdjbmahahllaa.Pure
