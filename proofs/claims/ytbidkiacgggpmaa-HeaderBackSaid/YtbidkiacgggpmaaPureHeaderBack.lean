/- For every head and every sequence of bytes: a head that was written is read as it was, and a sector that was read is written as it was (P18.1). No condition. -/
import Derived.Test.YtbidkiacgggpmaaHeadPlain
import Derived.Test.YtbidkiacgggpmaaStHeaderBack
namespace Go.Proofs.Ytbidkiacgggpmaa.Pure
open Go.RowKit Go.Proofs.Ytbidkiacgggpmaa.QHead Go.Proofs.YtbidkiacgggpmaaW.PrintWords Go.Proofs.YtbidkiacgggpmaaW.PrintLast Go.Proofs.YtbidkiacgggpmaaW.PrintMore Go.Proofs.Ytbidkiacgggpmaa.PackPlain
theorem back_j0 (l : List Int) (hb : Bytes l) : Ev (fun k => stowagelaw18_HeaderBack.j0 k l) true := by
  refine Ev.step (f := fun k => stowagelaw18_HeaderBack.j0 (k + 1) l) (fun k => rfl) ?_
  simp only [stowagelaw18_HeaderBack.j0]
  refine Ev.bind (dec_ev l hb) ?_
  have none_ : ∀ e : Int, e ≠ 0 → Ev (fun k => (if (zeroH e).2.2.2.2.2.2 = 0 then ((header_Encode.f k (zeroH e).1 (zeroH e).2.1 (zeroH e).2.2.1 (zeroH e).2.2.2.1 (zeroH e).2.2.2.2.1 (zeroH e).2.2.2.2.2.1).bind fun bt306 => ((stowagelaw18_awake.f k).bind fun t310 => (if t310 = true then (if bt306.2 = 0 then (some ((strOfNums bt306.1).toList == (strOfNums l).toList)) else (some false)) else (some false)))) else ((stowagelaw18_awake.f k).bind fun t311 => (some t311)))) true := fun e he =>
    Ev.congr (f := fun k => (stowagelaw18_awake.f k).bind fun t => some t) (fun k => by rw [if_neg (show ¬ (zeroH e).2.2.2.2.2.2 = 0 from he)]) (Ev.bind awake_ev (Ev.now _))
  rcases decH_cases l with ⟨h, _⟩ | ⟨h, _⟩ | ⟨t, v, b, s, n, tag, h, he⟩
  · rw [h]
    exact none_ 4 (by decide)
  · rw [h]
    exact none_ 2 (by decide)
  · rw [h]
    refine Ev.congr (f := fun k => (header_Encode.f k t v b s n tag).bind fun bt306 => ((stowagelaw18_awake.f k).bind fun t310 => (if t310 = true then (if bt306.2 = 0 then (some ((strOfNums bt306.1).toList == (strOfNums l).toList)) else (some false)) else (some false)))) (fun k => by rw [if_pos rfl]) ?_
    refine Ev.bind (enc_ev t v b s n tag) ?_
    refine Ev.bind awake_ev ?_
    rw [he]
    refine Ev.congr (f := fun _ => some true) (fun k => ?_) (Ev.now _)
    simp
theorem HeaderBack : StHeaderBack := by
  intro t v b s n tag l _ h1
  have hb : Bytes l := bytes_of_wf h1.2.2
  apply Ev.rounds
  unfold stowagelaw18_HeaderBack.f
  refine Ev.bind (enc_ev t v b s n tag) ?_
  by_cases h0 : (encH t v b s n tag).2 = 0
  · obtain ⟨hok, hk, he⟩ := encH_ok h0
    rw [he]
    simp only [if_true]
    refine Ev.bind (dec_ev _ (fullS_bytes (bodyH_bytes _ _ _ _ _ _))) ?_
    rw [dec_of_enc t v b s n tag hok hk]
    refine Ev.congr (f := fun k => stowagelaw18_HeaderBack.j0 k l) (fun k => ?_) (back_j0 l hb)
    simp
  · refine Ev.congr (f := fun k => stowagelaw18_HeaderBack.j0 k l) (fun k => ?_) (back_j0 l hb)
    rw [if_neg h0]
end Go.Proofs.Ytbidkiacgggpmaa.Pure
