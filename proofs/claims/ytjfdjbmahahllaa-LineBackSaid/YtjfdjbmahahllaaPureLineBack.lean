/- For every line and every sequence of bytes: a line that was written is read as it was, and a sector that was read is written as it was (P15.1). No condition. -/
import Derived.Test.YtjfdjbmahahllaaLinePlain
import Derived.Test.YtjfdjbmahahllaaStLineBack
namespace Go.Proofs.Ytjfdjbmahahllaa.Pure
open Go.RowKit Go.Proofs.Ytjfdjbmahahllaa.QLine Go.Proofs.YtjfdjbmahahllaaW.PrintWords Go.Proofs.YtjfdjbmahahllaaW.PrintLast Go.Proofs.YtjfdjbmahahllaaW.PrintMore Go.Proofs.Ytjfdjbmahahllaa.PackPlain
theorem decS_cases (b : List Int) : decS b = zero10 ∨ ∃ g s last kd a b1 c d key, decS b = (g, s, last, kd, a, b1, c, d, key, 0) ∧ encS g s last kd a b1 c d key = (b, 0) := by
  unfold decS
  split
  · unfold checkS
    split
    · rename_i h
      exact .inr ⟨_, _, _, _, _, _, _, _, _, rfl, Prod.ext h.2 h.1⟩
    · exact .inl rfl
  · exact .inl rfl
theorem encS_ok {g s : Int} {last : Bool} {kd a b c d : Int} {key : ByteArray} (h : (encS g s last kd a b c d key).2 = 0) :
    okL g s kd a b c d = true ∧ (key.size = 0 ∨ key.size = 16) ∧ encS g s last kd a b c d key = (fullS (bodyS g s last kd a b c d key), 0) := by
  unfold encS at h ⊢
  by_cases h1 : okL g s kd a b c d = true
  · rw [if_pos h1] at h ⊢
    by_cases h2 : key.size = 0 ∨ key.size = 16
    · exact ⟨h1, h2, by rw [if_pos h2]⟩
    · rw [if_neg h2] at h
      exact absurd h (by decide)
  · rw [if_neg h1] at h
    exact absurd h (by decide)
theorem full_length {g s : Int} {last : Bool} {kd a b c d : Int} {key : ByteArray} (hk : key.size = 0 ∨ key.size = 16) : (fullS (bodyS g s last kd a b c d key)).length = 64 := by
  unfold fullS
  rw [List.length_append, bodyS_length _ _ _ _ _ _ _ _ _ (by omega), be_length]
theorem back_j0 (l : List Int) (hb : Bytes l) : Ev (fun k => stowagelaw15_LineBack.j0 k l) true := by
  refine Ev.step (f := fun k => stowagelaw15_LineBack.j0 (k + 1) l) (fun k => rfl) ?_
  simp only [stowagelaw15_LineBack.j0]
  refine Ev.bind (dec_ev l hb) ?_
  rcases decS_cases l with h | ⟨g, s, last, kd, a, b, c, d, key, h, he⟩
  · rw [h]
    refine Ev.congr (f := fun k => (stowagelaw15_awake.f k).bind fun t => some t) (fun k => ?_) (Ev.bind awake_ev (Ev.now _))
    rfl
  · rw [h]
    refine Ev.congr (f := fun k => (line_Encode.f k g s last kd a b c d key).bind fun bt352 => ((stowagelaw15_awake.f k).bind fun t356 => (if t356 = true then (if bt352.2 = 0 then (some ((strOfNums bt352.1).toList == (strOfNums l).toList)) else (some false)) else (some false)))) (fun k => by rw [if_pos rfl]) ?_
    refine Ev.bind (enc_ev g s last kd a b c d key) ?_
    refine Ev.bind awake_ev ?_
    rw [he]
    refine Ev.congr (f := fun _ => some true) (fun k => ?_) (Ev.now _)
    simp
theorem LineBack : StLineBack := by
  intro g s last kd a b c d key l _ h1
  have hb : Bytes l := bytes_of_wf h1.2.2
  apply Ev.rounds
  unfold stowagelaw15_LineBack.f
  refine Ev.bind (enc_ev g s last kd a b c d key) ?_
  by_cases h0 : (encS g s last kd a b c d key).2 = 0
  · obtain ⟨hok, hk, he⟩ := encS_ok h0
    have hl : (fullS (bodyS g s last kd a b c d key)).length = 64 := full_length hk
    rw [he]
    simp only [if_true]
    refine Ev.bind (dec_ev _ (fullS_bytes (bodyS_bytes _ _ _ _ _ _ _ _ _))) ?_
    rw [dec_of_enc g s last kd a b c d key hok hk]
    refine Ev.congr (f := fun k => stowagelaw15_LineBack.j0 k l) (fun k => ?_) (back_j0 l hb)
    simp [hl]
  · refine Ev.congr (f := fun k => stowagelaw15_LineBack.j0 k l) (fun k => ?_) (back_j0 l hb)
    rw [if_neg h0]
end Go.Proofs.Ytjfdjbmahahllaa.Pure
