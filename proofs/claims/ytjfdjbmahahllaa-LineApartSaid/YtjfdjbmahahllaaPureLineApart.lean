/- For every two lines that can be written: their sectors are equal just if the lines are (P15.1). No condition. -/
import Derived.Test.YtjfdjbmahahllaaLinePlain
import Derived.Test.YtjfdjbmahahllaaStLineApart
namespace Go.Proofs.Ytjfdjbmahahllaa.Pure
open Go.RowKit Go.Proofs.Ytjfdjbmahahllaa.QLine Go.Proofs.YtjfdjbmahahllaaW.PrintWords Go.Proofs.YtjfdjbmahahllaaW.PrintLast Go.Proofs.YtjfdjbmahahllaaW.PrintMore Go.Proofs.Ytjfdjbmahahllaa.PackPlain
theorem decS_cases (b : List Int) : decS b = zero10 ∨ ∃ g s last kd a b1 c d key, decS b = (g, s, last, kd, a, b1, c, d, key, 0) ∧ encS g s last kd a b1 c d key = (b, 0) := by
  unfold decS
  split
  · unfold checkS
    split
    · rename_i h
      exact .inr ⟨_, _, _, _, _, _, _, _, _, rfl, Prod.ext h.2 h.1⟩
    · exact .inl rfl
  · exact .inl rfl
theorem encS_ok {g s : Int} {last : Bool} {kd a b c d : Int} {key : ByteArray} (h : (encS g s last kd a b c d key).2 = 0) :
    okL g s kd a b c d = true ∧ (key.size = 0 ∨ key.size = 16) ∧ encS g s last kd a b c d key = (fullS (bodyS g s last kd a b c d key), 0) := by
  unfold encS at h ⊢
  by_cases h1 : okL g s kd a b c d = true
  · rw [if_pos h1] at h ⊢
    by_cases h2 : key.size = 0 ∨ key.size = 16
    · exact ⟨h1, h2, by rw [if_pos h2]⟩
    · rw [if_neg h2] at h
      exact absurd h (by decide)
  · rw [if_neg h1] at h
    exact absurd h (by decide)
theorem full_length {g s : Int} {last : Bool} {kd a b c d : Int} {key : ByteArray} (hk : key.size = 0 ∨ key.size = 16) : (fullS (bodyS g s last kd a b c d key)).length = 64 := by
  unfold fullS
  rw [List.length_append, bodyS_length _ _ _ _ _ _ _ _ _ (by omega), be_length]
theorem apart_t (x5 x7 : List Int) (g s : Int) (last : Bool) (kd a b c d : Int) (key : ByteArray) (g' s' : Int) (last' : Bool) (kd' a' b' c' d' : Int) (key' : ByteArray) :
    Ev (fun k => stowagelaw15_LineApart.j0 k x5 x7 true g s last kd a b c d key g' s' last' kd' a' b' c' d' key') true := by
  refine Ev.step (f := fun k => (stowagelaw15_awake.f k).bind fun t => some t) (fun k => ?_) (Ev.bind awake_ev (Ev.now _))
  simp only [stowagelaw15_LineApart.j0]
  rfl
theorem apart_f (g s : Int) (last : Bool) (kd a b c d : Int) (key : ByteArray) (g' s' : Int) (last' : Bool) (kd' a' b' c' d' : Int) (key' : ByteArray)
    (hok : okL g s kd a b c d = true) (hk : key.size = 0 ∨ key.size = 16) (hok' : okL g' s' kd' a' b' c' d' = true) (hk' : key'.size = 0 ∨ key'.size = 16) :
    Ev (fun k => stowagelaw15_LineApart.j0 k (fullS (bodyS g s last kd a b c d key)) (fullS (bodyS g' s' last' kd' a' b' c' d' key')) false g s last kd a b c d key g' s' last' kd' a' b' c' d' key') true := by
  have l1 : (fullS (bodyS g s last kd a b c d key)).length = 64 := full_length hk
  have l2 : (fullS (bodyS g' s' last' kd' a' b' c' d' key')).length = 64 := full_length hk'
  have b1 := fullS_bytes (bodyS_bytes g s last kd a b c d key)
  have b2 := fullS_bytes (bodyS_bytes g' s' last' kd' a' b' c' d' key')
  have d1 := dec_of_enc g s last kd a b c d key hok hk
  have d2 := dec_of_enc g' s' last' kd' a' b' c' d' key' hok' hk'
  have e : (((strOfNums (fullS (bodyS g s last kd a b c d key))).toList == (strOfNums (fullS (bodyS g' s' last' kd' a' b' c' d' key'))).toList) == (g == g' && (s == s' && (last == last' && ((kd == kd' && (a == a' && (b == b' && (c == c' && (d == d' && (key.toList == key'.toList))))))))))) = true := by
    by_cases hE : fullS (bodyS g s last kd a b c d key) = fullS (bodyS g' s' last' kd' a' b' c' d' key')
    · rw [hE, d2] at d1
      simp only [Prod.mk.injEq] at d1
      obtain ⟨rfl, rfl, rfl, rfl, rfl, rfl, rfl, rfl, rfl, _⟩ := d1
      simp
    · have f1 : ((strOfNums (fullS (bodyS g s last kd a b c d key))).toList == (strOfNums (fullS (bodyS g' s' last' kd' a' b' c' d' key'))).toList) = false := by
        rw [beq_eq_false_iff_ne]
        exact fun h => hE (str_inj b1 b2 h)
      rw [f1]
      cases hc : (g == g' && (s == s' && (last == last' && ((kd == kd' && (a == a' && (b == b' && (c == c' && (d == d' && (key.toList == key'.toList)))))))))) with
      | false => rfl
      | true =>
        exfalso
        simp only [Bool.and_eq_true, beq_iff_eq] at hc
        obtain ⟨rfl, rfl, rfl, rfl, rfl, rfl, rfl, rfl, hkey⟩ := hc
        rw [toList_eq, toList_eq] at hkey
        obtain ⟨⟨x⟩⟩ := key
        obtain ⟨⟨y⟩⟩ := key'
        simp only at hkey
        subst hkey
        exact hE rfl
  refine Ev.step (f := fun _ => some true) (fun k => ?_) (Ev.now _)
  simp only [stowagelaw15_LineApart.j0]
  rw [if_neg (by decide), if_pos e, if_pos (by omega), l2]
  rfl
theorem LineApart : StLineApart := by
  intro g s last kd a b c d key g' s' last' kd' a' b' c' d' key' _ _
  apply Ev.rounds
  unfold stowagelaw15_LineApart.f
  refine Ev.bind (enc_ev g s last kd a b c d key) ?_
  refine Ev.bind (enc_ev g' s' last' kd' a' b' c' d' key') ?_
  refine Ev.bind awake_ev ?_
  by_cases h0 : (encS g s last kd a b c d key).2 = 0
  · obtain ⟨hok, hk, he⟩ := encS_ok h0
    by_cases h1 : (encS g' s' last' kd' a' b' c' d' key').2 = 0
    · obtain ⟨hok', hk', he'⟩ := encS_ok h1
      rw [he, he']
      exact apart_f g s last kd a b c d key g' s' last' kd' a' b' c' d' key' hok hk hok' hk'
    · have e1 : ((encS g' s' last' kd' a' b' c' d' key').2 != 0) = true := by rw [bne_iff_ne]; exact h1
      refine Ev.congr (fun k => ?_) (apart_t (encS g s last kd a b c d key).1 (encS g' s' last' kd' a' b' c' d' key').1 g s last kd a b c d key g' s' last' kd' a' b' c' d' key')
      rw [if_pos rfl, if_pos h0, e1]
  · refine Ev.congr (fun k => ?_) (apart_t (encS g s last kd a b c d key).1 (encS g' s' last' kd' a' b' c' d' key').1 g s last kd a b c d key g' s' last' kd' a' b' c' d' key')
    rw [if_pos rfl, if_neg h0]
end Go.Proofs.Ytjfdjbmahahllaa.Pure
