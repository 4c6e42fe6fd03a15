/- What the reference's functions of a line come to, in plain terms: the same as the program's. -/
import Derived.Test.YtjfdjbmahahllaaLinePlainE
import Derived.Test.YtjfdjbmahahllaaQLinex10
namespace Go.Proofs.Ytjfdjbmahahllaa.QLine
open Go.RowKit Go.Proofs.YtjfdjbmahahllaaW.PrintWords Go.Proofs.YtjfdjbmahahllaaW.PrintLast Go.Proofs.YtjfdjbmahahllaaW.PrintMore Go.Proofs.Ytjfdjbmahahllaa.PackPlain

/-! ### the reference's Decode -/
theorem rget_loop (l : List Int) (hb : Bytes l) (hl : l.length ≤ 7) : ∀ (d i : Nat) (a : Int), i + d = l.length → 0 ≤ a → a < 256 ^ i → Ev (fun k => stowageref15_get.l0 k l a (i : Int)) (val a (l.drop i)) := by
  intro d
  induction d with
  | zero =>
    intro i a hi _ _
    rw [drop_all l i (by omega)]
    refine Ev.step (f := fun _ => some a) (fun k => ?_) (by simpa [val] using Ev.now a)
    simp only [stowageref15_get.l0]
    rw [if_neg (by omega)]
  | succ d ih =>
    intro i a hi h0 h1
    have hlt : i < l.length := by omega
    have hx := hb _ (rd_mem l i hlt)
    have e : (256 : Int) ^ (i + 1) = 256 ^ i * 256 := Int.pow_succ ..
    have h7 : (256 : Int) ^ (i + 1) ≤ 256 ^ 7 := pow_mono (by omega)
    have h8 : (256 : Int) ^ 7 = 72057594037927936 := by decide
    have ih' := ih (i + 1) (a * 256 + rd l (i : Int)) (by omega) (by omega) (by omega)
    have ev : val a (l.drop i) = val (a * 256 + rd l (i : Int)) (l.drop (i + 1)) := by
      rw [drop_rd l i hlt]
      rfl
    rw [ev]
    refine Ev.step (f := fun k => stowageref15_get.l0 k l (a * 256 + rd l (i : Int)) ((i + 1 : Nat) : Int)) (fun k => ?_) ih'
    simp only [stowageref15_get.l0]
    rw [if_pos (by omega), if_pos (by omega), wrap64_id (a * 256) (by omega) (by omega), wrap64_id (rd l (i : Int)) (by omega) (by omega), wrap64_id (a * 256 + rd l (i : Int)) (by omega) (by omega), wrap64_succ i (by omega)]
theorem rget_ev (l : List Int) (hb : Bytes l) (hl : l.length ≤ 7) : Ev (fun k => stowageref15_get.f k l) (val 0 l) := by
  have := rget_loop l hb hl l.length 0 0 (by omega) (by omega) (by simp)
  unfold stowageref15_get.f
  simpa using this
theorem rdec_j0 (x : List Int) (hx : Bytes x) (g s : Int) (last : Bool) (kd a b c d : Int) (key : ByteArray) : Ev (fun k => stowageref15_Decode.j0 k x g s last kd a b c d key) (checkS x g s last kd a b c d key) := by
  refine Ev.step (f := fun k => stowageref15_Decode.j0 (k + 1) x g s last kd a b c d key) (fun k => rfl) ?_
  simp only [stowageref15_Decode.j0]
  refine Ev.bind (renc_ev g s last kd a b c d key) ?_
  have he := eqS (encS_bytes g s last kd a b c d key) hx
  unfold checkS
  generalize encS g s last kd a b c d key = e at he ⊢
  by_cases h1 : e.2 = 0
  · rw [if_pos h1]
    by_cases h2 : e.1 = x
    · rw [if_pos (he.2 h2), if_pos ⟨h1, h2⟩]
      exact Ev.now _
    · rw [if_neg (fun h => h2 (he.1 h)), if_neg (fun h => h2 h.2)]
      exact Ev.now _
  · rw [if_neg h1, if_neg (fun h => h1 h.1)]
    exact Ev.now _
theorem rdec_ev (b : List Int) (hb : Bytes b) : Ev (fun k => stowageref15_Decode.f k b) (decS b) := by
  unfold decS
  by_cases h : b.length = 64
  · rw [if_pos h]
    have hi : (b.length : Int) = 64 := by omega
    have gt (i j : Nat) (hj : j ≤ 64) (h7 : j - i ≤ 7) : Ev (fun k => stowageref15_get.f k (seg b i j)) (val 0 (seg b i j)) := rget_ev _ (seg_bytes hb i j) (by rw [seg_length b i j (by omega)]; exact h7)
    obtain ⟨K0, q0⟩ := gt 2 6 (by omega) (by omega)
    obtain ⟨K1, q1⟩ := gt 6 10 (by omega) (by omega)
    obtain ⟨K3, q3⟩ := gt 11 12 (by omega) (by omega)
    obtain ⟨K4, q4⟩ := gt 12 19 (by omega) (by omega)
    obtain ⟨K5, q5⟩ := gt 19 26 (by omega) (by omega)
    obtain ⟨K6, q6⟩ := gt 26 33 (by omega) (by omega)
    obtain ⟨K7, q7⟩ := gt 33 40 (by omega) (by omega)
    obtain ⟨K2, q2⟩ := rdec_j0 b hb (val 0 (seg b 2 6)) (val 0 (seg b 6 10)) (val 0 (seg b 10 11) == 1) (val 0 (seg b 11 12)) (val 0 (seg b 12 19)) (val 0 (seg b 19 26)) (val 0 (seg b 26 33)) (val 0 (seg b 33 40)) (keyS b)
    refine ⟨K0 + K1 + K2 + K3 + K4 + K5 + K6 + K7, fun k hk => ?_⟩
    have m0 := q0 k (by omega)
    have m1 := q1 k (by omega)
    have m2 := q2 k (by omega)
    have m3 := q3 k (by omega)
    have m4 := q4 k (by omega)
    have m5 := q5 k (by omega)
    have m6 := q6 k (by omega)
    have m7 := q7 k (by omega)
    dsimp only at m0 m1 m2 m3 m4 m5 m6 m7
    unfold seg at m0 m1 m3 m4 m5 m6 m7
    show stowageref15_Decode.f k b = _
    unfold stowageref15_Decode.f
    rw [if_pos hi, if_pos (by decide), if_pos (by omega), m0]
    simp only [Option.bind_some]
    rw [if_pos (by decide), if_pos (by omega), m1]
    simp only [Option.bind_some]
    rw [if_pos (by omega), if_pos (by decide), if_pos (by omega), m3]
    simp only [Option.bind_some]
    rw [if_pos (by decide), if_pos (by omega), m4]
    simp only [Option.bind_some]
    rw [if_pos (by decide), if_pos (by omega), m5]
    simp only [Option.bind_some]
    rw [if_pos (by decide), if_pos (by omega), m6]
    simp only [Option.bind_some]
    rw [if_pos (by decide), if_pos (by omega), m7]
    simp only [Option.bind_some]
    have e40 := seg_one b 40 (by omega)
    have e10 := seg_one b 10 (by omega)
    have c40 : ((40 : Nat) : Int) = 40 := rfl
    have c10 : ((10 : Nat) : Int) = 10 := rfl
    rw [c40] at e40
    rw [c10] at e10
    rw [if_pos (by omega), ← e40, ← e10]
    by_cases h16 : val 0 (seg b 40 41) = 16
    · rw [if_pos h16, if_pos (by decide), if_pos (by omega)]
      have ek : keyS b = strOfNums (seg b 41 57) := by
        unfold keyS
        rw [if_pos h16]
      rw [ek] at m2
      rw [ek]
      exact m2
    · rw [if_neg h16]
      have ek : keyS b = (⟨#[]⟩ : ByteArray) := by
        unfold keyS
        rw [if_neg h16]
      rw [ek] at m2
      rw [ek]
      exact m2
  · rw [if_neg h]
    refine Ev.congr (f := fun _ => some zero10) (fun k => ?_) (Ev.now _)
    unfold stowageref15_Decode.f
    rw [if_neg (by omega)]
    rfl
end Go.Proofs.Ytjfdjbmahahllaa.QLine
