/- What the reference's functions of a head come to, in plain terms: the same as the program's. -/
import Derived.Test.YtbidkiacgggpmaaHeadPlain
import Derived.Test.YtbidkiacgggpmaaQHeadx4
namespace Go.Proofs.Ytbidkiacgggpmaa.QHead
open Go.RowKit Go.Proofs.YtbidkiacgggpmaaW.PrintWords Go.Proofs.YtbidkiacgggpmaaW.PrintLast Go.Proofs.YtbidkiacgggpmaaW.PrintMore Go.Proofs.Ytbidkiacgggpmaa.PackPlain
namespace Cr
open Go.Proofs.Ytbidkiacgggpmaa.CrcPlain

/-! ### the reference -/
theorem rm_step (r : Nat) (hr : r < 4294967296) (h : r % 2 = 1) : Go.bits .xor .u32 ((Int.tdiv (r : Int) 2) % 4294967296) 3988292384 = ((st r : Nat) : Int) := by
  unfold st
  rw [if_pos h, Int.tdiv_eq_ediv_of_nonneg (by omega), show ((r : Int) / 2) % 4294967296 = ((r / 2 : Nat) : Int) by omega]
  exact xor_nat (r / 2) poly (by omega) (by decide)
theorem rm_l1 (l : List Int) (i : Nat) {R : Nat → Int} (hR : ∀ r : Nat, r < 4294967296 → Ev (fun k => stowageref02_More.l0 k l (r : Int) (wrap64 ((i : Int) + 1))) (R r)) : ∀ (d m r : Nat), m + d = 8 → r < 4294967296 →
    Ev (fun k => stowageref02_More.l1 k l (r : Int) (i : Int) (m : Int)) (R (sts d r))
  | 0, m, r, hm, hr => by
    refine Ev.step (f := fun k => stowageref02_More.l0 k l (r : Int) (wrap64 ((i : Int) + 1))) (fun k => ?_) (hR r hr)
    simp only [stowageref02_More.l1]
    rw [if_neg (by omega)]
  | d + 1, m, r, hm, hr => by
    have ih := rm_l1 l i hR d (m + 1) (st r) (by omega) (st_lt hr)
    have e : sts (d + 1) r = sts d (st r) := sts_add r 1 d
    rw [e]
    refine Ev.step (f := fun k => stowageref02_More.l1 k l ((st r : Nat) : Int) (i : Int) ((m + 1 : Nat) : Int)) (fun k => ?_) ih
    simp only [stowageref02_More.l1]
    rw [if_pos (by omega), wrap64_succ m (by omega)]
    by_cases h : r % 2 = 1
    · rw [if_pos (by rw [Int.tmod_eq_emod_of_nonneg (by omega)]; omega), rm_step r hr h]
    · rw [if_neg (by rw [Int.tmod_eq_emod_of_nonneg (by omega)]; omega)]
      unfold st
      rw [if_neg h, Int.tdiv_eq_ediv_of_nonneg (by omega), show ((r : Int) / 2) % 4294967296 = ((r / 2 : Nat) : Int) by omega]
theorem rm_l0 (l : List Int) (hl : Bytes l) (hlen : l.length < 9223372036854775807) : ∀ (d i r : Nat), i + d = l.length → r < 4294967296 → Ev (fun k => stowageref02_More.l0 k l (r : Int) (i : Int)) ((not_ (reg r (nl (l.drop i))) : Nat) : Int)
  | 0, i, r, hi, hr => by
    rw [List.drop_eq_nil_of_le (by omega)]
    refine Ev.step (f := fun _ => some ((not_ r : Nat) : Int)) (fun k => ?_) (Ev.now _)
    simp only [stowageref02_More.l0]
    rw [if_neg (by omega), not_nat r hr]
  | d + 1, i, r, hi, hr => by
    have hil : i < l.length := by omega
    obtain ⟨x0, x1⟩ := hl _ (rd_mem l i hil)
    have hx : (rd l (i : Int)).toNat < 256 := by omega
    rw [drop_rd l i hil]
    have hR := rm_l1 l i (R := fun r => ((not_ (reg r (nl (l.drop (i + 1)))) : Nat) : Int)) (fun r hr => by
      have := rm_l0 l hl hlen d (i + 1) r (by omega) hr
      rw [← wrap64_succ i (by omega)] at this
      exact this) 8 0 (r ^^^ (rd l (i : Int)).toNat) (by omega) (xor_lt hr (by omega))
    refine Ev.step (f := fun k => stowageref02_More.l1 k l ((r ^^^ (rd l (i : Int)).toNat : Nat) : Int) (i : Int) ((0 : Nat) : Int)) (fun k => ?_) hR
    simp only [stowageref02_More.l0]
    rw [if_pos (by omega), if_pos (by omega), show rd l (i : Int) % 4294967296 = (((rd l (i : Int)).toNat : Nat) : Int) by omega, xor_nat r _ hr (by omega)]
    rfl
theorem rmore_ev (s : Nat) (l : List Int) (hs : s < 4294967296) (hl : Bytes l) (hlen : l.length < 9223372036854775807) : Ev (fun k => stowageref02_More.f k (s : Int) l) ((more s (nl l) : Nat) : Int) := by
  have h := rm_l0 l hl hlen l.length 0 (not_ s) (by omega) (not_lt hs)
  refine Ev.congr (f := fun k => stowageref02_More.l0 k l ((not_ s : Nat) : Int) ((0 : Nat) : Int)) (fun k => ?_) h
  unfold stowageref02_More.f
  rw [not_nat s hs]
  rfl
theorem rsum_ev (l : List Int) (hl : Bytes l) (hlen : l.length < 9223372036854775807) : Ev (fun k => stowageref02_Sum.f k l) ((more 0 (nl l) : Nat) : Int) := by
  unfold stowageref02_Sum.f
  exact Ev.bind (rmore_ev 0 l (by decide) hl hlen) (Ev.now _)
end Cr
/-! ### the reference's Encode -/
theorem rsumI_ev (l : List Int) (hl : Bytes l) (hlen : l.length < 9223372036854775807) : Ev (fun k => stowageref02_Sum.f k l) (crcI l) := Cr.rsum_ev l hl hlen
theorem pad_bytes {l : List Int} (h : Bytes l) : Bytes (l ++ [0]) := by
  intro x hx
  rcases List.mem_append.1 hx with hx | hx
  · exact h x hx
  · simp at hx
    omega
theorem shr8i (n : Int) (i : Nat) (h : i ≤ 8) : shr .i64 n (wrap64 (8 * (i : Int))) = n / 256 ^ i := by
  rw [wrap64_id _ (by omega) (by omega)]
  unfold shr
  have e : (8 * (i : Int)).toNat = 8 * i := by omega
  rw [e, show min (8 * i) IntKind.i64.bits = 8 * i from Nat.min_eq_left (by show 8 * i ≤ 64; omega), pow8]
theorem be4 (c : Int) : [(c / 16777216) % 256, (c / 65536) % 256, (c / 256) % 256, c % 256] = be c 4 := by
  have e3 : (256 : Int) ^ 3 = 16777216 := by decide
  have e2 : (256 : Int) ^ 2 = 65536 := by decide
  have e1 : (256 : Int) ^ 1 = 256 := by decide
  have e0 : (256 : Int) ^ 0 = 1 := by decide
  simp only [be, e3, e2, e1, e0, Int.ediv_one]
theorem renc_l1 : ∀ (d : Nat) (l : List Int), l.length + d = 60 → Bytes l → Ev (fun k => stowageref18_Encode.l1 k l) (fullS (l ++ List.replicate d 0), 0)
  | 0, l, h, hb => by
    obtain ⟨K, hK⟩ := rsumI_ev l hb (by omega)
    rw [List.replicate_zero, List.append_nil]
    refine ⟨K + 1, fun k hk => ?_⟩
    obtain ⟨n, rfl⟩ : ∃ n, k = n + 1 := ⟨k - 1, by omega⟩
    have n1 := hK n (by omega)
    dsimp only at n1
    simp only [stowageref18_Encode.l1]
    rw [if_neg (by omega), n1]
    simp only [Option.bind_some]
    rw [be4, if_pos (by rw [be_length]; omega)]
    rfl
  | d + 1, l, h, hb => by
    have ih := renc_l1 d (l ++ [0]) (by simp; omega) (pad_bytes hb)
    rw [List.append_assoc] at ih
    refine Ev.step (f := fun k => stowageref18_Encode.l1 k (l ++ [0])) (fun k => ?_) ih
    simp only [stowageref18_Encode.l1]
    rw [if_pos (by omega), if_pos (by omega)]
theorem renc_l0 (t v b s n : Int) (tag : ByteArray) (X : List Int) (hX : X.length + tag.size < 140737488355328) {R : List Int × Int} (hR : Ev (fun k => stowageref18_Encode.l1 k (X ++ bytesOf tag)) R) :
    ∀ (d : Nat) (x : List Int), d ≤ 8 → x ++ be n d = X → Ev (fun k => stowageref18_Encode.l0 k x ((d : Int) - 1) t v b s n tag) R
  | 0, x, _, h => by
    refine Ev.step (fun k => ?_) hR
    simp only [be, List.append_nil] at h
    subst h
    simp only [stowageref18_Encode.l0]
    rw [if_neg (by omega), if_pos hX]
  | d + 1, x, hd, h => by
    have hl := congrArg List.length h
    rw [List.length_append, be_length] at hl
    have ih := renc_l0 t v b s n tag X hX hR d (x ++ [n / 256 ^ d % 256]) (by omega) (by rw [List.append_assoc]; exact h)
    have e : (((d + 1 : Nat) : Int) - 1) = (d : Int) := by omega
    simp only [e]
    refine Ev.step (fun k => ?_) ih
    simp only [stowageref18_Encode.l0]
    rw [if_pos (by omega), if_pos (by rw [wrap64_id _ (by omega) (by omega)]; omega), if_pos (by omega), shr8i n d (by omega), wrap64_id ((d : Int) - 1) (by omega) (by omega)]
theorem renc_j0f (t v b s n : Int) (tag : ByteArray) (hk : tag.size = 16) : Ev (fun k => stowageref18_Encode.j0 k false t v b s n tag) (fullS (bodyH t v b s n tag), 0) := by
  have hn := fiveS_length t v b s n
  have hz := bytesOf_length tag
  have hB := bodyH_bytes t v b s n tag
  have hX : (([83, 72] : List Int) ++ fiveS t v b s n).length = 14 := by
    rw [List.length_append, hn]
    rfl
  have h1 := renc_l1 (46 - tag.size) ((([83, 72] : List Int) ++ fiveS t v b s n) ++ bytesOf tag) (by rw [List.length_append, hX, hz]; omega) (by
    intro x hx
    refine hB x ?_
    simp only [bodyH, List.mem_append] at hx ⊢
    rcases hx with hx | hx
    · exact Or.inl hx
    · exact Or.inr (Or.inl hx))
  rw [List.append_assoc] at h1
  have h2 := renc_l0 t v b s n tag (([83, 72] : List Int) ++ fiveS t v b s n) (by rw [hX]; omega) (R := (fullS (bodyH t v b s n tag), 0)) (by rw [List.append_assoc] at h1 ⊢; unfold bodyH; rw [List.append_assoc]; exact h1) 8 [83, 72, t % 256, v % 256, b % 256, s % 256] (by omega) (by
    have e0 : (256 : Int) ^ 0 = 1 := by decide
    simp only [fiveS, be, e0, Int.ediv_one]
    rfl)
  refine Ev.step (fun k => ?_) h2
  simp only [stowageref18_Encode.j0]
  rw [if_neg (by decide), if_pos (by omega)]
  rfl
theorem renc_j0t (t v b s n : Int) (tag : ByteArray) : Ev (fun k => stowageref18_Encode.j0 k true t v b s n tag) ([], 7) := by
  refine Ev.step (f := fun _ => some (([] : List Int), 7)) (fun k => ?_) (Ev.now _)
  simp only [stowageref18_Encode.j0]
  rfl
theorem renc_ev (t v b s n : Int) (tag : ByteArray) : Ev (fun k => stowageref18_Encode.f k t v b s n tag) (encH t v b s n tag) := by
  unfold encH
  by_cases hok : okH t v b s n = true
  · have h := of_decide_eq_true hok
    rw [if_pos hok]
    have e0 : ∀ k, stowageref18_Encode.f k t v b s n tag = stowageref18_Encode.j0 k false t v b s n tag := by
      intro k
      unfold stowageref18_Encode.f
      rw [if_neg (by omega), if_neg (by omega), if_neg (by omega), if_neg (by omega), if_neg (by omega), if_neg (by omega), if_neg (by omega), if_neg (by omega), if_neg (by omega), decide_eq_false (by omega)]
    refine Ev.congr e0 ?_
    by_cases hz : tag.size = 16
    · rw [if_pos hz]
      exact renc_j0f t v b s n tag hz
    · rw [if_neg hz]
      refine Ev.step (f := fun _ => some (([] : List Int), 1)) (fun k => ?_) (Ev.now _)
      simp only [stowageref18_Encode.j0]
      rw [if_neg (by decide), if_neg (by omega)]
  · rw [if_neg hok]
    have hno := of_decide_eq_false (by simpa using hok : okH t v b s n = false)
    refine Ev.congr (f := fun k => stowageref18_Encode.j0 k true t v b s n tag) (fun k => ?_) (renc_j0t t v b s n tag)
    unfold stowageref18_Encode.f
    by_cases h1 : t < 1
    · rw [if_pos h1]
    by_cases h2 : t > 7
    · rw [if_neg h1, if_pos h2]
    by_cases h3 : v < 0
    · rw [if_neg h1, if_neg h2, if_pos h3]
    by_cases h4 : v > 7
    · rw [if_neg h1, if_neg h2, if_neg h3, if_pos h4]
    by_cases h5 : b < 0
    · rw [if_neg h1, if_neg h2, if_neg h3, if_neg h4, if_pos h5]
    by_cases h6 : b > 31
    · rw [if_neg h1, if_neg h2, if_neg h3, if_neg h4, if_neg h5, if_pos h6]
    by_cases h7 : s < 0
    · rw [if_neg h1, if_neg h2, if_neg h3, if_neg h4, if_neg h5, if_neg h6, if_pos h7]
    by_cases h8 : s > 63
    · rw [if_neg h1, if_neg h2, if_neg h3, if_neg h4, if_neg h5, if_neg h6, if_neg h7, if_pos h8]
    by_cases h9 : n < 1
    · rw [if_neg h1, if_neg h2, if_neg h3, if_neg h4, if_neg h5, if_neg h6, if_neg h7, if_neg h8, if_pos h9]
    rw [if_neg h1, if_neg h2, if_neg h3, if_neg h4, if_neg h5, if_neg h6, if_neg h7, if_neg h8, if_neg h9, decide_eq_true (by omega)]
end Go.Proofs.Ytbidkiacgggpmaa.QHead
