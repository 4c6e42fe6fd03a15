/- What the reference's functions of a line come to, in plain terms: the same as the program's. -/
import Derived.Test.YtjfdjbmahahllaaLinePlain
import Derived.Test.YtjfdjbmahahllaaQLinex6
namespace Go.Proofs.Ytjfdjbmahahllaa.QLine
open Go.RowKit Go.Proofs.YtjfdjbmahahllaaW.PrintWords Go.Proofs.YtjfdjbmahahllaaW.PrintLast Go.Proofs.YtjfdjbmahahllaaW.PrintMore Go.Proofs.Ytjfdjbmahahllaa.PackPlain
namespace Cr
open Go.Proofs.Ytjfdjbmahahllaa.CrcPlain

/-! ### the reference -/
theorem rm_step (r : Nat) (hr : r < 4294967296) (h : r % 2 = 1) : Go.bits .xor .u32 ((Int.tdiv (r : Int) 2) % 4294967296) 3988292384 = ((st r : Nat) : Int) := by
  unfold st
  rw [if_pos h, Int.tdiv_eq_ediv_of_nonneg (by omega), show ((r : Int) / 2) % 4294967296 = ((r / 2 : Nat) : Int) by omega]
  exact xor_nat (r / 2) poly (by omega) (by decide)
theorem rm_l1 (l : List Int) (i : Nat) {R : Nat → Int} (hR : ∀ r : Nat, r < 4294967296 → Ev (fun k => stowageref02_More.l0 k l (r : Int) (wrap64 ((i : Int) + 1))) (R r)) : ∀ (d m r : Nat), m + d = 8 → r < 4294967296 →
    Ev (fun k => stowageref02_More.l1 k l (r : Int) (i : Int) (m : Int)) (R (sts d r))
  | 0, m, r, hm, hr => by
    refine Ev.step (f := fun k => stowageref02_More.l0 k l (r : Int) (wrap64 ((i : Int) + 1))) (fun k => ?_) (hR r hr)
    simp only [stowageref02_More.l1]
    rw [if_neg (by omega)]
  | d + 1, m, r, hm, hr => by
    have ih := rm_l1 l i hR d (m + 1) (st r) (by omega) (st_lt hr)
    have e : sts (d + 1) r = sts d (st r) := sts_add r 1 d
    rw [e]
    refine Ev.step (f := fun k => stowageref02_More.l1 k l ((st r : Nat) : Int) (i : Int) ((m + 1 : Nat) : Int)) (fun k => ?_) ih
    simp only [stowageref02_More.l1]
    rw [if_pos (by omega), wrap64_succ m (by omega)]
    by_cases h : r % 2 = 1
    · rw [if_pos (by rw [Int.tmod_eq_emod_of_nonneg (by omega)]; omega), rm_step r hr h]
    · rw [if_neg (by rw [Int.tmod_eq_emod_of_nonneg (by omega)]; omega)]
      unfold st
      rw [if_neg h, Int.tdiv_eq_ediv_of_nonneg (by omega), show ((r : Int) / 2) % 4294967296 = ((r / 2 : Nat) : Int) by omega]
theorem rm_l0 (l : List Int) (hl : Bytes l) (hlen : l.length < 9223372036854775807) : ∀ (d i r : Nat), i + d = l.length → r < 4294967296 → Ev (fun k => stowageref02_More.l0 k l (r : Int) (i : Int)) ((not_ (reg r (nl (l.drop i))) : Nat) : Int)
  | 0, i, r, hi, hr => by
    rw [List.drop_eq_nil_of_le (by omega)]
    refine Ev.step (f := fun _ => some ((not_ r : Nat) : Int)) (fun k => ?_) (Ev.now _)
    simp only [stowageref02_More.l0]
    rw [if_neg (by omega), not_nat r hr]
  | d + 1, i, r, hi, hr => by
    have hil : i < l.length := by omega
    obtain ⟨x0, x1⟩ := hl _ (rd_mem l i hil)
    have hx : (rd l (i : Int)).toNat < 256 := by omega
    rw [drop_rd l i hil]
    have hR := rm_l1 l i (R := fun r => ((not_ (reg r (nl (l.drop (i + 1)))) : Nat) : Int)) (fun r hr => by
      have := rm_l0 l hl hlen d (i + 1) r (by omega) hr
      rw [← wrap64_succ i (by omega)] at this
      exact this) 8 0 (r ^^^ (rd l (i : Int)).toNat) (by omega) (xor_lt hr (by omega))
    refine Ev.step (f := fun k => stowageref02_More.l1 k l ((r ^^^ (rd l (i : Int)).toNat : Nat) : Int) (i : Int) ((0 : Nat) : Int)) (fun k => ?_) hR
    simp only [stowageref02_More.l0]
    rw [if_pos (by omega), if_pos (by omega), show rd l (i : Int) % 4294967296 = (((rd l (i : Int)).toNat : Nat) : Int) by omega, xor_nat r _ hr (by omega)]
    rfl
theorem rmore_ev (s : Nat) (l : List Int) (hs : s < 4294967296) (hl : Bytes l) (hlen : l.length < 9223372036854775807) : Ev (fun k => stowageref02_More.f k (s : Int) l) ((more s (nl l) : Nat) : Int) := by
  have h := rm_l0 l hl hlen l.length 0 (not_ s) (by omega) (not_lt hs)
  refine Ev.congr (f := fun k => stowageref02_More.l0 k l ((not_ s : Nat) : Int) ((0 : Nat) : Int)) (fun k => ?_) h
  unfold stowageref02_More.f
  rw [not_nat s hs]
  rfl
theorem rsum_ev (l : List Int) (hl : Bytes l) (hlen : l.length < 9223372036854775807) : Ev (fun k => stowageref02_Sum.f k l) ((more 0 (nl l) : Nat) : Int) := by
  unfold stowageref02_Sum.f
  exact Ev.bind (rmore_ev 0 l (by decide) hl hlen) (Ev.now _)
end Cr

/-! ### the reference's Encode -/
theorem rput_loop (n : Int) (h0 : 0 ≤ n) (h1 : n < 18446744073709551616) : ∀ (d : Nat) (b : List Int), d ≤ 8 → b.length + d ≤ 140737488355328 → Ev (fun k => stowageref15_put.l0 k b n ((d : Int) - 1)) (b ++ be n d)
  | 0, b, _, _ => by
    refine Ev.step (f := fun _ => some b) (fun k => ?_) (by simpa [be] using Ev.now b)
    simp only [stowageref15_put.l0]
    rw [if_neg (by omega)]
  | d + 1, b, hd, hb => by
    have ih := rput_loop n h0 h1 d (b ++ [n / 256 ^ d % 256]) (by omega) (by simp; omega)
    have e : (((d + 1 : Nat) : Int) - 1) = (d : Int) := by omega
    simp only [e]
    refine Ev.step (f := fun k => stowageref15_put.l0 k (b ++ [n / 256 ^ d % 256]) n ((d : Int) - 1)) (fun k => ?_) ?_
    · simp only [stowageref15_put.l0]
      rw [if_pos (by omega), if_pos (by rw [wrap64_id _ (by omega) (by omega)]; omega), if_pos (by omega), u64_id n h0 h1, shr8 n d (by omega), wrap64_id ((d : Int) - 1) (by omega) (by omega)]
    · rw [List.append_assoc] at ih
      exact ih
theorem rput_ev (b : List Int) (n : Int) (s : Nat) (hs : 1 ≤ s ∧ s ≤ 8) (h0 : 0 ≤ n) (h1 : n < 18446744073709551616) (hb : b.length + 8 ≤ 140737488355328) : Ev (fun k => stowageref15_put.f k b n (s : Int)) (b ++ be n s) := by
  have := rput_loop n h0 h1 s b (by omega) (by omega)
  have e : ((s : Int) - 1) = wrap64 ((s : Int) - 1) := by rw [wrap64_id _ (by omega) (by omega)]
  rw [e] at this
  exact this
theorem rsumI_ev (l : List Int) (hl : Bytes l) (hlen : l.length < 9223372036854775807) : Ev (fun k => stowageref02_Sum.f k l) (crcI l) := Cr.rsum_ev l hl hlen
theorem pad_bytes {l : List Int} (h : Bytes l) : Bytes (l ++ [0]) := by
  intro x hx
  rcases List.mem_append.1 hx with hx | hx
  · exact h x hx
  · simp at hx
    omega
theorem renc_l0 : ∀ (d : Nat) (l : List Int), l.length + d = 60 → Bytes l → Ev (fun k => stowageref15_Encode.l0 k l) (fullS (l ++ List.replicate d 0), 0)
  | 0, l, h, hb => by
    have hc := crcI_range l hb
    have h2 : Ev (fun k => (stowageref02_Sum.f k l).bind fun t264 => ((stowageref15_put.f k l (wrap64 (t264)) 4).bind fun t265 => (some (t265, (0 : Int))))) (fullS l, 0) := by
      refine Ev.bind (rsumI_ev l hb (by omega)) ?_
      rw [wrap64_id (crcI l) (by omega) (by omega)]
      exact Ev.bind (rput_ev l (crcI l) 4 (by omega) hc.1 (by omega) (by omega)) (Ev.now _)
    rw [List.replicate_zero, List.append_nil]
    refine Ev.step (f := fun k => (stowageref02_Sum.f k l).bind fun t264 => ((stowageref15_put.f k l (wrap64 (t264)) 4).bind fun t265 => (some (t265, (0 : Int))))) (fun k => ?_) h2
    simp only [stowageref15_Encode.l0]
    rw [if_neg (by omega)]
  | d + 1, l, h, hb => by
    have ih := renc_l0 d (l ++ [0]) (by simp; omega) (pad_bytes hb)
    rw [List.append_assoc] at ih
    refine Ev.step (f := fun k => stowageref15_Encode.l0 k (l ++ [0])) (fun k => ?_) ih
    simp only [stowageref15_Encode.l0]
    rw [if_pos (by omega), if_pos (by omega)]
set_option maxRecDepth 100000 in
theorem renc_j2 (g s : Int) (last : Bool) (kd a b c d : Int) (key : ByteArray) (hok : okL g s kd a b c d = true) (hk : key.size = 0 ∨ key.size = 16) :
    Ev (fun k => stowageref15_Encode.j2 k (l01 last) g s last kd a b c d key kd a b c d key) (fullS (bodyS g s last kd a b c d key), 0) := by
  have h := of_decide_eq_true hok
  have hl : 0 ≤ l01 last ∧ l01 last ≤ 1 := by unfold l01; split <;> omega
  refine Ev.step (f := fun k => stowageref15_Encode.j2 (k + 1) (l01 last) g s last kd a b c d key kd a b c d key) (fun k => rfl) ?_
  simp only [stowageref15_Encode.j2]
  have hz := bytesOf_length key
  refine Ev.bind (rput_ev _ g 4 (by omega) (by omega) (by omega) (by simp)) ?_
  refine Ev.bind (rput_ev _ s 4 (by omega) (by omega) (by omega) (by simp [be_length])) ?_
  refine Ev.bind (rput_ev _ (l01 last) 1 (by omega) (by omega) (by omega) (by simp [be_length])) ?_
  refine Ev.bind (rput_ev _ kd 1 (by omega) (by omega) (by omega) (by simp [be_length])) ?_
  refine Ev.bind (rput_ev _ a 7 (by omega) (by omega) (by omega) (by simp [be_length])) ?_
  refine Ev.bind (rput_ev _ b 7 (by omega) (by omega) (by omega) (by simp [be_length])) ?_
  refine Ev.bind (rput_ev _ c 7 (by omega) (by omega) (by omega) (by simp [be_length])) ?_
  refine Ev.bind (rput_ev _ d 7 (by omega) (by omega) (by omega) (by simp [be_length])) ?_
  refine Ev.bind (rput_ev _ (key.size : Int) 1 (by omega) (by omega) (by omega) (by simp [be_length])) ?_
  have e : (((((((((([83, 76] : List Int) ++ be g 4) ++ be s 4) ++ be (l01 last) 1) ++ be kd 1) ++ be a 7) ++ be b 7) ++ be c 7) ++ be d 7) ++ be (key.size : Int) 1) = ([83, 76] : List Int) ++ nineS g s (l01 last) kd a b c d (key.size : Int) := by
    simp only [nineS, List.append_assoc]
  rw [e]
  have hn := nineS_length g s (l01 last) kd a b c d (key.size : Int)
  have hp := renc_l0 (19 - key.size) (([83, 76] : List Int) ++ nineS g s (l01 last) kd a b c d (key.size : Int) ++ bytesOf key) (by rw [List.length_append, List.length_append, hn, hz]; simp; omega) (by
    have hb := bodyS_bytes g s last kd a b c d key
    intro x hx
    refine hb x ?_
    simp only [bodyS, List.mem_append] at hx ⊢
    rcases hx with hx | hx
    · exact Or.inl hx
    · exact Or.inr (Or.inl hx))
  refine Ev.congr (f := fun k => stowageref15_Encode.l0 k (([83, 76] : List Int) ++ nineS g s (l01 last) kd a b c d (key.size : Int) ++ bytesOf key)) (fun k => ?_) ?_
  · rw [if_pos (by rw [List.length_append, hn]; simp; omega)]
  · rw [List.append_assoc] at hp
    exact hp
theorem rin_eq (n m : Int) : stowageref15_in.f n m = some (decide (0 ≤ n ∧ n ≤ m)) := by
  unfold stowageref15_in.f
  by_cases h : n ≥ 0
  · rw [if_pos h]
    have : 0 ≤ n := h
    simp [this]
  · rw [if_neg h]
    have : ¬ 0 ≤ n := h
    simp [this]
theorem renc_j0t (g s : Int) (last : Bool) (kd a b c d : Int) (key : ByteArray) : Ev (fun k => stowageref15_Encode.j0 k true g s last kd a b c d key kd a b c d key) ([], 7) := by
  refine Ev.step (f := fun _ => some (([] : List Int), 7)) (fun k => ?_) (Ev.now _)
  simp only [stowageref15_Encode.j0]
  rfl
theorem renc_j1t (g s : Int) (last : Bool) (kd a b c d : Int) (key : ByteArray) : Ev (fun k => stowageref15_Encode.j1 k true g s last kd a b c d key kd a b c d key) ([], 1) := by
  refine Ev.step (f := fun _ => some (([] : List Int), 1)) (fun k => ?_) (Ev.now _)
  simp only [stowageref15_Encode.j1]
  rfl
theorem renc_j1f (g s : Int) (last : Bool) (kd a b c d : Int) (key : ByteArray) (hok : okL g s kd a b c d = true) (hk : key.size = 0 ∨ key.size = 16) :
    Ev (fun k => stowageref15_Encode.j1 k false g s last kd a b c d key kd a b c d key) (fullS (bodyS g s last kd a b c d key), 0) := by
  refine Ev.step (f := fun k => stowageref15_Encode.j2 k (l01 last) g s last kd a b c d key kd a b c d key) (fun k => ?_) (renc_j2 g s last kd a b c d key hok hk)
  simp only [stowageref15_Encode.j1]
  rw [if_neg (by decide)]
  cases last
  · rw [if_neg (by decide)]
    rfl
  · rw [if_pos rfl]
    rfl
theorem renc_ev (g s : Int) (last : Bool) (kd a b c d : Int) (key : ByteArray) : Ev (fun k => stowageref15_Encode.f k g s last kd a b c d key) (encS g s last kd a b c d key) := by
  unfold encS
  by_cases hok : okL g s kd a b c d = true
  · have h := of_decide_eq_true hok
    rw [if_pos hok]
    have e0 : ∀ k, stowageref15_Encode.f k g s last kd a b c d key = stowageref15_Encode.j0 k false g s last kd a b c d key kd a b c d key := by
      intro k
      unfold stowageref15_Encode.f
      simp only [rin_eq, Option.bind_some]
      rw [if_pos (decide_eq_true (by omega)), if_pos (decide_eq_true (by omega)), if_pos (decide_eq_true (by omega)), if_pos (decide_eq_true (by omega)), if_pos (decide_eq_true (by omega)), if_pos (decide_eq_true (by omega)), decide_eq_true (show 0 ≤ d ∧ d ≤ 1099511627776 by omega)]
      rfl
    refine Ev.congr e0 ?_
    by_cases hz : key.size = 0
    · rw [if_pos (Or.inl hz)]
      refine Ev.step (f := fun k => stowageref15_Encode.j1 k false g s last kd a b c d key kd a b c d key) (fun k => ?_) (renc_j1f g s last kd a b c d key hok (Or.inl hz))
      simp only [stowageref15_Encode.j0]
      rw [if_neg (by decide), if_pos (by omega)]
    · by_cases h16 : key.size = 16
      · rw [if_pos (Or.inr h16)]
        refine Ev.step (f := fun k => stowageref15_Encode.j1 k false g s last kd a b c d key kd a b c d key) (fun k => ?_) (renc_j1f g s last kd a b c d key hok (Or.inr h16))
        simp only [stowageref15_Encode.j0]
        have e : ((key.size : Int) != 16) = false := by
          rw [h16]
          rfl
        rw [if_neg (by decide), if_neg (by omega), e]
      · rw [if_neg (by omega)]
        refine Ev.step (f := fun k => stowageref15_Encode.j1 k true g s last kd a b c d key kd a b c d key) (fun k => ?_) (renc_j1t g s last kd a b c d key)
        simp only [stowageref15_Encode.j0]
        have e : ((key.size : Int) != 16) = true := by
          rw [bne_iff_ne]
          omega
        rw [if_neg (by decide), if_neg (by omega), e]
  · rw [if_neg hok]
    have hno := of_decide_eq_false (by simpa using hok : okL g s kd a b c d = false)
    refine Ev.congr (f := fun k => stowageref15_Encode.j0 k true g s last kd a b c d key kd a b c d key) (fun k => ?_) (renc_j0t g s last kd a b c d key)
    unfold stowageref15_Encode.f
    simp only [rin_eq, Option.bind_some]
    by_cases h1 : 0 ≤ g ∧ g ≤ 2147483647
    · rw [if_pos (decide_eq_true h1)]
      by_cases h2 : 0 ≤ s ∧ s ≤ 2147483647
      · rw [if_pos (decide_eq_true h2)]
        by_cases h3 : 0 ≤ kd ∧ kd ≤ 9
        · rw [if_pos (decide_eq_true h3)]
          by_cases h4 : 0 ≤ a ∧ a ≤ 1099511627776
          · rw [if_pos (decide_eq_true h4)]
            by_cases h5 : 0 ≤ b ∧ b ≤ 1099511627776
            · rw [if_pos (decide_eq_true h5)]
              by_cases h6 : 0 ≤ c ∧ c ≤ 1099511627776
              · rw [if_pos (decide_eq_true h6), decide_eq_false (show ¬ (0 ≤ d ∧ d ≤ 1099511627776) by omega)]
                rfl
              · rw [if_neg (by simpa using h6)]
            · rw [if_neg (by simpa using h5)]
          · rw [if_neg (by simpa using h4)]
        · rw [if_neg (by simpa using h3)]
      · rw [if_neg (by simpa using h2)]
    · rw [if_neg (by simpa using h1)]
end Go.Proofs.Ytjfdjbmahahllaa.QLine
