/- What the reference's functions of a head come to, in plain terms: the same as the program's. -/
import Derived.Test.YtbidkiacgggpmaaHeadPlainE
import Derived.Test.YtbidkiacgggpmaaQHeadx8
namespace Go.Proofs.Ytbidkiacgggpmaa.QHead
open Go.RowKit Go.Proofs.YtbidkiacgggpmaaW.PrintWords Go.Proofs.YtbidkiacgggpmaaW.PrintLast Go.Proofs.YtbidkiacgggpmaaW.PrintMore Go.Proofs.Ytbidkiacgggpmaa.PackPlain
/-! ### the reference's Decode -/
theorem or_i64 (V c : Int) (h0 : 0 ≤ c) (h1 : c < 256) : Go.bits .or .i64 (wrap64 (wrap64 V * 256)) (wrap64 c) = wrap64 (V * 256 + c) := by
  have eA : wrap64 (wrap64 V * 256) % 18446744073709551616 = (V % 72057594037927936) * 256 := by
    unfold wrap64
    omega
  have eB : wrap64 c % 18446744073709551616 = c := by
    unfold wrap64
    omega
  obtain ⟨m, hm⟩ := Int.eq_ofNat_of_zero_le (show 0 ≤ V % 72057594037927936 by omega)
  obtain ⟨d, rfl⟩ := Int.eq_ofNat_of_zero_le h0
  have hb : IntKind.i64.bits = 64 := rfl
  have h64 : ((2 : Nat) ^ 64 : Nat) = 18446744073709551616 := by decide
  have tA : (BitVec.ofInt 64 (wrap64 (wrap64 V * 256))).toNat = 2 ^ 8 * m := by
    rw [BitVec.toNat_ofInt, h64]
    have : ((18446744073709551616 : Nat) : Int) = 18446744073709551616 := rfl
    rw [this, eA, hm]
    omega
  have tB : (BitVec.ofInt 64 (wrap64 (d : Int))).toNat = d := by
    rw [BitVec.toNat_ofInt, h64]
    have : ((18446744073709551616 : Nat) : Int) = 18446744073709551616 := rfl
    rw [this, eB]
    omega
  have e : Go.bits .or .i64 (wrap64 (wrap64 V * 256)) (wrap64 (d : Int)) = IntKind.i64.wrap (((BitVec.ofInt 64 (wrap64 (wrap64 V * 256)) ||| BitVec.ofInt 64 (wrap64 (d : Int))).toNat : Nat) : Int) := rfl
  rw [e, BitVec.toNat_or, tA, tB, ← Nat.two_pow_add_eq_or_of_lt (show d < 2 ^ 8 by omega) m, IntKind.wrap_i64]
  unfold wrap64
  omega
theorem val_snoc (a : Int) (l : List Int) (c : Int) : val a (l ++ [c]) = val a l * 256 + c := by
  unfold val
  rw [List.foldl_append]
  rfl
theorem seg_snoc (x : List Int) (i j : Nat) (hij : i ≤ j) (h : j < x.length) : seg x i (j + 1) = seg x i j ++ [rd x (j : Int)] := by
  unfold seg
  rw [take_rd x j h, List.drop_append_of_le_length (by rw [List.length_take]; omega)]
theorem rdec_l0 (x : List Int) (hx : Bytes x) (hl : x.length = 64) (t v b s : Int) (tag : ByteArray) : ∀ (d i : Nat), i + d = 14 → 6 ≤ i →
    Ev (fun k => stowageref18_Decode.l0 k x (i : Int) t v b s (wrap64 (val 0 (seg x 6 i))) tag) (checkH x t v b s (verS x) tag) := by
  intro d
  induction d with
  | zero =>
    intro i hi _
    obtain rfl : i = 14 := by omega
    obtain ⟨K, hK⟩ := renc_ev t v b s (verS x) tag
    have he := eqS (encH_bytes t v b s (verS x) tag) hx
    refine ⟨K + 1, fun k hk => ?_⟩
    obtain ⟨n, rfl⟩ : ∃ n, k = n + 1 := ⟨k - 1, by omega⟩
    have n1 := hK n (by omega)
    dsimp only at n1
    unfold verS at n1
    simp only [stowageref18_Decode.l0]
    rw [if_neg (by omega), n1]
    unfold checkH
    unfold verS at he ⊢
    simp only [Option.bind_some]
    generalize encH t v b s (wrap64 (val 0 (seg x 6 14))) tag = e at he ⊢
    by_cases h1 : e.2 = 0
    · rw [if_pos h1]
      by_cases h2 : e.1 = x
      · rw [if_pos (he.2 h2), if_pos ⟨h1, h2⟩]
      · rw [if_neg (fun h => h2 (he.1 h)), if_neg (fun h => h2 h.2)]
        rfl
    · rw [if_neg h1, if_neg (fun h => h1 h.1)]
      rfl
  | succ d ih =>
    intro i hi h6
    have hr := rd_range hx i (by omega)
    have ih' := ih (i + 1) (by omega) (by omega)
    rw [seg_snoc x 6 i h6 (by omega), val_snoc, ← or_i64 _ _ hr.1 hr.2] at ih'
    refine Ev.step (fun k => ?_) ih'
    simp only [stowageref18_Decode.l0]
    rw [if_pos (by omega), if_pos (by omega), if_pos (by omega), wrap64_succ i (by omega)]
theorem rdec_ev (x : List Int) (hx : Bytes x) : Ev (fun k => stowageref18_Decode.f k x) (decH x) := by
  have he0 := eqS hx zeros_bytes
  unfold decH
  by_cases h : x = List.replicate 64 0
  · rw [if_pos h]
    refine Ev.congr (f := fun _ => some (zeroH 4)) (fun k => ?_) (Ev.now _)
    unfold stowageref18_Decode.f
    rw [if_pos (by decide), if_pos (he0.2 h)]
    rfl
  · rw [if_neg h]
    have hne : ¬ ((strOfNums x).toList = (strOfNums (List.replicate 64 0)).toList) := fun e => h (he0.1 e)
    by_cases hl : x.length = 64
    · rw [if_pos hl]
      have h2 := rd_range hx 2 (by omega)
      have h3 := rd_range hx 3 (by omega)
      have h4 := rd_range hx 4 (by omega)
      have h5 := rd_range hx 5 (by omega)
      have k2 : ((2 : Nat) : Int) = 2 := rfl
      have k3 : ((3 : Nat) : Int) = 3 := rfl
      have k4 : ((4 : Nat) : Int) = 4 := rfl
      have k5 : ((5 : Nat) : Int) = 5 := rfl
      rw [k2] at h2
      rw [k3] at h3
      rw [k4] at h4
      rw [k5] at h5
      have h0 := rdec_l0 x hx hl (rd x 2) (rd x 3) (rd x 4) (rd x 5) (strOfNums (seg x 14 30)) 8 6 (by omega) (by omega)
      have e0 : wrap64 (val 0 (seg x 6 6)) = 0 := by
        have e : seg x 6 6 = [] := by
          unfold seg
          exact List.drop_eq_nil_of_le (by rw [List.length_take]; omega)
        rw [e]
        exact wrap64_id 0 (by omega) (by omega)
      rw [e0] at h0
      refine Ev.congr (fun k => ?_) h0
      unfold stowageref18_Decode.f
      rw [if_pos (by decide), if_neg hne, if_pos (by omega), if_pos (by omega), if_pos (by omega), if_pos (by omega), if_pos (by omega), if_pos (by decide), if_pos (by omega), wrap64_id (rd x 2) (by omega) (by omega), wrap64_id (rd x 3) (by omega) (by omega), wrap64_id (rd x 4) (by omega) (by omega), wrap64_id (rd x 5) (by omega) (by omega)]
      rfl
    · rw [if_neg hl]
      refine Ev.congr (f := fun _ => some (zeroH 2)) (fun k => ?_) (Ev.now _)
      unfold stowageref18_Decode.f
      rw [if_pos (by decide), if_neg hne, if_neg (by omega)]
      rfl
end Go.Proofs.Ytbidkiacgggpmaa.QHead
