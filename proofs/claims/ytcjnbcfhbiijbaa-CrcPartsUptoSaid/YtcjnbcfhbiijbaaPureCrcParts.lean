/- CrcParts: a text may be summed in any two parts, or the sums of its parts joined. -/
import Derived.Test.YtcjnbcfhbiijbaaQCrcPartsx1
import Derived.Test.YtcjnbcfhbiijbaaCrcPlain
namespace Go.Proofs.Ytcjnbcfhbiijbaa.Pure
open Go.RowKit Go.Proofs.Ytcjnbcfhbiijbaa.QCrcParts Go.Proofs.YtcjnbcfhbiijbaaW.PrintWords Go.Proofs.YtcjnbcfhbiijbaaW.PrintLast Go.Proofs.Ytcjnbcfhbiijbaa.CrcPlain

/-! ### the functions come to the plain ones -/
theorem and_one (r : Nat) (h : r < 4294967296) : Go.bits .and .u32 (r : Int) 1 = ((r % 2 : Nat) : Int) := by
  have := u32_and_nat r 1 h (by decide)
  rw [nat_mask1] at this
  exact this
theorem xor_nat (a b : Nat) (ha : a < 4294967296) (hb : b < 4294967296) : Go.bits .xor .u32 (a : Int) (b : Int) = ((a ^^^ b : Nat) : Int) := u32_xor_nat a b ha hb
theorem stepI_nat (r : Nat) (h : r < 4294967296) : stepI (r : Int) = ((st r : Nat) : Int) := by
  unfold stepI st
  rw [and_one r h, show (r : Int) / 2 = ((r / 2 : Nat) : Int) by omega]
  by_cases hr : r % 2 = 1
  · rw [if_pos (by omega), if_pos hr]
    exact xor_nat (r / 2) poly (by omega) (by decide)
  · rw [if_neg (by omega), if_neg hr]
theorem iterI_nat (r : Nat) (h : r < 4294967296) : ∀ n, iterI n (r : Int) = ((sts n r : Nat) : Int)
  | 0 => rfl
  | n + 1 => by simp only [iterI, sts]; rw [iterI_nat r h n, stepI_nat _ (sts_lt h n)]
theorem tabT_nat (j : Nat) (h : j < 4294967296) : tabT j = ((sts 8 j : Nat) : Int) := iterI_nat j h 8
theorem moreStep_nat (r b : Nat) (hr : r < 4294967296) (hb : b < 256) : moreStep (r : Int) (b : Int) = ((addB r b : Nat) : Int) := by
  unfold moreStep
  rw [show (r : Int) % 256 = ((r % 256 : Nat) : Int) by omega, u8_xor_nat (r % 256) b (by omega) hb, Int.toNat_natCast]
  have hx : r % 256 ^^^ b < 256 := Nat.xor_lt_two_pow (n := 8) (by omega) hb
  rw [tabT_nat _ (by omega), show (r : Int) / 256 = ((r / 256 : Nat) : Int) by omega, xor_nat _ _ (by omega) (sts_lt (by omega) 8), addB_table r b hb]
def Bytes (l : List Int) : Prop := ∀ x ∈ l, 0 ≤ x ∧ x < 256
def nl (l : List Int) : List Nat := l.map Int.toNat
theorem nl_lt {l : List Int} (h : Bytes l) : ∀ b ∈ nl l, b < 256 := by
  intro b hb
  obtain ⟨x, hx, rfl⟩ := List.mem_map.1 hb
  have := h x hx
  omega
theorem fold_nat : ∀ (l : List Int) (r : Nat), r < 4294967296 → Bytes l → l.foldl moreStep (r : Int) = ((reg r (nl l) : Nat) : Int)
  | [], _, _, _ => rfl
  | x :: l, r, hr, hl => by
    have hx := hl x List.mem_cons_self
    have e : x = ((x.toNat : Nat) : Int) := by omega
    have hb : x.toNat < 256 := by omega
    have ih := fold_nat l (addB r x.toNat) (addB_lt hr hb) (fun y hy => hl y (List.mem_cons_of_mem _ hy))
    rw [List.foldl_cons]
    conv => lhs; rw [e, moreStep_nat r x.toNat hr hb]
    exact ih
theorem max_u32 : IntKind.u32.max = ((ones : Nat) : Int) := rfl
theorem not_nat (x : Nat) (h : x < 4294967296) : Go.bits .xor .u32 IntKind.u32.max (x : Int) = ((not_ x : Nat) : Int) := by
  rw [max_u32]
  exact xor_nat ones x (by decide) h
theorem more_eq (s : Nat) (l : List Int) (hs : s < 4294967296) (hl : Bytes l) : crc_More.f (s : Int) l = some ((more s (nl l) : Nat) : Int) := by
  unfold crc_More.f
  rw [not_nat s hs, fold_nat l _ (not_lt hs) hl, not_nat _ (reg_lt _ _ (not_lt hs) (nl_lt hl))]
  rfl
theorem more_lt {s : Nat} {l : List Int} (hs : s < 4294967296) (hl : Bytes l) : more s (nl l) < 4294967296 := not_lt (reg_lt _ _ (not_lt hs) (nl_lt hl))
theorem sum_eq (l : List Int) (hl : Bytes l) : crc_Sum.f l = some ((more 0 (nl l) : Nat) : Int) := by
  unfold crc_Sum.f
  have := more_eq 0 l (by decide) hl
  rw [show ((0 : Nat) : Int) = 0 from rfl] at this
  rw [this]
  rfl
theorem awake_eq : stowagelaw02_awake.f = some true := by
  unfold stowagelaw02_awake.f
  rw [sum_eq nine (by intro x hx; simp [nine] at hx; omega), sum_eq [] (by intro x hx; cases hx)]
  have e : more 0 (nl nine) = 3421780262 := by decide +kernel
  have e0 : more 0 (nl []) = 0 := by decide +kernel
  rw [e, e0]
  rfl
theorem bytes_of_wf {l : List Int} (h : ∀ x ∈ l, (Lit.int .u8 x).wf = true) : Bytes l := by
  intro x hx
  have := h x hx
  simp [Lit.wf, IntKind.min, IntKind.max, IntKind.signed, IntKind.bits] at this
  omega
theorem u32_of_wf {x : Int} (h : (Lit.int .u32 x).wf = true) : ∃ n : Nat, x = (n : Int) ∧ n < 4294967296 := by
  simp [Lit.wf, IntKind.min, IntKind.max, IntKind.signed, IntKind.bits] at h
  exact ⟨x.toNat, by omega, by omega⟩
theorem i64_of_wf {x : Int} (h : (Lit.int .i64 x).wf = true) : -9223372036854775808 ≤ x ∧ x ≤ 9223372036854775807 := by
  simp [Lit.wf, IntKind.min, IntKind.max, IntKind.signed, IntKind.bits] at h
  omega
theorem wrap64_id (x : Int) (h0 : -9223372036854775808 ≤ x) (h1 : x ≤ 9223372036854775807) : wrap64 x = x := by unfold wrap64; omega
theorem wrap64_succ (i : Nat) (h : i < 9223372036854775807) : wrap64 ((i : Int) + 1) = ((i + 1 : Nat) : Int) := by rw [wrap64_id _ (by omega) (by omega)]; omega
theorem rd_nat (l : List Int) (i : Nat) (h : i < l.length) : rd l (i : Int) = l[i] := by
  simp [rd, List.getD_eq_getElem?_getD, List.getElem?_eq_getElem h]
theorem rd_mem (l : List Int) (i : Nat) (h : i < l.length) : rd l (i : Int) ∈ l := by rw [rd_nat l i h]; exact List.getElem_mem h
theorem drop_rd (l : List Int) (i : Nat) (h : i < l.length) : l.drop i = rd l (i : Int) :: l.drop (i + 1) := by
  rw [rd_nat l i h]; exact List.drop_eq_getElem_cons h

/-! ### runs of bytes 0 -/
theorem byBits_zero (M : Nat → Nat) : ∀ d i, byBits M d i 0 = 0
  | 0, _ => rfl
  | d + 1, i => by simp [byBits, byBits_zero M d]
theorem byBits_lt {M : Nat → Nat} (hM : ∀ j, j < 32 → M j < 4294967296) : ∀ (d i r : Nat), i + d = 32 → byBits M d i r < 4294967296
  | 0, _, _, _ => by simp [byBits]
  | d + 1, i, r, h => by
    simp only [byBits]
    refine xor_lt ?_ (byBits_lt hM d _ _ (by omega))
    split
    · exact hM i (by omega)
    · decide
theorem tI_nat (M : Nat → Int) (K : Nat → Nat) (hM : ∀ j, j < 32 → M j = ((K j : Nat) : Int)) (hK : ∀ j, j < 32 → K j < 4294967296) : ∀ (d i r o : Nat), i + d = 32 → r < 2 ^ d → o < 4294967296 →
    tI M d i (r : Int) (o : Int) = ((o ^^^ byBits K d i r : Nat) : Int)
  | 0, i, r, o, _, _, _ => by simp [tI, byBits]
  | d + 1, i, r, o, hi, hr, ho => by
    simp only [tI]
    by_cases h0 : r = 0
    · subst h0
      rw [if_pos (show ((0 : Nat) : Int) = 0 from rfl), byBits_zero, Nat.xor_zero]
    · have hr32 : r < 4294967296 := by
        have : 2 ^ (d + 1) ≤ 2 ^ 32 := Nat.pow_le_pow_right (by decide) (by omega)
        omega
      have hd : r / 2 < 2 ^ d := by rw [Nat.pow_succ] at hr; omega
      rw [if_neg (by omega), and_one r hr32, show (r : Int) / 2 = ((r / 2 : Nat) : Int) by omega]
      simp only [byBits]
      by_cases h : r % 2 = 1
      · rw [if_pos (by omega), if_pos h, hM i (by omega), xor_nat o _ ho (hK i (by omega)), tI_nat M K hM hK d (i + 1) (r / 2) _ (by omega) hd (xor_lt ho (hK i (by omega))), Nat.xor_assoc]
      · rw [if_neg (by omega), if_neg h, tI_nat M K hM hK d (i + 1) (r / 2) o (by omega) hd ho, Nat.zero_xor]
theorem tI_zs (M : Nat → Int) (p : Nat) (hM : ∀ j, j < 32 → M j = ((zs p (2 ^ j) : Nat) : Int)) (r : Nat) (hr : r < 4294967296) : tI M 32 0 (r : Int) 0 = ((zs p r : Nat) : Int) := by
  have hK : ∀ j, j < 32 → zs p (2 ^ j) < 4294967296 := fun j hj => zs_lt p (by
    have := Nat.pow_lt_pow_right (a := 2) (by decide) hj
    omega)
  have h := tI_nat M (fun j => zs p (2 ^ j)) hM hK 32 0 r 0 rfl hr (by decide)
  rw [show ((0 : Nat) : Int) = 0 from rfl] at h
  rw [h, Nat.zero_xor, byBits_lin (zs p) (zs_xor p) (sts_zero _) _ (fun _ _ => rfl) 32 0 r rfl hr]
  simp
theorem wraps_i64 (n : Int) (h₀ : 0 ≤ n) (h₁ : n < 2 ^ 63) : IntKind.i64.wrap n = n := by rw [IntKind.wrap_i64]; omega
theorem odd_i64 (n : Int) (h0 : 0 ≤ n) (h1 : n < 9223372036854775808) : Go.bits .and .i64 n 1 = n % 2 := bits_mask .i64 63 (by decide) wraps_i64 1 (by decide) n h0 h1
theorem zI_zs : ∀ (d : Nat) (n : Nat) (M : Nat → Int) (p r : Nat), n < 2 ^ d → n < 9223372036854775808 → (∀ j, j < 32 → M j = ((zs p (2 ^ j) : Nat) : Int)) → r < 4294967296 → zI d (n : Int) M (r : Int) = ((zs (p * n) r : Nat) : Int)
  | 0, n, M, p, r, hn, _, _, _ => by
    have : n = 0 := by simp at hn; exact hn
    subst this
    simp [zI, zs, sts]
  | d + 1, n, M, p, r, hn, hb, hM, hr => by
    simp only [zI]
    by_cases h0 : n = 0
    · subst h0
      rw [if_neg (by omega)]
      simp [zs, sts]
    · have hM2 : ∀ j, j < 32 → twI M j = ((zs (2 * p) (2 ^ j) : Nat) : Int) := fun j hj => by
        have h2 := Nat.pow_lt_pow_right (a := 2) (by decide) hj
        unfold twI
        rw [hM j hj, tI_zs M p hM _ (zs_lt p (by omega)), ← zs_add, show p + p = 2 * p by omega]
      rw [if_pos (by omega), odd_i64 n (by omega) (by omega), show (n : Int) / 2 = ((n / 2 : Nat) : Int) by omega]
      have hd : n / 2 < 2 ^ d := by rw [Nat.pow_succ] at hn; omega
      by_cases h : n % 2 = 1
      · rw [if_pos (by omega), tI_zs M p hM r hr, zI_zs d (n / 2) (twI M) (2 * p) _ hd (by omega) hM2 (zs_lt p hr), zs_double p n r, h, Nat.mul_one, zs_comm]
      · have h' : n % 2 = 0 := by omega
        rw [if_neg (by omega), zI_zs d (n / 2) (twI M) (2 * p) r hd (by omega) hM2 hr, zs_double p n r, h', Nat.mul_zero]
        rfl
theorem m0_nat (j : Nat) (hj : j < 32) : m0 j = ((zs 1 (2 ^ j) : Nat) : Int) := by
  have h2 := Nat.pow_lt_pow_right (a := 2) (by decide) hj
  have e : (2 : Int) ^ j % 4294967296 = ((2 ^ j : Nat) : Int) := by
    have : ((2 ^ j : Nat) : Int) = (2 : Int) ^ j := Int.natCast_pow 2 j
    rw [← this]
    generalize (2 ^ j : Nat) = q at h2
    omega
  unfold m0
  rw [e, iterI_nat _ (by omega)]
  rfl
theorem zeros_eq (s n : Nat) (hs : s < 4294967296) (hn : n < 9223372036854775808) : crc_Zeros.f (s : Int) (n : Int) = some ((zeros s n : Nat) : Int) := by
  unfold crc_Zeros.f
  rw [not_nat s hs, Int.toNat_natCast, zI_zs n n m0 1 _ Nat.lt_two_pow_self hn m0_nat (not_lt hs), Nat.one_mul, not_nat _ (zs_lt n (not_lt hs))]
  rfl
theorem zeros_neg (s : Nat) (n : Int) (hs : s < 4294967296) (hn : n ≤ 0) : crc_Zeros.f (s : Int) n = some (s : Int) := by
  unfold crc_Zeros.f
  rw [not_nat s hs, zI_done _ _ _ _ (by omega), not_nat _ (not_lt hs), not_not]
theorem zeros_lt (s n : Nat) (hs : s < 4294967296) : zeros s n < 4294967296 := not_lt (zs_lt n (not_lt hs))

/-! ### the law, where the texts together are shorter than 2^47 bytes -/
theorem nl_append (l m : List Int) : nl (l ++ m) = nl l ++ nl m := by simp [nl]
theorem join_lt {a b n : Nat} (ha : a < 4294967296) (hb : b < 4294967296) : join a b n < 4294967296 := xor_lt (zs_lt n ha) hb
theorem join_eq (a b n : Nat) (ha : a < 4294967296) (hb : b < 4294967296) (hn : n < 9223372036854775808) : crc_Join.f (a : Int) (b : Int) (n : Int) = some ((join a b n : Nat) : Int) := by
  have h1 := zeros_eq a n ha hn
  have h0 : crc_Zeros.f 0 (n : Int) = some ((zeros 0 n : Nat) : Int) := zeros_eq 0 n (by decide) hn
  have hj := zeros_join a b n
  have hA := zeros_lt a n ha
  have hB := zeros_lt 0 n (by decide)
  generalize zeros a n = A at *
  generalize zeros 0 n = B at *
  unfold crc_Join.f
  rw [h1, h0]
  simp only [Option.bind_some]
  rw [xor_nat A B hA hB, xor_nat (A ^^^ B) b (xor_lt hA hB) hb, hj]
theorem parts_eq (a b : List Int) (ha : Bytes a) (hb : Bytes b) (h : a.length + b.length < 140737488355328) : stowagelaw02_CrcParts.f a b = some true := by
  have hab : Bytes (a ++ b) := fun x hx => (List.mem_append.1 hx).elim (ha x) (hb x)
  have la : more 0 (nl a) < 4294967296 := more_lt (by decide) ha
  have lb : more 0 (nl b) < 4294967296 := more_lt (by decide) hb
  have e1 : more (more 0 (nl a)) (nl b) = more 0 (nl (a ++ b)) := by rw [nl_append, more_append]
  have e2 : join (more 0 (nl a)) (more 0 (nl b)) b.length = more 0 (nl (a ++ b)) := by
    have := join_parts (nl a) (nl b)
    rw [show (nl b).length = b.length by simp [nl], ← nl_append] at this
    exact this
  have hj := join_eq (more 0 (nl a)) (more 0 (nl b)) b.length la lb (by omega)
  have hm := more_eq (more 0 (nl a)) b la hb
  rw [e2] at hj
  rw [e1] at hm
  have s1 := sum_eq a ha
  have s2 := sum_eq b hb
  have s3 := sum_eq (a ++ b) hab
  unfold stowagelaw02_CrcParts.f
  rw [Option.bind_some, if_pos (by simp; omega), Option.bind_some, if_pos (by simp; omega), List.nil_append, s3, Option.bind_some, awake_eq, Option.bind_some, if_pos rfl, s1, Option.bind_some, hm, Option.bind_some, if_pos rfl, Option.bind_some, s2, Option.bind_some, hj, Option.bind_some]
  simp

end Go.Proofs.Ytcjnbcfhbiijbaa.Pure
