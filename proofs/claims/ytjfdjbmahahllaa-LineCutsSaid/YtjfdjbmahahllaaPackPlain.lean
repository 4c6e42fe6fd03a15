/- Plain facts on numbers as bytes (256 to the power of s), on the values of bytes, and on the lists that 'pack' and its reference compute. No Go in it. -/
import Derived.Test.YtjfdjbmahahllaaWMore
namespace Go.Proofs.Ytjfdjbmahahllaa.PackPlain
open Go.RowKit Go.Proofs.YtjfdjbmahahllaaW.PrintWords

theorem wrap64_id (x : Int) (h0 : -9223372036854775808 ≤ x) (h1 : x ≤ 9223372036854775807) : wrap64 x = x := by unfold wrap64; omega
theorem wrap64_succ (i : Nat) (h : i < 9223372036854775807) : wrap64 ((i : Int) + 1) = ((i + 1 : Nat) : Int) := by rw [wrap64_id _ (by omega) (by omega)]; omega
theorem u64_wrap (x : Int) : IntKind.u64.wrap x = x % 18446744073709551616 := by simp [IntKind.wrap, IntKind.bits, IntKind.signed]
theorem u64_id (x : Int) (h0 : 0 ≤ x) (h1 : x < 18446744073709551616) : IntKind.u64.wrap x = x := by rw [u64_wrap]; omega

/-! ### numbers as bytes -/
def be (n : Int) : Nat → List Int
  | 0 => []
  | s + 1 => n / 256 ^ s % 256 :: be n s
def val (a : Int) (l : List Int) : Int := l.foldl (fun a x => a * 256 + x) a
def Bytes (l : List Int) : Prop := ∀ x ∈ l, 0 ≤ x ∧ x < 256

theorem be_length (n : Int) : ∀ s, (be n s).length = s
  | 0 => rfl
  | s + 1 => by simp [be, be_length n s]
theorem be_bytes (n : Int) : ∀ s, Bytes (be n s)
  | 0 => by intro x hx; cases hx
  | s + 1 => by
    intro x hx
    rcases List.mem_cons.1 hx with rfl | hx
    · omega
    · exact be_bytes n s x hx
theorem pow_pos (s : Nat) : (0 : Int) < 256 ^ s := Int.pow_pos (by decide)
theorem mod_split (n p : Int) (hp : 0 < p) : n % (p * 256) = n / p % 256 * p + n % p := by
  have h1 := Int.mul_ediv_add_emod n p
  have h2 := Int.mul_ediv_add_emod (n / p) 256
  have h3 := Int.emod_nonneg n (Int.ne_of_gt hp)
  have h4 := Int.emod_lt_of_pos n hp
  have h5 : 0 ≤ n / p % 256 := by omega
  have h6 : n / p % 256 ≤ 255 := by omega
  have h7 : n = n / p / 256 * (p * 256) + (n / p % 256 * p + n % p) := by
    have e : n / p = 256 * (n / p / 256) + n / p % 256 := h2.symm
    calc n = p * (n / p) + n % p := h1.symm
      _ = p * (256 * (n / p / 256) + n / p % 256) + n % p := by rw [← e]
      _ = _ := by rw [Int.mul_add, ← Int.mul_assoc, Int.mul_comm (p * 256), Int.mul_comm p (n / p % 256), Int.add_assoc]
  have h8 : 0 ≤ n / p % 256 * p + n % p := by
    have := Int.mul_nonneg h5 (Int.le_of_lt hp)
    omega
  have h9 : n / p % 256 * p + n % p < p * 256 := by
    have := Int.mul_le_mul_of_nonneg_right h6 (Int.le_of_lt hp)
    omega
  have h10 : n % (p * 256) = (n / p / 256 * (p * 256) + (n / p % 256 * p + n % p)) % (p * 256) := by rw [← h7]
  rw [h10, Int.add_comm, Int.add_mul_emod_self_right, Int.emod_eq_of_lt h8 h9]
theorem val_be (n : Int) : ∀ (s : Nat) (a : Int), val a (be n s) = a * 256 ^ s + n % 256 ^ s
  | 0, a => by simp [val, be, Int.emod_one]
  | s + 1, a => by
    have ih := val_be n s (a * 256 + n / 256 ^ s % 256)
    have : val a (be n (s + 1)) = val (a * 256 + n / 256 ^ s % 256) (be n s) := rfl
    rw [this, ih, Int.pow_succ, mod_split n (256 ^ s) (pow_pos s), Int.add_mul, Int.mul_assoc, Int.mul_comm 256 (256 ^ s), Int.add_assoc]
theorem val_range : ∀ (l : List Int) (a : Int), Bytes l → 0 ≤ a → a * 256 ^ l.length ≤ val a l ∧ val a l < (a + 1) * 256 ^ l.length
  | [], a, _, _ => by simp [val]; omega
  | x :: l, a, h, ha => by
    have hx := h x List.mem_cons_self
    obtain ⟨h1, h2⟩ := val_range l (a * 256 + x) (fun y hy => h y (List.mem_cons_of_mem _ hy)) (by omega)
    have hp := pow_pos l.length
    have e : val a (x :: l) = val (a * 256 + x) l := rfl
    rw [e, List.length_cons, Int.pow_succ]
    have e1 : a * (256 ^ l.length * 256) = (a * 256) * 256 ^ l.length := by rw [Int.mul_comm (256 ^ l.length) 256, Int.mul_assoc]
    have e2 : (a + 1) * (256 ^ l.length * 256) = (a * 256 + 256) * 256 ^ l.length := by rw [Int.mul_comm (256 ^ l.length) 256, ← Int.mul_assoc, Int.add_mul a 1 256, Int.one_mul]
    rw [e1, e2]
    constructor
    · exact Int.le_trans (Int.mul_le_mul_of_nonneg_right (by omega) (Int.le_of_lt hp)) h1
    · exact Int.lt_of_lt_of_le h2 (Int.mul_le_mul_of_nonneg_right (by omega) (Int.le_of_lt hp))
theorem val_lt (l : List Int) (h : Bytes l) : 0 ≤ val 0 l ∧ val 0 l < 256 ^ l.length := by
  have := val_range l 0 h (Int.le_refl _)
  simpa using this
theorem be_shift (n : Int) (x : Int) (h0 : 0 ≤ x) (s : Nat) (h : x < 256 ^ s) : ∀ t, t ≤ s → be (n * 256 ^ s + x) t = be x t
  | 0, _ => rfl
  | t + 1, ht => by
    have e : (256 : Int) ^ s = 256 ^ (s - t - 1) * 256 * 256 ^ t := by rw [← Int.pow_succ, ← Int.pow_add]; congr 1; omega
    have : (n * 256 ^ s + x) / 256 ^ t % 256 = x / 256 ^ t % 256 := by
      rw [e, Int.add_comm, ← Int.mul_assoc, Int.add_mul_ediv_right _ _ (Int.ne_of_gt (pow_pos t)), ← Int.mul_assoc, Int.add_mul_emod_self_right]
    simp only [be]
    rw [this, be_shift n x h0 s h t (by omega)]
theorem be_val : ∀ (l : List Int) (a : Int), Bytes l → 0 ≤ a → be (val a l) l.length = l
  | [], _, _, _ => rfl
  | x :: l, a, h, ha => by
    have hx := h x List.mem_cons_self
    have hl : Bytes l := fun y hy => h y (List.mem_cons_of_mem _ hy)
    have ih := be_val l (a * 256 + x) hl (by omega)
    have e : val a (x :: l) = val (a * 256 + x) l := rfl
    obtain ⟨h1, h2⟩ := val_range l (a * 256 + x) hl (by omega)
    have hp := pow_pos l.length
    have hq : val (a * 256 + x) l / 256 ^ l.length = a * 256 + x := by
      have q1 := Int.le_ediv_of_mul_le hp h1
      have q2 := Int.ediv_lt_of_lt_mul hp h2
      omega
    simp only [List.length_cons, be]
    rw [e, ih, hq]
    congr 1
    omega
theorem be_wider (n : Int) (s : Nat) (h0 : 0 ≤ n) (h : n < 256 ^ s) : be n (s + 1) = 0 :: be n s := by
  simp only [be]
  rw [Int.ediv_eq_zero_of_lt h0 h]; rfl

/-! ### elements by place -/
theorem rd_nat (l : List Int) (i : Nat) (h : i < l.length) : rd l (i : Int) = l[i] := by
  simp [rd, List.getD_eq_getElem?_getD, List.getElem?_eq_getElem h]
theorem rd_mem (l : List Int) (i : Nat) (h : i < l.length) : rd l (i : Int) ∈ l := by rw [rd_nat l i h]; exact List.getElem_mem h
theorem drop_rd (l : List Int) (i : Nat) (h : i < l.length) : l.drop i = rd l (i : Int) :: l.drop (i + 1) := by
  rw [rd_nat l i h]; exact List.drop_eq_getElem_cons h
theorem take_rd (l : List Int) (i : Nat) (h : i < l.length) : l.take (i + 1) = l.take i ++ [rd l (i : Int)] := by
  rw [rd_nat l i h]; exact List.take_succ_eq_append_getElem h
theorem drop_all (l : List Int) (i : Nat) (h : l.length ≤ i) : l.drop i = [] := List.drop_eq_nil_of_le h

/-! ### shifts and bits -/
theorem pow8 (i : Nat) : (2 : Int) ^ (8 * i) = 256 ^ i := by rw [Int.pow_mul]; rfl
theorem shr8 (n : Int) (i : Nat) (h : i ≤ 8) : shr .u64 n (wrap64 (8 * (i : Int))) = n / 256 ^ i := by
  rw [wrap64_id _ (by omega) (by omega)]
  unfold shr
  have e : (8 * (i : Int)).toNat = 8 * i := by omega
  rw [e, show min (8 * i) IntKind.u64.bits = 8 * i from Nat.min_eq_left (by show 8 * i ≤ 64; omega), pow8]
theorem u64_wraps (n : Int) (h0 : 0 ≤ n) (h1 : n < 2 ^ 64) : IntKind.u64.wrap n = n := u64_id n h0 (by simpa using h1)
theorem or_byte (a x : Int) (ha : 0 ≤ a) (ha' : a * 256 < 18446744073709551616) (hx : 0 ≤ x) (hx' : x < 256) : Go.bits .or .u64 (IntKind.u64.wrap (a * 256)) (IntKind.u64.wrap x) = a * 256 + x := by
  rw [u64_id (a * 256) (by omega) ha', u64_id x hx (by omega)]
  exact bits_join .u64 64 (by decide) u64_wraps 8 (a * 256) x (by omega) (by omega) (by omega) hx (by omega) (by omega)
theorem pow_le8 (i : Nat) (h : i ≤ 8) : (256 : Int) ^ i ≤ 18446744073709551616 := by
  have : i = 0 ∨ i = 1 ∨ i = 2 ∨ i = 3 ∨ i = 4 ∨ i = 5 ∨ i = 6 ∨ i = 7 ∨ i = 8 := by omega
  rcases this with rfl | rfl | rfl | rfl | rfl | rfl | rfl | rfl | rfl <;> decide
theorem pow_mono {i j : Nat} (h : i ≤ j) : (256 : Int) ^ i ≤ 256 ^ j := by
  obtain ⟨d, rfl⟩ := Nat.exists_eq_add_of_le h
  rw [Int.pow_add]
  have h1 := pow_pos i
  have h2 := pow_pos d
  have h3 : (256 : Int) ^ i * 1 ≤ 256 ^ i * 256 ^ d := Int.mul_le_mul_of_nonneg_left (by omega) (Int.le_of_lt h1)
  rwa [Int.mul_one] at h3

/-! ### what 'pack' and its reference compute -/
def okS (s : Int) : Bool := decide (1 ≤ s) && decide (s ≤ 8)
theorem okS_iff (s : Int) : okS s = true ↔ 1 ≤ s ∧ s ≤ 8 := by simp [okS]
theorem okS_no (s : Int) : okS s = false ↔ s < 1 ∨ 8 < s := by simp [okS]; omega
def fitS (n s : Int) : Bool := decide (n < 256 ^ s.toNat)
def fieldsGo : List Int → List Int → List Int → List Int × Int
  | n :: ns, s :: ss, out => if fitS n s = true then fieldsGo ns ss (out ++ be n s.toNat) else ([], 7)
  | _, _, out => (out, 0)
def fieldsS (l z : List Int) : List Int × Int :=
  if l.length = z.length ∧ l.length ≤ 4096 ∧ z.all okS = true then fieldsGo l z [] else ([], 1)
def getS (l : List Int) (s : Int) : Int × Int :=
  if okS s = true then (if (l.length : Int) < s then (0, 3) else (val 0 (l.take s.toNat), 0)) else (0, 1)
def sum (z : List Int) : Int := z.foldl (· + ·) 0
def splitGo : List Int → List Int → List Int
  | b, s :: ss => val 0 (b.take s.toNat) :: splitGo (b.drop s.toNat) ss
  | _, [] => []
def splitS (b z : List Int) : List Int × Int :=
  if (z.length : Int) > 4096 then ([], 1) else if z.all okS = true then (if (b.length : Int) < sum z then ([], 3) else if (b.length : Int) > sum z then ([], 2) else (splitGo b z, 0)) else ([], 1)
def Nums (l : List Int) : Prop := ∀ x ∈ l, 0 ≤ x ∧ x < 18446744073709551616

theorem nums_of_wf {l : List Int} (h : ∀ x ∈ l, (Lit.int .u64 x).wf = true) : Nums l := by
  intro x hx
  have := h x hx
  simp [Lit.wf, IntKind.min, IntKind.max, IntKind.signed, IntKind.bits] at this
  omega
theorem bytes_of_wf {l : List Int} (h : ∀ x ∈ l, (Lit.int .u8 x).wf = true) : Bytes l := by
  intro x hx
  have := h x hx
  simp [Lit.wf, IntKind.min, IntKind.max, IntKind.signed, IntKind.bits] at this
  omega
theorem u64_of_wf {x : Int} (h : (Lit.int .u64 x).wf = true) : 0 ≤ x ∧ x < 18446744073709551616 := by
  simp [Lit.wf, IntKind.min, IntKind.max, IntKind.signed, IntKind.bits] at h
  omega
theorem i64_of_wf {x : Int} (h : (Lit.int .i64 x).wf = true) : -9223372036854775808 ≤ x ∧ x ≤ 9223372036854775807 := by
  simp [Lit.wf, IntKind.min, IntKind.max, IntKind.signed, IntKind.bits] at h
  omega
theorem fitS8 (n : Int) (h : n < 18446744073709551616) : fitS n 8 = true := by
  have e : fitS n 8 = decide (n < 18446744073709551616) := rfl
  rw [e]
  exact decide_eq_true h

/-! ### strings of bytes -/
theorem toList_eq (s : ByteArray) : s.toList = s.data.toList := by
  have key : ∀ (d i : Nat) (r : List UInt8), i + d = s.size → ByteArray.toList.loop s i r = r.reverse ++ s.data.toList.drop i := by
    intro d
    induction d with
    | zero =>
      intro i r h
      unfold ByteArray.toList.loop
      rw [if_neg (by omega), List.drop_eq_nil_of_le (by have : s.data.toList.length = s.size := Array.length_toList
                                                        omega)]
      simp
    | succ d ih =>
      intro i r h
      have hlen : s.data.toList.length = s.size := Array.length_toList
      unfold ByteArray.toList.loop
      rw [if_pos (by omega), ih (i + 1) _ (by omega), List.drop_eq_getElem_cons (show i < s.data.toList.length by omega)]
      have : s.get! i = s.data.toList[i]'(by omega) := by
        have hi : i < s.data.size := by have : s.data.size = s.size := rfl; omega
        cases s with | mk d => simp [ByteArray.get!, getElem!_pos d i hi]
      simp [this]
  have := key s.size 0 [] (by omega)
  simpa [ByteArray.toList] using this
theorem str_list (l : List Int) : (strOfNums l).toList = l.map fun n => UInt8.ofNat n.toNat := by rw [toList_eq]; simp [strOfNums]
theorem str_size (l : List Int) : (strOfNums l).size = l.length := by simp [strOfNums, ByteArray.size]
theorem str_append (l m : List Int) : strOfNums l ++ strOfNums m = strOfNums (l ++ m) := by
  apply ByteArray.ext
  simp [strOfNums]
theorem byte_inj {x y : Int} (hx : 0 ≤ x ∧ x < 256) (hy : 0 ≤ y ∧ y < 256) (h : UInt8.ofNat x.toNat = UInt8.ofNat y.toNat) : x = y := by
  have := congrArg UInt8.toNat h
  simp at this
  omega
theorem byte_lt {x y : Int} (hx : 0 ≤ x ∧ x < 256) (hy : 0 ≤ y ∧ y < 256) : decide (UInt8.ofNat x.toNat < UInt8.ofNat y.toNat) = decide (x < y) := by
  have e : (UInt8.ofNat x.toNat < UInt8.ofNat y.toNat) ↔ x < y := by
    rw [UInt8.lt_iff_toNat_lt]
    simp
    omega
  simp [e]
theorem str_inj {l m : List Int} (hl : Bytes l) (hm : Bytes m) (h : (strOfNums l).toList = (strOfNums m).toList) : l = m := by
  rw [str_list, str_list] at h
  induction l generalizing m with
  | nil => cases m with
    | nil => rfl
    | cons y m => simp at h
  | cons x l ih => cases m with
    | nil => simp at h
    | cons y m =>
      simp only [List.map_cons, List.cons.injEq] at h
      rw [byte_inj (hl x List.mem_cons_self) (hm y List.mem_cons_self) h.1, ih (fun z hz => hl z (List.mem_cons_of_mem _ hz)) (fun z hz => hm z (List.mem_cons_of_mem _ hz)) h.2]
theorem less_be (a b : Int) : ∀ s, Op.bytesLess (strOfNums (be a s)).toList (strOfNums (be b s)).toList = decide (a % 256 ^ s < b % 256 ^ s)
  | 0 => by simp [str_list, be, Op.bytesLess]
  | s + 1 => by
    have ih := less_be a b s
    simp only [str_list] at ih ⊢
    simp only [be, List.map_cons, Op.bytesLess]
    rw [ih, Int.pow_succ, mod_split a _ (pow_pos s), mod_split b _ (pow_pos s)]
    have ha1 := Int.emod_nonneg a (Int.ne_of_gt (pow_pos s))
    have ha2 := Int.emod_lt_of_pos a (pow_pos s)
    have hb1 := Int.emod_nonneg b (Int.ne_of_gt (pow_pos s))
    have hb2 := Int.emod_lt_of_pos b (pow_pos s)
    have hx : 0 ≤ a / 256 ^ s % 256 ∧ a / 256 ^ s % 256 < 256 := by omega
    have hy : 0 ≤ b / 256 ^ s % 256 ∧ b / 256 ^ s % 256 < 256 := by omega
    rw [byte_lt hx hy]
    generalize a / 256 ^ s % 256 = x at *
    generalize b / 256 ^ s % 256 = y at *
    generalize a % 256 ^ s = u at *
    generalize b % 256 ^ s = v at *
    have hp := pow_pos s
    generalize (256 : Int) ^ s = p at *
    rcases Int.lt_trichotomy x y with h | h | h
    · have : (x + 1) * p ≤ y * p := Int.mul_le_mul_of_nonneg_right (by omega) (Int.le_of_lt hp)
      rw [Int.add_mul] at this
      have e : x * p + u < y * p + v := by omega
      simp [h, e]
    · subst h
      simp
    · have : (y + 1) * p ≤ x * p := Int.mul_le_mul_of_nonneg_right (by omega) (Int.le_of_lt hp)
      rw [Int.add_mul] at this
      have e : ¬ x * p + u < y * p + v := by omega
      have h' : ¬ x < y := by omega
      have ne : UInt8.ofNat x.toNat ≠ UInt8.ofNat y.toNat := fun e => by
        have := byte_inj hx hy e
        omega
      simp [h', e, ne]
end Go.Proofs.Ytjfdjbmahahllaa.PackPlain
