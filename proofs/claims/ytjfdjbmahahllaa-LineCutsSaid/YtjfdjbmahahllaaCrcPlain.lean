/- Plain facts on CRC-32: a register that is shifted bit by bit is linear; tables, matrices and runs of bytes 0 come to the same. No Go in it. -/
import Derived.Test.YtjfdjbmahahllaaWMore
import Derived.Laws.BitsAllLaws
namespace Go.Proofs.Ytjfdjbmahahllaa.CrcPlain
open Go.RowKit Go.Proofs.YtjfdjbmahahllaaW.PrintWords

def poly : Nat := 3988292384
def ones : Nat := 4294967295
def st (r : Nat) : Nat := if r % 2 = 1 then r / 2 ^^^ poly else r / 2
def sts : Nat → Nat → Nat
  | 0, r => r
  | n + 1, r => st (sts n r)
theorem xor_lt {x y : Nat} (hx : x < 4294967296) (hy : y < 4294967296) : x ^^^ y < 4294967296 := Nat.xor_lt_two_pow (n := 32) hx hy
theorem st_lt {r : Nat} (h : r < 4294967296) : st r < 4294967296 := by
  unfold st
  split
  · exact xor_lt (by omega) (by decide)
  · omega
theorem sts_lt {r : Nat} (h : r < 4294967296) : ∀ n, sts n r < 4294967296
  | 0 => h
  | n + 1 => st_lt (sts_lt h n)
theorem st_zero : st 0 = 0 := rfl
theorem half_xor (x y : Nat) : (x ^^^ y) / 2 = x / 2 ^^^ y / 2 := Nat.xor_div_two
theorem odd_xor (x y : Nat) : (x ^^^ y) % 2 = 1 ↔ ¬ (x % 2 = 1 ↔ y % 2 = 1) := Nat.xor_mod_two_eq_one
theorem xor4 (a b c d : Nat) : (a ^^^ b) ^^^ (c ^^^ d) = (a ^^^ c) ^^^ (b ^^^ d) := by
  rw [Nat.xor_assoc, Nat.xor_assoc, ← Nat.xor_assoc b c d, Nat.xor_comm b c, Nat.xor_assoc c b d]
theorem st_xor (x y : Nat) : st (x ^^^ y) = st x ^^^ st y := by
  unfold st
  rw [half_xor]
  by_cases hx : x % 2 = 1 <;> by_cases hy : y % 2 = 1
  · rw [if_neg (fun h => (odd_xor x y).1 h ⟨fun _ => hy, fun _ => hx⟩), if_pos hx, if_pos hy, xor4, Nat.xor_self, Nat.xor_zero]
  · rw [if_pos ((odd_xor x y).2 fun h => hy (h.1 hx)), if_pos hx, if_neg hy, Nat.xor_assoc, Nat.xor_comm (y / 2), ← Nat.xor_assoc]
  · rw [if_pos ((odd_xor x y).2 fun h => hx (h.2 hy)), if_neg hx, if_pos hy, Nat.xor_assoc]
  · rw [if_neg (fun h => (odd_xor x y).1 h ⟨fun h' => absurd h' hx, fun h' => absurd h' hy⟩), if_neg hx, if_neg hy]
theorem sts_xor (x y : Nat) : ∀ n, sts n (x ^^^ y) = sts n x ^^^ sts n y
  | 0 => rfl
  | n + 1 => by simp only [sts]; rw [sts_xor x y n, st_xor]
theorem sts_zero : ∀ n, sts n 0 = 0
  | 0 => rfl
  | n + 1 => by simp only [sts]; rw [sts_zero n]; rfl
theorem sts_add (r m : Nat) : ∀ n, sts (n + m) r = sts n (sts m r)
  | 0 => by simp [sts]
  | n + 1 => by rw [show n + 1 + m = (n + m) + 1 by omega]; simp only [sts]; rw [sts_add r m n]
theorem st_kernel {x : Nat} (h : x < 4294967296) (hz : st x = 0) : x = 0 := by
  unfold st at hz
  by_cases hx : x % 2 = 1
  · rw [if_pos hx] at hz
    have : x / 2 = poly := by
      have h2 := congrArg (fun z => z ^^^ poly) hz
      simpa [Nat.xor_assoc] using h2
    unfold poly at this
    omega
  · rw [if_neg hx] at hz
    omega
theorem sts_kernel {x : Nat} (h : x < 4294967296) : ∀ n, sts n x = 0 → x = 0
  | 0, hz => hz
  | n + 1, hz => sts_kernel h n (st_kernel (sts_lt h n) hz)
theorem sts_shift (y : Nat) : ∀ n, sts n (y * 2 ^ n) = y
  | 0 => by simp [sts]
  | n + 1 => by
    have e : sts (n + 1) (y * 2 ^ (n + 1)) = st (sts n ((y * 2) * 2 ^ n)) := by
      simp only [sts]
      rw [Nat.pow_succ, Nat.mul_comm (2 ^ n) 2, ← Nat.mul_assoc]
    rw [e, sts_shift (y * 2) n]
    unfold st
    rw [if_neg (by omega)]
    omega
theorem split_low (x n : Nat) : x = (x / 2 ^ n * 2 ^ n) ^^^ (x % 2 ^ n) := by
  have h1 : x % 2 ^ n < 2 ^ n := Nat.mod_lt _ (Nat.two_pow_pos n)
  have h2 := Nat.two_pow_add_eq_or_of_lt h1 (x / 2 ^ n)
  have h3 : 2 ^ n * (x / 2 ^ n) + x % 2 ^ n = x := Nat.div_add_mod x (2 ^ n)
  apply Nat.eq_of_testBit_eq
  intro i
  rw [Nat.testBit_xor, Nat.testBit_mul_two_pow, Nat.testBit_div_two_pow, Nat.testBit_mod_two_pow]
  by_cases hi : i < n
  · have : ¬ n ≤ i := by omega
    simp [hi, this]
  · have h' : n ≤ i := by omega
    simp [hi, h', Nat.sub_add_cancel h']
/-- A register, a byte later, by a table of what bytes do. -/
theorem sts8_table (x : Nat) : sts 8 x = x / 256 ^^^ sts 8 (x % 256) := by
  conv => lhs; rw [split_low x 8]
  rw [sts_xor, show (2 : Nat) ^ 8 = 256 from rfl]
  have := sts_shift (x / 256) 8
  rw [show (2 : Nat) ^ 8 = 256 from rfl] at this
  rw [this]
def addB (r b : Nat) : Nat := sts 8 (r ^^^ b)
theorem addB_table (r b : Nat) (hb : b < 256) : addB r b = r / 256 ^^^ sts 8 (r % 256 ^^^ b) := by
  unfold addB
  rw [sts8_table]
  have h1 : (r ^^^ b) % 256 = r % 256 ^^^ b := by
    have := Nat.xor_mod_two_pow (a := r) (b := b) (n := 8)
    rw [show (2 : Nat) ^ 8 = 256 from rfl, Nat.mod_eq_of_lt hb] at this
    exact this
  have h2 : (r ^^^ b) / 256 = r / 256 := by
    have := Nat.xor_div_two_pow (a := r) (b := b) (n := 8)
    rw [show (2 : Nat) ^ 8 = 256 from rfl, Nat.div_eq_of_lt hb, Nat.xor_zero] at this
    exact this
  rw [h1, h2]
def reg (r : Nat) (l : List Nat) : Nat := l.foldl addB r
theorem addB_lt {r b : Nat} (hr : r < 4294967296) (hb : b < 256) : addB r b < 4294967296 := sts_lt (xor_lt hr (by omega)) 8
theorem reg_lt : ∀ (l : List Nat) (r : Nat), r < 4294967296 → (∀ b ∈ l, b < 256) → reg r l < 4294967296
  | [], _, h, _ => h
  | b :: l, _, h, hb => reg_lt l _ (addB_lt h (hb b List.mem_cons_self)) (fun c hc => hb c (List.mem_cons_of_mem _ hc))
theorem reg_append (r : Nat) (l m : List Nat) : reg r (l ++ m) = reg (reg r l) m := by unfold reg; rw [List.foldl_append]
/-- n bytes 0. -/
def zs (n r : Nat) : Nat := sts (8 * n) r
theorem zs_add (n m r : Nat) : zs (n + m) r = zs n (zs m r) := by unfold zs; rw [Nat.mul_add, sts_add]
theorem zs_xor (n x y : Nat) : zs n (x ^^^ y) = zs n x ^^^ zs n y := sts_xor x y _
theorem zs_lt {r : Nat} (n : Nat) (h : r < 4294967296) : zs n r < 4294967296 := sts_lt h _
theorem zs_one (r : Nat) : zs 1 r = addB r 0 := by unfold zs addB; rw [Nat.xor_zero]
theorem addB_xor (x y b : Nat) : addB (x ^^^ y) b = sts 8 x ^^^ addB y b := by
  unfold addB
  rw [Nat.xor_assoc, sts_xor]
theorem reg_xor : ∀ (l : List Nat) (x y : Nat), reg (x ^^^ y) l = zs l.length x ^^^ reg y l
  | [], x, y => by simp [reg, zs, sts]
  | b :: l, x, y => by
    have e : ∀ r, reg r (b :: l) = reg (addB r b) l := fun _ => rfl
    rw [e, e, addB_xor, reg_xor l, List.length_cons, zs_add, ← zs_one' x]
where zs_one' (x : Nat) : zs 1 x = sts 8 x := rfl
/-- Three runs of one length, added bit by bit. -/
theorem reg_three : ∀ (a b c d : List Nat) (x y z : Nat), a.length = d.length → b.length = d.length → c.length = d.length → (∀ i, i < d.length → d[i]! = a[i]! ^^^ b[i]! ^^^ c[i]!) →
    reg (x ^^^ y ^^^ z) d = reg x a ^^^ reg y b ^^^ reg z c
  | [], [], [], [], _, _, _, _, _, _, _ => rfl
  | p :: a, q :: b, s :: c, t :: d, x, y, z, h1, h2, h3, h => by
    have e : ∀ r u l, reg r (u :: l) = reg (addB r u) l := fun _ _ _ => rfl
    have h0 : t = p ^^^ q ^^^ s := h 0 (by simp)
    have ht : addB (x ^^^ y ^^^ z) t = addB x p ^^^ addB y q ^^^ addB z s := by
      unfold addB
      rw [h0, xor4 (x ^^^ y) z (p ^^^ q) s, xor4 x y p q, sts_xor, sts_xor]
    rw [e, e, e, e, ht]
    exact reg_three a b c d _ _ _ (by simpa using h1) (by simpa using h2) (by simpa using h3) (fun i hi => h (i + 1) (by simpa using hi))
  | [], _, _, _ :: _, _, _, _, h, _, _, _ => by simp at h
  | _ :: _, _, _, [], _, _, _, h, _, _, _ => by simp at h
  | _, [], _, _ :: _, _, _, _, _, h, _, _ => by simp at h
  | _, _ :: _, _, [], _, _, _, _, h, _, _ => by simp at h
  | _, _, [], _ :: _, _, _, _, _, _, h, _ => by simp at h
  | _, _, _ :: _, [], _, _, _, _, _, h, _ => by simp at h
/-! ### sums -/
def not_ (x : Nat) : Nat := ones ^^^ x
theorem xor_back (o x : Nat) : o ^^^ (o ^^^ x) = x := by rw [← Nat.xor_assoc, Nat.xor_self, Nat.zero_xor]
theorem not_eq (x : Nat) : not_ x = ones ^^^ x := rfl
theorem not_not (x : Nat) : not_ (not_ x) = x := by rw [not_eq, not_eq, xor_back]
theorem not_lt {x : Nat} (h : x < 4294967296) : not_ x < 4294967296 := xor_lt (by decide) h
theorem not_xor3 (x y z : Nat) : not_ x ^^^ not_ y ^^^ not_ z = not_ (x ^^^ y ^^^ z) := by
  rw [not_eq, not_eq, not_eq, not_eq, xor4 ones x ones y, Nat.xor_self, Nat.zero_xor, ← Nat.xor_assoc, Nat.xor_comm (x ^^^ y) ones, Nat.xor_assoc]
def more (s : Nat) (l : List Nat) : Nat := not_ (reg (not_ s) l)
def zeros (s n : Nat) : Nat := not_ (zs n (not_ s))
def join (a b n : Nat) : Nat := zs n a ^^^ b
theorem more_append (s : Nat) (l m : List Nat) : more s (l ++ m) = more (more s l) m := by unfold more; rw [reg_append, not_not]
theorem more_nil (s : Nat) : more s [] = s := not_not s
theorem zeros_add (s n m : Nat) : zeros (zeros s n) m = zeros s (n + m) := by unfold zeros; rw [not_not, Nat.add_comm, zs_add]
theorem zeros_zero (s : Nat) : zeros s 0 = s := not_not s
theorem zeros_more (s : Nat) : more s [0] = zeros s 1 := by unfold more zeros; rw [zs_one]; rfl
theorem zeros_join (a b n : Nat) : zeros a n ^^^ zeros 0 n ^^^ b = join a b n := by
  unfold zeros join
  have : not_ (zs n (not_ a)) ^^^ not_ (zs n (not_ 0)) = zs n a := by
    rw [not_eq (zs n (not_ a)), not_eq (zs n (not_ 0)), xor4, Nat.xor_self, Nat.zero_xor, ← zs_xor, not_eq a, not_eq 0, xor4, Nat.xor_self, Nat.zero_xor, Nat.xor_zero]
  rw [this]
theorem join_parts (a b : List Nat) : join (more 0 a) (more 0 b) b.length = more 0 (a ++ b) := by
  unfold join more
  rw [reg_append]
  generalize hA : reg (not_ 0) a = A
  have h1 : reg A b = zs b.length (A ^^^ not_ 0) ^^^ reg (not_ 0) b := by
    rw [← reg_xor, Nat.xor_assoc, Nat.xor_self, Nat.xor_zero]
  have h2 : not_ A = A ^^^ not_ 0 := by rw [not_eq, not_eq, Nat.xor_zero, Nat.xor_comm]
  rw [h1, h2, not_eq (reg (not_ 0) b), not_eq (zs _ _ ^^^ _), ← Nat.xor_assoc, ← Nat.xor_assoc, Nat.xor_comm (zs _ _) ones]
theorem join_join (a b c n m : Nat) : join (join a b n) c m = join a (join b c m) (n + m) := by
  unfold join
  rw [zs_xor, Nat.add_comm n m, zs_add, Nat.xor_assoc]
/-! ### a burst -/
theorem burst (t : Nat) (ht : t < 4294967296) : reg 0 [t % 256, t / 256 % 256, t / 65536 % 256, t / 16777216 % 256] = sts 32 t := by
  have e8 : ∀ x y, sts 8 (x ^^^ y * 256) = sts 8 x ^^^ y := fun x y => by
    have := sts_shift y 8
    rw [show (2 : Nat) ^ 8 = 256 from rfl] at this
    rw [sts_xor, this]
  have hs : ∀ x, x = x % 256 ^^^ x / 256 * 256 := fun x => by
    have := split_low x 8
    rw [show (2 : Nat) ^ 8 = 256 from rfl, Nat.xor_comm] at this
    exact this
  have e1 : t / 65536 = t / 256 / 256 := by omega
  have e2 : t / 16777216 = t / 256 / 256 / 256 := by omega
  have l3 : t / 256 / 256 / 256 % 256 = t / 256 / 256 / 256 := by omega
  have k : ∀ x, sts 8 x = sts 8 (x % 256) ^^^ x / 256 := fun x => by
    conv => lhs; rw [hs x]
    exact e8 _ _
  show addB (addB (addB (addB 0 _) _) _) _ = _
  unfold addB
  rw [Nat.zero_xor, show (32 : Nat) = 8 + (8 + (8 + 8)) from rfl, sts_add, sts_add, sts_add]
  rw [k t, e1, e2]
  generalize sts 8 (t % 256) = A
  -- the next byte comes in
  have s2 : sts 8 (A ^^^ t / 256) = sts 8 (A ^^^ t / 256 % 256) ^^^ t / 256 / 256 := by
    conv => lhs; rw [hs (t / 256), ← Nat.xor_assoc]
    exact e8 _ _
  rw [s2]
  generalize sts 8 (A ^^^ t / 256 % 256) = B
  have s3 : sts 8 (B ^^^ t / 256 / 256) = sts 8 (B ^^^ t / 256 / 256 % 256) ^^^ t / 256 / 256 / 256 := by
    conv => lhs; rw [hs (t / 256 / 256), ← Nat.xor_assoc]
    exact e8 _ _
  rw [s3, l3]
/-! ### matrices -/
theorem bit_split (r : Nat) : r = (r / 2 * 2) ^^^ (r % 2) := by simpa using split_low r 1
/-- What a linear map does to a number, bit by bit. -/
def byBits (M : Nat → Nat) : Nat → Nat → Nat → Nat
  | 0, _, _ => 0
  | d + 1, i, r => (if r % 2 = 1 then M i else 0) ^^^ byBits M d (i + 1) (r / 2)
theorem byBits_lin (L : Nat → Nat) (hL : ∀ x y, L (x ^^^ y) = L x ^^^ L y) (h0 : L 0 = 0) (M : Nat → Nat) (hM : ∀ j, j < 32 → M j = L (2 ^ j)) : ∀ (d i r : Nat), i + d = 32 → r < 2 ^ d → byBits M d i r = L (r * 2 ^ i)
  | 0, i, r, _, hr => by
    have : r = 0 := by simp at hr; exact hr
    subst this
    simp [byBits, h0]
  | d + 1, i, r, hi, hr => by
    have ih := byBits_lin L hL h0 M hM d (i + 1) (r / 2) (by omega) (by rw [Nat.pow_succ] at hr; omega)
    simp only [byBits]
    rw [ih, hM i (by omega)]
    have e : r * 2 ^ i = (r % 2 * 2 ^ i) ^^^ (r / 2 * 2 ^ (i + 1)) := by
      rw [Nat.pow_succ, Nat.mul_comm (2 ^ i) 2, ← Nat.mul_assoc]
      conv => lhs; rw [bit_split r]
      rw [← Nat.shiftLeft_eq, ← Nat.shiftLeft_eq, ← Nat.shiftLeft_eq, Nat.shiftLeft_xor_distrib, Nat.xor_comm]
    rw [e, hL]
    rcases Nat.mod_two_eq_zero_or_one r with h | h
    · rw [h]; simp [h0]
    · rw [h]; simp
/-- So many times, by squares. -/
theorem zs_double (p n r : Nat) : zs (p * n) r = zs (p * (n % 2)) (zs (2 * p * (n / 2)) r) := by
  rw [← zs_add]
  congr 1
  have := Nat.div_add_mod n 2
  conv => lhs; rw [← this]
  rw [Nat.mul_add, Nat.add_comm, Nat.mul_comm p (2 * (n / 2)), Nat.mul_assoc, Nat.mul_comm (n / 2) p, ← Nat.mul_assoc]
theorem zs_comm (a b r : Nat) : zs a (zs b r) = zs b (zs a r) := by rw [← zs_add, ← zs_add, Nat.add_comm]
end Go.Proofs.Ytjfdjbmahahllaa.CrcPlain
