/- CrcFinds: a text of which one burst of up to 32 bits was turned has another sum. No condition. -/
import Derived.Test.YtcjnbcfhbiijbaaQCrcFindsx1
import Derived.Test.YtcjnbcfhbiijbaaCrcPlain
namespace Go.Proofs.Ytcjnbcfhbiijbaa.Pure
open Go.RowKit Go.Proofs.Ytcjnbcfhbiijbaa.QCrcFinds Go.Proofs.YtcjnbcfhbiijbaaW.PrintWords Go.Proofs.YtcjnbcfhbiijbaaW.PrintLast Go.Proofs.Ytcjnbcfhbiijbaa.CrcPlain

/-! ### the functions come to the plain ones -/
theorem and_one (r : Nat) (h : r < 4294967296) : Go.bits .and .u32 (r : Int) 1 = ((r % 2 : Nat) : Int) := by
  have := u32_and_nat r 1 h (by decide)
  rw [nat_mask1] at this
  exact this
theorem xor_nat (a b : Nat) (ha : a < 4294967296) (hb : b < 4294967296) : Go.bits .xor .u32 (a : Int) (b : Int) = ((a ^^^ b : Nat) : Int) := u32_xor_nat a b ha hb
theorem stepI_nat (r : Nat) (h : r < 4294967296) : stepI (r : Int) = ((st r : Nat) : Int) := by
  unfold stepI st
  rw [and_one r h, show (r : Int) / 2 = ((r / 2 : Nat) : Int) by omega]
  by_cases hr : r % 2 = 1
  · rw [if_pos (by omega), if_pos hr]
    exact xor_nat (r / 2) poly (by omega) (by decide)
  · rw [if_neg (by omega), if_neg hr]
theorem iterI_nat (r : Nat) (h : r < 4294967296) : ∀ n, iterI n (r : Int) = ((sts n r : Nat) : Int)
  | 0 => rfl
  | n + 1 => by simp only [iterI, sts]; rw [iterI_nat r h n, stepI_nat _ (sts_lt h n)]
theorem tabT_nat (j : Nat) (h : j < 4294967296) : tabT j = ((sts 8 j : Nat) : Int) := iterI_nat j h 8
theorem moreStep_nat (r b : Nat) (hr : r < 4294967296) (hb : b < 256) : moreStep (r : Int) (b : Int) = ((addB r b : Nat) : Int) := by
  unfold moreStep
  rw [show (r : Int) % 256 = ((r % 256 : Nat) : Int) by omega, u8_xor_nat (r % 256) b (by omega) hb, Int.toNat_natCast]
  have hx : r % 256 ^^^ b < 256 := Nat.xor_lt_two_pow (n := 8) (by omega) hb
  rw [tabT_nat _ (by omega), show (r : Int) / 256 = ((r / 256 : Nat) : Int) by omega, xor_nat _ _ (by omega) (sts_lt (by omega) 8), addB_table r b hb]
def Bytes (l : List Int) : Prop := ∀ x ∈ l, 0 ≤ x ∧ x < 256
def nl (l : List Int) : List Nat := l.map Int.toNat
theorem nl_lt {l : List Int} (h : Bytes l) : ∀ b ∈ nl l, b < 256 := by
  intro b hb
  obtain ⟨x, hx, rfl⟩ := List.mem_map.1 hb
  have := h x hx
  omega
theorem fold_nat : ∀ (l : List Int) (r : Nat), r < 4294967296 → Bytes l → l.foldl moreStep (r : Int) = ((reg r (nl l) : Nat) : Int)
  | [], _, _, _ => rfl
  | x :: l, r, hr, hl => by
    have hx := hl x List.mem_cons_self
    have e : x = ((x.toNat : Nat) : Int) := by omega
    have hb : x.toNat < 256 := by omega
    have ih := fold_nat l (addB r x.toNat) (addB_lt hr hb) (fun y hy => hl y (List.mem_cons_of_mem _ hy))
    rw [List.foldl_cons]
    conv => lhs; rw [e, moreStep_nat r x.toNat hr hb]
    exact ih
theorem max_u32 : IntKind.u32.max = ((ones : Nat) : Int) := rfl
theorem not_nat (x : Nat) (h : x < 4294967296) : Go.bits .xor .u32 IntKind.u32.max (x : Int) = ((not_ x : Nat) : Int) := by
  rw [max_u32]
  exact xor_nat ones x (by decide) h
theorem more_eq (s : Nat) (l : List Int) (hs : s < 4294967296) (hl : Bytes l) : crc_More.f (s : Int) l = some ((more s (nl l) : Nat) : Int) := by
  unfold crc_More.f
  rw [not_nat s hs, fold_nat l _ (not_lt hs) hl, not_nat _ (reg_lt _ _ (not_lt hs) (nl_lt hl))]
  rfl
theorem more_lt {s : Nat} {l : List Int} (hs : s < 4294967296) (hl : Bytes l) : more s (nl l) < 4294967296 := not_lt (reg_lt _ _ (not_lt hs) (nl_lt hl))
theorem sum_eq (l : List Int) (hl : Bytes l) : crc_Sum.f l = some ((more 0 (nl l) : Nat) : Int) := by
  unfold crc_Sum.f
  have := more_eq 0 l (by decide) hl
  rw [show ((0 : Nat) : Int) = 0 from rfl] at this
  rw [this]
  rfl
theorem awake_eq : stowagelaw02_awake.f = some true := by
  unfold stowagelaw02_awake.f
  rw [sum_eq nine (by intro x hx; simp [nine] at hx; omega), sum_eq [] (by intro x hx; cases hx)]
  have e : more 0 (nl nine) = 3421780262 := by decide +kernel
  have e0 : more 0 (nl []) = 0 := by decide +kernel
  rw [e, e0]
  rfl
theorem bytes_of_wf {l : List Int} (h : ∀ x ∈ l, (Lit.int .u8 x).wf = true) : Bytes l := by
  intro x hx
  have := h x hx
  simp [Lit.wf, IntKind.min, IntKind.max, IntKind.signed, IntKind.bits] at this
  omega
theorem u32_of_wf {x : Int} (h : (Lit.int .u32 x).wf = true) : ∃ n : Nat, x = (n : Int) ∧ n < 4294967296 := by
  simp [Lit.wf, IntKind.min, IntKind.max, IntKind.signed, IntKind.bits] at h
  exact ⟨x.toNat, by omega, by omega⟩
theorem i64_of_wf {x : Int} (h : (Lit.int .i64 x).wf = true) : -9223372036854775808 ≤ x ∧ x ≤ 9223372036854775807 := by
  simp [Lit.wf, IntKind.min, IntKind.max, IntKind.signed, IntKind.bits] at h
  omega
theorem wrap64_id (x : Int) (h0 : -9223372036854775808 ≤ x) (h1 : x ≤ 9223372036854775807) : wrap64 x = x := by unfold wrap64; omega
theorem wrap64_succ (i : Nat) (h : i < 9223372036854775807) : wrap64 ((i : Int) + 1) = ((i + 1 : Nat) : Int) := by rw [wrap64_id _ (by omega) (by omega)]; omega
theorem rd_nat (l : List Int) (i : Nat) (h : i < l.length) : rd l (i : Int) = l[i] := by
  simp [rd, List.getD_eq_getElem?_getD, List.getElem?_eq_getElem h]
theorem rd_mem (l : List Int) (i : Nat) (h : i < l.length) : rd l (i : Int) ∈ l := by rw [rd_nat l i h]; exact List.getElem_mem h
theorem drop_rd (l : List Int) (i : Nat) (h : i < l.length) : l.drop i = rd l (i : Int) :: l.drop (i + 1) := by
  rw [rd_nat l i h]; exact List.drop_eq_getElem_cons h

/-! ### the law -/
theorem nl_append (l m : List Int) : nl (l ++ m) = nl l ++ nl m := by simp [nl]
theorem addB_two (x y a b : Nat) : addB (x ^^^ y) (a ^^^ b) = addB x a ^^^ addB y b := by
  unfold addB
  rw [xor4, sts_xor]
theorem finds (p q : List Nat) (b0 b1 b2 b3 t : Nat) (ht : t < 4294967296) (h0 : t ≠ 0) :
    more 0 (p ++ (b0 ^^^ t % 256) :: (b1 ^^^ t / 256 % 256) :: (b2 ^^^ t / 65536 % 256) :: (b3 ^^^ t / 16777216 % 256) :: q) ≠ more 0 (p ++ b0 :: b1 :: b2 :: b3 :: q) := by
  intro h
  unfold more at h
  have h1 := congrArg not_ h
  rw [not_not, not_not] at h1
  rw [show ∀ (a b c d : Nat), p ++ a :: b :: c :: d :: q = (p ++ [a, b, c, d]) ++ q from fun a b c d => by simp] at h1
  rw [show p ++ b0 :: b1 :: b2 :: b3 :: q = (p ++ [b0, b1, b2, b3]) ++ q by simp, reg_append, reg_append, reg_append, reg_append] at h1
  generalize reg (not_ 0) p = R at h1
  have e : reg R [b0 ^^^ t % 256, b1 ^^^ t / 256 % 256, b2 ^^^ t / 65536 % 256, b3 ^^^ t / 16777216 % 256] = sts 32 t ^^^ reg R [b0, b1, b2, b3] := by
    rw [← burst t ht]
    conv => lhs; rw [← Nat.xor_zero R]
    show addB (addB (addB (addB (R ^^^ 0) _) _) _) _ = addB (addB (addB (addB 0 _) _) _) _ ^^^ addB (addB (addB (addB R _) _) _) _
    rw [addB_two, addB_two, addB_two, addB_two, Nat.xor_comm]
  rw [e, reg_xor] at h1
  have h2 := congrArg (fun z => z ^^^ reg (reg R [b0, b1, b2, b3]) q) h1
  simp only [Nat.xor_assoc, Nat.xor_self, Nat.xor_zero] at h2
  exact h0 (sts_kernel ht 32 (sts_kernel (sts_lt ht 32) _ h2))
theorem set_here (p r : List Int) (b v : Int) (i : Int) (hi : i = (p.length : Int)) : (p ++ b :: r).set i.toNat v = p ++ v :: r := by
  subst hi
  rw [Int.toNat_natCast, List.set_append_right _ _ (by omega), Nat.sub_self, List.set_cons_zero]
theorem rd_here (p r : List Int) (b : Int) (i : Int) (hi : i = (p.length : Int)) : rd (p ++ b :: r) i = b := by
  subst hi
  rw [rd_nat _ _ (by simp)]
  simp
theorem u8_nat (a : Int) (b : Nat) (ha : 0 ≤ a ∧ a < 256) (hb : b < 256) : Go.bits .xor .u8 a (b : Int) = ((a.toNat ^^^ b : Nat) : Int) ∧ a.toNat ^^^ b < 256 := by
  obtain ⟨x, rfl⟩ := Int.eq_ofNat_of_zero_le ha.1
  rw [Int.toNat_natCast]
  exact ⟨u8_xor_nat x b (by omega) hb, Nat.xor_lt_two_pow (n := 8) (by omega) hb⟩
theorem shr_k (t : Nat) (k : Nat) (hk : k ≤ 3) : shr .u32 (t : Int) (wrap64 (8 * (k : Int))) = ((t / 256 ^ k : Nat) : Int) := by
  rw [wrap64_id _ (by omega) (by omega)]
  unfold shr
  have e : (8 * (k : Int)).toNat = 8 * k := by omega
  rw [e, show min (8 * k) IntKind.u32.bits = 8 * k from Nat.min_eq_left (by show 8 * k ≤ 32; omega), show (2 : Int) ^ (8 * k) = ((256 ^ k : Nat) : Int) by
    rw [Int.natCast_pow, Int.pow_mul]; rfl]
  rfl
/-- One byte turned. -/
theorem cf_step (l p r : List Int) (b : Int) (t i k : Nat) (hb : 0 ≤ b ∧ b < 256) (hk : k ≤ 3) (hp : p.length = i + k) (hi : i < 9223372036854775000) {R : Bool}
    (h : Ev (fun n => stowagelaw02_CrcFinds.l0 n l (t : Int) (i : Int) (p ++ ((b.toNat ^^^ t / 256 ^ k % 256 : Nat) : Int) :: r) ((k + 1 : Nat) : Int)) R) :
    Ev (fun n => stowagelaw02_CrcFinds.l0 n l (t : Int) (i : Int) (p ++ b :: r) (k : Int)) R := by
  refine Ev.step (f := fun n => stowagelaw02_CrcFinds.l0 n l (t : Int) (i : Int) (p ++ ((b.toNat ^^^ t / 256 ^ k % 256 : Nat) : Int) :: r) ((k + 1 : Nat) : Int)) (fun n => ?_) h
  have e1 : wrap64 ((i : Int) + (k : Int)) = (p.length : Int) := by rw [wrap64_id _ (by omega) (by omega)]; omega
  simp only [stowagelaw02_CrcFinds.l0]
  rw [e1, if_pos (by omega), if_pos (by omega), if_pos (by simp; omega), if_pos (by rw [wrap64_id _ (by omega) (by omega)]; omega), rd_here p r b _ rfl, shr_k t k hk, show ((t / 256 ^ k : Nat) : Int) % 256 = ((t / 256 ^ k % 256 : Nat) : Int) by omega, (u8_nat b _ hb (Nat.mod_lt _ (by decide))).1, set_here p r b _ _ rfl, wrap64_succ k (by omega)]
theorem cf_all (l p q : List Int) (b0 b1 b2 b3 : Int) (t : Nat) (ht : t < 4294967296) (h0 : t ≠ 0) (hl : l = p ++ b0 :: b1 :: b2 :: b3 :: q) (hb : Bytes l) (hp : p.length < 9223372036854775000) :
    Ev (fun n => stowagelaw02_CrcFinds.l0 n l (t : Int) (p.length : Int) (p ++ b0 :: b1 :: b2 :: b3 :: q) ((0 : Nat) : Int)) true := by
  have m0 : 0 ≤ b0 ∧ b0 < 256 := hb b0 (by simp [hl])
  have m1 : 0 ≤ b1 ∧ b1 < 256 := hb b1 (by simp [hl])
  have m2 : 0 ≤ b2 ∧ b2 < 256 := hb b2 (by simp [hl])
  have m3 : 0 ≤ b3 ∧ b3 < 256 := hb b3 (by simp [hl])
  have mp : Bytes p := fun x hx => hb x (by simp [hl, hx])
  have mq : Bytes q := fun x hx => hb x (by simp [hl, hx])
  refine cf_step l p _ b0 t p.length 0 m0 (by omega) (by omega) hp ?_
  have s1 : ∀ (c : Int) r, p ++ c :: r = (p ++ [c]) ++ r := fun c r => by simp
  rw [s1]
  refine cf_step l (p ++ [_]) _ b1 t p.length 1 m1 (by omega) (by simp) hp ?_
  have s2 : ∀ (c d : Int) r, (p ++ [c]) ++ d :: r = (p ++ [c, d]) ++ r := fun c d r => by simp
  rw [s2]
  refine cf_step l (p ++ [_, _]) _ b2 t p.length 2 m2 (by omega) (by simp) hp ?_
  have s3 : ∀ (c d e : Int) r, (p ++ [c, d]) ++ e :: r = (p ++ [c, d, e]) ++ r := fun c d e r => by simp
  rw [s3]
  refine cf_step l (p ++ [_, _, _]) _ b3 t p.length 3 m3 (by omega) (by simp) hp ?_
  have hx : ∀ (b : Int) (k : Nat), 0 ≤ b ∧ b < 256 → 0 ≤ ((b.toNat ^^^ t / 256 ^ k % 256 : Nat) : Int) ∧ ((b.toNat ^^^ t / 256 ^ k % 256 : Nat) : Int) < 256 := fun b k h => by
    have := (u8_nat b (t / 256 ^ k % 256) h (Nat.mod_lt _ (by decide))).2
    omega
  have hC : Bytes (p ++ [((b0.toNat ^^^ t / 256 ^ 0 % 256 : Nat) : Int), ((b1.toNat ^^^ t / 256 ^ 1 % 256 : Nat) : Int), ((b2.toNat ^^^ t / 256 ^ 2 % 256 : Nat) : Int)] ++ ((b3.toNat ^^^ t / 256 ^ 3 % 256 : Nat) : Int) :: q) := by
    intro x hx'
    simp only [List.append_assoc, List.mem_append, List.mem_cons, List.cons_append, List.nil_append] at hx'
    rcases hx' with h | rfl | rfl | rfl | rfl | h
    · exact mp x h
    · exact hx b0 0 m0
    · exact hx b1 1 m1
    · exact hx b2 2 m2
    · exact hx b3 3 m3
    · exact mq x h
  refine Ev.step (f := fun _ => some true) (fun n => ?_) (Ev.now true)
  simp only [stowagelaw02_CrcFinds.l0]
  rw [if_neg (by omega), awake_eq, Option.bind_some, if_pos rfl, sum_eq _ hC, Option.bind_some, sum_eq _ hb, Option.bind_some]
  have hne := finds (nl p) (nl q) b0.toNat b1.toNat b2.toNat b3.toNat t ht h0
  have e1 : nl (p ++ [((b0.toNat ^^^ t / 256 ^ 0 % 256 : Nat) : Int), ((b1.toNat ^^^ t / 256 ^ 1 % 256 : Nat) : Int), ((b2.toNat ^^^ t / 256 ^ 2 % 256 : Nat) : Int)] ++ ((b3.toNat ^^^ t / 256 ^ 3 % 256 : Nat) : Int) :: q) = nl p ++ (b0.toNat ^^^ t % 256) :: (b1.toNat ^^^ t / 256 % 256) :: (b2.toNat ^^^ t / 65536 % 256) :: (b3.toNat ^^^ t / 16777216 % 256) :: nl q := by
    simp [nl]
  have e2 : nl l = nl p ++ b0.toNat :: b1.toNat :: b2.toNat :: b3.toNat :: nl q := by rw [hl]; simp [nl]
  rw [e1, e2]
  congr 1
  rw [bne_iff_ne]
  intro h
  exact hne (by omega)
theorem split4 (l : List Int) (i : Nat) (h : i + 4 ≤ l.length) : ∃ p b0 b1 b2 b3 q, l = p ++ b0 :: b1 :: b2 :: b3 :: q ∧ p.length = i := by
  refine ⟨l.take i, rd l (i : Int), rd l ((i + 1 : Nat) : Int), rd l ((i + 2 : Nat) : Int), rd l ((i + 3 : Nat) : Int), l.drop (i + 4), ?_, by simp; omega⟩
  conv => lhs; rw [← List.take_append_drop i l]
  rw [drop_rd l i (by omega), drop_rd l (i + 1) (by omega), drop_rd l (i + 2) (by omega), drop_rd l (i + 3) (by omega)]
theorem CrcFinds : stowagelaw02_CrcFinds.Pure := by
  intro l a t _ hll hlw haw htw
  have hb := bytes_of_wf hlw
  obtain ⟨t, rfl, ht⟩ := u32_of_wf htw
  have ha : 0 ≤ a ∧ a ≤ 65535 := by
    simp [Lit.wf, IntKind.min, IntKind.max, IntKind.signed, IntKind.bits] at haw
    omega
  obtain ⟨a, rfl⟩ := Int.eq_ofNat_of_zero_le ha.1
  have hT : Ev (fun k => stowagelaw02_CrcFinds.j0 k l (a : Int) (t : Int) true) true := Ev.step (f := fun _ => some true) (fun k => by
    simp only [stowagelaw02_CrcFinds.j0]
    rw [if_pos trivial, awake_eq]
    rfl) (Ev.now true)
  apply Ev.rounds
  unfold stowagelaw02_CrcFinds.f
  by_cases h4 : (l.length : Int) < 4
  · simp only [h4, if_true]
    exact hT
  · simp only [h4, if_false]
    by_cases h0 : t = 0
    · subst h0
      exact hT
    · have e0 : ((t : Int) == 0) = false := by simp; omega
      rw [e0]
      have em : Int.tmod (wrap64 (a : Int)) (wrap64 ((l.length : Int) - 3)) = ((a % (l.length - 3) : Nat) : Int) := by
        rw [wrap64_id _ (by omega) (by omega), wrap64_id _ (by omega) (by omega), Int.tmod_eq_emod_of_nonneg (by omega), show (l.length : Int) - 3 = ((l.length - 3 : Nat) : Int) by omega]
        rfl
      have hm : a % (l.length - 3) < l.length - 3 := Nat.mod_lt _ (by omega)
      obtain ⟨p, b0, b1, b2, b3, q, hl, hp⟩ := split4 l (a % (l.length - 3)) (by omega)
      have h := cf_all l p q b0 b1 b2 b3 t ht h0 hl hb (by omega)
      rw [← hl, hp] at h
      refine Ev.step (f := fun k => stowagelaw02_CrcFinds.l0 k l (t : Int) ((a % (l.length - 3) : Nat) : Int) l ((0 : Nat) : Int)) (fun k => ?_) h
      simp only [stowagelaw02_CrcFinds.j0]
      rw [if_neg (by decide), if_neg (by rw [wrap64_id _ (by omega) (by omega)]; omega), Option.bind_some, if_pos (by simp; omega), em, List.nil_append]
      rfl

end Go.Proofs.Ytcjnbcfhbiijbaa.Pure
