/- For every line that can be written, a burst of up to 32 bits turned in its sector's body leaves no line's sector (P15.1, P2.1). No condition. -/
import Derived.Test.YtjfdjbmahahllaaLinePlain
import Derived.Test.YtjfdjbmahahllaaStLineTurned
namespace Go.Proofs.Ytjfdjbmahahllaa.Pure
open Go.RowKit Go.Proofs.Ytjfdjbmahahllaa.QLine Go.Proofs.YtjfdjbmahahllaaW.PrintWords Go.Proofs.YtjfdjbmahahllaaW.PrintLast Go.Proofs.YtjfdjbmahahllaaW.PrintMore Go.Proofs.Ytjfdjbmahahllaa.PackPlain
theorem decS_cases (b : List Int) : decS b = zero10 ∨ ∃ g s last kd a b1 c d key, decS b = (g, s, last, kd, a, b1, c, d, key, 0) ∧ encS g s last kd a b1 c d key = (b, 0) := by
  unfold decS
  split
  · unfold checkS
    split
    · rename_i h
      exact .inr ⟨_, _, _, _, _, _, _, _, _, rfl, Prod.ext h.2 h.1⟩
    · exact .inl rfl
  · exact .inl rfl
theorem encS_ok {g s : Int} {last : Bool} {kd a b c d : Int} {key : ByteArray} (h : (encS g s last kd a b c d key).2 = 0) :
    okL g s kd a b c d = true ∧ (key.size = 0 ∨ key.size = 16) ∧ encS g s last kd a b c d key = (fullS (bodyS g s last kd a b c d key), 0) := by
  unfold encS at h ⊢
  by_cases h1 : okL g s kd a b c d = true
  · rw [if_pos h1] at h ⊢
    by_cases h2 : key.size = 0 ∨ key.size = 16
    · exact ⟨h1, h2, by rw [if_pos h2]⟩
    · rw [if_neg h2] at h
      exact absurd h (by decide)
  · rw [if_neg h1] at h
    exact absurd h (by decide)
theorem full_length {g s : Int} {last : Bool} {kd a b c d : Int} {key : ByteArray} (hk : key.size = 0 ∨ key.size = 16) : (fullS (bodyS g s last kd a b c d key)).length = 64 := by
  unfold fullS
  rw [List.length_append, bodyS_length _ _ _ _ _ _ _ _ _ (by omega), be_length]
namespace Cr
open Go.Proofs.Ytjfdjbmahahllaa.CrcPlain
theorem addB_two (x y a b : Nat) : addB (x ^^^ y) (a ^^^ b) = addB x a ^^^ addB y b := by
  unfold addB
  rw [xor4, sts_xor]
theorem finds (p q : List Nat) (b0 b1 b2 b3 t : Nat) (ht : t < 4294967296) (h0 : t ≠ 0) :
    more 0 (p ++ (b0 ^^^ t % 256) :: (b1 ^^^ t / 256 % 256) :: (b2 ^^^ t / 65536 % 256) :: (b3 ^^^ t / 16777216 % 256) :: q) ≠ more 0 (p ++ b0 :: b1 :: b2 :: b3 :: q) := by
  intro h
  unfold more at h
  have h1 := congrArg not_ h
  rw [not_not, not_not] at h1
  rw [show ∀ (a b c d : Nat), p ++ a :: b :: c :: d :: q = (p ++ [a, b, c, d]) ++ q from fun a b c d => by simp] at h1
  rw [show p ++ b0 :: b1 :: b2 :: b3 :: q = (p ++ [b0, b1, b2, b3]) ++ q by simp, reg_append, reg_append, reg_append, reg_append] at h1
  generalize reg (not_ 0) p = R at h1
  have e : reg R [b0 ^^^ t % 256, b1 ^^^ t / 256 % 256, b2 ^^^ t / 65536 % 256, b3 ^^^ t / 16777216 % 256] = sts 32 t ^^^ reg R [b0, b1, b2, b3] := by
    rw [← burst t ht]
    conv => lhs; rw [← Nat.xor_zero R]
    show addB (addB (addB (addB (R ^^^ 0) _) _) _) _ = addB (addB (addB (addB 0 _) _) _) _ ^^^ addB (addB (addB (addB R _) _) _) _
    rw [addB_two, addB_two, addB_two, addB_two, Nat.xor_comm]
  rw [e, reg_xor] at h1
  have h2 := congrArg (fun z => z ^^^ reg (reg R [b0, b1, b2, b3]) q) h1
  simp only [Nat.xor_assoc, Nat.xor_self, Nat.xor_zero] at h2
  exact h0 (sts_kernel ht 32 (sts_kernel (sts_lt ht 32) _ h2))
end Cr
theorem set_here (p r : List Int) (b v : Int) (i : Int) (hi : i = (p.length : Int)) : (p ++ b :: r).set i.toNat v = p ++ v :: r := by
  subst hi
  rw [Int.toNat_natCast, List.set_append_right _ _ (by omega), Nat.sub_self, List.set_cons_zero]
theorem rd_here (p r : List Int) (b : Int) (i : Int) (hi : i = (p.length : Int)) : rd (p ++ b :: r) i = b := by
  subst hi
  rw [rd_nat _ _ (by simp)]
  simp
theorem u8_nat (a : Int) (b : Nat) (ha : 0 ≤ a ∧ a < 256) (hb : b < 256) : Go.bits .xor .u8 a (b : Int) = ((a.toNat ^^^ b : Nat) : Int) ∧ a.toNat ^^^ b < 256 := by
  obtain ⟨x, rfl⟩ := Int.eq_ofNat_of_zero_le ha.1
  rw [Int.toNat_natCast]
  exact ⟨u8_xor_nat x b (by omega) hb, Nat.xor_lt_two_pow (n := 8) (by omega) hb⟩
theorem shr_k (t : Nat) (k : Nat) (hk : k ≤ 3) : shr .u32 (t : Int) (wrap64 (8 * (k : Int))) = ((t / 256 ^ k : Nat) : Int) := by
  rw [wrap64_id _ (by omega) (by omega)]
  unfold shr
  have e : (8 * (k : Int)).toNat = 8 * k := by omega
  rw [e, show min (8 * k) IntKind.u32.bits = 8 * k from Nat.min_eq_left (by show 8 * k ≤ 32; omega), show (2 : Int) ^ (8 * k) = ((256 ^ k : Nat) : Int) by
    rw [Int.natCast_pow, Int.pow_mul]; rfl]
  rfl
theorem split4 (l : List Int) (i : Nat) (h : i + 4 ≤ l.length) : ∃ p b0 b1 b2 b3 q, l = p ++ b0 :: b1 :: b2 :: b3 :: q ∧ p.length = i := by
  refine ⟨l.take i, rd l (i : Int), rd l ((i + 1 : Nat) : Int), rd l ((i + 2 : Nat) : Int), rd l ((i + 3 : Nat) : Int), l.drop (i + 4), ?_, by simp; omega⟩
  conv => lhs; rw [← List.take_append_drop i l]
  rw [drop_rd l i (by omega), drop_rd l (i + 1) (by omega), drop_rd l (i + 2) (by omega), drop_rd l (i + 3) (by omega)]
/-- One byte turned. -/
theorem lt_step (p r : List Int) (b : Int) (t i k : Nat) (hb : 0 ≤ b ∧ b < 256) (hk : k ≤ 3) (hp : p.length = i + k) (hi : i < 9223372036854775000) {R : Bool}
    (h : Ev (fun n => stowagelaw15_LineTurned.l0 n (t : Int) (p ++ ((b.toNat ^^^ t / 256 ^ k % 256 : Nat) : Int) :: r) (i : Int) ((k + 1 : Nat) : Int)) R) :
    Ev (fun n => stowagelaw15_LineTurned.l0 n (t : Int) (p ++ b :: r) (i : Int) (k : Int)) R := by
  refine Ev.step (f := fun n => stowagelaw15_LineTurned.l0 n (t : Int) (p ++ ((b.toNat ^^^ t / 256 ^ k % 256 : Nat) : Int) :: r) (i : Int) ((k + 1 : Nat) : Int)) (fun n => ?_) h
  have e1 : wrap64 ((i : Int) + (k : Int)) = (p.length : Int) := by rw [wrap64_id _ (by omega) (by omega)]; omega
  simp only [stowagelaw15_LineTurned.l0]
  rw [e1, if_pos (by omega), if_pos (by omega), if_pos (by simp; omega), if_pos (by rw [wrap64_id _ (by omega) (by omega)]; omega), rd_here p r b _ rfl, shr_k t k hk, show ((t / 256 ^ k : Nat) : Int) % 256 = ((t / 256 ^ k % 256 : Nat) : Int) by omega, (u8_nat b _ hb (Nat.mod_lt _ (by decide))).1, set_here p r b _ _ rfl, wrap64_succ k (by omega)]
/-- A turned sector is none. -/
theorem none_left (x p q : List Int) (b0 b1 b2 b3 : Int) (t : Nat) (ht : t < 4294967296) (h0 : t ≠ 0) (hx : Bytes x) (hl : x.length = 60) (he : x = p ++ b0 :: b1 :: b2 :: b3 :: q) :
    decS ((p ++ ((b0.toNat ^^^ t / 256 ^ 0 % 256 : Nat) : Int) :: ((b1.toNat ^^^ t / 256 ^ 1 % 256 : Nat) : Int) :: ((b2.toNat ^^^ t / 256 ^ 2 % 256 : Nat) : Int) :: ((b3.toNat ^^^ t / 256 ^ 3 % 256 : Nat) : Int) :: q) ++ be (crcI x) 4) = zero10 := by
  rcases decS_cases ((p ++ ((b0.toNat ^^^ t / 256 ^ 0 % 256 : Nat) : Int) :: ((b1.toNat ^^^ t / 256 ^ 1 % 256 : Nat) : Int) :: ((b2.toNat ^^^ t / 256 ^ 2 % 256 : Nat) : Int) :: ((b3.toNat ^^^ t / 256 ^ 3 % 256 : Nat) : Int) :: q) ++ be (crcI x) 4) with h | ⟨g, s, last, kd, a, b, c, d, key, _, hc⟩
  · exact h
  · exfalso
    obtain ⟨_, hk, hf⟩ := encS_ok (g := g) (s := s) (last := last) (kd := kd) (a := a) (b := b) (c := c) (d := d) (key := key) (by rw [hc])
    rw [hf] at hc
    have hB := bodyS_bytes g s last kd a b c d key
    have hL := bodyS_length g s last kd a b c d key (by omega)
    generalize bodyS g s last kd a b c d key = y at hc hB hL hf
    have hy := congrArg Prod.fst hc
    dsimp only at hy
    unfold fullS at hy
    have hlen : y.length = (p ++ ((b0.toNat ^^^ t / 256 ^ 0 % 256 : Nat) : Int) :: ((b1.toNat ^^^ t / 256 ^ 1 % 256 : Nat) : Int) :: ((b2.toNat ^^^ t / 256 ^ 2 % 256 : Nat) : Int) :: ((b3.toNat ^^^ t / 256 ^ 3 % 256 : Nat) : Int) :: q).length := by
      rw [hL, ← hl, he]
      simp
    obtain ⟨h1, h2⟩ := List.append_inj hy hlen
    have c1 := crcI_range y hB
    have c2 := crcI_range x hx
    have e4 : (256 : Int) ^ 4 = 4294967296 := by decide
    have e := congrArg (val 0) h2
    rw [val_be0 _ 4 (by omega) (by omega), val_be0 _ 4 (by omega) (by omega)] at e
    have hne := Cr.finds (Cr.nl p) (Cr.nl q) b0.toNat b1.toNat b2.toNat b3.toNat t ht h0
    unfold crcI at e
    have e1 : Cr.nl y = Cr.nl p ++ (b0.toNat ^^^ t % 256) :: (b1.toNat ^^^ t / 256 % 256) :: (b2.toNat ^^^ t / 65536 % 256) :: (b3.toNat ^^^ t / 16777216 % 256) :: Cr.nl q := by
      rw [h1]
      simp [Cr.nl]
    have e2 : Cr.nl x = Cr.nl p ++ b0.toNat :: b1.toNat :: b2.toNat :: b3.toNat :: Cr.nl q := by rw [he]; simp [Cr.nl]
    rw [e1, e2] at e
    exact hne (by omega)
theorem lt_all (x p q : List Int) (b0 b1 b2 b3 : Int) (t : Nat) (ht : t < 4294967296) (h0 : t ≠ 0) (hx : Bytes x) (hl : x.length = 60) (he : x = p ++ b0 :: b1 :: b2 :: b3 :: q) :
    Ev (fun n => stowagelaw15_LineTurned.l0 n (t : Int) (fullS x) (p.length : Int) ((0 : Nat) : Int)) true := by
  have m0 : 0 ≤ b0 ∧ b0 < 256 := hx b0 (by simp [he])
  have m1 : 0 ≤ b1 ∧ b1 < 256 := hx b1 (by simp [he])
  have m2 : 0 ≤ b2 ∧ b2 < 256 := hx b2 (by simp [he])
  have m3 : 0 ≤ b3 ∧ b3 < 256 := hx b3 (by simp [he])
  have mp : Bytes p := fun z hz => hx z (by simp [he, hz])
  have mq : Bytes q := fun z hz => hx z (by simp [he, hz])
  have hp : p.length < 9223372036854775000 := by
    have := congrArg List.length he
    simp at this
    omega
  have hn := none_left x p q b0 b1 b2 b3 t ht h0 hx hl he
  have eF : fullS x = p ++ b0 :: b1 :: b2 :: b3 :: (q ++ be (crcI x) 4) := by
    unfold fullS
    conv => lhs; arg 1; rw [he]
    simp
  have cr := crcI_range x hx
  rw [eF]
  refine lt_step p _ b0 t p.length 0 m0 (by omega) (by omega) hp ?_
  have s1 : ∀ (c : Int) r, p ++ c :: r = (p ++ [c]) ++ r := fun c r => by simp
  rw [s1]
  refine lt_step (p ++ [_]) _ b1 t p.length 1 m1 (by omega) (by simp) hp ?_
  have s2 : ∀ (c d : Int) r, (p ++ [c]) ++ d :: r = (p ++ [c, d]) ++ r := fun c d r => by simp
  rw [s2]
  refine lt_step (p ++ [_, _]) _ b2 t p.length 2 m2 (by omega) (by simp) hp ?_
  have s3 : ∀ (c d e : Int) r, (p ++ [c, d]) ++ e :: r = (p ++ [c, d, e]) ++ r := fun c d e r => by simp
  rw [s3]
  refine lt_step (p ++ [_, _, _]) _ b3 t p.length 3 m3 (by omega) (by simp) hp ?_
  have eT : p ++ [((b0.toNat ^^^ t / 256 ^ 0 % 256 : Nat) : Int), ((b1.toNat ^^^ t / 256 ^ 1 % 256 : Nat) : Int), ((b2.toNat ^^^ t / 256 ^ 2 % 256 : Nat) : Int)] ++ ((b3.toNat ^^^ t / 256 ^ 3 % 256 : Nat) : Int) :: (q ++ be (crcI x) 4)
      = (p ++ ((b0.toNat ^^^ t / 256 ^ 0 % 256 : Nat) : Int) :: ((b1.toNat ^^^ t / 256 ^ 1 % 256 : Nat) : Int) :: ((b2.toNat ^^^ t / 256 ^ 2 % 256 : Nat) : Int) :: ((b3.toNat ^^^ t / 256 ^ 3 % 256 : Nat) : Int) :: q) ++ be (crcI x) 4 := by simp
  rw [eT]
  have hx' : ∀ (b : Int) (k : Nat), 0 ≤ b ∧ b < 256 → 0 ≤ ((b.toNat ^^^ t / 256 ^ k % 256 : Nat) : Int) ∧ ((b.toNat ^^^ t / 256 ^ k % 256 : Nat) : Int) < 256 := fun b k h => by
    have := (u8_nat b (t / 256 ^ k % 256) h (Nat.mod_lt _ (by decide))).2
    omega
  have hB : Bytes ((p ++ ((b0.toNat ^^^ t / 256 ^ 0 % 256 : Nat) : Int) :: ((b1.toNat ^^^ t / 256 ^ 1 % 256 : Nat) : Int) :: ((b2.toNat ^^^ t / 256 ^ 2 % 256 : Nat) : Int) :: ((b3.toNat ^^^ t / 256 ^ 3 % 256 : Nat) : Int) :: q) ++ be (crcI x) 4) := by
    intro z hz
    simp only [List.append_assoc, List.mem_append, List.mem_cons, List.cons_append] at hz
    rcases hz with h | rfl | rfl | rfl | rfl | h | h
    · exact mp z h
    · exact hx' b0 0 m0
    · exact hx' b1 1 m1
    · exact hx' b2 2 m2
    · exact hx' b3 3 m3
    · exact mq z h
    · exact be_bytes _ _ z h
  generalize (p ++ ((b0.toNat ^^^ t / 256 ^ 0 % 256 : Nat) : Int) :: ((b1.toNat ^^^ t / 256 ^ 1 % 256 : Nat) : Int) :: ((b2.toNat ^^^ t / 256 ^ 2 % 256 : Nat) : Int) :: ((b3.toNat ^^^ t / 256 ^ 3 % 256 : Nat) : Int) :: q) ++ be (crcI x) 4 = T at hn hB
  have hd := dec_ev T hB
  rw [hn] at hd
  obtain ⟨K, m⟩ := hd
  refine ⟨K + 1, fun k hk => ?_⟩
  obtain ⟨n, rfl⟩ : ∃ n, k = n + 1 := ⟨k - 1, by omega⟩
  have hm := m n (by omega)
  dsimp only at hm
  simp only [stowagelaw15_LineTurned.l0]
  rw [if_neg (by omega), hm]
  simp [zero10, toList_eq]
theorem LineTurned : StLineTurned := by
  intro g s last kd a b c d key at_ turn _ h1 h2
  have ha : 0 ≤ at_ ∧ at_ ≤ 65535 := by
    simp [Lit.wf, IntKind.min, IntKind.max, IntKind.signed, IntKind.bits] at h1
    omega
  have ht : 0 ≤ turn ∧ turn < 4294967296 := by
    simp [Lit.wf, IntKind.min, IntKind.max, IntKind.signed, IntKind.bits] at h2
    omega
  obtain ⟨i, rfl⟩ := Int.eq_ofNat_of_zero_le ha.1
  obtain ⟨t, rfl⟩ := Int.eq_ofNat_of_zero_le ht.1
  have hT : ∀ l : List Int, Ev (fun k => stowagelaw15_LineTurned.j0 k (i : Int) (t : Int) l true) true := fun l => Ev.step (f := fun k => (stowagelaw15_awake.f k).bind fun t364 => (some t364)) (fun k => by
    simp only [stowagelaw15_LineTurned.j0]
    rfl) (Ev.bind awake_ev (Ev.now _))
  apply Ev.rounds
  unfold stowagelaw15_LineTurned.f
  refine Ev.bind (enc_ev g s last kd a b c d key) ?_
  refine Ev.bind awake_ev ?_
  by_cases h0 : (encS g s last kd a b c d key).2 = 0
  · obtain ⟨hok, hk, he⟩ := encS_ok h0
    rw [he]
    by_cases hz : t = 0
    · subst hz
      exact hT _
    · have e0 : ((t : Int) == 0) = false := by rw [beq_eq_false_iff_ne]; omega
      have hB := bodyS_bytes g s last kd a b c d key
      have hL := bodyS_length g s last kd a b c d key (by omega)
      have hm : i % 57 < 57 := Nat.mod_lt _ (by decide)
      obtain ⟨p, b0, b1, b2, b3, q, hl, hp⟩ := split4 (bodyS g s last kd a b c d key) (i % 57) (by omega)
      have h := lt_all _ p q b0 b1 b2 b3 t (by omega) hz hB hL hl
      rw [hp] at h
      have em : Int.tmod (wrap64 (i : Int)) 57 = ((i % 57 : Nat) : Int) := by
        rw [wrap64_id _ (by omega) (by omega), Int.tmod_eq_emod_of_nonneg (by omega)]
        rfl
      refine Ev.step (fun k => ?_) h
      rw [if_pos rfl, if_pos rfl, e0]
      simp only [stowagelaw15_LineTurned.j0]
      rw [if_neg (by decide), em]
      rfl
  · refine Ev.congr (fun k => ?_) (hT (encS g s last kd a b c d key).1)
    rw [if_pos rfl, if_neg h0]
end Go.Proofs.Ytjfdjbmahahllaa.Pure
