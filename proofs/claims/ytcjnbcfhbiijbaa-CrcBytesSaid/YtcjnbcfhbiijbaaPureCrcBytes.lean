/- CrcBytes: bytes may be taken one by one, and no bytes change nothing. No condition. -/
import Derived.Test.YtcjnbcfhbiijbaaQCrcBytesx1
import Derived.Test.YtcjnbcfhbiijbaaCrcPlain
namespace Go.Proofs.Ytcjnbcfhbiijbaa.Pure
open Go.RowKit Go.Proofs.Ytcjnbcfhbiijbaa.QCrcBytes Go.Proofs.YtcjnbcfhbiijbaaW.PrintWords Go.Proofs.YtcjnbcfhbiijbaaW.PrintLast Go.Proofs.Ytcjnbcfhbiijbaa.CrcPlain

/-! ### the functions come to the plain ones -/
theorem and_one (r : Nat) (h : r < 4294967296) : Go.bits .and .u32 (r : Int) 1 = ((r % 2 : Nat) : Int) := by
  have := u32_and_nat r 1 h (by decide)
  rw [nat_mask1] at this
  exact this
theorem xor_nat (a b : Nat) (ha : a < 4294967296) (hb : b < 4294967296) : Go.bits .xor .u32 (a : Int) (b : Int) = ((a ^^^ b : Nat) : Int) := u32_xor_nat a b ha hb
theorem stepI_nat (r : Nat) (h : r < 4294967296) : stepI (r : Int) = ((st r : Nat) : Int) := by
  unfold stepI st
  rw [and_one r h, show (r : Int) / 2 = ((r / 2 : Nat) : Int) by omega]
  by_cases hr : r % 2 = 1
  · rw [if_pos (by omega), if_pos hr]
    exact xor_nat (r / 2) poly (by omega) (by decide)
  · rw [if_neg (by omega), if_neg hr]
theorem iterI_nat (r : Nat) (h : r < 4294967296) : ∀ n, iterI n (r : Int) = ((sts n r : Nat) : Int)
  | 0 => rfl
  | n + 1 => by simp only [iterI, sts]; rw [iterI_nat r h n, stepI_nat _ (sts_lt h n)]
theorem tabT_nat (j : Nat) (h : j < 4294967296) : tabT j = ((sts 8 j : Nat) : Int) := iterI_nat j h 8
theorem moreStep_nat (r b : Nat) (hr : r < 4294967296) (hb : b < 256) : moreStep (r : Int) (b : Int) = ((addB r b : Nat) : Int) := by
  unfold moreStep
  rw [show (r : Int) % 256 = ((r % 256 : Nat) : Int) by omega, u8_xor_nat (r % 256) b (by omega) hb, Int.toNat_natCast]
  have hx : r % 256 ^^^ b < 256 := Nat.xor_lt_two_pow (n := 8) (by omega) hb
  rw [tabT_nat _ (by omega), show (r : Int) / 256 = ((r / 256 : Nat) : Int) by omega, xor_nat _ _ (by omega) (sts_lt (by omega) 8), addB_table r b hb]
def Bytes (l : List Int) : Prop := ∀ x ∈ l, 0 ≤ x ∧ x < 256
def nl (l : List Int) : List Nat := l.map Int.toNat
theorem nl_lt {l : List Int} (h : Bytes l) : ∀ b ∈ nl l, b < 256 := by
  intro b hb
  obtain ⟨x, hx, rfl⟩ := List.mem_map.1 hb
  have := h x hx
  omega
theorem fold_nat : ∀ (l : List Int) (r : Nat), r < 4294967296 → Bytes l → l.foldl moreStep (r : Int) = ((reg r (nl l) : Nat) : Int)
  | [], _, _, _ => rfl
  | x :: l, r, hr, hl => by
    have hx := hl x List.mem_cons_self
    have e : x = ((x.toNat : Nat) : Int) := by omega
    have hb : x.toNat < 256 := by omega
    have ih := fold_nat l (addB r x.toNat) (addB_lt hr hb) (fun y hy => hl y (List.mem_cons_of_mem _ hy))
    rw [List.foldl_cons]
    conv => lhs; rw [e, moreStep_nat r x.toNat hr hb]
    exact ih
theorem max_u32 : IntKind.u32.max = ((ones : Nat) : Int) := rfl
theorem not_nat (x : Nat) (h : x < 4294967296) : Go.bits .xor .u32 IntKind.u32.max (x : Int) = ((not_ x : Nat) : Int) := by
  rw [max_u32]
  exact xor_nat ones x (by decide) h
theorem more_eq (s : Nat) (l : List Int) (hs : s < 4294967296) (hl : Bytes l) : crc_More.f (s : Int) l = some ((more s (nl l) : Nat) : Int) := by
  unfold crc_More.f
  rw [not_nat s hs, fold_nat l _ (not_lt hs) hl, not_nat _ (reg_lt _ _ (not_lt hs) (nl_lt hl))]
  rfl
theorem more_lt {s : Nat} {l : List Int} (hs : s < 4294967296) (hl : Bytes l) : more s (nl l) < 4294967296 := not_lt (reg_lt _ _ (not_lt hs) (nl_lt hl))
theorem sum_eq (l : List Int) (hl : Bytes l) : crc_Sum.f l = some ((more 0 (nl l) : Nat) : Int) := by
  unfold crc_Sum.f
  have := more_eq 0 l (by decide) hl
  rw [show ((0 : Nat) : Int) = 0 from rfl] at this
  rw [this]
  rfl
theorem awake_eq : stowagelaw02_awake.f = some true := by
  unfold stowagelaw02_awake.f
  rw [sum_eq nine (by intro x hx; simp [nine] at hx; omega), sum_eq [] (by intro x hx; cases hx)]
  have e : more 0 (nl nine) = 3421780262 := by decide +kernel
  have e0 : more 0 (nl []) = 0 := by decide +kernel
  rw [e, e0]
  rfl
theorem bytes_of_wf {l : List Int} (h : ∀ x ∈ l, (Lit.int .u8 x).wf = true) : Bytes l := by
  intro x hx
  have := h x hx
  simp [Lit.wf, IntKind.min, IntKind.max, IntKind.signed, IntKind.bits] at this
  omega
theorem u32_of_wf {x : Int} (h : (Lit.int .u32 x).wf = true) : ∃ n : Nat, x = (n : Int) ∧ n < 4294967296 := by
  simp [Lit.wf, IntKind.min, IntKind.max, IntKind.signed, IntKind.bits] at h
  exact ⟨x.toNat, by omega, by omega⟩
theorem i64_of_wf {x : Int} (h : (Lit.int .i64 x).wf = true) : -9223372036854775808 ≤ x ∧ x ≤ 9223372036854775807 := by
  simp [Lit.wf, IntKind.min, IntKind.max, IntKind.signed, IntKind.bits] at h
  omega
theorem wrap64_id (x : Int) (h0 : -9223372036854775808 ≤ x) (h1 : x ≤ 9223372036854775807) : wrap64 x = x := by unfold wrap64; omega
theorem wrap64_succ (i : Nat) (h : i < 9223372036854775807) : wrap64 ((i : Int) + 1) = ((i + 1 : Nat) : Int) := by rw [wrap64_id _ (by omega) (by omega)]; omega
theorem rd_nat (l : List Int) (i : Nat) (h : i < l.length) : rd l (i : Int) = l[i] := by
  simp [rd, List.getD_eq_getElem?_getD, List.getElem?_eq_getElem h]
theorem rd_mem (l : List Int) (i : Nat) (h : i < l.length) : rd l (i : Int) ∈ l := by rw [rd_nat l i h]; exact List.getElem_mem h
theorem drop_rd (l : List Int) (i : Nat) (h : i < l.length) : l.drop i = rd l (i : Int) :: l.drop (i + 1) := by
  rw [rd_nat l i h]; exact List.drop_eq_getElem_cons h

/-! ### the law -/
theorem nl_append (l m : List Int) : nl (l ++ m) = nl l ++ nl m := by simp [nl]
theorem cut_one (l : List Int) (i : Nat) (h : i < l.length) : (l.take (i + 1)).drop i = [rd l (i : Int)] := by
  rw [List.take_succ_eq_append_getElem h, rd_nat l i h]
  have : (l.take i).length = i := by simp; omega
  rw [List.drop_append_of_le_length (by omega), List.drop_eq_nil_of_le (by omega), List.nil_append]
theorem bytes_take {l : List Int} (hl : Bytes l) (n : Nat) : Bytes (l.take n) := fun x hx => hl x (List.mem_of_mem_take hx)
theorem cb_end (s : Nat) (l : List Int) (hs : s < 4294967296) (hl : Bytes l) (hlen : l.length < 9223372036854775807) : Ev (fun k => stowagelaw02_CrcBytes.j1 k (s : Int) l ((more s (nl (l.take 300)) : Nat) : Int)) true := by
  have e0 : crc_More.f (s : Int) [] = some (s : Int) := by
    rw [more_eq s [] hs (by intro x hx; cases hx)]
    rw [show nl [] = [] from rfl, more_nil]
  refine Ev.step (f := fun _ => some true) (fun k => ?_) (Ev.now true)
  simp only [stowagelaw02_CrcBytes.j1]
  by_cases h : (l.length : Int) > 300
  · rw [if_pos h, if_pos (by omega), awake_eq, more_eq s (l.take 300) hs (bytes_take hl 300)]
    simp [e0]
  · have e : l.take 300 = l := List.take_of_length_le (by omega)
    rw [if_neg h, e, awake_eq, more_eq s l hs hl]
    simp [e0]
theorem cb_loop (s : Nat) (l : List Int) (hs : s < 4294967296) (hl : Bytes l) (hlen : l.length < 9223372036854775807) : ∀ (d i : Nat), i + d = l.length → i ≤ 300 →
    Ev (fun k => stowagelaw02_CrcBytes.l0 k (s : Int) l ((more s (nl (l.take i)) : Nat) : Int) (i : Int)) true
  | 0, i, hi, h3 => by
    have he := cb_end s l hs hl hlen
    have e : l.take i = l.take 300 := by rw [List.take_of_length_le (by omega), List.take_of_length_le (by omega)]
    rw [e]
    refine Ev.step (f := fun k => stowagelaw02_CrcBytes.j1 k (s : Int) l ((more s (nl (l.take 300)) : Nat) : Int)) (fun k => ?_) he
    simp only [stowagelaw02_CrcBytes.l0]
    rw [if_neg (by omega)]
  | d + 1, i, hi, h3 => by
    have hil : i < l.length := by omega
    by_cases h : i < 300
    · have ih := cb_loop s l hs hl hlen d (i + 1) (by omega) (by omega)
      have hb : Bytes [rd l (i : Int)] := fun x hx => by simp at hx; subst hx; exact hl _ (rd_mem l i hil)
      have e : more s (nl (l.take (i + 1))) = more (more s (nl (l.take i))) (nl [rd l (i : Int)]) := by
        rw [← more_append, ← nl_append]
        congr 2
        rw [List.take_succ_eq_append_getElem hil, rd_nat l i hil]
      refine Ev.step (f := fun k => stowagelaw02_CrcBytes.l0 k (s : Int) l ((more s (nl (l.take (i + 1))) : Nat) : Int) ((i + 1 : Nat) : Int)) (fun k => ?_) ih
      simp only [stowagelaw02_CrcBytes.l0]
      rw [wrap64_succ i (by omega), if_pos (by omega), if_pos (by omega), if_pos (by omega), if_pos (by omega), if_pos (by omega), Int.toNat_natCast, Int.toNat_natCast, cut_one l i hil, more_eq _ _ (more_lt hs (bytes_take hl i)) hb, ← e]
      rfl
    · have he := cb_end s l hs hl hlen
      have e : i = 300 := by omega
      rw [e]
      refine Ev.step (f := fun k => stowagelaw02_CrcBytes.j1 k (s : Int) l ((more s (nl (l.take 300)) : Nat) : Int)) (fun k => ?_) he
      simp only [stowagelaw02_CrcBytes.l0]
      rw [if_pos (by omega), if_neg (by omega)]
theorem CrcBytes : stowagelaw02_CrcBytes.Pure := by
  intro s l hsw _ hl1 hlw
  obtain ⟨s, rfl, hs⟩ := u32_of_wf hsw
  have hl := bytes_of_wf hlw
  have h := cb_loop s l hs hl (by omega) l.length 0 (by omega) (by omega)
  apply Ev.rounds
  unfold stowagelaw02_CrcBytes.f
  have e : more s (nl (l.take 0)) = s := more_nil s
  rw [e] at h
  exact h

end Go.Proofs.Ytcjnbcfhbiijbaa.Pure
