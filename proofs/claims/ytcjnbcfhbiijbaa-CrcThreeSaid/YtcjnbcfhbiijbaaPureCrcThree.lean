/- CrcThree: of three texts of one length, added bit by bit, the sum is the three sums added. No condition. -/
import Derived.Test.YtcjnbcfhbiijbaaQCrcThreex2
import Derived.Test.YtcjnbcfhbiijbaaCrcPlain
namespace Go.Proofs.Ytcjnbcfhbiijbaa.Pure
open Go.RowKit Go.Proofs.Ytcjnbcfhbiijbaa.QCrcThree Go.Proofs.YtcjnbcfhbiijbaaW.PrintWords Go.Proofs.YtcjnbcfhbiijbaaW.PrintLast Go.Proofs.Ytcjnbcfhbiijbaa.CrcPlain

/-! ### the functions come to the plain ones -/
theorem and_one (r : Nat) (h : r < 4294967296) : Go.bits .and .u32 (r : Int) 1 = ((r % 2 : Nat) : Int) := by
  have := u32_and_nat r 1 h (by decide)
  rw [nat_mask1] at this
  exact this
theorem xor_nat (a b : Nat) (ha : a < 4294967296) (hb : b < 4294967296) : Go.bits .xor .u32 (a : Int) (b : Int) = ((a ^^^ b : Nat) : Int) := u32_xor_nat a b ha hb
theorem stepI_nat (r : Nat) (h : r < 4294967296) : stepI (r : Int) = ((st r : Nat) : Int) := by
  unfold stepI st
  rw [and_one r h, show (r : Int) / 2 = ((r / 2 : Nat) : Int) by omega]
  by_cases hr : r % 2 = 1
  · rw [if_pos (by omega), if_pos hr]
    exact xor_nat (r / 2) poly (by omega) (by decide)
  · rw [if_neg (by omega), if_neg hr]
theorem iterI_nat (r : Nat) (h : r < 4294967296) : ∀ n, iterI n (r : Int) = ((sts n r : Nat) : Int)
  | 0 => rfl
  | n + 1 => by simp only [iterI, sts]; rw [iterI_nat r h n, stepI_nat _ (sts_lt h n)]
theorem tabT_nat (j : Nat) (h : j < 4294967296) : tabT j = ((sts 8 j : Nat) : Int) := iterI_nat j h 8
theorem moreStep_nat (r b : Nat) (hr : r < 4294967296) (hb : b < 256) : moreStep (r : Int) (b : Int) = ((addB r b : Nat) : Int) := by
  unfold moreStep
  rw [show (r : Int) % 256 = ((r % 256 : Nat) : Int) by omega, u8_xor_nat (r % 256) b (by omega) hb, Int.toNat_natCast]
  have hx : r % 256 ^^^ b < 256 := Nat.xor_lt_two_pow (n := 8) (by omega) hb
  rw [tabT_nat _ (by omega), show (r : Int) / 256 = ((r / 256 : Nat) : Int) by omega, xor_nat _ _ (by omega) (sts_lt (by omega) 8), addB_table r b hb]
def Bytes (l : List Int) : Prop := ∀ x ∈ l, 0 ≤ x ∧ x < 256
def nl (l : List Int) : List Nat := l.map Int.toNat
theorem nl_lt {l : List Int} (h : Bytes l) : ∀ b ∈ nl l, b < 256 := by
  intro b hb
  obtain ⟨x, hx, rfl⟩ := List.mem_map.1 hb
  have := h x hx
  omega
theorem fold_nat : ∀ (l : List Int) (r : Nat), r < 4294967296 → Bytes l → l.foldl moreStep (r : Int) = ((reg r (nl l) : Nat) : Int)
  | [], _, _, _ => rfl
  | x :: l, r, hr, hl => by
    have hx := hl x List.mem_cons_self
    have e : x = ((x.toNat : Nat) : Int) := by omega
    have hb : x.toNat < 256 := by omega
    have ih := fold_nat l (addB r x.toNat) (addB_lt hr hb) (fun y hy => hl y (List.mem_cons_of_mem _ hy))
    rw [List.foldl_cons]
    conv => lhs; rw [e, moreStep_nat r x.toNat hr hb]
    exact ih
theorem max_u32 : IntKind.u32.max = ((ones : Nat) : Int) := rfl
theorem not_nat (x : Nat) (h : x < 4294967296) : Go.bits .xor .u32 IntKind.u32.max (x : Int) = ((not_ x : Nat) : Int) := by
  rw [max_u32]
  exact xor_nat ones x (by decide) h
theorem more_eq (s : Nat) (l : List Int) (hs : s < 4294967296) (hl : Bytes l) : crc_More.f (s : Int) l = some ((more s (nl l) : Nat) : Int) := by
  unfold crc_More.f
  rw [not_nat s hs, fold_nat l _ (not_lt hs) hl, not_nat _ (reg_lt _ _ (not_lt hs) (nl_lt hl))]
  rfl
theorem more_lt {s : Nat} {l : List Int} (hs : s < 4294967296) (hl : Bytes l) : more s (nl l) < 4294967296 := not_lt (reg_lt _ _ (not_lt hs) (nl_lt hl))
theorem sum_eq (l : List Int) (hl : Bytes l) : crc_Sum.f l = some ((more 0 (nl l) : Nat) : Int) := by
  unfold crc_Sum.f
  have := more_eq 0 l (by decide) hl
  rw [show ((0 : Nat) : Int) = 0 from rfl] at this
  rw [this]
  rfl
theorem awake_eq : stowagelaw02_awake.f = some true := by
  unfold stowagelaw02_awake.f
  rw [sum_eq nine (by intro x hx; simp [nine] at hx; omega), sum_eq [] (by intro x hx; cases hx)]
  have e : more 0 (nl nine) = 3421780262 := by decide +kernel
  have e0 : more 0 (nl []) = 0 := by decide +kernel
  rw [e, e0]
  rfl
theorem bytes_of_wf {l : List Int} (h : ∀ x ∈ l, (Lit.int .u8 x).wf = true) : Bytes l := by
  intro x hx
  have := h x hx
  simp [Lit.wf, IntKind.min, IntKind.max, IntKind.signed, IntKind.bits] at this
  omega
theorem u32_of_wf {x : Int} (h : (Lit.int .u32 x).wf = true) : ∃ n : Nat, x = (n : Int) ∧ n < 4294967296 := by
  simp [Lit.wf, IntKind.min, IntKind.max, IntKind.signed, IntKind.bits] at h
  exact ⟨x.toNat, by omega, by omega⟩
theorem i64_of_wf {x : Int} (h : (Lit.int .i64 x).wf = true) : -9223372036854775808 ≤ x ∧ x ≤ 9223372036854775807 := by
  simp [Lit.wf, IntKind.min, IntKind.max, IntKind.signed, IntKind.bits] at h
  omega
theorem wrap64_id (x : Int) (h0 : -9223372036854775808 ≤ x) (h1 : x ≤ 9223372036854775807) : wrap64 x = x := by unfold wrap64; omega
theorem wrap64_succ (i : Nat) (h : i < 9223372036854775807) : wrap64 ((i : Int) + 1) = ((i + 1 : Nat) : Int) := by rw [wrap64_id _ (by omega) (by omega)]; omega
theorem rd_nat (l : List Int) (i : Nat) (h : i < l.length) : rd l (i : Int) = l[i] := by
  simp [rd, List.getD_eq_getElem?_getD, List.getElem?_eq_getElem h]
theorem rd_mem (l : List Int) (i : Nat) (h : i < l.length) : rd l (i : Int) ∈ l := by rw [rd_nat l i h]; exact List.getElem_mem h
theorem drop_rd (l : List Int) (i : Nat) (h : i < l.length) : l.drop i = rd l (i : Int) :: l.drop (i + 1) := by
  rw [rd_nat l i h]; exact List.drop_eq_getElem_cons h

/-! ### the law -/
theorem u8_nat (a b : Int) (ha : 0 ≤ a ∧ a < 256) (hb : 0 ≤ b ∧ b < 256) : Go.bits .xor .u8 a b = ((a.toNat ^^^ b.toNat : Nat) : Int) ∧ a.toNat ^^^ b.toNat < 256 := by
  obtain ⟨x, rfl⟩ := Int.eq_ofNat_of_zero_le ha.1
  obtain ⟨y, rfl⟩ := Int.eq_ofNat_of_zero_le hb.1
  rw [Int.toNat_natCast, Int.toNat_natCast]
  exact ⟨u8_xor_nat x y (by omega) (by omega), Nat.xor_lt_two_pow (n := 8) (by omega) (by omega)⟩
def three (a b c : List Int) (i : Nat) : Int := Go.bits .xor .u8 (Go.bits .xor .u8 (rd a (i : Int)) (rd b (i : Int))) (rd c (i : Int))
def threes (a b c : List Int) (n : Nat) : List Int := (List.range n).map (three a b c)
theorem three_nat (a b c : List Int) (ha : Bytes a) (hb : Bytes b) (hc : Bytes c) (i : Nat) (h1 : i < a.length) (h2 : i < b.length) (h3 : i < c.length) :
    three a b c i = (((rd a (i : Int)).toNat ^^^ (rd b (i : Int)).toNat ^^^ (rd c (i : Int)).toNat : Nat) : Int) ∧ (rd a (i : Int)).toNat ^^^ (rd b (i : Int)).toNat ^^^ (rd c (i : Int)).toNat < 256 := by
  obtain ⟨e1, l1⟩ := u8_nat _ _ (ha _ (rd_mem a i h1)) (hb _ (rd_mem b i h2))
  unfold three
  rw [e1]
  obtain ⟨e2, l2⟩ := u8_nat (((rd a (i : Int)).toNat ^^^ (rd b (i : Int)).toNat : Nat) : Int) (rd c (i : Int)) ⟨by omega, by omega⟩ (hc _ (rd_mem c i h3))
  rw [Int.toNat_natCast] at e2 l2
  exact ⟨e2, l2⟩
theorem threes_bytes (a b c : List Int) (ha : Bytes a) (hb : Bytes b) (hc : Bytes c) (n : Nat) (h1 : n ≤ a.length) (h2 : n ≤ b.length) (h3 : n ≤ c.length) : Bytes (threes a b c n) := by
  intro x hx
  obtain ⟨i, hi, rfl⟩ := List.mem_map.1 hx
  have hi' := List.mem_range.1 hi
  obtain ⟨e, l⟩ := three_nat a b c ha hb hc i (by omega) (by omega) (by omega)
  rw [e]
  omega
theorem nl_get (l : List Int) (n i : Nat) (hi : i < n) (hn : n ≤ l.length) : (nl (l.take n))[i]! = (rd l (i : Int)).toNat := by
  have h1 : i < (nl (l.take n)).length := by simp [nl]; omega
  rw [getElem!_pos _ i h1, rd_nat l i (by omega)]
  simp [nl]
theorem threes_get (a b c : List Int) (n i : Nat) (hi : i < n) : (nl (threes a b c n))[i]! = (three a b c i).toNat := by
  have h1 : i < (nl (threes a b c n)).length := by simp [nl, threes]; omega
  rw [getElem!_pos _ i h1]
  simp [nl, threes]
theorem three_sum (a b c : List Int) (ha : Bytes a) (hb : Bytes b) (hc : Bytes c) (n : Nat) (h1 : n ≤ a.length) (h2 : n ≤ b.length) (h3 : n ≤ c.length) :
    more 0 (nl (threes a b c n)) = more 0 (nl (a.take n)) ^^^ more 0 (nl (b.take n)) ^^^ more 0 (nl (c.take n)) := by
  have e : not_ 0 ^^^ not_ 0 ^^^ not_ 0 = not_ 0 := by rw [Nat.xor_self, Nat.zero_xor]
  have h := reg_three (nl (a.take n)) (nl (b.take n)) (nl (c.take n)) (nl (threes a b c n)) (not_ 0) (not_ 0) (not_ 0) (by simp [nl, threes]; omega) (by simp [nl, threes]; omega) (by simp [nl, threes]; omega) (fun i hi => by
    have hi' : i < n := by simpa [nl, threes] using hi
    rw [threes_get a b c n i hi', nl_get a n i hi' h1, nl_get b n i hi' h2, nl_get c n i hi' h3, (three_nat a b c ha hb hc i (by omega) (by omega) (by omega)).1, Int.toNat_natCast])
  rw [e] at h
  unfold more
  rw [h, not_xor3]
theorem set_next (a b c : List Int) (n i : Nat) (hi : i < n) : ((threes a b c n).take i ++ List.replicate (n - i) 0).set i (three a b c i) = (threes a b c n).take (i + 1) ++ List.replicate (n - (i + 1)) 0 := by
  have hl : ((threes a b c n).take i).length = i := by simp [threes]; omega
  have ht : i < (threes a b c n).length := by simp [threes]; omega
  rw [List.set_append_right _ _ (by omega), hl, Nat.sub_self, List.take_succ_eq_append_getElem ht, List.append_assoc]
  congr 1
  rw [show n - i = (n - (i + 1)) + 1 by omega, List.replicate_succ, List.set_cons_zero]
  simp [threes]
theorem ct_end (a b c : List Int) (ha : Bytes a) (hb : Bytes b) (hc : Bytes c) (n : Nat) (h1 : n ≤ a.length) (h2 : n ≤ b.length) (h3 : n ≤ c.length) (k : Nat) : stowagelaw02_CrcThree.l0 (k + 1) a b c (n : Int) (threes a b c n) (n : Int) = some true := by
  have bt : ∀ {l : List Int}, Bytes l → Bytes (l.take n) := fun h x hx => h x (List.mem_of_mem_take hx)
  have l1 : more 0 (nl (a.take n)) < 4294967296 := more_lt (by decide) (bt ha)
  have l2 : more 0 (nl (b.take n)) < 4294967296 := more_lt (by decide) (bt hb)
  have l3 : more 0 (nl (c.take n)) < 4294967296 := more_lt (by decide) (bt hc)
  simp only [stowagelaw02_CrcThree.l0]
  rw [if_neg (by omega), awake_eq, Option.bind_some, if_pos rfl, sum_eq _ (threes_bytes a b c ha hb hc n h1 h2 h3), Option.bind_some, if_pos (by omega), if_pos (by omega), Int.toNat_natCast, sum_eq _ (bt ha), Option.bind_some, if_pos (by omega), sum_eq _ (bt hb), Option.bind_some, if_pos (by omega), sum_eq _ (bt hc), Option.bind_some, xor_nat _ _ l1 l2, xor_nat _ _ (xor_lt l1 l2) l3, three_sum a b c ha hb hc n h1 h2 h3]
  simp
theorem ct_loop (a b c : List Int) (ha : Bytes a) (hb : Bytes b) (hc : Bytes c) (n : Nat) (h1 : n ≤ a.length) (h2 : n ≤ b.length) (h3 : n ≤ c.length) (hn : n < 9223372036854775807) : ∀ (d i : Nat), i + d = n →
    Ev (fun k => stowagelaw02_CrcThree.l0 k a b c (n : Int) ((threes a b c n).take i ++ List.replicate (n - i) 0) (i : Int)) true
  | 0, i, hi => by
    have e : (threes a b c n).take i ++ List.replicate (n - i) 0 = threes a b c n := by
      rw [List.take_of_length_le (by simp [threes]; omega), show n - i = 0 by omega]
      simp
    rw [e, show i = n by omega]
    exact Ev.step (f := fun _ => some true) (fun k => ct_end a b c ha hb hc n h1 h2 h3 k) (Ev.now true)
  | d + 1, i, hi => by
    have ih := ct_loop a b c ha hb hc n h1 h2 h3 hn d (i + 1) (by omega)
    rw [← set_next a b c n i (by omega)] at ih
    have hl : ((threes a b c n).take i ++ List.replicate (n - i) 0).length = n := by simp [threes]; omega
    refine Ev.step (f := fun k => stowagelaw02_CrcThree.l0 k a b c (n : Int) (((threes a b c n).take i ++ List.replicate (n - i) 0).set i (three a b c i)) ((i + 1 : Nat) : Int)) (fun k => ?_) ih
    simp only [stowagelaw02_CrcThree.l0]
    rw [if_pos (by omega), if_pos (by omega), if_pos (by omega), if_pos (by omega), if_pos (by omega), hl, if_pos (by omega), wrap64_succ i (by omega), Int.toNat_natCast]
    rfl
theorem CrcThree : stowagelaw02_CrcThree.Pure := by
  intro a b c _ hla hwa _ hlb hwb _ hlc hwc
  have ha := bytes_of_wf hwa
  have hb := bytes_of_wf hwb
  have hc := bytes_of_wf hwc
  have key : ∀ n : Nat, n ≤ a.length → n ≤ b.length → n ≤ c.length → Ev (fun k => stowagelaw02_CrcThree.j1 k a b c (n : Int)) true := by
    intro n h1 h2 h3
    have h := ct_loop a b c ha hb hc n h1 h2 h3 (by omega) n 0 (by omega)
    refine Ev.step (f := fun k => stowagelaw02_CrcThree.l0 k a b c (n : Int) ((threes a b c n).take 0 ++ List.replicate (n - 0) 0) ((0 : Nat) : Int)) (fun k => ?_) h
    simp only [stowagelaw02_CrcThree.j1]
    rw [if_pos (by omega), Int.toNat_natCast, if_pos (by omega)]
    rfl
  have key0 : ∀ n : Nat, n ≤ a.length → n ≤ b.length → Ev (fun k => stowagelaw02_CrcThree.j0 k a b c (n : Int)) true := by
    intro n h1 h2
    by_cases h : c.length < n
    · refine Ev.step (f := fun k => stowagelaw02_CrcThree.j1 k a b c (c.length : Int)) (fun k => ?_) (key c.length (by omega) (by omega) (by omega))
      simp only [stowagelaw02_CrcThree.j0]
      rw [if_pos (by omega)]
    · refine Ev.step (f := fun k => stowagelaw02_CrcThree.j1 k a b c (n : Int)) (fun k => ?_) (key n h1 h2 (by omega))
      simp only [stowagelaw02_CrcThree.j0]
      rw [if_neg (by omega)]
  apply Ev.rounds
  unfold stowagelaw02_CrcThree.f
  by_cases h : (b.length : Int) < (a.length : Int)
  · simp only [h, if_true]
    exact key0 b.length (by omega) (by omega)
  · simp only [h, if_false]
    exact key0 a.length (by omega) (by omega)

end Go.Proofs.Ytcjnbcfhbiijbaa.Pure
