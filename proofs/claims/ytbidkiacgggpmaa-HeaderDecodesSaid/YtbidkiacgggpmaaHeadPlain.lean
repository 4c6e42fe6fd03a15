/- What the functions of a head's text come to, in plain terms: any head as a sector, the head that a sector is. -/
import Derived.Test.YtbidkiacgggpmaaQHeadx7
import Derived.Test.YtbidkiacgggpmaaPackPlain
import Derived.Test.YtbidkiacgggpmaaCrcPlain
namespace Go.Proofs.Ytbidkiacgggpmaa.QHead
open Go.RowKit Go.Proofs.YtbidkiacgggpmaaW.PrintWords Go.Proofs.YtbidkiacgggpmaaW.PrintLast Go.Proofs.YtbidkiacgggpmaaW.PrintMore Go.Proofs.Ytbidkiacgggpmaa.PackPlain
theorem put_loop (n : Int) : ∀ (d : Nat) (b : List Int), d ≤ 8 → b.length + d ≤ 140737488355328 → Ev (fun k => pack_put.l0 k b n ((d : Int) - 1)) (b ++ be n d)
  | 0, b, _, _ => by
    refine Ev.step (f := fun _ => some b) (fun k => ?_) (by simpa [be] using Ev.now b)
    simp only [pack_put.l0]
    rw [if_neg (by omega)]
  | d + 1, b, hd, hb => by
    have ih := put_loop n d (b ++ [n / 256 ^ d % 256]) (by omega) (by simp; omega)
    have e : (((d + 1 : Nat) : Int) - 1) = (d : Int) := by omega
    simp only [e]
    refine Ev.step (f := fun k => pack_put.l0 k (b ++ [n / 256 ^ d % 256]) n ((d : Int) - 1)) (fun k => ?_) ?_
    · simp only [pack_put.l0]
      rw [if_pos (by omega), if_pos (by rw [wrap64_id _ (by omega) (by omega)]; omega), if_pos (by omega), shr8 n d (by omega), wrap64_id ((d : Int) - 1) (by omega) (by omega)]
    · rw [List.append_assoc] at ih
      exact ih
theorem put_ev (b : List Int) (n s : Int) (hs : okS s = true) (hb : b.length + 8 ≤ 140737488355328) : Ev (fun k => pack_put.f k b n s) (b ++ be n s.toNat) := by
  have h := (okS_iff s).1 hs
  have := put_loop n s.toNat b (by omega) (by omega)
  have e : ((s.toNat : Int) - 1) = wrap64 (s - 1) := by rw [wrap64_id _ (by omega) (by omega)]; omega
  simp only [e] at this
  exact this
theorem fits_eq (n s : Int) (h0 : 0 ≤ n) (h1 : n < 18446744073709551616) (hs : okS s = true) : pack_fits.f n s = some (fitS n s) := by
  have h := (okS_iff s).1 hs
  unfold pack_fits.f
  by_cases h8 : s = 8
  · subst h8
    rw [if_pos rfl, fitS8 n h1]
  · rw [if_neg h8]
    obtain ⟨t, rfl⟩ := Int.eq_ofNat_of_zero_le (show 0 ≤ s by omega)
    rw [if_pos (by rw [wrap64_id _ (by omega) (by omega)]; omega), shr8 n t (by omega)]
    congr 1
    unfold fitS
    rw [Int.toNat_natCast]
    have hp := pow_pos t
    by_cases hf : n < 256 ^ t
    · rw [Int.ediv_eq_zero_of_lt h0 hf]
      simp [hf]
    · have : 1 ≤ n / 256 ^ t := Int.le_ediv_of_mul_le hp (by omega)
      have h2 : n / 256 ^ t ≠ 0 := by omega
      simp [hf, h2]
theorem right_eq (s : Int) : pack_right.f s = some (okS s) := by
  unfold pack_right.f okS
  by_cases h : s ≥ 1
  · rw [if_pos h]
    have : (1 ≤ s) := h
    simp [this]
  · rw [if_neg h]
    have : ¬ (1 ≤ s) := h
    simp [this]

theorem fields_l1 (l z : List Int) (hl : Nums l) (hlz : l.length = z.length) (hm : l.length ≤ 4096) (hz : z.all okS = true) : ∀ (d i : Nat) (out : List Int), i + d = l.length → out.length ≤ 8 * i →
    Ev (fun k => pack_Fields.l1 k z out l (l.length : Int) (i : Int)) (fieldsGo (l.drop i) (z.drop i) out) := by
  intro d
  induction d with
  | zero =>
    intro i out hi ho
    rw [drop_all l i (by omega)]
    refine Ev.step (f := fun _ => some (out, 0)) (fun k => ?_) (by simpa [fieldsGo] using Ev.now (out, (0 : Int)))
    simp only [pack_Fields.l1]
    rw [if_neg (by omega)]
  | succ d ih =>
    intro i out hi ho
    have hil : i < l.length := by omega
    have hiz : i < z.length := by omega
    have hs : okS (rd z (i : Int)) = true := List.all_eq_true.1 hz _ (rd_mem z i hiz)
    obtain ⟨hn0, hn1⟩ := hl _ (rd_mem l i hil)
    rw [drop_rd l i hil, drop_rd z i hiz]
    refine Ev.step (f := fun k => if fitS (rd l (i : Int)) (rd z (i : Int)) = true then (pack_put.f k out (rd l (i : Int)) (rd z (i : Int))).bind fun t => pack_Fields.l1 k z t l (l.length : Int) ((i + 1 : Nat) : Int) else some (([] : List Int), 7)) (fun k => ?_) ?_
    · simp only [pack_Fields.l1]
      rw [if_pos (by omega), if_pos (by omega), if_pos (by omega), if_pos (by omega), fits_eq _ _ hn0 hn1 hs, wrap64_succ i (by omega)]
      rfl
    · simp only [fieldsGo]
      by_cases hf : fitS (rd l (i : Int)) (rd z (i : Int)) = true
      · simp only [hf, if_true]
        have hsr := (okS_iff _).1 hs
        exact Ev.bind (put_ev out _ _ hs (by omega)) (ih (i + 1) _ (by omega) (by simp [be_length]; omega))
      · simp only [hf]
        exact Ev.now _
theorem fields_l0_ok (l z : List Int) {r : List Int × Int} (hm : z.length ≤ 4096) (h : Ev (fun k => pack_Fields.l1 k z [] l (l.length : Int) 0) r) : ∀ (d i : Nat), i + d = z.length → (z.drop i).all okS = true →
    Ev (fun k => pack_Fields.l0 k l z z (z.length : Int) (i : Int)) r := by
  intro d
  induction d with
  | zero =>
    intro i hi ha
    refine Ev.step (f := fun k => pack_Fields.l1 k z [] l (l.length : Int) 0) (fun k => ?_) h
    simp only [pack_Fields.l0]
    rw [if_neg (by omega)]
  | succ d ih =>
    intro i hi ha
    have hiz : i < z.length := by omega
    rw [drop_rd z i hiz, List.all_cons, Bool.and_eq_true] at ha
    refine Ev.step (f := fun k => pack_Fields.l0 k l z z (z.length : Int) ((i + 1 : Nat) : Int)) (fun k => ?_) (ih (i + 1) (by omega) ha.2)
    simp only [pack_Fields.l0]
    rw [if_pos (by omega), if_pos (by omega), if_pos (by omega), right_eq, ha.1, wrap64_succ i (by omega)]
    rfl
theorem fields_l0_no (l z : List Int) (hm : z.length ≤ 4096) : ∀ (d i : Nat), i + d = z.length → (z.drop i).all okS = false →
    Ev (fun k => pack_Fields.l0 k l z z (z.length : Int) (i : Int)) (([] : List Int), 1) := by
  intro d
  induction d with
  | zero =>
    intro i hi ha
    rw [drop_all z i (by omega)] at ha
    cases ha
  | succ d ih =>
    intro i hi ha
    have hiz : i < z.length := by omega
    rw [drop_rd z i hiz, List.all_cons] at ha
    by_cases hs : okS (rd z (i : Int)) = true
    · rw [hs, Bool.true_and] at ha
      refine Ev.step (f := fun k => pack_Fields.l0 k l z z (z.length : Int) ((i + 1 : Nat) : Int)) (fun k => ?_) (ih (i + 1) (by omega) ha)
      simp only [pack_Fields.l0]
      rw [if_pos (by omega), if_pos (by omega), if_pos (by omega), right_eq, hs, wrap64_succ i (by omega)]
      rfl
    · have hs' : okS (rd z (i : Int)) = false := by simpa using hs
      refine Ev.step (f := fun _ => some (([] : List Int), 1)) (fun k => ?_) (Ev.now _)
      simp only [pack_Fields.l0]
      rw [if_pos (by omega), if_pos (by omega), if_pos (by omega), right_eq, hs']
      rfl
theorem fields_ev (l z : List Int) (hl : Nums l) : Ev (fun k => pack_Fields.f k l z) (fieldsS l z) := by
  unfold fieldsS
  by_cases h1 : l.length = z.length
  · have e1 : (l.length : Int) = (z.length : Int) := by omega
    by_cases h2 : l.length ≤ 4096
    · by_cases h3 : z.all okS = true
      · rw [if_pos ⟨h1, h2, h3⟩]
        have hg := fields_l0_ok l z (by omega) (by simpa using fields_l1 l z hl h1 h2 h3 l.length 0 [] (by omega) (by simp)) z.length 0 (by omega) (by simpa using h3)
        refine Ev.congr (f := fun k => pack_Fields.j0 k l z false) (fun k => ?_) (Ev.step (f := fun k => pack_Fields.l0 k l z z (z.length : Int) 0) (fun k => ?_) hg)
        · unfold pack_Fields.f
          rw [if_pos e1, decide_eq_false (by omega)]
        · simp [pack_Fields.j0]
      · have h3' : z.all okS = false := by simpa using h3
        rw [if_neg (fun h => h3 h.2.2)]
        have hg := fields_l0_no l z (by omega) z.length 0 (by omega) (by simpa using h3')
        refine Ev.congr (f := fun k => pack_Fields.j0 k l z false) (fun k => ?_) (Ev.step (f := fun k => pack_Fields.l0 k l z z (z.length : Int) 0) (fun k => ?_) hg)
        · unfold pack_Fields.f
          rw [if_pos e1, decide_eq_false (by omega)]
        · simp [pack_Fields.j0]
    · rw [if_neg (fun h => h2 h.2.1)]
      refine Ev.congr (f := fun k => pack_Fields.j0 k l z true) (fun k => ?_) (Ev.step (f := fun _ => some (([] : List Int), 1)) (fun k => ?_) (Ev.now _))
      · unfold pack_Fields.f
        rw [if_pos e1, decide_eq_true (by omega)]
      · simp [pack_Fields.j0]
  · rw [if_neg (fun h => h1 h.1)]
    refine Ev.congr (f := fun k => pack_Fields.j0 k l z true) (fun k => ?_) (Ev.step (f := fun _ => some (([] : List Int), 1)) (fun k => ?_) (Ev.now _))
    · unfold pack_Fields.f
      rw [if_neg (by omega)]
    · simp [pack_Fields.j0]
theorem get_loop (l : List Int) (hb : Bytes l) (hl : l.length ≤ 8) : ∀ (d i : Nat) (a : Int), i + d = l.length → 0 ≤ a → a < 256 ^ i → Ev (fun k => pack_get.l0 k a l (l.length : Int) (i : Int)) (val a (l.drop i)) := by
  intro d
  induction d with
  | zero =>
    intro i a hi h0 h1
    rw [drop_all l i (by omega)]
    refine Ev.step (f := fun _ => some a) (fun k => ?_) (Ev.now _)
    simp only [pack_get.l0]
    rw [if_neg (by omega)]
  | succ d ih =>
    intro i a hi h0 h1
    have hil : i < l.length := by omega
    obtain ⟨hx0, hx1⟩ := hb _ (rd_mem l i hil)
    have hp := pow_le8 (i + 1) (by omega)
    rw [Int.pow_succ] at hp
    rw [drop_rd l i hil]
    refine Ev.step (f := fun k => pack_get.l0 k (a * 256 + rd l (i : Int)) l (l.length : Int) ((i + 1 : Nat) : Int)) (fun k => ?_) (ih (i + 1) _ (by omega) (by omega) (by rw [Int.pow_succ]; omega))
    simp only [pack_get.l0]
    rw [if_pos (by omega), if_pos (by omega), if_pos (by omega), or_byte a _ h0 (by omega) hx0 hx1, wrap64_succ i (by omega)]
theorem get_ev (l : List Int) (hb : Bytes l) (hl : l.length ≤ 8) : Ev (fun k => pack_get.f k l) (val 0 l) := by
  have := get_loop l hb hl l.length 0 0 (by omega) (by omega) (by simp)
  exact Ev.congr (f := fun k => pack_get.l0 k 0 l (l.length : Int) 0) (fun k => rfl) (by simpa using this)
theorem sum_eq : ∀ (z : List Int) (a : Int), z.foldl (· + ·) a = a + sum z
  | [], a => by simp [sum]
  | s :: z, a => by
    have h1 := sum_eq z (a + s)
    have h2 := sum_eq z (0 + s)
    simp only [sum, List.foldl_cons] at *
    omega
theorem sum_cons (s : Int) (z : List Int) : sum (s :: z) = s + sum z := by
  have := sum_eq z (0 + s)
  simp only [sum, List.foldl_cons] at *
  omega
theorem sum_range : ∀ (z : List Int), z.all okS = true → 0 ≤ sum z ∧ sum z ≤ 8 * z.length
  | [], _ => by simp [sum]
  | s :: z, h => by
    rw [List.all_cons, Bool.and_eq_true] at h
    have h1 := (okS_iff s).1 h.1
    have h2 := sum_range z h.2
    rw [sum_cons]
    simp only [List.length_cons]
    omega
theorem split_l1 (z : List Int) (hm : z.length ≤ 4096) : ∀ (d i : Nat) (b out : List Int), Bytes b → i + d = z.length → (z.drop i).all okS = true → sum (z.drop i) = b.length → out.length ≤ i →
    Ev (fun k => pack_Split.l1 k b out z (z.length : Int) (i : Int)) (out ++ splitGo b (z.drop i), 0) := by
  intro d
  induction d with
  | zero =>
    intro i b out hb hi ha hs ho
    rw [drop_all z i (by omega)]
    refine Ev.step (f := fun _ => some (out, 0)) (fun k => ?_) (by simpa [splitGo] using Ev.now (out, (0 : Int)))
    simp only [pack_Split.l1]
    rw [if_neg (by omega)]
  | succ d ih =>
    intro i b out hb hi ha hs ho
    have hiz : i < z.length := by omega
    rw [drop_rd z i hiz, List.all_cons, Bool.and_eq_true] at ha
    rw [drop_rd z i hiz, sum_cons] at hs
    have hsr := (okS_iff _).1 ha.1
    have hsum := sum_range _ ha.2
    rw [drop_rd z i hiz]
    simp only [splitGo]
    have hg := get_ev (b.take (rd z (i : Int)).toNat) (fun x hx => hb x (List.mem_of_mem_take hx)) (by simp; omega)
    have hr := ih (i + 1) (b.drop (rd z (i : Int)).toNat) (out ++ [val 0 (b.take (rd z (i : Int)).toNat)]) (fun x hx => hb x (List.mem_of_mem_drop hx)) (by omega) ha.2 (by simp; omega) (by simp; omega)
    refine Ev.step (f := fun k => (pack_get.f k (b.take (rd z (i : Int)).toNat)).bind fun t => if out.length < 17592186044416 then pack_Split.l1 k (b.drop (rd z (i : Int)).toNat) (out ++ [t]) z (z.length : Int) ((i + 1 : Nat) : Int) else none) (fun k => ?_) (Ev.bind hg ?_)
    · simp only [pack_Split.l1]
      rw [if_pos (by omega), if_pos (by omega), if_pos (by omega), if_pos (by omega), if_pos (by omega), wrap64_succ i (by omega)]
    · have e : out.length < 17592186044416 := by omega
      simp only [e, if_true]
      rw [List.append_assoc] at hr
      exact hr
def splitEnd (b z : List Int) : List Int × Int := if (b.length : Int) < sum z then ([], 3) else if (b.length : Int) > sum z then ([], 2) else (splitGo b z, 0)
theorem split_l0 (b z : List Int) (hb : Bytes b) (hm : z.length ≤ 4096) : ∀ (d i : Nat) (a : Int), i + d = z.length → (z.take i).all okS = true → a = sum (z.take i) →
    Ev (fun k => pack_Split.l0 k b z a z (z.length : Int) (i : Int)) (if z.all okS = true then splitEnd b z else ([], 1)) := by
  intro d
  induction d with
  | zero =>
    intro i a hi ha hs
    rw [List.take_of_length_le (by omega)] at ha hs
    rw [if_pos ha]
    subst hs
    unfold splitEnd
    by_cases h1 : (b.length : Int) < sum z
    · rw [if_pos h1]
      refine Ev.step (f := fun _ => some (([] : List Int), 3)) (fun k => ?_) (Ev.now _)
      simp only [pack_Split.l0]
      rw [if_neg (by omega), if_pos h1]
    · by_cases h2 : (b.length : Int) > sum z
      · rw [if_neg h1, if_pos h2]
        refine Ev.step (f := fun _ => some (([] : List Int), 2)) (fun k => ?_) (Ev.now _)
        simp only [pack_Split.l0]
        rw [if_neg (by omega), if_neg h1, if_pos h2]
      · rw [if_neg h1, if_neg h2]
        have := split_l1 z hm z.length 0 b [] hb (by omega) (by simpa using ha) (by simp; omega) (by simp)
        refine Ev.step (f := fun k => pack_Split.l1 k b [] z (z.length : Int) 0) (fun k => ?_) (by simpa using this)
        simp only [pack_Split.l0]
        rw [if_neg (by omega), if_neg h1, if_neg h2]
  | succ d ih =>
    intro i a hi ha hs
    have hiz : i < z.length := by omega
    have hr0 := sum_range _ ha
    have hlen : (z.take i).length ≤ i := List.length_take_le _ _
    by_cases hk : okS (rd z (i : Int)) = true
    · have hsr := (okS_iff _).1 hk
      have es : sum (z.take (i + 1)) = sum (z.take i) + rd z (i : Int) := by
        rw [take_rd z i hiz]
        have := sum_eq [rd z (i : Int)] (sum (z.take i))
        simp only [sum, List.foldl_append, List.foldl_cons, List.foldl_nil] at *
      have := ih (i + 1) (a + rd z (i : Int)) (by omega) (by rw [take_rd z i hiz, List.all_append, ha]; simp [hk]) (by rw [es, hs])
      refine Ev.step (f := fun k => pack_Split.l0 k b z (a + rd z (i : Int)) z (z.length : Int) ((i + 1 : Nat) : Int)) (fun k => ?_) this
      simp only [pack_Split.l0]
      rw [if_pos (by omega), if_pos (by omega), if_pos (by omega), right_eq, hk, wrap64_succ i (by omega), wrap64_id (a + rd z (i : Int)) (by omega) (by omega)]
      rfl
    · have hk' : okS (rd z (i : Int)) = false := by simpa using hk
      rw [if_neg (fun hc => hk (List.all_eq_true.1 hc _ (rd_mem z i hiz)))]
      refine Ev.step (f := fun _ => some (([] : List Int), 1)) (fun k => ?_) (Ev.now _)
      simp only [pack_Split.l0]
      rw [if_pos (by omega), if_pos (by omega), if_pos (by omega), right_eq, hk']
      rfl
theorem splitS_eq (b z : List Int) : splitS b z = if (z.length : Int) > 4096 then ([], 1) else if z.all okS = true then splitEnd b z else ([], 1) := rfl
theorem split_ev (b z : List Int) (hb : Bytes b) : Ev (fun k => pack_Split.f k b z) (splitS b z) := by
  rw [splitS_eq]
  by_cases h : (z.length : Int) > 4096
  · rw [if_pos h]
    refine Ev.congr (f := fun _ => some (([] : List Int), 1)) (fun k => ?_) (Ev.now _)
    unfold pack_Split.f
    rw [if_pos h]
  · rw [if_neg h]
    refine Ev.congr (f := fun k => pack_Split.l0 k b z 0 z (z.length : Int) ((0 : Nat) : Int)) (fun k => ?_) (split_l0 b z hb (by omega) z.length 0 0 (by omega) (by simp) (by simp [sum]))
    unfold pack_Split.f
    rw [if_neg h]
    rfl
namespace Cr
open Go.Proofs.Ytbidkiacgggpmaa.CrcPlain
theorem and_one (r : Nat) (h : r < 4294967296) : Go.bits .and .u32 (r : Int) 1 = ((r % 2 : Nat) : Int) := by
  have := u32_and_nat r 1 h (by decide)
  rw [nat_mask1] at this
  exact this
theorem xor_nat (a b : Nat) (ha : a < 4294967296) (hb : b < 4294967296) : Go.bits .xor .u32 (a : Int) (b : Int) = ((a ^^^ b : Nat) : Int) := u32_xor_nat a b ha hb
theorem stepI_nat (r : Nat) (h : r < 4294967296) : stepI (r : Int) = ((st r : Nat) : Int) := by
  unfold stepI st
  rw [and_one r h, show (r : Int) / 2 = ((r / 2 : Nat) : Int) by omega]
  by_cases hr : r % 2 = 1
  · rw [if_pos (by omega), if_pos hr]
    exact xor_nat (r / 2) poly (by omega) (by decide)
  · rw [if_neg (by omega), if_neg hr]
theorem iterI_nat (r : Nat) (h : r < 4294967296) : ∀ n, iterI n (r : Int) = ((sts n r : Nat) : Int)
  | 0 => rfl
  | n + 1 => by simp only [iterI, sts]; rw [iterI_nat r h n, stepI_nat _ (sts_lt h n)]
theorem tabT_nat (j : Nat) (h : j < 4294967296) : tabT j = ((sts 8 j : Nat) : Int) := iterI_nat j h 8
theorem moreStep_nat (r b : Nat) (hr : r < 4294967296) (hb : b < 256) : moreStep (r : Int) (b : Int) = ((addB r b : Nat) : Int) := by
  unfold moreStep
  rw [show (r : Int) % 256 = ((r % 256 : Nat) : Int) by omega, u8_xor_nat (r % 256) b (by omega) hb, Int.toNat_natCast]
  have hx : r % 256 ^^^ b < 256 := Nat.xor_lt_two_pow (n := 8) (by omega) hb
  rw [tabT_nat _ (by omega), show (r : Int) / 256 = ((r / 256 : Nat) : Int) by omega, xor_nat _ _ (by omega) (sts_lt (by omega) 8), addB_table r b hb]
def Bytes (l : List Int) : Prop := ∀ x ∈ l, 0 ≤ x ∧ x < 256
def nl (l : List Int) : List Nat := l.map Int.toNat
theorem nl_lt {l : List Int} (h : Bytes l) : ∀ b ∈ nl l, b < 256 := by
  intro b hb
  obtain ⟨x, hx, rfl⟩ := List.mem_map.1 hb
  have := h x hx
  omega
theorem fold_nat : ∀ (l : List Int) (r : Nat), r < 4294967296 → Bytes l → l.foldl moreStep (r : Int) = ((reg r (nl l) : Nat) : Int)
  | [], _, _, _ => rfl
  | x :: l, r, hr, hl => by
    have hx := hl x List.mem_cons_self
    have e : x = ((x.toNat : Nat) : Int) := by omega
    have hb : x.toNat < 256 := by omega
    have ih := fold_nat l (addB r x.toNat) (addB_lt hr hb) (fun y hy => hl y (List.mem_cons_of_mem _ hy))
    rw [List.foldl_cons]
    conv => lhs; rw [e, moreStep_nat r x.toNat hr hb]
    exact ih
theorem max_u32 : IntKind.u32.max = ((ones : Nat) : Int) := rfl
theorem not_nat (x : Nat) (h : x < 4294967296) : Go.bits .xor .u32 IntKind.u32.max (x : Int) = ((not_ x : Nat) : Int) := by
  rw [max_u32]
  exact xor_nat ones x (by decide) h
theorem more_eq (s : Nat) (l : List Int) (hs : s < 4294967296) (hl : Bytes l) : crc_More.f (s : Int) l = some ((more s (nl l) : Nat) : Int) := by
  unfold crc_More.f
  rw [not_nat s hs, fold_nat l _ (not_lt hs) hl, not_nat _ (reg_lt _ _ (not_lt hs) (nl_lt hl))]
  rfl
theorem more_lt {s : Nat} {l : List Int} (hs : s < 4294967296) (hl : Bytes l) : more s (nl l) < 4294967296 := not_lt (reg_lt _ _ (not_lt hs) (nl_lt hl))
theorem sum_eq (l : List Int) (hl : Bytes l) : crc_Sum.f l = some ((more 0 (nl l) : Nat) : Int) := by
  unfold crc_Sum.f
  have := more_eq 0 l (by decide) hl
  rw [show ((0 : Nat) : Int) = 0 from rfl] at this
  rw [this]
  rfl
end Cr
def crcI (l : List Int) : Int := ((Go.Proofs.Ytbidkiacgggpmaa.CrcPlain.more 0 (Cr.nl l) : Nat) : Int)
def fullS (l : List Int) : List Int := l ++ be (crcI l) 4
theorem bytesOf_bytes (s : ByteArray) : Bytes (bytesOf s) := by
  intro x hx
  obtain ⟨u, _, rfl⟩ := List.mem_map.1 hx
  have := u.toNat_lt
  omega
theorem crcI_range (l : List Int) (h : Bytes l) : 0 ≤ crcI l ∧ crcI l < 4294967296 := by
  have := Cr.more_lt (s := 0) (l := l) (by decide) h
  unfold crcI
  omega
theorem must_ev (l z r : List Int) (hl : Nums l) (h : fieldsS l z = (r, 0)) (h0 : 0 < r.length) : Ev (fun k => pack_Must.f k l z) r := by
  have h1 := fields_ev l z hl
  rw [h] at h1
  refine Ev.bind h1 ?_
  refine Ev.congr (f := fun _ => some r) (fun k => ?_) (Ev.now r)
  dsimp only
  rw [if_pos rfl, if_neg (by omega)]
theorem fit_lt (n : Int) (s : Int) (m : Int) (hm : (256 : Int) ^ s.toNat = m) (h : n < m) : fitS n s = true := by
  unfold fitS
  rw [hm]
  exact decide_eq_true h
theorem must_one (n : Int) (h : 0 ≤ n ∧ n < 4294967296) : Ev (fun k => pack_Must.f k [n] [4]) (be n 4) := by
  refine must_ev _ _ _ ?_ ?_ (by rw [be_length]; omega)
  · intro x hx
    simp only [List.mem_cons, List.not_mem_nil, or_false] at hx
    omega
  · unfold fieldsS
    rw [if_pos ⟨rfl, by simp, by rfl⟩]
    have f1 := fit_lt n 4 _ (show (256 : Int) ^ (4 : Int).toNat = 4294967296 by decide) (by omega)
    simp only [fieldsGo, f1, if_true, List.nil_append]
    rfl
def seg (b : List Int) (i j : Nat) : List Int := (b.take j).drop i
theorem fullS_bytes {l : List Int} (h : Bytes l) : Bytes (fullS l) := by
  intro x hx
  rcases List.mem_append.1 hx with hx | hx
  · exact h x hx
  · exact be_bytes _ _ x hx
theorem eqS {l m : List Int} (hl : Bytes l) (hm : Bytes m) : ((strOfNums l).toList = (strOfNums m).toList) ↔ l = m := ⟨fun h => str_inj hl hm h, fun h => by rw [h]⟩
theorem seg_seg (b : List Int) (i m j n : Nat) (h : i + j + n ≤ m) : (((b.take m).drop i).drop j).take n = seg b (i + j) (i + j + n) := by
  unfold seg
  rw [List.drop_drop]
  apply List.ext_getElem?
  intro k
  simp only [List.getElem?_take, List.getElem?_drop]
  by_cases hk : k < n
  · rw [if_pos hk, if_pos (by omega), if_pos (by omega)]
  · rw [if_neg hk, if_neg (by omega)]
theorem seg_length (b : List Int) (i j : Nat) (hj : j ≤ b.length) : (seg b i j).length = j - i := by
  unfold seg
  rw [List.length_drop, List.length_take, Nat.min_eq_left hj]
theorem seg_bytes {b : List Int} (hb : Bytes b) (i j : Nat) : Bytes (seg b i j) := fun x hx => hb x (List.mem_of_mem_take (List.mem_of_mem_drop hx))
theorem seg_one (b : List Int) (i : Nat) (h : i < b.length) : val 0 (seg b i (i + 1)) = rd b (i : Int) := by
  have e : seg b i (i + 1) = [rd b (i : Int)] := by
    unfold seg
    rw [take_rd b i h, List.drop_append_of_le_length (by rw [List.length_take]; omega), drop_all _ i (by rw [List.length_take]; omega)]
    rfl
  rw [e]
  simp [val]
theorem take_left_len {l m : List Int} {n : Nat} (h : l.length = n) : (l ++ m).take n = l := by
  subst h
  exact List.take_left
theorem drop_left_len {l m : List Int} {n : Nat} (h : l.length = n) : (l ++ m).drop n = m := by
  subst h
  exact List.drop_left
theorem val_be0 (n : Int) (s : Nat) (h0 : 0 ≤ n) (h1 : n < 256 ^ s) : val 0 (be n s) = n := by
  rw [val_be, Int.zero_mul, Int.zero_add]
  exact Int.emod_eq_of_lt h0 h1
theorem splitGo_be (n : Int) (s : Nat) (rest ss : List Int) (h0 : 0 ≤ n) (h1 : n < 256 ^ s) : splitGo (be n s ++ rest) ((s : Int) :: ss) = n :: splitGo rest ss := by
  have e : ((s : Int)).toNat = s := rfl
  rw [splitGo, e, take_left_len (be_length n s), drop_left_len (be_length n s), val_be0 n s h0 h1]
theorem str_bytesOf (s : ByteArray) : strOfNums (bytesOf s) = s := by
  obtain ⟨x⟩ := s
  unfold strOfNums bytesOf
  congr 1
  apply Array.ext'
  simp only [List.map_map]
  conv => rhs; rw [← List.map_id x.toList]
  apply List.map_congr_left
  intro u _
  simp
/-! ### Encode -/
def okH (t v b s n : Int) : Bool := decide (1 ≤ t ∧ t ≤ 7 ∧ 0 ≤ v ∧ v ≤ 7 ∧ 0 ≤ b ∧ b ≤ 31 ∧ 0 ≤ s ∧ s ≤ 63 ∧ 1 ≤ n ∧ n ≤ 1099511627776)
def fiveS (t v b s n : Int) : List Int := be t 1 ++ (be v 1 ++ (be b 1 ++ (be s 1 ++ be n 8)))
def bodyH (t v b s n : Int) (tag : ByteArray) : List Int := (([83, 72] : List Int) ++ fiveS t v b s n) ++ (bytesOf tag ++ List.replicate (46 - tag.size) 0)
def encH (t v b s n : Int) (tag : ByteArray) : List Int × Int := if okH t v b s n = true then (if tag.size = 16 then (fullS (bodyH t v b s n tag), 0) else ([], 1)) else ([], 7)
theorem fiveS_length (t v b s n : Int) : (fiveS t v b s n).length = 12 := by simp [fiveS, be_length]
theorem fiveS_bytes (t v b s n : Int) : Bytes (fiveS t v b s n) := by
  intro x hx
  simp only [fiveS, List.mem_append] at hx
  rcases hx with h | h | h | h | h <;> exact be_bytes _ _ x h
theorem bodyH_bytes (t v b s n : Int) (tag : ByteArray) : Bytes (bodyH t v b s n tag) := by
  intro x hx
  simp only [bodyH, List.mem_append, List.mem_cons, List.mem_replicate] at hx
  rcases hx with (h | h) | h | h
  · rcases h with h | h | h
    · omega
    · omega
    · cases h
  · exact fiveS_bytes _ _ _ _ _ x h
  · exact bytesOf_bytes _ x h
  · omega
theorem bodyH_length (t v b s n : Int) (tag : ByteArray) (h : tag.size ≤ 46) : (bodyH t v b s n tag).length = 60 := by
  simp [bodyH, fiveS_length, bytesOf_length]
  omega
theorem must_five (t v b s n : Int) (hok : okH t v b s n = true) : Ev (fun k => pack_Must.f k [t, v, b, s, n] [1, 1, 1, 1, 8]) (fiveS t v b s n) := by
  have h := of_decide_eq_true hok
  refine must_ev _ _ _ ?_ ?_ (by rw [fiveS_length]; omega)
  · intro x hx
    simp only [List.mem_cons, List.not_mem_nil, or_false] at hx
    omega
  · unfold fieldsS
    rw [if_pos ⟨rfl, by simp, by rfl⟩]
    have e1 : (256 : Int) ^ (1 : Int).toNat = 256 := by decide
    have e8 : (256 : Int) ^ (8 : Int).toNat = 18446744073709551616 := by decide
    have f1 := fit_lt t 1 _ e1 (by omega)
    have f2 := fit_lt v 1 _ e1 (by omega)
    have f3 := fit_lt b 1 _ e1 (by omega)
    have f4 := fit_lt s 1 _ e1 (by omega)
    have f5 := fit_lt n 8 _ e8 (by omega)
    simp only [fieldsGo, f1, f2, f3, f4, f5, if_true, List.nil_append, List.append_assoc, fiveS]
    rfl
theorem enc_j0f (t v b s n : Int) (tag : ByteArray) (hok : okH t v b s n = true) (hk : tag.size = 16) :
    Ev (fun k => header_Encode.j0 k false t v b s n tag) (fullS (bodyH t v b s n tag), 0) := by
  have h := of_decide_eq_true hok
  have hB := bodyH_bytes t v b s n tag
  have hL := bodyH_length t v b s n tag (by omega)
  have hcr := crcI_range _ hB
  obtain ⟨K1, m1⟩ := must_five t v b s n hok
  obtain ⟨K2, m2⟩ := must_one (crcI (bodyH t v b s n tag)) hcr
  refine ⟨max K1 K2 + 1, fun k hk' => ?_⟩
  obtain ⟨m, rfl⟩ : ∃ m, k = m + 1 := ⟨k - 1, by omega⟩
  have n1 := m1 m (by omega)
  have n2 := m2 m (by omega)
  dsimp only at n1 n2
  have hn := fiveS_length t v b s n
  have hs := Cr.sum_eq _ hB
  have hb := bytesOf_length tag
  simp only [header_Encode.j0, Option.bind_some]
  rw [if_neg (by decide), if_pos (by omega), u64_id t (by omega) (by omega), u64_id v (by omega) (by omega), u64_id b (by omega) (by omega), u64_id s (by omega) (by omega), u64_id n (by omega) (by omega), n1]
  simp only [Option.bind_some]
  have e41 : ((([83, 72] : List Int) ++ fiveS t v b s n) ++ bytesOf tag).length = 30 := by
    rw [List.length_append, List.length_append, hn, hb, hk]
    rfl
  have ew : wrap64 (60 - (((([83, 72] : List Int) ++ fiveS t v b s n) ++ bytesOf tag).length : Int)) = 30 := by
    rw [e41, wrap64_id _ (by omega) (by omega)]
    omega
  have et : (30 : Int).toNat = 46 - tag.size := by omega
  have ebody : ((([83, 72] : List Int) ++ fiveS t v b s n) ++ bytesOf tag) ++ List.replicate (46 - tag.size) 0 = bodyH t v b s n tag := by
    rw [bodyH, List.append_assoc]
  rw [if_pos (by rw [hn]; simp), if_pos (by rw [List.length_append, hn]; simp; omega), ew, if_pos (by decide), et, if_pos (by rw [e41]; omega), ebody, hs]
  simp only [Option.bind_some]
  have n2' : pack_Must.f m [IntKind.u64.wrap ((Go.Proofs.Ytbidkiacgggpmaa.CrcPlain.more 0 (Cr.nl (bodyH t v b s n tag)) : Nat) : Int)] [4] = some (be (crcI (bodyH t v b s n tag)) 4) := by
    rw [u64_id _ (by omega) (by unfold crcI at hcr; omega)]
    exact n2
  rw [n2']
  simp only [Option.bind_some]
  rw [if_pos (by rw [hL, be_length]; omega)]
  rfl
theorem enc_j0t (t v b s n : Int) (tag : ByteArray) : Ev (fun k => header_Encode.j0 k true t v b s n tag) ([], 7) := by
  refine Ev.step (f := fun _ => some (([] : List Int), 7)) (fun k => ?_) (Ev.now _)
  simp only [header_Encode.j0]
  rfl
theorem in_eq (n a c : Int) : header_Encode_1.f n a c = some (decide (a ≤ n ∧ n ≤ c)) := by
  unfold header_Encode_1.f
  by_cases h : n ≥ a
  · rw [if_pos h]
    have : a ≤ n := h
    simp [this]
  · rw [if_neg h]
    have : ¬ a ≤ n := h
    simp [this]
theorem enc_ev (t v b s n : Int) (tag : ByteArray) : Ev (fun k => header_Encode.f k t v b s n tag) (encH t v b s n tag) := by
  unfold encH
  by_cases hok : okH t v b s n = true
  · have h := of_decide_eq_true hok
    rw [if_pos hok]
    have e0 : ∀ k, header_Encode.f k t v b s n tag = header_Encode.j0 k false t v b s n tag := by
      intro k
      unfold header_Encode.f
      simp only [in_eq, Option.bind_some]
      rw [if_pos (decide_eq_true (by omega)), if_pos (decide_eq_true (by omega)), if_pos (decide_eq_true (by omega)), if_pos (decide_eq_true (by omega)), decide_eq_true (show 1 ≤ n ∧ n ≤ 1099511627776 by omega)]
      rfl
    refine Ev.congr e0 ?_
    by_cases hz : tag.size = 16
    · rw [if_pos hz]
      exact enc_j0f t v b s n tag hok hz
    · rw [if_neg hz]
      refine Ev.step (f := fun _ => some (([] : List Int), 1)) (fun k => ?_) (Ev.now _)
      simp only [header_Encode.j0]
      rw [if_neg (by decide), if_neg (by omega)]
  · rw [if_neg hok]
    have hno := of_decide_eq_false (by simpa using hok : okH t v b s n = false)
    refine Ev.congr (f := fun k => header_Encode.j0 k true t v b s n tag) (fun k => ?_) (enc_j0t t v b s n tag)
    unfold header_Encode.f
    simp only [in_eq, Option.bind_some]
    by_cases h1 : 1 ≤ t ∧ t ≤ 7
    · rw [if_pos (decide_eq_true h1)]
      by_cases h2 : 0 ≤ v ∧ v ≤ 7
      · rw [if_pos (decide_eq_true h2)]
        by_cases h3 : 0 ≤ b ∧ b ≤ 31
        · rw [if_pos (decide_eq_true h3)]
          by_cases h4 : 0 ≤ s ∧ s ≤ 63
          · rw [if_pos (decide_eq_true h4), decide_eq_false (show ¬ (1 ≤ n ∧ n ≤ 1099511627776) by omega)]
            rfl
          · rw [if_neg (by simpa using h4)]
        · rw [if_neg (by simpa using h3)]
      · rw [if_neg (by simpa using h2)]
    · rw [if_neg (by simpa using h1)]
theorem encH_bytes (t v b s n : Int) (tag : ByteArray) : Bytes (encH t v b s n tag).1 := by
  unfold encH
  split
  · split
    · exact fullS_bytes (bodyH_bytes _ _ _ _ _ _)
    · intro x hx
      cases hx
  · intro x hx
    cases hx
theorem encH_ok {t v b s n : Int} {tag : ByteArray} (h : (encH t v b s n tag).2 = 0) : okH t v b s n = true ∧ tag.size = 16 ∧ encH t v b s n tag = (fullS (bodyH t v b s n tag), 0) := by
  unfold encH at h ⊢
  by_cases h1 : okH t v b s n = true
  · rw [if_pos h1] at h ⊢
    by_cases h2 : tag.size = 16
    · exact ⟨h1, h2, by rw [if_pos h2]⟩
    · rw [if_neg h2] at h
      exact absurd h (by decide)
  · rw [if_neg h1] at h
    exact absurd h (by decide)
theorem full_length {t v b s n : Int} {tag : ByteArray} (hk : tag.size = 16) : (fullS (bodyH t v b s n tag)).length = 64 := by
  unfold fullS
  rw [List.length_append, bodyH_length _ _ _ _ _ _ (by omega), be_length]

/-! ### Decode -/
abbrev HT := Int × Int × Int × Int × Int × ByteArray × Int
def zeroH (e : Int) : HT := (0, 0, 0, 0, 0, (⟨#[]⟩ : ByteArray), e)
def checkH (x : List Int) (t v b s n : Int) (tag : ByteArray) : HT := if (encH t v b s n tag).2 = 0 ∧ (encH t v b s n tag).1 = x then (t, v, b, s, n, tag, 0) else zeroH 2
def verS (x : List Int) : Int := wrap64 (val 0 (seg x 6 14))
def decH (x : List Int) : HT :=
  if x = List.replicate 64 0 then zeroH 4 else if x.length = 64 then checkH x (rd x 2) (rd x 3) (rd x 4) (rd x 5) (verS x) (strOfNums (seg x 14 30)) else zeroH 2
theorem decH_cases (x : List Int) : decH x = zeroH 4 ∧ x = List.replicate 64 0 ∨ decH x = zeroH 2 ∧ x ≠ List.replicate 64 0 ∨ ∃ t v b s n tag, decH x = (t, v, b, s, n, tag, 0) ∧ encH t v b s n tag = (x, 0) := by
  unfold decH
  by_cases h : x = List.replicate 64 0
  · exact .inl ⟨by rw [if_pos h], h⟩
  · rw [if_neg h]
    right
    by_cases h6 : x.length = 64
    · rw [if_pos h6]
      unfold checkH
      by_cases hc : (encH (rd x 2) (rd x 3) (rd x 4) (rd x 5) (verS x) (strOfNums (seg x 14 30))).2 = 0 ∧ (encH (rd x 2) (rd x 3) (rd x 4) (rd x 5) (verS x) (strOfNums (seg x 14 30))).1 = x
      · rw [if_pos hc]
        exact .inr ⟨_, _, _, _, _, _, rfl, Prod.ext hc.2 hc.1⟩
      · rw [if_neg hc]
        exact .inl ⟨rfl, h⟩
    · rw [if_neg h6]
      exact .inl ⟨rfl, h⟩
theorem zeros_bytes : Bytes (List.replicate 64 0) := by
  intro x hx
  have := (List.mem_replicate.1 hx).2
  omega
theorem five_eq (b : List Int) : splitGo ((b.take 14).drop 2) [1, 1, 1, 1, 8] = [val 0 (seg b 2 3), val 0 (seg b 3 4), val 0 (seg b 4 5), val 0 (seg b 5 6), val 0 (seg b 6 14)] := by
  have t1 : (1 : Int).toNat = 1 := rfl
  have t8 : (8 : Int).toNat = 8 := rfl
  simp only [splitGo, t1, t8, List.drop_drop]
  have s (i j n : Nat) (h : i + j + n ≤ 14) := seg_seg b i 14 j n h
  have s0 := seg_seg b 2 14 0 1 (by omega)
  simp only [List.drop_zero, Nat.add_zero] at s0
  have q (i n : Nat) (h : i + n ≤ 14) : ((b.take 14).drop i).take n = seg b i (i + n) := by
    have := seg_seg b i 14 0 n (by omega)
    simpa using this
  rw [q 2 1 (by omega), q (2 + 1) 1 (by omega), q (2 + 1 + 1) 1 (by omega), q (2 + 1 + 1 + 1) 1 (by omega), q (2 + 1 + 1 + 1 + 1) 8 (by omega)]
theorem split_five (b : List Int) (hb : Bytes b) (h : b.length = 64) : Ev (fun k => pack_Split.f k ((b.take 14).drop 2) [1, 1, 1, 1, 8]) ([rd b 2, rd b 3, rd b 4, rd b 5, val 0 (seg b 6 14)], 0) := by
  have hB : Bytes ((b.take 14).drop 2) := fun x hx => hb x (List.mem_of_mem_take (List.mem_of_mem_drop hx))
  have h1 := split_ev ((b.take 14).drop 2) [1, 1, 1, 1, 8] hB
  have hl : ((b.take 14).drop 2).length = 12 := by
    rw [List.length_drop, List.length_take]
    omega
  have e : splitS ((b.take 14).drop 2) [1, 1, 1, 1, 8] = ([rd b 2, rd b 3, rd b 4, rd b 5, val 0 (seg b 6 14)], 0) := by
    rw [splitS_eq, if_neg (by simp), if_pos (by rfl)]
    unfold splitEnd
    have hs : sum [1, 1, 1, 1, 8] = 12 := rfl
    rw [hs, hl, if_neg (by omega), if_neg (by omega), five_eq]
    have c2 := seg_one b 2 (by omega)
    have c3 := seg_one b 3 (by omega)
    have c4 := seg_one b 4 (by omega)
    have c5 := seg_one b 5 (by omega)
    rw [c2, c3, c4, c5]
    rfl
  rw [e] at h1
  exact h1
theorem rd_range {x : List Int} (hx : Bytes x) (i : Nat) (h : i < x.length) : 0 ≤ rd x (i : Int) ∧ rd x (i : Int) < 256 := hx _ (rd_mem x i h)
theorem dec_ev (x : List Int) (hx : Bytes x) : Ev (fun k => header_Decode.f k x) (decH x) := by
  have he0 := eqS hx zeros_bytes
  unfold decH
  by_cases h : x = List.replicate 64 0
  · rw [if_pos h]
    refine Ev.congr (f := fun _ => some (zeroH 4)) (fun k => ?_) (Ev.now _)
    unfold header_Decode.f bytes_Equal.f
    rw [if_pos (by decide), Option.bind_some, if_pos (show ((strOfNums x).toList == (strOfNums (List.replicate 64 0)).toList) = true from beq_iff_eq.mpr (he0.2 h))]
    rfl
  · rw [if_neg h]
    have hne : ¬ ((strOfNums x).toList == (strOfNums (List.replicate 64 0)).toList) = true := fun e => h (he0.1 (beq_iff_eq.mp e))
    by_cases hl : x.length = 64
    · rw [if_pos hl]
      have h2 := rd_range hx 2 (by omega)
      have h3 := rd_range hx 3 (by omega)
      have h4 := rd_range hx 4 (by omega)
      have h5 := rd_range hx 5 (by omega)
      have k2 : ((2 : Nat) : Int) = 2 := rfl
      have k3 : ((3 : Nat) : Int) = 3 := rfl
      have k4 : ((4 : Nat) : Int) = 4 := rfl
      have k5 : ((5 : Nat) : Int) = 5 := rfl
      rw [k2] at h2
      rw [k3] at h3
      rw [k4] at h4
      rw [k5] at h5
      obtain ⟨K1, m1⟩ := split_five x hx hl
      obtain ⟨K2, m2⟩ := enc_ev (rd x 2) (rd x 3) (rd x 4) (rd x 5) (verS x) (strOfNums (seg x 14 30))
      refine ⟨K1 + K2, fun k hk => ?_⟩
      have n1 := m1 k (by omega)
      have n2 := m2 k (by omega)
      dsimp only at n1 n2
      show header_Decode.f k x = _
      unfold header_Decode.f bytes_Equal.f
      rw [if_pos (by decide), Option.bind_some, if_neg hne, if_pos (by omega), if_pos (by decide), if_pos (by omega), n1]
      simp only [Option.bind_some]
      rw [if_pos (by simp), if_pos (by simp), if_pos (by simp), if_pos (by simp), if_pos (by simp), if_pos (by decide), if_pos (by omega)]
      have r0 : rd [rd x 2, rd x 3, rd x 4, rd x 5, val 0 (seg x 6 14)] 0 = rd x 2 := rfl
      have r1 : rd [rd x 2, rd x 3, rd x 4, rd x 5, val 0 (seg x 6 14)] 1 = rd x 3 := rfl
      have r2 : rd [rd x 2, rd x 3, rd x 4, rd x 5, val 0 (seg x 6 14)] 2 = rd x 4 := rfl
      have r3 : rd [rd x 2, rd x 3, rd x 4, rd x 5, val 0 (seg x 6 14)] 3 = rd x 5 := rfl
      have r4 : rd [rd x 2, rd x 3, rd x 4, rd x 5, val 0 (seg x 6 14)] 4 = val 0 (seg x 6 14) := rfl
      rw [r0, r1, r2, r3, r4, wrap64_id (rd x 2) (by omega) (by omega), wrap64_id (rd x 3) (by omega) (by omega), wrap64_id (rd x 4) (by omega) (by omega), wrap64_id (rd x 5) (by omega) (by omega)]
      have n2' : header_Encode.f k (rd x 2) (rd x 3) (rd x 4) (rd x 5) (wrap64 (val 0 (seg x 6 14))) (strOfNums ((x.take 30).drop 14)) = some (encH (rd x 2) (rd x 3) (rd x 4) (rd x 5) (verS x) (strOfNums (seg x 14 30))) := n2
      rw [n2']
      have he := eqS (encH_bytes (rd x 2) (rd x 3) (rd x 4) (rd x 5) (verS x) (strOfNums (seg x 14 30))) hx
      unfold checkH
      simp only [Option.bind_some]
      generalize encH (rd x 2) (rd x 3) (rd x 4) (rd x 5) (verS x) (strOfNums (seg x 14 30)) = e at he ⊢
      by_cases h1 : e.2 = 0
      · rw [if_pos h1]
        by_cases h2 : e.1 = x
        · rw [if_pos (show ((strOfNums e.1).toList == (strOfNums x).toList) = true from beq_iff_eq.mpr (he.2 h2)), if_pos ⟨h1, h2⟩]
          rfl
        · rw [if_neg (show ¬ ((strOfNums e.1).toList == (strOfNums x).toList) = true from fun h => h2 (he.1 (beq_iff_eq.mp h))), if_neg (fun h => h2 h.2)]
          rfl
      · rw [if_neg h1, if_neg (fun h => h1 h.1)]
        rfl
    · rw [if_neg hl]
      refine Ev.congr (f := fun _ => some (zeroH 2)) (fun k => ?_) (Ev.now _)
      unfold header_Decode.f bytes_Equal.f
      rw [if_pos (by decide), Option.bind_some, if_neg hne, if_neg (by omega)]
      rfl
theorem dec_of_enc (t v b s n : Int) (tag : ByteArray) (hok : okH t v b s n = true) (hk : tag.size = 16) : decH (fullS (bodyH t v b s n tag)) = (t, v, b, s, n, tag, 0) := by
  have h := of_decide_eq_true hok
  have hL := bodyH_length t v b s n tag (by omega)
  have hlen : (fullS (bodyH t v b s n tag)).length = 64 := full_length hk
  have hn := fiveS_length t v b s n
  have hb := bytesOf_length tag
  have hx := fullS_bytes (bodyH_bytes t v b s n tag)
  have e14 : (fullS (bodyH t v b s n tag)).take 14 = ([83, 72] : List Int) ++ fiveS t v b s n := by
    unfold fullS bodyH
    rw [List.append_assoc]
    exact take_left_len (by rw [List.length_append, hn]; rfl)
  have e2 : ((fullS (bodyH t v b s n tag)).take 14).drop 2 = fiveS t v b s n := by
    rw [e14]
    exact drop_left_len rfl
  have h5 := five_eq (fullS (bodyH t v b s n tag))
  have p1 : (256 : Int) ^ 1 = 256 := by decide
  have p8 : (256 : Int) ^ 8 = 18446744073709551616 := by decide
  have q1 := splitGo_be t 1 (be v 1 ++ (be b 1 ++ (be s 1 ++ (be n 8 ++ [])))) [1, 1, 1, 8] (by omega) (by omega)
  have q2 := splitGo_be v 1 (be b 1 ++ (be s 1 ++ (be n 8 ++ []))) [1, 1, 8] (by omega) (by omega)
  have q3 := splitGo_be b 1 (be s 1 ++ (be n 8 ++ [])) [1, 8] (by omega) (by omega)
  have q4 := splitGo_be s 1 (be n 8 ++ []) [8] (by omega) (by omega)
  have q5 := splitGo_be n 8 [] [] (by omega) (by omega)
  have ef : fiveS t v b s n = be t 1 ++ (be v 1 ++ (be b 1 ++ (be s 1 ++ (be n 8 ++ [])))) := by
    rw [List.append_nil]
    rfl
  have c1 : ((1 : Nat) : Int) = 1 := rfl
  have c8 : ((8 : Nat) : Int) = 8 := rfl
  rw [c1] at q1 q2 q3 q4
  rw [c8] at q5
  rw [e2, ef, q1, q2, q3, q4, q5] at h5
  simp only [splitGo, List.cons.injEq, and_true] at h5
  obtain ⟨v0, v1, v2, v3, v4⟩ := h5
  have s2 := seg_one (fullS (bodyH t v b s n tag)) 2 (by omega)
  have s3 := seg_one (fullS (bodyH t v b s n tag)) 3 (by omega)
  have s4 := seg_one (fullS (bodyH t v b s n tag)) 4 (by omega)
  have s5 := seg_one (fullS (bodyH t v b s n tag)) 5 (by omega)
  rw [← v0] at s2
  rw [← v1] at s3
  rw [← v2] at s4
  rw [← v3] at s5
  have k2 : ((2 : Nat) : Int) = 2 := rfl
  have k3 : ((3 : Nat) : Int) = 3 := rfl
  have k4 : ((4 : Nat) : Int) = 4 := rfl
  have k5 : ((5 : Nat) : Int) = 5 := rfl
  rw [k2] at s2
  rw [k3] at s3
  rw [k4] at s4
  rw [k5] at s5
  have ever : verS (fullS (bodyH t v b s n tag)) = n := by
    unfold verS
    rw [← v4, wrap64_id _ (by omega) (by omega)]
  have etag : strOfNums (seg (fullS (bodyH t v b s n tag)) 14 30) = tag := by
    have e : seg (fullS (bodyH t v b s n tag)) 14 30 = bytesOf tag := by
      have e5 : (fullS (bodyH t v b s n tag)).take 30 = (([83, 72] : List Int) ++ fiveS t v b s n) ++ bytesOf tag := by
        unfold fullS bodyH
        rw [← List.append_assoc, List.append_assoc _ (List.replicate _ _) _]
        exact take_left_len (by rw [List.length_append, List.length_append, hn, hb, hk]; rfl)
      unfold seg
      rw [e5]
      exact drop_left_len (by rw [List.length_append, hn]; rfl)
    rw [e, str_bytesOf]
  have hnz : fullS (bodyH t v b s n tag) ≠ List.replicate 64 0 := by
    intro e
    have h1 := congrArg (fun l => l[0]?) e
    simp [fullS, bodyH] at h1
  unfold decH
  rw [if_neg hnz, if_pos hlen, ← s2, ← s3, ← s4, ← s5, ever, etag]
  unfold checkH
  have ee : encH t v b s n tag = (fullS (bodyH t v b s n tag), 0) := by
    unfold encH
    rw [if_pos hok, if_pos hk]
  rw [ee, if_pos ⟨rfl, rfl⟩]
/-! ### the simplest facts -/
theorem aw_ok : okH 1 2 3 4 5 = true := by decide
theorem awake_ev : Ev (fun k => stowagelaw18_awake.f k) true := by
  have hk : (⟨#[48, 49, 50, 51, 52, 53, 54, 55, 56, 57, 97, 98, 99, 100, 101, 102]⟩ : ByteArray).size = 16 := rfl
  have h1 := enc_ev 1 2 3 4 5 (⟨#[48, 49, 50, 51, 52, 53, 54, 55, 56, 57, 97, 98, 99, 100, 101, 102]⟩ : ByteArray)
  have ee : encH 1 2 3 4 5 (⟨#[48, 49, 50, 51, 52, 53, 54, 55, 56, 57, 97, 98, 99, 100, 101, 102]⟩ : ByteArray) = (fullS (bodyH 1 2 3 4 5 (⟨#[48, 49, 50, 51, 52, 53, 54, 55, 56, 57, 97, 98, 99, 100, 101, 102]⟩ : ByteArray)), 0) := by
    unfold encH
    rw [if_pos aw_ok, if_pos hk]
  have hl := full_length (t := 1) (v := 2) (b := 3) (s := 4) (n := 5) hk
  have h2 := dec_ev _ (fullS_bytes (bodyH_bytes 1 2 3 4 5 (⟨#[48, 49, 50, 51, 52, 53, 54, 55, 56, 57, 97, 98, 99, 100, 101, 102]⟩ : ByteArray)))
  rw [dec_of_enc _ _ _ _ _ _ aw_ok hk] at h2
  have h3 := dec_ev _ zeros_bytes
  have e3 : decH (List.replicate 64 0) = zeroH 4 := by
    unfold decH
    rw [if_pos rfl]
  rw [e3] at h3
  rw [ee] at h1
  unfold stowagelaw18_awake.f
  refine Ev.bind h1 ?_
  refine Ev.bind h2 ?_
  obtain ⟨K, hK⟩ := h3
  refine ⟨K, fun k hk' => ?_⟩
  have n3 := hK k hk'
  dsimp only at n3
  dsimp only
  rw [if_pos (by decide), n3, Option.bind_some, if_pos rfl, if_pos rfl, if_pos (by rw [hl]; rfl)]
  simp [zeroH, toList_eq]
end Go.Proofs.Ytbidkiacgggpmaa.QHead
