/- What the functions of a line's text come to, in plain terms: any line as a sector, the line that a sector is. -/
import Derived.Test.YtjfdjbmahahllaaQLinex9
import Derived.Test.YtjfdjbmahahllaaPackPlain
import Derived.Test.YtjfdjbmahahllaaCrcPlain
namespace Go.Proofs.Ytjfdjbmahahllaa.QLine
open Go.RowKit Go.Proofs.YtjfdjbmahahllaaW.PrintWords Go.Proofs.YtjfdjbmahahllaaW.PrintLast Go.Proofs.YtjfdjbmahahllaaW.PrintMore Go.Proofs.Ytjfdjbmahahllaa.PackPlain
theorem put_loop (n : Int) : ∀ (d : Nat) (b : List Int), d ≤ 8 → b.length + d ≤ 140737488355328 → Ev (fun k => pack_put.l0 k b n ((d : Int) - 1)) (b ++ be n d)
  | 0, b, _, _ => by
    refine Ev.step (f := fun _ => some b) (fun k => ?_) (by simpa [be] using Ev.now b)
    simp only [pack_put.l0]
    rw [if_neg (by omega)]
  | d + 1, b, hd, hb => by
    have ih := put_loop n d (b ++ [n / 256 ^ d % 256]) (by omega) (by simp; omega)
    have e : (((d + 1 : Nat) : Int) - 1) = (d : Int) := by omega
    simp only [e]
    refine Ev.step (f := fun k => pack_put.l0 k (b ++ [n / 256 ^ d % 256]) n ((d : Int) - 1)) (fun k => ?_) ?_
    · simp only [pack_put.l0]
      rw [if_pos (by omega), if_pos (by rw [wrap64_id _ (by omega) (by omega)]; omega), if_pos (by omega), shr8 n d (by omega), wrap64_id ((d : Int) - 1) (by omega) (by omega)]
    · rw [List.append_assoc] at ih
      exact ih
theorem put_ev (b : List Int) (n s : Int) (hs : okS s = true) (hb : b.length + 8 ≤ 140737488355328) : Ev (fun k => pack_put.f k b n s) (b ++ be n s.toNat) := by
  have h := (okS_iff s).1 hs
  have := put_loop n s.toNat b (by omega) (by omega)
  have e : ((s.toNat : Int) - 1) = wrap64 (s - 1) := by rw [wrap64_id _ (by omega) (by omega)]; omega
  simp only [e] at this
  exact this
theorem fits_eq (n s : Int) (h0 : 0 ≤ n) (h1 : n < 18446744073709551616) (hs : okS s = true) : pack_fits.f n s = some (fitS n s) := by
  have h := (okS_iff s).1 hs
  unfold pack_fits.f
  by_cases h8 : s = 8
  · subst h8
    rw [if_pos rfl, fitS8 n h1]
  · rw [if_neg h8]
    obtain ⟨t, rfl⟩ := Int.eq_ofNat_of_zero_le (show 0 ≤ s by omega)
    rw [if_pos (by rw [wrap64_id _ (by omega) (by omega)]; omega), shr8 n t (by omega)]
    congr 1
    unfold fitS
    rw [Int.toNat_natCast]
    have hp := pow_pos t
    by_cases hf : n < 256 ^ t
    · rw [Int.ediv_eq_zero_of_lt h0 hf]
      simp [hf]
    · have : 1 ≤ n / 256 ^ t := Int.le_ediv_of_mul_le hp (by omega)
      have h2 : n / 256 ^ t ≠ 0 := by omega
      simp [hf, h2]
theorem right_eq (s : Int) : pack_right.f s = some (okS s) := by
  unfold pack_right.f okS
  by_cases h : s ≥ 1
  · rw [if_pos h]
    have : (1 ≤ s) := h
    simp [this]
  · rw [if_neg h]
    have : ¬ (1 ≤ s) := h
    simp [this]

theorem fields_l1 (l z : List Int) (hl : Nums l) (hlz : l.length = z.length) (hm : l.length ≤ 4096) (hz : z.all okS = true) : ∀ (d i : Nat) (out : List Int), i + d = l.length → out.length ≤ 8 * i →
    Ev (fun k => pack_Fields.l1 k z out l (l.length : Int) (i : Int)) (fieldsGo (l.drop i) (z.drop i) out) := by
  intro d
  induction d with
  | zero =>
    intro i out hi ho
    rw [drop_all l i (by omega)]
    refine Ev.step (f := fun _ => some (out, 0)) (fun k => ?_) (by simpa [fieldsGo] using Ev.now (out, (0 : Int)))
    simp only [pack_Fields.l1]
    rw [if_neg (by omega)]
  | succ d ih =>
    intro i out hi ho
    have hil : i < l.length := by omega
    have hiz : i < z.length := by omega
    have hs : okS (rd z (i : Int)) = true := List.all_eq_true.1 hz _ (rd_mem z i hiz)
    obtain ⟨hn0, hn1⟩ := hl _ (rd_mem l i hil)
    rw [drop_rd l i hil, drop_rd z i hiz]
    refine Ev.step (f := fun k => if fitS (rd l (i : Int)) (rd z (i : Int)) = true then (pack_put.f k out (rd l (i : Int)) (rd z (i : Int))).bind fun t => pack_Fields.l1 k z t l (l.length : Int) ((i + 1 : Nat) : Int) else some (([] : List Int), 7)) (fun k => ?_) ?_
    · simp only [pack_Fields.l1]
      rw [if_pos (by omega), if_pos (by omega), if_pos (by omega), if_pos (by omega), fits_eq _ _ hn0 hn1 hs, wrap64_succ i (by omega)]
      rfl
    · simp only [fieldsGo]
      by_cases hf : fitS (rd l (i : Int)) (rd z (i : Int)) = true
      · simp only [hf, if_true]
        have hsr := (okS_iff _).1 hs
        exact Ev.bind (put_ev out _ _ hs (by omega)) (ih (i + 1) _ (by omega) (by simp [be_length]; omega))
      · simp only [hf]
        exact Ev.now _
theorem fields_l0_ok (l z : List Int) {r : List Int × Int} (hm : z.length ≤ 4096) (h : Ev (fun k => pack_Fields.l1 k z [] l (l.length : Int) 0) r) : ∀ (d i : Nat), i + d = z.length → (z.drop i).all okS = true →
    Ev (fun k => pack_Fields.l0 k l z z (z.length : Int) (i : Int)) r := by
  intro d
  induction d with
  | zero =>
    intro i hi ha
    refine Ev.step (f := fun k => pack_Fields.l1 k z [] l (l.length : Int) 0) (fun k => ?_) h
    simp only [pack_Fields.l0]
    rw [if_neg (by omega)]
  | succ d ih =>
    intro i hi ha
    have hiz : i < z.length := by omega
    rw [drop_rd z i hiz, List.all_cons, Bool.and_eq_true] at ha
    refine Ev.step (f := fun k => pack_Fields.l0 k l z z (z.length : Int) ((i + 1 : Nat) : Int)) (fun k => ?_) (ih (i + 1) (by omega) ha.2)
    simp only [pack_Fields.l0]
    rw [if_pos (by omega), if_pos (by omega), if_pos (by omega), right_eq, ha.1, wrap64_succ i (by omega)]
    rfl
theorem fields_l0_no (l z : List Int) (hm : z.length ≤ 4096) : ∀ (d i : Nat), i + d = z.length → (z.drop i).all okS = false →
    Ev (fun k => pack_Fields.l0 k l z z (z.length : Int) (i : Int)) (([] : List Int), 1) := by
  intro d
  induction d with
  | zero =>
    intro i hi ha
    rw [drop_all z i (by omega)] at ha
    cases ha
  | succ d ih =>
    intro i hi ha
    have hiz : i < z.length := by omega
    rw [drop_rd z i hiz, List.all_cons] at ha
    by_cases hs : okS (rd z (i : Int)) = true
    · rw [hs, Bool.true_and] at ha
      refine Ev.step (f := fun k => pack_Fields.l0 k l z z (z.length : Int) ((i + 1 : Nat) : Int)) (fun k => ?_) (ih (i + 1) (by omega) ha)
      simp only [pack_Fields.l0]
      rw [if_pos (by omega), if_pos (by omega), if_pos (by omega), right_eq, hs, wrap64_succ i (by omega)]
      rfl
    · have hs' : okS (rd z (i : Int)) = false := by simpa using hs
      refine Ev.step (f := fun _ => some (([] : List Int), 1)) (fun k => ?_) (Ev.now _)
      simp only [pack_Fields.l0]
      rw [if_pos (by omega), if_pos (by omega), if_pos (by omega), right_eq, hs']
      rfl
theorem fields_ev (l z : List Int) (hl : Nums l) : Ev (fun k => pack_Fields.f k l z) (fieldsS l z) := by
  unfold fieldsS
  by_cases h1 : l.length = z.length
  · have e1 : (l.length : Int) = (z.length : Int) := by omega
    by_cases h2 : l.length ≤ 4096
    · by_cases h3 : z.all okS = true
      · rw [if_pos ⟨h1, h2, h3⟩]
        have hg := fields_l0_ok l z (by omega) (by simpa using fields_l1 l z hl h1 h2 h3 l.length 0 [] (by omega) (by simp)) z.length 0 (by omega) (by simpa using h3)
        refine Ev.congr (f := fun k => pack_Fields.j0 k l z false) (fun k => ?_) (Ev.step (f := fun k => pack_Fields.l0 k l z z (z.length : Int) 0) (fun k => ?_) hg)
        · unfold pack_Fields.f
          rw [if_pos e1, decide_eq_false (by omega)]
        · simp [pack_Fields.j0]
      · have h3' : z.all okS = false := by simpa using h3
        rw [if_neg (fun h => h3 h.2.2)]
        have hg := fields_l0_no l z (by omega) z.length 0 (by omega) (by simpa using h3')
        refine Ev.congr (f := fun k => pack_Fields.j0 k l z false) (fun k => ?_) (Ev.step (f := fun k => pack_Fields.l0 k l z z (z.length : Int) 0) (fun k => ?_) hg)
        · unfold pack_Fields.f
          rw [if_pos e1, decide_eq_false (by omega)]
        · simp [pack_Fields.j0]
    · rw [if_neg (fun h => h2 h.2.1)]
      refine Ev.congr (f := fun k => pack_Fields.j0 k l z true) (fun k => ?_) (Ev.step (f := fun _ => some (([] : List Int), 1)) (fun k => ?_) (Ev.now _))
      · unfold pack_Fields.f
        rw [if_pos e1, decide_eq_true (by omega)]
      · simp [pack_Fields.j0]
  · rw [if_neg (fun h => h1 h.1)]
    refine Ev.congr (f := fun k => pack_Fields.j0 k l z true) (fun k => ?_) (Ev.step (f := fun _ => some (([] : List Int), 1)) (fun k => ?_) (Ev.now _))
    · unfold pack_Fields.f
      rw [if_neg (by omega)]
    · simp [pack_Fields.j0]
theorem get_loop (l : List Int) (hb : Bytes l) (hl : l.length ≤ 8) : ∀ (d i : Nat) (a : Int), i + d = l.length → 0 ≤ a → a < 256 ^ i → Ev (fun k => pack_get.l0 k a l (l.length : Int) (i : Int)) (val a (l.drop i)) := by
  intro d
  induction d with
  | zero =>
    intro i a hi h0 h1
    rw [drop_all l i (by omega)]
    refine Ev.step (f := fun _ => some a) (fun k => ?_) (Ev.now _)
    simp only [pack_get.l0]
    rw [if_neg (by omega)]
  | succ d ih =>
    intro i a hi h0 h1
    have hil : i < l.length := by omega
    obtain ⟨hx0, hx1⟩ := hb _ (rd_mem l i hil)
    have hp := pow_le8 (i + 1) (by omega)
    rw [Int.pow_succ] at hp
    rw [drop_rd l i hil]
    refine Ev.step (f := fun k => pack_get.l0 k (a * 256 + rd l (i : Int)) l (l.length : Int) ((i + 1 : Nat) : Int)) (fun k => ?_) (ih (i + 1) _ (by omega) (by omega) (by rw [Int.pow_succ]; omega))
    simp only [pack_get.l0]
    rw [if_pos (by omega), if_pos (by omega), if_pos (by omega), or_byte a _ h0 (by omega) hx0 hx1, wrap64_succ i (by omega)]
theorem get_ev (l : List Int) (hb : Bytes l) (hl : l.length ≤ 8) : Ev (fun k => pack_get.f k l) (val 0 l) := by
  have := get_loop l hb hl l.length 0 0 (by omega) (by omega) (by simp)
  exact Ev.congr (f := fun k => pack_get.l0 k 0 l (l.length : Int) 0) (fun k => rfl) (by simpa using this)
theorem sum_eq : ∀ (z : List Int) (a : Int), z.foldl (· + ·) a = a + sum z
  | [], a => by simp [sum]
  | s :: z, a => by
    have h1 := sum_eq z (a + s)
    have h2 := sum_eq z (0 + s)
    simp only [sum, List.foldl_cons] at *
    omega
theorem sum_cons (s : Int) (z : List Int) : sum (s :: z) = s + sum z := by
  have := sum_eq z (0 + s)
  simp only [sum, List.foldl_cons] at *
  omega
theorem sum_range : ∀ (z : List Int), z.all okS = true → 0 ≤ sum z ∧ sum z ≤ 8 * z.length
  | [], _ => by simp [sum]
  | s :: z, h => by
    rw [List.all_cons, Bool.and_eq_true] at h
    have h1 := (okS_iff s).1 h.1
    have h2 := sum_range z h.2
    rw [sum_cons]
    simp only [List.length_cons]
    omega
theorem split_l1 (z : List Int) (hm : z.length ≤ 4096) : ∀ (d i : Nat) (b out : List Int), Bytes b → i + d = z.length → (z.drop i).all okS = true → sum (z.drop i) = b.length → out.length ≤ i →
    Ev (fun k => pack_Split.l1 k b out z (z.length : Int) (i : Int)) (out ++ splitGo b (z.drop i), 0) := by
  intro d
  induction d with
  | zero =>
    intro i b out hb hi ha hs ho
    rw [drop_all z i (by omega)]
    refine Ev.step (f := fun _ => some (out, 0)) (fun k => ?_) (by simpa [splitGo] using Ev.now (out, (0 : Int)))
    simp only [pack_Split.l1]
    rw [if_neg (by omega)]
  | succ d ih =>
    intro i b out hb hi ha hs ho
    have hiz : i < z.length := by omega
    rw [drop_rd z i hiz, List.all_cons, Bool.and_eq_true] at ha
    rw [drop_rd z i hiz, sum_cons] at hs
    have hsr := (okS_iff _).1 ha.1
    have hsum := sum_range _ ha.2
    rw [drop_rd z i hiz]
    simp only [splitGo]
    have hg := get_ev (b.take (rd z (i : Int)).toNat) (fun x hx => hb x (List.mem_of_mem_take hx)) (by simp; omega)
    have hr := ih (i + 1) (b.drop (rd z (i : Int)).toNat) (out ++ [val 0 (b.take (rd z (i : Int)).toNat)]) (fun x hx => hb x (List.mem_of_mem_drop hx)) (by omega) ha.2 (by simp; omega) (by simp; omega)
    refine Ev.step (f := fun k => (pack_get.f k (b.take (rd z (i : Int)).toNat)).bind fun t => if out.length < 17592186044416 then pack_Split.l1 k (b.drop (rd z (i : Int)).toNat) (out ++ [t]) z (z.length : Int) ((i + 1 : Nat) : Int) else none) (fun k => ?_) (Ev.bind hg ?_)
    · simp only [pack_Split.l1]
      rw [if_pos (by omega), if_pos (by omega), if_pos (by omega), if_pos (by omega), if_pos (by omega), wrap64_succ i (by omega)]
    · have e : out.length < 17592186044416 := by omega
      simp only [e, if_true]
      rw [List.append_assoc] at hr
      exact hr
def splitEnd (b z : List Int) : List Int × Int := if (b.length : Int) < sum z then ([], 3) else if (b.length : Int) > sum z then ([], 2) else (splitGo b z, 0)
theorem split_l0 (b z : List Int) (hb : Bytes b) (hm : z.length ≤ 4096) : ∀ (d i : Nat) (a : Int), i + d = z.length → (z.take i).all okS = true → a = sum (z.take i) →
    Ev (fun k => pack_Split.l0 k b z a z (z.length : Int) (i : Int)) (if z.all okS = true then splitEnd b z else ([], 1)) := by
  intro d
  induction d with
  | zero =>
    intro i a hi ha hs
    rw [List.take_of_length_le (by omega)] at ha hs
    rw [if_pos ha]
    subst hs
    unfold splitEnd
    by_cases h1 : (b.length : Int) < sum z
    · rw [if_pos h1]
      refine Ev.step (f := fun _ => some (([] : List Int), 3)) (fun k => ?_) (Ev.now _)
      simp only [pack_Split.l0]
      rw [if_neg (by omega), if_pos h1]
    · by_cases h2 : (b.length : Int) > sum z
      · rw [if_neg h1, if_pos h2]
        refine Ev.step (f := fun _ => some (([] : List Int), 2)) (fun k => ?_) (Ev.now _)
        simp only [pack_Split.l0]
        rw [if_neg (by omega), if_neg h1, if_pos h2]
      · rw [if_neg h1, if_neg h2]
        have := split_l1 z hm z.length 0 b [] hb (by omega) (by simpa using ha) (by simp; omega) (by simp)
        refine Ev.step (f := fun k => pack_Split.l1 k b [] z (z.length : Int) 0) (fun k => ?_) (by simpa using this)
        simp only [pack_Split.l0]
        rw [if_neg (by omega), if_neg h1, if_neg h2]
  | succ d ih =>
    intro i a hi ha hs
    have hiz : i < z.length := by omega
    have hr0 := sum_range _ ha
    have hlen : (z.take i).length ≤ i := List.length_take_le _ _
    by_cases hk : okS (rd z (i : Int)) = true
    · have hsr := (okS_iff _).1 hk
      have es : sum (z.take (i + 1)) = sum (z.take i) + rd z (i : Int) := by
        rw [take_rd z i hiz]
        have := sum_eq [rd z (i : Int)] (sum (z.take i))
        simp only [sum, List.foldl_append, List.foldl_cons, List.foldl_nil] at *
      have := ih (i + 1) (a + rd z (i : Int)) (by omega) (by rw [take_rd z i hiz, List.all_append, ha]; simp [hk]) (by rw [es, hs])
      refine Ev.step (f := fun k => pack_Split.l0 k b z (a + rd z (i : Int)) z (z.length : Int) ((i + 1 : Nat) : Int)) (fun k => ?_) this
      simp only [pack_Split.l0]
      rw [if_pos (by omega), if_pos (by omega), if_pos (by omega), right_eq, hk, wrap64_succ i (by omega), wrap64_id (a + rd z (i : Int)) (by omega) (by omega)]
      rfl
    · have hk' : okS (rd z (i : Int)) = false := by simpa using hk
      rw [if_neg (fun hc => hk (List.all_eq_true.1 hc _ (rd_mem z i hiz)))]
      refine Ev.step (f := fun _ => some (([] : List Int), 1)) (fun k => ?_) (Ev.now _)
      simp only [pack_Split.l0]
      rw [if_pos (by omega), if_pos (by omega), if_pos (by omega), right_eq, hk']
      rfl
theorem splitS_eq (b z : List Int) : splitS b z = if (z.length : Int) > 4096 then ([], 1) else if z.all okS = true then splitEnd b z else ([], 1) := rfl
theorem split_ev (b z : List Int) (hb : Bytes b) : Ev (fun k => pack_Split.f k b z) (splitS b z) := by
  rw [splitS_eq]
  by_cases h : (z.length : Int) > 4096
  · rw [if_pos h]
    refine Ev.congr (f := fun _ => some (([] : List Int), 1)) (fun k => ?_) (Ev.now _)
    unfold pack_Split.f
    rw [if_pos h]
  · rw [if_neg h]
    refine Ev.congr (f := fun k => pack_Split.l0 k b z 0 z (z.length : Int) ((0 : Nat) : Int)) (fun k => ?_) (split_l0 b z hb (by omega) z.length 0 0 (by omega) (by simp) (by simp [sum]))
    unfold pack_Split.f
    rw [if_neg h]
    rfl
namespace Cr
open Go.Proofs.Ytjfdjbmahahllaa.CrcPlain
theorem and_one (r : Nat) (h : r < 4294967296) : Go.bits .and .u32 (r : Int) 1 = ((r % 2 : Nat) : Int) := by
  have := u32_and_nat r 1 h (by decide)
  rw [nat_mask1] at this
  exact this
theorem xor_nat (a b : Nat) (ha : a < 4294967296) (hb : b < 4294967296) : Go.bits .xor .u32 (a : Int) (b : Int) = ((a ^^^ b : Nat) : Int) := u32_xor_nat a b ha hb
theorem stepI_nat (r : Nat) (h : r < 4294967296) : stepI (r : Int) = ((st r : Nat) : Int) := by
  unfold stepI st
  rw [and_one r h, show (r : Int) / 2 = ((r / 2 : Nat) : Int) by omega]
  by_cases hr : r % 2 = 1
  · rw [if_pos (by omega), if_pos hr]
    exact xor_nat (r / 2) poly (by omega) (by decide)
  · rw [if_neg (by omega), if_neg hr]
theorem iterI_nat (r : Nat) (h : r < 4294967296) : ∀ n, iterI n (r : Int) = ((sts n r : Nat) : Int)
  | 0 => rfl
  | n + 1 => by simp only [iterI, sts]; rw [iterI_nat r h n, stepI_nat _ (sts_lt h n)]
theorem tabT_nat (j : Nat) (h : j < 4294967296) : tabT j = ((sts 8 j : Nat) : Int) := iterI_nat j h 8
theorem moreStep_nat (r b : Nat) (hr : r < 4294967296) (hb : b < 256) : moreStep (r : Int) (b : Int) = ((addB r b : Nat) : Int) := by
  unfold moreStep
  rw [show (r : Int) % 256 = ((r % 256 : Nat) : Int) by omega, u8_xor_nat (r % 256) b (by omega) hb, Int.toNat_natCast]
  have hx : r % 256 ^^^ b < 256 := Nat.xor_lt_two_pow (n := 8) (by omega) hb
  rw [tabT_nat _ (by omega), show (r : Int) / 256 = ((r / 256 : Nat) : Int) by omega, xor_nat _ _ (by omega) (sts_lt (by omega) 8), addB_table r b hb]
def Bytes (l : List Int) : Prop := ∀ x ∈ l, 0 ≤ x ∧ x < 256
def nl (l : List Int) : List Nat := l.map Int.toNat
theorem nl_lt {l : List Int} (h : Bytes l) : ∀ b ∈ nl l, b < 256 := by
  intro b hb
  obtain ⟨x, hx, rfl⟩ := List.mem_map.1 hb
  have := h x hx
  omega
theorem fold_nat : ∀ (l : List Int) (r : Nat), r < 4294967296 → Bytes l → l.foldl moreStep (r : Int) = ((reg r (nl l) : Nat) : Int)
  | [], _, _, _ => rfl
  | x :: l, r, hr, hl => by
    have hx := hl x List.mem_cons_self
    have e : x = ((x.toNat : Nat) : Int) := by omega
    have hb : x.toNat < 256 := by omega
    have ih := fold_nat l (addB r x.toNat) (addB_lt hr hb) (fun y hy => hl y (List.mem_cons_of_mem _ hy))
    rw [List.foldl_cons]
    conv => lhs; rw [e, moreStep_nat r x.toNat hr hb]
    exact ih
theorem max_u32 : IntKind.u32.max = ((ones : Nat) : Int) := rfl
theorem not_nat (x : Nat) (h : x < 4294967296) : Go.bits .xor .u32 IntKind.u32.max (x : Int) = ((not_ x : Nat) : Int) := by
  rw [max_u32]
  exact xor_nat ones x (by decide) h
theorem more_eq (s : Nat) (l : List Int) (hs : s < 4294967296) (hl : Bytes l) : crc_More.f (s : Int) l = some ((more s (nl l) : Nat) : Int) := by
  unfold crc_More.f
  rw [not_nat s hs, fold_nat l _ (not_lt hs) hl, not_nat _ (reg_lt _ _ (not_lt hs) (nl_lt hl))]
  rfl
theorem more_lt {s : Nat} {l : List Int} (hs : s < 4294967296) (hl : Bytes l) : more s (nl l) < 4294967296 := not_lt (reg_lt _ _ (not_lt hs) (nl_lt hl))
theorem sum_eq (l : List Int) (hl : Bytes l) : crc_Sum.f l = some ((more 0 (nl l) : Nat) : Int) := by
  unfold crc_Sum.f
  have := more_eq 0 l (by decide) hl
  rw [show ((0 : Nat) : Int) = 0 from rfl] at this
  rw [this]
  rfl
end Cr

/-! ### Encode -/
theorem mn_neg (a b : Int) : mn a b < 0 ↔ a < 0 ∨ b < 0 := by
  unfold mn
  split <;> omega
theorem mx_gt (a b m : Int) : mx a b > m ↔ a > m ∨ b > m := by
  unfold mx
  split <;> omega
def okL (g s kd a b c d : Int) : Bool := decide (0 ≤ g ∧ g ≤ 2147483647 ∧ 0 ≤ s ∧ s ≤ 2147483647 ∧ 0 ≤ kd ∧ kd ≤ 9 ∧ 0 ≤ a ∧ a ≤ 1099511627776 ∧ 0 ≤ b ∧ b ≤ 1099511627776 ∧ 0 ≤ c ∧ c ≤ 1099511627776 ∧ 0 ≤ d ∧ d ≤ 1099511627776)
def nineS (g s l kd a b c d z : Int) : List Int := be g 4 ++ (be s 4 ++ (be l 1 ++ (be kd 1 ++ (be a 7 ++ (be b 7 ++ (be c 7 ++ (be d 7 ++ be z 1)))))))
def l01 (last : Bool) : Int := if last = true then 1 else 0
def bodyS (g s : Int) (last : Bool) (kd a b c d : Int) (key : ByteArray) : List Int :=
  (([83, 76] : List Int) ++ nineS g s (l01 last) kd a b c d (key.size : Int)) ++ (bytesOf key ++ List.replicate (19 - key.size) 0)
def crcI (l : List Int) : Int := ((Go.Proofs.Ytjfdjbmahahllaa.CrcPlain.more 0 (Cr.nl l) : Nat) : Int)
def fullS (l : List Int) : List Int := l ++ be (crcI l) 4
def encS (g s : Int) (last : Bool) (kd a b c d : Int) (key : ByteArray) : List Int × Int :=
  if okL g s kd a b c d = true then (if key.size = 0 ∨ key.size = 16 then (fullS (bodyS g s last kd a b c d key), 0) else ([], 1)) else ([], 7)
theorem nineS_length (g s l kd a b c d z : Int) : (nineS g s l kd a b c d z).length = 39 := by simp [nineS, be_length]
theorem nineS_bytes (g s l kd a b c d z : Int) : Bytes (nineS g s l kd a b c d z) := by
  intro x hx
  simp only [nineS, List.mem_append] at hx
  rcases hx with h | h | h | h | h | h | h | h | h <;> exact be_bytes _ _ x h
theorem bytesOf_bytes (s : ByteArray) : Bytes (bytesOf s) := by
  intro x hx
  obtain ⟨u, _, rfl⟩ := List.mem_map.1 hx
  have := u.toNat_lt
  omega
theorem bodyS_bytes (g s : Int) (last : Bool) (kd a b c d : Int) (key : ByteArray) : Bytes (bodyS g s last kd a b c d key) := by
  intro x hx
  simp only [bodyS, List.mem_append, List.mem_cons, List.mem_replicate] at hx
  rcases hx with (h | h) | h | h
  · rcases h with h | h | h
    · omega
    · omega
    · cases h
  · exact nineS_bytes _ _ _ _ _ _ _ _ _ x h
  · exact bytesOf_bytes _ x h
  · omega
theorem bodyS_length (g s : Int) (last : Bool) (kd a b c d : Int) (key : ByteArray) (h : key.size ≤ 19) : (bodyS g s last kd a b c d key).length = 60 := by
  simp [bodyS, nineS_length, bytesOf_length]
  omega
theorem crcI_range (l : List Int) (h : Bytes l) : 0 ≤ crcI l ∧ crcI l < 4294967296 := by
  have := Cr.more_lt (s := 0) (l := l) (by decide) h
  unfold crcI
  omega
theorem must_ev (l z r : List Int) (hl : Nums l) (h : fieldsS l z = (r, 0)) (h0 : 0 < r.length) : Ev (fun k => pack_Must.f k l z) r := by
  have h1 := fields_ev l z hl
  rw [h] at h1
  refine Ev.bind h1 ?_
  refine Ev.congr (f := fun _ => some r) (fun k => ?_) (Ev.now r)
  dsimp only
  rw [if_pos rfl, if_neg (by omega)]
theorem fit_lt (n : Int) (s : Int) (m : Int) (hm : (256 : Int) ^ s.toNat = m) (h : n < m) : fitS n s = true := by
  unfold fitS
  rw [hm]
  exact decide_eq_true h
theorem must_nine (g s l kd a b c d z : Int) (hok : okL g s kd a b c d = true) (hl : 0 ≤ l ∧ l ≤ 1) (hz : 0 ≤ z ∧ z ≤ 16) :
    Ev (fun k => pack_Must.f k [g, s, l, kd, a, b, c, d, z] [4, 4, 1, 1, 7, 7, 7, 7, 1]) (nineS g s l kd a b c d z) := by
  have h := of_decide_eq_true hok
  refine must_ev _ _ _ ?_ ?_ (by rw [nineS_length]; omega)
  · intro x hx
    simp only [List.mem_cons, List.not_mem_nil, or_false] at hx
    omega
  · unfold fieldsS
    rw [if_pos ⟨rfl, by simp, by rfl⟩]
    have e4 : (256 : Int) ^ (4 : Int).toNat = 4294967296 := by decide
    have e1 : (256 : Int) ^ (1 : Int).toNat = 256 := by decide
    have e7 : (256 : Int) ^ (7 : Int).toNat = 72057594037927936 := by decide
    have f1 := fit_lt g 4 _ e4 (by omega)
    have f2 := fit_lt s 4 _ e4 (by omega)
    have f3 := fit_lt l 1 _ e1 (by omega)
    have f4 := fit_lt kd 1 _ e1 (by omega)
    have f5 := fit_lt a 7 _ e7 (by omega)
    have f6 := fit_lt b 7 _ e7 (by omega)
    have f7 := fit_lt c 7 _ e7 (by omega)
    have f8 := fit_lt d 7 _ e7 (by omega)
    have f9 := fit_lt z 1 _ e1 (by omega)
    simp only [fieldsGo, f1, f2, f3, f4, f5, f6, f7, f8, f9, if_true, List.nil_append, List.append_assoc, nineS]
    rfl
theorem must_one (n : Int) (h : 0 ≤ n ∧ n < 4294967296) : Ev (fun k => pack_Must.f k [n] [4]) (be n 4) := by
  refine must_ev _ _ _ ?_ ?_ (by rw [be_length]; omega)
  · intro x hx
    simp only [List.mem_cons, List.not_mem_nil, or_false] at hx
    omega
  · unfold fieldsS
    rw [if_pos ⟨rfl, by simp, by rfl⟩]
    have f1 := fit_lt n 4 _ (show (256 : Int) ^ (4 : Int).toNat = 4294967296 by decide) (by omega)
    simp only [fieldsGo, f1, if_true, List.nil_append]
    rfl
theorem enc_j2 (g s : Int) (last : Bool) (kd a b c d : Int) (key : ByteArray) (hok : okL g s kd a b c d = true) (hk : key.size = 0 ∨ key.size = 16) :
    Ev (fun k => line_Encode.j2 k (l01 last) g s last kd a b c d key kd a b c d key) (fullS (bodyS g s last kd a b c d key), 0) := by
  have h := of_decide_eq_true hok
  have hl : 0 ≤ l01 last ∧ l01 last ≤ 1 := by unfold l01; split <;> omega
  have hB := bodyS_bytes g s last kd a b c d key
  have hL := bodyS_length g s last kd a b c d key (by omega)
  have hcr := crcI_range _ hB
  obtain ⟨K1, m1⟩ := must_nine g s (l01 last) kd a b c d (key.size : Int) hok hl (by omega)
  obtain ⟨K2, m2⟩ := must_one (crcI (bodyS g s last kd a b c d key)) hcr
  refine ⟨max K1 K2 + 1, fun k hk' => ?_⟩
  obtain ⟨m, rfl⟩ : ∃ m, k = m + 1 := ⟨k - 1, by omega⟩
  have n1 := m1 m (by omega)
  have n2 := m2 m (by omega)
  dsimp only at n1 n2
  have hn := nineS_length g s (l01 last) kd a b c d (key.size : Int)
  have hs := Cr.sum_eq _ hB
  have hb := bytesOf_length key
  simp only [line_Encode.j2, Option.bind_some, line_sizes.f]
  rw [u64_id g (by omega) (by omega), u64_id s (by omega) (by omega), u64_id kd (by omega) (by omega), u64_id a (by omega) (by omega), u64_id b (by omega) (by omega), u64_id c (by omega) (by omega), u64_id d (by omega) (by omega), u64_id (key.size : Int) (by omega) (by omega), n1]
  simp only [Option.bind_some]
  have e41 : ((([83, 76] : List Int) ++ nineS g s (l01 last) kd a b c d (key.size : Int)) ++ bytesOf key).length = 41 + key.size := by
    rw [List.length_append, List.length_append, hn, hb]
    rfl
  have ew : wrap64 (60 - (((([83, 76] : List Int) ++ nineS g s (l01 last) kd a b c d (key.size : Int)) ++ bytesOf key).length : Int)) = 19 - (key.size : Int) := by
    rw [e41, wrap64_id _ (by omega) (by omega)]
    omega
  have et : (19 - (key.size : Int)).toNat = 19 - key.size := by omega
  have ebody : ((([83, 76] : List Int) ++ nineS g s (l01 last) kd a b c d (key.size : Int)) ++ bytesOf key) ++ List.replicate (19 - key.size) 0 = bodyS g s last kd a b c d key := by
    rw [bodyS, List.append_assoc]
  rw [if_pos (by rw [hn]; simp), if_pos (by rw [List.length_append, hn]; simp; omega), ew, if_pos (by omega), et, if_pos (by rw [e41]; omega), ebody, hs]
  simp only [Option.bind_some]
  have n2' : pack_Must.f m [IntKind.u64.wrap ((Go.Proofs.Ytjfdjbmahahllaa.CrcPlain.more 0 (Cr.nl (bodyS g s last kd a b c d key)) : Nat) : Int)] [4] = some (be (crcI (bodyS g s last kd a b c d key)) 4) := by
    rw [u64_id _ (by omega) (by unfold crcI at hcr; omega)]
    exact n2
  rw [n2']
  simp only [Option.bind_some]
  rw [if_pos (by rw [hL, be_length]; omega)]
  rfl
theorem enc_j0t (g s : Int) (last : Bool) (kd a b c d : Int) (key : ByteArray) : Ev (fun k => line_Encode.j0 k true g s last kd a b c d key kd a b c d key) ([], 7) := by
  refine Ev.step (f := fun _ => some (([] : List Int), 7)) (fun k => ?_) (Ev.now _)
  simp only [line_Encode.j0]
  rfl
theorem enc_j1t (g s : Int) (last : Bool) (kd a b c d : Int) (key : ByteArray) : Ev (fun k => line_Encode.j1 k true g s last kd a b c d key kd a b c d key) ([], 1) := by
  refine Ev.step (f := fun _ => some (([] : List Int), 1)) (fun k => ?_) (Ev.now _)
  simp only [line_Encode.j1]
  rfl
theorem enc_j1f (g s : Int) (last : Bool) (kd a b c d : Int) (key : ByteArray) (hok : okL g s kd a b c d = true) (hk : key.size = 0 ∨ key.size = 16) :
    Ev (fun k => line_Encode.j1 k false g s last kd a b c d key kd a b c d key) (fullS (bodyS g s last kd a b c d key), 0) := by
  refine Ev.step (f := fun k => line_Encode.j2 k (l01 last) g s last kd a b c d key kd a b c d key) (fun k => ?_) (enc_j2 g s last kd a b c d key hok hk)
  simp only [line_Encode.j1]
  rw [if_neg (by decide)]
  cases last
  · rw [if_neg (by decide)]
    rfl
  · rw [if_pos rfl]
    rfl
theorem enc_ev (g s : Int) (last : Bool) (kd a b c d : Int) (key : ByteArray) : Ev (fun k => line_Encode.f k g s last kd a b c d key) (encS g s last kd a b c d key) := by
  unfold encS
  have bad : okL g s kd a b c d = false → Ev (fun k => line_Encode.f k g s last kd a b c d key) ([], 7) := by
    intro hno
    have hno' := of_decide_eq_false hno
    refine Ev.congr (f := fun k => line_Encode.j0 k true g s last kd a b c d key kd a b c d key) (fun k => ?_) (enc_j0t g s last kd a b c d key)
    unfold line_Encode.f
    by_cases h1 : (mn (mn (mn (mn (mn (mn g s) kd) a) b) c) d) < 0
    · rw [if_pos h1]
    · rw [if_neg h1]
      by_cases h2 : (mx g s) > 2147483647
      · rw [if_pos h2]
      · rw [if_neg h2]
        by_cases h3 : kd > 9
        · rw [if_pos h3]
        · rw [if_neg h3, decide_eq_true]
          simp only [mn_neg, mx_gt] at h1 h2 ⊢
          omega
  by_cases hok : okL g s kd a b c d = true
  · have h := of_decide_eq_true hok
    rw [if_pos hok]
    have e0 : ∀ k, line_Encode.f k g s last kd a b c d key = line_Encode.j0 k false g s last kd a b c d key kd a b c d key := by
      intro k
      unfold line_Encode.f
      rw [if_neg (by simp only [mn_neg]; omega), if_neg (by simp only [mx_gt]; omega), if_neg (by omega), decide_eq_false (by simp only [mx_gt]; omega)]
    refine Ev.congr e0 ?_
    by_cases hz : key.size = 0
    · rw [if_pos (Or.inl hz)]
      refine Ev.step (f := fun k => line_Encode.j1 k false g s last kd a b c d key kd a b c d key) (fun k => ?_) (enc_j1f g s last kd a b c d key hok (Or.inl hz))
      simp only [line_Encode.j0]
      rw [if_neg (by decide), if_pos (by omega)]
    · by_cases h16 : key.size = 16
      · rw [if_pos (Or.inr h16)]
        refine Ev.step (f := fun k => line_Encode.j1 k false g s last kd a b c d key kd a b c d key) (fun k => ?_) (enc_j1f g s last kd a b c d key hok (Or.inr h16))
        simp only [line_Encode.j0]
        have e : ((key.size : Int) != 16) = false := by
          rw [h16]
          rfl
        rw [if_neg (by decide), if_neg (by omega), e]
      · rw [if_neg (by omega)]
        refine Ev.step (f := fun k => line_Encode.j1 k true g s last kd a b c d key kd a b c d key) (fun k => ?_) (enc_j1t g s last kd a b c d key)
        simp only [line_Encode.j0]
        have e : ((key.size : Int) != 16) = true := by
          rw [bne_iff_ne]
          omega
        rw [if_neg (by decide), if_neg (by omega), e]
  · rw [if_neg hok]
    exact bad (by simpa using hok)

/-! ### Decode -/
def seg (b : List Int) (i j : Nat) : List Int := (b.take j).drop i
def zero10 : Int × Int × Bool × Int × Int × Int × Int × Int × ByteArray × Int := (0, 0, false, 0, 0, 0, 0, 0, (⟨#[]⟩ : ByteArray), 2)
def checkS (b : List Int) (g s : Int) (last : Bool) (kd a b1 c d : Int) (key : ByteArray) : Int × Int × Bool × Int × Int × Int × Int × Int × ByteArray × Int :=
  if (encS g s last kd a b1 c d key).2 = 0 ∧ (encS g s last kd a b1 c d key).1 = b then (g, s, last, kd, a, b1, c, d, key, 0) else zero10
def keyS (b : List Int) : ByteArray := if val 0 (seg b 40 41) = 16 then strOfNums (seg b 41 57) else (⟨#[]⟩ : ByteArray)
def decS (b : List Int) : Int × Int × Bool × Int × Int × Int × Int × Int × ByteArray × Int :=
  if b.length = 64 then checkS b (val 0 (seg b 2 6)) (val 0 (seg b 6 10)) (val 0 (seg b 10 11) == 1) (val 0 (seg b 11 12)) (val 0 (seg b 12 19)) (val 0 (seg b 19 26)) (val 0 (seg b 26 33)) (val 0 (seg b 33 40)) (keyS b) else zero10
theorem fullS_bytes {l : List Int} (h : Bytes l) : Bytes (fullS l) := by
  intro x hx
  rcases List.mem_append.1 hx with hx | hx
  · exact h x hx
  · exact be_bytes _ _ x hx
theorem encS_bytes (g s : Int) (last : Bool) (kd a b c d : Int) (key : ByteArray) : Bytes (encS g s last kd a b c d key).1 := by
  unfold encS
  split
  · split
    · exact fullS_bytes (bodyS_bytes _ _ _ _ _ _ _ _ _)
    · intro x hx
      cases hx
  · intro x hx
    cases hx
theorem eqS {l m : List Int} (hl : Bytes l) (hm : Bytes m) : ((strOfNums l).toList = (strOfNums m).toList) ↔ l = m := ⟨fun h => str_inj hl hm h, fun h => by rw [h]⟩
theorem dec_j0 (x : List Int) (hx : Bytes x) (g s : Int) (last : Bool) (kd a b c d : Int) (key : ByteArray) : Ev (fun k => line_Decode.j0 k x g s last kd a b c d key) (checkS x g s last kd a b c d key) := by
  refine Ev.step (f := fun k => line_Decode.j0 (k + 1) x g s last kd a b c d key) (fun k => rfl) ?_
  simp only [line_Decode.j0]
  refine Ev.bind (enc_ev g s last kd a b c d key) ?_
  have he := eqS (encS_bytes g s last kd a b c d key) hx
  unfold checkS bytes_Equal.f
  simp only [Option.bind_some]
  generalize encS g s last kd a b c d key = e at he ⊢
  by_cases h1 : e.2 = 0
  · rw [if_pos h1]
    by_cases h2 : e.1 = x
    · rw [if_pos (show ((strOfNums e.1).toList == (strOfNums x).toList) = true from beq_iff_eq.mpr (he.2 h2)), if_pos ⟨h1, h2⟩]
      exact Ev.now _
    · rw [if_neg (show ¬ ((strOfNums e.1).toList == (strOfNums x).toList) = true from fun h => h2 (he.1 (beq_iff_eq.mp h))), if_neg (fun h => h2 h.2)]
      exact Ev.now _
  · rw [if_neg h1, if_neg (fun h => h1 h.1)]
    exact Ev.now _
theorem seg_seg (b : List Int) (i m j n : Nat) (h : i + j + n ≤ m) : (((b.take m).drop i).drop j).take n = seg b (i + j) (i + j + n) := by
  unfold seg
  rw [List.drop_drop]
  apply List.ext_getElem?
  intro k
  simp only [List.getElem?_take, List.getElem?_drop]
  by_cases hk : k < n
  · rw [if_pos hk, if_pos (by omega), if_pos (by omega)]
  · rw [if_neg hk, if_neg (by omega)]
theorem seg_length (b : List Int) (i j : Nat) (hj : j ≤ b.length) : (seg b i j).length = j - i := by
  unfold seg
  rw [List.length_drop, List.length_take, Nat.min_eq_left hj]
theorem seg_bytes {b : List Int} (hb : Bytes b) (i j : Nat) : Bytes (seg b i j) := fun x hx => hb x (List.mem_of_mem_take (List.mem_of_mem_drop hx))
theorem seg_one (b : List Int) (i : Nat) (h : i < b.length) : val 0 (seg b i (i + 1)) = rd b (i : Int) := by
  have e : seg b i (i + 1) = [rd b (i : Int)] := by
    unfold seg
    rw [take_rd b i h, List.drop_append_of_le_length (by rw [List.length_take]; omega), drop_all _ i (by rw [List.length_take]; omega)]
    rfl
  rw [e]
  simp [val]
theorem seg_range {b : List Int} (hb : Bytes b) (i j : Nat) (h : j ≤ b.length) (h7 : j - i ≤ 7) : 0 ≤ val 0 (seg b i j) ∧ val 0 (seg b i j) < 72057594037927936 := by
  have h1 := val_lt (seg b i j) (seg_bytes hb i j)
  rw [seg_length b i j h] at h1
  have h2 := pow_mono h7
  have h3 : (256 : Int) ^ 7 = 72057594037927936 := by decide
  omega
theorem nine_eq (b : List Int) : splitGo ((b.take 41).drop 2) [4, 4, 1, 1, 7, 7, 7, 7, 1] = [val 0 (seg b 2 6), val 0 (seg b 6 10), val 0 (seg b 10 11), val 0 (seg b 11 12), val 0 (seg b 12 19), val 0 (seg b 19 26), val 0 (seg b 26 33), val 0 (seg b 33 40), val 0 (seg b 40 41)] := by
  have h0 := seg_seg b 2 41 0 4 (by omega)
  have h1 := seg_seg b 2 41 4 4 (by omega)
  have h2 := seg_seg b 2 41 8 1 (by omega)
  have h3 := seg_seg b 2 41 9 1 (by omega)
  have h4 := seg_seg b 2 41 10 7 (by omega)
  have h5 := seg_seg b 2 41 17 7 (by omega)
  have h6 := seg_seg b 2 41 24 7 (by omega)
  have h7 := seg_seg b 2 41 31 7 (by omega)
  have h8 := seg_seg b 2 41 38 1 (by omega)
  simp only [List.drop_drop] at h0 h1 h2 h3 h4 h5 h6 h7 h8
  have t4 : (4 : Int).toNat = 4 := rfl
  have t1 : (1 : Int).toNat = 1 := rfl
  have t7 : (7 : Int).toNat = 7 := rfl
  simp only [splitGo, t4, t1, t7, List.drop_drop, Nat.reduceAdd] at *
  rw [h0, h1, h2, h3, h4, h5, h6, h7, h8]
theorem split_nine (b : List Int) (hb : Bytes b) (h : b.length = 64) : Ev (fun k => pack_Split.f k ((b.take 41).drop 2) [4, 4, 1, 1, 7, 7, 7, 7, 1]) ([val 0 (seg b 2 6), val 0 (seg b 6 10), val 0 (seg b 10 11), val 0 (seg b 11 12), val 0 (seg b 12 19), val 0 (seg b 19 26), val 0 (seg b 26 33), val 0 (seg b 33 40), val 0 (seg b 40 41)], 0) := by
  have h1 := split_ev ((b.take 41).drop 2) [4, 4, 1, 1, 7, 7, 7, 7, 1] (seg_bytes hb 2 41)
  have hl := seg_length b 2 41 (by omega)
  unfold seg at hl
  have hs : splitS ((b.take 41).drop 2) [4, 4, 1, 1, 7, 7, 7, 7, 1] = (splitGo ((b.take 41).drop 2) [4, 4, 1, 1, 7, 7, 7, 7, 1], 0) := by
    have e : sum [4, 4, 1, 1, 7, 7, 7, 7, 1] = 39 := by rfl
    unfold splitS
    rw [if_neg (by simp), if_pos (by rfl), e, hl, if_neg (by omega), if_neg (by omega)]
  rw [hs, nine_eq] at h1
  exact h1
theorem dec_ev (b : List Int) (hb : Bytes b) : Ev (fun k => line_Decode.f k b) (decS b) := by
  unfold decS
  by_cases h : b.length = 64
  · rw [if_pos h]
    have hi : (b.length : Int) = 64 := by omega
    have g0 := seg_range hb 2 6 (by omega) (by omega)
    have g1 := seg_range hb 6 10 (by omega) (by omega)
    have g3 := seg_range hb 11 12 (by omega) (by omega)
    have g4 := seg_range hb 12 19 (by omega) (by omega)
    have g5 := seg_range hb 19 26 (by omega) (by omega)
    have g6 := seg_range hb 26 33 (by omega) (by omega)
    have g7 := seg_range hb 33 40 (by omega) (by omega)
    obtain ⟨K1, h1⟩ := split_nine b hb h
    obtain ⟨K2, h2⟩ := dec_j0 b hb (val 0 (seg b 2 6)) (val 0 (seg b 6 10)) (val 0 (seg b 10 11) == 1) (val 0 (seg b 11 12)) (val 0 (seg b 12 19)) (val 0 (seg b 19 26)) (val 0 (seg b 26 33)) (val 0 (seg b 33 40)) (keyS b)
    refine ⟨max K1 K2, fun k hk => ?_⟩
    have m1 := h1 k (by omega)
    have m2 := h2 k (by omega)
    dsimp only at m1 m2
    show line_Decode.f k b = _
    unfold line_Decode.f
    rw [if_pos hi, if_pos (by decide), if_pos (by omega)]
    simp only [line_sizes.f, Option.bind_some]
    rw [m1]
    simp only [Option.bind_some]
    have r0 (v0 v1 v2 v3 v4 v5 v6 v7 v8 : Int) : rd [v0, v1, v2, v3, v4, v5, v6, v7, v8] 0 = v0 := rfl
    have r1 (v0 v1 v2 v3 v4 v5 v6 v7 v8 : Int) : rd [v0, v1, v2, v3, v4, v5, v6, v7, v8] 1 = v1 := rfl
    have r2 (v0 v1 v2 v3 v4 v5 v6 v7 v8 : Int) : rd [v0, v1, v2, v3, v4, v5, v6, v7, v8] 2 = v2 := rfl
    have r3 (v0 v1 v2 v3 v4 v5 v6 v7 v8 : Int) : rd [v0, v1, v2, v3, v4, v5, v6, v7, v8] 3 = v3 := rfl
    have r4 (v0 v1 v2 v3 v4 v5 v6 v7 v8 : Int) : rd [v0, v1, v2, v3, v4, v5, v6, v7, v8] 4 = v4 := rfl
    have r5 (v0 v1 v2 v3 v4 v5 v6 v7 v8 : Int) : rd [v0, v1, v2, v3, v4, v5, v6, v7, v8] 5 = v5 := rfl
    have r6 (v0 v1 v2 v3 v4 v5 v6 v7 v8 : Int) : rd [v0, v1, v2, v3, v4, v5, v6, v7, v8] 6 = v6 := rfl
    have r7 (v0 v1 v2 v3 v4 v5 v6 v7 v8 : Int) : rd [v0, v1, v2, v3, v4, v5, v6, v7, v8] 7 = v7 := rfl
    have r8 (v0 v1 v2 v3 v4 v5 v6 v7 v8 : Int) : rd [v0, v1, v2, v3, v4, v5, v6, v7, v8] 8 = v8 := rfl
    have ln (v0 v1 v2 v3 v4 v5 v6 v7 v8 : Int) : (([v0, v1, v2, v3, v4, v5, v6, v7, v8] : List Int).length : Int) = 9 := rfl
    simp only [r0, r1, r2, r3, r4, r5, r6, r7, r8, ln]
    rw [if_pos (by decide), if_pos (by decide), if_pos (by decide), if_pos (by decide), if_pos (by decide), if_pos (by decide), if_pos (by decide), if_pos (by decide), if_pos (by decide)]
    rw [wrap64_id _ (by omega) (by omega), wrap64_id _ (by omega) (by omega), wrap64_id (val 0 (seg b 11 12)) (by omega) (by omega), wrap64_id (val 0 (seg b 12 19)) (by omega) (by omega), wrap64_id (val 0 (seg b 19 26)) (by omega) (by omega), wrap64_id (val 0 (seg b 26 33)) (by omega) (by omega), wrap64_id (val 0 (seg b 33 40)) (by omega) (by omega)]
    by_cases h16 : val 0 (seg b 40 41) = 16
    · rw [if_pos h16, if_pos (by decide), if_pos (by omega)]
      have ek : keyS b = strOfNums (seg b 41 57) := by
        unfold keyS
        rw [if_pos h16]
      rw [ek] at m2
      rw [ek]
      exact m2
    · rw [if_neg h16]
      have ek : keyS b = (⟨#[]⟩ : ByteArray) := by
        unfold keyS
        rw [if_neg h16]
      rw [ek] at m2
      rw [ek]
      exact m2
  · rw [if_neg h]
    refine Ev.congr (f := fun _ => some zero10) (fun k => ?_) (Ev.now _)
    unfold line_Decode.f
    rw [if_neg (by omega)]
    rfl

/-! ### what was written is read again -/
theorem take_left_len {l m : List Int} {n : Nat} (h : l.length = n) : (l ++ m).take n = l := by
  subst h
  exact List.take_left
theorem drop_left_len {l m : List Int} {n : Nat} (h : l.length = n) : (l ++ m).drop n = m := by
  subst h
  exact List.drop_left
theorem val_be0 (n : Int) (s : Nat) (h0 : 0 ≤ n) (h1 : n < 256 ^ s) : val 0 (be n s) = n := by
  rw [val_be, Int.zero_mul, Int.zero_add]
  exact Int.emod_eq_of_lt h0 h1
theorem splitGo_be (n : Int) (s : Nat) (rest ss : List Int) (h0 : 0 ≤ n) (h1 : n < 256 ^ s) : splitGo (be n s ++ rest) ((s : Int) :: ss) = n :: splitGo rest ss := by
  have e : ((s : Int)).toNat = s := rfl
  rw [splitGo, e, take_left_len (be_length n s), drop_left_len (be_length n s), val_be0 n s h0 h1]
theorem split_nineS (g s l kd a b c d z : Int) (hok : okL g s kd a b c d = true) (hl : 0 ≤ l ∧ l ≤ 1) (hz : 0 ≤ z ∧ z ≤ 16) :
    splitGo (nineS g s l kd a b c d z) [4, 4, 1, 1, 7, 7, 7, 7, 1] = [g, s, l, kd, a, b, c, d, z] := by
  have h := of_decide_eq_true hok
  have e4 : (256 : Int) ^ 4 = 4294967296 := by decide
  have e1 : (256 : Int) ^ 1 = 256 := by decide
  have e7 : (256 : Int) ^ 7 = 72057594037927936 := by decide
  have s1 := splitGo_be g 4 (be s 4 ++ (be l 1 ++ (be kd 1 ++ (be a 7 ++ (be b 7 ++ (be c 7 ++ (be d 7 ++ (be z 1 ++ [])))))))) [4, 1, 1, 7, 7, 7, 7, 1] (by omega) (by omega)
  have s2 := splitGo_be s 4 (be l 1 ++ (be kd 1 ++ (be a 7 ++ (be b 7 ++ (be c 7 ++ (be d 7 ++ (be z 1 ++ []))))))) [1, 1, 7, 7, 7, 7, 1] (by omega) (by omega)
  have s3 := splitGo_be l 1 (be kd 1 ++ (be a 7 ++ (be b 7 ++ (be c 7 ++ (be d 7 ++ (be z 1 ++ [])))))) [1, 7, 7, 7, 7, 1] (by omega) (by omega)
  have s4 := splitGo_be kd 1 (be a 7 ++ (be b 7 ++ (be c 7 ++ (be d 7 ++ (be z 1 ++ []))))) [7, 7, 7, 7, 1] (by omega) (by omega)
  have s5 := splitGo_be a 7 (be b 7 ++ (be c 7 ++ (be d 7 ++ (be z 1 ++ [])))) [7, 7, 7, 1] (by omega) (by omega)
  have s6 := splitGo_be b 7 (be c 7 ++ (be d 7 ++ (be z 1 ++ []))) [7, 7, 1] (by omega) (by omega)
  have s7 := splitGo_be c 7 (be d 7 ++ (be z 1 ++ [])) [7, 1] (by omega) (by omega)
  have s8 := splitGo_be d 7 (be z 1 ++ []) [1] (by omega) (by omega)
  have s9 := splitGo_be z 1 [] [] (by omega) (by omega)
  have e : nineS g s l kd a b c d z = be g 4 ++ (be s 4 ++ (be l 1 ++ (be kd 1 ++ (be a 7 ++ (be b 7 ++ (be c 7 ++ (be d 7 ++ (be z 1 ++ [])))))))) := by
    rw [List.append_nil]
    rfl
  have c4 : ((4 : Nat) : Int) = 4 := rfl
  have c1 : ((1 : Nat) : Int) = 1 := rfl
  have c7 : ((7 : Nat) : Int) = 7 := rfl
  rw [c4] at s1 s2
  rw [c1] at s3 s4 s9
  rw [c7] at s5 s6 s7 s8
  rw [e, s1, s2, s3, s4, s5, s6, s7, s8, s9]
  rfl
theorem str_bytesOf (s : ByteArray) : strOfNums (bytesOf s) = s := by
  obtain ⟨x⟩ := s
  unfold strOfNums bytesOf
  congr 1
  apply Array.ext'
  simp only [List.map_map]
  conv => rhs; rw [← List.map_id x.toList]
  apply List.map_congr_left
  intro u _
  simp
theorem dec_of_enc (g s : Int) (last : Bool) (kd a b c d : Int) (key : ByteArray) (hok : okL g s kd a b c d = true) (hk : key.size = 0 ∨ key.size = 16) :
    decS (fullS (bodyS g s last kd a b c d key)) = (g, s, last, kd, a, b, c, d, key, 0) := by
  have hL := bodyS_length g s last kd a b c d key (by omega)
  have hlen : (fullS (bodyS g s last kd a b c d key)).length = 64 := by
    unfold fullS
    rw [List.length_append, hL, be_length]
  have hl : 0 ≤ l01 last ∧ l01 last ≤ 1 := by unfold l01; split <;> omega
  have hn := nineS_length g s (l01 last) kd a b c d (key.size : Int)
  have hb := bytesOf_length key
  have e41 : (fullS (bodyS g s last kd a b c d key)).take 41 = ([83, 76] : List Int) ++ nineS g s (l01 last) kd a b c d (key.size : Int) := by
    unfold fullS bodyS
    rw [List.append_assoc]
    exact take_left_len (by rw [List.length_append, hn]; rfl)
  have e2 : ((fullS (bodyS g s last kd a b c d key)).take 41).drop 2 = nineS g s (l01 last) kd a b c d (key.size : Int) := by
    rw [e41]
    exact drop_left_len rfl
  have h9 := nine_eq (fullS (bodyS g s last kd a b c d key))
  rw [e2, split_nineS g s (l01 last) kd a b c d (key.size : Int) hok hl (by omega)] at h9
  simp only [List.cons.injEq, and_true] at h9
  obtain ⟨v0, v1, v2, v3, v4, v5, v6, v7, v8⟩ := h9
  have ekey : keyS (fullS (bodyS g s last kd a b c d key)) = key := by
    unfold keyS
    rw [← v8]
    rcases hk with hk | hk
    · rw [if_neg (by omega)]
      obtain ⟨x⟩ := key
      have : x = #[] := Array.eq_empty_of_size_eq_zero hk
      rw [this]
    · rw [if_pos (by omega)]
      have e : seg (fullS (bodyS g s last kd a b c d key)) 41 57 = bytesOf key := by
        have e5 : (fullS (bodyS g s last kd a b c d key)).take 57 = (([83, 76] : List Int) ++ nineS g s (l01 last) kd a b c d (key.size : Int)) ++ bytesOf key := by
          unfold fullS bodyS
          rw [← List.append_assoc, List.append_assoc _ (List.replicate _ _) _]
          exact take_left_len (by rw [List.length_append, List.length_append, hn, hb, hk]; rfl)
        unfold seg
        rw [e5]
        exact drop_left_len (by rw [List.length_append, hn]; rfl)
      rw [e, str_bytesOf]
  have elast : (l01 last == 1) = last := by
    unfold l01
    cases last <;> rfl
  unfold decS
  rw [if_pos hlen, ← v0, ← v1, ← v2, ← v3, ← v4, ← v5, ← v6, ← v7, ekey, elast]
  unfold checkS
  have ee : encS g s last kd a b c d key = (fullS (bodyS g s last kd a b c d key), 0) := by
    unfold encS
    rw [if_pos hok, if_pos hk]
  rw [ee, if_pos ⟨rfl, rfl⟩]
/-! ### the simplest facts -/
theorem aw_ok : okL 1 0 9 3 1 0 0 = true := by decide
theorem awake_ev : Ev (fun k => stowagelaw15_awake.f k) true := by
  have h1 := enc_ev 1 0 true 9 3 1 0 0 (⟨#[]⟩ : ByteArray)
  have ee : encS 1 0 true 9 3 1 0 0 (⟨#[]⟩ : ByteArray) = (fullS (bodyS 1 0 true 9 3 1 0 0 (⟨#[]⟩ : ByteArray)), 0) := by
    unfold encS
    rw [if_pos aw_ok, if_pos (by left; rfl)]
  rw [ee] at h1
  have hB : Bytes (fullS (bodyS 1 0 true 9 3 1 0 0 (⟨#[]⟩ : ByteArray))) := fullS_bytes (bodyS_bytes _ _ _ _ _ _ _ _ _)
  have hL : (fullS (bodyS 1 0 true 9 3 1 0 0 (⟨#[]⟩ : ByteArray))).length = 64 := by
    unfold fullS
    rw [List.length_append, bodyS_length _ _ _ _ _ _ _ _ _ (by decide), be_length]
  have h2 := dec_ev _ hB
  rw [dec_of_enc 1 0 true 9 3 1 0 0 (⟨#[]⟩ : ByteArray) aw_ok (Or.inl rfl)] at h2
  generalize fullS (bodyS 1 0 true 9 3 1 0 0 (⟨#[]⟩ : ByteArray)) = B at h1 h2 hB hL
  obtain ⟨K1, m1⟩ := h1
  obtain ⟨K2, m2⟩ := h2
  refine ⟨K1 + K2 + 4, fun k hk => ?_⟩
  have n1 := m1 k (by omega)
  have n2 := m2 k (by omega)
  dsimp only at n1 n2
  obtain ⟨m, rfl⟩ : ∃ m, k = m + 3 := ⟨k - 3, by omega⟩
  have n3 := m2 (m + 2) (by omega)
  dsimp only at n3
  show stowagelaw15_awake.f (m + 3) = _
  unfold stowagelaw15_awake.f
  rw [n1]
  simp only [Option.bind_some]
  rw [n2]
  simp only [Option.bind_some]
  have er : rd_L3 [B] 0 = B := rfl
  have h3 : line_Replay.f (m + 3) [B] 1 = some [[(⟨9, 3, 1, 0, 0, (⟨#[]⟩ : ByteArray)⟩ : S23)]] := by
    unfold line_Replay.f
    have ln : (([B] : List (List Int)).length : Int) = 1 := rfl
    simp only [line_Replay.l0, ln]
    rw [if_pos (by decide), if_pos (by decide), if_pos (by decide), er, n3]
    simp only [Option.bind_some, if_true]
    simp only [line_Replay.j1]
    rw [if_neg (by decide), if_pos (by decide)]
    simp only [Option.bind_some, if_true]
    rw [if_pos (by decide)]
    simp only [line_Replay.l0]
    rw [if_neg (by rw [wrap64_id _ (by decide) (by decide)]; decide)]
    rfl
  rw [h3]
  simp only [Option.bind_some]
  have hz : (⟨#[]⟩ : ByteArray).size = 0 := rfl
  simp [hL, hz]
end Go.Proofs.Ytjfdjbmahahllaa.QLine
