/- PackBack: numbers that were put come back, and bytes that were read are put as they were. No condition. -/
import Derived.Test.YtcboebfaaebneaaQPackBackx2
import Derived.Test.YtcboebfaaebneaaPackPlain
namespace Go.Proofs.Ytcboebfaaebneaa.Pure
open Go.RowKit Go.Proofs.Ytcboebfaaebneaa.QPackBack Go.Proofs.YtcboebfaaebneaaW.PrintWords Go.Proofs.YtcboebfaaebneaaW.PrintLast Go.Proofs.Ytcboebfaaebneaa.PackPlain

/-! ### put, fits, right -/
theorem put_loop (n : Int) : ∀ (d : Nat) (b : List Int), d ≤ 8 → b.length + d ≤ 140737488355328 → Ev (fun k => pack_put.l0 k b n ((d : Int) - 1)) (b ++ be n d)
  | 0, b, _, _ => by
    refine Ev.step (f := fun _ => some b) (fun k => ?_) (by simpa [be] using Ev.now b)
    simp only [pack_put.l0]
    rw [if_neg (by omega)]
  | d + 1, b, hd, hb => by
    have ih := put_loop n d (b ++ [n / 256 ^ d % 256]) (by omega) (by simp; omega)
    have e : (((d + 1 : Nat) : Int) - 1) = (d : Int) := by omega
    simp only [e]
    refine Ev.step (f := fun k => pack_put.l0 k (b ++ [n / 256 ^ d % 256]) n ((d : Int) - 1)) (fun k => ?_) ?_
    · simp only [pack_put.l0]
      rw [if_pos (by omega), if_pos (by rw [wrap64_id _ (by omega) (by omega)]; omega), if_pos (by omega), shr8 n d (by omega), wrap64_id ((d : Int) - 1) (by omega) (by omega)]
    · rw [List.append_assoc] at ih
      exact ih
theorem put_ev (b : List Int) (n s : Int) (hs : okS s = true) (hb : b.length + 8 ≤ 140737488355328) : Ev (fun k => pack_put.f k b n s) (b ++ be n s.toNat) := by
  have h := (okS_iff s).1 hs
  have := put_loop n s.toNat b (by omega) (by omega)
  have e : ((s.toNat : Int) - 1) = wrap64 (s - 1) := by rw [wrap64_id _ (by omega) (by omega)]; omega
  simp only [e] at this
  exact this
theorem fits_eq (n s : Int) (h0 : 0 ≤ n) (h1 : n < 18446744073709551616) (hs : okS s = true) : pack_fits.f n s = some (fitS n s) := by
  have h := (okS_iff s).1 hs
  unfold pack_fits.f
  by_cases h8 : s = 8
  · subst h8
    rw [if_pos rfl, fitS8 n h1]
  · rw [if_neg h8]
    obtain ⟨t, rfl⟩ := Int.eq_ofNat_of_zero_le (show 0 ≤ s by omega)
    rw [if_pos (by rw [wrap64_id _ (by omega) (by omega)]; omega), shr8 n t (by omega)]
    congr 1
    unfold fitS
    rw [Int.toNat_natCast]
    have hp := pow_pos t
    by_cases hf : n < 256 ^ t
    · rw [Int.ediv_eq_zero_of_lt h0 hf]
      simp [hf]
    · have : 1 ≤ n / 256 ^ t := Int.le_ediv_of_mul_le hp (by omega)
      have h2 : n / 256 ^ t ≠ 0 := by omega
      simp [hf, h2]
theorem right_eq (s : Int) : pack_right.f s = some (okS s) := by
  unfold pack_right.f okS
  by_cases h : s ≥ 1
  · rw [if_pos h]
    have : (1 ≤ s) := h
    simp [this]
  · rw [if_neg h]
    have : ¬ (1 ≤ s) := h
    simp [this]

/-! ### Fields -/
theorem fields_l1 (l z : List Int) (hl : Nums l) (hlz : l.length = z.length) (hm : l.length ≤ 4096) (hz : z.all okS = true) : ∀ (d i : Nat) (out : List Int), i + d = l.length → out.length ≤ 8 * i →
    Ev (fun k => pack_Fields.l1 k z out l (l.length : Int) (i : Int)) (fieldsGo (l.drop i) (z.drop i) out) := by
  intro d
  induction d with
  | zero =>
    intro i out hi ho
    rw [drop_all l i (by omega)]
    refine Ev.step (f := fun _ => some (out, 0)) (fun k => ?_) (by simpa [fieldsGo] using Ev.now (out, (0 : Int)))
    simp only [pack_Fields.l1]
    rw [if_neg (by omega)]
  | succ d ih =>
    intro i out hi ho
    have hil : i < l.length := by omega
    have hiz : i < z.length := by omega
    have hs : okS (rd z (i : Int)) = true := List.all_eq_true.1 hz _ (rd_mem z i hiz)
    obtain ⟨hn0, hn1⟩ := hl _ (rd_mem l i hil)
    rw [drop_rd l i hil, drop_rd z i hiz]
    refine Ev.step (f := fun k => if fitS (rd l (i : Int)) (rd z (i : Int)) = true then (pack_put.f k out (rd l (i : Int)) (rd z (i : Int))).bind fun t => pack_Fields.l1 k z t l (l.length : Int) ((i + 1 : Nat) : Int) else some (([] : List Int), 7)) (fun k => ?_) ?_
    · simp only [pack_Fields.l1]
      rw [if_pos (by omega), if_pos (by omega), if_pos (by omega), if_pos (by omega), fits_eq _ _ hn0 hn1 hs, wrap64_succ i (by omega)]
      rfl
    · simp only [fieldsGo]
      by_cases hf : fitS (rd l (i : Int)) (rd z (i : Int)) = true
      · simp only [hf, if_true]
        have hsr := (okS_iff _).1 hs
        exact Ev.bind (put_ev out _ _ hs (by omega)) (ih (i + 1) _ (by omega) (by simp [be_length]; omega))
      · simp only [hf]
        exact Ev.now _
theorem fields_l0_ok (l z : List Int) {r : List Int × Int} (hm : z.length ≤ 4096) (h : Ev (fun k => pack_Fields.l1 k z [] l (l.length : Int) 0) r) : ∀ (d i : Nat), i + d = z.length → (z.drop i).all okS = true →
    Ev (fun k => pack_Fields.l0 k l z z (z.length : Int) (i : Int)) r := by
  intro d
  induction d with
  | zero =>
    intro i hi ha
    refine Ev.step (f := fun k => pack_Fields.l1 k z [] l (l.length : Int) 0) (fun k => ?_) h
    simp only [pack_Fields.l0]
    rw [if_neg (by omega)]
  | succ d ih =>
    intro i hi ha
    have hiz : i < z.length := by omega
    rw [drop_rd z i hiz, List.all_cons, Bool.and_eq_true] at ha
    refine Ev.step (f := fun k => pack_Fields.l0 k l z z (z.length : Int) ((i + 1 : Nat) : Int)) (fun k => ?_) (ih (i + 1) (by omega) ha.2)
    simp only [pack_Fields.l0]
    rw [if_pos (by omega), if_pos (by omega), if_pos (by omega), right_eq, ha.1, wrap64_succ i (by omega)]
    rfl
theorem fields_l0_no (l z : List Int) (hm : z.length ≤ 4096) : ∀ (d i : Nat), i + d = z.length → (z.drop i).all okS = false →
    Ev (fun k => pack_Fields.l0 k l z z (z.length : Int) (i : Int)) (([] : List Int), 1) := by
  intro d
  induction d with
  | zero =>
    intro i hi ha
    rw [drop_all z i (by omega)] at ha
    cases ha
  | succ d ih =>
    intro i hi ha
    have hiz : i < z.length := by omega
    rw [drop_rd z i hiz, List.all_cons] at ha
    by_cases hs : okS (rd z (i : Int)) = true
    · rw [hs, Bool.true_and] at ha
      refine Ev.step (f := fun k => pack_Fields.l0 k l z z (z.length : Int) ((i + 1 : Nat) : Int)) (fun k => ?_) (ih (i + 1) (by omega) ha)
      simp only [pack_Fields.l0]
      rw [if_pos (by omega), if_pos (by omega), if_pos (by omega), right_eq, hs, wrap64_succ i (by omega)]
      rfl
    · have hs' : okS (rd z (i : Int)) = false := by simpa using hs
      refine Ev.step (f := fun _ => some (([] : List Int), 1)) (fun k => ?_) (Ev.now _)
      simp only [pack_Fields.l0]
      rw [if_pos (by omega), if_pos (by omega), if_pos (by omega), right_eq, hs']
      rfl
theorem fields_ev (l z : List Int) (hl : Nums l) : Ev (fun k => pack_Fields.f k l z) (fieldsS l z) := by
  unfold fieldsS
  by_cases h1 : l.length = z.length
  · have e1 : (l.length : Int) = (z.length : Int) := by omega
    by_cases h2 : l.length ≤ 4096
    · by_cases h3 : z.all okS = true
      · rw [if_pos ⟨h1, h2, h3⟩]
        have hg := fields_l0_ok l z (by omega) (by simpa using fields_l1 l z hl h1 h2 h3 l.length 0 [] (by omega) (by simp)) z.length 0 (by omega) (by simpa using h3)
        refine Ev.congr (f := fun k => pack_Fields.j0 k l z false) (fun k => ?_) (Ev.step (f := fun k => pack_Fields.l0 k l z z (z.length : Int) 0) (fun k => ?_) hg)
        · unfold pack_Fields.f
          rw [if_pos e1, decide_eq_false (by omega)]
        · simp [pack_Fields.j0]
      · have h3' : z.all okS = false := by simpa using h3
        rw [if_neg (fun h => h3 h.2.2)]
        have hg := fields_l0_no l z (by omega) z.length 0 (by omega) (by simpa using h3')
        refine Ev.congr (f := fun k => pack_Fields.j0 k l z false) (fun k => ?_) (Ev.step (f := fun k => pack_Fields.l0 k l z z (z.length : Int) 0) (fun k => ?_) hg)
        · unfold pack_Fields.f
          rw [if_pos e1, decide_eq_false (by omega)]
        · simp [pack_Fields.j0]
    · rw [if_neg (fun h => h2 h.2.1)]
      refine Ev.congr (f := fun k => pack_Fields.j0 k l z true) (fun k => ?_) (Ev.step (f := fun _ => some (([] : List Int), 1)) (fun k => ?_) (Ev.now _))
      · unfold pack_Fields.f
        rw [if_pos e1, decide_eq_true (by omega)]
      · simp [pack_Fields.j0]
  · rw [if_neg (fun h => h1 h.1)]
    refine Ev.congr (f := fun k => pack_Fields.j0 k l z true) (fun k => ?_) (Ev.step (f := fun _ => some (([] : List Int), 1)) (fun k => ?_) (Ev.now _))
    · unfold pack_Fields.f
      rw [if_neg (by omega)]
    · simp [pack_Fields.j0]
theorem put1_ev (n s : Int) (h0 : 0 ≤ n) (h1 : n < 18446744073709551616) : Ev (fun k => pack_Put.f k n s) (fieldsS [n] [s]) := by
  have h := fields_ev [n] [s] (by intro x hx; simp at hx; subst hx; exact ⟨h0, h1⟩)
  exact Ev.bind (f := fun _ bt => some (bt.1, bt.2)) h (Ev.now _)

/-! ### get, Get -/
theorem get_loop (l : List Int) (hb : Bytes l) (hl : l.length ≤ 8) : ∀ (d i : Nat) (a : Int), i + d = l.length → 0 ≤ a → a < 256 ^ i → Ev (fun k => pack_get.l0 k a l (l.length : Int) (i : Int)) (val a (l.drop i)) := by
  intro d
  induction d with
  | zero =>
    intro i a hi h0 h1
    rw [drop_all l i (by omega)]
    refine Ev.step (f := fun _ => some a) (fun k => ?_) (Ev.now _)
    simp only [pack_get.l0]
    rw [if_neg (by omega)]
  | succ d ih =>
    intro i a hi h0 h1
    have hil : i < l.length := by omega
    obtain ⟨hx0, hx1⟩ := hb _ (rd_mem l i hil)
    have hp := pow_le8 (i + 1) (by omega)
    rw [Int.pow_succ] at hp
    rw [drop_rd l i hil]
    refine Ev.step (f := fun k => pack_get.l0 k (a * 256 + rd l (i : Int)) l (l.length : Int) ((i + 1 : Nat) : Int)) (fun k => ?_) (ih (i + 1) _ (by omega) (by omega) (by rw [Int.pow_succ]; omega))
    simp only [pack_get.l0]
    rw [if_pos (by omega), if_pos (by omega), if_pos (by omega), or_byte a _ h0 (by omega) hx0 hx1, wrap64_succ i (by omega)]
theorem get_ev (l : List Int) (hb : Bytes l) (hl : l.length ≤ 8) : Ev (fun k => pack_get.f k l) (val 0 l) := by
  have := get_loop l hb hl l.length 0 0 (by omega) (by omega) (by simp)
  exact Ev.congr (f := fun k => pack_get.l0 k 0 l (l.length : Int) 0) (fun k => rfl) (by simpa using this)
theorem get1_ev (l : List Int) (s : Int) (hb : Bytes l) : Ev (fun k => pack_Get.f k l s) (getS l s) := by
  unfold getS
  by_cases hs : okS s = true
  · have hr := (okS_iff s).1 hs
    rw [if_pos hs]
    by_cases hl : (l.length : Int) < s
    · rw [if_pos hl]
      refine Ev.congr (f := fun _ => some (0, 3)) (fun k => ?_) (Ev.now _)
      unfold pack_Get.f
      rw [right_eq, hs, Option.bind_some, if_pos rfl, if_pos hl]
    · rw [if_neg hl]
      refine Ev.congr (f := fun k => (pack_get.f k (l.take s.toNat)).bind fun t => some (t, 0)) (fun k => ?_) (Ev.bind (f := fun _ t => some (t, 0)) (get_ev _ (fun x hx => hb x (List.mem_of_mem_take hx)) (by simp; omega)) (Ev.now _))
      unfold pack_Get.f
      rw [right_eq, hs, Option.bind_some, if_pos rfl, if_neg hl, if_pos (by omega), if_pos (by omega)]
  · have hs' : okS s = false := by simpa using hs
    rw [if_neg hs]
    refine Ev.congr (f := fun _ => some (0, 1)) (fun k => ?_) (Ev.now _)
    unfold pack_Get.f
    rw [right_eq, hs', Option.bind_some]
    rfl
theorem awake_ev : Ev (fun k => stowagelaw01_awake.f k) true := by
  have h1 := put1_ev 258 3 (by decide) (by decide)
  have h2 := get1_ev [1, 2] 2 (by intro x hx; simp at hx; omega)
  have e1 : fieldsS [258] [3] = ([0, 1, 2], 0) := by decide
  have e2 : getS [1, 2] 2 = (258, 0) := by decide
  rw [e1] at h1
  rw [e2] at h2
  unfold stowagelaw01_awake.f
  refine Ev.bind h1 (Ev.bind h2 ?_)
  have e3 : (strOfNums [0, 1, 2]).toList = ([0, 1, 2] : List UInt8) := by rw [str_list]; rfl
  simp only [if_true, e3]
  exact Ev.now true

/-! ### Split -/
theorem sum_eq : ∀ (z : List Int) (a : Int), z.foldl (· + ·) a = a + sum z
  | [], a => by simp [sum]
  | s :: z, a => by
    have h1 := sum_eq z (a + s)
    have h2 := sum_eq z (0 + s)
    simp only [sum, List.foldl_cons] at *
    omega
theorem sum_cons (s : Int) (z : List Int) : sum (s :: z) = s + sum z := by
  have := sum_eq z (0 + s)
  simp only [sum, List.foldl_cons] at *
  omega
theorem sum_range : ∀ (z : List Int), z.all okS = true → 0 ≤ sum z ∧ sum z ≤ 8 * z.length
  | [], _ => by simp [sum]
  | s :: z, h => by
    rw [List.all_cons, Bool.and_eq_true] at h
    have h1 := (okS_iff s).1 h.1
    have h2 := sum_range z h.2
    rw [sum_cons]
    simp only [List.length_cons]
    omega
theorem split_l1 (z : List Int) (hm : z.length ≤ 4096) : ∀ (d i : Nat) (b out : List Int), Bytes b → i + d = z.length → (z.drop i).all okS = true → sum (z.drop i) = b.length → out.length ≤ i →
    Ev (fun k => pack_Split.l1 k b out z (z.length : Int) (i : Int)) (out ++ splitGo b (z.drop i), 0) := by
  intro d
  induction d with
  | zero =>
    intro i b out hb hi ha hs ho
    rw [drop_all z i (by omega)]
    refine Ev.step (f := fun _ => some (out, 0)) (fun k => ?_) (by simpa [splitGo] using Ev.now (out, (0 : Int)))
    simp only [pack_Split.l1]
    rw [if_neg (by omega)]
  | succ d ih =>
    intro i b out hb hi ha hs ho
    have hiz : i < z.length := by omega
    rw [drop_rd z i hiz, List.all_cons, Bool.and_eq_true] at ha
    rw [drop_rd z i hiz, sum_cons] at hs
    have hsr := (okS_iff _).1 ha.1
    have hsum := sum_range _ ha.2
    rw [drop_rd z i hiz]
    simp only [splitGo]
    have hg := get_ev (b.take (rd z (i : Int)).toNat) (fun x hx => hb x (List.mem_of_mem_take hx)) (by simp; omega)
    have hr := ih (i + 1) (b.drop (rd z (i : Int)).toNat) (out ++ [val 0 (b.take (rd z (i : Int)).toNat)]) (fun x hx => hb x (List.mem_of_mem_drop hx)) (by omega) ha.2 (by simp; omega) (by simp; omega)
    refine Ev.step (f := fun k => (pack_get.f k (b.take (rd z (i : Int)).toNat)).bind fun t => if out.length < 17592186044416 then pack_Split.l1 k (b.drop (rd z (i : Int)).toNat) (out ++ [t]) z (z.length : Int) ((i + 1 : Nat) : Int) else none) (fun k => ?_) (Ev.bind hg ?_)
    · simp only [pack_Split.l1]
      rw [if_pos (by omega), if_pos (by omega), if_pos (by omega), if_pos (by omega), if_pos (by omega), wrap64_succ i (by omega)]
    · have e : out.length < 17592186044416 := by omega
      simp only [e, if_true]
      rw [List.append_assoc] at hr
      exact hr
def splitEnd (b z : List Int) : List Int × Int := if (b.length : Int) < sum z then ([], 3) else if (b.length : Int) > sum z then ([], 2) else (splitGo b z, 0)
theorem split_l0 (b z : List Int) (hb : Bytes b) (hm : z.length ≤ 4096) : ∀ (d i : Nat) (a : Int), i + d = z.length → (z.take i).all okS = true → a = sum (z.take i) →
    Ev (fun k => pack_Split.l0 k b z a z (z.length : Int) (i : Int)) (if z.all okS = true then splitEnd b z else ([], 1)) := by
  intro d
  induction d with
  | zero =>
    intro i a hi ha hs
    rw [List.take_of_length_le (by omega)] at ha hs
    rw [if_pos ha]
    subst hs
    unfold splitEnd
    by_cases h1 : (b.length : Int) < sum z
    · rw [if_pos h1]
      refine Ev.step (f := fun _ => some (([] : List Int), 3)) (fun k => ?_) (Ev.now _)
      simp only [pack_Split.l0]
      rw [if_neg (by omega), if_pos h1]
    · by_cases h2 : (b.length : Int) > sum z
      · rw [if_neg h1, if_pos h2]
        refine Ev.step (f := fun _ => some (([] : List Int), 2)) (fun k => ?_) (Ev.now _)
        simp only [pack_Split.l0]
        rw [if_neg (by omega), if_neg h1, if_pos h2]
      · rw [if_neg h1, if_neg h2]
        have := split_l1 z hm z.length 0 b [] hb (by omega) (by simpa using ha) (by simp; omega) (by simp)
        refine Ev.step (f := fun k => pack_Split.l1 k b [] z (z.length : Int) 0) (fun k => ?_) (by simpa using this)
        simp only [pack_Split.l0]
        rw [if_neg (by omega), if_neg h1, if_neg h2]
  | succ d ih =>
    intro i a hi ha hs
    have hiz : i < z.length := by omega
    have hr0 := sum_range _ ha
    have hlen : (z.take i).length ≤ i := List.length_take_le _ _
    by_cases hk : okS (rd z (i : Int)) = true
    · have hsr := (okS_iff _).1 hk
      have es : sum (z.take (i + 1)) = sum (z.take i) + rd z (i : Int) := by
        rw [take_rd z i hiz]
        have := sum_eq [rd z (i : Int)] (sum (z.take i))
        simp only [sum, List.foldl_append, List.foldl_cons, List.foldl_nil] at *
      have := ih (i + 1) (a + rd z (i : Int)) (by omega) (by rw [take_rd z i hiz, List.all_append, ha]; simp [hk]) (by rw [es, hs])
      refine Ev.step (f := fun k => pack_Split.l0 k b z (a + rd z (i : Int)) z (z.length : Int) ((i + 1 : Nat) : Int)) (fun k => ?_) this
      simp only [pack_Split.l0]
      rw [if_pos (by omega), if_pos (by omega), if_pos (by omega), right_eq, hk, wrap64_succ i (by omega), wrap64_id (a + rd z (i : Int)) (by omega) (by omega)]
      rfl
    · have hk' : okS (rd z (i : Int)) = false := by simpa using hk
      rw [if_neg (fun hc => hk (List.all_eq_true.1 hc _ (rd_mem z i hiz)))]
      refine Ev.step (f := fun _ => some (([] : List Int), 1)) (fun k => ?_) (Ev.now _)
      simp only [pack_Split.l0]
      rw [if_pos (by omega), if_pos (by omega), if_pos (by omega), right_eq, hk']
      rfl
theorem splitS_eq (b z : List Int) : splitS b z = if (z.length : Int) > 4096 then ([], 1) else if z.all okS = true then splitEnd b z else ([], 1) := rfl
theorem split_ev (b z : List Int) (hb : Bytes b) : Ev (fun k => pack_Split.f k b z) (splitS b z) := by
  rw [splitS_eq]
  by_cases h : (z.length : Int) > 4096
  · rw [if_pos h]
    refine Ev.congr (f := fun _ => some (([] : List Int), 1)) (fun k => ?_) (Ev.now _)
    unfold pack_Split.f
    rw [if_pos h]
  · rw [if_neg h]
    refine Ev.congr (f := fun k => pack_Split.l0 k b z 0 z (z.length : Int) ((0 : Nat) : Int)) (fun k => ?_) (split_l0 b z hb (by omega) z.length 0 0 (by omega) (by simp) (by simp [sum]))
    unfold pack_Split.f
    rw [if_neg h]
    rfl

/-! ### the reference: Same -/
theorem same_loop (l : List Int) (hl : l.length < 9223372036854775807) : ∀ (d i : Nat), i + d = l.length → Ev (fun k => stowageref01_Same.l0 k l l (i : Int)) true := by
  intro d
  induction d with
  | zero =>
    intro i hi
    refine Ev.step (f := fun _ => some true) (fun k => ?_) (Ev.now _)
    simp only [stowageref01_Same.l0]
    rw [if_neg (by omega)]
  | succ d ih =>
    intro i hi
    refine Ev.step (f := fun k => stowageref01_Same.l0 k l l ((i + 1 : Nat) : Int)) (fun k => ?_) (ih (i + 1) (by omega))
    simp only [stowageref01_Same.l0]
    rw [if_pos (by omega), if_pos (by omega), if_pos (by omega), if_pos trivial, wrap64_succ i (by omega)]
theorem same_ev (l : List Int) (hl : l.length < 9223372036854775807) : Ev (fun k => stowageref01_Same.f k l l) true := by
  refine Ev.congr (f := fun k => stowageref01_Same.l0 k l l ((0 : Nat) : Int)) (fun k => ?_) (same_loop l hl l.length 0 (by omega))
  unfold stowageref01_Same.f
  rw [if_pos rfl]
  rfl

/-! ### the law -/
theorem back_there : ∀ (l z out r : List Int), Nums l → l.length = z.length → z.all okS = true → fieldsGo l z out = (r, 0) → ∃ b, r = out ++ b ∧ Bytes b ∧ (b.length : Int) = sum z ∧ ∀ c, splitGo (b ++ c) z = l
  | [], [], out, r, _, _, _, h => by
    simp only [fieldsGo, Prod.mk.injEq] at h
    exact ⟨[], by simp [h.1], (by intro x hx; cases hx), by simp [sum], fun c => by simp [splitGo]⟩
  | [], s :: z, _, _, _, h, _, _ => by simp at h
  | n :: l, [], _, _, _, h, _, _ => by simp at h
  | n :: l, s :: z, out, r, hl, hlen, hz, h => by
    rw [List.all_cons, Bool.and_eq_true] at hz
    have hsr := (okS_iff s).1 hz.1
    simp only [fieldsGo] at h
    by_cases hf : fitS n s = true
    · rw [if_pos hf] at h
      obtain ⟨b, h1, h2, h3, h4⟩ := back_there l z (out ++ be n s.toNat) r (fun x hx => hl x (List.mem_cons_of_mem _ hx)) (by simpa using hlen) hz.2 h
      obtain ⟨n0, n1⟩ := hl n List.mem_cons_self
      have hlt : n < 256 ^ s.toNat := of_decide_eq_true hf
      refine ⟨be n s.toNat ++ b, by rw [h1, List.append_assoc], ?_, ?_, fun c => ?_⟩
      · intro x hx
        rcases List.mem_append.1 hx with hx | hx
        · exact be_bytes n s.toNat x hx
        · exact h2 x hx
      · rw [List.length_append, be_length, sum_cons]
        omega
      · have et : ((be n s.toNat ++ b) ++ c).take s.toNat = be n s.toNat := by
          rw [List.append_assoc, List.take_left' (be_length n s.toNat)]
        have ed : ((be n s.toNat ++ b) ++ c).drop s.toNat = b ++ c := by
          rw [List.append_assoc, List.drop_left' (be_length n s.toNat)]
        simp only [splitGo, et, ed, h4 c, val_be]
        rw [Int.emod_eq_of_lt n0 hlt]
        simp
    · rw [if_neg hf] at h
      cases h
theorem back_again : ∀ (z b out : List Int), Bytes b → z.all okS = true → (b.length : Int) = sum z → fieldsGo (splitGo b z) z out = (out ++ b, 0)
  | [], b, out, _, _, h => by
    have e0 : sum [] = 0 := rfl
    have : b = [] := List.eq_nil_of_length_eq_zero (by omega)
    subst this
    simp [splitGo, fieldsGo]
  | s :: z, b, out, hb, hz, h => by
    rw [List.all_cons, Bool.and_eq_true] at hz
    have hsr := (okS_iff s).1 hz.1
    have hsum := sum_range z hz.2
    rw [sum_cons] at h
    have hl : (b.take s.toNat).length = s.toNat := by simp; omega
    have hbt : Bytes (b.take s.toNat) := fun x hx => hb x (List.mem_of_mem_take hx)
    have hv := val_lt (b.take s.toNat) hbt
    rw [hl] at hv
    have hf : fitS (val 0 (b.take s.toNat)) s = true := decide_eq_true hv.2
    have hbe := be_val (b.take s.toNat) 0 hbt (Int.le_refl _)
    rw [hl] at hbe
    simp only [splitGo, fieldsGo]
    rw [if_pos hf, hbe, back_again z (b.drop s.toNat) _ (fun x hx => hb x (List.mem_of_mem_drop hx)) hz.2 (by simp; omega), List.append_assoc, List.take_append_drop]
theorem splitGo_length : ∀ (z b : List Int), (splitGo b z).length = z.length
  | [], b => by simp [splitGo]
  | s :: z, b => by simp [splitGo, splitGo_length z]
theorem splitGo_nums : ∀ (z b : List Int), Bytes b → z.all okS = true → Nums (splitGo b z)
  | [], b, _, _ => by intro x hx; simp [splitGo] at hx
  | s :: z, b, hb, hz => by
    rw [List.all_cons, Bool.and_eq_true] at hz
    have hsr := (okS_iff s).1 hz.1
    intro x hx
    simp only [splitGo] at hx
    rcases List.mem_cons.1 hx with rfl | hx
    · have hv := val_lt (b.take s.toNat) (fun x hx => hb x (List.mem_of_mem_take hx))
      have h1 := pow_mono (show (b.take s.toNat).length ≤ 8 by simp; omega)
      have h2 := pow_le8 8 (by omega)
      omega
    · exact splitGo_nums z _ (fun x hx => hb x (List.mem_of_mem_drop hx)) hz.2 x hx
theorem back_j0 (z b : List Int) (hb : Bytes b) : Ev (fun k => stowagelaw01_PackBack.j0 k z b) true := by
  refine Ev.step (f := fun k => (pack_Split.f k b z).bind fun bt => if bt.2 = 0 then ((pack_Fields.f k bt.1 z).bind fun ct => (stowagelaw01_awake.f k).bind fun t => if t = true then (if ct.2 = 0 then some ((strOfNums ct.1).toList == (strOfNums b).toList) else some false) else some false) else ((stowagelaw01_awake.f k).bind fun t => some t)) (fun k => by simp only [stowagelaw01_PackBack.j0]) (Ev.bind (split_ev b z hb) ?_)
  by_cases h : (splitS b z).2 = 0
  · simp only [h, if_true]
    rw [splitS_eq] at h ⊢
    by_cases h1 : (z.length : Int) > 4096
    · rw [if_pos h1] at h; cases h
    · rw [if_neg h1] at h ⊢
      by_cases h2 : z.all okS = true
      · rw [if_pos h2] at h ⊢
        unfold splitEnd at h ⊢
        by_cases h3 : (b.length : Int) < sum z
        · rw [if_pos h3] at h; cases h
        · by_cases h4 : (b.length : Int) > sum z
          · rw [if_neg h3, if_pos h4] at h; cases h
          · rw [if_neg h3, if_neg h4]
            have hF := fields_ev (splitGo b z) z (splitGo_nums z b hb h2)
            have e : fieldsS (splitGo b z) z = (b, 0) := by
              unfold fieldsS
              rw [if_pos ⟨splitGo_length z b, by rw [splitGo_length]; omega, h2⟩, back_again z b [] hb h2 (by omega)]
              simp
            rw [e] at hF
            refine Ev.bind hF (Ev.bind awake_ev ?_)
            simp only [if_true, BEq.rfl]
            exact Ev.now true
      · rw [if_neg h2] at h; cases h
  · simp only [h, if_false]
    exact Ev.bind awake_ev (Ev.now true)
theorem PackBack : stowagelaw01_PackBack.Pure := by
  intro l z b _ hl1 hl _ _ _ _ _ hbw
  have hb := bytes_of_wf hbw
  have hn := nums_of_wf hl
  have hJ := back_j0 z b hb
  apply Ev.rounds
  unfold stowagelaw01_PackBack.f
  refine Ev.bind (fields_ev l z hn) ?_
  by_cases h : (fieldsS l z).2 = 0
  · simp only [h, if_true]
    unfold fieldsS at h ⊢
    by_cases hc : l.length = z.length ∧ l.length ≤ 4096 ∧ z.all okS = true
    · rw [if_pos hc] at h ⊢
      obtain ⟨h1, h2, h3⟩ := hc
      obtain ⟨r, hr⟩ : ∃ r, fieldsGo l z [] = (r, 0) := ⟨(fieldsGo l z []).1, by rw [← h]⟩
      obtain ⟨c, e1, e2, e3, e4⟩ := back_there l z [] r hn h1 h3 hr
      rw [List.nil_append] at e1
      subst e1
      rw [hr]
      have hS := split_ev r z e2
      have e5 := e4 []
      rw [List.append_nil] at e5
      have e : splitS r z = (l, 0) := by
        rw [splitS_eq, if_neg (by omega), if_pos h3]
        unfold splitEnd
        rw [if_neg (by omega), if_neg (by omega), e5]
      rw [e] at hS
      refine Ev.bind hS ?_
      simp only [if_true]
      refine Ev.bind (same_ev l (by omega)) ?_
      simp only [if_true]
      exact hJ
    · rw [if_neg hc] at h; cases h
  · simp only [h, if_false]
    exact hJ

end Go.Proofs.Ytcboebfaaebneaa.Pure
