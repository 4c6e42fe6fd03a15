/- PackSplits: for every text and every list of sizes, pack.Split reads what the reference reads. No condition. -/
import Derived.Test.YtcboebfaaebneaaQPackSplitsx3
import Derived.Test.YtcboebfaaebneaaPackPlain
namespace Go.Proofs.Ytcboebfaaebneaa.Pure
open Go.RowKit Go.Proofs.Ytcboebfaaebneaa.QPackSplits Go.Proofs.YtcboebfaaebneaaW.PrintWords Go.Proofs.YtcboebfaaebneaaW.PrintLast Go.Proofs.Ytcboebfaaebneaa.PackPlain

/-! ### put, fits, right -/
theorem put_loop (n : Int) : ∀ (d : Nat) (b : List Int), d ≤ 8 → b.length + d ≤ 140737488355328 → Ev (fun k => pack_put.l0 k b n ((d : Int) - 1)) (b ++ be n d)
  | 0, b, _, _ => by
    refine Ev.step (f := fun _ => some b) (fun k => ?_) (by simpa [be] using Ev.now b)
    simp only [pack_put.l0]
    rw [if_neg (by omega)]
  | d + 1, b, hd, hb => by
    have ih := put_loop n d (b ++ [n / 256 ^ d % 256]) (by omega) (by simp; omega)
    have e : (((d + 1 : Nat) : Int) - 1) = (d : Int) := by omega
    simp only [e]
    refine Ev.step (f := fun k => pack_put.l0 k (b ++ [n / 256 ^ d % 256]) n ((d : Int) - 1)) (fun k => ?_) ?_
    · simp only [pack_put.l0]
      rw [if_pos (by omega), if_pos (by rw [wrap64_id _ (by omega) (by omega)]; omega), if_pos (by omega), shr8 n d (by omega), wrap64_id ((d : Int) - 1) (by omega) (by omega)]
    · rw [List.append_assoc] at ih
      exact ih
theorem put_ev (b : List Int) (n s : Int) (hs : okS s = true) (hb : b.length + 8 ≤ 140737488355328) : Ev (fun k => pack_put.f k b n s) (b ++ be n s.toNat) := by
  have h := (okS_iff s).1 hs
  have := put_loop n s.toNat b (by omega) (by omega)
  have e : ((s.toNat : Int) - 1) = wrap64 (s - 1) := by rw [wrap64_id _ (by omega) (by omega)]; omega
  simp only [e] at this
  exact this
theorem fits_eq (n s : Int) (h0 : 0 ≤ n) (h1 : n < 18446744073709551616) (hs : okS s = true) : pack_fits.f n s = some (fitS n s) := by
  have h := (okS_iff s).1 hs
  unfold pack_fits.f
  by_cases h8 : s = 8
  · subst h8
    rw [if_pos rfl, fitS8 n h1]
  · rw [if_neg h8]
    obtain ⟨t, rfl⟩ := Int.eq_ofNat_of_zero_le (show 0 ≤ s by omega)
    rw [if_pos (by rw [wrap64_id _ (by omega) (by omega)]; omega), shr8 n t (by omega)]
    congr 1
    unfold fitS
    rw [Int.toNat_natCast]
    have hp := pow_pos t
    by_cases hf : n < 256 ^ t
    · rw [Int.ediv_eq_zero_of_lt h0 hf]
      simp [hf]
    · have : 1 ≤ n / 256 ^ t := Int.le_ediv_of_mul_le hp (by omega)
      have h2 : n / 256 ^ t ≠ 0 := by omega
      simp [hf, h2]
theorem right_eq (s : Int) : pack_right.f s = some (okS s) := by
  unfold pack_right.f okS
  by_cases h : s ≥ 1
  · rw [if_pos h]
    have : (1 ≤ s) := h
    simp [this]
  · rw [if_neg h]
    have : ¬ (1 ≤ s) := h
    simp [this]

/-! ### Fields -/
theorem fields_l1 (l z : List Int) (hl : Nums l) (hlz : l.length = z.length) (hm : l.length ≤ 4096) (hz : z.all okS = true) : ∀ (d i : Nat) (out : List Int), i + d = l.length → out.length ≤ 8 * i →
    Ev (fun k => pack_Fields.l1 k z out l (l.length : Int) (i : Int)) (fieldsGo (l.drop i) (z.drop i) out) := by
  intro d
  induction d with
  | zero =>
    intro i out hi ho
    rw [drop_all l i (by omega)]
    refine Ev.step (f := fun _ => some (out, 0)) (fun k => ?_) (by simpa [fieldsGo] using Ev.now (out, (0 : Int)))
    simp only [pack_Fields.l1]
    rw [if_neg (by omega)]
  | succ d ih =>
    intro i out hi ho
    have hil : i < l.length := by omega
    have hiz : i < z.length := by omega
    have hs : okS (rd z (i : Int)) = true := List.all_eq_true.1 hz _ (rd_mem z i hiz)
    obtain ⟨hn0, hn1⟩ := hl _ (rd_mem l i hil)
    rw [drop_rd l i hil, drop_rd z i hiz]
    refine Ev.step (f := fun k => if fitS (rd l (i : Int)) (rd z (i : Int)) = true then (pack_put.f k out (rd l (i : Int)) (rd z (i : Int))).bind fun t => pack_Fields.l1 k z t l (l.length : Int) ((i + 1 : Nat) : Int) else some (([] : List Int), 7)) (fun k => ?_) ?_
    · simp only [pack_Fields.l1]
      rw [if_pos (by omega), if_pos (by omega), if_pos (by omega), if_pos (by omega), fits_eq _ _ hn0 hn1 hs, wrap64_succ i (by omega)]
      rfl
    · simp only [fieldsGo]
      by_cases hf : fitS (rd l (i : Int)) (rd z (i : Int)) = true
      · simp only [hf, if_true]
        have hsr := (okS_iff _).1 hs
        exact Ev.bind (put_ev out _ _ hs (by omega)) (ih (i + 1) _ (by omega) (by simp [be_length]; omega))
      · simp only [hf]
        exact Ev.now _
theorem fields_l0_ok (l z : List Int) {r : List Int × Int} (hm : z.length ≤ 4096) (h : Ev (fun k => pack_Fields.l1 k z [] l (l.length : Int) 0) r) : ∀ (d i : Nat), i + d = z.length → (z.drop i).all okS = true →
    Ev (fun k => pack_Fields.l0 k l z z (z.length : Int) (i : Int)) r := by
  intro d
  induction d with
  | zero =>
    intro i hi ha
    refine Ev.step (f := fun k => pack_Fields.l1 k z [] l (l.length : Int) 0) (fun k => ?_) h
    simp only [pack_Fields.l0]
    rw [if_neg (by omega)]
  | succ d ih =>
    intro i hi ha
    have hiz : i < z.length := by omega
    rw [drop_rd z i hiz, List.all_cons, Bool.and_eq_true] at ha
    refine Ev.step (f := fun k => pack_Fields.l0 k l z z (z.length : Int) ((i + 1 : Nat) : Int)) (fun k => ?_) (ih (i + 1) (by omega) ha.2)
    simp only [pack_Fields.l0]
    rw [if_pos (by omega), if_pos (by omega), if_pos (by omega), right_eq, ha.1, wrap64_succ i (by omega)]
    rfl
theorem fields_l0_no (l z : List Int) (hm : z.length ≤ 4096) : ∀ (d i : Nat), i + d = z.length → (z.drop i).all okS = false →
    Ev (fun k => pack_Fields.l0 k l z z (z.length : Int) (i : Int)) (([] : List Int), 1) := by
  intro d
  induction d with
  | zero =>
    intro i hi ha
    rw [drop_all z i (by omega)] at ha
    cases ha
  | succ d ih =>
    intro i hi ha
    have hiz : i < z.length := by omega
    rw [drop_rd z i hiz, List.all_cons] at ha
    by_cases hs : okS (rd z (i : Int)) = true
    · rw [hs, Bool.true_and] at ha
      refine Ev.step (f := fun k => pack_Fields.l0 k l z z (z.length : Int) ((i + 1 : Nat) : Int)) (fun k => ?_) (ih (i + 1) (by omega) ha)
      simp only [pack_Fields.l0]
      rw [if_pos (by omega), if_pos (by omega), if_pos (by omega), right_eq, hs, wrap64_succ i (by omega)]
      rfl
    · have hs' : okS (rd z (i : Int)) = false := by simpa using hs
      refine Ev.step (f := fun _ => some (([] : List Int), 1)) (fun k => ?_) (Ev.now _)
      simp only [pack_Fields.l0]
      rw [if_pos (by omega), if_pos (by omega), if_pos (by omega), right_eq, hs']
      rfl
theorem fields_ev (l z : List Int) (hl : Nums l) : Ev (fun k => pack_Fields.f k l z) (fieldsS l z) := by
  unfold fieldsS
  by_cases h1 : l.length = z.length
  · have e1 : (l.length : Int) = (z.length : Int) := by omega
    by_cases h2 : l.length ≤ 4096
    · by_cases h3 : z.all okS = true
      · rw [if_pos ⟨h1, h2, h3⟩]
        have hg := fields_l0_ok l z (by omega) (by simpa using fields_l1 l z hl h1 h2 h3 l.length 0 [] (by omega) (by simp)) z.length 0 (by omega) (by simpa using h3)
        refine Ev.congr (f := fun k => pack_Fields.j0 k l z false) (fun k => ?_) (Ev.step (f := fun k => pack_Fields.l0 k l z z (z.length : Int) 0) (fun k => ?_) hg)
        · unfold pack_Fields.f
          rw [if_pos e1, decide_eq_false (by omega)]
        · simp [pack_Fields.j0]
      · have h3' : z.all okS = false := by simpa using h3
        rw [if_neg (fun h => h3 h.2.2)]
        have hg := fields_l0_no l z (by omega) z.length 0 (by omega) (by simpa using h3')
        refine Ev.congr (f := fun k => pack_Fields.j0 k l z false) (fun k => ?_) (Ev.step (f := fun k => pack_Fields.l0 k l z z (z.length : Int) 0) (fun k => ?_) hg)
        · unfold pack_Fields.f
          rw [if_pos e1, decide_eq_false (by omega)]
        · simp [pack_Fields.j0]
    · rw [if_neg (fun h => h2 h.2.1)]
      refine Ev.congr (f := fun k => pack_Fields.j0 k l z true) (fun k => ?_) (Ev.step (f := fun _ => some (([] : List Int), 1)) (fun k => ?_) (Ev.now _))
      · unfold pack_Fields.f
        rw [if_pos e1, decide_eq_true (by omega)]
      · simp [pack_Fields.j0]
  · rw [if_neg (fun h => h1 h.1)]
    refine Ev.congr (f := fun k => pack_Fields.j0 k l z true) (fun k => ?_) (Ev.step (f := fun _ => some (([] : List Int), 1)) (fun k => ?_) (Ev.now _))
    · unfold pack_Fields.f
      rw [if_neg (by omega)]
    · simp [pack_Fields.j0]
theorem put1_ev (n s : Int) (h0 : 0 ≤ n) (h1 : n < 18446744073709551616) : Ev (fun k => pack_Put.f k n s) (fieldsS [n] [s]) := by
  have h := fields_ev [n] [s] (by intro x hx; simp at hx; subst hx; exact ⟨h0, h1⟩)
  exact Ev.bind (f := fun _ bt => some (bt.1, bt.2)) h (Ev.now _)

/-! ### get, Get -/
theorem get_loop (l : List Int) (hb : Bytes l) (hl : l.length ≤ 8) : ∀ (d i : Nat) (a : Int), i + d = l.length → 0 ≤ a → a < 256 ^ i → Ev (fun k => pack_get.l0 k a l (l.length : Int) (i : Int)) (val a (l.drop i)) := by
  intro d
  induction d with
  | zero =>
    intro i a hi h0 h1
    rw [drop_all l i (by omega)]
    refine Ev.step (f := fun _ => some a) (fun k => ?_) (Ev.now _)
    simp only [pack_get.l0]
    rw [if_neg (by omega)]
  | succ d ih =>
    intro i a hi h0 h1
    have hil : i < l.length := by omega
    obtain ⟨hx0, hx1⟩ := hb _ (rd_mem l i hil)
    have hp := pow_le8 (i + 1) (by omega)
    rw [Int.pow_succ] at hp
    rw [drop_rd l i hil]
    refine Ev.step (f := fun k => pack_get.l0 k (a * 256 + rd l (i : Int)) l (l.length : Int) ((i + 1 : Nat) : Int)) (fun k => ?_) (ih (i + 1) _ (by omega) (by omega) (by rw [Int.pow_succ]; omega))
    simp only [pack_get.l0]
    rw [if_pos (by omega), if_pos (by omega), if_pos (by omega), or_byte a _ h0 (by omega) hx0 hx1, wrap64_succ i (by omega)]
theorem get_ev (l : List Int) (hb : Bytes l) (hl : l.length ≤ 8) : Ev (fun k => pack_get.f k l) (val 0 l) := by
  have := get_loop l hb hl l.length 0 0 (by omega) (by omega) (by simp)
  exact Ev.congr (f := fun k => pack_get.l0 k 0 l (l.length : Int) 0) (fun k => rfl) (by simpa using this)
theorem get1_ev (l : List Int) (s : Int) (hb : Bytes l) : Ev (fun k => pack_Get.f k l s) (getS l s) := by
  unfold getS
  by_cases hs : okS s = true
  · have hr := (okS_iff s).1 hs
    rw [if_pos hs]
    by_cases hl : (l.length : Int) < s
    · rw [if_pos hl]
      refine Ev.congr (f := fun _ => some (0, 3)) (fun k => ?_) (Ev.now _)
      unfold pack_Get.f
      rw [right_eq, hs, Option.bind_some, if_pos rfl, if_pos hl]
    · rw [if_neg hl]
      refine Ev.congr (f := fun k => (pack_get.f k (l.take s.toNat)).bind fun t => some (t, 0)) (fun k => ?_) (Ev.bind (f := fun _ t => some (t, 0)) (get_ev _ (fun x hx => hb x (List.mem_of_mem_take hx)) (by simp; omega)) (Ev.now _))
      unfold pack_Get.f
      rw [right_eq, hs, Option.bind_some, if_pos rfl, if_neg hl, if_pos (by omega), if_pos (by omega)]
  · have hs' : okS s = false := by simpa using hs
    rw [if_neg hs]
    refine Ev.congr (f := fun _ => some (0, 1)) (fun k => ?_) (Ev.now _)
    unfold pack_Get.f
    rw [right_eq, hs', Option.bind_some]
    rfl
theorem awake_ev : Ev (fun k => stowagelaw01_awake.f k) true := by
  have h1 := put1_ev 258 3 (by decide) (by decide)
  have h2 := get1_ev [1, 2] 2 (by intro x hx; simp at hx; omega)
  have e1 : fieldsS [258] [3] = ([0, 1, 2], 0) := by decide
  have e2 : getS [1, 2] 2 = (258, 0) := by decide
  rw [e1] at h1
  rw [e2] at h2
  unfold stowagelaw01_awake.f
  refine Ev.bind h1 (Ev.bind h2 ?_)
  have e3 : (strOfNums [0, 1, 2]).toList = ([0, 1, 2] : List UInt8) := by rw [str_list]; rfl
  simp only [if_true, e3]
  exact Ev.now true

/-! ### the reference: Get -/
theorem rget_loop (l : List Int) (s : Nat) (hb : Bytes l) (hs : s ≤ 8) (hl : s ≤ l.length) : ∀ (d i : Nat) (a : Int), i + d = s → 0 ≤ a → a < 256 ^ i → Ev (fun k => stowageref01_Get.l0 k l (s : Int) a (i : Int)) (val a ((l.take s).drop i), 0) := by
  intro d
  induction d with
  | zero =>
    intro i a hi h0 h1
    rw [drop_all _ i (by simp; omega)]
    refine Ev.step (f := fun _ => some (a, 0)) (fun k => ?_) (Ev.now _)
    simp only [stowageref01_Get.l0]
    rw [if_neg (by omega)]
  | succ d ih =>
    intro i a hi h0 h1
    have hil : i < l.length := by omega
    obtain ⟨hx0, hx1⟩ := hb _ (rd_mem l i hil)
    have hp := pow_le8 (i + 1) (by omega)
    rw [Int.pow_succ] at hp
    have ht : i < (l.take s).length := by simp; omega
    have er : rd (l.take s) (i : Int) = rd l (i : Int) := by rw [rd_nat _ i ht, rd_nat l i hil]; simp
    rw [drop_rd _ i ht, er]
    refine Ev.step (f := fun k => stowageref01_Get.l0 k l (s : Int) (a * 256 + rd l (i : Int)) ((i + 1 : Nat) : Int)) (fun k => ?_) (ih (i + 1) _ (by omega) (by omega) (by rw [Int.pow_succ]; omega))
    simp only [stowageref01_Get.l0]
    rw [if_pos (by omega), if_pos (by omega), if_pos (by omega), u64_id (a * 256) (by omega) (by omega), u64_id _ hx0 (by omega), u64_id _ (by omega) (by omega), wrap64_succ i (by omega)]
theorem rget_ev (l : List Int) (s : Int) (hb : Bytes l) : Ev (fun k => stowageref01_Get.f k l s) (getS l s) := by
  unfold getS
  by_cases hs : okS s = true
  · have hr := (okS_iff s).1 hs
    rw [if_pos hs]
    refine Ev.congr (f := fun k => stowageref01_Get.j0 k l s false) (fun k => ?_) ?_
    · unfold stowageref01_Get.f
      rw [if_neg (by omega), decide_eq_false (by omega)]
    · by_cases hl : (l.length : Int) < s
      · rw [if_pos hl]
        refine Ev.step (f := fun _ => some (0, 3)) (fun k => ?_) (Ev.now _)
        simp only [stowageref01_Get.j0]
        rw [if_neg (by decide), if_pos hl]
      · rw [if_neg hl]
        have h := rget_loop l s.toNat hb (by omega) (by omega) s.toNat 0 0 (by omega) (by omega) (by simp)
        have e : (s.toNat : Int) = s := by omega
        simp only [e, List.drop_zero] at h
        refine Ev.step (f := fun k => stowageref01_Get.l0 k l s 0 0) (fun k => ?_) h
        simp only [stowageref01_Get.j0]
        rw [if_neg (by decide), if_neg hl]
  · rw [if_neg hs]
    have hs' : okS s = false := by simpa using hs
    have hr := (okS_no s).1 hs'
    refine Ev.congr (f := fun k => stowageref01_Get.j0 k l s true) (fun k => ?_) (Ev.step (f := fun _ => some (0, 1)) (fun k => by simp [stowageref01_Get.j0]) (Ev.now _))
    unfold stowageref01_Get.f
    by_cases h1 : s < 1
    · rw [if_pos h1]
    · rw [if_neg h1, decide_eq_true (by omega)]

/-! ### Split -/
theorem sum_eq : ∀ (z : List Int) (a : Int), z.foldl (· + ·) a = a + sum z
  | [], a => by simp [sum]
  | s :: z, a => by
    have h1 := sum_eq z (a + s)
    have h2 := sum_eq z (0 + s)
    simp only [sum, List.foldl_cons] at *
    omega
theorem sum_cons (s : Int) (z : List Int) : sum (s :: z) = s + sum z := by
  have := sum_eq z (0 + s)
  simp only [sum, List.foldl_cons] at *
  omega
theorem sum_range : ∀ (z : List Int), z.all okS = true → 0 ≤ sum z ∧ sum z ≤ 8 * z.length
  | [], _ => by simp [sum]
  | s :: z, h => by
    rw [List.all_cons, Bool.and_eq_true] at h
    have h1 := (okS_iff s).1 h.1
    have h2 := sum_range z h.2
    rw [sum_cons]
    simp only [List.length_cons]
    omega
theorem split_l1 (z : List Int) (hm : z.length ≤ 4096) : ∀ (d i : Nat) (b out : List Int), Bytes b → i + d = z.length → (z.drop i).all okS = true → sum (z.drop i) = b.length → out.length ≤ i →
    Ev (fun k => pack_Split.l1 k b out z (z.length : Int) (i : Int)) (out ++ splitGo b (z.drop i), 0) := by
  intro d
  induction d with
  | zero =>
    intro i b out hb hi ha hs ho
    rw [drop_all z i (by omega)]
    refine Ev.step (f := fun _ => some (out, 0)) (fun k => ?_) (by simpa [splitGo] using Ev.now (out, (0 : Int)))
    simp only [pack_Split.l1]
    rw [if_neg (by omega)]
  | succ d ih =>
    intro i b out hb hi ha hs ho
    have hiz : i < z.length := by omega
    rw [drop_rd z i hiz, List.all_cons, Bool.and_eq_true] at ha
    rw [drop_rd z i hiz, sum_cons] at hs
    have hsr := (okS_iff _).1 ha.1
    have hsum := sum_range _ ha.2
    rw [drop_rd z i hiz]
    simp only [splitGo]
    have hg := get_ev (b.take (rd z (i : Int)).toNat) (fun x hx => hb x (List.mem_of_mem_take hx)) (by simp; omega)
    have hr := ih (i + 1) (b.drop (rd z (i : Int)).toNat) (out ++ [val 0 (b.take (rd z (i : Int)).toNat)]) (fun x hx => hb x (List.mem_of_mem_drop hx)) (by omega) ha.2 (by simp; omega) (by simp; omega)
    refine Ev.step (f := fun k => (pack_get.f k (b.take (rd z (i : Int)).toNat)).bind fun t => if out.length < 17592186044416 then pack_Split.l1 k (b.drop (rd z (i : Int)).toNat) (out ++ [t]) z (z.length : Int) ((i + 1 : Nat) : Int) else none) (fun k => ?_) (Ev.bind hg ?_)
    · simp only [pack_Split.l1]
      rw [if_pos (by omega), if_pos (by omega), if_pos (by omega), if_pos (by omega), if_pos (by omega), wrap64_succ i (by omega)]
    · have e : out.length < 17592186044416 := by omega
      simp only [e, if_true]
      rw [List.append_assoc] at hr
      exact hr
def splitEnd (b z : List Int) : List Int × Int := if (b.length : Int) < sum z then ([], 3) else if (b.length : Int) > sum z then ([], 2) else (splitGo b z, 0)
theorem split_l0 (b z : List Int) (hb : Bytes b) (hm : z.length ≤ 4096) : ∀ (d i : Nat) (a : Int), i + d = z.length → (z.take i).all okS = true → a = sum (z.take i) →
    Ev (fun k => pack_Split.l0 k b z a z (z.length : Int) (i : Int)) (if z.all okS = true then splitEnd b z else ([], 1)) := by
  intro d
  induction d with
  | zero =>
    intro i a hi ha hs
    rw [List.take_of_length_le (by omega)] at ha hs
    rw [if_pos ha]
    subst hs
    unfold splitEnd
    by_cases h1 : (b.length : Int) < sum z
    · rw [if_pos h1]
      refine Ev.step (f := fun _ => some (([] : List Int), 3)) (fun k => ?_) (Ev.now _)
      simp only [pack_Split.l0]
      rw [if_neg (by omega), if_pos h1]
    · by_cases h2 : (b.length : Int) > sum z
      · rw [if_neg h1, if_pos h2]
        refine Ev.step (f := fun _ => some (([] : List Int), 2)) (fun k => ?_) (Ev.now _)
        simp only [pack_Split.l0]
        rw [if_neg (by omega), if_neg h1, if_pos h2]
      · rw [if_neg h1, if_neg h2]
        have := split_l1 z hm z.length 0 b [] hb (by omega) (by simpa using ha) (by simp; omega) (by simp)
        refine Ev.step (f := fun k => pack_Split.l1 k b [] z (z.length : Int) 0) (fun k => ?_) (by simpa using this)
        simp only [pack_Split.l0]
        rw [if_neg (by omega), if_neg h1, if_neg h2]
  | succ d ih =>
    intro i a hi ha hs
    have hiz : i < z.length := by omega
    have hr0 := sum_range _ ha
    have hlen : (z.take i).length ≤ i := List.length_take_le _ _
    by_cases hk : okS (rd z (i : Int)) = true
    · have hsr := (okS_iff _).1 hk
      have es : sum (z.take (i + 1)) = sum (z.take i) + rd z (i : Int) := by
        rw [take_rd z i hiz]
        have := sum_eq [rd z (i : Int)] (sum (z.take i))
        simp only [sum, List.foldl_append, List.foldl_cons, List.foldl_nil] at *
      have := ih (i + 1) (a + rd z (i : Int)) (by omega) (by rw [take_rd z i hiz, List.all_append, ha]; simp [hk]) (by rw [es, hs])
      refine Ev.step (f := fun k => pack_Split.l0 k b z (a + rd z (i : Int)) z (z.length : Int) ((i + 1 : Nat) : Int)) (fun k => ?_) this
      simp only [pack_Split.l0]
      rw [if_pos (by omega), if_pos (by omega), if_pos (by omega), right_eq, hk, wrap64_succ i (by omega), wrap64_id (a + rd z (i : Int)) (by omega) (by omega)]
      rfl
    · have hk' : okS (rd z (i : Int)) = false := by simpa using hk
      rw [if_neg (fun hc => hk (List.all_eq_true.1 hc _ (rd_mem z i hiz)))]
      refine Ev.step (f := fun _ => some (([] : List Int), 1)) (fun k => ?_) (Ev.now _)
      simp only [pack_Split.l0]
      rw [if_pos (by omega), if_pos (by omega), if_pos (by omega), right_eq, hk']
      rfl
theorem splitS_eq (b z : List Int) : splitS b z = if (z.length : Int) > 4096 then ([], 1) else if z.all okS = true then splitEnd b z else ([], 1) := rfl
theorem split_ev (b z : List Int) (hb : Bytes b) : Ev (fun k => pack_Split.f k b z) (splitS b z) := by
  rw [splitS_eq]
  by_cases h : (z.length : Int) > 4096
  · rw [if_pos h]
    refine Ev.congr (f := fun _ => some (([] : List Int), 1)) (fun k => ?_) (Ev.now _)
    unfold pack_Split.f
    rw [if_pos h]
  · rw [if_neg h]
    refine Ev.congr (f := fun k => pack_Split.l0 k b z 0 z (z.length : Int) ((0 : Nat) : Int)) (fun k => ?_) (split_l0 b z hb (by omega) z.length 0 0 (by omega) (by simp) (by simp [sum]))
    unfold pack_Split.f
    rw [if_neg h]
    rfl

/-! ### the reference: Same -/
theorem same_loop (l : List Int) (hl : l.length < 9223372036854775807) : ∀ (d i : Nat), i + d = l.length → Ev (fun k => stowageref01_Same.l0 k l l (i : Int)) true := by
  intro d
  induction d with
  | zero =>
    intro i hi
    refine Ev.step (f := fun _ => some true) (fun k => ?_) (Ev.now _)
    simp only [stowageref01_Same.l0]
    rw [if_neg (by omega)]
  | succ d ih =>
    intro i hi
    refine Ev.step (f := fun k => stowageref01_Same.l0 k l l ((i + 1 : Nat) : Int)) (fun k => ?_) (ih (i + 1) (by omega))
    simp only [stowageref01_Same.l0]
    rw [if_pos (by omega), if_pos (by omega), if_pos (by omega), if_pos trivial, wrap64_succ i (by omega)]
theorem same_ev (l : List Int) (hl : l.length < 9223372036854775807) : Ev (fun k => stowageref01_Same.f k l l) true := by
  refine Ev.congr (f := fun k => stowageref01_Same.l0 k l l ((0 : Nat) : Int)) (fun k => ?_) (same_loop l hl l.length 0 (by omega))
  unfold stowageref01_Same.f
  rw [if_pos rfl]
  rfl

/-! ### the reference: Split -/
theorem getS_take (b : List Int) (s : Int) (hs : okS s = true) (h : s ≤ b.length) : getS b s = (val 0 (b.take s.toNat), 0) := by
  unfold getS
  rw [if_pos hs, if_neg (by omega)]
theorem rs_l1 (b z : List Int) (hb : Bytes b) (hlb : b.length < 9223372036854775807) (hm : z.length ≤ 4096) (hz : z.all okS = true) : ∀ (d i : Nat) (a : Nat) (out : List Int), i + d = z.length → (a : Int) + sum (z.drop i) = b.length → out.length ≤ i →
    Ev (fun k => stowageref01_Split.l1 k b z out (a : Int) (i : Int)) (out ++ splitGo (b.drop a) (z.drop i), 0) := by
  intro d
  induction d with
  | zero =>
    intro i a out hi hs ho
    rw [drop_all z i (by omega)]
    refine Ev.step (f := fun _ => some (out, 0)) (fun k => ?_) (by simpa [splitGo] using Ev.now (out, (0 : Int)))
    simp only [stowageref01_Split.l1]
    rw [if_neg (by omega)]
  | succ d ih =>
    intro i a out hi hs ho
    have hiz : i < z.length := by omega
    have hk : okS (rd z (i : Int)) = true := List.all_eq_true.1 hz _ (rd_mem z i hiz)
    have hsr := (okS_iff _).1 hk
    rw [drop_rd z i hiz, sum_cons] at hs
    have hsum := sum_range (z.drop (i + 1)) (List.all_eq_true.2 fun x hx => List.all_eq_true.1 hz x (List.mem_of_mem_drop hx))
    rw [drop_rd z i hiz]
    simp only [splitGo]
    have hg := rget_ev (b.drop a) (rd z (i : Int)) (fun x hx => hb x (List.mem_of_mem_drop hx))
    rw [getS_take _ _ hk (by simp; omega)] at hg
    have ea : ((a + (rd z (i : Int)).toNat : Nat) : Int) = (a : Int) + rd z (i : Int) := by omega
    have hr := ih (i + 1) (a + (rd z (i : Int)).toNat) (out ++ [val 0 ((b.drop a).take (rd z (i : Int)).toNat)]) (by omega) (by omega) (by simp; omega)
    rw [List.append_assoc, ← List.drop_drop, ea] at hr
    refine Ev.step (f := fun k => (stowageref01_Get.f k (b.drop a) (rd z (i : Int))).bind fun bt => if out.length < 17592186044416 then stowageref01_Split.l1 k b z (out ++ [bt.1]) ((a : Int) + rd z (i : Int)) ((i + 1 : Nat) : Int) else none) (fun k => ?_) (Ev.bind hg ?_)
    · simp only [stowageref01_Split.l1]
      rw [if_pos (by omega), if_pos (by omega), if_pos (by omega), if_pos (by omega), wrap64_succ i (by omega), Int.toNat_natCast, wrap64_id ((a : Int) + rd z (i : Int)) (by omega) (by omega)]
    · have e : out.length < 17592186044416 := by omega
      simp only [e, if_true]
      exact hr
theorem rs_l0 (b z : List Int) (hb : Bytes b) (hlb : b.length < 9223372036854775807) (hm : z.length ≤ 4096) : ∀ (d i : Nat) (a : Int), i + d = z.length → (z.take i).all okS = true → a = sum (z.take i) →
    Ev (fun k => stowageref01_Split.l0 k b z a (i : Int)) (if z.all okS = true then splitEnd b z else ([], 1)) := by
  intro d
  induction d with
  | zero =>
    intro i a hi ha hs
    rw [List.take_of_length_le (by omega)] at ha hs
    rw [if_pos ha]
    subst hs
    unfold splitEnd
    by_cases h1 : (b.length : Int) < sum z
    · rw [if_pos h1]
      refine Ev.step (f := fun _ => some (([] : List Int), 3)) (fun k => ?_) (Ev.now _)
      simp only [stowageref01_Split.l0]
      rw [if_neg (by omega), if_pos h1]
    · by_cases h2 : (b.length : Int) > sum z
      · rw [if_neg h1, if_pos h2]
        refine Ev.step (f := fun _ => some (([] : List Int), 2)) (fun k => ?_) (Ev.now _)
        simp only [stowageref01_Split.l0]
        rw [if_neg (by omega), if_neg h1, if_pos h2]
      · rw [if_neg h1, if_neg h2]
        have := rs_l1 b z hb hlb hm ha z.length 0 0 [] (by omega) (by simp; omega) (by simp)
        refine Ev.step (f := fun k => stowageref01_Split.l1 k b z [] 0 0) (fun k => ?_) (by simpa using this)
        simp only [stowageref01_Split.l0]
        rw [if_neg (by omega), if_neg h1, if_neg h2]
  | succ d ih =>
    intro i a hi ha hs
    have hiz : i < z.length := by omega
    have hr0 := sum_range _ ha
    have hlen : (z.take i).length ≤ i := List.length_take_le _ _
    by_cases hk : okS (rd z (i : Int)) = true
    · have hsr := (okS_iff _).1 hk
      have es : sum (z.take (i + 1)) = sum (z.take i) + rd z (i : Int) := by
        rw [take_rd z i hiz]
        have := sum_eq [rd z (i : Int)] (sum (z.take i))
        simp only [sum, List.foldl_append, List.foldl_cons, List.foldl_nil] at *
      have := ih (i + 1) (a + rd z (i : Int)) (by omega) (by rw [take_rd z i hiz, List.all_append, ha]; simp [hk]) (by rw [es, hs])
      refine Ev.step (f := fun k => stowageref01_Split.l0 k b z (a + rd z (i : Int)) ((i + 1 : Nat) : Int)) (fun k => ?_) this
      simp only [stowageref01_Split.l0]
      rw [if_pos (by omega), if_pos (by omega), if_neg (by omega), if_neg (by omega), wrap64_succ i (by omega), wrap64_id (a + rd z (i : Int)) (by omega) (by omega)]
    · have hk' : okS (rd z (i : Int)) = false := by simpa using hk
      have hsr := (okS_no _).1 hk'
      rw [if_neg (fun hc => hk (List.all_eq_true.1 hc _ (rd_mem z i hiz)))]
      refine Ev.step (f := fun _ => some (([] : List Int), 1)) (fun k => ?_) (Ev.now _)
      simp only [stowageref01_Split.l0]
      rw [if_pos (by omega), if_pos (by omega)]
      by_cases h1 : rd z (i : Int) < 1
      · rw [if_pos h1]
      · rw [if_neg h1, if_pos (by omega)]
theorem rsplit_ev (b z : List Int) (hb : Bytes b) (hlb : b.length < 9223372036854775807) : Ev (fun k => stowageref01_Split.f k b z) (splitS b z) := by
  rw [splitS_eq]
  by_cases h : (z.length : Int) > 4096
  · rw [if_pos h]
    refine Ev.congr (f := fun _ => some (([] : List Int), 1)) (fun k => ?_) (Ev.now _)
    unfold stowageref01_Split.f
    rw [if_pos h]
  · rw [if_neg h]
    refine Ev.congr (f := fun k => stowageref01_Split.l0 k b z 0 ((0 : Nat) : Int)) (fun k => ?_) (rs_l0 b z hb hlb (by omega) z.length 0 0 (by omega) (by simp) (by simp [sum]))
    unfold stowageref01_Split.f
    rw [if_neg h]
    rfl

/-! ### the law -/
theorem splitGo_length : ∀ (z b : List Int), (splitGo b z).length = z.length
  | [], b => by simp [splitGo]
  | s :: z, b => by simp [splitGo, splitGo_length z]
theorem PackSplits : stowagelaw01_PackSplits.Pure := by
  intro b z _ hb1 hbw _ hz1 _
  have hb := bytes_of_wf hbw
  apply Ev.rounds
  unfold stowagelaw01_PackSplits.f
  refine Ev.bind (split_ev b z hb) (Ev.bind (rsplit_ev b z hb (by omega)) (Ev.bind awake_ev ?_))
  simp only [if_true]
  refine Ev.bind (same_ev _ ?_) (Ev.now true)
  rw [splitS_eq]
  unfold splitEnd
  have := splitGo_length z b
  repeat' split
  all_goals (simp; try omega)

end Go.Proofs.Ytcboebfaaebneaa.Pure
