/- PackPuts: for every number and size, what pack.Put writes is what the reference writes. No condition. -/
import Derived.Test.YtcboebfaaebneaaQPackPutsx3
import Derived.Test.YtcboebfaaebneaaPackPlain
namespace Go.Proofs.Ytcboebfaaebneaa.Pure
open Go.RowKit Go.Proofs.Ytcboebfaaebneaa.QPackPuts Go.Proofs.YtcboebfaaebneaaW.PrintWords Go.Proofs.YtcboebfaaebneaaW.PrintLast Go.Proofs.Ytcboebfaaebneaa.PackPlain

/-! ### put, fits, right -/
theorem put_loop (n : Int) : ∀ (d : Nat) (b : List Int), d ≤ 8 → b.length + d ≤ 140737488355328 → Ev (fun k => pack_put.l0 k b n ((d : Int) - 1)) (b ++ be n d)
  | 0, b, _, _ => by
    refine Ev.step (f := fun _ => some b) (fun k => ?_) (by simpa [be] using Ev.now b)
    simp only [pack_put.l0]
    rw [if_neg (by omega)]
  | d + 1, b, hd, hb => by
    have ih := put_loop n d (b ++ [n / 256 ^ d % 256]) (by omega) (by simp; omega)
    have e : (((d + 1 : Nat) : Int) - 1) = (d : Int) := by omega
    simp only [e]
    refine Ev.step (f := fun k => pack_put.l0 k (b ++ [n / 256 ^ d % 256]) n ((d : Int) - 1)) (fun k => ?_) ?_
    · simp only [pack_put.l0]
      rw [if_pos (by omega), if_pos (by rw [wrap64_id _ (by omega) (by omega)]; omega), if_pos (by omega), shr8 n d (by omega), wrap64_id ((d : Int) - 1) (by omega) (by omega)]
    · rw [List.append_assoc] at ih
      exact ih
theorem put_ev (b : List Int) (n s : Int) (hs : okS s = true) (hb : b.length + 8 ≤ 140737488355328) : Ev (fun k => pack_put.f k b n s) (b ++ be n s.toNat) := by
  have h := (okS_iff s).1 hs
  have := put_loop n s.toNat b (by omega) (by omega)
  have e : ((s.toNat : Int) - 1) = wrap64 (s - 1) := by rw [wrap64_id _ (by omega) (by omega)]; omega
  simp only [e] at this
  exact this
theorem fits_eq (n s : Int) (h0 : 0 ≤ n) (h1 : n < 18446744073709551616) (hs : okS s = true) : pack_fits.f n s = some (fitS n s) := by
  have h := (okS_iff s).1 hs
  unfold pack_fits.f
  by_cases h8 : s = 8
  · subst h8
    rw [if_pos rfl, fitS8 n h1]
  · rw [if_neg h8]
    obtain ⟨t, rfl⟩ := Int.eq_ofNat_of_zero_le (show 0 ≤ s by omega)
    rw [if_pos (by rw [wrap64_id _ (by omega) (by omega)]; omega), shr8 n t (by omega)]
    congr 1
    unfold fitS
    rw [Int.toNat_natCast]
    have hp := pow_pos t
    by_cases hf : n < 256 ^ t
    · rw [Int.ediv_eq_zero_of_lt h0 hf]
      simp [hf]
    · have : 1 ≤ n / 256 ^ t := Int.le_ediv_of_mul_le hp (by omega)
      have h2 : n / 256 ^ t ≠ 0 := by omega
      simp [hf, h2]
theorem right_eq (s : Int) : pack_right.f s = some (okS s) := by
  unfold pack_right.f okS
  by_cases h : s ≥ 1
  · rw [if_pos h]
    have : (1 ≤ s) := h
    simp [this]
  · rw [if_neg h]
    have : ¬ (1 ≤ s) := h
    simp [this]

/-! ### Fields -/
theorem fields_l1 (l z : List Int) (hl : Nums l) (hlz : l.length = z.length) (hm : l.length ≤ 4096) (hz : z.all okS = true) : ∀ (d i : Nat) (out : List Int), i + d = l.length → out.length ≤ 8 * i →
    Ev (fun k => pack_Fields.l1 k z out l (l.length : Int) (i : Int)) (fieldsGo (l.drop i) (z.drop i) out) := by
  intro d
  induction d with
  | zero =>
    intro i out hi ho
    rw [drop_all l i (by omega)]
    refine Ev.step (f := fun _ => some (out, 0)) (fun k => ?_) (by simpa [fieldsGo] using Ev.now (out, (0 : Int)))
    simp only [pack_Fields.l1]
    rw [if_neg (by omega)]
  | succ d ih =>
    intro i out hi ho
    have hil : i < l.length := by omega
    have hiz : i < z.length := by omega
    have hs : okS (rd z (i : Int)) = true := List.all_eq_true.1 hz _ (rd_mem z i hiz)
    obtain ⟨hn0, hn1⟩ := hl _ (rd_mem l i hil)
    rw [drop_rd l i hil, drop_rd z i hiz]
    refine Ev.step (f := fun k => if fitS (rd l (i : Int)) (rd z (i : Int)) = true then (pack_put.f k out (rd l (i : Int)) (rd z (i : Int))).bind fun t => pack_Fields.l1 k z t l (l.length : Int) ((i + 1 : Nat) : Int) else some (([] : List Int), 7)) (fun k => ?_) ?_
    · simp only [pack_Fields.l1]
      rw [if_pos (by omega), if_pos (by omega), if_pos (by omega), if_pos (by omega), fits_eq _ _ hn0 hn1 hs, wrap64_succ i (by omega)]
      rfl
    · simp only [fieldsGo]
      by_cases hf : fitS (rd l (i : Int)) (rd z (i : Int)) = true
      · simp only [hf, if_true]
        have hsr := (okS_iff _).1 hs
        exact Ev.bind (put_ev out _ _ hs (by omega)) (ih (i + 1) _ (by omega) (by simp [be_length]; omega))
      · simp only [hf]
        exact Ev.now _
theorem fields_l0_ok (l z : List Int) {r : List Int × Int} (hm : z.length ≤ 4096) (h : Ev (fun k => pack_Fields.l1 k z [] l (l.length : Int) 0) r) : ∀ (d i : Nat), i + d = z.length → (z.drop i).all okS = true →
    Ev (fun k => pack_Fields.l0 k l z z (z.length : Int) (i : Int)) r := by
  intro d
  induction d with
  | zero =>
    intro i hi ha
    refine Ev.step (f := fun k => pack_Fields.l1 k z [] l (l.length : Int) 0) (fun k => ?_) h
    simp only [pack_Fields.l0]
    rw [if_neg (by omega)]
  | succ d ih =>
    intro i hi ha
    have hiz : i < z.length := by omega
    rw [drop_rd z i hiz, List.all_cons, Bool.and_eq_true] at ha
    refine Ev.step (f := fun k => pack_Fields.l0 k l z z (z.length : Int) ((i + 1 : Nat) : Int)) (fun k => ?_) (ih (i + 1) (by omega) ha.2)
    simp only [pack_Fields.l0]
    rw [if_pos (by omega), if_pos (by omega), if_pos (by omega), right_eq, ha.1, wrap64_succ i (by omega)]
    rfl
theorem fields_l0_no (l z : List Int) (hm : z.length ≤ 4096) : ∀ (d i : Nat), i + d = z.length → (z.drop i).all okS = false →
    Ev (fun k => pack_Fields.l0 k l z z (z.length : Int) (i : Int)) (([] : List Int), 1) := by
  intro d
  induction d with
  | zero =>
    intro i hi ha
    rw [drop_all z i (by omega)] at ha
    cases ha
  | succ d ih =>
    intro i hi ha
    have hiz : i < z.length := by omega
    rw [drop_rd z i hiz, List.all_cons] at ha
    by_cases hs : okS (rd z (i : Int)) = true
    · rw [hs, Bool.true_and] at ha
      refine Ev.step (f := fun k => pack_Fields.l0 k l z z (z.length : Int) ((i + 1 : Nat) : Int)) (fun k => ?_) (ih (i + 1) (by omega) ha)
      simp only [pack_Fields.l0]
      rw [if_pos (by omega), if_pos (by omega), if_pos (by omega), right_eq, hs, wrap64_succ i (by omega)]
      rfl
    · have hs' : okS (rd z (i : Int)) = false := by simpa using hs
      refine Ev.step (f := fun _ => some (([] : List Int), 1)) (fun k => ?_) (Ev.now _)
      simp only [pack_Fields.l0]
      rw [if_pos (by omega), if_pos (by omega), if_pos (by omega), right_eq, hs']
      rfl
theorem fields_ev (l z : List Int) (hl : Nums l) : Ev (fun k => pack_Fields.f k l z) (fieldsS l z) := by
  unfold fieldsS
  by_cases h1 : l.length = z.length
  · have e1 : (l.length : Int) = (z.length : Int) := by omega
    by_cases h2 : l.length ≤ 4096
    · by_cases h3 : z.all okS = true
      · rw [if_pos ⟨h1, h2, h3⟩]
        have hg := fields_l0_ok l z (by omega) (by simpa using fields_l1 l z hl h1 h2 h3 l.length 0 [] (by omega) (by simp)) z.length 0 (by omega) (by simpa using h3)
        refine Ev.congr (f := fun k => pack_Fields.j0 k l z false) (fun k => ?_) (Ev.step (f := fun k => pack_Fields.l0 k l z z (z.length : Int) 0) (fun k => ?_) hg)
        · unfold pack_Fields.f
          rw [if_pos e1, decide_eq_false (by omega)]
        · simp [pack_Fields.j0]
      · have h3' : z.all okS = false := by simpa using h3
        rw [if_neg (fun h => h3 h.2.2)]
        have hg := fields_l0_no l z (by omega) z.length 0 (by omega) (by simpa using h3')
        refine Ev.congr (f := fun k => pack_Fields.j0 k l z false) (fun k => ?_) (Ev.step (f := fun k => pack_Fields.l0 k l z z (z.length : Int) 0) (fun k => ?_) hg)
        · unfold pack_Fields.f
          rw [if_pos e1, decide_eq_false (by omega)]
        · simp [pack_Fields.j0]
    · rw [if_neg (fun h => h2 h.2.1)]
      refine Ev.congr (f := fun k => pack_Fields.j0 k l z true) (fun k => ?_) (Ev.step (f := fun _ => some (([] : List Int), 1)) (fun k => ?_) (Ev.now _))
      · unfold pack_Fields.f
        rw [if_pos e1, decide_eq_true (by omega)]
      · simp [pack_Fields.j0]
  · rw [if_neg (fun h => h1 h.1)]
    refine Ev.congr (f := fun k => pack_Fields.j0 k l z true) (fun k => ?_) (Ev.step (f := fun _ => some (([] : List Int), 1)) (fun k => ?_) (Ev.now _))
    · unfold pack_Fields.f
      rw [if_neg (by omega)]
    · simp [pack_Fields.j0]
theorem put1_ev (n s : Int) (h0 : 0 ≤ n) (h1 : n < 18446744073709551616) : Ev (fun k => pack_Put.f k n s) (fieldsS [n] [s]) := by
  have h := fields_ev [n] [s] (by intro x hx; simp at hx; subst hx; exact ⟨h0, h1⟩)
  exact Ev.bind (f := fun _ bt => some (bt.1, bt.2)) h (Ev.now _)

/-! ### get, Get -/
theorem get_loop (l : List Int) (hb : Bytes l) (hl : l.length ≤ 8) : ∀ (d i : Nat) (a : Int), i + d = l.length → 0 ≤ a → a < 256 ^ i → Ev (fun k => pack_get.l0 k a l (l.length : Int) (i : Int)) (val a (l.drop i)) := by
  intro d
  induction d with
  | zero =>
    intro i a hi h0 h1
    rw [drop_all l i (by omega)]
    refine Ev.step (f := fun _ => some a) (fun k => ?_) (Ev.now _)
    simp only [pack_get.l0]
    rw [if_neg (by omega)]
  | succ d ih =>
    intro i a hi h0 h1
    have hil : i < l.length := by omega
    obtain ⟨hx0, hx1⟩ := hb _ (rd_mem l i hil)
    have hp := pow_le8 (i + 1) (by omega)
    rw [Int.pow_succ] at hp
    rw [drop_rd l i hil]
    refine Ev.step (f := fun k => pack_get.l0 k (a * 256 + rd l (i : Int)) l (l.length : Int) ((i + 1 : Nat) : Int)) (fun k => ?_) (ih (i + 1) _ (by omega) (by omega) (by rw [Int.pow_succ]; omega))
    simp only [pack_get.l0]
    rw [if_pos (by omega), if_pos (by omega), if_pos (by omega), or_byte a _ h0 (by omega) hx0 hx1, wrap64_succ i (by omega)]
theorem get_ev (l : List Int) (hb : Bytes l) (hl : l.length ≤ 8) : Ev (fun k => pack_get.f k l) (val 0 l) := by
  have := get_loop l hb hl l.length 0 0 (by omega) (by omega) (by simp)
  exact Ev.congr (f := fun k => pack_get.l0 k 0 l (l.length : Int) 0) (fun k => rfl) (by simpa using this)
theorem get1_ev (l : List Int) (s : Int) (hb : Bytes l) : Ev (fun k => pack_Get.f k l s) (getS l s) := by
  unfold getS
  by_cases hs : okS s = true
  · have hr := (okS_iff s).1 hs
    rw [if_pos hs]
    by_cases hl : (l.length : Int) < s
    · rw [if_pos hl]
      refine Ev.congr (f := fun _ => some (0, 3)) (fun k => ?_) (Ev.now _)
      unfold pack_Get.f
      rw [right_eq, hs, Option.bind_some, if_pos rfl, if_pos hl]
    · rw [if_neg hl]
      refine Ev.congr (f := fun k => (pack_get.f k (l.take s.toNat)).bind fun t => some (t, 0)) (fun k => ?_) (Ev.bind (f := fun _ t => some (t, 0)) (get_ev _ (fun x hx => hb x (List.mem_of_mem_take hx)) (by simp; omega)) (Ev.now _))
      unfold pack_Get.f
      rw [right_eq, hs, Option.bind_some, if_pos rfl, if_neg hl, if_pos (by omega), if_pos (by omega)]
  · have hs' : okS s = false := by simpa using hs
    rw [if_neg hs]
    refine Ev.congr (f := fun _ => some (0, 1)) (fun k => ?_) (Ev.now _)
    unfold pack_Get.f
    rw [right_eq, hs', Option.bind_some]
    rfl
theorem awake_ev : Ev (fun k => stowagelaw01_awake.f k) true := by
  have h1 := put1_ev 258 3 (by decide) (by decide)
  have h2 := get1_ev [1, 2] 2 (by intro x hx; simp at hx; omega)
  have e1 : fieldsS [258] [3] = ([0, 1, 2], 0) := by decide
  have e2 : getS [1, 2] 2 = (258, 0) := by decide
  rw [e1] at h1
  rw [e2] at h2
  unfold stowagelaw01_awake.f
  refine Ev.bind h1 (Ev.bind h2 ?_)
  have e3 : (strOfNums [0, 1, 2]).toList = ([0, 1, 2] : List UInt8) := by rw [str_list]; rfl
  simp only [if_true, e3]
  exact Ev.now true

/-! ### the reference: power, Fields -/
theorem power_loop (n : Nat) (hn : n ≤ 7) : ∀ (d i : Nat), i + d = n → Ev (fun k => stowageref01_power.l0 k (n : Int) (256 ^ i) (i : Int)) (256 ^ n) := by
  intro d
  induction d with
  | zero =>
    intro i hi
    refine Ev.step (f := fun _ => some (256 ^ n)) (fun k => ?_) (Ev.now _)
    simp only [stowageref01_power.l0]
    rw [if_neg (by omega), show i = n by omega]
  | succ d ih =>
    intro i hi
    have hp := pow_le8 (i + 1) (by omega)
    have hp7 := pow_mono (show i + 1 ≤ 7 by omega)
    have h7 : (256 : Int) ^ 7 = 72057594037927936 := by decide
    have h0 := pow_pos i
    refine Ev.step (f := fun k => stowageref01_power.l0 k (n : Int) (256 ^ (i + 1)) ((i + 1 : Nat) : Int)) (fun k => ?_) (ih (i + 1) (by omega))
    simp only [stowageref01_power.l0]
    rw [Int.pow_succ] at hp hp7 ⊢
    rw [if_pos (by omega), u64_id _ (by omega) (by omega), wrap64_succ i (by omega)]
theorem power_ev (n : Nat) (hn : n ≤ 7) : Ev (fun k => stowageref01_power.f k (n : Int)) (256 ^ n) := by
  have h := power_loop n hn n 0 (by omega)
  exact Ev.congr (f := fun k => stowageref01_power.l0 k (n : Int) (256 ^ 0) ((0 : Nat) : Int)) (fun k => rfl) h
theorem rf_l2 (l z : List Int) (i : Nat) (hi : i < l.length) (n : Int) (hn : rd l (i : Int) = n) (h0 : 0 ≤ n) (h1 : n < 18446744073709551616) {R : List Int → List Int × Int} {B : Nat} (hB : B ≤ 140737488355328)
    (hR : ∀ out, out.length ≤ B → Ev (fun k => stowageref01_Fields.l1 k l z out ((i + 1 : Nat) : Int)) (R out)) (hlen : l.length ≤ 4096) : ∀ (d : Nat) (out : List Int), d ≤ 8 → out.length + d ≤ B →
    Ev (fun k => stowageref01_Fields.l2 k l z out (i : Int) ((d : Int) - 1)) (R (out ++ be n d))
  | 0, out, _, hb => by
    have hr := hR out (by omega)
    refine Ev.step (f := fun k => stowageref01_Fields.l1 k l z out ((i + 1 : Nat) : Int)) (fun k => ?_) (by simpa [be] using hr)
    simp only [stowageref01_Fields.l2]
    rw [if_neg (by omega), wrap64_succ i (by omega)]
  | d + 1, out, hd, hb => by
    have ih := rf_l2 l z i hi n hn h0 h1 hB hR hlen d (out ++ [n / 256 ^ d % 256]) (by omega) (by simp; omega)
    have e : (((d + 1 : Nat) : Int) - 1) = (d : Int) := by omega
    simp only [e]
    have hp0 := pow_pos d
    have hq0 : 0 ≤ n / 256 ^ d := Int.ediv_nonneg h0 (Int.le_of_lt hp0)
    have hq1 : n / 256 ^ d ≤ n := Int.ediv_le_self _ h0
    refine Ev.step (f := fun k => (stowageref01_power.f k (d : Int)).bind fun t => if t = 0 then none else if out.length < 140737488355328 then stowageref01_Fields.l2 k l z (out ++ [Int.tmod (IntKind.u64.wrap (Int.tdiv n t)) 256 % 256]) (i : Int) ((d : Int) - 1) else none) (fun k => ?_) (Ev.bind (power_ev d (by omega)) ?_)
    · simp only [stowageref01_Fields.l2]
      rw [if_pos (by omega), if_pos (by omega), if_pos (by omega), hn, wrap64_id ((d : Int) - 1) (by omega) (by omega)]
    · have e2 : ¬ ((256 : Int) ^ d = 0) := by omega
      have e3 : out.length < 140737488355328 := by omega
      have e4 : Int.tmod (IntKind.u64.wrap (Int.tdiv n (256 ^ d))) 256 % 256 = n / 256 ^ d % 256 := by
        rw [Int.tdiv_eq_ediv_of_nonneg h0, u64_id _ hq0 (by omega), Int.tmod_eq_emod_of_nonneg hq0]
        omega
      simp only [e2, if_false, e3, if_true, e4]
      rw [List.append_assoc] at ih
      exact ih
theorem rf_l1 (l z : List Int) (hl : Nums l) (hlz : l.length = z.length) (hm : l.length ≤ 4096) (hz : z.all okS = true) : ∀ (d i : Nat) (out : List Int), i + d = l.length → out.length ≤ 8 * i →
    Ev (fun k => stowageref01_Fields.l1 k l z out (i : Int)) (fieldsGo (l.drop i) (z.drop i) out) := by
  intro d
  induction d with
  | zero =>
    intro i out hi ho
    rw [drop_all l i (by omega)]
    refine Ev.step (f := fun _ => some (out, 0)) (fun k => ?_) (by simpa [fieldsGo] using Ev.now (out, (0 : Int)))
    simp only [stowageref01_Fields.l1]
    rw [if_neg (by omega)]
  | succ d ih =>
    intro i out hi ho
    have hil : i < l.length := by omega
    have hiz : i < z.length := by omega
    have hs : okS (rd z (i : Int)) = true := List.all_eq_true.1 hz _ (rd_mem z i hiz)
    have hsr := (okS_iff _).1 hs
    obtain ⟨hn0, hn1⟩ := hl _ (rd_mem l i hil)
    rw [drop_rd l i hil, drop_rd z i hiz]
    simp only [fieldsGo]
    have hj : Ev (fun k => stowageref01_Fields.j3 k l z out (i : Int) (!fitS (rd l (i : Int)) (rd z (i : Int)))) (if fitS (rd l (i : Int)) (rd z (i : Int)) = true then fieldsGo (l.drop (i + 1)) (z.drop (i + 1)) (out ++ be (rd l (i : Int)) (rd z (i : Int)).toNat) else ([], 7)) := by
      by_cases hf : fitS (rd l (i : Int)) (rd z (i : Int)) = true
      · rw [if_pos hf, hf]
        have h2 := rf_l2 l z i hil _ rfl hn0 hn1 (R := fun out => fieldsGo (l.drop (i + 1)) (z.drop (i + 1)) out) (B := 8 * (i + 1)) (by omega) (fun out ho => ih (i + 1) out (by omega) ho) hm (rd z (i : Int)).toNat out (by omega) (by omega)
        refine Ev.step (f := fun k => stowageref01_Fields.l2 k l z out (i : Int) (((rd z (i : Int)).toNat : Int) - 1)) (fun k => ?_) h2
        simp only [stowageref01_Fields.j3]
        rw [if_neg (by decide), if_pos (by omega), if_pos (by omega), wrap64_id _ (by omega) (by omega), show (((rd z (i : Int)).toNat : Int) - 1) = rd z (i : Int) - 1 by omega]
      · have hf' : fitS (rd l (i : Int)) (rd z (i : Int)) = false := by simpa using hf
        rw [if_neg hf, hf']
        exact Ev.step (f := fun _ => some (([] : List Int), 7)) (fun k => by simp [stowageref01_Fields.j3]) (Ev.now _)
    by_cases h8 : rd z (i : Int) < 8
    · have hp := power_ev (rd z (i : Int)).toNat (by omega)
      have e : ((rd z (i : Int)).toNat : Int) = rd z (i : Int) := by omega
      simp only [e] at hp
      refine Ev.step (f := fun k => (stowageref01_power.f k (rd z (i : Int))).bind fun t => stowageref01_Fields.j3 k l z out (i : Int) (decide (rd l (i : Int) ≥ t))) (fun k => ?_) (Ev.bind hp ?_)
      · simp only [stowageref01_Fields.l1]
        rw [if_pos (by omega), if_pos (by omega), if_pos (by omega), if_pos h8]
      · have : decide (rd l (i : Int) ≥ 256 ^ (rd z (i : Int)).toNat) = !fitS (rd l (i : Int)) (rd z (i : Int)) := by
          unfold fitS
          by_cases hq : rd l (i : Int) < 256 ^ (rd z (i : Int)).toNat
          · rw [decide_eq_true hq, decide_eq_false (by omega)]; rfl
          · rw [decide_eq_false hq, decide_eq_true (by omega)]; rfl
        rw [this]
        exact hj
    · have h8' : rd z (i : Int) = 8 := by omega
      have hf : fitS (rd l (i : Int)) (rd z (i : Int)) = true := by rw [h8']; exact fitS8 _ hn1
      rw [hf] at hj
      refine Ev.step (f := fun k => stowageref01_Fields.j3 k l z out (i : Int) false) (fun k => ?_) (by rw [hf]; exact hj)
      simp only [stowageref01_Fields.l1]
      rw [if_pos (by omega), if_pos (by omega), if_pos (by omega), if_neg h8]
theorem rf_l0 (l z : List Int) {r : List Int × Int} (hm : z.length ≤ 4096) (h : z.all okS = true → Ev (fun k => stowageref01_Fields.l1 k l z [] 0) r) : ∀ (d i : Nat), i + d = z.length → ((z.take i).all okS = true) →
    Ev (fun k => stowageref01_Fields.l0 k l z (i : Int)) (if z.all okS = true then r else ([], 1)) := by
  intro d
  induction d with
  | zero =>
    intro i hi ha
    rw [List.take_of_length_le (by omega)] at ha
    rw [if_pos ha]
    refine Ev.step (f := fun k => stowageref01_Fields.l1 k l z [] 0) (fun k => ?_) (h ha)
    simp only [stowageref01_Fields.l0]
    rw [if_neg (by omega)]
  | succ d ih =>
    intro i hi ha
    have hiz : i < z.length := by omega
    by_cases hs : okS (rd z (i : Int)) = true
    · have hsr := (okS_iff _).1 hs
      have := ih (i + 1) (by omega) (by rw [take_rd z i hiz, List.all_append, ha]; simp [hs])
      refine Ev.step (f := fun k => stowageref01_Fields.l0 k l z ((i + 1 : Nat) : Int)) (fun k => ?_) this
      simp only [stowageref01_Fields.l0]
      rw [if_pos (by omega), if_pos (by omega), if_neg (by omega), if_neg (by omega), wrap64_succ i (by omega)]
    · have hs' : okS (rd z (i : Int)) = false := by simpa using hs
      have hsr := (okS_no _).1 hs'
      rw [if_neg (fun hc => hs (List.all_eq_true.1 hc _ (rd_mem z i hiz)))]
      refine Ev.step (f := fun _ => some (([] : List Int), 1)) (fun k => ?_) (Ev.now _)
      simp only [stowageref01_Fields.l0]
      rw [if_pos (by omega), if_pos (by omega)]
      by_cases h1 : rd z (i : Int) < 1
      · rw [if_pos h1]
      · rw [if_neg h1, if_pos (by omega)]
theorem rfields_ev (l z : List Int) (hl : Nums l) : Ev (fun k => stowageref01_Fields.f k l z) (fieldsS l z) := by
  unfold fieldsS
  by_cases h1 : l.length = z.length
  · have e1 : (l.length : Int) = (z.length : Int) := by omega
    by_cases h2 : l.length ≤ 4096
    · have hg := rf_l0 l z (r := fieldsGo l z []) (by omega) (fun h3 => by simpa using rf_l1 l z hl h1 h2 h3 l.length 0 [] (by omega) (by simp)) z.length 0 (by omega) (by simp)
      have e : (if l.length = z.length ∧ l.length ≤ 4096 ∧ z.all okS = true then fieldsGo l z [] else ([], 1)) = if z.all okS = true then fieldsGo l z [] else ([], 1) := by
        by_cases h3 : z.all okS = true
        · rw [if_pos ⟨h1, h2, h3⟩, if_pos h3]
        · rw [if_neg (fun h => h3 h.2.2), if_neg h3]
      rw [e]
      refine Ev.congr (f := fun k => stowageref01_Fields.j0 k l z false) (fun k => ?_) (Ev.step (f := fun k => stowageref01_Fields.l0 k l z 0) (fun k => by simp [stowageref01_Fields.j0]) hg)
      unfold stowageref01_Fields.f
      rw [if_pos e1, decide_eq_false (by omega)]
    · rw [if_neg (fun h => h2 h.2.1)]
      refine Ev.congr (f := fun k => stowageref01_Fields.j0 k l z true) (fun k => ?_) (Ev.step (f := fun _ => some (([] : List Int), 1)) (fun k => by simp [stowageref01_Fields.j0]) (Ev.now _))
      unfold stowageref01_Fields.f
      rw [if_pos e1, decide_eq_true (by omega)]
  · rw [if_neg (fun h => h1 h.1)]
    refine Ev.congr (f := fun k => stowageref01_Fields.j0 k l z true) (fun k => ?_) (Ev.step (f := fun _ => some (([] : List Int), 1)) (fun k => by simp [stowageref01_Fields.j0]) (Ev.now _))
    unfold stowageref01_Fields.f
    rw [if_neg (by omega)]

/-! ### the law -/
theorem PackPuts : stowagelaw01_PackPuts.Pure := by
  intro n s hn _
  obtain ⟨n0, n1⟩ := u64_of_wf hn
  apply Ev.rounds
  unfold stowagelaw01_PackPuts.f
  refine Ev.bind (put1_ev n s n0 n1) (Ev.bind (rfields_ev [n] [s] (by intro x hx; simp at hx; subst hx; exact ⟨n0, n1⟩)) (Ev.bind awake_ev ?_))
  simp only [if_true, BEq.rfl]
  exact Ev.now true

end Go.Proofs.Ytcboebfaaebneaa.Pure
