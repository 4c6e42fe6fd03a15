/- Written by a program of this session (wip/tools/mk.py) out of the kit's printing programs and of texts of our own: the contracts of the Go functions that the law goes through, and the row of the law. No condition is added. -/
import Derived.Test.YtfiobfjolkmdpaaDoorQSampx0
namespace Go.Proofs.YtfiobfjolkmdpaaDoor.QSamp
open Go.RowKit Go.Proofs.YtfiobfjolkmdpaaDoorW.PrintWords Go.Proofs.YtfiobfjolkmdpaaDoorW.PrintLast Go.Proofs.YtfiobfjolkmdpaaDoorW.PrintMore
attribute [local go_sem] max2_int min2_int max_two min_two max_three min_three max_four min_four   -- for this text's walks alone
set_option linter.unusedVariables false
set_option linter.unusedSimpArgs false

attribute [local go_sem] min_seven
-- NOT PRINTED: function 27 (bits_TrailingZeros32)

-- NOT PRINTED: function 28 (bits_TrailingZeros64)

/-! ### bits_TrailingZeros: function 25 -/
/-- The table of math/bits stands as its initialiser lays it. -/
def TabOk (w : World) : Prop := 2 ≤ w.heap.size ∧ ∀ j, j < 64 → w.cell? ⟨1, j, none⟩ = some (.int .u8 ((Lib.deBruijn64tab.getD j 0 : Nat) : Int))
theorem TabOk.below {w w1 : World} (h : TabOk w) (hb : Below w.heap.size w w1) : TabOk w1 := ⟨Nat.le_trans h.1 hb.size, fun j hj => (hb.cell (p := ⟨1, j, none⟩) (by have := h.1; show 1 < w.heap.size; omega)).trans (h.2 j hj)⟩
theorem TabOk.drewN {w : World} (h : TabOk w) (n : Nat) : TabOk (w.drewN n) := h.below (pw_below_drewN (Below.refl _ _) n)
def bits_TrailingZeros.f (a0 : Int) : Option Int := if 0 ≤ a0 then (if a0 < 18446744073709551616 then some ((Lib.ctz 64 a0.toNat : Nat) : Int) else none) else none
theorem tz_key (x a : Nat) (hx : x < 18446744073709551616) (hx0 : x ≠ 0) (hlow : x &&& (18446744073709551616 - x) = a) :
    IntKind.u64.wrap (Go.bits BinOp.and IntKind.u64 (x : Int) (IntKind.u64.wrap (-(x : Int))) * 285870213051353865) / 288230376151711744 = ((a * 285870213051353865 % 18446744073709551616 / 288230376151711744 : Nat) : Int) := by
  have e1 : IntKind.u64.wrap (-(x : Int)) = ((18446744073709551616 - x : Nat) : Int) := by rw [IntKind.wrap_u64]; omega
  rw [e1, bits_and_u64_nat x _ hx (by omega), hlow, IntKind.wrap_u64]
  omega
set_option maxHeartbeats 1000000 in
theorem tz64_core (x k idx : Nat) (w : World) (hx0 : ((x : Int) == 0) = false)
    (key : IntKind.u64.wrap (Go.bits BinOp.and IntKind.u64 (x : Int) (IntKind.u64.wrap (-(x : Int))) * 285870213051353865) / 288230376151711744 = (idx : Int))
    (hi : idx < 64) (hk : k < 64) (hcell : w.cell? ⟨1, idx, none⟩ = some (.int .u8 k)) :
    Calls Tryd.prog 28 #[.int .u64 x] w fun e w' => e = .returned (.int .i64 k) ∧ w' = w := by
  go_enter Tryd.func28, Tryd.ntmps28
  go_wp2_with (simp only [key])
  go_ret
  exact ⟨rfl, rfl⟩
theorem tz64_zero (w : World) : Calls Tryd.prog 28 #[.int .u64 0] w fun e w' => e = .returned (.int .i64 64) ∧ w' = w := by
  go_enter Tryd.func28, Tryd.ntmps28
  go_wp2
  go_ret
  exact ⟨rfl, rfl⟩
theorem tz64_any (x : Nat) (hx : x < 18446744073709551616) (w : World) (hT : TabOk w) :
    Calls Tryd.prog 28 #[.int .u64 x] w fun e w' => e = .returned (.int .i64 ((Lib.ctz 64 x : Nat) : Int)) ∧ w' = w := by
  by_cases hx0 : x = 0
  · subst hx0
    exact tz64_zero w
  · obtain ⟨hlow, hk⟩ := Lib.lowest_bit 64 x hx0 hx
    obtain ⟨hi, htab⟩ := Lib.deBruijn64_at _ hk
    have hcell := hT.2 _ hi
    rw [htab] at hcell
    exact tz64_core x _ _ w (by simp; omega) (tz_key x _ hx hx0 hlow) hi hk hcell
theorem bits_TrailingZeros.calls (a0 : Int) (r : Int) (w : World) (hT : TabOk w) (h : bits_TrailingZeros.f a0 = some r) :
    Calls Tryd.prog 25 #[.int .u64 a0] w fun e w' => e = .returned (.int .i64 r) ∧ Drawn0 w w' := by
  unfold bits_TrailingZeros.f at h
  by_cases h0 : 0 ≤ a0
  · by_cases h1 : a0 < 18446744073709551616
    · rw [if_pos h0, if_pos h1] at h
      obtain rfl := Option.some.inj h
      obtain ⟨x, rfl⟩ := Int.eq_ofNat_of_zero_le h0
      rw [Int.toNat_natCast]
      have hx : x < 18446744073709551616 := by omega
      have c64 := tz64_any x hx w hT
      have hw : IntKind.u64.wrap (x : Int) = (x : Int) := by rw [IntKind.wrap_u64]; omega
      clear h h0 h1
      have HX := Aside0.mk hx
      clear hx
      go_enter Tryd.func25, Tryd.ntmps25
      go_wp2_with (go_at_call 28; refine c64.mono ?_; rintro e w' ⟨rfl, hw'⟩; rw [hw'])
      go_ret
      exact ⟨rfl, ⟨0, rfl⟩⟩
    · rw [if_pos h0, if_neg h1] at h
      cases h
  · rw [if_neg h0] at h
    cases h

/-! ### sample_marks_ahead: function 19 -/
def sample_marks_ahead.l0 : Nat → List Int → Int → Int → Option (Int)
  | 0, _, _, _ => none
  | k + 1, x0, x1, x5 => if x1 > 0 then (if 0 ≤ x1 then (if x1 < (x0.length : Int) then ((bits_TrailingZeros.f (IntKind.u64.wrap (x1))).bind fun t102 => (if 0 ≤ t102 then (sample_marks_ahead.l0 k x0 (wrap64 (x1 - (shl .i64 1 t102))) (wrap64 (x5 + (rd x0 x1)))) else (none))) else (none)) else (none)) else (some x5)
def sample_marks_ahead.f (k : Nat) (l0 : List Int) (a1 : Int) : Option (Int) := sample_marks_ahead.l0 k l0 a1 0
theorem sample_marks_ahead.mono_l : ∀ k, (∀ y0 y1 y2, LeO (sample_marks_ahead.l0 k y0 y1 y2) (sample_marks_ahead.l0 (k + 1) y0 y1 y2))
  | 0 => fun _ _ _ r h => by simp [sample_marks_ahead.l0] at h
  | k + 1 => by
    have ih0 := sample_marks_ahead.mono_l k
    · intro y0 y1 y2
      unfold sample_marks_ahead.l0
      repeat' first
      | (with_reducible exact ih0 _ _ _)
      | (with_reducible exact LeO.refl _)
      | (with_reducible exact LeO.none _)
      | (with_reducible refine LeO.ite ?_ ?_)
      | (with_reducible refine LeO.bind ?_ (fun _ => ?_))
      | exact ih0 _ _ _
      | exact LeO.none _
      | refine LeO.ite ?_ ?_
      | refine LeO.bind ?_ (fun _ => ?_)
theorem sample_marks_ahead.mono : ∀ a0 a1 k, LeO (sample_marks_ahead.f k a0 a1) (sample_marks_ahead.f (k + 1) a0 a1) := by
  intro a0 a1 k
  have ih0 := sample_marks_ahead.mono_l k
  unfold sample_marks_ahead.f
  repeat' first
      | (with_reducible exact ih0 _ _ _)
      | (with_reducible exact LeO.refl _)
      | (with_reducible exact LeO.none _)
      | (with_reducible refine LeO.ite ?_ ?_)
      | (with_reducible refine LeO.bind ?_ (fun _ => ?_))
      | exact ih0 _ _ _
      | exact LeO.none _
      | refine LeO.ite ?_ ?_
      | refine LeO.bind ?_ (fun _ => ?_)
set_option maxHeartbeats 8000000 in
set_option maxRecDepth 100000 in
theorem sample_marks_ahead.calls (k : Nat) (A0 : Option Addr) (c0 : Nat) (l0 : List Int) (a1 : Int) (r : Int) (w : World) (hT : TabOk w) (hr0 : Kd.C (Kd.int .i64) w A0 l0.length l0) (hc0 : l0.length ≤ c0) (h : sample_marks_ahead.f k l0 a1 = some r) :
    Calls Tryd.prog 19 #[.slice A0 l0.length c0, .int .i64 a1] w fun e w' => e = .returned (.int .i64 r) ∧ Drawn0 w w' := by
  have HT := Aside0.mk hT
  clear hT
  have HR0 := Aside0.mk hr0
  have HC0 := Aside0.mk hc0
  clear hr0 hc0
  have H : (sample_marks_ahead.l0 k l0 a1 0) = some r := h
  clear h
  have H' := Aside0.mk H
  clear H
  go_enter Tryd.func19, Tryd.ntmps19
  go_wp2
  go_loopg [1, 5] k (fun kq v1 v5 w' => ∃ (x1_1 : Int) (x5_1 : Int), v1 = .int .i64 x1_1 ∧ v5 = .int .i64 x5_1 ∧ Aside0 (sample_marks_ahead.l0 kq l0 x1_1 x5_1 = some r) ∧ Aside0 (kq ≤ k) ∧ Drawn0 w w')
  case atStart => exact ⟨(a1), (0), (by first | rfl | (simp; done) | (simp [*]; done)), (by first | rfl | (simp; done) | (simp [*]; done)), H', ⟨Nat.le_refl _⟩, by repeat (first | exact Drawn0.refl _ | apply Drawn0.step)⟩
  case round =>
    clear H'
    try clear c1
    try clear p2
    obtain ⟨x1_1, x5_1, rfl, rfl, HA, HK1, ⟨m1, rfl⟩⟩ := hrel
    cases gk with
    | zero => exact absurd HA.out (by simp [sample_marks_ahead.l0])
    | succ k1 =>
      have H := HA.out
      clear HA
      simp only [sample_marks_ahead.l0] at H
      by_cases c3 : x1_1 > 0
      · rw [if_pos c3] at H
        have c3b0 : decide (0 < x1_1) = true := decide_eq_true c3
        clear c3
        by_cases c4 : 0 ≤ x1_1
        · rw [if_pos c4] at H
          have c4b0 : decide (0 ≤ x1_1) = true := decide_eq_true c4
          clear c4
          by_cases c5 : x1_1 < (l0.length : Int)
          · rw [if_pos c5] at H
            have c5b0 : decide (x1_1 < (l0.length : Int)) = true := decide_eq_true c5
            clear c5
            replace H := Option.bind_eq_some_iff.mp H
            obtain ⟨t102, A60, H⟩ := H
            replace H : (if 0 ≤ t102 then (sample_marks_ahead.l0 k1 l0 (wrap64 (x1_1 - (shl .i64 1 t102))) (wrap64 (x5_1 + (rd l0 x1_1)))) else (none)) = some r := H
            have A6 := Aside0.mk A60
            clear A60
            by_cases c7 : 0 ≤ t102
            · rw [if_pos c7] at H
              have c7b0 := eq_true c7
              have c7b1 : decide (0 ≤ t102) = true := decide_eq_true c7
              clear c7
              obtain ⟨ji8, hji8⟩ : ∃ j_ : Int, (shl .i64 1 t102) = j_ := ⟨_, rfl⟩
              replace H : (sample_marks_ahead.l0 k1 l0 (wrap64 (x1_1 - (ji8))) (wrap64 (x5_1 + (rd l0 x1_1)))) = some r := by first | (rw [hji8] at H; exact H) | (simp only [hji8] at H ⊢; exact H)
              (try rw [hji8] at A6)
              have hji8_ : (IntKind.i64.wrap (1 * 2 ^ min t102.toNat 64)) = ji8 := hji8
              have hji8z : t102 ≤ 64 → (IntKind.i64.wrap (1 * 2 ^ t102.toNat)) = ji8 := shl_small hji8
              have hji8u : (IntKind.i64.wrap (2 ^ min t102.toNat 64)) = ji8 := by have h_ := hji8_; rw [Int.one_mul] at h_; exact h_
              have hji8v : t102 ≤ 64 → (IntKind.i64.wrap (2 ^ t102.toNat)) = ji8 := fun hle_ => by have h_ := hji8z hle_; rw [Int.one_mul] at h_; exact h_
              have hji8y : (wrap64 (1 * 2 ^ min t102.toNat 64)) = ji8 := (i64_w _).symm.trans hji8_
              have hji8x : t102 ≤ 64 → (wrap64 (1 * 2 ^ t102.toNat)) = ji8 := fun h_ => (i64_w _).symm.trans (hji8z h_)
              have H' := Aside0.mk H
              clear H
              have p101 : 0 ≤ (x1_1 : Int) := of_decide_eq_true (by first | (with_reducible assumption) | assumption)
              have q101 : x1_1 < (l0.length : Int) := of_decide_eq_true (by first | (with_reducible assumption) | assumption)
              obtain ⟨ad101, e101, hx101_0⟩ := Kd.at_int HR0.out x1_1 p101 q101
              cases e101
              replace p101 := eq_true p101
              replace q101 := eq_true q101
              go_wp2_with (first | ((with_reducible refine gate_callee (f := 25) rfl ?_); refine goesL_ (some 11) rfl rfl Tryd.func25 (by kernel_rfl) rfl #[.int .u64 (IntKind.u64.wrap (x1_1))] rfl (by (try simp only [List.map_toArray, List.map_cons, List.map_nil]); first | done | rfl | (simp only [List.length_drop, List.length_take]; rfl)) ?_; (with_reducible refine (bits_TrailingZeros.calls (hT := (by repeat (first | exact HT.out | apply TabOk.drewN | exact TabOk.below HT.out (by repeat (first | (with_reducible first | exact HB.out | apply below_alloc | apply pw_below_drewN | apply below_drew1) | exact HB.out))))) (IntKind.u64.wrap (x1_1)) t102 _ A6.out).mono ?_); rintro e w' ⟨rfl, ⟨nd, rfl⟩⟩; refine ⟨_, rfl, ?_⟩))
              go_roundg k1
              case measure => have := HK1.out; omega
              case rel => exact ⟨(wrap64 (x1_1 - (ji8))), (wrap64 (x5_1 + (rd l0 x1_1))), (by first | rfl | (simp; done) | (simp only [← hji8] <;> (first | rfl | simp)) | (simp [*]; done)), (by first | rfl | (simp; done) | (simp [*]; done)), H', ⟨by have := HK1.out; omega⟩, by repeat (first | exact Drawn0.refl _ | apply Drawn0.step)⟩
            · rw [if_neg c7] at H
              exact absurd H (by simp)
          · rw [if_neg c5] at H
            exact absurd H (by simp)
        · rw [if_neg c4] at H
          exact absurd H (by simp)
      · rw [if_neg c3] at H
        have c3b0 : decide (0 < x1_1) = false := decide_eq_false c3
        clear c3
        obtain rfl := Option.some.inj H
        go_wp2
        go_ret
        exact ⟨by first | rfl | (simp; done) | (simp [*]; done), by repeat (first | exact Drawn0.refl _ | apply Drawn0.step)⟩

/-! ### sample_marks_add: function 20 -/
def sample_marks_add.l0 : Nat → List Int → Int → Int → Option (List Int)
  | 0, _, _, _ => none
  | k + 1, x0, x1, x2 => if x1 < (x0.length : Int) then (if 0 ≤ x1 then (sample_marks_add.l0 k (x0.set (x1 : Int).toNat (wrap64 ((rd x0 x1) + x2))) (wrap64 (x1 + (Go.bits .and .i64 x1 (wrap64 (-x1))))) x2) else (none)) else (some x0)
def sample_marks_add.f (k : Nat) (l0 : List Int) (a1 : Int) (a2 : Int) : Option (List Int) := sample_marks_add.l0 k l0 (wrap64 (a1 + 1)) a2
theorem sample_marks_add.mono_l : ∀ k, (∀ y0 y1 y2, LeO (sample_marks_add.l0 k y0 y1 y2) (sample_marks_add.l0 (k + 1) y0 y1 y2))
  | 0 => fun _ _ _ r h => by simp [sample_marks_add.l0] at h
  | k + 1 => by
    have ih0 := sample_marks_add.mono_l k
    · intro y0 y1 y2
      unfold sample_marks_add.l0
      repeat' first
      | (with_reducible exact ih0 _ _ _)
      | (with_reducible exact LeO.refl _)
      | (with_reducible exact LeO.none _)
      | (with_reducible refine LeO.ite ?_ ?_)
      | (with_reducible refine LeO.bind ?_ (fun _ => ?_))
      | exact ih0 _ _ _
      | exact LeO.none _
      | refine LeO.ite ?_ ?_
      | refine LeO.bind ?_ (fun _ => ?_)
theorem sample_marks_add.mono : ∀ a0 a1 a2 k, LeO (sample_marks_add.f k a0 a1 a2) (sample_marks_add.f (k + 1) a0 a1 a2) := by
  intro a0 a1 a2 k
  have ih0 := sample_marks_add.mono_l k
  unfold sample_marks_add.f
  repeat' first
      | (with_reducible exact ih0 _ _ _)
      | (with_reducible exact LeO.refl _)
      | (with_reducible exact LeO.none _)
      | (with_reducible refine LeO.ite ?_ ?_)
      | (with_reducible refine LeO.bind ?_ (fun _ => ?_))
      | exact ih0 _ _ _
      | exact LeO.none _
      | refine LeO.ite ?_ ?_
      | refine LeO.bind ?_ (fun _ => ?_)
set_option maxHeartbeats 8000000 in
set_option maxRecDepth 100000 in
theorem sample_marks_add.calls (k : Nat) (P0_ : Nat → Prop) (u9000_ : Value) (l0 : List Int) (a1 : Int) (a2 : Int) (r : List Int) (w0 w : World) (hB : Below w0.heap.size w0 w) (ho0 : Kd.R (Kd.int .i64) 3 w w0.heap.size P0_ u9000_ l0) (h : sample_marks_add.f k l0 a1 a2 = some r) :
    Calls Tryd.prog 20 #[u9000_, .int .i64 a1, .int .i64 a2] w fun e w' => e = .returned (.tuple #[]) ∧ Kd.R (Kd.int .i64) 3 w' w0.heap.size (fun k_ => (P0_ k_ ∨ w.heap.size ≤ k_)) u9000_ r ∧ Below w0.heap.size w0 w' ∧ Kept w w' (fun k_ => P0_ k_) := by
  have HO0 := Aside0.mk (show Kd.R (Kd.int .i64) 3 w w0.heap.size (fun k_ => (P0_ k_ ∨ w.heap.size ≤ k_)) u9000_ l0 from Kd.R_mono ho0 (fun k_ hk => (.inl hk)))
  have HK := Aside0.mk (Kept.refl w (fun k_ => P0_ k_))
  have HW0 := Aside0.mk hB.size
  have HB := Aside0.mk hB
  clear hB
  have H : (sample_marks_add.l0 k l0 (wrap64 (a1 + 1)) a2) = some r := h
  clear h
  have H' := Aside0.mk H
  clear H
  go_enter Tryd.func20, Tryd.ntmps20
  go_wp2
  go_loopg [1] k (fun kq v1 w' => ∃ (x0_1 : List Int) (x1_1 : Int), v1 = .int .i64 x1_1 ∧ Aside0 (sample_marks_add.l0 kq x0_1 x1_1 a2 = some r) ∧ Aside0 (kq ≤ k) ∧ Aside0 (Kd.R (Kd.int .i64) 3 w' w0.heap.size (fun k_ => (P0_ k_ ∨ w.heap.size ≤ k_)) u9000_ x0_1) ∧ Aside0 (Kept w w' (fun k_ => P0_ k_)) ∧ Aside0 (Below w0.heap.size w0 w'))
  case atStart => exact ⟨(l0), (wrap64 (a1 + 1)), (by first | rfl | (simp; done) | (simp [*]; done)), H', ⟨Nat.le_refl _⟩, ⟨by (with_reducible repeat (first | apply Kd.R_alloc | apply Kd.R_drewN | apply Kd.R_drew)); exact HO0.out⟩, ⟨by repeat (first | (with_reducible first | exact HK.out | apply Kept.alloc | apply Kept.drewN | apply Kept.drew) | exact HK.out)⟩, ⟨by repeat (first | (with_reducible first | exact HB.out | apply below_alloc | apply pw_below_drewN | apply below_drew1) | exact HB.out)⟩⟩
  case round =>
    clear H'
    try clear c2
    try clear p2
    obtain ⟨x0_1, x1_1, rfl, HA, HK1, HO_0, HK, HB⟩ := hrel
    cases gk with
    | zero => exact absurd HA.out (by simp [sample_marks_add.l0])
    | succ k1 =>
      have H := HA.out
      clear HA
      simp only [sample_marks_add.l0] at H
      by_cases c4 : x1_1 < (x0_1.length : Int)
      · rw [if_pos c4] at H
        have c4b0 : decide (x1_1 < (x0_1.length : Int)) = true := decide_eq_true c4
        clear c4
        by_cases c5 : 0 ≤ x1_1
        · rw [if_pos c5] at H
          have c5b0 : decide (0 ≤ x1_1) = true := decide_eq_true c5
          clear c5
          obtain ⟨y104, hy104⟩ : ∃ y_ : List Int, y_ = (x0_1.set (x1_1 : Int).toNat (wrap64 ((rd x0_1 x1_1) + a2))) := ⟨_, rfl⟩
          replace H : (sample_marks_add.l0 k1 y104 (wrap64 (x1_1 + (Go.bits .and .i64 x1_1 (wrap64 (-x1_1))))) a2) = some r := by first | (rw [hy104]; with_reducible exact H) | (have H2_ := (Option.bind_some _ _).symm.trans H; rw [hy104]; with_reducible exact H2_) | (have H2_ := (Option.bind_some _ _).symm.trans H; with_reducible exact H2_) | with_reducible exact H | (rw [hy104]; exact H) | exact H
          have Ny104 := Aside0.mk hy104
          clear hy104
          have H' := Aside0.mk H
          clear H
          obtain ⟨Ao7, co7, eo7⟩ := Kd.R_slice HO_0.out
          subst eo7
          have p103 : 0 ≤ (x1_1 : Int) := of_decide_eq_true (by first | (with_reducible assumption) | assumption)
          have q103 : x1_1 < (x0_1.length : Int) := of_decide_eq_true (by first | (with_reducible assumption) | assumption)
          obtain ⟨ad103, e103, hx103_0⟩ := Kd.at_int (Kd.R_reads' HO_0.out).2.2 x1_1 p103 q103
          cases e103
          replace p103 := eq_true p103
          replace q103 := eq_true q103
          have p6 : 0 ≤ (x1_1 : Int) := of_decide_eq_true (by first | (with_reducible assumption) | assumption)
          have q6 : (x1_1 : Int) < ((x0_1.length : Int) : Int) := of_decide_eq_true (by first | (with_reducible assumption) | assumption)
          obtain ⟨go6, co6, eo6, gb6, gl6, cl6, HG6⟩ := Kd.R_form HO_0.out (by omega)
          (first | cases eo6 | (injection eo6 with ea_ en_ ec_; (first | subst ea_ | (injection ea_ with ea_; subst ea_)); subst ec_; clear en_))
          have GB6 := Aside0.mk gb6
          have GG6 := Aside0.mk HG6
          clear gb6 gl6 HG6
          have HMgo6 := Aside0.mk (show (P0_ go6 ∨ w.heap.size ≤ go6) from (HO_0.out.1 _ rfl))
          (first | simp only [add_plain] at hx103_0 | skip)
          obtain ⟨hx6_0, hf6_0⟩ := Kd.R_celln 0 HO_0.out (x1_1 : Int) p6 q6
          replace p6 := eq_true p6
          replace q6 := eq_true q6
          have HP8 := Kd.R_putg HO_0.out (x1_1 : Int) (wrap64 ((rd x0_1 x1_1) + a2))
          go_wp2_with (first | ((with_reducible refine gate_store (t := 3) (p := 24) rfl ?_); refine store_event (t := 3) (p := 24) (v := ?vo_w9) (w1 := (wr.setCell ⟨go6, (x1_1 : Int).toNat, none⟩ (.int .i64 (wrap64 ((rd x0_1 x1_1) + a2))))) ?hg ?ho ?hn ?hr ?_; (case ho => rfl); (case hg => rfl); (case hn => rfl); (case hr => first | (go_simp; done) | (go_simp; rfl)); intro w9 hw; have hg : wr.grownBy w9 (some go6) := (by rw [hw]; exact HP8.2); have hp_ : Kd.R (Kd.int .i64) 3 w9 w0.heap.size (fun k_ => (P0_ k_ ∨ w.heap.size ≤ k_)) (.slice (some ⟨go6, 0, none⟩) x0_1.length co7) y104 := (by rw [hw, Ny104.out]; exact HP8.1); clear HP8; have n0_ := Aside0.mk (hp_); have n1_ := Aside0.mk ((by rw [hw]; exact below_set (HB.out) GB6.out : Below w0.heap.size w0 w9)); have n2_ := Aside0.mk (Kept.of_grown (S := (fun k_ => P0_ k_)) hg (by repeat (first | (with_reducible first | exact HK.out | apply Kept.alloc | apply Kept.drewN | apply Kept.drew) | exact HK.out)) (fun k_ e_ => (HO_0.out.1 k_ e_))); clear HO_0; clear HB; clear HK; have HO_0 := n0_; have HB := n1_; have HK := n2_; clear n0_ n1_ n2_; clear hg hw hp_))
          go_roundg k1
          case measure => have := HK1.out; omega
          case rel => exact ⟨(y104), (wrap64 (x1_1 + (Go.bits .and .i64 x1_1 (wrap64 (-x1_1))))), (by first | rfl | (simp; done) | (simp [*]; done)), H', ⟨by have := HK1.out; omega⟩, ⟨by (with_reducible repeat (first | apply Kd.R_alloc | apply Kd.R_drewN | apply Kd.R_drew)); exact HO_0.out⟩, ⟨by repeat (first | (with_reducible first | exact HK.out | apply Kept.alloc | apply Kept.drewN | apply Kept.drew) | exact HK.out)⟩, ⟨by repeat (first | (with_reducible first | exact HB.out | apply below_alloc | apply pw_below_drewN | apply below_drew1) | exact HB.out)⟩⟩
        · rw [if_neg c5] at H
          exact absurd H (by simp)
      · rw [if_neg c4] at H
        have c4b0 : decide (x1_1 < (x0_1.length : Int)) = false := decide_eq_false c4
        clear c4
        obtain rfl := Option.some.inj H
        obtain ⟨Ao10, co10, eo10⟩ := Kd.R_slice HO_0.out
        subst eo10
        go_wp2
        first | go_end0 | ((try simp only [Exit.inBlock, Exit.then]); refine bodyPost_ret (results_none rfl _ _ _) rfl ?_)
        exact ⟨by first | rfl | (simp [errW_none, errW_some] <;> rfl) | (simp [*, errW_none, errW_some] <;> rfl), by (with_reducible repeat (first | apply Kd.R_alloc | apply Kd.R_drewN | apply Kd.R_drew)); exact HO_0.out, by repeat (first | (with_reducible first | exact HB.out | apply below_alloc | apply pw_below_drewN | apply below_drew1) | exact HB.out), by repeat (first | (with_reducible first | exact HK.out | apply Kept.alloc | apply Kept.drewN | apply Kept.drew) | exact HK.out)⟩

/-! ### sample_Distances: function 9 -/
section
open Go.Maps
/-- Where a number was last among the first i of a list. -/
def lastOf (l : List Int) : Nat → Int → Option Nat
  | 0, _ => none
  | i + 1, r => if rd l (i : Int) = r then some i else lastOf l i r
theorem lastOf_lt {l : List Int} {r : Int} : ∀ {i j : Nat}, lastOf l i r = some j → j < i
  | 0, _, h => by simp [lastOf] at h
  | i + 1, j, h => by
    unfold lastOf at h
    split at h
    · have := Option.some.inj h; omega
    · have := lastOf_lt h; omega
theorem mapLaw : Keyed Tryd.prog 3 := int_keyed Tryd.underlying3
theorem mapZero (w : World) : (zeroValue 3).run Tryd.prog w = .ok (.int .i64 0) w := by kernel_rfl
/-- The map at block b holds the place of each number's last reference among the first i. -/
def MapIs (w : World) (b : Nat) (l : List Int) (i : Nat) (D : DataW Unit) : Prop :=
  w.ownsMap Tryd.prog 3 (plainElem Tryd.prog 3) b i D ∧ ∀ r : Int, (Lit.int .i64 r).wf = true → (Maps.has D (.int .i64 r) = (lastOf l i r).isSome ∧ ∀ j, lastOf l i r = some j → D.atKey (.int .i64 r) (.lit (.int .i64 0)) = .lit (.int .i64 j))
theorem MapIs.block {w w' : World} {b : Nat} {l : List Int} {i : Nat} {D : DataW Unit} (h : MapIs w b l i D) (hb : w'.heap[b]? = w.heap[b]?) : MapIs w' b l i D := by
  obtain ⟨⟨es, clock, h1, h2⟩, h3⟩ := h
  exact ⟨⟨es, clock, hb.trans h1, h2⟩, h3⟩
theorem MapIs.drewN {w : World} {b : Nat} {l : List Int} {i : Nat} {D : DataW Unit} (h : MapIs w b l i D) (n : Nat) : MapIs (w.drewN n) b l i D := h.block rfl
theorem MapIs.made (w : World) (l : List Int) : MapIs (w.alloc (.map #[] 0)) w.heap.size l 0 (.map []) :=
  ⟨World.ownsMap_made _ _ _ _, fun r _ => ⟨rfl, fun j h => by simp [lastOf] at h⟩⟩

theorem MapIs.lt {w : World} {b : Nat} {l : List Int} {i : Nat} {D : DataW Unit} (h : MapIs w b l i D) : b < w.heap.size := h.1.lt
theorem MapIs.kept {w w' : World} {b : Nat} {l : List Int} {i : Nat} {D : DataW Unit} {S : Nat → Prop} (h : MapIs w b l i D) (hk : Kept w w' S) (hn : ¬ S b) : MapIs w' b l i D := h.block (hk.2 b h.lt hn)
theorem MapIs.put {w w' : World} {b : Nat} {l : List Int} {i : Nat} {D : DataW Unit} (h : MapIs w b l i D) (hw : w'.ownsMap Tryd.prog 3 (plainElem Tryd.prog 3) b (i + 1) (D.put (.int .i64 (rd l i)) (.lit (.int .i64 i)))) :
    MapIs w' b l (i + 1) (D.put (.int .i64 (rd l i)) (.lit (.int .i64 i))) := by
  have hD : Maps.IsMap D := h.1.isMap
  have hk : WideAt.IsKeyLit (.int .i64 (rd l i)) := by simp [WideAt.IsKeyLit]
  refine ⟨hw, fun r hr => ?_⟩
  unfold lastOf
  by_cases he : rd l (i : Int) = r
  · subst he
    rw [if_pos rfl, Maps.has_put_same hD hk, Maps.atKey_put_same hD hk]
    exact ⟨rfl, fun j hj => by rw [Option.some.inj hj]⟩
  · rw [if_neg he, Maps.has_put_other (by simpa using Ne.symm he)]
    refine ⟨(h.2 r hr).1, fun j hj => ?_⟩
    rw [Maps.atKey_put_other (by simpa using Ne.symm he)]
    exact (h.2 r hr).2 j hj
/-- What stands between two rounds of sample.Distances. -/
structure DistSt (w w' : World) (gM cM bm : Nat) (vO : Value) (l m o : List Int) (i : Nat) (D : DataW Unit) : Prop where
  hb : Below w.heap.size w w'
  hm : Kd.R (Kd.int .i64) 3 w' w.heap.size (fun k => k = gM) (.slice (some ⟨gM, 0, none⟩) (l.length + 1) cM) m
  ho : Kd.R (Kd.int .i64) 3 w' w.heap.size (fun k => k ≠ gM ∧ k ≠ bm) vO o
  hp : MapIs w' bm l i D
  hbm : w.heap.size ≤ bm
  hgb : gM ≠ bm
  hlen : o.length = i
theorem DistSt.move {w w' w2 : World} {gM cM bm : Nat} {vO : Value} {l m o : List Int} {i : Nat} {D : DataW Unit} (h : DistSt w w' gM cM bm vO l m o i D) (hb : Below w'.heap.size w' w2) : DistSt w w2 gM cM bm vO l m o i D :=
  ⟨below_step h.hb hb, Kd.R_below h.hm hb, Kd.R_below h.ho hb, h.hp.block (hb.block _ h.hp.lt), h.hbm, h.hgb, h.hlen⟩
theorem DistSt.drewN {w w' : World} {gM cM bm : Nat} {vO : Value} {l m o : List Int} {i : Nat} {D : DataW Unit} (h : DistSt w w' gM cM bm vO l m o i D) (n : Nat) : DistSt w (w'.drewN n) gM cM bm vO l m o i D := h.move (pw_below_drewN (Below.refl _ _) n)
theorem DistSt.alloc {w w' : World} {gM cM bm : Nat} {vO : Value} {l m o : List Int} {i : Nat} {D : DataW Unit} (h : DistSt w w' gM cM bm vO l m o i D) (x : Obj) : DistSt w (w'.alloc x) gM cM bm vO l m o i D := h.move (below_alloc (Below.refl _ _) x)
theorem DistSt.tab {w w' : World} {gM cM bm : Nat} {vO : Value} {l m o : List Int} {i : Nat} {D : DataW Unit} (h : DistSt w w' gM cM bm vO l m o i D) (hT : TabOk w) : TabOk w' := hT.below h.hb
theorem DistSt.read {w w' : World} {gM cM bm : Nat} {vO : Value} {l m o : List Int} {i : Nat} {D : DataW Unit} (h : DistSt w w' gM cM bm vO l m o i D) : l.length + 1 = m.length ∧ m.length ≤ cM ∧ Kd.C (Kd.int .i64) w' (some ⟨gM, 0, none⟩) m.length m := by
  obtain ⟨a, b, c⟩ := Kd.R_reads' h.hm
  exact ⟨a, by omega, c⟩
theorem DistSt.ahead {w w' : World} {gM cM bm : Nat} {vO : Value} {l m o : List Int} {i : Nat} {D : DataW Unit} (h : DistSt w w' gM cM bm vO l m o i D) (hT : TabOk w) {k : Nat} {a r : Int} (hf : sample_marks_ahead.f k m a = some r) :
    Calls Tryd.prog 19 #[.slice (some ⟨gM, 0, none⟩) (l.length + 1) cM, .int .i64 a] w' fun e w2 => e = .returned (.int .i64 r) ∧ Drawn0 w' w2 := by
  obtain ⟨h1, h2, h3⟩ := h.read
  rw [h1]
  exact sample_marks_ahead.calls k _ cM m a r w' (h.tab hT) h3 h2 hf
theorem DistSt.add {w w' : World} {gM cM bm : Nat} {vO : Value} {l m o : List Int} {i : Nat} {D : DataW Unit} (h : DistSt w w' gM cM bm vO l m o i D) {k : Nat} {a b : Int} {r : List Int} (hf : sample_marks_add.f k m a b = some r) :
    Calls Tryd.prog 20 #[.slice (some ⟨gM, 0, none⟩) (l.length + 1) cM, .int .i64 a, .int .i64 b] w' fun e w2 => e = .returned (.tuple #[]) ∧ DistSt w w2 gM cM bm vO l r o i D := by
  refine (sample_marks_add.calls k (fun k => k = gM) _ m a b r w w' h.hb h.hm hf).mono ?_
  rintro e w2 ⟨rfl, hr, hb, hk⟩
  refine ⟨rfl, hb, ⟨?_, hr.2⟩, Kd.R_kept h.ho hk (fun k hk => hk.1), h.hp.kept hk (Ne.symm h.hgb), h.hbm, h.hgb, h.hlen⟩
  intro k hk
  exact (Option.some.inj hk).symm
theorem DistSt.append {w w' w2 : World} {gM cM bm : Nat} {vO v1 : Value} {l m o : List Int} {i : Nat} {D : DataW Unit} {d : Int} (h : DistSt w w' gM cM bm vO l m o i D) (ho : Kd.R (Kd.int .i64) 3 w2 w.heap.size (fun k => k ≠ gM ∧ k ≠ bm) v1 (o ++ [d])) (hb : Below w.heap.size w w2) (hg : w'.grownBy w2 vO.ownBlock) :
    Kd.R (Kd.int .i64) 3 w2 w.heap.size (fun k => k = gM) (.slice (some ⟨gM, 0, none⟩) (l.length + 1) cM) m ∧ MapIs w2 bm l i D :=
  have hk : Kept w' w2 (fun k => some k = vO.ownBlock) := Kept.of_grown hg (Kept.refl _ _) (fun k hk => .inl hk.symm)
  ⟨Kd.R_kept h.hm hk (fun k e hv => (h.ho.1 k hv.symm).1 e), h.hp.kept hk (fun hv => (h.ho.1 bm hv.symm).2 rfl)⟩
theorem DistSt.store {w w' w2 : World} {gM cM bm : Nat} {vO : Value} {l m o : List Int} {i : Nat} {D : DataW Unit} (h : DistSt w w' gM cM bm vO l m o i D) (hw : w2.ownsMap Tryd.prog 3 (plainElem Tryd.prog 3) bm (i + 1) (D.put (.int .i64 (rd l i)) (.lit (.int .i64 i)))) (hg : w'.grownBy w2 (some bm)) :
    Below w.heap.size w w2 ∧ Kd.R (Kd.int .i64) 3 w2 w.heap.size (fun k => k = gM) (.slice (some ⟨gM, 0, none⟩) (l.length + 1) cM) m ∧ Kd.R (Kd.int .i64) 3 w2 w.heap.size (fun k => k ≠ gM ∧ k ≠ bm) vO o ∧ MapIs w2 bm l (i + 1) (D.put (.int .i64 (rd l i)) (.lit (.int .i64 i))) :=
  have hk : Kept w' w2 (fun k => k = bm) := Kept.of_grown hg (Kept.refl _ _) (fun k hk => .inl (Option.some.inj hk).symm)
  ⟨h.hb.grown hg h.hb.size (fun j hj => by cases hj; exact h.hbm), Kd.R_kept h.hm hk (fun k e hv => h.hgb (e.symm.trans hv)), Kd.R_kept h.ho hk (fun k hk => hk.2), h.hp.put hw⟩
theorem nat_wf {i : Nat} (h : i < 9223372036854775808) : (Lit.int .i64 (i : Int)).wf = true := by
  have : wrap64 (i : Int) = (i : Int) := by unfold wrap64; omega
  have h2 := wrap64_wf (i : Int)
  rwa [this] at h2
theorem distFresh {w w' : World} {gM cM bm n : Nat} {l m : List Int} {i : Nat} {D : DataW Unit} (hm : Kd.R (Kd.int .i64) 3 w' w.heap.size (fun k => k = gM) (.slice (some ⟨gM, 0, none⟩) n cM) m) (hp : MapIs w' bm l i D) : ∀ k, w'.heap.size ≤ k → k ≠ gM ∧ k ≠ bm := fun k hk =>
  ⟨fun e => by have := Kd.R_lt hm gM rfl; omega, fun e => by have := hp.lt; omega⟩
theorem distNext {w w1 w' w2 : World} {gM cM bm : Nat} {vO v1 vO' : Value} {l m m2 o : List Int} {i : Nat} {D D2 : DataW Unit} {d : Int} (h0 : DistSt w w1 gM cM bm vO' l m o i D)
    (h : Below w.heap.size w w' ∧ Kd.R (Kd.int .i64) 3 w' w.heap.size (fun k => k = gM) (.slice (some ⟨gM, 0, none⟩) (l.length + 1) cM) m2 ∧ Kd.R (Kd.int .i64) 3 w' w.heap.size (fun k => k ≠ gM ∧ k ≠ bm) vO o ∧ MapIs w' bm l (i + 1) D2)
    (ho : Kd.R (Kd.int .i64) 3 w2 w.heap.size (fun k => k ≠ gM ∧ k ≠ bm) v1 (o ++ [d])) (hb : Below w.heap.size w w2) (hg : w'.grownBy w2 vO.ownBlock) : DistSt w w2 gM cM bm v1 l m2 (o ++ [d]) (i + 1) D2 :=
  have hk : Kept w' w2 (fun k => some k = vO.ownBlock) := Kept.of_grown hg (Kept.refl _ _) (fun k hk => .inl hk.symm)
  ⟨hb, Kd.R_kept h.2.1 hk (fun k e hv => (h.2.2.1.1 k hv.symm).1 e), ho, h.2.2.2.kept hk (fun hv => (h.2.2.1.1 bm hv.symm).2 rfl), h0.hbm, h0.hgb, by rw [List.length_append, h0.hlen]; rfl⟩
theorem wsucc {i n : Nat} (h : i < n) (hn : n ≤ 4096) : wrap64 ((i : Int) + 1) = ((i + 1 : Nat) : Int) := by unfold wrap64; omega
theorem rd_mem {l : List Int} {i : Nat} (h : i < l.length) : rd l (i : Int) ∈ l := by
  unfold rd
  rw [Int.toNat_natCast, List.getD_eq_getElem?_getD, List.getElem?_eq_getElem h]
  exact List.getElem_mem h
def sample_Distances.l0 : Nat → List Int → List Int → List Int → Nat → Option (List Int)
  | 0, _, _, _, _ => none
  | k + 1, l, m, o, i => if i < l.length then (match lastOf l i (rd l (i : Int)) with
      | none => (sample_marks_add.f k m (i : Int) 1).bind fun m2 => sample_Distances.l0 k l m2 (o ++ [-1]) (i + 1)
      | some j => (sample_marks_ahead.f k m (i : Int)).bind fun p => (sample_marks_ahead.f k m (wrap64 ((j : Int) + 1))).bind fun q => (sample_marks_add.f k m (j : Int) (-1)).bind fun m2 => (sample_marks_add.f k m2 (i : Int) 1).bind fun m3 => sample_Distances.l0 k l m3 (o ++ [wrap64 (p - q)]) (i + 1)) else some o
def sample_Distances.f (k : Nat) (l : List Int) : Option (List Int) := if (l.length : Int) > 4096 then some [] else (if (l.all fun x => (Lit.int .i64 x).wf) = true then sample_Distances.l0 k l (List.replicate (l.length + 1) 0) [] 0 else none)
theorem sample_Distances.mono_l : ∀ k l m o i, LeO (sample_Distances.l0 k l m o i) (sample_Distances.l0 (k + 1) l m o i)
  | 0 => fun _ _ _ _ r h => by simp [sample_Distances.l0] at h
  | k + 1 => by
    have ih := sample_Distances.mono_l k
    intro l m o i
    rw [sample_Distances.l0, sample_Distances.l0.eq_def (k + 1 + 1)]
    dsimp only
    refine LeO.ite ?_ (LeO.refl _)
    cases lastOf l i (rd l (i : Int)) with
    | none => exact LeO.bind (sample_marks_add.mono _ _ _ _) (fun _ => ih _ _ _ _)
    | some j => exact LeO.bind (sample_marks_ahead.mono _ _ _) (fun _ => LeO.bind (sample_marks_ahead.mono _ _ _) (fun _ => LeO.bind (sample_marks_add.mono _ _ _ _) (fun _ => LeO.bind (sample_marks_add.mono _ _ _ _) (fun _ => ih _ _ _ _))))
theorem sample_Distances.mono : ∀ l k, LeO (sample_Distances.f k l) (sample_Distances.f (k + 1) l) := by
  intro l k
  unfold sample_Distances.f
  exact LeO.ite (LeO.refl _) (LeO.ite (sample_Distances.mono_l _ _ _ _ _) (LeO.refl _))
set_option maxHeartbeats 1000000 in
set_option maxRecDepth 100000 in
theorem sample_Distances.calls (k : Nat) (A0 : Option Addr) (c0 : Nat) (l0 : List Int) (r : List Int) (w : World) (hT : TabOk w) (hr0 : Kd.C (Kd.int .i64) w A0 l0.length l0) (hc0 : l0.length ≤ c0) (h : sample_Distances.f k l0 = some r) :
    Calls Tryd.prog 9 #[.slice A0 l0.length c0] w fun e w' => ∃ v0_ : Value, e = .returned (v0_) ∧ Kd.R (Kd.int .i64) 3 w' w.heap.size (fun _ => True) v0_ r ∧ Below w.heap.size w w' := by
  have HT := Aside0.mk hT
  have HR0 := Aside0.mk hr0
  have HC0 := Aside0.mk hc0
  clear hr0 hc0 hT
  have HB := Aside0.mk (Below.refl w.heap.size w)
  unfold sample_Distances.f at h
  by_cases c2 : (l0.length : Int) > 4096
  · rw [if_pos c2] at h
    have c2b0 : decide (4096 < (l0.length : Int)) = true := decide_eq_true c2
    have c2b1 : decide (4096 < l0.length) = true := decide_eq_true (by omega)
    clear c2
    obtain rfl := Option.some.inj h
    go_enter Tryd.func9, Tryd.ntmps9
    go_wp2
    repeat (go_quiet (fail); try go_wp2)
    go_ret
    exact ⟨_, rfl, Kd.R_nil _ _ _ _ _, by repeat (first | (with_reducible first | exact HB.out | apply below_alloc | apply pw_below_drewN | apply below_drew1) | exact HB.out)⟩
  · rw [if_neg c2] at h
    have hL : l0.length ≤ 4096 := by omega
    have c2b0 : decide (4096 < (l0.length : Int)) = false := decide_eq_false c2
    have c2b1 : decide (4096 < l0.length) = false := decide_eq_false (by omega)
    clear c2
    by_cases c3 : (l0.all fun x => (Lit.int .i64 x).wf) = true
    · rw [if_pos c3] at h
      have HW := Aside0.mk (fun x hx => List.all_eq_true.1 c3 x hx : ∀ x ∈ l0, (Lit.int .i64 x).wf = true)
      clear c3
      have H' := Aside0.mk h
      have HL := Aside0.mk hL
      have hw1 : wrap64 ((l0.length : Int) + 1) = (l0.length : Int) + 1 := (by unfold wrap64; omega)
      have hnn : ((l0.length : Int) + 1).toNat = l0.length + 1 := by omega
      clear h hL
      have hmm := @run_makeMap Tryd.prog
      go_enter Tryd.func9, Tryd.ntmps9
      go_wp2_with (first | ((with_reducible refine gate_dst (N := 17) rfl ?_); refine Kd.R_make (Kd.int .i64) _ 3 rfl (N := 17) rfl 39 _ _ rfl ((l0.length : Int) + 1) (by simp only [hw1] <;> rfl) (by simp only [hw1] <;> rfl) Tryd.underlying39 (.int .i64 0) 8 info3 rfl (by decide) (by omega) 0 (ok := fun k => k = w.heap.size) (okp := fun _ => False) rfl (fun _ hk => hk.elim) rfl (by omega) (by have := HL.out; omega) (Below.refl _ _) (Nat.le_refl _) ?_; intro vM wM hoM hbM hgM hnew; rw [hnn] at hoM; obtain ⟨gM, cM, eM, gbM, glM, clM⟩ := Kd.R_form hoM (by rw [List.length_replicate]; omega); rw [List.length_replicate] at eM; subst eM))
      repeat (go_quiet (fail); try go_wp2)
      have hg0 : gM = w.heap.size := hoM.1 gM rfl
      have ST0 : DistSt w (wM.alloc (.map #[] 0)) gM cM wM.heap.size (.slice none 0 0) l0 (List.replicate (l0.length + 1) 0) [] 0 (.map []) :=
        ⟨below_alloc hbM _, Kd.R_alloc (Kd.R_mono hoM (fun k hk => hk.trans hg0.symm)) _, Kd.R_nil _ _ _ _ _, MapIs.made _ _, hbM.size, by omega, rfl⟩
      have ST0' := Aside0.mk ST0
      clear ST0 hg0 hoM hbM hgM hnew clM glM gbM
      go_loopg [5, 21] k (fun kq v5 v21 w' => ∃ (m o : List Int) (i : Nat) (D : DataW Unit), v21 = .int .i64 (i : Int) ∧ Aside0 (sample_Distances.l0 kq l0 m o i = some r) ∧ Aside0 (kq ≤ k) ∧ Aside0 (i ≤ l0.length) ∧ Aside0 (DistSt w w' gM cM wM.heap.size v5 l0 m o i D))
      case atStart => exact ⟨_, _, 0, _, rfl, H', ⟨Nat.le_refl _⟩, ⟨Nat.zero_le _⟩, ⟨by (repeat (first | exact ST0'.out | apply DistSt.drewN | apply DistSt.alloc))⟩⟩
      case round =>
        clear H' ST0'
        obtain ⟨m, o, i, D, rfl, HA, HK1, HI, ST⟩ := hrel
        cases gk with
        | zero => exact absurd HA.out (by simp [sample_Distances.l0])
        | succ k1 =>
          have H := HA.out
          clear HA
          rw [sample_Distances.l0] at H
          by_cases c5 : i < l0.length
          · rw [if_pos c5] at H
            have c5b0 : decide ((i : Int) < (l0.length : Int)) = true := decide_eq_true (by omega)
            obtain ⟨ad, e5, hx0⟩ := Kd.at_int HR0.out (i : Int) (by omega) (by omega)
            cases e5
            have hx := (ST.out.hb.cell (World.block_lt_of_cell? w _ hx0)).trans hx0
            clear hx0
            rw [Int.toNat_natCast] at hx
            have hwf : (Lit.int .i64 (rd l0 (i : Int))).wf = true := HW.out _ (rd_mem c5)
            have p5 : 0 ≤ (i : Int) := by omega
            have q5 : (i : Int) < (l0.length : Int) := by omega
            cases hlast : lastOf l0 i (rd l0 (i : Int)) with
            | none =>
              rw [hlast] at H
              dsimp only at H
              replace H := Option.bind_eq_some_iff.mp H
              obtain ⟨m2, A1, H⟩ := H
              have hhas : Maps.has D (.int .i64 (rd l0 (i : Int))) = false := by rw [(ST.out.hp.2 _ hwf).1, hlast]; rfl
              have H' := Aside0.mk H
              have A1' := Aside0.mk A1
              have C5 := Aside0.mk c5
              have HX := Aside0.mk hwf
              clear H A1 c5 hlast
              go_wp2_with (first
                | (at_lookup; refine wpList_lookup_own_ok_int _ rfl _ _ 40 rfl 3 3 .i64 mapLaw Tryd.underlying40 Tryd.underlying3 (mapZero _) wM.heap.size i D rfl ST.out.hp.1 _ _ rfl (keyOf_int_mk Tryd.underlying3 HX.out) ?_; intro c hat hwc)
                | (go_at_call 20; refine (ST.out.add A1'.out).mono ?_; rintro e w2 ⟨rfl, hs2⟩; have ST2 := Aside0.mk hs2; clear hs2)
                | (at_mapUpdate; refine wpList_mapUpdate_own _ rfl _ _ _ 40 rfl 3 3 mapLaw Tryd.underlying40 _ wM.heap.size i _ rfl ST2.out.hp.1 (by have := HI.out; have := HL.out; unfold maxLen; omega) _ _ _ rfl rfl (keyOf_int_mk Tryd.underlying3 HX.out) _ [] (plainElem_int Tryd.underlying3 (nat_wf (by have := HI.out; have := HL.out; omega))) ?_; intro w3 hown3 hgrow3; obtain ⟨s1, s2, s3, s4⟩ := ST2.out.store hown3 hgrow3; have ST3 := Aside0.mk (And.intro s1 (And.intro s2 (And.intro s3 s4))); clear s1 s2 s3 s4 hown3 hgrow3 ST2)
                | ((with_reducible refine gate_builtin (b := .append) (xs := #[.tmp 50, .tmp 52]) rfl ?_); at_builtin; refine Kd.R_append (Kd.int .i64) (w0 := w) w.heap.size rfl (.tmp 50) (.tmp 52) 22 3 (.int .i64 0) 8 rfl Tryd.underlying22 info3 rfl (by decide) (by omega) u5 o (-1) [.int .i64 (-1)] (fun k => k ≠ gM ∧ k ≠ wM.heap.size) (fun _ => False) rfl rfl rfl (fun _ hk => hk.elim) ?aF ST3.out.2.2.1 ST3.out.1 ST3.out.1.size ?aL ?_; (case aF => exact distFresh ST3.out.2.1 ST3.out.2.2.2); (case aL => have := ST.out.hlen; have := HI.out; have := HL.out; omega); intro v5 w4 ho hb hg hat2; have ST4 := Aside0.mk (distNext ST.out ST3.out ho hb hg); clear ST3 ho hb hg hat2))
              go_roundg k1
              case measure => have := HK1.out; omega
              case rel => exact ⟨m2, _, i + 1, _, (by rw [wsucc C5.out HL.out]), H', ⟨by have := HK1.out; omega⟩, ⟨C5.out⟩, ST4⟩
            | some j =>
              rw [hlast] at H
              dsimp only at H
              replace H := Option.bind_eq_some_iff.mp H
              obtain ⟨p, A1, H⟩ := H
              replace H := Option.bind_eq_some_iff.mp H
              obtain ⟨q, A2, H⟩ := H
              replace H := Option.bind_eq_some_iff.mp H
              obtain ⟨m2, A3, H⟩ := H
              replace H := Option.bind_eq_some_iff.mp H
              obtain ⟨m3, A4, H⟩ := H
              have hhas : Maps.has D (.int .i64 (rd l0 (i : Int))) = true := by rw [(ST.out.hp.2 _ hwf).1, hlast]; rfl
              have HJ := Aside0.mk ((ST.out.hp.2 _ hwf).2 j hlast)
              have H' := Aside0.mk H
              have A1' := Aside0.mk A1
              have A2' := Aside0.mk A2
              have A3' := Aside0.mk A3
              have A4' := Aside0.mk A4
              have C5 := Aside0.mk c5
              have HX := Aside0.mk hwf
              clear H A1 A2 A3 A4 c5 hlast
              go_wp2_with (first
                | (at_lookup; refine wpList_lookup_own_ok_int _ rfl _ _ 40 rfl 3 3 .i64 mapLaw Tryd.underlying40 Tryd.underlying3 (mapZero _) wM.heap.size i D rfl ST.out.hp.1 _ _ rfl (keyOf_int_mk Tryd.underlying3 HX.out) ?_; intro c hat hwc; have hc : c = (j : Int) := (by have h1 := hat.symm.trans HJ.out; injection h1 with h2; injection h2); subst hc; clear hat hwc)
                | (go_at_call 19; with_reducible refine (ST.out.ahead HT.out A1'.out).mono ?_; rintro e w2 ⟨rfl, ⟨n1, rfl⟩⟩)
                | (go_at_call 19; with_reducible refine ((ST.out.drewN n1).ahead HT.out A2'.out).mono ?_; rintro e w2 ⟨rfl, ⟨n2, rfl⟩⟩)
                | (go_at_call 20; with_reducible refine (ST1.out.add A4'.out).mono ?_; rintro e w2 ⟨rfl, hs2⟩; have ST2 := Aside0.mk hs2; clear hs2 ST1)
                | (go_at_call 20; refine ((ST.out.drewN _).add A3'.out).mono ?_; rintro e w2 ⟨rfl, hs2⟩; have ST1 := Aside0.mk hs2; clear hs2)
                | (at_mapUpdate; refine wpList_mapUpdate_own _ rfl _ _ _ 40 rfl 3 3 mapLaw Tryd.underlying40 _ wM.heap.size i _ rfl ST2.out.hp.1 (by have := HI.out; have := HL.out; unfold maxLen; omega) _ _ _ rfl rfl (keyOf_int_mk Tryd.underlying3 HX.out) _ [] (plainElem_int Tryd.underlying3 (nat_wf (by have := HI.out; have := HL.out; omega))) ?_; intro w3 hown3 hgrow3; obtain ⟨s1, s2, s3, s4⟩ := ST2.out.store hown3 hgrow3; have ST3 := Aside0.mk (And.intro s1 (And.intro s2 (And.intro s3 s4))); clear s1 s2 s3 s4 hown3 hgrow3 ST2)
                | ((with_reducible refine gate_builtin (b := .append) (xs := #[.tmp 50, .tmp 52]) rfl ?_); at_builtin; refine Kd.R_append (Kd.int .i64) (w0 := w) w.heap.size rfl (.tmp 50) (.tmp 52) 22 3 (.int .i64 0) 8 rfl Tryd.underlying22 info3 rfl (by decide) (by omega) u5 o (wrap64 (p - q)) [.int .i64 (wrap64 (p - q))] (fun k => k ≠ gM ∧ k ≠ wM.heap.size) (fun _ => False) rfl rfl rfl (fun _ hk => hk.elim) ?aF ST3.out.2.2.1 ST3.out.1 ST3.out.1.size ?aL ?_; (case aF => exact distFresh ST3.out.2.1 ST3.out.2.2.2); (case aL => have := ST.out.hlen; have := HI.out; have := HL.out; omega); intro v5 w4 ho hb hg hat2; have ST4 := Aside0.mk (distNext ST.out ST3.out ho hb hg); clear ST3 ho hb hg hat2))
              go_roundg k1
              case measure => have := HK1.out; omega
              case rel => exact ⟨m3, _, i + 1, _, (by rw [wsucc C5.out HL.out]), H', ⟨by have := HK1.out; omega⟩, ⟨C5.out⟩, ST4⟩
          · rw [if_neg c5] at H
            obtain rfl := Option.some.inj H
            have c5b0 : decide ((i : Int) < (l0.length : Int)) = false := decide_eq_false (by omega)
            go_wp2
            go_ret
            exact ⟨_, rfl, Kd.R_mono ST.out.ho (fun _ _ => trivial), ST.out.hb⟩
    · rw [if_neg c3] at h
      cases h
end

/-! ### stowagelaw10_awake: function 10 -/
def stowagelaw10_awake.f (k : Nat)  : Option (Bool) := (sample_Distances.f k (([5, 6, 5, 5, 7, 6] : List Int))).bind fun t108 => (if (t108.length : Int) = 6 then (if 2 < (t108.length : Int) then (if (rd t108 2) = 1 then (if 3 < (t108.length : Int) then (if (rd t108 3) = 0 then (if 5 < (t108.length : Int) then (if (rd t108 5) = 2 then (if 0 < (t108.length : Int) then (some ((rd t108 0) == (-1))) else (none)) else (some false)) else (none)) else (some false)) else (none)) else (some false)) else (none)) else (some false))
theorem stowagelaw10_awake.mono : ∀ k, LeO (stowagelaw10_awake.f k ) (stowagelaw10_awake.f (k + 1) ) := by
  intro  k
  unfold stowagelaw10_awake.f
  repeat' first
      | (with_reducible exact sample_Distances.mono _ _)
      | (with_reducible exact LeO.refl _)
      | (with_reducible exact LeO.none _)
      | (with_reducible refine LeO.ite ?_ ?_)
      | (with_reducible refine LeO.bind ?_ (fun _ => ?_))
      | exact sample_Distances.mono _ _
      | exact LeO.none _
      | refine LeO.ite ?_ ?_
      | refine LeO.bind ?_ (fun _ => ?_)
set_option maxHeartbeats 8000000 in
set_option maxRecDepth 100000 in
theorem stowagelaw10_awake.calls (k : Nat)  (r : Bool) (w : World) (hT : TabOk w) (h : stowagelaw10_awake.f k  = some r) :
    Calls Tryd.prog 10 #[] w fun e w' => e = .returned (.bool r) ∧ Below w.heap.size w w' := by
  have HT := Aside0.mk hT
  clear hT
  have HB := Aside0.mk (Below.refl w.heap.size w)
  have H : ((sample_Distances.f k (([5, 6, 5, 5, 7, 6] : List Int))).bind fun t108 => (if (t108.length : Int) = 6 then (if 2 < (t108.length : Int) then (if (rd t108 2) = 1 then (if 3 < (t108.length : Int) then (if (rd t108 3) = 0 then (if 5 < (t108.length : Int) then (if (rd t108 5) = 2 then (if 0 < (t108.length : Int) then (some ((rd t108 0) == (-1))) else (none)) else (some false)) else (none)) else (some false)) else (none)) else (some false)) else (none)) else (some false))) = some r := h
  clear h
  obtain ⟨y105, hy105⟩ : ∃ y_ : List Int, y_ = (([5, 6, 5, 5, 7, 6] : List Int)) := ⟨_, rfl⟩
  replace H : ((sample_Distances.f k y105).bind fun t108 => (if (t108.length : Int) = 6 then (if 2 < (t108.length : Int) then (if (rd t108 2) = 1 then (if 3 < (t108.length : Int) then (if (rd t108 3) = 0 then (if 5 < (t108.length : Int) then (if (rd t108 5) = 2 then (if 0 < (t108.length : Int) then (some ((rd t108 0) == (-1))) else (none)) else (some false)) else (none)) else (some false)) else (none)) else (some false)) else (none)) else (some false))) = some r := by first | (rw [hy105]; with_reducible exact H) | (have H2_ := (Option.bind_some _ _).symm.trans H; rw [hy105]; with_reducible exact H2_) | (have H2_ := (Option.bind_some _ _).symm.trans H; with_reducible exact H2_) | with_reducible exact H | (rw [hy105]; exact H) | exact H
  have Ny105 := Aside0.mk hy105
  clear hy105
  replace H := Option.bind_eq_some_iff.mp H
  obtain ⟨t108, A10, H⟩ := H
  replace H : (if (t108.length : Int) = 6 then (if 2 < (t108.length : Int) then (if (rd t108 2) = 1 then (if 3 < (t108.length : Int) then (if (rd t108 3) = 0 then (if 5 < (t108.length : Int) then (if (rd t108 5) = 2 then (if 0 < (t108.length : Int) then (some ((rd t108 0) == (-1))) else (none)) else (some false)) else (none)) else (some false)) else (none)) else (some false)) else (none)) else (some false)) = some r := H
  have A1 := Aside0.mk A10
  clear A10
  by_cases c2 : (t108.length : Int) = 6
  · rw [if_pos c2] at H
    have c2b0 : ((t108.length : Int) == 6) = true := beq_iff_eq.mpr c2
    have c2b1 : ((t108.length : Int) != 6) = false := bne_eq_false_iff_eq.mpr c2
    clear c2
    by_cases c3 : 2 < (t108.length : Int)
    · rw [if_pos c3] at H
      have c3b0 : decide (2 < (t108.length : Int)) = true := decide_eq_true c3
      have c3b1 : decide (2 < t108.length) = true := decide_eq_true (by omega)
      clear c3
      by_cases c4 : (rd t108 2) = 1
      · rw [if_pos c4] at H
        have c4b0 : ((rd t108 2) == 1) = true := beq_iff_eq.mpr c4
        have c4b1 : ((rd t108 2) != 1) = false := bne_eq_false_iff_eq.mpr c4
        clear c4
        by_cases c5 : 3 < (t108.length : Int)
        · rw [if_pos c5] at H
          have c5b0 : decide (3 < (t108.length : Int)) = true := decide_eq_true c5
          have c5b1 : decide (3 < t108.length) = true := decide_eq_true (by omega)
          clear c5
          by_cases c6 : (rd t108 3) = 0
          · rw [if_pos c6] at H
            have c6b0 : ((rd t108 3) == 0) = true := beq_iff_eq.mpr c6
            have c6b1 : ((rd t108 3) != 0) = false := bne_eq_false_iff_eq.mpr c6
            clear c6
            by_cases c7 : 5 < (t108.length : Int)
            · rw [if_pos c7] at H
              have c7b0 : decide (5 < (t108.length : Int)) = true := decide_eq_true c7
              have c7b1 : decide (5 < t108.length) = true := decide_eq_true (by omega)
              clear c7
              by_cases c8 : (rd t108 5) = 2
              · rw [if_pos c8] at H
                have c8b0 : ((rd t108 5) == 2) = true := beq_iff_eq.mpr c8
                have c8b1 : ((rd t108 5) != 2) = false := bne_eq_false_iff_eq.mpr c8
                clear c8
                by_cases c9 : 0 < (t108.length : Int)
                · rw [if_pos c9] at H
                  have c9b0 : decide (0 < (t108.length : Int)) = true := decide_eq_true c9
                  have c9b1 : decide (0 < t108.length) = true := decide_eq_true (by omega)
                  clear c9
                  obtain rfl := Option.some.inj H
                  go_enter Tryd.func10, Tryd.ntmps10
                  go_wp2_with (first | ((with_reducible refine gate_dst (N := 2) rfl ?_); refine Kd.R_lit (Kd.int .i64) _ 3 ?hg (N := 2) ?hd (xs := ([5, 6, 5, 5, 7, 6] : List Int)) (inner := [.int .i64 5, .int .i64 6, .int .i64 5, .int .i64 5, .int .i64 7, .int .i64 6]) (ok := fun _ => True) (okp := fun _ => True) ?hr ?hp (fun _ hk => hk) trivial (Below.refl _ _) (Nat.le_refl _) (by simp) ?_; (case hd => rfl); (case hg => rfl); (case hr => first | (go_simp; done) | (go_simp; rfl)); (case hp => exact (Reps.one (show Kd.M (Kd.int .i64) _ _ _ 5 [.int .i64 5] from rfl) (Reps.one (show Kd.M (Kd.int .i64) _ _ _ 6 [.int .i64 6] from rfl) (Reps.one (show Kd.M (Kd.int .i64) _ _ _ 5 [.int .i64 5] from rfl) (Reps.one (show Kd.M (Kd.int .i64) _ _ _ 5 [.int .i64 5] from rfl) (Reps.one (show Kd.M (Kd.int .i64) _ _ _ 7 [.int .i64 7] from rfl) (Reps.one (show Kd.M (Kd.int .i64) _ _ _ 6 [.int .i64 6] from rfl) (Reps.none _ _)))))))); intro v106 w10 ho11 hb hg_ hnew_; clear hg_ hnew_; (first | rw [← Ny105.out] at ho11 | (simp only [Int.reduceToNat] at ho11; rw [← Ny105.out] at ho11)); have n0_ := Aside0.mk (Kd.R_lower ho11 (below_size (by repeat (first | (with_reducible first | exact HB.out | apply below_alloc | apply pw_below_drewN | apply below_drew1) | exact HB.out)))); have n1_ := Aside0.mk (below_step (by repeat (first | (with_reducible first | exact HB.out | apply below_alloc | apply pw_below_drewN | apply below_drew1) | exact HB.out)) hb); clear HB; have HO107 := n0_; have HB := n1_; clear n0_ n1_; clear hb ho11; obtain ⟨Ao12, co12, eo12⟩ := Kd.R_slice HO107.out; subst eo12) | ((with_reducible refine gate_callee (f := 9) rfl ?_); refine goesL_ (some 3) rfl rfl Tryd.func9 (by kernel_rfl) rfl #[.slice Ao12 y105.length co12] rfl (by (try simp only [List.map_toArray, List.map_cons, List.map_nil]); first | done | rfl | (simp only [List.length_drop, List.length_take]; rfl)) ?_; (with_reducible refine (sample_Distances.calls (hT := (by repeat (first | exact HT.out | apply TabOk.drewN | exact TabOk.below HT.out (by repeat (first | (with_reducible first | exact HB.out | apply below_alloc | apply pw_below_drewN | apply below_drew1) | exact HB.out))))) k _ _ y105 t108 _ ?side1 ?side2 A1.out).mono ?_); (case side1 => repeat (first | exact (Kd.R_reads' HO107.out).2.2 | (with_reducible refine Kd.C_alloc ?_ _) | (with_reducible refine Kd.C_drewN ?_ _) | (with_reducible refine Kd.C_drew ?_))); (case side2 => exact (Kd.R_reads' HO107.out).2.1); rintro e w13 ⟨v109, rfl, ho0, hb⟩; refine ⟨_, rfl, ?_⟩; have n0_ := Aside0.mk (Kd.R_elder' (by (with_reducible repeat (first | apply Kd.R_alloc | apply Kd.R_drewN | apply Kd.R_drew)); exact HO107.out) (Kd.R_base ho0) hb); have n1_ := Aside0.mk (Kd.R_lower (Kd.R_new' ho0 (Kd.R_lt (by (with_reducible repeat (first | apply Kd.R_alloc | apply Kd.R_drewN | apply Kd.R_drew)); exact HO107.out))) (below_size (by repeat (first | (with_reducible first | exact HB.out | apply below_alloc | apply pw_below_drewN | apply below_drew1) | exact HB.out)))); have n2_ := Aside0.mk (below_step (by repeat (first | (with_reducible first | exact HB.out | apply below_alloc | apply pw_below_drewN | apply below_drew1) | exact HB.out)) hb); clear HO107; clear HB; have HO107 := n0_; have HO110 := n1_; have HB := n2_; clear n0_ n1_ n2_; (try clear hb); (try clear hb2); (try clear hk); (try clear hi); (try clear ho0); obtain ⟨Ao14, co14, eo14⟩ := Kd.R_slice HO110.out; subst eo14; have p111 : 0 ≤ (2 : Int) := (by omega); have q111 : 2 < (t108.length : Int) := of_decide_eq_true (by first | (with_reducible assumption) | assumption); obtain ⟨ad111, e111, hx111_0⟩ := Kd.at_int (Kd.R_reads' HO110.out).2.2 2 p111 q111; cases e111; (try simp only [show (2 : Int).toNat = 2 from rfl, Nat.reduceMul, Nat.reduceEqDiff, Go.Addr.add, ↓reduceIte] at hx111_0); have qi111 : (2 < t108.length) = True := eq_true (by omega); (try rw [show ((2 : Int)).toNat = 2 from rfl] at hx111_0); replace p111 := eq_true p111; replace q111 := eq_true q111; have p112 : 0 ≤ (3 : Int) := (by omega); have q112 : 3 < (t108.length : Int) := of_decide_eq_true (by first | (with_reducible assumption) | assumption); obtain ⟨ad112, e112, hx112_0⟩ := Kd.at_int (Kd.R_reads' HO110.out).2.2 3 p112 q112; obtain rfl : ad111 = ad112 := (by injection e112); (try simp only [show (3 : Int).toNat = 3 from rfl, Nat.reduceMul, Nat.reduceEqDiff, Go.Addr.add, ↓reduceIte] at hx112_0); have qi112 : (3 < t108.length) = True := eq_true (by omega); (try rw [show ((3 : Int)).toNat = 3 from rfl] at hx112_0); replace p112 := eq_true p112; replace q112 := eq_true q112; have p113 : 0 ≤ (5 : Int) := (by omega); have q113 : 5 < (t108.length : Int) := of_decide_eq_true (by first | (with_reducible assumption) | assumption); obtain ⟨ad113, e113, hx113_0⟩ := Kd.at_int (Kd.R_reads' HO110.out).2.2 5 p113 q113; obtain rfl : ad111 = ad113 := (by injection e113); (try simp only [show (5 : Int).toNat = 5 from rfl, Nat.reduceMul, Nat.reduceEqDiff, Go.Addr.add, ↓reduceIte] at hx113_0); have qi113 : (5 < t108.length) = True := eq_true (by omega); (try rw [show ((5 : Int)).toNat = 5 from rfl] at hx113_0); replace p113 := eq_true p113; replace q113 := eq_true q113; have p114 : 0 ≤ (0 : Int) := (by omega); have q114 : 0 < (t108.length : Int) := of_decide_eq_true (by first | (with_reducible assumption) | assumption); obtain ⟨ad114, e114, hx114_0⟩ := Kd.at_int (Kd.R_reads' HO110.out).2.2 0 p114 q114; obtain rfl : ad111 = ad114 := (by injection e114); have qi114 : (0 < t108.length) = True := eq_true (by omega); (try rw [show ((0 : Int)).toNat = 0 from rfl] at hx114_0); (try rw [Addr.add_zero'] at hx114_0); replace p114 := eq_true p114; replace q114 := eq_true q114))
                  go_ret
                  exact ⟨by first | rfl | (simp [errW_none, errW_some] <;> rfl) | (simp [*, errW_none, errW_some] <;> rfl), by repeat (first | (with_reducible first | exact HB.out | apply below_alloc | apply pw_below_drewN | apply below_drew1) | exact HB.out)⟩
                · rw [if_neg c9] at H
                  exact absurd H (by simp)
              · rw [if_neg c8] at H
                have c8b0 : ((rd t108 5) == 2) = false := beq_eq_false_iff_ne.mpr c8
                have c8b1 : ((rd t108 5) != 2) = true := bne_iff_ne.mpr c8
                obtain rfl := Option.some.inj H
                go_enter Tryd.func10, Tryd.ntmps10
                go_wp2_with (first | ((with_reducible refine gate_dst (N := 2) rfl ?_); refine Kd.R_lit (Kd.int .i64) _ 3 ?hg (N := 2) ?hd (xs := ([5, 6, 5, 5, 7, 6] : List Int)) (inner := [.int .i64 5, .int .i64 6, .int .i64 5, .int .i64 5, .int .i64 7, .int .i64 6]) (ok := fun _ => True) (okp := fun _ => True) ?hr ?hp (fun _ hk => hk) trivial (Below.refl _ _) (Nat.le_refl _) (by simp) ?_; (case hd => rfl); (case hg => rfl); (case hr => first | (go_simp; done) | (go_simp; rfl)); (case hp => exact (Reps.one (show Kd.M (Kd.int .i64) _ _ _ 5 [.int .i64 5] from rfl) (Reps.one (show Kd.M (Kd.int .i64) _ _ _ 6 [.int .i64 6] from rfl) (Reps.one (show Kd.M (Kd.int .i64) _ _ _ 5 [.int .i64 5] from rfl) (Reps.one (show Kd.M (Kd.int .i64) _ _ _ 5 [.int .i64 5] from rfl) (Reps.one (show Kd.M (Kd.int .i64) _ _ _ 7 [.int .i64 7] from rfl) (Reps.one (show Kd.M (Kd.int .i64) _ _ _ 6 [.int .i64 6] from rfl) (Reps.none _ _)))))))); intro v106 w15 ho16 hb hg_ hnew_; clear hg_ hnew_; (first | rw [← Ny105.out] at ho16 | (simp only [Int.reduceToNat] at ho16; rw [← Ny105.out] at ho16)); have n0_ := Aside0.mk (Kd.R_lower ho16 (below_size (by repeat (first | (with_reducible first | exact HB.out | apply below_alloc | apply pw_below_drewN | apply below_drew1) | exact HB.out)))); have n1_ := Aside0.mk (below_step (by repeat (first | (with_reducible first | exact HB.out | apply below_alloc | apply pw_below_drewN | apply below_drew1) | exact HB.out)) hb); clear HB; have HO107 := n0_; have HB := n1_; clear n0_ n1_; clear hb ho16; obtain ⟨Ao17, co17, eo17⟩ := Kd.R_slice HO107.out; subst eo17) | ((with_reducible refine gate_callee (f := 9) rfl ?_); refine goesL_ (some 3) rfl rfl Tryd.func9 (by kernel_rfl) rfl #[.slice Ao17 y105.length co17] rfl (by (try simp only [List.map_toArray, List.map_cons, List.map_nil]); first | done | rfl | (simp only [List.length_drop, List.length_take]; rfl)) ?_; (with_reducible refine (sample_Distances.calls (hT := (by repeat (first | exact HT.out | apply TabOk.drewN | exact TabOk.below HT.out (by repeat (first | (with_reducible first | exact HB.out | apply below_alloc | apply pw_below_drewN | apply below_drew1) | exact HB.out))))) k _ _ y105 t108 _ ?side1 ?side2 A1.out).mono ?_); (case side1 => repeat (first | exact (Kd.R_reads' HO107.out).2.2 | (with_reducible refine Kd.C_alloc ?_ _) | (with_reducible refine Kd.C_drewN ?_ _) | (with_reducible refine Kd.C_drew ?_))); (case side2 => exact (Kd.R_reads' HO107.out).2.1); rintro e w18 ⟨v109, rfl, ho0, hb⟩; refine ⟨_, rfl, ?_⟩; have n0_ := Aside0.mk (Kd.R_elder' (by (with_reducible repeat (first | apply Kd.R_alloc | apply Kd.R_drewN | apply Kd.R_drew)); exact HO107.out) (Kd.R_base ho0) hb); have n1_ := Aside0.mk (Kd.R_lower (Kd.R_new' ho0 (Kd.R_lt (by (with_reducible repeat (first | apply Kd.R_alloc | apply Kd.R_drewN | apply Kd.R_drew)); exact HO107.out))) (below_size (by repeat (first | (with_reducible first | exact HB.out | apply below_alloc | apply pw_below_drewN | apply below_drew1) | exact HB.out)))); have n2_ := Aside0.mk (below_step (by repeat (first | (with_reducible first | exact HB.out | apply below_alloc | apply pw_below_drewN | apply below_drew1) | exact HB.out)) hb); clear HO107; clear HB; have HO107 := n0_; have HO110 := n1_; have HB := n2_; clear n0_ n1_ n2_; (try clear hb); (try clear hb2); (try clear hk); (try clear hi); (try clear ho0); obtain ⟨Ao19, co19, eo19⟩ := Kd.R_slice HO110.out; subst eo19; have p111 : 0 ≤ (2 : Int) := (by omega); have q111 : 2 < (t108.length : Int) := of_decide_eq_true (by first | (with_reducible assumption) | assumption); obtain ⟨ad111, e111, hx111_0⟩ := Kd.at_int (Kd.R_reads' HO110.out).2.2 2 p111 q111; cases e111; (try simp only [show (2 : Int).toNat = 2 from rfl, Nat.reduceMul, Nat.reduceEqDiff, Go.Addr.add, ↓reduceIte] at hx111_0); have qi111 : (2 < t108.length) = True := eq_true (by omega); (try rw [show ((2 : Int)).toNat = 2 from rfl] at hx111_0); replace p111 := eq_true p111; replace q111 := eq_true q111; have p112 : 0 ≤ (3 : Int) := (by omega); have q112 : 3 < (t108.length : Int) := of_decide_eq_true (by first | (with_reducible assumption) | assumption); obtain ⟨ad112, e112, hx112_0⟩ := Kd.at_int (Kd.R_reads' HO110.out).2.2 3 p112 q112; obtain rfl : ad111 = ad112 := (by injection e112); (try simp only [show (3 : Int).toNat = 3 from rfl, Nat.reduceMul, Nat.reduceEqDiff, Go.Addr.add, ↓reduceIte] at hx112_0); have qi112 : (3 < t108.length) = True := eq_true (by omega); (try rw [show ((3 : Int)).toNat = 3 from rfl] at hx112_0); replace p112 := eq_true p112; replace q112 := eq_true q112; have p113 : 0 ≤ (5 : Int) := (by omega); have q113 : 5 < (t108.length : Int) := of_decide_eq_true (by first | (with_reducible assumption) | assumption); obtain ⟨ad113, e113, hx113_0⟩ := Kd.at_int (Kd.R_reads' HO110.out).2.2 5 p113 q113; obtain rfl : ad111 = ad113 := (by injection e113); (try simp only [show (5 : Int).toNat = 5 from rfl, Nat.reduceMul, Nat.reduceEqDiff, Go.Addr.add, ↓reduceIte] at hx113_0); have qi113 : (5 < t108.length) = True := eq_true (by omega); (try rw [show ((5 : Int)).toNat = 5 from rfl] at hx113_0); replace p113 := eq_true p113; replace q113 := eq_true q113))
                go_ret
                exact ⟨by first | rfl | (simp [errW_none, errW_some] <;> rfl) | (simp [*, errW_none, errW_some] <;> rfl), by repeat (first | (with_reducible first | exact HB.out | apply below_alloc | apply pw_below_drewN | apply below_drew1) | exact HB.out)⟩
            · rw [if_neg c7] at H
              exact absurd H (by simp)
          · rw [if_neg c6] at H
            have c6b0 : ((rd t108 3) == 0) = false := beq_eq_false_iff_ne.mpr c6
            have c6b1 : ((rd t108 3) != 0) = true := bne_iff_ne.mpr c6
            obtain rfl := Option.some.inj H
            go_enter Tryd.func10, Tryd.ntmps10
            go_wp2_with (first | ((with_reducible refine gate_dst (N := 2) rfl ?_); refine Kd.R_lit (Kd.int .i64) _ 3 ?hg (N := 2) ?hd (xs := ([5, 6, 5, 5, 7, 6] : List Int)) (inner := [.int .i64 5, .int .i64 6, .int .i64 5, .int .i64 5, .int .i64 7, .int .i64 6]) (ok := fun _ => True) (okp := fun _ => True) ?hr ?hp (fun _ hk => hk) trivial (Below.refl _ _) (Nat.le_refl _) (by simp) ?_; (case hd => rfl); (case hg => rfl); (case hr => first | (go_simp; done) | (go_simp; rfl)); (case hp => exact (Reps.one (show Kd.M (Kd.int .i64) _ _ _ 5 [.int .i64 5] from rfl) (Reps.one (show Kd.M (Kd.int .i64) _ _ _ 6 [.int .i64 6] from rfl) (Reps.one (show Kd.M (Kd.int .i64) _ _ _ 5 [.int .i64 5] from rfl) (Reps.one (show Kd.M (Kd.int .i64) _ _ _ 5 [.int .i64 5] from rfl) (Reps.one (show Kd.M (Kd.int .i64) _ _ _ 7 [.int .i64 7] from rfl) (Reps.one (show Kd.M (Kd.int .i64) _ _ _ 6 [.int .i64 6] from rfl) (Reps.none _ _)))))))); intro v106 w20 ho21 hb hg_ hnew_; clear hg_ hnew_; (first | rw [← Ny105.out] at ho21 | (simp only [Int.reduceToNat] at ho21; rw [← Ny105.out] at ho21)); have n0_ := Aside0.mk (Kd.R_lower ho21 (below_size (by repeat (first | (with_reducible first | exact HB.out | apply below_alloc | apply pw_below_drewN | apply below_drew1) | exact HB.out)))); have n1_ := Aside0.mk (below_step (by repeat (first | (with_reducible first | exact HB.out | apply below_alloc | apply pw_below_drewN | apply below_drew1) | exact HB.out)) hb); clear HB; have HO107 := n0_; have HB := n1_; clear n0_ n1_; clear hb ho21; obtain ⟨Ao22, co22, eo22⟩ := Kd.R_slice HO107.out; subst eo22) | ((with_reducible refine gate_callee (f := 9) rfl ?_); refine goesL_ (some 3) rfl rfl Tryd.func9 (by kernel_rfl) rfl #[.slice Ao22 y105.length co22] rfl (by (try simp only [List.map_toArray, List.map_cons, List.map_nil]); first | done | rfl | (simp only [List.length_drop, List.length_take]; rfl)) ?_; (with_reducible refine (sample_Distances.calls (hT := (by repeat (first | exact HT.out | apply TabOk.drewN | exact TabOk.below HT.out (by repeat (first | (with_reducible first | exact HB.out | apply below_alloc | apply pw_below_drewN | apply below_drew1) | exact HB.out))))) k _ _ y105 t108 _ ?side1 ?side2 A1.out).mono ?_); (case side1 => repeat (first | exact (Kd.R_reads' HO107.out).2.2 | (with_reducible refine Kd.C_alloc ?_ _) | (with_reducible refine Kd.C_drewN ?_ _) | (with_reducible refine Kd.C_drew ?_))); (case side2 => exact (Kd.R_reads' HO107.out).2.1); rintro e w23 ⟨v109, rfl, ho0, hb⟩; refine ⟨_, rfl, ?_⟩; have n0_ := Aside0.mk (Kd.R_elder' (by (with_reducible repeat (first | apply Kd.R_alloc | apply Kd.R_drewN | apply Kd.R_drew)); exact HO107.out) (Kd.R_base ho0) hb); have n1_ := Aside0.mk (Kd.R_lower (Kd.R_new' ho0 (Kd.R_lt (by (with_reducible repeat (first | apply Kd.R_alloc | apply Kd.R_drewN | apply Kd.R_drew)); exact HO107.out))) (below_size (by repeat (first | (with_reducible first | exact HB.out | apply below_alloc | apply pw_below_drewN | apply below_drew1) | exact HB.out)))); have n2_ := Aside0.mk (below_step (by repeat (first | (with_reducible first | exact HB.out | apply below_alloc | apply pw_below_drewN | apply below_drew1) | exact HB.out)) hb); clear HO107; clear HB; have HO107 := n0_; have HO110 := n1_; have HB := n2_; clear n0_ n1_ n2_; (try clear hb); (try clear hb2); (try clear hk); (try clear hi); (try clear ho0); obtain ⟨Ao24, co24, eo24⟩ := Kd.R_slice HO110.out; subst eo24; have p111 : 0 ≤ (2 : Int) := (by omega); have q111 : 2 < (t108.length : Int) := of_decide_eq_true (by first | (with_reducible assumption) | assumption); obtain ⟨ad111, e111, hx111_0⟩ := Kd.at_int (Kd.R_reads' HO110.out).2.2 2 p111 q111; cases e111; (try simp only [show (2 : Int).toNat = 2 from rfl, Nat.reduceMul, Nat.reduceEqDiff, Go.Addr.add, ↓reduceIte] at hx111_0); have qi111 : (2 < t108.length) = True := eq_true (by omega); (try rw [show ((2 : Int)).toNat = 2 from rfl] at hx111_0); replace p111 := eq_true p111; replace q111 := eq_true q111; have p112 : 0 ≤ (3 : Int) := (by omega); have q112 : 3 < (t108.length : Int) := of_decide_eq_true (by first | (with_reducible assumption) | assumption); obtain ⟨ad112, e112, hx112_0⟩ := Kd.at_int (Kd.R_reads' HO110.out).2.2 3 p112 q112; obtain rfl : ad111 = ad112 := (by injection e112); (try simp only [show (3 : Int).toNat = 3 from rfl, Nat.reduceMul, Nat.reduceEqDiff, Go.Addr.add, ↓reduceIte] at hx112_0); have qi112 : (3 < t108.length) = True := eq_true (by omega); (try rw [show ((3 : Int)).toNat = 3 from rfl] at hx112_0); replace p112 := eq_true p112; replace q112 := eq_true q112))
            go_ret
            exact ⟨by first | rfl | (simp [errW_none, errW_some] <;> rfl) | (simp [*, errW_none, errW_some] <;> rfl), by repeat (first | (with_reducible first | exact HB.out | apply below_alloc | apply pw_below_drewN | apply below_drew1) | exact HB.out)⟩
        · rw [if_neg c5] at H
          exact absurd H (by simp)
      · rw [if_neg c4] at H
        have c4b0 : ((rd t108 2) == 1) = false := beq_eq_false_iff_ne.mpr c4
        have c4b1 : ((rd t108 2) != 1) = true := bne_iff_ne.mpr c4
        obtain rfl := Option.some.inj H
        go_enter Tryd.func10, Tryd.ntmps10
        go_wp2_with (first | ((with_reducible refine gate_dst (N := 2) rfl ?_); refine Kd.R_lit (Kd.int .i64) _ 3 ?hg (N := 2) ?hd (xs := ([5, 6, 5, 5, 7, 6] : List Int)) (inner := [.int .i64 5, .int .i64 6, .int .i64 5, .int .i64 5, .int .i64 7, .int .i64 6]) (ok := fun _ => True) (okp := fun _ => True) ?hr ?hp (fun _ hk => hk) trivial (Below.refl _ _) (Nat.le_refl _) (by simp) ?_; (case hd => rfl); (case hg => rfl); (case hr => first | (go_simp; done) | (go_simp; rfl)); (case hp => exact (Reps.one (show Kd.M (Kd.int .i64) _ _ _ 5 [.int .i64 5] from rfl) (Reps.one (show Kd.M (Kd.int .i64) _ _ _ 6 [.int .i64 6] from rfl) (Reps.one (show Kd.M (Kd.int .i64) _ _ _ 5 [.int .i64 5] from rfl) (Reps.one (show Kd.M (Kd.int .i64) _ _ _ 5 [.int .i64 5] from rfl) (Reps.one (show Kd.M (Kd.int .i64) _ _ _ 7 [.int .i64 7] from rfl) (Reps.one (show Kd.M (Kd.int .i64) _ _ _ 6 [.int .i64 6] from rfl) (Reps.none _ _)))))))); intro v106 w25 ho26 hb hg_ hnew_; clear hg_ hnew_; (first | rw [← Ny105.out] at ho26 | (simp only [Int.reduceToNat] at ho26; rw [← Ny105.out] at ho26)); have n0_ := Aside0.mk (Kd.R_lower ho26 (below_size (by repeat (first | (with_reducible first | exact HB.out | apply below_alloc | apply pw_below_drewN | apply below_drew1) | exact HB.out)))); have n1_ := Aside0.mk (below_step (by repeat (first | (with_reducible first | exact HB.out | apply below_alloc | apply pw_below_drewN | apply below_drew1) | exact HB.out)) hb); clear HB; have HO107 := n0_; have HB := n1_; clear n0_ n1_; clear hb ho26; obtain ⟨Ao27, co27, eo27⟩ := Kd.R_slice HO107.out; subst eo27) | ((with_reducible refine gate_callee (f := 9) rfl ?_); refine goesL_ (some 3) rfl rfl Tryd.func9 (by kernel_rfl) rfl #[.slice Ao27 y105.length co27] rfl (by (try simp only [List.map_toArray, List.map_cons, List.map_nil]); first | done | rfl | (simp only [List.length_drop, List.length_take]; rfl)) ?_; (with_reducible refine (sample_Distances.calls (hT := (by repeat (first | exact HT.out | apply TabOk.drewN | exact TabOk.below HT.out (by repeat (first | (with_reducible first | exact HB.out | apply below_alloc | apply pw_below_drewN | apply below_drew1) | exact HB.out))))) k _ _ y105 t108 _ ?side1 ?side2 A1.out).mono ?_); (case side1 => repeat (first | exact (Kd.R_reads' HO107.out).2.2 | (with_reducible refine Kd.C_alloc ?_ _) | (with_reducible refine Kd.C_drewN ?_ _) | (with_reducible refine Kd.C_drew ?_))); (case side2 => exact (Kd.R_reads' HO107.out).2.1); rintro e w28 ⟨v109, rfl, ho0, hb⟩; refine ⟨_, rfl, ?_⟩; have n0_ := Aside0.mk (Kd.R_elder' (by (with_reducible repeat (first | apply Kd.R_alloc | apply Kd.R_drewN | apply Kd.R_drew)); exact HO107.out) (Kd.R_base ho0) hb); have n1_ := Aside0.mk (Kd.R_lower (Kd.R_new' ho0 (Kd.R_lt (by (with_reducible repeat (first | apply Kd.R_alloc | apply Kd.R_drewN | apply Kd.R_drew)); exact HO107.out))) (below_size (by repeat (first | (with_reducible first | exact HB.out | apply below_alloc | apply pw_below_drewN | apply below_drew1) | exact HB.out)))); have n2_ := Aside0.mk (below_step (by repeat (first | (with_reducible first | exact HB.out | apply below_alloc | apply pw_below_drewN | apply below_drew1) | exact HB.out)) hb); clear HO107; clear HB; have HO107 := n0_; have HO110 := n1_; have HB := n2_; clear n0_ n1_ n2_; (try clear hb); (try clear hb2); (try clear hk); (try clear hi); (try clear ho0); obtain ⟨Ao29, co29, eo29⟩ := Kd.R_slice HO110.out; subst eo29; have p111 : 0 ≤ (2 : Int) := (by omega); have q111 : 2 < (t108.length : Int) := of_decide_eq_true (by first | (with_reducible assumption) | assumption); obtain ⟨ad111, e111, hx111_0⟩ := Kd.at_int (Kd.R_reads' HO110.out).2.2 2 p111 q111; cases e111; (try simp only [show (2 : Int).toNat = 2 from rfl, Nat.reduceMul, Nat.reduceEqDiff, Go.Addr.add, ↓reduceIte] at hx111_0); have qi111 : (2 < t108.length) = True := eq_true (by omega); (try rw [show ((2 : Int)).toNat = 2 from rfl] at hx111_0); replace p111 := eq_true p111; replace q111 := eq_true q111))
        go_ret
        exact ⟨by first | rfl | (simp [errW_none, errW_some] <;> rfl) | (simp [*, errW_none, errW_some] <;> rfl), by repeat (first | (with_reducible first | exact HB.out | apply below_alloc | apply pw_below_drewN | apply below_drew1) | exact HB.out)⟩
    · rw [if_neg c3] at H
      exact absurd H (by simp)
  · rw [if_neg c2] at H
    have c2b0 : ((t108.length : Int) == 6) = false := beq_eq_false_iff_ne.mpr c2
    have c2b1 : ((t108.length : Int) != 6) = true := bne_iff_ne.mpr c2
    obtain rfl := Option.some.inj H
    go_enter Tryd.func10, Tryd.ntmps10
    go_wp2_with (first | ((with_reducible refine gate_dst (N := 2) rfl ?_); refine Kd.R_lit (Kd.int .i64) _ 3 ?hg (N := 2) ?hd (xs := ([5, 6, 5, 5, 7, 6] : List Int)) (inner := [.int .i64 5, .int .i64 6, .int .i64 5, .int .i64 5, .int .i64 7, .int .i64 6]) (ok := fun _ => True) (okp := fun _ => True) ?hr ?hp (fun _ hk => hk) trivial (Below.refl _ _) (Nat.le_refl _) (by simp) ?_; (case hd => rfl); (case hg => rfl); (case hr => first | (go_simp; done) | (go_simp; rfl)); (case hp => exact (Reps.one (show Kd.M (Kd.int .i64) _ _ _ 5 [.int .i64 5] from rfl) (Reps.one (show Kd.M (Kd.int .i64) _ _ _ 6 [.int .i64 6] from rfl) (Reps.one (show Kd.M (Kd.int .i64) _ _ _ 5 [.int .i64 5] from rfl) (Reps.one (show Kd.M (Kd.int .i64) _ _ _ 5 [.int .i64 5] from rfl) (Reps.one (show Kd.M (Kd.int .i64) _ _ _ 7 [.int .i64 7] from rfl) (Reps.one (show Kd.M (Kd.int .i64) _ _ _ 6 [.int .i64 6] from rfl) (Reps.none _ _)))))))); intro v106 w30 ho31 hb hg_ hnew_; clear hg_ hnew_; (first | rw [← Ny105.out] at ho31 | (simp only [Int.reduceToNat] at ho31; rw [← Ny105.out] at ho31)); have n0_ := Aside0.mk (Kd.R_lower ho31 (below_size (by repeat (first | (with_reducible first | exact HB.out | apply below_alloc | apply pw_below_drewN | apply below_drew1) | exact HB.out)))); have n1_ := Aside0.mk (below_step (by repeat (first | (with_reducible first | exact HB.out | apply below_alloc | apply pw_below_drewN | apply below_drew1) | exact HB.out)) hb); clear HB; have HO107 := n0_; have HB := n1_; clear n0_ n1_; clear hb ho31; obtain ⟨Ao32, co32, eo32⟩ := Kd.R_slice HO107.out; subst eo32) | ((with_reducible refine gate_callee (f := 9) rfl ?_); refine goesL_ (some 3) rfl rfl Tryd.func9 (by kernel_rfl) rfl #[.slice Ao32 y105.length co32] rfl (by (try simp only [List.map_toArray, List.map_cons, List.map_nil]); first | done | rfl | (simp only [List.length_drop, List.length_take]; rfl)) ?_; (with_reducible refine (sample_Distances.calls (hT := (by repeat (first | exact HT.out | apply TabOk.drewN | exact TabOk.below HT.out (by repeat (first | (with_reducible first | exact HB.out | apply below_alloc | apply pw_below_drewN | apply below_drew1) | exact HB.out))))) k _ _ y105 t108 _ ?side1 ?side2 A1.out).mono ?_); (case side1 => repeat (first | exact (Kd.R_reads' HO107.out).2.2 | (with_reducible refine Kd.C_alloc ?_ _) | (with_reducible refine Kd.C_drewN ?_ _) | (with_reducible refine Kd.C_drew ?_))); (case side2 => exact (Kd.R_reads' HO107.out).2.1); rintro e w33 ⟨v109, rfl, ho0, hb⟩; refine ⟨_, rfl, ?_⟩; have n0_ := Aside0.mk (Kd.R_elder' (by (with_reducible repeat (first | apply Kd.R_alloc | apply Kd.R_drewN | apply Kd.R_drew)); exact HO107.out) (Kd.R_base ho0) hb); have n1_ := Aside0.mk (Kd.R_lower (Kd.R_new' ho0 (Kd.R_lt (by (with_reducible repeat (first | apply Kd.R_alloc | apply Kd.R_drewN | apply Kd.R_drew)); exact HO107.out))) (below_size (by repeat (first | (with_reducible first | exact HB.out | apply below_alloc | apply pw_below_drewN | apply below_drew1) | exact HB.out)))); have n2_ := Aside0.mk (below_step (by repeat (first | (with_reducible first | exact HB.out | apply below_alloc | apply pw_below_drewN | apply below_drew1) | exact HB.out)) hb); clear HO107; clear HB; have HO107 := n0_; have HO110 := n1_; have HB := n2_; clear n0_ n1_ n2_; (try clear hb); (try clear hb2); (try clear hk); (try clear hi); (try clear ho0); obtain ⟨Ao34, co34, eo34⟩ := Kd.R_slice HO110.out; subst eo34))
    go_ret
    exact ⟨by first | rfl | (simp [errW_none, errW_some] <;> rfl) | (simp [*, errW_none, errW_some] <;> rfl), by repeat (first | (with_reducible first | exact HB.out | apply below_alloc | apply pw_below_drewN | apply below_drew1) | exact HB.out)⟩

/-! ### sample_Hash: function 13 -/
def sample_Hash.f (a0 : Int) (a1 : Int) : Option (Int) := some (wrap64 (Int.tmod (Go.bits .xor .u64 (IntKind.u64.wrap ((Go.bits .xor .u64 (IntKind.u64.wrap ((IntKind.u64.wrap ((IntKind.u64.wrap (a0)) * 11400714819323198485)) + (IntKind.u64.wrap ((IntKind.u64.wrap (a1)) * 14029467366897019727)))) ((IntKind.u64.wrap ((IntKind.u64.wrap ((IntKind.u64.wrap (a0)) * 11400714819323198485)) + (IntKind.u64.wrap ((IntKind.u64.wrap (a1)) * 14029467366897019727)))) / 536870912)) * 13787848793156543929)) ((IntKind.u64.wrap ((Go.bits .xor .u64 (IntKind.u64.wrap ((IntKind.u64.wrap ((IntKind.u64.wrap (a0)) * 11400714819323198485)) + (IntKind.u64.wrap ((IntKind.u64.wrap (a1)) * 14029467366897019727)))) ((IntKind.u64.wrap ((IntKind.u64.wrap ((IntKind.u64.wrap (a0)) * 11400714819323198485)) + (IntKind.u64.wrap ((IntKind.u64.wrap (a1)) * 14029467366897019727)))) / 536870912)) * 13787848793156543929)) / 4294967296)) 16777216))
set_option maxHeartbeats 8000000 in
set_option maxRecDepth 100000 in
theorem sample_Hash.calls (a0 : Int) (a1 : Int) (r : Int) (w : World) (h : sample_Hash.f a0 a1 = some r) :
    Calls Tryd.prog 13 #[.int .i64 a0, .int .i64 a1] w fun e w' => e = .returned (.int .i64 r) ∧ Drawn0 w w' := by
  have H : (some (wrap64 (Int.tmod (Go.bits .xor .u64 (IntKind.u64.wrap ((Go.bits .xor .u64 (IntKind.u64.wrap ((IntKind.u64.wrap ((IntKind.u64.wrap (a0)) * 11400714819323198485)) + (IntKind.u64.wrap ((IntKind.u64.wrap (a1)) * 14029467366897019727)))) ((IntKind.u64.wrap ((IntKind.u64.wrap ((IntKind.u64.wrap (a0)) * 11400714819323198485)) + (IntKind.u64.wrap ((IntKind.u64.wrap (a1)) * 14029467366897019727)))) / 536870912)) * 13787848793156543929)) ((IntKind.u64.wrap ((Go.bits .xor .u64 (IntKind.u64.wrap ((IntKind.u64.wrap ((IntKind.u64.wrap (a0)) * 11400714819323198485)) + (IntKind.u64.wrap ((IntKind.u64.wrap (a1)) * 14029467366897019727)))) ((IntKind.u64.wrap ((IntKind.u64.wrap ((IntKind.u64.wrap (a0)) * 11400714819323198485)) + (IntKind.u64.wrap ((IntKind.u64.wrap (a1)) * 14029467366897019727)))) / 536870912)) * 13787848793156543929)) / 4294967296)) 16777216))) = some r := h
  clear h
  obtain rfl := Option.some.inj H
  go_enter Tryd.func13, Tryd.ntmps13
  go_wp2
  go_ret
  exact ⟨by first | rfl | (simp; done) | (simp [*]; done), by repeat (first | exact Drawn0.refl _ | apply Drawn0.step)⟩

/-! ### stowageref10_Hash: function 14 -/
def stowageref10_Hash.f (a0 : Int) (a1 : Int) : Option (Int) := some (wrap64 (Int.tmod (Go.bits .xor .u64 (IntKind.u64.wrap ((Go.bits .xor .u64 (IntKind.u64.wrap ((IntKind.u64.wrap (11400714819323198485 * (IntKind.u64.wrap (a0)))) + (IntKind.u64.wrap (14029467366897019727 * (IntKind.u64.wrap (a1)))))) ((IntKind.u64.wrap ((IntKind.u64.wrap (11400714819323198485 * (IntKind.u64.wrap (a0)))) + (IntKind.u64.wrap (14029467366897019727 * (IntKind.u64.wrap (a1)))))) / 536870912)) * 13787848793156543929)) ((IntKind.u64.wrap ((Go.bits .xor .u64 (IntKind.u64.wrap ((IntKind.u64.wrap (11400714819323198485 * (IntKind.u64.wrap (a0)))) + (IntKind.u64.wrap (14029467366897019727 * (IntKind.u64.wrap (a1)))))) ((IntKind.u64.wrap ((IntKind.u64.wrap (11400714819323198485 * (IntKind.u64.wrap (a0)))) + (IntKind.u64.wrap (14029467366897019727 * (IntKind.u64.wrap (a1)))))) / 536870912)) * 13787848793156543929)) / 4294967296)) 16777216))
set_option maxHeartbeats 8000000 in
set_option maxRecDepth 100000 in
theorem stowageref10_Hash.calls (a0 : Int) (a1 : Int) (r : Int) (w : World) (h : stowageref10_Hash.f a0 a1 = some r) :
    Calls Tryd.prog 14 #[.int .i64 a0, .int .i64 a1] w fun e w' => e = .returned (.int .i64 r) ∧ Drawn0 w w' := by
  have H : (some (wrap64 (Int.tmod (Go.bits .xor .u64 (IntKind.u64.wrap ((Go.bits .xor .u64 (IntKind.u64.wrap ((IntKind.u64.wrap (11400714819323198485 * (IntKind.u64.wrap (a0)))) + (IntKind.u64.wrap (14029467366897019727 * (IntKind.u64.wrap (a1)))))) ((IntKind.u64.wrap ((IntKind.u64.wrap (11400714819323198485 * (IntKind.u64.wrap (a0)))) + (IntKind.u64.wrap (14029467366897019727 * (IntKind.u64.wrap (a1)))))) / 536870912)) * 13787848793156543929)) ((IntKind.u64.wrap ((Go.bits .xor .u64 (IntKind.u64.wrap ((IntKind.u64.wrap (11400714819323198485 * (IntKind.u64.wrap (a0)))) + (IntKind.u64.wrap (14029467366897019727 * (IntKind.u64.wrap (a1)))))) ((IntKind.u64.wrap ((IntKind.u64.wrap (11400714819323198485 * (IntKind.u64.wrap (a0)))) + (IntKind.u64.wrap (14029467366897019727 * (IntKind.u64.wrap (a1)))))) / 536870912)) * 13787848793156543929)) / 4294967296)) 16777216))) = some r := h
  clear h
  obtain rfl := Option.some.inj H
  go_enter Tryd.func14, Tryd.ntmps14
  go_wp2
  go_ret
  exact ⟨by first | rfl | (simp; done) | (simp [*]; done), by repeat (first | exact Drawn0.refl _ | apply Drawn0.step)⟩

/-! ### sample_Taken: function 15 -/
def sample_Taken.f (a0 : Int) (a1 : Int) (a2 : Int) : Option (Bool) := (sample_Hash.f a0 a1).bind fun t115 => (some (decide (t115 < a2)))
set_option maxHeartbeats 8000000 in
set_option maxRecDepth 100000 in
theorem sample_Taken.calls (a0 : Int) (a1 : Int) (a2 : Int) (r : Bool) (w : World) (h : sample_Taken.f a0 a1 a2 = some r) :
    Calls Tryd.prog 15 #[.int .i64 a0, .int .i64 a1, .int .i64 a2] w fun e w' => e = .returned (.bool r) ∧ Drawn0 w w' := by
  have H : ((sample_Hash.f a0 a1).bind fun t115 => (some (decide (t115 < a2)))) = some r := h
  clear h
  replace H := Option.bind_eq_some_iff.mp H
  obtain ⟨t115, A40, H⟩ := H
  replace H : (some (decide (t115 < a2))) = some r := H
  have A4 := Aside0.mk A40
  clear A40
  obtain rfl := Option.some.inj H
  go_enter Tryd.func15, Tryd.ntmps15
  go_wp2_with (first | ((with_reducible refine gate_callee (f := 13) rfl ?_); refine goesL_ (some 9) rfl rfl Tryd.func13 (by kernel_rfl) rfl #[.int .i64 a0, .int .i64 a1] rfl (by (try simp only [List.map_toArray, List.map_cons, List.map_nil]); first | done | rfl | (simp only [List.length_drop, List.length_take]; rfl)) ?_; (with_reducible refine (sample_Hash.calls a0 a1 t115 _ A4.out).mono ?_); rintro e w' ⟨rfl, ⟨nd, rfl⟩⟩; refine ⟨_, rfl, ?_⟩))
  go_ret
  exact ⟨by first | rfl | (simp; done) | (simp [*]; done), by repeat (first | exact Drawn0.refl _ | apply Drawn0.step)⟩

/-! ### stowagelaw10_SampleHashes: function 6 -/
def stowagelaw10_SampleHashes.f (k : Nat) (a0 : Int) (a1 : Int) (a2 : Int) : Option (Bool) := (sample_Hash.f a0 a1).bind fun t116 => ((stowagelaw10_awake.f k).bind fun t117 => (if t117 = true then ((stowageref10_Hash.f a0 a1).bind fun t118 => (if t116 = t118 then ((sample_Taken.f a0 a1 a2).bind fun t119 => (if (t119 == (decide (t116 < a2))) = true then (if t116 ≥ 0 then (some (decide (t116 < 16777216))) else (some false)) else (some false))) else (some false))) else (some false)))
theorem stowagelaw10_SampleHashes.mono : ∀ a0 a1 a2 k, LeO (stowagelaw10_SampleHashes.f k a0 a1 a2) (stowagelaw10_SampleHashes.f (k + 1) a0 a1 a2) := by
  intro a0 a1 a2 k
  unfold stowagelaw10_SampleHashes.f
  repeat' first
      | (with_reducible exact stowagelaw10_awake.mono _)
      | (with_reducible exact LeO.refl _)
      | (with_reducible exact LeO.none _)
      | (with_reducible refine LeO.ite ?_ ?_)
      | (with_reducible refine LeO.bind ?_ (fun _ => ?_))
      | exact stowagelaw10_awake.mono _
      | exact LeO.none _
      | refine LeO.ite ?_ ?_
      | refine LeO.bind ?_ (fun _ => ?_)
set_option maxHeartbeats 8000000 in
set_option maxRecDepth 100000 in
theorem stowagelaw10_SampleHashes.calls (k : Nat) (a0 : Int) (a1 : Int) (a2 : Int) (r : Bool) (w : World) (hT : TabOk w) (h : stowagelaw10_SampleHashes.f k a0 a1 a2 = some r) :
    Calls Tryd.prog 6 #[.int .i64 a0, .int .i64 a1, .int .i64 a2] w fun e w' => e = .returned (.bool r) ∧ Below w.heap.size w w' := by
  have HT := Aside0.mk hT
  clear hT
  have HB := Aside0.mk (Below.refl w.heap.size w)
  have H : ((sample_Hash.f a0 a1).bind fun t116 => ((stowagelaw10_awake.f k).bind fun t117 => (if t117 = true then ((stowageref10_Hash.f a0 a1).bind fun t118 => (if t116 = t118 then ((sample_Taken.f a0 a1 a2).bind fun t119 => (if (t119 == (decide (t116 < a2))) = true then (if t116 ≥ 0 then (some (decide (t116 < 16777216))) else (some false)) else (some false))) else (some false))) else (some false)))) = some r := h
  clear h
  replace H := Option.bind_eq_some_iff.mp H
  obtain ⟨t116, A40, H⟩ := H
  replace H : ((stowagelaw10_awake.f k).bind fun t117 => (if t117 = true then ((stowageref10_Hash.f a0 a1).bind fun t118 => (if t116 = t118 then ((sample_Taken.f a0 a1 a2).bind fun t119 => (if (t119 == (decide (t116 < a2))) = true then (if t116 ≥ 0 then (some (decide (t116 < 16777216))) else (some false)) else (some false))) else (some false))) else (some false))) = some r := H
  have A4 := Aside0.mk A40
  clear A40
  replace H := Option.bind_eq_some_iff.mp H
  obtain ⟨t117, A50, H⟩ := H
  replace H : (if t117 = true then ((stowageref10_Hash.f a0 a1).bind fun t118 => (if t116 = t118 then ((sample_Taken.f a0 a1 a2).bind fun t119 => (if (t119 == (decide (t116 < a2))) = true then (if t116 ≥ 0 then (some (decide (t116 < 16777216))) else (some false)) else (some false))) else (some false))) else (some false)) = some r := H
  have A5 := Aside0.mk A50
  clear A50
  by_cases c6 : t117 = true
  · subst c6
    have H1 : ((stowageref10_Hash.f a0 a1).bind fun t118 => (if t116 = t118 then ((sample_Taken.f a0 a1 a2).bind fun t119 => (if (t119 == (decide (t116 < a2))) = true then (if t116 ≥ 0 then (some (decide (t116 < 16777216))) else (some false)) else (some false))) else (some false))) = some r := by rw [if_pos rfl] at H; exact H
    clear H
    have H := H1
    clear H1
    replace H := Option.bind_eq_some_iff.mp H
    obtain ⟨t118, A70, H⟩ := H
    replace H : (if t116 = t118 then ((sample_Taken.f a0 a1 a2).bind fun t119 => (if (t119 == (decide (t116 < a2))) = true then (if t116 ≥ 0 then (some (decide (t116 < 16777216))) else (some false)) else (some false))) else (some false)) = some r := H
    have A7 := Aside0.mk A70
    clear A70
    by_cases c8 : t116 = t118
    · rw [if_pos c8] at H
      have c8b0 : (t116 == t118) = true := beq_iff_eq.mpr c8
      have c8b1 : (t116 != t118) = false := bne_eq_false_iff_eq.mpr c8
      clear c8
      replace H := Option.bind_eq_some_iff.mp H
      obtain ⟨t119, A90, H⟩ := H
      replace H : (if (t119 == (decide (t116 < a2))) = true then (if t116 ≥ 0 then (some (decide (t116 < 16777216))) else (some false)) else (some false)) = some r := H
      have A9 := Aside0.mk A90
      clear A90
      by_cases c10 : (t119 == (decide (t116 < a2))) = true
      · rw [if_pos c10] at H
        have c10b0 : (t119 == (decide (t116 < a2))) = true := c10
        (try (have c10b1 : decide (t119 = (decide (t116 < a2))) = true := by simpa using c10))
        (try (have c10b2 : (t119 == (decide (t116 < a2))) = true := by simpa using c10))
        clear c10
        by_cases c11 : t116 ≥ 0
        · rw [if_pos c11] at H
          have c11b0 : decide (0 ≤ t116) = true := decide_eq_true c11
          clear c11
          obtain rfl := Option.some.inj H
          go_enter Tryd.func6, Tryd.ntmps6
          go_wp2_with (first | ((with_reducible refine gate_callee (f := 13) rfl ?_); refine goesL_ (some 10) rfl rfl Tryd.func13 (by kernel_rfl) rfl #[.int .i64 a0, .int .i64 a1] rfl (by (try simp only [List.map_toArray, List.map_cons, List.map_nil]); first | done | rfl | (simp only [List.length_drop, List.length_take]; rfl)) ?_; (with_reducible refine (sample_Hash.calls a0 a1 t116 _ A4.out).mono ?_); rintro e w' ⟨rfl, ⟨nd, rfl⟩⟩; refine ⟨_, rfl, ?_⟩) | ((with_reducible refine gate_callee (f := 10) rfl ?_); refine goesL_ (some 11) rfl rfl Tryd.func10 (by kernel_rfl) rfl #[] rfl (by (try simp only [List.map_toArray, List.map_cons, List.map_nil]); first | done | rfl | (simp only [List.length_drop, List.length_take]; rfl)) ?_; (with_reducible refine (stowagelaw10_awake.calls (hT := (by repeat (first | exact HT.out | apply TabOk.drewN | exact TabOk.below HT.out (by repeat (first | (with_reducible first | exact HB.out | apply below_alloc | apply pw_below_drewN | apply below_drew1) | exact HB.out))))) k  true _ A5.out).mono ?_); rintro e w12 ⟨rfl, hb⟩; refine ⟨_, rfl, ?_⟩; have n0_ := Aside0.mk (below_step (by repeat (first | (with_reducible first | exact HB.out | apply below_alloc | apply pw_below_drewN | apply below_drew1) | exact HB.out)) hb); clear HB; have HB := n0_; clear n0_; (try clear hb); (try clear hb2); (try clear hk); (try clear hi)) | (go_at_call 14; (with_reducible refine (stowageref10_Hash.calls a0 a1 t118 _ A7.out).mono ?_); rintro e w' ⟨rfl, ⟨nd, rfl⟩⟩) | (go_at_call 15; (with_reducible refine (sample_Taken.calls a0 a1 a2 t119 _ A9.out).mono ?_); rintro e w' ⟨rfl, ⟨nd, rfl⟩⟩))
          go_ret
          exact ⟨by first | rfl | (simp [errW_none, errW_some] <;> rfl) | (simp [*, errW_none, errW_some] <;> rfl), by repeat (first | (with_reducible first | exact HB.out | apply below_alloc | apply pw_below_drewN | apply below_drew1) | exact HB.out)⟩
        · rw [if_neg c11] at H
          have c11b0 : decide (0 ≤ t116) = false := decide_eq_false c11
          clear c11
          obtain rfl := Option.some.inj H
          go_enter Tryd.func6, Tryd.ntmps6
          go_wp2_with (first | ((with_reducible refine gate_callee (f := 13) rfl ?_); refine goesL_ (some 10) rfl rfl Tryd.func13 (by kernel_rfl) rfl #[.int .i64 a0, .int .i64 a1] rfl (by (try simp only [List.map_toArray, List.map_cons, List.map_nil]); first | done | rfl | (simp only [List.length_drop, List.length_take]; rfl)) ?_; (with_reducible refine (sample_Hash.calls a0 a1 t116 _ A4.out).mono ?_); rintro e w' ⟨rfl, ⟨nd, rfl⟩⟩; refine ⟨_, rfl, ?_⟩) | ((with_reducible refine gate_callee (f := 10) rfl ?_); refine goesL_ (some 11) rfl rfl Tryd.func10 (by kernel_rfl) rfl #[] rfl (by (try simp only [List.map_toArray, List.map_cons, List.map_nil]); first | done | rfl | (simp only [List.length_drop, List.length_take]; rfl)) ?_; (with_reducible refine (stowagelaw10_awake.calls (hT := (by repeat (first | exact HT.out | apply TabOk.drewN | exact TabOk.below HT.out (by repeat (first | (with_reducible first | exact HB.out | apply below_alloc | apply pw_below_drewN | apply below_drew1) | exact HB.out))))) k  true _ A5.out).mono ?_); rintro e w13 ⟨rfl, hb⟩; refine ⟨_, rfl, ?_⟩; have n0_ := Aside0.mk (below_step (by repeat (first | (with_reducible first | exact HB.out | apply below_alloc | apply pw_below_drewN | apply below_drew1) | exact HB.out)) hb); clear HB; have HB := n0_; clear n0_; (try clear hb); (try clear hb2); (try clear hk); (try clear hi)) | (go_at_call 14; (with_reducible refine (stowageref10_Hash.calls a0 a1 t118 _ A7.out).mono ?_); rintro e w' ⟨rfl, ⟨nd, rfl⟩⟩) | (go_at_call 15; (with_reducible refine (sample_Taken.calls a0 a1 a2 t119 _ A9.out).mono ?_); rintro e w' ⟨rfl, ⟨nd, rfl⟩⟩))
          go_ret
          exact ⟨by first | rfl | (simp [errW_none, errW_some] <;> rfl) | (simp [*, errW_none, errW_some] <;> rfl), by repeat (first | (with_reducible first | exact HB.out | apply below_alloc | apply pw_below_drewN | apply below_drew1) | exact HB.out)⟩
      · rw [if_neg c10] at H
        have c10b0 : (t119 == (decide (t116 < a2))) = false := by simpa using c10
        (try (have c10b1 : decide (t119 = (decide (t116 < a2))) = false := by simpa using c10))
        (try (have c10b2 : (t119 == (decide (t116 < a2))) = false := by simpa using c10))
        (try (have c10b3 : ¬ (t119 = (decide (t116 < a2))) := by simpa using c10))
        clear c10
        obtain rfl := Option.some.inj H
        go_enter Tryd.func6, Tryd.ntmps6
        go_wp2_with (first | ((with_reducible refine gate_callee (f := 13) rfl ?_); refine goesL_ (some 10) rfl rfl Tryd.func13 (by kernel_rfl) rfl #[.int .i64 a0, .int .i64 a1] rfl (by (try simp only [List.map_toArray, List.map_cons, List.map_nil]); first | done | rfl | (simp only [List.length_drop, List.length_take]; rfl)) ?_; (with_reducible refine (sample_Hash.calls a0 a1 t116 _ A4.out).mono ?_); rintro e w' ⟨rfl, ⟨nd, rfl⟩⟩; refine ⟨_, rfl, ?_⟩) | ((with_reducible refine gate_callee (f := 10) rfl ?_); refine goesL_ (some 11) rfl rfl Tryd.func10 (by kernel_rfl) rfl #[] rfl (by (try simp only [List.map_toArray, List.map_cons, List.map_nil]); first | done | rfl | (simp only [List.length_drop, List.length_take]; rfl)) ?_; (with_reducible refine (stowagelaw10_awake.calls (hT := (by repeat (first | exact HT.out | apply TabOk.drewN | exact TabOk.below HT.out (by repeat (first | (with_reducible first | exact HB.out | apply below_alloc | apply pw_below_drewN | apply below_drew1) | exact HB.out))))) k  true _ A5.out).mono ?_); rintro e w14 ⟨rfl, hb⟩; refine ⟨_, rfl, ?_⟩; have n0_ := Aside0.mk (below_step (by repeat (first | (with_reducible first | exact HB.out | apply below_alloc | apply pw_below_drewN | apply below_drew1) | exact HB.out)) hb); clear HB; have HB := n0_; clear n0_; (try clear hb); (try clear hb2); (try clear hk); (try clear hi)) | (go_at_call 14; (with_reducible refine (stowageref10_Hash.calls a0 a1 t118 _ A7.out).mono ?_); rintro e w' ⟨rfl, ⟨nd, rfl⟩⟩) | (go_at_call 15; (with_reducible refine (sample_Taken.calls a0 a1 a2 t119 _ A9.out).mono ?_); rintro e w' ⟨rfl, ⟨nd, rfl⟩⟩))
        go_ret
        exact ⟨by first | rfl | (simp [errW_none, errW_some] <;> rfl) | (simp [*, errW_none, errW_some] <;> rfl), by repeat (first | (with_reducible first | exact HB.out | apply below_alloc | apply pw_below_drewN | apply below_drew1) | exact HB.out)⟩
    · rw [if_neg c8] at H
      have c8b0 : (t116 == t118) = false := beq_eq_false_iff_ne.mpr c8
      have c8b1 : (t116 != t118) = true := bne_iff_ne.mpr c8
      obtain rfl := Option.some.inj H
      go_enter Tryd.func6, Tryd.ntmps6
      go_wp2_with (first | ((with_reducible refine gate_callee (f := 13) rfl ?_); refine goesL_ (some 10) rfl rfl Tryd.func13 (by kernel_rfl) rfl #[.int .i64 a0, .int .i64 a1] rfl (by (try simp only [List.map_toArray, List.map_cons, List.map_nil]); first | done | rfl | (simp only [List.length_drop, List.length_take]; rfl)) ?_; (with_reducible refine (sample_Hash.calls a0 a1 t116 _ A4.out).mono ?_); rintro e w' ⟨rfl, ⟨nd, rfl⟩⟩; refine ⟨_, rfl, ?_⟩) | ((with_reducible refine gate_callee (f := 10) rfl ?_); refine goesL_ (some 11) rfl rfl Tryd.func10 (by kernel_rfl) rfl #[] rfl (by (try simp only [List.map_toArray, List.map_cons, List.map_nil]); first | done | rfl | (simp only [List.length_drop, List.length_take]; rfl)) ?_; (with_reducible refine (stowagelaw10_awake.calls (hT := (by repeat (first | exact HT.out | apply TabOk.drewN | exact TabOk.below HT.out (by repeat (first | (with_reducible first | exact HB.out | apply below_alloc | apply pw_below_drewN | apply below_drew1) | exact HB.out))))) k  true _ A5.out).mono ?_); rintro e w15 ⟨rfl, hb⟩; refine ⟨_, rfl, ?_⟩; have n0_ := Aside0.mk (below_step (by repeat (first | (with_reducible first | exact HB.out | apply below_alloc | apply pw_below_drewN | apply below_drew1) | exact HB.out)) hb); clear HB; have HB := n0_; clear n0_; (try clear hb); (try clear hb2); (try clear hk); (try clear hi)) | (go_at_call 14; (with_reducible refine (stowageref10_Hash.calls a0 a1 t118 _ A7.out).mono ?_); rintro e w' ⟨rfl, ⟨nd, rfl⟩⟩))
      go_ret
      exact ⟨by first | rfl | (simp [errW_none, errW_some] <;> rfl) | (simp [*, errW_none, errW_some] <;> rfl), by repeat (first | (with_reducible first | exact HB.out | apply below_alloc | apply pw_below_drewN | apply below_drew1) | exact HB.out)⟩
  · replace c6 := Bool.eq_false_iff.mpr c6
    subst c6
    have H1 : (some false) = some r := by rw [if_neg (show ¬ (false = true) by decide)] at H; exact H
    clear H
    have H := H1
    clear H1
    obtain rfl := Option.some.inj H
    go_enter Tryd.func6, Tryd.ntmps6
    go_wp2_with (first | ((with_reducible refine gate_callee (f := 13) rfl ?_); refine goesL_ (some 10) rfl rfl Tryd.func13 (by kernel_rfl) rfl #[.int .i64 a0, .int .i64 a1] rfl (by (try simp only [List.map_toArray, List.map_cons, List.map_nil]); first | done | rfl | (simp only [List.length_drop, List.length_take]; rfl)) ?_; (with_reducible refine (sample_Hash.calls a0 a1 t116 _ A4.out).mono ?_); rintro e w' ⟨rfl, ⟨nd, rfl⟩⟩; refine ⟨_, rfl, ?_⟩) | ((with_reducible refine gate_callee (f := 10) rfl ?_); refine goesL_ (some 11) rfl rfl Tryd.func10 (by kernel_rfl) rfl #[] rfl (by (try simp only [List.map_toArray, List.map_cons, List.map_nil]); first | done | rfl | (simp only [List.length_drop, List.length_take]; rfl)) ?_; (with_reducible refine (stowagelaw10_awake.calls (hT := (by repeat (first | exact HT.out | apply TabOk.drewN | exact TabOk.below HT.out (by repeat (first | (with_reducible first | exact HB.out | apply below_alloc | apply pw_below_drewN | apply below_drew1) | exact HB.out))))) k  false _ A5.out).mono ?_); rintro e w16 ⟨rfl, hb⟩; refine ⟨_, rfl, ?_⟩; have n0_ := Aside0.mk (below_step (by repeat (first | (with_reducible first | exact HB.out | apply below_alloc | apply pw_below_drewN | apply below_drew1) | exact HB.out)) hb); clear HB; have HB := n0_; clear n0_; (try clear hb); (try clear hb2); (try clear hk); (try clear hi)))
    go_ret
    exact ⟨by first | rfl | (simp [errW_none, errW_some] <;> rfl) | (simp [*, errW_none, errW_some] <;> rfl), by repeat (first | (with_reducible first | exact HB.out | apply below_alloc | apply pw_below_drewN | apply below_drew1) | exact HB.out)⟩

/-- THE ONE PURE STATEMENT of stowagelaw10_SampleHashes: yours. -/
def stowagelaw10_SampleHashes.Pure : Prop := ∀ (a0 : Int) (a1 : Int) (a2 : Int), (Lit.int .i64 a0).wf = true → (Lit.int .i64 a1).wf = true → (Lit.int .i64 a2).wf = true → ∃ k, stowagelaw10_SampleHashes.f k a0 a1 a2 = some true
theorem stowagelaw10_SampleHashes.walk (P : stowagelaw10_SampleHashes.Pure) (a0 : Int) (a1 : Int) (a2 : Int) (w : World) (hT : TabOk w) (w0 : (Lit.int .i64 a0).wf = true) (w1 : (Lit.int .i64 a1).wf = true) (w2 : (Lit.int .i64 a2).wf = true) :
    Calls Tryd.prog 6 #[.int .i64 a0, .int .i64 a1, .int .i64 a2] w fun e w' => e = .returned (.bool true) ∧ Below w.heap.size w w' := by
  obtain ⟨k, h⟩ := P a0 a1 a2 w0 w1 w2
  refine (stowagelaw10_SampleHashes.calls (hT := hT) k a0 a1 a2 true w h).mono ?_
  rintro e w' ⟨rfl, hd⟩
  exact ⟨rfl, hd⟩

end Go.Proofs.YtfiobfjolkmdpaaDoor.QSamp
