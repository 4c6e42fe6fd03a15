/- Written by a program of this session (wip/tools/mk.py) out of the kit's printing programs and of texts of our own: the contracts of the Go functions that the law goes through, and the row of the law. No condition is added. -/
import Derived.Test.YtjfdjbmahahllaaQLinex0
import Derived.Test.YtjfdjbmahahllaaQLinex3
/- tight -/
namespace Go.Proofs.Ytjfdjbmahahllaa.QLine
open Go.RowKit Go.Proofs.YtjfdjbmahahllaaW.PrintWords Go.Proofs.YtjfdjbmahahllaaW.PrintLast Go.Proofs.YtjfdjbmahahllaaW.PrintMore
attribute [local go_sem] max2_int min2_int max_two min_two max_three min_three max_four min_four   -- for this text's walks alone
set_option linter.unusedVariables false
set_option linter.unusedSimpArgs false

attribute [local go_sem] min_seven
/-! ### pack_get: function 31 -/
def pack_get.l0 : Nat → Int → List Int → Int → Int → Option (Int)
 | 0, _, _, _, _ => none
 | k + 1, x3, x6, x7, x8 => if x8 < x7 then (if 0 ≤ x8 then (if x8 < (x6.length : Int) then (pack_get.l0 k (Go.bits .or .u64 (IntKind.u64.wrap (x3 * 256)) (IntKind.u64.wrap (rd x6 x8))) x6 x7 (wrap64 (x8 + 1))) else (none)) else (none)) else (some x3)
def pack_get.f (k : Nat) (l0 : List Int) : Option (Int) := pack_get.l0 k 0 l0 (l0.length : Int) 0
theorem pack_get.mono_l : ∀ k, (∀ y0 y1 y2 y3, LeO (pack_get.l0 k y0 y1 y2 y3) (pack_get.l0 (k + 1) y0 y1 y2 y3))
 | 0 => fun _ _ _ _ r h => by simp [pack_get.l0] at h
 | k + 1 => by
  have ih0 := pack_get.mono_l k
  ·intro y0 y1 y2 y3
   unfold pack_get.l0
   repeat' first
   | (with_reducible exact ih0 _ _ _ _)
   | (with_reducible exact LeO.refl _)
   | (with_reducible exact LeO.none _)
   | (with_reducible refine LeO.ite ?_ ?_)
   | (with_reducible refine LeO.bind ?_ (fun _ => ?_))
   | exact ih0 _ _ _ _
   | exact LeO.none _
   | refine LeO.ite ?_ ?_
   | refine LeO.bind ?_ (fun _ => ?_)
theorem pack_get.mono : ∀ a0 k, LeO (pack_get.f k a0) (pack_get.f (k + 1) a0) := by
 intro a0 k
 have ih0 := pack_get.mono_l k
 unfold pack_get.f
 repeat' first
   | (with_reducible exact ih0 _ _ _ _)
   | (with_reducible exact LeO.refl _)
   | (with_reducible exact LeO.none _)
   | (with_reducible refine LeO.ite ?_ ?_)
   | (with_reducible refine LeO.bind ?_ (fun _ => ?_))
   | exact ih0 _ _ _ _
   | exact LeO.none _
   | refine LeO.ite ?_ ?_
   | refine LeO.bind ?_ (fun _ => ?_)
set_option maxHeartbeats 8000000 in
set_option maxRecDepth 100000 in
theorem pack_get.calls (k : Nat) (A0 : Option Addr) (c0 : Nat) (l0 : List Int) (r : Int) (w : World) (hr0 : Kd.C (Kd.int .u8) w A0 l0.length l0) (hc0 : l0.length ≤ c0) (h : pack_get.f k l0 = some r) :
  Calls Try.prog 31 #[.slice A0 l0.length c0] w fun e w' => e = .returned (.int .u64 r) ∧ Drawn0 w w' := by
 have HR0 := Aside0.mk hr0
 have HC0 := Aside0.mk hc0
 clear hr0 hc0
 have H : (pack_get.l0 k 0 l0 (l0.length : Int) 0) = some r := h
 clear h
 have H' := Aside0.mk H
 clear H
 go_enter Try.func31, Try.ntmps31
 go_wp2
 go_loopg [3, 8] k (fun kq v3 v8 w' => ∃ (x3_1 : Int) (x8_1 : Int), v3 = .int .u64 x3_1 ∧ v8 = .int .i64 x8_1 ∧ Aside0 (pack_get.l0 kq x3_1 l0 (l0.length : Int) x8_1 = some r) ∧ Aside0 (kq ≤ k) ∧ Drawn0 w w')
 case atStart => exact ⟨(0), (0), (by first | rfl | (simp; done) | (simp [*]; done)), (by first | rfl | (simp; done) | (simp [*]; done)), H', ⟨Nat.le_refl _⟩, by repeat (first | exact Drawn0.refl _ | apply Drawn0.step)⟩
 case round =>
  clear H'
  obtain ⟨x3_1, x8_1, rfl, rfl, HA, HK1, ⟨m1, rfl⟩⟩ := hrel
  cases gk with
  | zero => exact absurd HA.out (by simp [pack_get.l0])
  | succ k1 =>
   have H := HA.out
   clear HA
   simp only [pack_get.l0] at H
   by_cases c2 : x8_1 < (l0.length : Int)
   ·rw [if_pos c2] at H
    have c2b0 : decide (x8_1 < (l0.length : Int)) = true := decide_eq_true c2
    clear c2
    by_cases c3 : 0 ≤ x8_1
    ·rw [if_pos c3] at H
     have c3b0 : decide (0 ≤ x8_1) = true := decide_eq_true c3
     clear c3
     by_cases c4 : x8_1 < (l0.length : Int)
     ·rw [if_pos c4] at H
      have c4b0 : decide (x8_1 < (l0.length : Int)) = true := decide_eq_true c4
      clear c4
      have H' := Aside0.mk H
      clear H
      have p207 : 0 ≤ (x8_1 : Int) := of_decide_eq_true (by first | (with_reducible assumption) | assumption)
      have q207 : x8_1 < (l0.length : Int) := of_decide_eq_true (by first | (with_reducible assumption) | assumption)
      obtain ⟨ad207, e207, hx207_0⟩ := Kd.at_int HR0.out x8_1 p207 q207
      cases e207
      replace p207 := eq_true p207
      replace q207 := eq_true q207
      go_wp2
      go_roundg k1
      case measure => have := HK1.out; omega
      case rel => exact ⟨(Go.bits .or .u64 (IntKind.u64.wrap (x3_1 * 256)) (IntKind.u64.wrap (rd l0 x8_1))), (wrap64 (x8_1 + 1)), (by first | rfl | (simp; done) | (simp [*]; done)), (by first | rfl | (simp; done) | (simp [*]; done)), H', ⟨by have := HK1.out; omega⟩, by repeat (first | exact Drawn0.refl _ | apply Drawn0.step)⟩
     ·rw [if_neg c4] at H
      exact absurd H (by simp)
    ·rw [if_neg c3] at H
     exact absurd H (by simp)
   ·rw [if_neg c2] at H
    have c2b0 : decide (x8_1 < (l0.length : Int)) = false := decide_eq_false c2
    clear c2
    obtain rfl := Option.some.inj H
    go_wp2
    go_ret
    exact ⟨by first | rfl | (simp; done) | (simp [*]; done), by repeat (first | exact Drawn0.refl _ | apply Drawn0.step)⟩

/-! ### pack_Split: function 24 -/
mutual
def pack_Split.l0 : Nat → List Int → List Int → Int → List Int → Int → Int → Option (List Int × Int)
 | 0, _, _, _, _, _, _ => none
 | k + 1, x0, x1, x6, x15, x16, x17 => if x17 < x16 then (if 0 ≤ x17 then (if x17 < (x15.length : Int) then ((pack_right.f (rd x15 x17)).bind fun t209 => (if t209 = true then (pack_Split.l0 k x0 x1 (wrap64 (x6 + (rd x15 x17))) x15 x16 (wrap64 (x17 + 1))) else (some (([] : List Int), 1)))) else (none)) else (none)) else (if (x0.length : Int) < x6 then (some (([] : List Int), 3)) else (if (x0.length : Int) > x6 then (some (([] : List Int), 2)) else (pack_Split.l1 k x0 ([] : List Int) x1 (x1.length : Int) 0)))
def pack_Split.l1 : Nat → List Int → List Int → List Int → Int → Int → Option (List Int × Int)
 | 0, _, _, _, _, _ => none
 | k + 1, x0, x9, x38, x39, x40 => if x40 < x39 then (if 0 ≤ x40 then (if x40 < (x38.length : Int) then (if 0 ≤ (rd x38 x40) then (if (rd x38 x40) ≤ (x0.length : Int) then ((pack_get.f k (x0.take ((rd x38 x40) : Int).toNat)).bind fun t216 => (if x9.length < 17592186044416 then (pack_Split.l1 k (x0.drop ((rd x38 x40) : Int).toNat) (x9 ++ [t216]) x38 x39 (wrap64 (x40 + 1))) else (none))) else (none)) else (none)) else (none)) else (none)) else (some (x9, 0))
end
def pack_Split.f (k : Nat) (l0 : List Int) (l1 : List Int) : Option (List Int × Int) := if (l1.length : Int) > 4096 then (some (([] : List Int), 1)) else (pack_Split.l0 k l0 l1 0 l1 (l1.length : Int) 0)
theorem pack_Split.mono_l : ∀ k, (∀ y0 y1 y2 y3 y4 y5, LeO (pack_Split.l0 k y0 y1 y2 y3 y4 y5) (pack_Split.l0 (k + 1) y0 y1 y2 y3 y4 y5)) ∧ (∀ y0 y1 y2 y3 y4, LeO (pack_Split.l1 k y0 y1 y2 y3 y4) (pack_Split.l1 (k + 1) y0 y1 y2 y3 y4))
 | 0 => ⟨fun _ _ _ _ _ _ r h => by simp [pack_Split.l0] at h, fun _ _ _ _ _ r h => by simp [pack_Split.l1] at h⟩
 | k + 1 => by
  obtain ⟨ih0, ih1⟩ := pack_Split.mono_l k
  refine ⟨?_, ?_⟩
  ·intro y0 y1 y2 y3 y4 y5
   unfold pack_Split.l0
   repeat' first
   | (with_reducible exact ih0 _ _ _ _ _ _)
   | (with_reducible exact ih1 _ _ _ _ _)
   | (with_reducible exact pack_get.mono _ _)
   | (with_reducible exact LeO.refl _)
   | (with_reducible exact LeO.none _)
   | (with_reducible refine LeO.ite ?_ ?_)
   | (with_reducible refine LeO.bind ?_ (fun _ => ?_))
   | exact ih0 _ _ _ _ _ _
   | exact ih1 _ _ _ _ _
   | exact pack_get.mono _ _
   | exact LeO.none _
   | refine LeO.ite ?_ ?_
   | refine LeO.bind ?_ (fun _ => ?_)
  ·intro y0 y1 y2 y3 y4
   unfold pack_Split.l1
   repeat' first
   | (with_reducible exact ih0 _ _ _ _ _ _)
   | (with_reducible exact ih1 _ _ _ _ _)
   | (with_reducible exact pack_get.mono _ _)
   | (with_reducible exact LeO.refl _)
   | (with_reducible exact LeO.none _)
   | (with_reducible refine LeO.ite ?_ ?_)
   | (with_reducible refine LeO.bind ?_ (fun _ => ?_))
   | exact ih0 _ _ _ _ _ _
   | exact ih1 _ _ _ _ _
   | exact pack_get.mono _ _
   | exact LeO.none _
   | refine LeO.ite ?_ ?_
   | refine LeO.bind ?_ (fun _ => ?_)
theorem pack_Split.mono : ∀ a0 a1 k, LeO (pack_Split.f k a0 a1) (pack_Split.f (k + 1) a0 a1) := by
 intro a0 a1 k
 obtain ⟨ih0, ih1⟩ := pack_Split.mono_l k
 unfold pack_Split.f
 repeat' first
   | (with_reducible exact ih0 _ _ _ _ _ _)
   | (with_reducible exact ih1 _ _ _ _ _)
   | (with_reducible exact pack_get.mono _ _)
   | (with_reducible exact LeO.refl _)
   | (with_reducible exact LeO.none _)
   | (with_reducible refine LeO.ite ?_ ?_)
   | (with_reducible refine LeO.bind ?_ (fun _ => ?_))
   | exact ih0 _ _ _ _ _ _
   | exact ih1 _ _ _ _ _
   | exact pack_get.mono _ _
   | exact LeO.none _
   | refine LeO.ite ?_ ?_
   | refine LeO.bind ?_ (fun _ => ?_)
set_option maxHeartbeats 8000000 in
set_option maxRecDepth 100000 in
theorem pack_Split.calls (k : Nat) (P0_ : Nat → Prop) (A0 : Option Addr) (c0 : Nat) (l0 : List Int) (A1 : Option Addr) (c1 : Nat) (l1 : List Int) (r1 : List Int) (r2 : Int) (w : World) (hs0 : Kd.V (Kd.int .u8) 5 w w.heap.size (fun k_ => P0_ k_) (.slice A0 l0.length c0) l0) (hr1 : Kd.C (Kd.int .i64) w A1 l1.length l1) (hc1 : l1.length ≤ c1) (h : pack_Split.f k l0 l1 = some (r1, r2)) :
  Calls Try.prog 24 #[.slice A0 l0.length c0, .slice A1 l1.length c1] w fun e w' => ∃ v0_ : Value, e = .returned (.tuple #[v0_, .int .i64 r2]) ∧ Kd.R (Kd.int .u64) 48 w' w.heap.size (fun k_ => (w.heap.size ≤ k_)) v0_ r1 ∧ Below w.heap.size w w' := by
 have HO0 := Aside0.mk (show Kd.V (Kd.int .u8) 5 w w.heap.size (fun k_ => (P0_ k_ ∨ w.heap.size ≤ k_)) (.slice A0 l0.length c0) l0 from Kd.V_mono hs0 (fun k_ hk => .inl hk))
 have HR1 := Aside0.mk hr1
 have HC1 := Aside0.mk hc1
 clear hr1 hc1
 have HB := Aside0.mk (Below.refl w.heap.size w)
 have H : (if (l1.length : Int) > 4096 then (some (([] : List Int), 1)) else (pack_Split.l0 k l0 l1 0 l1 (l1.length : Int) 0)) = some (r1, r2) := h
 clear h
 by_cases c3 : (l1.length : Int) > 4096
 ·rw [if_pos c3] at H
  have c3b0 : decide (4096 < (l1.length : Int)) = true := decide_eq_true c3
  have c3b1 : decide (4096 < l1.length) = true := decide_eq_true (by omega)
  clear c3
  simp only [Option.some.injEq, Prod.mk.injEq] at H
  obtain ⟨rfl, rfl⟩ := H
  go_enter Try.func24, Try.ntmps24
  go_wp2
  go_ret2
  exact ⟨_, by first | rfl | (simp [errW_none, errW_some] <;> rfl) | (simp [*, errW_none, errW_some] <;> rfl), by first | exact Kd.R_nil _ _ _ _ _ | exact Kd.N_nil _ _ _ _ _ | exact Kd.V_nil _ _ _ _ _ | exact Kd.Q_nil _ _ _ _ _ | exact Kd.S_nil _ _ _ _ _, by repeat (first | (with_reducible first | exact HB.out | apply below_alloc | apply pw_below_drewN | apply below_drew1) | exact HB.out)⟩
 ·rw [if_neg c3] at H
  have c3b0 : decide (4096 < (l1.length : Int)) = false := decide_eq_false c3
  have c3b1 : decide (4096 < l1.length) = false := decide_eq_false (by omega)
  clear c3
  have H' := Aside0.mk H
  clear H
  go_enter Try.func24, Try.ntmps24
  go_wp2
  go_loopg [6, 17] k (fun kq v6 v17 w' => ∃ (x6_1 : Int) (x17_1 : Int), v6 = .int .i64 x6_1 ∧ v17 = .int .i64 x17_1 ∧ Aside0 (pack_Split.l0 kq l0 l1 x6_1 l1 (l1.length : Int) x17_1 = some (r1, r2)) ∧ Aside0 (kq ≤ k) ∧ Aside0 (Kd.V (Kd.int .u8) 5 w' w.heap.size (fun k_ => (P0_ k_ ∨ w.heap.size ≤ k_)) (.slice A0 l0.length c0) l0) ∧ Aside0 (Below w.heap.size w w'))
  case atStart => exact ⟨(0), (0), (by first | rfl | (simp; done) | (simp [*]; done)), (by first | rfl | (simp; done) | (simp [*]; done)), H', ⟨Nat.le_refl _⟩, ⟨by (with_reducible repeat (first | apply Kd.V_alloc | apply Kd.V_drewN | apply Kd.V_drew)); exact HO0.out⟩, ⟨by repeat (first | (with_reducible first | exact HB.out | apply below_alloc | apply pw_below_drewN | apply below_drew1) | exact HB.out)⟩⟩
  case round =>
   clear H'
   try clear c1
   try clear c2
   try clear p2
   try clear c3
   try clear c3b0
   try clear c3b1
   obtain ⟨x6_1, x17_1, rfl, rfl, HA, HK1, HO_0, HB⟩ := hrel
   cases gk with
   | zero => exact absurd HA.out (by simp [pack_Split.l0])
   | succ k1 =>
    have H := HA.out
    clear HA
    simp only [pack_Split.l0] at H
    by_cases c4 : x17_1 < (l1.length : Int)
    ·rw [if_pos c4] at H
     have c4b0 : decide (x17_1 < (l1.length : Int)) = true := decide_eq_true c4
     clear c4
     by_cases c5 : 0 ≤ x17_1
     ·rw [if_pos c5] at H
      have c5b0 : decide (0 ≤ x17_1) = true := decide_eq_true c5
      clear c5
      by_cases c6 : x17_1 < (l1.length : Int)
      ·rw [if_pos c6] at H
       have c6b0 : decide (x17_1 < (l1.length : Int)) = true := decide_eq_true c6
       clear c6
       replace H := Option.bind_eq_some_iff.mp H
       obtain ⟨t209, A70, H⟩ := H
       replace H : (if t209 = true then (pack_Split.l0 k1 l0 l1 (wrap64 (x6_1 + (rd l1 x17_1))) l1 (l1.length : Int) (wrap64 (x17_1 + 1))) else (some (([] : List Int), 1))) = some (r1, r2) := H
       have A7 := Aside0.mk A70
       clear A70
       by_cases c8 : t209 = true
       ·subst c8
        have H1 : (pack_Split.l0 k1 l0 l1 (wrap64 (x6_1 + (rd l1 x17_1))) l1 (l1.length : Int) (wrap64 (x17_1 + 1))) = some (r1, r2) := by rw [if_pos rfl] at H; exact H
        clear H
        have H := H1
        clear H1
        have H' := Aside0.mk H
        clear H
        have p208 : 0 ≤ (x17_1 : Int) := of_decide_eq_true (by first | (with_reducible assumption) | assumption)
        have q208 : x17_1 < (l1.length : Int) := of_decide_eq_true (by first | (with_reducible assumption) | assumption)
        obtain ⟨ad208, e208, hx208_0⟩ := Kd.at_int HR1.out x17_1 p208 q208
        cases e208
        replace hx208_0 := (HB.out.cell (World.block_lt_of_cell? w _ hx208_0)).trans hx208_0
        replace p208 := eq_true p208
        replace q208 := eq_true q208
        go_wp2_with (first | ((with_reducible refine gate_callee (f := 30) rfl ?_); refine goesL_ (some 22) rfl rfl Try.func30 (by kernel_rfl) rfl #[.int .i64 (rd l1 x17_1)] rfl (by (try simp only [List.map_toArray, List.map_cons, List.map_nil]); first | done | rfl | (simp only [List.length_drop, List.length_take]; rfl)) ?_; (with_reducible refine (pack_right.calls (rd l1 x17_1) true _ A7.out).mono ?_); rintro e w' ⟨rfl, ⟨nd, rfl⟩⟩; refine ⟨_, rfl, ?_⟩))
        go_roundg k1
        case measure => have := HK1.out; omega
        case rel => exact ⟨(wrap64 (x6_1 + (rd l1 x17_1))), (wrap64 (x17_1 + 1)), (by first | rfl | (simp; done) | (simp [*]; done)), (by first | rfl | (simp; done) | (simp [*]; done)), H', ⟨by have := HK1.out; omega⟩, ⟨by (with_reducible repeat (first | apply Kd.V_alloc | apply Kd.V_drewN | apply Kd.V_drew)); exact HO_0.out⟩, ⟨by repeat (first | (with_reducible first | exact HB.out | apply below_alloc | apply pw_below_drewN | apply below_drew1) | exact HB.out)⟩⟩
       ·replace c8 := Bool.eq_false_iff.mpr c8
        subst c8
        have H1 : (some (([] : List Int), 1)) = some (r1, r2) := by rw [if_neg (show ¬ (false = true) by decide)] at H; exact H
        clear H
        have H := H1
        clear H1
        simp only [Option.some.injEq, Prod.mk.injEq] at H
        obtain ⟨rfl, rfl⟩ := H
        have p208 : 0 ≤ (x17_1 : Int) := of_decide_eq_true (by first | (with_reducible assumption) | assumption)
        have q208 : x17_1 < (l1.length : Int) := of_decide_eq_true (by first | (with_reducible assumption) | assumption)
        obtain ⟨ad208, e208, hx208_0⟩ := Kd.at_int HR1.out x17_1 p208 q208
        cases e208
        replace hx208_0 := (HB.out.cell (World.block_lt_of_cell? w _ hx208_0)).trans hx208_0
        replace p208 := eq_true p208
        replace q208 := eq_true q208
        go_wp2_with (first | ((with_reducible refine gate_callee (f := 30) rfl ?_); refine goesL_ (some 22) rfl rfl Try.func30 (by kernel_rfl) rfl #[.int .i64 (rd l1 x17_1)] rfl (by (try simp only [List.map_toArray, List.map_cons, List.map_nil]); first | done | rfl | (simp only [List.length_drop, List.length_take]; rfl)) ?_; (with_reducible refine (pack_right.calls (rd l1 x17_1) false _ A7.out).mono ?_); rintro e w' ⟨rfl, ⟨nd, rfl⟩⟩; refine ⟨_, rfl, ?_⟩))
        go_ret2
        exact ⟨_, by first | rfl | (simp [errW_none, errW_some] <;> rfl) | (simp [*, errW_none, errW_some] <;> rfl), by first | exact Kd.R_nil _ _ _ _ _ | exact Kd.N_nil _ _ _ _ _ | exact Kd.V_nil _ _ _ _ _ | exact Kd.Q_nil _ _ _ _ _ | exact Kd.S_nil _ _ _ _ _, by repeat (first | (with_reducible first | exact HB.out | apply below_alloc | apply pw_below_drewN | apply below_drew1) | exact HB.out)⟩
      ·rw [if_neg c6] at H
       exact absurd H (by simp)
     ·rw [if_neg c5] at H
      exact absurd H (by simp)
    ·rw [if_neg c4] at H
     have c4b0 : decide (x17_1 < (l1.length : Int)) = false := decide_eq_false c4
     clear c4
     by_cases c9 : (l0.length : Int) < x6_1
     ·rw [if_pos c9] at H
      have c9b0 : decide ((l0.length : Int) < x6_1) = true := decide_eq_true c9
      clear c9
      simp only [Option.some.injEq, Prod.mk.injEq] at H
      obtain ⟨rfl, rfl⟩ := H
      go_wp2
      go_ret2
      exact ⟨_, by first | rfl | (simp [errW_none, errW_some] <;> rfl) | (simp [*, errW_none, errW_some] <;> rfl), by first | exact Kd.R_nil _ _ _ _ _ | exact Kd.N_nil _ _ _ _ _ | exact Kd.V_nil _ _ _ _ _ | exact Kd.Q_nil _ _ _ _ _ | exact Kd.S_nil _ _ _ _ _, by repeat (first | (with_reducible first | exact HB.out | apply below_alloc | apply pw_below_drewN | apply below_drew1) | exact HB.out)⟩
     ·rw [if_neg c9] at H
      have c9b0 : decide ((l0.length : Int) < x6_1) = false := decide_eq_false c9
      clear c9
      by_cases c10 : (l0.length : Int) > x6_1
      ·rw [if_pos c10] at H
       have c10b0 : decide (x6_1 < (l0.length : Int)) = true := decide_eq_true c10
       clear c10
       simp only [Option.some.injEq, Prod.mk.injEq] at H
       obtain ⟨rfl, rfl⟩ := H
       go_wp2
       go_ret2
       exact ⟨_, by first | rfl | (simp [errW_none, errW_some] <;> rfl) | (simp [*, errW_none, errW_some] <;> rfl), by first | exact Kd.R_nil _ _ _ _ _ | exact Kd.N_nil _ _ _ _ _ | exact Kd.V_nil _ _ _ _ _ | exact Kd.Q_nil _ _ _ _ _ | exact Kd.S_nil _ _ _ _ _, by repeat (first | (with_reducible first | exact HB.out | apply below_alloc | apply pw_below_drewN | apply below_drew1) | exact HB.out)⟩
      ·rw [if_neg c10] at H
       have c10b0 : decide (x6_1 < (l0.length : Int)) = false := decide_eq_false c10
       clear c10
       have H' := Aside0.mk H
       clear H
       go_wp2
       go_loopg [0, 9, 40] k1 (fun kq v0 v9 v40 w' => ∃ (x0_2 : List Int) (x9_2 : List Int) (x40_2 : Int), v40 = .int .i64 x40_2 ∧ Aside0 (pack_Split.l1 kq x0_2 x9_2 l1 (l1.length : Int) x40_2 = some (r1, r2)) ∧ Aside0 (kq ≤ k1) ∧ Aside0 (Kd.V (Kd.int .u8) 5 w' w.heap.size (fun k_ => (P0_ k_ ∨ w.heap.size ≤ k_) ∧ some k_ ≠ (v9 : Value).ownBlock) v0 x0_2) ∧ Aside0 (Kd.R (Kd.int .u64) 48 w' w.heap.size (fun k_ => (w.heap.size ≤ k_)) v9 x9_2) ∧ Aside0 (Below w.heap.size w w'))
       case atStart => exact ⟨(l0), (([] : List Int)), (0), (by first | rfl | (simp; done) | (simp [*]; done)), H', ⟨Nat.le_refl _⟩, ⟨by (with_reducible repeat (first | apply Kd.V_alloc | apply Kd.V_drewN | apply Kd.V_drew)); exact Kd.V_mono HO_0.out (fun _ hk => ⟨hk, (by simp [Value.ownBlock])⟩)⟩, ⟨by first | exact Kd.R_nil _ _ _ _ _ | exact Kd.N_nil _ _ _ _ _ | exact Kd.V_nil _ _ _ _ _ | exact Kd.Q_nil _ _ _ _ _ | exact Kd.S_nil _ _ _ _ _⟩, ⟨by repeat (first | (with_reducible first | exact HB.out | apply below_alloc | apply pw_below_drewN | apply below_drew1) | exact HB.out)⟩⟩
       case round =>
        clear H'
        try clear c1
        try clear c2
        try clear p2
        try clear q2
        try clear hx2
        try clear c3
        try clear c3b0
        try clear c3b1
        try clear c4
        try clear c4b0
        try clear c5
        try clear c5b0
        try clear c6
        try clear c6b0
        try clear p6
        try clear c8
        try clear c9
        try clear c9b0
        try clear c10
        try clear c10b0
        try clear hx208_0
        try clear p2
        try clear p208
        try clear q208
        obtain ⟨x0_2, x9_2, x40_2, rfl, HA, HK2, HO_0, HO_9, HB⟩ := hrel
        cases gk with
        | zero => exact absurd HA.out (by simp [pack_Split.l1])
        | succ k2 =>
         have H := HA.out
         clear HA
         simp only [pack_Split.l1] at H
         by_cases c11 : x40_2 < (l1.length : Int)
         ·rw [if_pos c11] at H
          have c11b0 : decide (x40_2 < (l1.length : Int)) = true := decide_eq_true c11
          clear c11
          by_cases c12 : 0 ≤ x40_2
          ·rw [if_pos c12] at H
           have c12b0 : decide (0 ≤ x40_2) = true := decide_eq_true c12
           clear c12
           by_cases c13 : x40_2 < (l1.length : Int)
           ·rw [if_pos c13] at H
            have c13b0 : decide (x40_2 < (l1.length : Int)) = true := decide_eq_true c13
            clear c13
            by_cases c14 : 0 ≤ (rd l1 x40_2)
            ·rw [if_pos c14] at H
             have c14b0 := eq_true c14
             have c14b1 : decide (0 ≤ (rd l1 x40_2)) = true := decide_eq_true c14
             clear c14
             by_cases c15 : (rd l1 x40_2) ≤ (x0_2.length : Int)
             ·rw [if_pos c15] at H
              have c15b0 := eq_true c15
              have c15b1 : decide ((rd l1 x40_2) ≤ (x0_2.length : Int)) = true := decide_eq_true c15
              clear c15
              obtain ⟨y211, hy211⟩ : ∃ y_ : List Int, y_ = (x0_2.take ((rd l1 x40_2) : Int).toNat) := ⟨_, rfl⟩
              replace H : ((pack_get.f k2 y211).bind fun t216 => (if x9_2.length < 17592186044416 then (pack_Split.l1 k2 (x0_2.drop ((rd l1 x40_2) : Int).toNat) (x9_2 ++ [t216]) l1 (l1.length : Int) (wrap64 (x40_2 + 1))) else (none))) = some (r1, r2) := by first | (rw [hy211]; with_reducible exact H) | (have H2_ := (Option.bind_some _ _).symm.trans H; rw [hy211]; with_reducible exact H2_) | (have H2_ := (Option.bind_some _ _).symm.trans H; with_reducible exact H2_) | with_reducible exact H | (rw [hy211]; exact H) | exact H
              have Ny211 := Aside0.mk hy211
              clear hy211
              replace H := Option.bind_eq_some_iff.mp H
              obtain ⟨t216, A160, H⟩ := H
              replace H : (if x9_2.length < 17592186044416 then (pack_Split.l1 k2 (x0_2.drop ((rd l1 x40_2) : Int).toNat) (x9_2 ++ [t216]) l1 (l1.length : Int) (wrap64 (x40_2 + 1))) else (none)) = some (r1, r2) := H
              have A16 := Aside0.mk A160
              clear A160
              by_cases c17 : x9_2.length < 17592186044416
              ·rw [if_pos c17] at H
               have LMc17 := Aside0.mk c17
               clear c17
               obtain ⟨y217, hy217⟩ : ∃ y_ : List Int, y_ = (x9_2 ++ [t216]) := ⟨_, rfl⟩
               replace H : (pack_Split.l1 k2 (x0_2.drop ((rd l1 x40_2) : Int).toNat) y217 l1 (l1.length : Int) (wrap64 (x40_2 + 1))) = some (r1, r2) := by first | (rw [hy217]; with_reducible exact H) | (have H2_ := (Option.bind_some _ _).symm.trans H; rw [hy217]; with_reducible exact H2_) | (have H2_ := (Option.bind_some _ _).symm.trans H; with_reducible exact H2_) | with_reducible exact H | (rw [hy217]; exact H) | exact H
               have Ny217 := Aside0.mk hy217
               clear hy217
               have c18b0 := eq_true (of_decide_eq_true (by first | (with_reducible assumption) | assumption) : 0 ≤ (rd l1 x40_2))
               have c19b0 := eq_true (of_decide_eq_true (by first | (with_reducible assumption) | assumption) : (rd l1 x40_2) ≤ (x0_2.length : Int))
               obtain ⟨y220, hy220⟩ : ∃ y_ : List Int, y_ = (x0_2.drop ((rd l1 x40_2) : Int).toNat) := ⟨_, rfl⟩
               replace H : (pack_Split.l1 k2 y220 y217 l1 (l1.length : Int) (wrap64 (x40_2 + 1))) = some (r1, r2) := by first | (rw [hy220]; with_reducible exact H) | (have H2_ := (Option.bind_some _ _).symm.trans H; rw [hy220]; with_reducible exact H2_) | (have H2_ := (Option.bind_some _ _).symm.trans H; with_reducible exact H2_) | with_reducible exact H | (rw [hy220]; exact H) | exact H
               have Ny220 := Aside0.mk hy220
               clear hy220
               have H' := Aside0.mk H
               clear H
               have p210 : 0 ≤ (x40_2 : Int) := of_decide_eq_true (by first | (with_reducible assumption) | assumption)
               have q210 : x40_2 < (l1.length : Int) := of_decide_eq_true (by first | (with_reducible assumption) | assumption)
               obtain ⟨ad210, e210, hx210_0⟩ := Kd.at_int HR1.out x40_2 p210 q210
               cases e210
               replace hx210_0 := (HB.out.cell (World.block_lt_of_cell? w _ hx210_0)).trans hx210_0
               replace p210 := eq_true p210
               replace q210 := eq_true q210
               obtain ⟨Ao21, co21, eo21⟩ := Kd.V_slice HO_0.out
               subst eo21
               have q20 : ((rd l1 x40_2) : Int) ≤ ((x0_2.length : Int) : Int) := of_decide_eq_true (by first | (with_reducible assumption) | assumption)
               obtain ⟨i020, hi020, _, hsz20, _⟩ := info_parts info5
               have hroom20 : x0_2.length ≤ co21 := (Kd.V_reads' HO_0.out).2.1
               have hC20 : Kd.F (Kd.int .u8) _ _ Ao21 x0_2.length x0_2 := (Kd.V_at (base := w.heap.size) HO_0.out).2.2
               have hcut20 := cut_to (P := Try.prog) 26 5 .i64 Try.underlying26 hi020 Ao21 x0_2.length co21 (rd l1 x40_2) (of_decide_eq_true (by first | (with_reducible assumption) | assumption)) q20 hroom20
               have hr20 := Kd.F_take (m := ((rd l1 x40_2) : Int).toNat) hC20 (by omega)
               have hy20 : y211.length = ((rd l1 x40_2) : Int).toNat := (by rw [Ny211.out, List.length_take]; omega)
               rw [← Ny211.out] at hr20
               rw [← hy20] at hcut20
               have HO215 := Aside0.mk (show Kd.V (Kd.int .u8) 5 _ w.heap.size _ (.slice Ao21 y211.length co21) y211 from Kd.V_mk (by omega) hr20)
               have HC215 := Aside0.mk (show y211.length ≤ co21 from by omega)
               clear hr20 hC20 hroom20 hi020 hsz20
               have KY20 := Aside0.mk hy20
               clear hy20
               replace q20 := eq_true q20
               go_wp2_with (first | ((with_reducible refine gate_callee (f := 31) rfl ?_); refine goesL_ (some 48) rfl rfl Try.func31 (by kernel_rfl) rfl #[.slice Ao21 y211.length co21] rfl (by (try simp only [List.map_toArray, List.map_cons, List.map_nil]); first | done | rfl | (simp only [List.length_drop, List.length_take]; rfl)) ?_; (with_reducible refine (pack_get.calls k2 _ _ y211 t216 _ ?side1 ?side2 A16.out).mono ?_); (case side1 => repeat (first | exact (Kd.V_reads' HO215.out).2.2 | (with_reducible refine Kd.C_alloc ?_ _) | (with_reducible refine Kd.C_drewN ?_ _) | (with_reducible refine Kd.C_drew ?_))); (case side2 => exact (Kd.V_reads' HO215.out).2.1); rintro e w' ⟨rfl, ⟨nd, rfl⟩⟩; refine ⟨_, rfl, ?_⟩) | ((with_reducible refine gate_builtin (b := .append) (xs := #[.tmp 44, .tmp 49]) rfl ?_); at_builtin; refine Kd.R_append (Kd.int .u64) (w0 := w) w.heap.size rfl (.tmp 44) (.tmp 49) 50 48 (.int .u64 0) 8 rfl Try.underlying50 info48 rfl (by decide) (by omega) u9 x9_2 t216 [.int .u64 t216] (fun k_ => (w.heap.size ≤ k_)) (fun _ => False) rfl rfl ?aP (fun _ hk => hk.elim) ?aF ?aO ?aB ?aS ?aL ?_; (case aP => exact rfl); (case aB => exact (by repeat (first | (with_reducible first | exact HB.out | apply below_alloc | apply pw_below_drewN | apply below_drew1) | exact HB.out))); (case aF => exact (fun k_ hk => (Nat.le_trans (below_size (by repeat (first | (with_reducible first | exact HB.out | apply below_alloc | apply pw_below_drewN | apply below_drew1) | exact HB.out))) hk))); (case aO => exact (by (with_reducible repeat (first | apply Kd.R_alloc | apply Kd.R_drewN | apply Kd.R_drew)); exact HO_9.out)); (case aS => exact (below_size (by repeat (first | (with_reducible first | exact HB.out | apply below_alloc | apply pw_below_drewN | apply below_drew1) | exact HB.out)))); (case aL => have := LMc17.out; omega); intro v218 w22 ho hb hg hat; rw [← Ny217.out] at ho; have n0_ := Aside0.mk (Kd.V_afterv (ok := (fun k_ => (P0_ k_ ∨ w.heap.size ≤ k_))) (by (with_reducible repeat (first | apply Kd.V_alloc | apply Kd.V_drewN | apply Kd.V_drew)); exact HO_0.out) hg hat); have n1_ := Aside0.mk (Kd.V_afterv (ok := (fun k_ => (P0_ k_ ∨ w.heap.size ≤ k_))) (by (with_reducible repeat (first | apply Kd.V_alloc | apply Kd.V_drewN | apply Kd.V_drew)); exact HO215.out) hg hat); have n2_ := Aside0.mk (hb); have n3_ := Aside0.mk (ho); clear HO_0; clear HO215; clear HB; clear HO_9; have HO_0 := n0_; have HO215 := n1_; have HB := n2_; have HO219 := n3_; clear n0_ n1_ n2_ n3_; clear ho hb hg hat; have q23 : ((rd l1 x40_2) : Int) ≤ ((x0_2.length : Int) : Int) := of_decide_eq_true (by first | (with_reducible assumption) | assumption); obtain ⟨i023, hi023, _, hsz23, _⟩ := info_parts info5; have hroom23 : x0_2.length ≤ co21 := (Kd.V_reads' HO_0.out).2.1; have hC23 : Kd.F (Kd.int .u8) _ _ Ao21 x0_2.length x0_2 := (Kd.V_at (base := w.heap.size) HO_0.out).2.2; have q023 : (0 : Int) ≤ ((rd l1 x40_2) : Int) := of_decide_eq_true (by first | (with_reducible assumption) | assumption); have hcut23 := cut_from (P := Try.prog) 26 5 .i64 Try.underlying26 hi023 1 hsz23 Ao21 x0_2.length co21 (rd l1 x40_2) q023 q23; have hr23 := Kd.F_cut (m := ((rd l1 x40_2) : Int).toNat) (c := co21) hC23 (by omega) hroom23; obtain ⟨A23, hA23⟩ : ∃ A1, A1 = (if co21 = ((rd l1 x40_2) : Int).toNat then Ao21 else (Ao21 : Option Addr).map (·.add (((rd l1 x40_2) : Int).toNat * 1))) := ⟨_, rfl⟩; obtain ⟨c23, hc23⟩ : ∃ c1, c1 = co21 - ((rd l1 x40_2) : Int).toNat := ⟨_, rfl⟩; have hy23 : y220.length = x0_2.length - ((rd l1 x40_2) : Int).toNat := (by rw [Ny220.out, List.length_drop] <;> omega); rw [show (x0_2).drop ((rd l1 x40_2) : Int).toNat = y220 from Ny220.out.symm] at hr23; replace hr23 : Kd.F (Kd.int .u8) _ _ A23 y220.length y220 := (by rw [hA23]; exact hr23); rw [← hy23, ← hA23, ← hc23] at hcut23; have HO224 := Aside0.mk (show Kd.V (Kd.int .u8) 5 _ w.heap.size _ (.slice A23 y220.length c23) y220 from Kd.V_mk (by rw [hy23, hc23]; exact Nat.sub_le_sub_right hroom23 _) hr23); have HC224 := Aside0.mk (show y220.length ≤ c23 from by rw [hy23, hc23]; exact Nat.sub_le_sub_right hroom23 _); clear hr23 hC23 hroom23 hi023 hsz23 hc23; have KY23 := Aside0.mk hy23; have KA23 := Aside0.mk hA23; clear hy23 hA23; replace q23 := eq_true q23))
               go_roundg k2
               case measure => have := HK1.out; have := HK2.out; omega
               case rel => exact ⟨(y220), (y217), (wrap64 (x40_2 + 1)), (by first | rfl | (simp; done) | (simp [*]; done)), H', ⟨by have := HK1.out; have := HK2.out; omega⟩, ⟨by (with_reducible repeat (first | apply Kd.V_alloc | apply Kd.V_drewN | apply Kd.V_drew)); exact HO224.out⟩, ⟨by (with_reducible repeat (first | apply Kd.R_alloc | apply Kd.R_drewN | apply Kd.R_drew)); exact HO219.out⟩, ⟨by repeat (first | (with_reducible first | exact HB.out | apply below_alloc | apply pw_below_drewN | apply below_drew1) | exact HB.out)⟩⟩
              ·rw [if_neg c17] at H
               exact absurd H (by simp)
             ·rw [if_neg c15] at H
              exact absurd H (by simp)
            ·rw [if_neg c14] at H
             exact absurd H (by simp)
           ·rw [if_neg c13] at H
            exact absurd H (by simp)
          ·rw [if_neg c12] at H
           exact absurd H (by simp)
         ·rw [if_neg c11] at H
          have c11b0 : decide (x40_2 < (l1.length : Int)) = false := decide_eq_false c11
          clear c11
          simp only [Option.some.injEq, Prod.mk.injEq] at H
          obtain ⟨rfl, rfl⟩ := H
          go_wp2
          go_ret2
          exact ⟨_, by first | rfl | (simp [errW_none, errW_some] <;> rfl) | (simp [*, errW_none, errW_some] <;> rfl), by (with_reducible repeat (first | apply Kd.R_alloc | apply Kd.R_drewN | apply Kd.R_drew)); exact HO_9.out, by repeat (first | (with_reducible first | exact HB.out | apply below_alloc | apply pw_below_drewN | apply below_drew1) | exact HB.out)⟩

/-! ### bytes_Equal: function 25 -/
def bytes_Equal.f (l0 : List Int) (l1 : List Int) : Option (Bool) := some ((strOfNums l0).toList == (strOfNums l1).toList)
set_option maxHeartbeats 8000000 in
set_option maxRecDepth 100000 in
theorem bytes_Equal.calls (A0 : Option Addr) (c0 : Nat) (l0 : List Int) (A1 : Option Addr) (c1 : Nat) (l1 : List Int) (r : Bool) (w : World) (hr0 : Kd.C (Kd.int .u8) w A0 l0.length l0) (hc0 : l0.length ≤ c0) (hr1 : Kd.C (Kd.int .u8) w A1 l1.length l1) (hc1 : l1.length ≤ c1) (h : bytes_Equal.f l0 l1 = some r) :
  Calls Try.prog 25 #[.slice A0 l0.length c0, .slice A1 l1.length c1] w fun e w' => e = .returned (.bool r) ∧ Drawn0 w w' := by
 have HR0 := Aside0.mk hr0
 have HC0 := Aside0.mk hc0
 clear hr0 hc0
 have HR1 := Aside0.mk hr1
 have HC1 := Aside0.mk hc1
 clear hr1 hc1
 have H : (some ((strOfNums l0).toList == (strOfNums l1).toList)) = some r := h
 clear h
 obtain rfl := Option.some.inj H
 have hcv3 := Kd.C_string (P := Try.prog) (A := A0) (c := c0) Try.underlying26 Try.underlying5 Try.underlying9 HR0.out
 have hcx3 := hcv3
 (try simp only [Int.reduceToNat, List.length_drop, List.length_take] at hcx3)
 have hcv4 := Kd.C_string (P := Try.prog) (A := A1) (c := c1) Try.underlying26 Try.underlying5 Try.underlying9 HR1.out
 have hcx4 := hcv4
 (try simp only [Int.reduceToNat, List.length_drop, List.length_take] at hcx4)
 go_enter Try.func25, Try.ntmps25
 go_wp2
 go_ret
 exact ⟨by first | rfl | (simp; done) | (simp [*]; done), by repeat (first | exact Drawn0.refl _ | apply Drawn0.step)⟩

end Go.Proofs.Ytjfdjbmahahllaa.QLine
