/- Written by a program of this session (wip/tools/mk.py) out of the kit's printing programs and of texts of our own: the contracts of the Go functions that the law goes through, and the row of the law. No condition is added. -/
import Derived.Test.YtjfdjbmahahllaaQLinex0
/- tight -/
namespace Go.Proofs.Ytjfdjbmahahllaa.QLine
open Go.RowKit Go.Proofs.YtjfdjbmahahllaaW.PrintWords Go.Proofs.YtjfdjbmahahllaaW.PrintLast Go.Proofs.YtjfdjbmahahllaaW.PrintMore
attribute [local go_sem] max2_int min2_int max_two min_two max_three min_three max_four min_four   -- for this text's walks alone
set_option linter.unusedVariables false
set_option linter.unusedSimpArgs false

attribute [local go_sem] min_seven
/-! ### pack_right: function 30 -/
def pack_right.f (a0 : Int) : Option (Bool) := if a0 ≥ 1 then (some (decide (a0 ≤ 8))) else (some false)
set_option maxHeartbeats 8000000 in
set_option maxRecDepth 100000 in
theorem pack_right.calls (a0 : Int) (r : Bool) (w : World) (h : pack_right.f a0 = some r) :
  Calls Try.prog 30 #[.int .i64 a0] w fun e w' => e = .returned (.bool r) ∧ Drawn0 w w' := by
 have H : (if a0 ≥ 1 then (some (decide (a0 ≤ 8))) else (some false)) = some r := h
 clear h
 by_cases c2 : a0 ≥ 1
 ·rw [if_pos c2] at H
  have c2b0 : decide (1 ≤ a0) = true := decide_eq_true c2
  clear c2
  obtain rfl := Option.some.inj H
  go_enter Try.func30, Try.ntmps30
  go_wp2
  go_ret
  exact ⟨by first | rfl | (simp; done) | (simp [*]; done), by repeat (first | exact Drawn0.refl _ | apply Drawn0.step)⟩
 ·rw [if_neg c2] at H
  have c2b0 : decide (1 ≤ a0) = false := decide_eq_false c2
  clear c2
  obtain rfl := Option.some.inj H
  go_enter Try.func30, Try.ntmps30
  go_wp2
  go_ret
  exact ⟨by first | rfl | (simp; done) | (simp [*]; done), by repeat (first | exact Drawn0.refl _ | apply Drawn0.step)⟩

/-! ### pack_fits: function 32 -/
def pack_fits.f (a0 : Int) (a1 : Int) : Option (Bool) := if a1 = 8 then (some true) else (if 0 ≤ (wrap64 (8 * a1)) then (some ((shr .u64 a0 (wrap64 (8 * a1))) == 0)) else (none))
set_option maxHeartbeats 8000000 in
set_option maxRecDepth 100000 in
theorem pack_fits.calls (a0 : Int) (a1 : Int) (r : Bool) (w : World) (h : pack_fits.f a0 a1 = some r) :
  Calls Try.prog 32 #[.int .u64 a0, .int .i64 a1] w fun e w' => e = .returned (.bool r) ∧ Drawn0 w w' := by
 have H : (if a1 = 8 then (some true) else (if 0 ≤ (wrap64 (8 * a1)) then (some ((shr .u64 a0 (wrap64 (8 * a1))) == 0)) else (none))) = some r := h
 clear h
 by_cases c3 : a1 = 8
 ·rw [if_pos c3] at H
  have c3b0 : (a1 == 8) = true := beq_iff_eq.mpr c3
  have c3b1 : (a1 != 8) = false := bne_eq_false_iff_eq.mpr c3
  clear c3
  obtain rfl := Option.some.inj H
  go_enter Try.func32, Try.ntmps32
  go_wp2
  go_ret
  exact ⟨by first | rfl | (simp; done) | (simp [*]; done), by repeat (first | exact Drawn0.refl _ | apply Drawn0.step)⟩
 ·rw [if_neg c3] at H
  have c3b0 : (a1 == 8) = false := beq_eq_false_iff_ne.mpr c3
  have c3b1 : (a1 != 8) = true := bne_iff_ne.mpr c3
  obtain ⟨ji4, hji4⟩ : ∃ j_ : Int, (wrap64 (8 * a1)) = j_ := ⟨_, rfl⟩
  replace H : (if 0 ≤ (ji4) then (some ((shr .u64 a0 (ji4)) == 0)) else (none)) = some r := by first | (rw [hji4] at H; exact H) | (simp only [hji4] at H ⊢; exact H)
  have hji4w : (IntKind.i64.wrap (8 * a1)) = ji4 := (i64_w _).trans hji4
  by_cases c5 : 0 ≤ (ji4)
  ·rw [if_pos c5] at H
   have c5b0 := eq_true c5
   have c5b1 : decide (0 ≤ (ji4)) = true := decide_eq_true c5
   clear c5
   obtain ⟨ji6, hji6⟩ : ∃ j_ : Int, (shr .u64 a0 (ji4)) = j_ := ⟨_, rfl⟩
   replace H : (some ((ji6) == 0)) = some r := by first | (rw [hji6] at H; exact H) | (simp only [hji6] at H ⊢; exact H)
   have hji6_ : (a0 / 2 ^ min (ji4).toNat 64) = ji6 := hji6
   have hji6z : (ji4) ≤ 64 → (a0 / 2 ^ (ji4).toNat) = ji6 := shr_small hji6
   obtain rfl := Option.some.inj H
   go_enter Try.func32, Try.ntmps32
   go_wp2
   go_ret
   exact ⟨by first | rfl | (simp; done) | (simp only [← hji4, ← hji6] <;> (first | rfl | simp)) | (simp [*]; done), by repeat (first | exact Drawn0.refl _ | apply Drawn0.step)⟩
  ·rw [if_neg c5] at H
   exact absurd H (by simp)

/-! ### pack_put: function 33 -/
def pack_put.l0 : Nat → List Int → Int → Int → Option (List Int)
 | 0, _, _, _ => none
 | k + 1, x0, x1, x7 => if x7 ≥ 0 then (if 0 ≤ (wrap64 (8 * x7)) then (if x0.length < 140737488355328 then (pack_put.l0 k (x0 ++ [(shr .u64 x1 (wrap64 (8 * x7))) % 256]) x1 (wrap64 (x7 - 1))) else (none)) else (none)) else (some x0)
def pack_put.f (k : Nat) (l0 : List Int) (a1 : Int) (a2 : Int) : Option (List Int) := pack_put.l0 k l0 a1 (wrap64 (a2 - 1))
theorem pack_put.mono_l : ∀ k, (∀ y0 y1 y2, LeO (pack_put.l0 k y0 y1 y2) (pack_put.l0 (k + 1) y0 y1 y2))
 | 0 => fun _ _ _ r h => by simp [pack_put.l0] at h
 | k + 1 => by
  have ih0 := pack_put.mono_l k
  ·intro y0 y1 y2
   unfold pack_put.l0
   repeat' first
   | (with_reducible exact ih0 _ _ _)
   | (with_reducible exact LeO.refl _)
   | (with_reducible exact LeO.none _)
   | (with_reducible refine LeO.ite ?_ ?_)
   | (with_reducible refine LeO.bind ?_ (fun _ => ?_))
   | exact ih0 _ _ _
   | exact LeO.none _
   | refine LeO.ite ?_ ?_
   | refine LeO.bind ?_ (fun _ => ?_)
theorem pack_put.mono : ∀ a0 a1 a2 k, LeO (pack_put.f k a0 a1 a2) (pack_put.f (k + 1) a0 a1 a2) := by
 intro a0 a1 a2 k
 have ih0 := pack_put.mono_l k
 unfold pack_put.f
 repeat' first
   | (with_reducible exact ih0 _ _ _)
   | (with_reducible exact LeO.refl _)
   | (with_reducible exact LeO.none _)
   | (with_reducible refine LeO.ite ?_ ?_)
   | (with_reducible refine LeO.bind ?_ (fun _ => ?_))
   | exact ih0 _ _ _
   | exact LeO.none _
   | refine LeO.ite ?_ ?_
   | refine LeO.bind ?_ (fun _ => ?_)
set_option maxHeartbeats 8000000 in
set_option maxRecDepth 100000 in
theorem pack_put.calls (k : Nat) (P0_ : Nat → Prop) (u9000_ : Value) (l0 : List Int) (a1 : Int) (a2 : Int) (r : List Int) (w0 w : World) (hB : Below w0.heap.size w0 w) (ho0 : Kd.R (Kd.int .u8) 5 w w0.heap.size P0_ u9000_ l0) (h : pack_put.f k l0 a1 a2 = some r) :
  Calls Try.prog 33 #[u9000_, .int .u64 a1, .int .i64 a2] w fun e w' => ∃ v0_ : Value, e = .returned (v0_) ∧ Kd.R (Kd.int .u8) 5 w' w0.heap.size (fun k_ => (P0_ k_ ∨ w.heap.size ≤ k_)) v0_ r ∧ Below w0.heap.size w0 w' ∧ Kept w w' (fun k_ => P0_ k_) := by
 have HO0 := Aside0.mk (show Kd.R (Kd.int .u8) 5 w w0.heap.size (fun k_ => (P0_ k_ ∨ w.heap.size ≤ k_)) u9000_ l0 from Kd.R_mono ho0 (fun k_ hk => (.inl hk)))
 have HK := Aside0.mk (Kept.refl w (fun k_ => P0_ k_))
 have HW0 := Aside0.mk hB.size
 have HB := Aside0.mk hB
 clear hB
 have H : (pack_put.l0 k l0 a1 (wrap64 (a2 - 1))) = some r := h
 clear h
 have H' := Aside0.mk H
 clear H
 go_enter Try.func33, Try.ntmps33
 go_wp2
 go_loopg [0, 7] k (fun kq v0 v7 w' => ∃ (x0_1 : List Int) (x7_1 : Int), v7 = .int .i64 x7_1 ∧ Aside0 (pack_put.l0 kq x0_1 a1 x7_1 = some r) ∧ Aside0 (kq ≤ k) ∧ Aside0 (Kd.R (Kd.int .u8) 5 w' w0.heap.size (fun k_ => (P0_ k_ ∨ w.heap.size ≤ k_)) v0 x0_1) ∧ Aside0 (Kept w w' (fun k_ => P0_ k_)) ∧ Aside0 (Below w0.heap.size w0 w'))
 case atStart => exact ⟨(l0), (wrap64 (a2 - 1)), (by first | rfl | (simp; done) | (simp [*]; done)), H', ⟨Nat.le_refl _⟩, ⟨by (with_reducible repeat (first | apply Kd.R_alloc | apply Kd.R_drewN | apply Kd.R_drew)); exact HO0.out⟩, ⟨by repeat (first | (with_reducible first | exact HK.out | apply Kept.alloc | apply Kept.drewN | apply Kept.drew) | exact HK.out)⟩, ⟨by repeat (first | (with_reducible first | exact HB.out | apply below_alloc | apply pw_below_drewN | apply below_drew1) | exact HB.out)⟩⟩
 case round =>
  clear H'
  try clear p2
  try clear c3
  obtain ⟨x0_1, x7_1, rfl, HA, HK1, HO_0, HK, HB⟩ := hrel
  cases gk with
  | zero => exact absurd HA.out (by simp [pack_put.l0])
  | succ k1 =>
   have H := HA.out
   clear HA
   simp only [pack_put.l0] at H
   by_cases c4 : x7_1 ≥ 0
   ·rw [if_pos c4] at H
    have c4b0 : decide (0 ≤ x7_1) = true := decide_eq_true c4
    clear c4
    obtain ⟨ji5, hji5⟩ : ∃ j_ : Int, (wrap64 (8 * x7_1)) = j_ := ⟨_, rfl⟩
    replace H : (if 0 ≤ (ji5) then (if x0_1.length < 140737488355328 then (pack_put.l0 k1 (x0_1 ++ [(shr .u64 a1 (ji5)) % 256]) a1 (wrap64 (x7_1 - 1))) else (none)) else (none)) = some r := by first | (rw [hji5] at H; exact H) | (simp only [hji5] at H ⊢; exact H)
    have hji5w : (IntKind.i64.wrap (8 * x7_1)) = ji5 := (i64_w _).trans hji5
    by_cases c6 : 0 ≤ (ji5)
    ·rw [if_pos c6] at H
     have c6b0 := eq_true c6
     have c6b1 : decide (0 ≤ (ji5)) = true := decide_eq_true c6
     clear c6
     obtain ⟨ji7, hji7⟩ : ∃ j_ : Int, (shr .u64 a1 (ji5)) = j_ := ⟨_, rfl⟩
     replace H : (if x0_1.length < 140737488355328 then (pack_put.l0 k1 (x0_1 ++ [(ji7) % 256]) a1 (wrap64 (x7_1 - 1))) else (none)) = some r := by first | (rw [hji7] at H; exact H) | (simp only [hji7] at H ⊢; exact H)
     have hji7_ : (a1 / 2 ^ min (ji5).toNat 64) = ji7 := hji7
     have hji7z : (ji5) ≤ 64 → (a1 / 2 ^ (ji5).toNat) = ji7 := shr_small hji7
     by_cases c8 : x0_1.length < 140737488355328
     ·rw [if_pos c8] at H
      have LMc8 := Aside0.mk c8
      clear c8
      obtain ⟨y101, hy101⟩ : ∃ y_ : List Int, y_ = (x0_1 ++ [(ji7) % 256]) := ⟨_, rfl⟩
      replace H : (pack_put.l0 k1 y101 a1 (wrap64 (x7_1 - 1))) = some r := by first | (rw [hy101]; with_reducible exact H) | (have H2_ := (Option.bind_some _ _).symm.trans H; rw [hy101]; with_reducible exact H2_) | (have H2_ := (Option.bind_some _ _).symm.trans H; with_reducible exact H2_) | with_reducible exact H | (rw [hy101]; exact H) | exact H
      have Ny101 := Aside0.mk hy101
      clear hy101
      have H' := Aside0.mk H
      clear H
      go_wp2_with (first | ((with_reducible refine gate_builtin (b := .append) (xs := #[.tmp 14, .tmp 20]) rfl ?_); at_builtin; refine Kd.R_append (Kd.int .u8) (w0 := w0) w0.heap.size rfl (.tmp 14) (.tmp 20) 26 5 (.int .u8 0) 1 rfl Try.underlying26 info5 rfl (by decide) (by omega) u0 x0_1 ((ji7) % 256) [.int .u8 ((ji7) % 256)] (fun k_ => (P0_ k_ ∨ w.heap.size ≤ k_)) (fun _ => False) rfl rfl ?aP (fun _ hk => hk.elim) ?aF ?aO ?aB ?aS ?aL ?_; (case aP => exact rfl); (case aB => exact (by repeat (first | (with_reducible first | exact HB.out | apply below_alloc | apply pw_below_drewN | apply below_drew1) | exact HB.out))); (case aF => exact (fun k_ hk => (.inr (Nat.le_trans (by first | exact HK.out.1 | exact (show Kept w _ (fun k_ => P0_ k_) from by repeat (first | (with_reducible first | exact HK.out | apply Kept.alloc | apply Kept.drewN | apply Kept.drew) | exact HK.out)).1) hk)))); (case aO => exact (by (with_reducible repeat (first | apply Kd.R_alloc | apply Kd.R_drewN | apply Kd.R_drew)); exact HO_0.out)); (case aS => exact (below_size (by repeat (first | (with_reducible first | exact HB.out | apply below_alloc | apply pw_below_drewN | apply below_drew1) | exact HB.out)))); (case aL => have := LMc8.out; omega); intro v102 w9 ho hb hg hat; rw [← Ny101.out] at ho; have n0_ := Aside0.mk (hb); have n1_ := Aside0.mk (Kept.of_grown (S := (fun k_ => P0_ k_)) hg (by repeat (first | (with_reducible first | exact HK.out | apply Kept.alloc | apply Kept.drewN | apply Kept.drew) | exact HK.out)) (fun k_ e_ => (HO_0.out.1 k_ e_))); have n2_ := Aside0.mk (ho); clear HB; clear HK; clear HO_0; have HB := n0_; have HK := n1_; have HO103 := n2_; clear n0_ n1_ n2_; clear ho hb hg hat))
      go_roundg k1
      case measure => have := HK1.out; omega
      case rel => exact ⟨(y101), (wrap64 (x7_1 - 1)), (by first | rfl | (simp; done) | (simp [*]; done)), H', ⟨by have := HK1.out; omega⟩, ⟨by (with_reducible repeat (first | apply Kd.R_alloc | apply Kd.R_drewN | apply Kd.R_drew)); exact HO103.out⟩, ⟨by repeat (first | (with_reducible first | exact HK.out | apply Kept.alloc | apply Kept.drewN | apply Kept.drew) | exact HK.out)⟩, ⟨by repeat (first | (with_reducible first | exact HB.out | apply below_alloc | apply pw_below_drewN | apply below_drew1) | exact HB.out)⟩⟩
     ·rw [if_neg c8] at H
      exact absurd H (by simp)
    ·rw [if_neg c6] at H
     exact absurd H (by simp)
   ·rw [if_neg c4] at H
    have c4b0 : decide (0 ≤ x7_1) = false := decide_eq_false c4
    clear c4
    obtain rfl := Option.some.inj H
    go_wp2
    go_ret
    exact ⟨_, by first | rfl | (simp [errW_none, errW_some] <;> rfl) | (simp [*, errW_none, errW_some] <;> rfl), by (with_reducible repeat (first | apply Kd.R_alloc | apply Kd.R_drewN | apply Kd.R_drew)); exact HO_0.out, by repeat (first | (with_reducible first | exact HB.out | apply below_alloc | apply pw_below_drewN | apply below_drew1) | exact HB.out), by repeat (first | (with_reducible first | exact HK.out | apply Kept.alloc | apply Kept.drewN | apply Kept.drew) | exact HK.out)⟩

/-! ### pack_Fields: function 27 -/
mutual
def pack_Fields.j0 : Nat → List Int → List Int → Bool → Option (List Int × Int)
 | 0, _, _, _ => none
 | k + 1, x0, x1, x20 => if x20 = true then (some (([] : List Int), 1)) else (pack_Fields.l0 k x0 x1 x1 (x1.length : Int) 0)
def pack_Fields.l0 : Nat → List Int → List Int → List Int → Int → Int → Option (List Int × Int)
 | 0, _, _, _, _, _ => none
 | k + 1, x0, x1, x21, x22, x23 => if x23 < x22 then (if 0 ≤ x23 then (if x23 < (x21.length : Int) then ((pack_right.f (rd x21 x23)).bind fun t105 => (if t105 = true then (pack_Fields.l0 k x0 x1 x21 x22 (wrap64 (x23 + 1))) else (some (([] : List Int), 1)))) else (none)) else (none)) else (pack_Fields.l1 k x1 ([] : List Int) x0 (x0.length : Int) 0)
def pack_Fields.l1 : Nat → List Int → List Int → List Int → Int → Int → Option (List Int × Int)
 | 0, _, _, _, _, _ => none
 | k + 1, x1, x8, x31, x32, x33 => if x33 < x32 then (if 0 ≤ x33 then (if x33 < (x31.length : Int) then (if x33 < (x1.length : Int) then ((pack_fits.f (rd x31 x33) (rd x1 x33)).bind fun t108 => (if t108 = true then ((pack_put.f k x8 (rd x31 x33) (rd x1 x33)).bind fun t110 => (pack_Fields.l1 k x1 t110 x31 x32 (wrap64 (x33 + 1)))) else (some (([] : List Int), 7)))) else (none)) else (none)) else (none)) else (some (x8, 0))
end
def pack_Fields.f (k : Nat) (l0 : List Int) (l1 : List Int) : Option (List Int × Int) := if (l0.length : Int) = (l1.length : Int) then (pack_Fields.j0 k l0 l1 (decide ((l0.length : Int) > 4096))) else (pack_Fields.j0 k l0 l1 true)
theorem pack_Fields.mono_l : ∀ k, (∀ y0 y1 y2, LeO (pack_Fields.j0 k y0 y1 y2) (pack_Fields.j0 (k + 1) y0 y1 y2)) ∧ (∀ y0 y1 y2 y3 y4, LeO (pack_Fields.l0 k y0 y1 y2 y3 y4) (pack_Fields.l0 (k + 1) y0 y1 y2 y3 y4)) ∧ (∀ y0 y1 y2 y3 y4, LeO (pack_Fields.l1 k y0 y1 y2 y3 y4) (pack_Fields.l1 (k + 1) y0 y1 y2 y3 y4))
 | 0 => ⟨fun _ _ _ r h => by simp [pack_Fields.j0] at h, fun _ _ _ _ _ r h => by simp [pack_Fields.l0] at h, fun _ _ _ _ _ r h => by simp [pack_Fields.l1] at h⟩
 | k + 1 => by
  obtain ⟨ih0, ih1, ih2⟩ := pack_Fields.mono_l k
  refine ⟨?_, ?_, ?_⟩
  ·intro y0 y1 y2
   unfold pack_Fields.j0
   repeat' first
   | (with_reducible exact ih0 _ _ _)
   | (with_reducible exact ih1 _ _ _ _ _)
   | (with_reducible exact ih2 _ _ _ _ _)
   | (with_reducible exact pack_put.mono _ _ _ _)
   | (with_reducible exact LeO.refl _)
   | (with_reducible exact LeO.none _)
   | (with_reducible refine LeO.ite ?_ ?_)
   | (with_reducible refine LeO.bind ?_ (fun _ => ?_))
   | exact ih0 _ _ _
   | exact ih1 _ _ _ _ _
   | exact ih2 _ _ _ _ _
   | exact pack_put.mono _ _ _ _
   | exact LeO.none _
   | refine LeO.ite ?_ ?_
   | refine LeO.bind ?_ (fun _ => ?_)
  ·intro y0 y1 y2 y3 y4
   unfold pack_Fields.l0
   repeat' first
   | (with_reducible exact ih0 _ _ _)
   | (with_reducible exact ih1 _ _ _ _ _)
   | (with_reducible exact ih2 _ _ _ _ _)
   | (with_reducible exact pack_put.mono _ _ _ _)
   | (with_reducible exact LeO.refl _)
   | (with_reducible exact LeO.none _)
   | (with_reducible refine LeO.ite ?_ ?_)
   | (with_reducible refine LeO.bind ?_ (fun _ => ?_))
   | exact ih0 _ _ _
   | exact ih1 _ _ _ _ _
   | exact ih2 _ _ _ _ _
   | exact pack_put.mono _ _ _ _
   | exact LeO.none _
   | refine LeO.ite ?_ ?_
   | refine LeO.bind ?_ (fun _ => ?_)
  ·intro y0 y1 y2 y3 y4
   unfold pack_Fields.l1
   repeat' first
   | (with_reducible exact ih0 _ _ _)
   | (with_reducible exact ih1 _ _ _ _ _)
   | (with_reducible exact ih2 _ _ _ _ _)
   | (with_reducible exact pack_put.mono _ _ _ _)
   | (with_reducible exact LeO.refl _)
   | (with_reducible exact LeO.none _)
   | (with_reducible refine LeO.ite ?_ ?_)
   | (with_reducible refine LeO.bind ?_ (fun _ => ?_))
   | exact ih0 _ _ _
   | exact ih1 _ _ _ _ _
   | exact ih2 _ _ _ _ _
   | exact pack_put.mono _ _ _ _
   | exact LeO.none _
   | refine LeO.ite ?_ ?_
   | refine LeO.bind ?_ (fun _ => ?_)
theorem pack_Fields.mono : ∀ a0 a1 k, LeO (pack_Fields.f k a0 a1) (pack_Fields.f (k + 1) a0 a1) := by
 intro a0 a1 k
 obtain ⟨ih0, ih1, ih2⟩ := pack_Fields.mono_l k
 unfold pack_Fields.f
 repeat' first
   | (with_reducible exact ih0 _ _ _)
   | (with_reducible exact ih1 _ _ _ _ _)
   | (with_reducible exact ih2 _ _ _ _ _)
   | (with_reducible exact pack_put.mono _ _ _ _)
   | (with_reducible exact LeO.refl _)
   | (with_reducible exact LeO.none _)
   | (with_reducible refine LeO.ite ?_ ?_)
   | (with_reducible refine LeO.bind ?_ (fun _ => ?_))
   | exact ih0 _ _ _
   | exact ih1 _ _ _ _ _
   | exact ih2 _ _ _ _ _
   | exact pack_put.mono _ _ _ _
   | exact LeO.none _
   | refine LeO.ite ?_ ?_
   | refine LeO.bind ?_ (fun _ => ?_)
set_option maxHeartbeats 8000000 in
set_option maxRecDepth 100000 in
theorem pack_Fields.calls (k : Nat) (A0 : Option Addr) (c0 : Nat) (l0 : List Int) (A1 : Option Addr) (c1 : Nat) (l1 : List Int) (r1 : List Int) (r2 : Int) (w : World) (hr0 : Kd.C (Kd.int .u64) w A0 l0.length l0) (hc0 : l0.length ≤ c0) (hr1 : Kd.C (Kd.int .i64) w A1 l1.length l1) (hc1 : l1.length ≤ c1) (h : pack_Fields.f k l0 l1 = some (r1, r2)) :
  Calls Try.prog 27 #[.slice A0 l0.length c0, .slice A1 l1.length c1] w fun e w' => ∃ v0_ : Value, e = .returned (.tuple #[v0_, .int .i64 r2]) ∧ Kd.R (Kd.int .u8) 5 w' w.heap.size (fun _ => True) v0_ r1 ∧ Below w.heap.size w w' := by
 have HR0 := Aside0.mk hr0
 have HC0 := Aside0.mk hc0
 clear hr0 hc0
 have HR1 := Aside0.mk hr1
 have HC1 := Aside0.mk hc1
 clear hr1 hc1
 have HB := Aside0.mk (Below.refl w.heap.size w)
 have H : (if (l0.length : Int) = (l1.length : Int) then (pack_Fields.j0 k l0 l1 (decide ((l0.length : Int) > 4096))) else (pack_Fields.j0 k l0 l1 true)) = some (r1, r2) := h
 clear h
 have HC3 := Aside0.mk H
 clear H
 go_enter Try.func27, Try.ntmps27
 go_upto_region 1 with (fail)
 go_cut [20] (fun v20 wc => ∃ (kq : Nat) (x20_2 : Bool), v20 = .bool x20_2 ∧ Aside0 (pack_Fields.j0 kq l0 l1 x20_2 = some (r1, r2)) ∧ Aside0 (kq ≤ k) ∧ Aside0 (Below w.heap.size w wc))
 case first =>
  have H := HC3.out
  clear HC3
  by_cases c4 : (l0.length : Int) = (l1.length : Int)
  ·rw [if_pos c4] at H
   have c4b0 : ((l0.length : Int) == (l1.length : Int)) = true := beq_iff_eq.mpr c4
   have c4b1 : ((l0.length : Int) != (l1.length : Int)) = false := bne_eq_false_iff_eq.mpr c4
   have c4b2 : (l0.length == l1.length) = true := by first | simpa using c4 | (simp at c4 ⊢; omega)
   clear c4
   (first | rw [c4b0] | (simp only [i64_w, i32_w]; rw [c4b0]) | rw [c4b1] | skip)
   have H' := Aside0.mk H
   clear H
   go_wp2
   go_meet
   case rel => exact ⟨_, (decide ((l0.length : Int) > 4096)), (by first | rfl | (simp; done) | (simp [*]; done)), H', ⟨by first | omega | exact Nat.le_refl _⟩, ⟨by repeat (first | (with_reducible first | exact HB.out | apply below_alloc | apply pw_below_drewN | apply below_drew1) | exact HB.out)⟩⟩
  ·rw [if_neg c4] at H
   have c4b0 : ((l0.length : Int) == (l1.length : Int)) = false := beq_eq_false_iff_ne.mpr c4
   have c4b1 : ((l0.length : Int) != (l1.length : Int)) = true := bne_iff_ne.mpr c4
   have c4b2 : (l0.length == l1.length) = false := by first | simpa using c4 | (simp at c4 ⊢; omega)
   (first | rw [c4b0] | (simp only [i64_w, i32_w]; rw [c4b0]) | rw [c4b1] | skip)
   have H' := Aside0.mk H
   clear H
   go_wp2
   go_meet
   case rel => exact ⟨_, (true), (by first | rfl | (simp; done) | (simp [*]; done)), H', ⟨by first | omega | exact Nat.le_refl _⟩, ⟨by repeat (first | (with_reducible first | exact HB.out | apply below_alloc | apply pw_below_drewN | apply below_drew1) | exact HB.out)⟩⟩
 case rest =>
  clear HC3
  try clear c1
  try clear c2
  try clear p2
  try clear c4
  try clear c4b0
  try clear c4b1
  try clear c4b2
  obtain ⟨kq, x20_2, rfl, HA, HJ2, HB⟩ := hcut
  cases kq with
  | zero => exact absurd HA.out (by simp [pack_Fields.j0])
  | succ kj2 =>
   have H := HA.out
   clear HA
   simp only [pack_Fields.j0] at H
   by_cases c5 : x20_2 = true
   ·subst c5
    have H1 : (some (([] : List Int), 1)) = some (r1, r2) := by rw [if_pos rfl] at H; exact H
    clear H
    have H := H1
    clear H1
    simp only [Option.some.injEq, Prod.mk.injEq] at H
    obtain ⟨rfl, rfl⟩ := H
    go_wp2
    go_ret2
    exact ⟨_, by first | rfl | (simp [errW_none, errW_some] <;> rfl) | (simp [*, errW_none, errW_some] <;> rfl), by first | exact Kd.R_nil _ _ _ _ _ | exact Kd.N_nil _ _ _ _ _ | exact Kd.V_nil _ _ _ _ _ | exact Kd.Q_nil _ _ _ _ _ | exact Kd.S_nil _ _ _ _ _, by repeat (first | (with_reducible first | exact HB.out | apply below_alloc | apply pw_below_drewN | apply below_drew1) | exact HB.out)⟩
   ·replace c5 := Bool.eq_false_iff.mpr c5
    subst c5
    have H1 : (pack_Fields.l0 kj2 l0 l1 l1 (l1.length : Int) 0) = some (r1, r2) := by rw [if_neg (show ¬ (false = true) by decide)] at H; exact H
    clear H
    have H := H1
    clear H1
    have H' := Aside0.mk H
    clear H
    go_wp2
    go_loopg [23] kj2 (fun kq v23 w' => ∃ (x23_2 : Int), v23 = .int .i64 x23_2 ∧ Aside0 (pack_Fields.l0 kq l0 l1 l1 (l1.length : Int) x23_2 = some (r1, r2)) ∧ Aside0 (kq ≤ kj2) ∧ Aside0 (Below w.heap.size w w'))
    case atStart => exact ⟨(0), (by first | rfl | (simp; done) | (simp [*]; done)), H', ⟨Nat.le_refl _⟩, ⟨by repeat (first | (with_reducible first | exact HB.out | apply below_alloc | apply pw_below_drewN | apply below_drew1) | exact HB.out)⟩⟩
    case round =>
     clear H'
     try clear c1
     try clear c2
     try clear p2
     try clear c4
     try clear c4b0
     try clear c4b1
     try clear c4b2
     try clear c5
     try clear p2
     obtain ⟨x23_2, rfl, HA, HK2, HB⟩ := hrel
     cases gk with
     | zero => exact absurd HA.out (by simp [pack_Fields.l0])
     | succ k2 =>
      have H := HA.out
      clear HA
      simp only [pack_Fields.l0] at H
      by_cases c6 : x23_2 < (l1.length : Int)
      ·rw [if_pos c6] at H
       have c6b0 : decide (x23_2 < (l1.length : Int)) = true := decide_eq_true c6
       clear c6
       by_cases c7 : 0 ≤ x23_2
       ·rw [if_pos c7] at H
        have c7b0 : decide (0 ≤ x23_2) = true := decide_eq_true c7
        clear c7
        by_cases c8 : x23_2 < (l1.length : Int)
        ·rw [if_pos c8] at H
         have c8b0 : decide (x23_2 < (l1.length : Int)) = true := decide_eq_true c8
         clear c8
         replace H := Option.bind_eq_some_iff.mp H
         obtain ⟨t105, A90, H⟩ := H
         replace H : (if t105 = true then (pack_Fields.l0 k2 l0 l1 l1 (l1.length : Int) (wrap64 (x23_2 + 1))) else (some (([] : List Int), 1))) = some (r1, r2) := H
         have A9 := Aside0.mk A90
         clear A90
         by_cases c10 : t105 = true
         ·subst c10
          have H1 : (pack_Fields.l0 k2 l0 l1 l1 (l1.length : Int) (wrap64 (x23_2 + 1))) = some (r1, r2) := by rw [if_pos rfl] at H; exact H
          clear H
          have H := H1
          clear H1
          have H' := Aside0.mk H
          clear H
          have p104 : 0 ≤ (x23_2 : Int) := of_decide_eq_true (by first | (with_reducible assumption) | assumption)
          have q104 : x23_2 < (l1.length : Int) := of_decide_eq_true (by first | (with_reducible assumption) | assumption)
          obtain ⟨ad104, e104, hx104_0⟩ := Kd.at_int HR1.out x23_2 p104 q104
          cases e104
          replace hx104_0 := (HB.out.cell (World.block_lt_of_cell? w _ hx104_0)).trans hx104_0
          replace p104 := eq_true p104
          replace q104 := eq_true q104
          go_wp2_with (first | ((with_reducible refine gate_callee (f := 30) rfl ?_); refine goesL_ (some 28) rfl rfl Try.func30 (by kernel_rfl) rfl #[.int .i64 (rd l1 x23_2)] rfl (by (try simp only [List.map_toArray, List.map_cons, List.map_nil]); first | done | rfl | (simp only [List.length_drop, List.length_take]; rfl)) ?_; (with_reducible refine (pack_right.calls (rd l1 x23_2) true _ A9.out).mono ?_); rintro e w' ⟨rfl, ⟨nd, rfl⟩⟩; refine ⟨_, rfl, ?_⟩))
          go_roundg k2
          case measure => have := HJ2.out; have := HK2.out; omega
          case rel => exact ⟨(wrap64 (x23_2 + 1)), (by first | rfl | (simp; done) | (simp [*]; done)), H', ⟨by have := HJ2.out; have := HK2.out; omega⟩, ⟨by repeat (first | (with_reducible first | exact HB.out | apply below_alloc | apply pw_below_drewN | apply below_drew1) | exact HB.out)⟩⟩
         ·replace c10 := Bool.eq_false_iff.mpr c10
          subst c10
          have H1 : (some (([] : List Int), 1)) = some (r1, r2) := by rw [if_neg (show ¬ (false = true) by decide)] at H; exact H
          clear H
          have H := H1
          clear H1
          simp only [Option.some.injEq, Prod.mk.injEq] at H
          obtain ⟨rfl, rfl⟩ := H
          have p104 : 0 ≤ (x23_2 : Int) := of_decide_eq_true (by first | (with_reducible assumption) | assumption)
          have q104 : x23_2 < (l1.length : Int) := of_decide_eq_true (by first | (with_reducible assumption) | assumption)
          obtain ⟨ad104, e104, hx104_0⟩ := Kd.at_int HR1.out x23_2 p104 q104
          cases e104
          replace hx104_0 := (HB.out.cell (World.block_lt_of_cell? w _ hx104_0)).trans hx104_0
          replace p104 := eq_true p104
          replace q104 := eq_true q104
          go_wp2_with (first | ((with_reducible refine gate_callee (f := 30) rfl ?_); refine goesL_ (some 28) rfl rfl Try.func30 (by kernel_rfl) rfl #[.int .i64 (rd l1 x23_2)] rfl (by (try simp only [List.map_toArray, List.map_cons, List.map_nil]); first | done | rfl | (simp only [List.length_drop, List.length_take]; rfl)) ?_; (with_reducible refine (pack_right.calls (rd l1 x23_2) false _ A9.out).mono ?_); rintro e w' ⟨rfl, ⟨nd, rfl⟩⟩; refine ⟨_, rfl, ?_⟩))
          go_ret2
          exact ⟨_, by first | rfl | (simp [errW_none, errW_some] <;> rfl) | (simp [*, errW_none, errW_some] <;> rfl), by first | exact Kd.R_nil _ _ _ _ _ | exact Kd.N_nil _ _ _ _ _ | exact Kd.V_nil _ _ _ _ _ | exact Kd.Q_nil _ _ _ _ _ | exact Kd.S_nil _ _ _ _ _, by repeat (first | (with_reducible first | exact HB.out | apply below_alloc | apply pw_below_drewN | apply below_drew1) | exact HB.out)⟩
        ·rw [if_neg c8] at H
         exact absurd H (by simp)
       ·rw [if_neg c7] at H
        exact absurd H (by simp)
      ·rw [if_neg c6] at H
       have c6b0 : decide (x23_2 < (l1.length : Int)) = false := decide_eq_false c6
       clear c6
       have H' := Aside0.mk H
       clear H
       go_wp2
       go_loopg [8, 33] k2 (fun kq v8 v33 w' => ∃ (x8_3 : List Int) (x33_3 : Int), v33 = .int .i64 x33_3 ∧ Aside0 (pack_Fields.l1 kq l1 x8_3 l0 (l0.length : Int) x33_3 = some (r1, r2)) ∧ Aside0 (kq ≤ k2) ∧ Aside0 (Kd.R (Kd.int .u8) 5 w' w.heap.size (fun _ => True) v8 x8_3) ∧ Aside0 (Below w.heap.size w w'))
       case atStart => exact ⟨(([] : List Int)), (0), (by first | rfl | (simp; done) | (simp [*]; done)), H', ⟨Nat.le_refl _⟩, ⟨by first | exact Kd.R_nil _ _ _ _ _ | exact Kd.N_nil _ _ _ _ _ | exact Kd.V_nil _ _ _ _ _ | exact Kd.Q_nil _ _ _ _ _ | exact Kd.S_nil _ _ _ _ _⟩, ⟨by repeat (first | (with_reducible first | exact HB.out | apply below_alloc | apply pw_below_drewN | apply below_drew1) | exact HB.out)⟩⟩
       case round =>
        clear H'
        try clear c1
        try clear p1
        try clear q1
        try clear hx1
        try clear c2
        try clear p2
        try clear c3
        try clear c4
        try clear c4b0
        try clear c4b1
        try clear c4b2
        try clear c5
        try clear c6
        try clear c6b0
        try clear p6
        try clear c7
        try clear c7b0
        try clear c8
        try clear c8b0
        try clear c10
        try clear p10
        try clear q10
        try clear hx10
        try clear hx104_0
        try clear p104
        try clear p2
        try clear q104
        obtain ⟨x8_3, x33_3, rfl, HA, HK3, HO_8, HB⟩ := hrel
        cases gk with
        | zero => exact absurd HA.out (by simp [pack_Fields.l1])
        | succ k3 =>
         have H := HA.out
         clear HA
         simp only [pack_Fields.l1] at H
         by_cases c11 : x33_3 < (l0.length : Int)
         ·rw [if_pos c11] at H
          have c11b0 : decide (x33_3 < (l0.length : Int)) = true := decide_eq_true c11
          clear c11
          by_cases c12 : 0 ≤ x33_3
          ·rw [if_pos c12] at H
           have c12b0 : decide (0 ≤ x33_3) = true := decide_eq_true c12
           clear c12
           by_cases c13 : x33_3 < (l0.length : Int)
           ·rw [if_pos c13] at H
            have c13b0 : decide (x33_3 < (l0.length : Int)) = true := decide_eq_true c13
            clear c13
            by_cases c14 : x33_3 < (l1.length : Int)
            ·rw [if_pos c14] at H
             have c14b0 : decide (x33_3 < (l1.length : Int)) = true := decide_eq_true c14
             clear c14
             replace H := Option.bind_eq_some_iff.mp H
             obtain ⟨t108, A150, H⟩ := H
             replace H : (if t108 = true then ((pack_put.f k3 x8_3 (rd l0 x33_3) (rd l1 x33_3)).bind fun t110 => (pack_Fields.l1 k3 l1 t110 l0 (l0.length : Int) (wrap64 (x33_3 + 1)))) else (some (([] : List Int), 7))) = some (r1, r2) := H
             have A15 := Aside0.mk A150
             clear A150
             by_cases c16 : t108 = true
             ·subst c16
              have H1 : ((pack_put.f k3 x8_3 (rd l0 x33_3) (rd l1 x33_3)).bind fun t110 => (pack_Fields.l1 k3 l1 t110 l0 (l0.length : Int) (wrap64 (x33_3 + 1)))) = some (r1, r2) := by rw [if_pos rfl] at H; exact H
              clear H
              have H := H1
              clear H1
              replace H := Option.bind_eq_some_iff.mp H
              obtain ⟨t110, A170, H⟩ := H
              replace H : (pack_Fields.l1 k3 l1 t110 l0 (l0.length : Int) (wrap64 (x33_3 + 1))) = some (r1, r2) := H
              have A17 := Aside0.mk A170
              clear A170
              have H' := Aside0.mk H
              clear H
              have p106 : 0 ≤ (x33_3 : Int) := of_decide_eq_true (by first | (with_reducible assumption) | assumption)
              have q106 : x33_3 < (l0.length : Int) := of_decide_eq_true (by first | (with_reducible assumption) | assumption)
              obtain ⟨ad106, e106, hx106_0⟩ := Kd.at_int HR0.out x33_3 p106 q106
              cases e106
              replace hx106_0 := (HB.out.cell (World.block_lt_of_cell? w _ hx106_0)).trans hx106_0
              replace p106 := eq_true p106
              replace q106 := eq_true q106
              have p107 : 0 ≤ (x33_3 : Int) := of_decide_eq_true (by first | (with_reducible assumption) | assumption)
              have q107 : x33_3 < (l1.length : Int) := of_decide_eq_true (by first | (with_reducible assumption) | assumption)
              obtain ⟨ad107, e107, hx107_0⟩ := Kd.at_int HR1.out x33_3 p107 q107
              cases e107
              replace hx107_0 := (HB.out.cell (World.block_lt_of_cell? w _ hx107_0)).trans hx107_0
              replace p107 := eq_true p107
              replace q107 := eq_true q107
              go_wp2_with (first | ((with_reducible refine gate_callee (f := 32) rfl ?_); refine goesL_ (some 43) rfl rfl Try.func32 (by kernel_rfl) rfl #[.int .u64 (rd l0 x33_3), .int .i64 (rd l1 x33_3)] rfl (by (try simp only [List.map_toArray, List.map_cons, List.map_nil]); first | done | rfl | (simp only [List.length_drop, List.length_take]; rfl)) ?_; (with_reducible refine (pack_fits.calls (rd l0 x33_3) (rd l1 x33_3) true _ A15.out).mono ?_); rintro e w' ⟨rfl, ⟨nd, rfl⟩⟩; refine ⟨_, rfl, ?_⟩; have p109 : 0 ≤ (x33_3 : Int) := of_decide_eq_true (by first | (with_reducible assumption) | assumption); have q109 : x33_3 < (l1.length : Int) := of_decide_eq_true (by first | (with_reducible assumption) | assumption); obtain ⟨ad109, e109, hx109_0⟩ := Kd.at_int HR1.out x33_3 p109 q109; obtain rfl : ad107 = ad109 := (by injection e109); replace hx109_0 := (HB.out.cell (World.block_lt_of_cell? w _ hx109_0)).trans hx109_0; replace p109 := eq_true p109; replace q109 := eq_true q109; obtain ⟨Ao18, co18, eo18⟩ := Kd.R_slice HO_8.out; subst eo18) | ((with_reducible refine gate_callee (f := 33) rfl ?_); refine goesL_ (some 51) rfl rfl Try.func33 (by kernel_rfl) rfl #[.slice Ao18 x8_3.length co18, .int .u64 (rd l0 x33_3), .int .i64 (rd l1 x33_3)] rfl (by (try simp only [List.map_toArray, List.map_cons, List.map_nil]); first | done | rfl | (simp only [List.length_drop, List.length_take]; rfl)) ?_; (with_reducible refine (pack_put.calls k3 (fun k_ => some k_ = (.slice Ao18 x8_3.length co18 : Value).ownBlock) (.slice Ao18 x8_3.length co18) x8_3 (rd l0 x33_3) (rd l1 x33_3) t110 w _ ?side1 ?side2 A17.out).mono ?_); (case side1 => repeat (first | (with_reducible first | exact HB.out | apply below_alloc | apply pw_below_drewN | apply below_drew1) | exact HB.out)); (case side2 => exact Kd.R_tight rfl (by (with_reducible repeat (first | apply Kd.R_alloc | apply Kd.R_drewN | apply Kd.R_drew)); exact HO_8.out)); rintro e w19 ⟨v111, rfl, ho0, hb, hkp⟩; refine ⟨_, rfl, ?_⟩; have n0_ := Aside0.mk (Kd.R_mono (ok' := fun k_ => True) ho0 (fun k_ hk_ => trivial)); have n1_ := Aside0.mk (hb); clear HB; clear HO_8; have HO112 := n0_; have HB := n1_; clear n0_ n1_; (try clear hb); (try clear hkp); (try clear ho0)))
              go_roundg k3
              case measure => have := HJ2.out; have := HK2.out; have := HK3.out; omega
              case rel => exact ⟨(t110), (wrap64 (x33_3 + 1)), (by first | rfl | (simp; done) | (simp [*]; done)), H', ⟨by have := HJ2.out; have := HK2.out; have := HK3.out; omega⟩, ⟨by (with_reducible repeat (first | apply Kd.R_alloc | apply Kd.R_drewN | apply Kd.R_drew)); exact HO112.out⟩, ⟨by repeat (first | (with_reducible first | exact HB.out | apply below_alloc | apply pw_below_drewN | apply below_drew1) | exact HB.out)⟩⟩
             ·replace c16 := Bool.eq_false_iff.mpr c16
              subst c16
              have H1 : (some (([] : List Int), 7)) = some (r1, r2) := by rw [if_neg (show ¬ (false = true) by decide)] at H; exact H
              clear H
              have H := H1
              clear H1
              simp only [Option.some.injEq, Prod.mk.injEq] at H
              obtain ⟨rfl, rfl⟩ := H
              have p106 : 0 ≤ (x33_3 : Int) := of_decide_eq_true (by first | (with_reducible assumption) | assumption)
              have q106 : x33_3 < (l0.length : Int) := of_decide_eq_true (by first | (with_reducible assumption) | assumption)
              obtain ⟨ad106, e106, hx106_0⟩ := Kd.at_int HR0.out x33_3 p106 q106
              cases e106
              replace hx106_0 := (HB.out.cell (World.block_lt_of_cell? w _ hx106_0)).trans hx106_0
              replace p106 := eq_true p106
              replace q106 := eq_true q106
              have p107 : 0 ≤ (x33_3 : Int) := of_decide_eq_true (by first | (with_reducible assumption) | assumption)
              have q107 : x33_3 < (l1.length : Int) := of_decide_eq_true (by first | (with_reducible assumption) | assumption)
              obtain ⟨ad107, e107, hx107_0⟩ := Kd.at_int HR1.out x33_3 p107 q107
              cases e107
              replace hx107_0 := (HB.out.cell (World.block_lt_of_cell? w _ hx107_0)).trans hx107_0
              replace p107 := eq_true p107
              replace q107 := eq_true q107
              go_wp2_with (first | ((with_reducible refine gate_callee (f := 32) rfl ?_); refine goesL_ (some 43) rfl rfl Try.func32 (by kernel_rfl) rfl #[.int .u64 (rd l0 x33_3), .int .i64 (rd l1 x33_3)] rfl (by (try simp only [List.map_toArray, List.map_cons, List.map_nil]); first | done | rfl | (simp only [List.length_drop, List.length_take]; rfl)) ?_; (with_reducible refine (pack_fits.calls (rd l0 x33_3) (rd l1 x33_3) false _ A15.out).mono ?_); rintro e w' ⟨rfl, ⟨nd, rfl⟩⟩; refine ⟨_, rfl, ?_⟩))
              go_ret2
              exact ⟨_, by first | rfl | (simp [errW_none, errW_some] <;> rfl) | (simp [*, errW_none, errW_some] <;> rfl), by first | exact Kd.R_nil _ _ _ _ _ | exact Kd.N_nil _ _ _ _ _ | exact Kd.V_nil _ _ _ _ _ | exact Kd.Q_nil _ _ _ _ _ | exact Kd.S_nil _ _ _ _ _, by repeat (first | (with_reducible first | exact HB.out | apply below_alloc | apply pw_below_drewN | apply below_drew1) | exact HB.out)⟩
            ·rw [if_neg c14] at H
             exact absurd H (by simp)
           ·rw [if_neg c13] at H
            exact absurd H (by simp)
          ·rw [if_neg c12] at H
           exact absurd H (by simp)
         ·rw [if_neg c11] at H
          have c11b0 : decide (x33_3 < (l0.length : Int)) = false := decide_eq_false c11
          clear c11
          simp only [Option.some.injEq, Prod.mk.injEq] at H
          obtain ⟨rfl, rfl⟩ := H
          go_wp2
          go_ret2
          exact ⟨_, by first | rfl | (simp [errW_none, errW_some] <;> rfl) | (simp [*, errW_none, errW_some] <;> rfl), by (with_reducible repeat (first | apply Kd.R_alloc | apply Kd.R_drewN | apply Kd.R_drew)); exact HO_8.out, by repeat (first | (with_reducible first | exact HB.out | apply below_alloc | apply pw_below_drewN | apply below_drew1) | exact HB.out)⟩

/-! ### pack_Must: function 18 -/
def pack_Must.f (k : Nat) (l0 : List Int) (l1 : List Int) : Option (List Int) := (pack_Fields.f k l0 l1).bind fun bt => if bt.2 = 0 then (if bt.1.length = 0 then none else some bt.1) else none
theorem pack_Must.mono : ∀ l0 l1 k, LeO (pack_Must.f k l0 l1) (pack_Must.f (k + 1) l0 l1) := by
 intro l0 l1 k
 unfold pack_Must.f
 exact LeO.bind (pack_Fields.mono _ _ _) (fun _ => LeO.refl _)
theorem pack_Must.of {k : Nat} {l0 l1 r : List Int} (h : pack_Must.f k l0 l1 = some r) : pack_Fields.f k l0 l1 = some (r, 0) ∧ 0 < r.length := by
 obtain ⟨⟨b, e0⟩, h1, h2⟩ := Option.bind_eq_some_iff.1 h
 by_cases he : e0 = 0
 ·subst he
  by_cases hb : b.length = 0
  ·simp [hb] at h2
  ·obtain rfl : b = r := by simpa [hb] using h2
   exact ⟨h1, by omega⟩
 ·simp [he] at h2
theorem pack_Must.pos {k : Nat} {l0 l1 r : List Int} (h : pack_Must.f k l0 l1 = some r) : 0 < r.length := (pack_Must.of h).2
set_option maxHeartbeats 1000000 in
set_option maxRecDepth 100000 in
theorem pack_Must.calls (k : Nat) (A0 : Option Addr) (c0 : Nat) (l0 : List Int) (A1 : Option Addr) (c1 : Nat) (l1 : List Int) (r : List Int) (w : World) (hr0 : Kd.C (Kd.int .u64) w A0 l0.length l0) (hc0 : l0.length ≤ c0) (hr1 : Kd.C (Kd.int .i64) w A1 l1.length l1) (hc1 : l1.length ≤ c1) (h : pack_Must.f k l0 l1 = some r) :
  Calls Try.prog 18 #[.slice A0 l0.length c0, .slice A1 l1.length c1] w fun e w' => ∃ v0_ : Value, e = .returned (v0_) ∧ Kd.R (Kd.int .u8) 5 w' w.heap.size (fun _ => True) v0_ r ∧ Below w.heap.size w w' := by
 have H1 := Aside0.mk (pack_Must.of h).1
 have HR0 := Aside0.mk hr0
 have HC0 := Aside0.mk hc0
 have HR1 := Aside0.mk hr1
 have HC1 := Aside0.mk hc1
 clear h hr0 hc0 hr1 hc1
 go_enter Try.func18, Try.ntmps18
 go_wp2_with (go_at_call 27; refine (pack_Fields.calls k _ _ l0 _ _ l1 r 0 w HR0.out HC0.out HR1.out HC1.out H1.out).mono ?_; rintro e w1 ⟨v, rfl, ho, hb⟩; have HO := Aside0.mk ho; have HB := Aside0.mk hb; clear ho hb)
 go_ret
 exact ⟨_, rfl, HO.out, HB.out⟩

/-! ### line_sizes: function 19 -/
def line_sizes.f  : Option (List Int) := some (([4, 4, 1, 1, 7, 7, 7, 7, 1] : List Int))
set_option maxHeartbeats 8000000 in
set_option maxRecDepth 100000 in
theorem line_sizes.calls  (r : List Int) (w : World) (h : line_sizes.f  = some r) :
  Calls Try.prog 19 #[] w fun e w' => ∃ v0_ : Value, e = .returned (v0_) ∧ Kd.R (Kd.int .i64) 3 w' w.heap.size (fun _ => True) v0_ r ∧ Below w.heap.size w w' := by
 have HB := Aside0.mk (Below.refl w.heap.size w)
 have H : (some (([4, 4, 1, 1, 7, 7, 7, 7, 1] : List Int))) = some r := h
 clear h
 obtain ⟨y113, hy113⟩ : ∃ y_ : List Int, y_ = (([4, 4, 1, 1, 7, 7, 7, 7, 1] : List Int)) := ⟨_, rfl⟩
 replace H : (some y113) = some r := by first | (rw [hy113]; with_reducible exact H) | (have H2_ := (Option.bind_some _ _).symm.trans H; rw [hy113]; with_reducible exact H2_) | (have H2_ := (Option.bind_some _ _).symm.trans H; with_reducible exact H2_) | with_reducible exact H | (rw [hy113]; exact H) | exact H
 have Ny113 := Aside0.mk hy113
 clear hy113
 obtain rfl := Option.some.inj H
 go_enter Try.func19, Try.ntmps19
 go_wp2_with (first | ((with_reducible refine gate_dst (N := 1) rfl ?_); refine Kd.R_lit (Kd.int .i64) _ 3 ?hg (N := 1) ?hd (xs := ([4, 4, 1, 1, 7, 7, 7, 7, 1] : List Int)) (inner := [.int .i64 4, .int .i64 4, .int .i64 1, .int .i64 1, .int .i64 7, .int .i64 7, .int .i64 7, .int .i64 7, .int .i64 1]) (ok := fun _ => True) (okp := fun _ => True) ?hr ?hp (fun _ hk => hk) trivial (Below.refl _ _) (Nat.le_refl _) (by simp) ?_; (case hd => rfl); (case hg => rfl); (case hr => first | (go_simp; done) | (go_simp; rfl)); (case hp => exact (Reps.one (show Kd.M (Kd.int .i64) _ _ _ 4 [.int .i64 4] from rfl) (Reps.one (show Kd.M (Kd.int .i64) _ _ _ 4 [.int .i64 4] from rfl) (Reps.one (show Kd.M (Kd.int .i64) _ _ _ 1 [.int .i64 1] from rfl) (Reps.one (show Kd.M (Kd.int .i64) _ _ _ 1 [.int .i64 1] from rfl) (Reps.one (show Kd.M (Kd.int .i64) _ _ _ 7 [.int .i64 7] from rfl) (Reps.one (show Kd.M (Kd.int .i64) _ _ _ 7 [.int .i64 7] from rfl) (Reps.one (show Kd.M (Kd.int .i64) _ _ _ 7 [.int .i64 7] from rfl) (Reps.one (show Kd.M (Kd.int .i64) _ _ _ 7 [.int .i64 7] from rfl) (Reps.one (show Kd.M (Kd.int .i64) _ _ _ 1 [.int .i64 1] from rfl) (Reps.none _ _))))))))))); intro v114 w1 ho2 hb hg_ hnew_; clear hg_ hnew_; (first | rw [← Ny113.out] at ho2 | (simp only [Int.reduceToNat] at ho2; rw [← Ny113.out] at ho2)); have n0_ := Aside0.mk (Kd.R_lower ho2 (below_size (by repeat (first | (with_reducible first | exact HB.out | apply below_alloc | apply pw_below_drewN | apply below_drew1) | exact HB.out)))); have n1_ := Aside0.mk (below_step (by repeat (first | (with_reducible first | exact HB.out | apply below_alloc | apply pw_below_drewN | apply below_drew1) | exact HB.out)) hb); clear HB; have HO115 := n0_; have HB := n1_; clear n0_ n1_; clear hb ho2))
 go_ret
 exact ⟨_, by first | rfl | (simp [errW_none, errW_some] <;> rfl) | (simp [*, errW_none, errW_some] <;> rfl), by (with_reducible repeat (first | apply Kd.R_alloc | apply Kd.R_drewN | apply Kd.R_drew)); exact HO115.out, by repeat (first | (with_reducible first | exact HB.out | apply below_alloc | apply pw_below_drewN | apply below_drew1) | exact HB.out)⟩

/-! ### crc_step: function 35 -/
def crc_step.f (a0 : Int) : Option (Int) := if (Go.bits .and .u32 a0 1) = 1 then (some (Go.bits .xor .u32 (a0 / 2) 3988292384)) else (some (a0 / 2))
set_option maxHeartbeats 8000000 in
set_option maxRecDepth 100000 in
theorem crc_step.calls (a0 : Int) (r : Int) (w : World) (h : crc_step.f a0 = some r) :
  Calls Try.prog 35 #[.int .u32 a0] w fun e w' => e = .returned (.int .u32 r) ∧ Drawn0 w w' := by
 have H : (if (Go.bits .and .u32 a0 1) = 1 then (some (Go.bits .xor .u32 (a0 / 2) 3988292384)) else (some (a0 / 2))) = some r := h
 clear h
 by_cases c2 : (Go.bits .and .u32 a0 1) = 1
 ·rw [if_pos c2] at H
  have c2b0 : ((Go.bits .and .u32 a0 1) == 1) = true := beq_iff_eq.mpr c2
  have c2b1 : ((Go.bits .and .u32 a0 1) != 1) = false := bne_eq_false_iff_eq.mpr c2
  clear c2
  obtain rfl := Option.some.inj H
  go_enter Try.func35, Try.ntmps35
  go_wp2
  go_ret
  exact ⟨by first | rfl | (simp; done) | (simp [*]; done), by repeat (first | exact Drawn0.refl _ | apply Drawn0.step)⟩
 ·rw [if_neg c2] at H
  have c2b0 : ((Go.bits .and .u32 a0 1) == 1) = false := beq_eq_false_iff_ne.mpr c2
  have c2b1 : ((Go.bits .and .u32 a0 1) != 1) = true := bne_iff_ne.mpr c2
  obtain rfl := Option.some.inj H
  go_enter Try.func35, Try.ntmps35
  go_wp2
  go_ret
  exact ⟨by first | rfl | (simp; done) | (simp [*]; done), by repeat (first | exact Drawn0.refl _ | apply Drawn0.step)⟩

/-! ### crc_rows: function 34 -/
section
variable {P : Program} {ops : Array Oper} {rest : List Oper} {o : Oper} {a : Act} {Q : Exit → Act → World → Prop} {w w' : World}
theorem wpList_value {v : Value} (hg : o.guard = none) (hr : (execOp a.eval o).run P w = .ok (.value v) w') (h : wpList P ops Q rest (a.put o.dst v) w') : wpList P ops Q (o :: rest) a w := by
 refine wpList_plain hg fun K hK => ?_
 unfold Oper.wp
 rw [hr]
 exact hK _ _ h
theorem wpList_build (t : TypeId) (hg : o.guard = none) (ho : o.op = .build t #[]) (cells : Array Value) (hb : P.built t [] = some cells) (h : wpList P ops Q rest (a.put o.dst (.agg cells)) w) : wpList P ops Q (o :: rest) a w := by
 refine wpList_value hg ?_ h
 unfold execOp
 simp only [ho, List.map_toArray, List.map_nil, Sem.run_bind]
 rw [run_build w t _ cells (by simpa using hb)]
 rfl
theorem wpList_box (t : TypeId) (x : Operand) (cells : Array Value) (hg : o.guard = none) (ho : o.op = .box t x) (hx : a.eval x = .agg cells) (h : wpList P ops Q rest (a.put o.dst (.pointer (some ⟨w.heap.size, 0, none⟩))) (w.alloc (.cells cells t))) : wpList P ops Q (o :: rest) a w := by
 refine wpList_value hg ?_ h
 unfold execOp
 simp only [ho, hx, Sem.run_bind]
 simp [Instr.box, newVar, go_sem]
end

/-- An array of n whole numbers 0. -/
def zArr (k : IntKind) (n : Nat) : Array Value := (List.replicate n (Value.int k 0)).toArray
theorem built46 : Try.prog.built 69 [] = some (zArr .u32 256) := by kernel_rfl

def stepI (r : Int) : Int := if Go.bits .and .u32 r 1 = 1 then Go.bits .xor .u32 (r / 2) 3988292384 else r / 2
theorem stepI_eq (r : Int) : crc_step.f r = some (stepI r) := by unfold crc_step.f stepI; split <;> rfl
def iterI : Nat → Int → Int
 | 0, r => r
 | n + 1, r => stepI (iterI n r)
def tabT (j : Nat) : Int := iterI 8 (j : Int)
/-- Block b holds n whole numbers of which the first k are told by T. -/
structure Tab (T : Nat → Int) (t b n k : Nat) (wr : World) : Prop where mk ::
 (out : ∃ cs : Array Value, wr.heap[b]? = some (.cells cs t (0, 0)) ∧ cs.size = n ∧ (∀ j, j < n → ∃ x, cs[j]? = some (.int .u32 x)) ∧ ∀ j, j < k → cs[j]? = some (.int .u32 (T j)))
theorem Tab.start (T : Nat → Int) (t n : Nat) (w : World) : Tab T t w.heap.size n 0 (w.alloc (.cells (zArr .u32 n) t)) :=
 ⟨zArr .u32 n, heap_alloc_new w _, by simp [zArr], fun j hj => ⟨0, by simp [zArr, hj]⟩, fun j hj => by omega⟩
theorem Tab.lt {T : Nat → Int} {t b n k : Nat} {wr : World} (h : Tab T t b n k wr) : b < wr.heap.size := by
 obtain ⟨cs, h1, _⟩ := h.out
 exact (Array.getElem?_eq_some_iff.1 h1).1
theorem Tab.cell {T : Nat → Int} {t b n k : Nat} {wr : World} (h : Tab T t b n k wr) (j : Nat) (hj : j < n) : ∃ x, wr.cell? ⟨b, j, none⟩ = some (.int .u32 x) := by
 obtain ⟨cs, h1, _, h2, _⟩ := h.out
 obtain ⟨x, hx⟩ := h2 j hj
 exact ⟨x, by simp [World.cell?, h1, hx]⟩
theorem Tab.at_ {T : Nat → Int} {t b n k : Nat} {wr : World} (h : Tab T t b n k wr) (j : Nat) (hj : j < k) : wr.cell? ⟨b, j, none⟩ = some (.int .u32 (T j)) := by
 obtain ⟨cs, h1, _, _, h2⟩ := h.out
 simp [World.cell?, h1, h2 j hj]
theorem Tab.free {T : Nat → Int} {t b n k : Nat} {wr : World} (h : Tab T t b n k wr) (j : Nat) : wr.frozen? ⟨b, j, none⟩ = false := by
 obtain ⟨cs, h1, _⟩ := h.out
 simp [World.frozen?, h1]
theorem Tab.drewN {T : Nat → Int} {t b n k : Nat} {wr : World} (h : Tab T t b n k wr) (m : Nat) : Tab T t b n k (wr.drewN m) := ⟨h.out⟩
theorem Tab.below {T : Nat → Int} {t b n k B : Nat} {wr w' : World} (h : Tab T t b n k wr) (hb : Below B wr w') (hB : b < B) : Tab T t b n k w' := by
 obtain ⟨cs, h1, h2⟩ := h.out
 exact ⟨cs, by rw [hb.block b hB]; exact h1, h2⟩
theorem Tab.store {T : Nat → Int} {t b n k : Nat} {wr : World} (h : Tab T t b n k wr) (hk : k < n) : Tab T t b n (k + 1) (wr.setCell ⟨b, k, none⟩ (.int .u32 (T k))) := by
 obtain ⟨cs, h1, h2, h3, h4⟩ := h.out
 refine ⟨cs.setIfInBounds k (.int .u32 (T k)), ?_, by simpa using h2, fun j hj => ?_, fun j hj => ?_⟩
 ·simp [World.setCell, Array.getElem?_modify, h1]
 ·by_cases e : k = j
  ·subst e; exact ⟨T k, by simp [Array.getElem?_setIfInBounds, h2, hk]⟩
  ·obtain ⟨x, hx⟩ := h3 j hj
   exact ⟨x, by simp [Array.getElem?_setIfInBounds, e, hx]⟩
 ·by_cases e : k = j
  ·subst e; simp [Array.getElem?_setIfInBounds, h2, hk]
  ·simp [Array.getElem?_setIfInBounds, e, h4 j (by omega)]

set_option maxHeartbeats 1000000 in
set_option maxRecDepth 100000 in
theorem crc_rows.calls (w : World) : Calls Try.prog 34 #[] w fun e w' => e = .returned (.pointer (some ⟨w.heap.size, 0, none⟩)) ∧ Below w.heap.size w w' ∧ Tab tabT 69 w.heap.size 256 256 w' := by
 have H0 := Tab.start tabT 69 256 w
 have HB0 := Aside0.mk ((Below.refl w.heap.size w).alloc (Nat.le_refl _) (.cells (zArr .u32 256) 69))
 go_enter Try.func34, Try.ntmps34
 go_wp2_with (first | ((with_reducible refine gate_dst (N := 4) rfl ?_); refine wpList_build 69 rfl rfl (zArr .u32 256) built46 ?_) | ((with_reducible refine gate_dst (N := 5) rfl ?_); refine wpList_box 69 (.tmp 4) (zArr .u32 256) rfl rfl rfl ?_))
 go_loopw [6] (fun i wr => ∃ k : Nat, k ≤ 256 ∧ i = .int .i64 k ∧ Aside0 (Below w.heap.size w wr) ∧ Tab tabT 69 w.heap.size 256 k wr) (fun i _ => 256 - (intOf i).toNat)
 case atStart => exact ⟨0, by omega, rfl, HB0, H0⟩
 case round =>
  obtain ⟨k, hk, rfl, HB, HT⟩ := hrel
  clear H0 HB0
  by_cases hlt : k < 256
  ·have hlb : decide ((k : Int) < 256) = true := by simp; omega
   go_wp2_with fail
   obtain ⟨wo, rfl⟩ : ∃ wo : World, wo = wr := ⟨_, rfl⟩
   go_loopw [3, 11] (fun r i wq => ∃ m : Nat, m ≤ 8 ∧ i = .int .i64 m ∧ r = .int .u32 (iterI m (k : Int)) ∧ Aside0 (Below w.heap.size w wq) ∧ Tab tabT 69 w.heap.size 256 k wq) (fun _ i _ => 8 - (intOf i).toNat)
   case atStart => exact ⟨0, by omega, rfl, rfl, HB, HT⟩
   case round =>
    obtain ⟨m, hm, rfl, rfl, HB, HT⟩ := hrel
    by_cases hlm : m < 8
    ·go_wp2_with (go_at_call 35; refine (crc_step.calls _ (stepI (iterI m (k : Int))) _ (stepI_eq _)).mono ?_; rintro e w' ⟨rfl, ⟨nd, rfl⟩⟩)
     go_roundw
     case rel =>
      exact ⟨m + 1, by omega, by go_num, rfl, ⟨pw_below_drewN HB.out nd⟩, HT.drewN nd⟩
     case measure => simp [intOf]; omega
    ·obtain rfl : m = 8 := by omega
     obtain ⟨x0, hx0⟩ := HT.cell k hlt
     have hf0 := HT.free k
     have HS := HT.store hlt
     go_wp2_with fail
     go_roundw
     case rel => exact ⟨k + 1, by omega, by go_num, ⟨HB.out.setCell (Nat.le_refl _) _⟩, HS⟩
     case measure => simp [intOf]; omega
  ·go_wp2_with fail
   go_ret
   obtain rfl : k = 256 := by omega
   exact ⟨rfl, HB.out, HT⟩


/-! ### crc_More: function 28 -/
def moreStep (r x : Int) : Int := Go.bits .xor .u32 (r / 256) (tabT (Go.bits .xor .u8 (r % 256) x).toNat)
def crc_More.f (a0 : Int) (l1 : List Int) : Option Int := some (Go.bits .xor .u32 IntKind.u32.max (l1.foldl moreStep (Go.bits .xor .u32 IntKind.u32.max a0)))
theorem foldl_take (f : Int → Int → Int) (a : Int) (l : List Int) (k : Nat) (h : k < l.length) : (l.take (k + 1)).foldl f a = f ((l.take k).foldl f a) (rd l (k : Int)) := by
 rw [List.take_succ_eq_append_getElem h, List.foldl_append]
 simp [rd, List.getD_eq_getElem?_getD, List.getElem?_eq_getElem h]
theorem u8_range (a b : Int) : 0 ≤ Go.bits .xor .u8 a b ∧ Go.bits .xor .u8 a b < 256 := by
 unfold Go.bits
 split <;> (rw [IntKind.wrap_u8]; omega)
set_option maxHeartbeats 1000000 in
set_option maxRecDepth 100000 in
theorem crc_More.calls (a0 : Int) (A1 : Option Addr) (c1 : Nat) (l1 : List Int) (r : Int) (w : World) (hr1 : Kd.C (Kd.int .u8) w A1 l1.length l1) (hc1 : l1.length ≤ c1) (h : crc_More.f a0 l1 = some r) :
  Calls Try.prog 28 #[.int .u32 a0, .slice A1 l1.length c1] w fun e w' => e = .returned (.int .u32 r) ∧ Below w.heap.size w w' := by
 have HR1 := Aside0.mk hr1
 have HL := hr1.2.1
 clear hr1 hc1
 have h' : Go.bits .xor .u32 IntKind.u32.max (l1.foldl moreStep (Go.bits .xor .u32 IntKind.u32.max a0)) = r := Option.some.inj h
 have H := Aside0.mk h'
 clear h h'
 go_enter Try.func28, Try.ntmps28
 go_wp2_with (go_at_call 34; refine (crc_rows.calls _).mono ?_; rintro e w1 ⟨rfl, hb, HT⟩)
 go_loopw [6, 14] (fun r i wr => ∃ k : Nat, k ≤ l1.length ∧ i = .int .i64 k ∧ r = .int .u32 ((l1.take k).foldl moreStep (Go.bits .xor .u32 IntKind.u32.max a0)) ∧ Aside0 (Below w.heap.size w wr) ∧ Tab tabT 69 w.heap.size 256 256 wr) (fun _ i _ => l1.length - (intOf i).toNat)
 case atStart => exact ⟨0, by omega, rfl, rfl, ⟨hb⟩, HT⟩
 case round =>
  obtain ⟨k, hk, rfl, rfl, HB, HT⟩ := hrel
  clear hb
  by_cases hlt : k < l1.length
  ·have hlb : decide ((k : Int) < (l1.length : Int)) = true := by simp; omega
   obtain ⟨ad, rfl, hx⟩ := Kd.at_int HR1.out (k : Int) (by omega) (by omega)
   replace hx := (HB.out.cell (World.block_lt_of_cell? w _ hx)).trans hx
   rw [Int.toNat_natCast] at hx
   have HF := Aside0.mk (foldl_take moreStep (Go.bits .xor .u32 IntKind.u32.max a0) l1 k hlt)
   generalize (l1.take k).foldl moreStep (Go.bits .xor .u32 IntKind.u32.max a0) = s at *
   obtain ⟨hq0, hq1⟩ := u8_range (s % 256) (rd l1 (k : Int))
   have HQ : Aside0 (moreStep s (rd l1 (k : Int)) = Go.bits .xor .u32 (s / 256) (tabT (Go.bits .xor .u8 (s % 256) (rd l1 (k : Int))).toNat)) := Aside0.mk rfl
   obtain ⟨q, hq⟩ := Int.eq_ofNat_of_zero_le hq0
   rw [hq] at HQ hq1
   clear hq0
   have hc := HT.at_ q (by omega)
   go_wp2_with fail
   go_roundw
   case rel => exact ⟨k + 1, by omega, by go_num, by rw [HF.out, HQ.out]; rfl, HB, HT⟩
   case measure => simp [intOf]; omega
  ·go_wp2_with fail
   go_ret
   obtain rfl : k = l1.length := by omega
   exact ⟨congrArg (fun z => Ending.returned (.int .u32 z)) (by rw [List.take_length]; exact H.out), HB.out⟩


/-! ### crc_Sum: function 20 -/
def crc_Sum.f (l0 : List Int) : Option (Int) := (crc_More.f 0 l0).bind fun t116 => (some t116)
set_option maxHeartbeats 8000000 in
set_option maxRecDepth 100000 in
theorem crc_Sum.calls (A0 : Option Addr) (c0 : Nat) (l0 : List Int) (r : Int) (w : World) (hr0 : Kd.C (Kd.int .u8) w A0 l0.length l0) (hc0 : l0.length ≤ c0) (h : crc_Sum.f l0 = some r) :
  Calls Try.prog 20 #[.slice A0 l0.length c0] w fun e w' => e = .returned (.int .u32 r) ∧ Below w.heap.size w w' := by
 have HR0 := Aside0.mk hr0
 have HC0 := Aside0.mk hc0
 clear hr0 hc0
 have HB := Aside0.mk (Below.refl w.heap.size w)
 have H : ((crc_More.f 0 l0).bind fun t116 => (some t116)) = some r := h
 clear h
 replace H := Option.bind_eq_some_iff.mp H
 obtain ⟨t116, A20, H⟩ := H
 replace H : (some t116) = some r := H
 have A2 := Aside0.mk A20
 clear A20
 obtain rfl := Option.some.inj H
 go_enter Try.func20, Try.ntmps20
 go_wp2_with (first | ((with_reducible refine gate_callee (f := 28) rfl ?_); refine goesL_ (some 4) rfl rfl Try.func28 (by kernel_rfl) rfl #[.int .u32 0, .slice A0 l0.length c0] rfl (by (try simp only [List.map_toArray, List.map_cons, List.map_nil]); first | done | rfl | (simp only [List.length_drop, List.length_take]; rfl)) ?_; (with_reducible refine (crc_More.calls 0 _ _ l0 t116 _ ?side1 ?side2 A2.out).mono ?_); (case side1 => repeat (first | exact HR0.out | (with_reducible refine Kd.C_alloc ?_ _) | (with_reducible refine Kd.C_drewN ?_ _) | (with_reducible refine Kd.C_drew ?_))); (case side2 => exact HC0.out); rintro e w3 ⟨rfl, hb⟩; refine ⟨_, rfl, ?_⟩; have n0_ := Aside0.mk (below_step (by repeat (first | (with_reducible first | exact HB.out | apply below_alloc | apply pw_below_drewN | apply below_drew1) | exact HB.out)) hb); clear HB; have HB := n0_; clear n0_; (try clear hb); (try clear hb2); (try clear hk); (try clear hi)))
 go_ret
 exact ⟨by first | rfl | (simp [errW_none, errW_some] <;> rfl) | (simp [*, errW_none, errW_some] <;> rfl), by repeat (first | (with_reducible first | exact HB.out | apply below_alloc | apply pw_below_drewN | apply below_drew1) | exact HB.out)⟩

end Go.Proofs.Ytjfdjbmahahllaa.QLine
