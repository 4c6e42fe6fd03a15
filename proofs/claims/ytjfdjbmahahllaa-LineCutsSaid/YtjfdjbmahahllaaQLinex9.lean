/- Written by a program of this session (wip/tools/mk.py) out of the kit's printing programs and of texts of our own: the contracts of the Go functions that the law goes through, and the row of the law. No condition is added. -/
import Derived.Test.YtjfdjbmahahllaaQLinex0
import Derived.Test.YtjfdjbmahahllaaQLinex4
import Derived.Test.YtjfdjbmahahllaaQLinex8
/- tight -/
namespace Go.Proofs.Ytjfdjbmahahllaa.QLine
open Go.RowKit Go.Proofs.YtjfdjbmahahllaaW.PrintWords Go.Proofs.YtjfdjbmahahllaaW.PrintLast Go.Proofs.YtjfdjbmahahllaaW.PrintMore
attribute [local go_sem] max2_int min2_int max_two min_two max_three min_three max_four min_four   -- for this text's walks alone
set_option linter.unusedVariables false
set_option linter.unusedSimpArgs false

attribute [local go_sem] min_seven
/-! ### line_Replay: function 16 -/
mutual
def line_Replay.l0 : Nat → Int → List (List (S23)) → List (S23) → List (List Int) → Int → Int → Option ((List (List (S23))))
 | 0, _, _, _, _, _, _ => none
 | k + 1, x1, x5, x6, x11, x12, x13 => if x13 < x12 then (if 0 ≤ x13 then (if x13 < (x11.length : Int) then ((line_Decode.f k (rd_L3 x11 x13)).bind fun bt251 => (if bt251.2.2.2.2.2.2.2.2.2 = 0 then (if bt251.1 = x1 then (line_Replay.j1 k x1 x5 x6 x11 x12 x13 (bt251.2.1 != x13) bt251.1 bt251.2.1 bt251.2.2.1 bt251.2.2.2.1 bt251.2.2.2.2.1 bt251.2.2.2.2.2.1 bt251.2.2.2.2.2.2.1 bt251.2.2.2.2.2.2.2.1 bt251.2.2.2.2.2.2.2.2.1) else (line_Replay.j1 k x1 x5 x6 x11 x12 x13 true bt251.1 bt251.2.1 bt251.2.2.1 bt251.2.2.2.1 bt251.2.2.2.2.1 bt251.2.2.2.2.2.1 bt251.2.2.2.2.2.2.1 bt251.2.2.2.2.2.2.2.1 bt251.2.2.2.2.2.2.2.2.1)) else (line_Replay.j1 k x1 x5 x6 x11 x12 x13 true bt251.1 bt251.2.1 bt251.2.2.1 bt251.2.2.2.1 bt251.2.2.2.2.1 bt251.2.2.2.2.2.1 bt251.2.2.2.2.2.2.1 bt251.2.2.2.2.2.2.2.1 bt251.2.2.2.2.2.2.2.2.1))) else (none)) else (none)) else (some x5)
def line_Replay.j1 : Nat → Int → List (List (S23)) → List (S23) → List (List Int) → Int → Int → Bool → Int → Int → Bool → Int → Int → Int → Int → Int → ByteArray → Option ((List (List (S23))))
 | 0, _, _, _, _, _, _, _, _, _, _, _, _, _, _, _, _ => none
 | k + 1, x1, x5, x6, x11, x12, x13, x36, x262000, x262001, x262002, x262003, x262004, x262005, x262006, x262007, x262008 => if x36 = true then (some x5) else (if x6.length < 2513169434916 then ((some (x6 ++ [(⟨x262003, x262004, x262005, x262006, x262007, x262008⟩ : S23)] : List (S23))).bind fun y262 => (if x262002 = true then (if x5.length < 5864062014805 then (line_Replay.l0 k x1 (x5 ++ [y262]) ([] : List (S23)) x11 x12 (wrap64 (x13 + 1))) else (none)) else (line_Replay.l0 k x1 x5 y262 x11 x12 (wrap64 (x13 + 1))))) else (none))
end
def line_Replay.f (k : Nat) (l0 : List (List Int)) (a1 : Int) : Option ((List (List (S23)))) := line_Replay.l0 k a1 ([] : List (List (S23))) ([] : List (S23)) l0 (l0.length : Int) 0
theorem line_Replay.mono_l : ∀ k, (∀ y0 y1 y2 y3 y4 y5, LeO (line_Replay.l0 k y0 y1 y2 y3 y4 y5) (line_Replay.l0 (k + 1) y0 y1 y2 y3 y4 y5)) ∧ (∀ y0 y1 y2 y3 y4 y5 y6 y7 y8 y9 y10 y11 y12 y13 y14 y15, LeO (line_Replay.j1 k y0 y1 y2 y3 y4 y5 y6 y7 y8 y9 y10 y11 y12 y13 y14 y15) (line_Replay.j1 (k + 1) y0 y1 y2 y3 y4 y5 y6 y7 y8 y9 y10 y11 y12 y13 y14 y15))
 | 0 => ⟨fun _ _ _ _ _ _ r h => by simp [line_Replay.l0] at h, fun _ _ _ _ _ _ _ _ _ _ _ _ _ _ _ _ r h => by simp [line_Replay.j1] at h⟩
 | k + 1 => by
  obtain ⟨ih0, ih1⟩ := line_Replay.mono_l k
  refine ⟨?_, ?_⟩
  ·intro y0 y1 y2 y3 y4 y5
   unfold line_Replay.l0
   repeat' first
   | (with_reducible exact ih0 _ _ _ _ _ _)
   | (with_reducible exact ih1 _ _ _ _ _ _ _ _ _ _ _ _ _ _ _ _)
   | (with_reducible exact line_Decode.mono _ _)
   | (with_reducible exact LeO.refl _)
   | (with_reducible exact LeO.none _)
   | (with_reducible refine LeO.ite ?_ ?_)
   | (with_reducible refine LeO.bind ?_ (fun _ => ?_))
   | exact ih0 _ _ _ _ _ _
   | exact ih1 _ _ _ _ _ _ _ _ _ _ _ _ _ _ _ _
   | exact line_Decode.mono _ _
   | exact LeO.none _
   | refine LeO.ite ?_ ?_
   | refine LeO.bind ?_ (fun _ => ?_)
  ·intro y0 y1 y2 y3 y4 y5 y6 y7 y8 y9 y10 y11 y12 y13 y14 y15
   unfold line_Replay.j1
   repeat' first
   | (with_reducible exact ih0 _ _ _ _ _ _)
   | (with_reducible exact ih1 _ _ _ _ _ _ _ _ _ _ _ _ _ _ _ _)
   | (with_reducible exact line_Decode.mono _ _)
   | (with_reducible exact LeO.refl _)
   | (with_reducible exact LeO.none _)
   | (with_reducible refine LeO.ite ?_ ?_)
   | (with_reducible refine LeO.bind ?_ (fun _ => ?_))
   | exact ih0 _ _ _ _ _ _
   | exact ih1 _ _ _ _ _ _ _ _ _ _ _ _ _ _ _ _
   | exact line_Decode.mono _ _
   | exact LeO.none _
   | refine LeO.ite ?_ ?_
   | refine LeO.bind ?_ (fun _ => ?_)
theorem line_Replay.mono : ∀ a0 a1 k, LeO (line_Replay.f k a0 a1) (line_Replay.f (k + 1) a0 a1) := by
 intro a0 a1 k
 obtain ⟨ih0, ih1⟩ := line_Replay.mono_l k
 unfold line_Replay.f
 repeat' first
   | (with_reducible exact ih0 _ _ _ _ _ _)
   | (with_reducible exact ih1 _ _ _ _ _ _ _ _ _ _ _ _ _ _ _ _)
   | (with_reducible exact line_Decode.mono _ _)
   | (with_reducible exact LeO.refl _)
   | (with_reducible exact LeO.none _)
   | (with_reducible refine LeO.ite ?_ ?_)
   | (with_reducible refine LeO.bind ?_ (fun _ => ?_))
   | exact ih0 _ _ _ _ _ _
   | exact ih1 _ _ _ _ _ _ _ _ _ _ _ _ _ _ _ _
   | exact line_Decode.mono _ _
   | exact LeO.none _
   | refine LeO.ite ?_ ?_
   | refine LeO.bind ?_ (fun _ => ?_)
set_option maxHeartbeats 8000000 in
set_option maxRecDepth 100000 in
theorem line_Replay.calls (k : Nat) (A0 : Option Addr) (c0 : Nat) (l0 : List (List Int)) (a1 : Int) (r : List (List (S23))) (w : World) (hr0 : Kd.C (Kd.slice 5 (Kd.int .u8)) w A0 l0.length l0) (hc0 : l0.length ≤ c0) (h : line_Replay.f k l0 a1 = some r) :
  Calls Try.prog 16 #[.slice A0 l0.length c0, .int .i64 a1] w fun e w' => ∃ v0_ : Value, e = .returned (v0_) ∧ Kd.S (Kd.slice 23 k23) 45 w' w.heap.size (fun _ => True) v0_ r ∧ Below w.heap.size w w' := by
 have hu25 := Try.underlying25
 have hu23 := Try.underlying23
 have HR0 := Aside0.mk hr0
 have HC0 := Aside0.mk hc0
 clear hr0 hc0
 have HB := Aside0.mk (Below.refl w.heap.size w)
 have H : (line_Replay.l0 k a1 ([] : List (List (S23))) ([] : List (S23)) l0 (l0.length : Int) 0) = some r := h
 clear h
 have H' := Aside0.mk H
 clear H
 go_enter Try.func16, Try.ntmps16
 go_wp2
 go_loopg [5, 6, 13] k (fun kq v5 v6 v13 w' => ∃ (x5_1 : List (List (S23))) (x6_1 : List (S23)) (x13_1 : Int), v13 = .int .i64 x13_1 ∧ Aside0 (line_Replay.l0 kq a1 x5_1 x6_1 l0 (l0.length : Int) x13_1 = some r) ∧ Aside0 (kq ≤ k) ∧ Aside0 (Kd.S (Kd.slice 23 k23) 45 w' w.heap.size (fun k_ => some k_ ≠ (v6 : Value).ownBlock) v5 x5_1) ∧ Aside0 (Kd.R k23 23 w' w.heap.size (fun _ => True) v6 x6_1) ∧ Aside0 (Below w.heap.size w w'))
 case atStart => exact ⟨(([] : List (List (S23)))), (([] : List (S23))), (0), (by first | rfl | (simp; done) | (simp [*]; done)), H', ⟨Nat.le_refl _⟩, ⟨by first | exact Kd.S_nil _ _ _ _ _ | exact Kd.N_nil _ _ _ _ _ | exact Kd.V_nil _ _ _ _ _ | exact Kd.Q_nil _ _ _ _ _ | exact Kd.R_nil _ _ _ _ _⟩, ⟨by first | exact Kd.R_nil _ _ _ _ _ | exact Kd.N_nil _ _ _ _ _ | exact Kd.V_nil _ _ _ _ _ | exact Kd.Q_nil _ _ _ _ _ | exact Kd.S_nil _ _ _ _ _⟩, ⟨by repeat (first | (with_reducible first | exact HB.out | apply below_alloc | apply pw_below_drewN | apply below_drew1) | exact HB.out)⟩⟩
 case round =>
  clear H'
  try clear c1
  try clear p2
  obtain ⟨x5_1, x6_1, x13_1, rfl, HA, HK1, HO_5, HO_6, HB⟩ := hrel
  cases gk with
  | zero => exact absurd HA.out (by simp [line_Replay.l0])
  | succ k1 =>
   have H := HA.out
   clear HA
   simp only [line_Replay.l0] at H
   by_cases c3 : x13_1 < (l0.length : Int)
   ·rw [if_pos c3] at H
    have c3b0 : decide (x13_1 < (l0.length : Int)) = true := decide_eq_true c3
    clear c3
    by_cases c4 : 0 ≤ x13_1
    ·rw [if_pos c4] at H
     have c4b0 : decide (0 ≤ x13_1) = true := decide_eq_true c4
     clear c4
     by_cases c5 : x13_1 < (l0.length : Int)
     ·rw [if_pos c5] at H
      have c5b0 : decide (x13_1 < (l0.length : Int)) = true := decide_eq_true c5
      clear c5
      replace H := Option.bind_eq_some_iff.mp H
      obtain ⟨⟨t251, t252, t253, t254, t255, t256, t257, t258, t259, t260⟩, A60, H⟩ := H
      replace H : (if t260 = 0 then (if t251 = a1 then (line_Replay.j1 k1 a1 x5_1 x6_1 l0 (l0.length : Int) x13_1 (t252 != x13_1) t251 t252 t253 t254 t255 t256 t257 t258 t259) else (line_Replay.j1 k1 a1 x5_1 x6_1 l0 (l0.length : Int) x13_1 true t251 t252 t253 t254 t255 t256 t257 t258 t259)) else (line_Replay.j1 k1 a1 x5_1 x6_1 l0 (l0.length : Int) x13_1 true t251 t252 t253 t254 t255 t256 t257 t258 t259)) = some r := H
      have A6 := Aside0.mk A60
      clear A60
      have HC7 := Aside0.mk H
      clear H
      have p250 : 0 ≤ (x13_1 : Int) := of_decide_eq_true (by first | (with_reducible assumption) | assumption)
      have q250 : x13_1 < (l0.length : Int) := of_decide_eq_true (by first | (with_reducible assumption) | assumption)
      obtain ⟨ad250, A250_0, c250_0, e250, hx250_0, hl250_0, hi250_0⟩ := at_L3 HR0.out x13_1 p250 q250
      cases e250
      replace hx250_0 := (HB.out.cell (World.block_lt_of_cell? w _ hx250_0)).trans hx250_0
      have HR250_0 := Aside0.mk hi250_0
      have HC250_0 := Aside0.mk hl250_0
      clear hi250_0 hl250_0
      replace p250 := eq_true p250
      replace q250 := eq_true q250
      go_upto_region 7 with (first | ((with_reducible refine gate_callee (f := 13) rfl ?_); refine goesL_ (some 20) rfl rfl Try.func13 (by kernel_rfl) rfl #[.slice A250_0 (rd_L3 l0 x13_1).length c250_0] rfl (by (try simp only [List.map_toArray, List.map_cons, List.map_nil]); first | done | rfl | (simp only [List.length_drop, List.length_take]; rfl)) ?_; (with_reducible refine (line_Decode.calls k1 _ _ (rd_L3 l0 x13_1) t251 t252 t253 t254 t255 t256 t257 t258 t259 t260 _ ?side1 ?side2 A6.out).mono ?_); (case side1 => repeat (first | exact (Kd.C_below HR250_0.out HB.out) | (with_reducible refine Kd.C_alloc ?_ _) | (with_reducible refine Kd.C_drewN ?_ _) | (with_reducible refine Kd.C_drew ?_))); (case side2 => exact HC250_0.out); rintro e w8 ⟨rfl, hb⟩; refine ⟨_, rfl, ?_⟩; have n0_ := Aside0.mk (Kd.S_below (by (with_reducible repeat (first | apply Kd.S_alloc | apply Kd.S_drewN | apply Kd.S_drew)); exact HO_5.out) hb); have n1_ := Aside0.mk (Kd.R_below (by (with_reducible repeat (first | apply Kd.R_alloc | apply Kd.R_drewN | apply Kd.R_drew)); exact HO_6.out) hb); have n2_ := Aside0.mk (below_step (by repeat (first | (with_reducible first | exact HB.out | apply below_alloc | apply pw_below_drewN | apply below_drew1) | exact HB.out)) hb); clear HO_5; clear HO_6; clear HB; have HO_5 := n0_; have HO_6 := n1_; have HB := n2_; clear n0_ n1_ n2_; (try clear hb); (try clear hb2); (try clear hk); (try clear hi)) | ((with_reducible refine gate_dst (N := 9) rfl ?_); refine box_event ?hg (N := 9) ?hd (cs := #[.int .i64 0, .int .i64 0, .bool false, .int .i64 0, .int .i64 0, .int .i64 0, .int .i64 0, .int .i64 0, .string (⟨#[]⟩ : ByteArray)]) (t := 25) ?hr ?_; (case hd => rfl); (case hg => rfl); (case hr => first | (go_simp; done) | (go_simp; rfl)); intro gb261 hg w9 hbox hb; have n0_ := Aside0.mk (Kd.S_below (by (with_reducible repeat (first | apply Kd.S_alloc | apply Kd.S_drewN | apply Kd.S_drew)); exact HO_5.out) hb); have n1_ := Aside0.mk (Kd.R_below (by (with_reducible repeat (first | apply Kd.R_alloc | apply Kd.R_drewN | apply Kd.R_drew)); exact HO_6.out) hb); have n2_ := Aside0.mk (below_step (by repeat (first | (with_reducible first | exact HB.out | apply below_alloc | apply pw_below_drewN | apply below_drew1) | exact HB.out)) hb); have n3_ := Aside0.mk (hbox); have n4_ := Aside0.mk ((by rw [hg]; exact (below_size (by repeat (first | (with_reducible first | exact HB.out | apply below_alloc | apply pw_below_drewN | apply below_drew1) | exact HB.out))) : w.heap.size ≤ gb261)); have n5_ := Aside0.mk ((by rw [hg]; exact (below_size (by repeat (first | (with_reducible first | exact HB.out | apply below_alloc | apply pw_below_drewN | apply below_drew1) | exact HB.out))) : w.heap.size ≤ gb261)); clear HO_5; clear HO_6; clear HB; have HO_5 := n0_; have HO_6 := n1_; have HB := n2_; have BK261 := n3_; have GW261 := n4_; have GE261 := n5_; clear n0_ n1_ n2_ n3_ n4_ n5_; clear hb hbox hg; have hcz10_0 : w9.cell? ⟨gb261, 0, none⟩ = some (.int .i64 0) := (blk_cell BK261.out 0).trans rfl; have hcz10_1 : w9.cell? ⟨gb261, 1, none⟩ = some (.int .i64 0) := (blk_cell BK261.out 1).trans rfl; have hcz10_2 : w9.cell? ⟨gb261, 2, none⟩ = some (.bool false) := (blk_cell BK261.out 2).trans rfl; have hcz10_3 : w9.cell? ⟨gb261, 3, none⟩ = some (.int .i64 0) := (blk_cell BK261.out 3).trans rfl; have hcz10_4 : w9.cell? ⟨gb261, 4, none⟩ = some (.int .i64 0) := (blk_cell BK261.out 4).trans rfl; have hcz10_5 : w9.cell? ⟨gb261, 5, none⟩ = some (.int .i64 0) := (blk_cell BK261.out 5).trans rfl; have hcz10_6 : w9.cell? ⟨gb261, 6, none⟩ = some (.int .i64 0) := (blk_cell BK261.out 6).trans rfl; have hcz10_7 : w9.cell? ⟨gb261, 7, none⟩ = some (.int .i64 0) := (blk_cell BK261.out 7).trans rfl; have hcz10_8 : w9.cell? ⟨gb261, 8, none⟩ = some (.string (⟨#[]⟩ : ByteArray)) := (blk_cell BK261.out 8).trans rfl; have hfz10_0 := blk_frozen BK261.out 0; have hfz10_1 := blk_frozen BK261.out 1; have hfz10_2 := blk_frozen BK261.out 2; have hfz10_3 := blk_frozen BK261.out 3; have hfz10_4 := blk_frozen BK261.out 4; have hfz10_5 := blk_frozen BK261.out 5; have hfz10_6 := blk_frozen BK261.out 6; have hfz10_7 := blk_frozen BK261.out 7; have hfz10_8 := blk_frozen BK261.out 8))
      (try simp only [Act.put, List.setIfInBounds_toArray, List.set_cons_zero, List.set_cons_succ])
      go_cut [36] (fun v36 wc => ∃ (kq : Nat) (x36_6 : Bool), v36 = .bool x36_6 ∧ Aside0 (line_Replay.j1 kq a1 x5_1 x6_1 l0 (l0.length : Int) x13_1 x36_6 t251 t252 t253 t254 t255 t256 t257 t258 t259 = some r) ∧ Aside0 (kq ≤ k1) ∧ Aside0 (Kd.S (Kd.slice 23 k23) 45 wc w.heap.size (fun k_ => some k_ ≠ (u6 : Value).ownBlock) u5 x5_1) ∧ Aside0 (Kd.R k23 23 wc w.heap.size (fun _ => True) u6 x6_1) ∧ Aside0 (wc.heap[gb261]? = some (.cells #[.int .i64 t251, .int .i64 t252, .bool t253, .int .i64 t254, .int .i64 t255, .int .i64 t256, .int .i64 t257, .int .i64 t258, .string t259] 25 (0, 0))) ∧ Aside0 (Below w.heap.size w wc))
      case first =>
       have H := HC7.out
       clear HC7
       by_cases c11 : t260 = 0
       ·rw [if_pos c11] at H
        have c11b0 : (t260 == 0) = true := beq_iff_eq.mpr c11
        have c11b1 : (t260 != 0) = false := bne_eq_false_iff_eq.mpr c11
        clear c11
        (first | rw [c11b0] | (simp only [i64_w, i32_w]; rw [c11b0]) | rw [c11b1] | skip)
        by_cases c12 : t251 = a1
        ·rw [if_pos c12] at H
         have c12b0 : (t251 == a1) = true := beq_iff_eq.mpr c12
         have c12b1 : (t251 != a1) = false := bne_eq_false_iff_eq.mpr c12
         clear c12
         have H' := Aside0.mk H
         clear H
         have hcz13_0 : w9.cell? ⟨gb261, 0, none⟩ = some (.int .i64 0) := (blk_cell BK261.out 0).trans rfl
         have hcz13_1 : w9.cell? ⟨gb261, 1, none⟩ = some (.int .i64 0) := (blk_cell BK261.out 1).trans rfl
         have hcz13_2 : w9.cell? ⟨gb261, 2, none⟩ = some (.bool false) := (blk_cell BK261.out 2).trans rfl
         have hcz13_3 : w9.cell? ⟨gb261, 3, none⟩ = some (.int .i64 0) := (blk_cell BK261.out 3).trans rfl
         have hcz13_4 : w9.cell? ⟨gb261, 4, none⟩ = some (.int .i64 0) := (blk_cell BK261.out 4).trans rfl
         have hcz13_5 : w9.cell? ⟨gb261, 5, none⟩ = some (.int .i64 0) := (blk_cell BK261.out 5).trans rfl
         have hcz13_6 : w9.cell? ⟨gb261, 6, none⟩ = some (.int .i64 0) := (blk_cell BK261.out 6).trans rfl
         have hcz13_7 : w9.cell? ⟨gb261, 7, none⟩ = some (.int .i64 0) := (blk_cell BK261.out 7).trans rfl
         have hcz13_8 : w9.cell? ⟨gb261, 8, none⟩ = some (.string (⟨#[]⟩ : ByteArray)) := (blk_cell BK261.out 8).trans rfl
         have hfz13_0 := blk_frozen BK261.out 0
         have hfz13_1 := blk_frozen BK261.out 1
         have hfz13_2 := blk_frozen BK261.out 2
         have hfz13_3 := blk_frozen BK261.out 3
         have hfz13_4 := blk_frozen BK261.out 4
         have hfz13_5 := blk_frozen BK261.out 5
         have hfz13_6 := blk_frozen BK261.out 6
         have hfz13_7 := blk_frozen BK261.out 7
         have hfz13_8 := blk_frozen BK261.out 8
         go_wp2
         go_meet
         case rel => exact ⟨_, ((t252 != x13_1)), (by first | rfl | (simp; done) | (simp [*]; done)), H', ⟨by have := HK1.out; first | omega | exact Nat.le_refl _⟩, ⟨by (with_reducible repeat (first | apply Kd.S_alloc | apply Kd.S_drewN | apply Kd.S_drew)); exact Kd.S_mono (Kd.S_far (p := ⟨gb261, 8, none⟩) (Kd.S_far (p := ⟨gb261, 7, none⟩) (Kd.S_far (p := ⟨gb261, 6, none⟩) (Kd.S_far (p := ⟨gb261, 5, none⟩) (Kd.S_far (p := ⟨gb261, 4, none⟩) (Kd.S_far (p := ⟨gb261, 3, none⟩) (Kd.S_far (p := ⟨gb261, 2, none⟩) (Kd.S_far (p := ⟨gb261, 1, none⟩) (Kd.S_far (p := ⟨gb261, 0, none⟩) (Kd.S_types HO_5.out BK261.out (by decide)) (fun _ hk => hk.2) (.int .i64 t251)) (fun _ hk => hk.2) (.int .i64 t252)) (fun _ hk => hk.2) (.bool t253)) (fun _ hk => hk.2) (.int .i64 t254)) (fun _ hk => hk.2) (.int .i64 t255)) (fun _ hk => hk.2) (.int .i64 t256)) (fun _ hk => hk.2) (.int .i64 t257)) (fun _ hk => hk.2) (.int .i64 t258)) (fun _ hk => hk.2) (.string t259)) (fun _ hk => hk.1)⟩, ⟨by (with_reducible repeat (first | apply Kd.R_alloc | apply Kd.R_drewN | apply Kd.R_drew)); exact Kd.R_mono (Kd.R_far (p := ⟨gb261, 8, none⟩) (Kd.R_far (p := ⟨gb261, 7, none⟩) (Kd.R_far (p := ⟨gb261, 6, none⟩) (Kd.R_far (p := ⟨gb261, 5, none⟩) (Kd.R_far (p := ⟨gb261, 4, none⟩) (Kd.R_far (p := ⟨gb261, 3, none⟩) (Kd.R_far (p := ⟨gb261, 2, none⟩) (Kd.R_far (p := ⟨gb261, 1, none⟩) (Kd.R_far (p := ⟨gb261, 0, none⟩) (Kd.R_types HO_6.out BK261.out (by decide)) (fun _ hk => hk.2) (.int .i64 t251)) (fun _ hk => hk.2) (.int .i64 t252)) (fun _ hk => hk.2) (.bool t253)) (fun _ hk => hk.2) (.int .i64 t254)) (fun _ hk => hk.2) (.int .i64 t255)) (fun _ hk => hk.2) (.int .i64 t256)) (fun _ hk => hk.2) (.int .i64 t257)) (fun _ hk => hk.2) (.int .i64 t258)) (fun _ hk => hk.2) (.string t259)) (fun _ hk => trivial)⟩, ⟨by (with_reducible repeat (first | refine blk_drewN ?_ _ | refine blk_drew ?_ | refine blk_alloc ?_ _)); refine blk_put (cs := #[.int .i64 t251, .int .i64 t252, .bool t253, .int .i64 t254, .int .i64 t255, .int .i64 t256, .int .i64 t257, .int .i64 t258, .string (⟨#[]⟩ : ByteArray)]) ?_ 8 _ rfl; (with_reducible repeat (first | refine blk_drewN ?_ _ | refine blk_drew ?_ | refine blk_alloc ?_ _)); refine blk_put (cs := #[.int .i64 t251, .int .i64 t252, .bool t253, .int .i64 t254, .int .i64 t255, .int .i64 t256, .int .i64 t257, .int .i64 0, .string (⟨#[]⟩ : ByteArray)]) ?_ 7 _ rfl; (with_reducible repeat (first | refine blk_drewN ?_ _ | refine blk_drew ?_ | refine blk_alloc ?_ _)); refine blk_put (cs := #[.int .i64 t251, .int .i64 t252, .bool t253, .int .i64 t254, .int .i64 t255, .int .i64 t256, .int .i64 0, .int .i64 0, .string (⟨#[]⟩ : ByteArray)]) ?_ 6 _ rfl; (with_reducible repeat (first | refine blk_drewN ?_ _ | refine blk_drew ?_ | refine blk_alloc ?_ _)); refine blk_put (cs := #[.int .i64 t251, .int .i64 t252, .bool t253, .int .i64 t254, .int .i64 t255, .int .i64 0, .int .i64 0, .int .i64 0, .string (⟨#[]⟩ : ByteArray)]) ?_ 5 _ rfl; (with_reducible repeat (first | refine blk_drewN ?_ _ | refine blk_drew ?_ | refine blk_alloc ?_ _)); refine blk_put (cs := #[.int .i64 t251, .int .i64 t252, .bool t253, .int .i64 t254, .int .i64 0, .int .i64 0, .int .i64 0, .int .i64 0, .string (⟨#[]⟩ : ByteArray)]) ?_ 4 _ rfl; (with_reducible repeat (first | refine blk_drewN ?_ _ | refine blk_drew ?_ | refine blk_alloc ?_ _)); refine blk_put (cs := #[.int .i64 t251, .int .i64 t252, .bool t253, .int .i64 0, .int .i64 0, .int .i64 0, .int .i64 0, .int .i64 0, .string (⟨#[]⟩ : ByteArray)]) ?_ 3 _ rfl; (with_reducible repeat (first | refine blk_drewN ?_ _ | refine blk_drew ?_ | refine blk_alloc ?_ _)); refine blk_put (cs := #[.int .i64 t251, .int .i64 t252, .bool false, .int .i64 0, .int .i64 0, .int .i64 0, .int .i64 0, .int .i64 0, .string (⟨#[]⟩ : ByteArray)]) ?_ 2 _ rfl; (with_reducible repeat (first | refine blk_drewN ?_ _ | refine blk_drew ?_ | refine blk_alloc ?_ _)); refine blk_put (cs := #[.int .i64 t251, .int .i64 0, .bool false, .int .i64 0, .int .i64 0, .int .i64 0, .int .i64 0, .int .i64 0, .string (⟨#[]⟩ : ByteArray)]) ?_ 1 _ rfl; (with_reducible repeat (first | refine blk_drewN ?_ _ | refine blk_drew ?_ | refine blk_alloc ?_ _)); refine blk_put (cs := #[.int .i64 0, .int .i64 0, .bool false, .int .i64 0, .int .i64 0, .int .i64 0, .int .i64 0, .int .i64 0, .string (⟨#[]⟩ : ByteArray)]) ?_ 0 _ rfl; (with_reducible repeat (first | refine blk_drewN ?_ _ | refine blk_drew ?_ | refine blk_alloc ?_ _)); exact BK261.out⟩, ⟨by repeat (first | (with_reducible first | exact HB.out | apply below_alloc | apply pw_below_drewN | apply below_drew1 | refine below_set ?_ GE261.out) | exact HB.out)⟩⟩
        ·rw [if_neg c12] at H
         have c12b0 : (t251 == a1) = false := beq_eq_false_iff_ne.mpr c12
         have c12b1 : (t251 != a1) = true := bne_iff_ne.mpr c12
         have H' := Aside0.mk H
         clear H
         have hcz14_0 : w9.cell? ⟨gb261, 0, none⟩ = some (.int .i64 0) := (blk_cell BK261.out 0).trans rfl
         have hcz14_1 : w9.cell? ⟨gb261, 1, none⟩ = some (.int .i64 0) := (blk_cell BK261.out 1).trans rfl
         have hcz14_2 : w9.cell? ⟨gb261, 2, none⟩ = some (.bool false) := (blk_cell BK261.out 2).trans rfl
         have hcz14_3 : w9.cell? ⟨gb261, 3, none⟩ = some (.int .i64 0) := (blk_cell BK261.out 3).trans rfl
         have hcz14_4 : w9.cell? ⟨gb261, 4, none⟩ = some (.int .i64 0) := (blk_cell BK261.out 4).trans rfl
         have hcz14_5 : w9.cell? ⟨gb261, 5, none⟩ = some (.int .i64 0) := (blk_cell BK261.out 5).trans rfl
         have hcz14_6 : w9.cell? ⟨gb261, 6, none⟩ = some (.int .i64 0) := (blk_cell BK261.out 6).trans rfl
         have hcz14_7 : w9.cell? ⟨gb261, 7, none⟩ = some (.int .i64 0) := (blk_cell BK261.out 7).trans rfl
         have hcz14_8 : w9.cell? ⟨gb261, 8, none⟩ = some (.string (⟨#[]⟩ : ByteArray)) := (blk_cell BK261.out 8).trans rfl
         have hfz14_0 := blk_frozen BK261.out 0
         have hfz14_1 := blk_frozen BK261.out 1
         have hfz14_2 := blk_frozen BK261.out 2
         have hfz14_3 := blk_frozen BK261.out 3
         have hfz14_4 := blk_frozen BK261.out 4
         have hfz14_5 := blk_frozen BK261.out 5
         have hfz14_6 := blk_frozen BK261.out 6
         have hfz14_7 := blk_frozen BK261.out 7
         have hfz14_8 := blk_frozen BK261.out 8
         go_wp2
         go_meet
         case rel => exact ⟨_, (true), (by first | rfl | (simp; done) | (simp [*]; done)), H', ⟨by have := HK1.out; first | omega | exact Nat.le_refl _⟩, ⟨by (with_reducible repeat (first | apply Kd.S_alloc | apply Kd.S_drewN | apply Kd.S_drew)); exact Kd.S_mono (Kd.S_far (p := ⟨gb261, 8, none⟩) (Kd.S_far (p := ⟨gb261, 7, none⟩) (Kd.S_far (p := ⟨gb261, 6, none⟩) (Kd.S_far (p := ⟨gb261, 5, none⟩) (Kd.S_far (p := ⟨gb261, 4, none⟩) (Kd.S_far (p := ⟨gb261, 3, none⟩) (Kd.S_far (p := ⟨gb261, 2, none⟩) (Kd.S_far (p := ⟨gb261, 1, none⟩) (Kd.S_far (p := ⟨gb261, 0, none⟩) (Kd.S_types HO_5.out BK261.out (by decide)) (fun _ hk => hk.2) (.int .i64 t251)) (fun _ hk => hk.2) (.int .i64 t252)) (fun _ hk => hk.2) (.bool t253)) (fun _ hk => hk.2) (.int .i64 t254)) (fun _ hk => hk.2) (.int .i64 t255)) (fun _ hk => hk.2) (.int .i64 t256)) (fun _ hk => hk.2) (.int .i64 t257)) (fun _ hk => hk.2) (.int .i64 t258)) (fun _ hk => hk.2) (.string t259)) (fun _ hk => hk.1)⟩, ⟨by (with_reducible repeat (first | apply Kd.R_alloc | apply Kd.R_drewN | apply Kd.R_drew)); exact Kd.R_mono (Kd.R_far (p := ⟨gb261, 8, none⟩) (Kd.R_far (p := ⟨gb261, 7, none⟩) (Kd.R_far (p := ⟨gb261, 6, none⟩) (Kd.R_far (p := ⟨gb261, 5, none⟩) (Kd.R_far (p := ⟨gb261, 4, none⟩) (Kd.R_far (p := ⟨gb261, 3, none⟩) (Kd.R_far (p := ⟨gb261, 2, none⟩) (Kd.R_far (p := ⟨gb261, 1, none⟩) (Kd.R_far (p := ⟨gb261, 0, none⟩) (Kd.R_types HO_6.out BK261.out (by decide)) (fun _ hk => hk.2) (.int .i64 t251)) (fun _ hk => hk.2) (.int .i64 t252)) (fun _ hk => hk.2) (.bool t253)) (fun _ hk => hk.2) (.int .i64 t254)) (fun _ hk => hk.2) (.int .i64 t255)) (fun _ hk => hk.2) (.int .i64 t256)) (fun _ hk => hk.2) (.int .i64 t257)) (fun _ hk => hk.2) (.int .i64 t258)) (fun _ hk => hk.2) (.string t259)) (fun _ hk => trivial)⟩, ⟨by (with_reducible repeat (first | refine blk_drewN ?_ _ | refine blk_drew ?_ | refine blk_alloc ?_ _)); refine blk_put (cs := #[.int .i64 t251, .int .i64 t252, .bool t253, .int .i64 t254, .int .i64 t255, .int .i64 t256, .int .i64 t257, .int .i64 t258, .string (⟨#[]⟩ : ByteArray)]) ?_ 8 _ rfl; (with_reducible repeat (first | refine blk_drewN ?_ _ | refine blk_drew ?_ | refine blk_alloc ?_ _)); refine blk_put (cs := #[.int .i64 t251, .int .i64 t252, .bool t253, .int .i64 t254, .int .i64 t255, .int .i64 t256, .int .i64 t257, .int .i64 0, .string (⟨#[]⟩ : ByteArray)]) ?_ 7 _ rfl; (with_reducible repeat (first | refine blk_drewN ?_ _ | refine blk_drew ?_ | refine blk_alloc ?_ _)); refine blk_put (cs := #[.int .i64 t251, .int .i64 t252, .bool t253, .int .i64 t254, .int .i64 t255, .int .i64 t256, .int .i64 0, .int .i64 0, .string (⟨#[]⟩ : ByteArray)]) ?_ 6 _ rfl; (with_reducible repeat (first | refine blk_drewN ?_ _ | refine blk_drew ?_ | refine blk_alloc ?_ _)); refine blk_put (cs := #[.int .i64 t251, .int .i64 t252, .bool t253, .int .i64 t254, .int .i64 t255, .int .i64 0, .int .i64 0, .int .i64 0, .string (⟨#[]⟩ : ByteArray)]) ?_ 5 _ rfl; (with_reducible repeat (first | refine blk_drewN ?_ _ | refine blk_drew ?_ | refine blk_alloc ?_ _)); refine blk_put (cs := #[.int .i64 t251, .int .i64 t252, .bool t253, .int .i64 t254, .int .i64 0, .int .i64 0, .int .i64 0, .int .i64 0, .string (⟨#[]⟩ : ByteArray)]) ?_ 4 _ rfl; (with_reducible repeat (first | refine blk_drewN ?_ _ | refine blk_drew ?_ | refine blk_alloc ?_ _)); refine blk_put (cs := #[.int .i64 t251, .int .i64 t252, .bool t253, .int .i64 0, .int .i64 0, .int .i64 0, .int .i64 0, .int .i64 0, .string (⟨#[]⟩ : ByteArray)]) ?_ 3 _ rfl; (with_reducible repeat (first | refine blk_drewN ?_ _ | refine blk_drew ?_ | refine blk_alloc ?_ _)); refine blk_put (cs := #[.int .i64 t251, .int .i64 t252, .bool false, .int .i64 0, .int .i64 0, .int .i64 0, .int .i64 0, .int .i64 0, .string (⟨#[]⟩ : ByteArray)]) ?_ 2 _ rfl; (with_reducible repeat (first | refine blk_drewN ?_ _ | refine blk_drew ?_ | refine blk_alloc ?_ _)); refine blk_put (cs := #[.int .i64 t251, .int .i64 0, .bool false, .int .i64 0, .int .i64 0, .int .i64 0, .int .i64 0, .int .i64 0, .string (⟨#[]⟩ : ByteArray)]) ?_ 1 _ rfl; (with_reducible repeat (first | refine blk_drewN ?_ _ | refine blk_drew ?_ | refine blk_alloc ?_ _)); refine blk_put (cs := #[.int .i64 0, .int .i64 0, .bool false, .int .i64 0, .int .i64 0, .int .i64 0, .int .i64 0, .int .i64 0, .string (⟨#[]⟩ : ByteArray)]) ?_ 0 _ rfl; (with_reducible repeat (first | refine blk_drewN ?_ _ | refine blk_drew ?_ | refine blk_alloc ?_ _)); exact BK261.out⟩, ⟨by repeat (first | (with_reducible first | exact HB.out | apply below_alloc | apply pw_below_drewN | apply below_drew1 | refine below_set ?_ GE261.out) | exact HB.out)⟩⟩
       ·rw [if_neg c11] at H
        have c11b0 : (t260 == 0) = false := beq_eq_false_iff_ne.mpr c11
        have c11b1 : (t260 != 0) = true := bne_iff_ne.mpr c11
        (first | rw [c11b0] | (simp only [i64_w, i32_w]; rw [c11b0]) | rw [c11b1] | skip)
        have H' := Aside0.mk H
        clear H
        go_wp2
        go_meet
        case rel => exact ⟨_, (true), (by first | rfl | (simp; done) | (simp [*]; done)), H', ⟨by have := HK1.out; first | omega | exact Nat.le_refl _⟩, ⟨by (with_reducible repeat (first | apply Kd.S_alloc | apply Kd.S_drewN | apply Kd.S_drew)); exact Kd.S_mono (Kd.S_far (p := ⟨gb261, 8, none⟩) (Kd.S_far (p := ⟨gb261, 7, none⟩) (Kd.S_far (p := ⟨gb261, 6, none⟩) (Kd.S_far (p := ⟨gb261, 5, none⟩) (Kd.S_far (p := ⟨gb261, 4, none⟩) (Kd.S_far (p := ⟨gb261, 3, none⟩) (Kd.S_far (p := ⟨gb261, 2, none⟩) (Kd.S_far (p := ⟨gb261, 1, none⟩) (Kd.S_far (p := ⟨gb261, 0, none⟩) (Kd.S_types HO_5.out BK261.out (by decide)) (fun _ hk => hk.2) (.int .i64 t251)) (fun _ hk => hk.2) (.int .i64 t252)) (fun _ hk => hk.2) (.bool t253)) (fun _ hk => hk.2) (.int .i64 t254)) (fun _ hk => hk.2) (.int .i64 t255)) (fun _ hk => hk.2) (.int .i64 t256)) (fun _ hk => hk.2) (.int .i64 t257)) (fun _ hk => hk.2) (.int .i64 t258)) (fun _ hk => hk.2) (.string t259)) (fun _ hk => hk.1)⟩, ⟨by (with_reducible repeat (first | apply Kd.R_alloc | apply Kd.R_drewN | apply Kd.R_drew)); exact Kd.R_mono (Kd.R_far (p := ⟨gb261, 8, none⟩) (Kd.R_far (p := ⟨gb261, 7, none⟩) (Kd.R_far (p := ⟨gb261, 6, none⟩) (Kd.R_far (p := ⟨gb261, 5, none⟩) (Kd.R_far (p := ⟨gb261, 4, none⟩) (Kd.R_far (p := ⟨gb261, 3, none⟩) (Kd.R_far (p := ⟨gb261, 2, none⟩) (Kd.R_far (p := ⟨gb261, 1, none⟩) (Kd.R_far (p := ⟨gb261, 0, none⟩) (Kd.R_types HO_6.out BK261.out (by decide)) (fun _ hk => hk.2) (.int .i64 t251)) (fun _ hk => hk.2) (.int .i64 t252)) (fun _ hk => hk.2) (.bool t253)) (fun _ hk => hk.2) (.int .i64 t254)) (fun _ hk => hk.2) (.int .i64 t255)) (fun _ hk => hk.2) (.int .i64 t256)) (fun _ hk => hk.2) (.int .i64 t257)) (fun _ hk => hk.2) (.int .i64 t258)) (fun _ hk => hk.2) (.string t259)) (fun _ hk => trivial)⟩, ⟨by (with_reducible repeat (first | refine blk_drewN ?_ _ | refine blk_drew ?_ | refine blk_alloc ?_ _)); refine blk_put (cs := #[.int .i64 t251, .int .i64 t252, .bool t253, .int .i64 t254, .int .i64 t255, .int .i64 t256, .int .i64 t257, .int .i64 t258, .string (⟨#[]⟩ : ByteArray)]) ?_ 8 _ rfl; (with_reducible repeat (first | refine blk_drewN ?_ _ | refine blk_drew ?_ | refine blk_alloc ?_ _)); refine blk_put (cs := #[.int .i64 t251, .int .i64 t252, .bool t253, .int .i64 t254, .int .i64 t255, .int .i64 t256, .int .i64 t257, .int .i64 0, .string (⟨#[]⟩ : ByteArray)]) ?_ 7 _ rfl; (with_reducible repeat (first | refine blk_drewN ?_ _ | refine blk_drew ?_ | refine blk_alloc ?_ _)); refine blk_put (cs := #[.int .i64 t251, .int .i64 t252, .bool t253, .int .i64 t254, .int .i64 t255, .int .i64 t256, .int .i64 0, .int .i64 0, .string (⟨#[]⟩ : ByteArray)]) ?_ 6 _ rfl; (with_reducible repeat (first | refine blk_drewN ?_ _ | refine blk_drew ?_ | refine blk_alloc ?_ _)); refine blk_put (cs := #[.int .i64 t251, .int .i64 t252, .bool t253, .int .i64 t254, .int .i64 t255, .int .i64 0, .int .i64 0, .int .i64 0, .string (⟨#[]⟩ : ByteArray)]) ?_ 5 _ rfl; (with_reducible repeat (first | refine blk_drewN ?_ _ | refine blk_drew ?_ | refine blk_alloc ?_ _)); refine blk_put (cs := #[.int .i64 t251, .int .i64 t252, .bool t253, .int .i64 t254, .int .i64 0, .int .i64 0, .int .i64 0, .int .i64 0, .string (⟨#[]⟩ : ByteArray)]) ?_ 4 _ rfl; (with_reducible repeat (first | refine blk_drewN ?_ _ | refine blk_drew ?_ | refine blk_alloc ?_ _)); refine blk_put (cs := #[.int .i64 t251, .int .i64 t252, .bool t253, .int .i64 0, .int .i64 0, .int .i64 0, .int .i64 0, .int .i64 0, .string (⟨#[]⟩ : ByteArray)]) ?_ 3 _ rfl; (with_reducible repeat (first | refine blk_drewN ?_ _ | refine blk_drew ?_ | refine blk_alloc ?_ _)); refine blk_put (cs := #[.int .i64 t251, .int .i64 t252, .bool false, .int .i64 0, .int .i64 0, .int .i64 0, .int .i64 0, .int .i64 0, .string (⟨#[]⟩ : ByteArray)]) ?_ 2 _ rfl; (with_reducible repeat (first | refine blk_drewN ?_ _ | refine blk_drew ?_ | refine blk_alloc ?_ _)); refine blk_put (cs := #[.int .i64 t251, .int .i64 0, .bool false, .int .i64 0, .int .i64 0, .int .i64 0, .int .i64 0, .int .i64 0, .string (⟨#[]⟩ : ByteArray)]) ?_ 1 _ rfl; (with_reducible repeat (first | refine blk_drewN ?_ _ | refine blk_drew ?_ | refine blk_alloc ?_ _)); refine blk_put (cs := #[.int .i64 0, .int .i64 0, .bool false, .int .i64 0, .int .i64 0, .int .i64 0, .int .i64 0, .int .i64 0, .string (⟨#[]⟩ : ByteArray)]) ?_ 0 _ rfl; (with_reducible repeat (first | refine blk_drewN ?_ _ | refine blk_drew ?_ | refine blk_alloc ?_ _)); exact BK261.out⟩, ⟨by repeat (first | (with_reducible first | exact HB.out | apply below_alloc | apply pw_below_drewN | apply below_drew1 | refine below_set ?_ GE261.out) | exact HB.out)⟩⟩
      case rest =>
       clear HC7
       try clear c1
       try clear c2
       try clear p2
       try clear q2
       try clear hx2
       try clear c3
       try clear c3b0
       try clear c4
       try clear c4b0
       try clear c5
       try clear c5b0
       try clear c11
       try clear c11b0
       try clear c11b1
       try clear c12
       try clear c12b0
       try clear c12b1
       try clear c13
       try clear hcz10_0
       try clear hcz10_1
       try clear hcz10_2
       try clear hcz10_3
       try clear hcz10_4
       try clear hcz10_5
       try clear hcz10_6
       try clear hcz10_7
       try clear hcz10_8
       try clear hcz13_0
       try clear hcz13_1
       try clear hcz13_2
       try clear hcz13_3
       try clear hcz13_4
       try clear hcz13_5
       try clear hcz13_6
       try clear hcz13_7
       try clear hcz13_8
       try clear hcz14_0
       try clear hcz14_1
       try clear hcz14_2
       try clear hcz14_3
       try clear hcz14_4
       try clear hcz14_5
       try clear hcz14_6
       try clear hcz14_7
       try clear hcz14_8
       try clear hfz10_0
       try clear hfz10_1
       try clear hfz10_2
       try clear hfz10_3
       try clear hfz10_4
       try clear hfz10_5
       try clear hfz10_6
       try clear hfz10_7
       try clear hfz10_8
       try clear hfz13_0
       try clear hfz13_1
       try clear hfz13_2
       try clear hfz13_3
       try clear hfz13_4
       try clear hfz13_5
       try clear hfz13_6
       try clear hfz13_7
       try clear hfz13_8
       try clear hfz14_0
       try clear hfz14_1
       try clear hfz14_2
       try clear hfz14_3
       try clear hfz14_4
       try clear hfz14_5
       try clear hfz14_6
       try clear hfz14_7
       try clear hfz14_8
       try clear hx250_0
       try clear p2
       try clear p250
       try clear q250
       obtain ⟨kq, x36_6, rfl, HA, HJ6, HO_5, HO_6, BK261, HB⟩ := hcut
       cases kq with
       | zero => exact absurd HA.out (by simp [line_Replay.j1])
       | succ kj6 =>
        have H := HA.out
        clear HA
        simp only [line_Replay.j1] at H
        by_cases c15 : x36_6 = true
        ·subst c15
         have H1 : (some x5_1) = some r := by rw [if_pos rfl] at H; exact H
         clear H
         have H := H1
         clear H1
         obtain rfl := Option.some.inj H
         go_wp2
         go_ret
         exact ⟨_, by first | rfl | (simp [errW_none, errW_some] <;> rfl) | (simp [*, errW_none, errW_some] <;> rfl), by (with_reducible repeat (first | apply Kd.S_alloc | apply Kd.S_drewN | apply Kd.S_drew)); exact Kd.S_mono HO_5.out (fun _ hk => trivial), by repeat (first | (with_reducible first | exact HB.out | apply below_alloc | apply pw_below_drewN | apply below_drew1 | refine below_set ?_ GE261.out) | exact HB.out)⟩
        ·replace c15 := Bool.eq_false_iff.mpr c15
         subst c15
         have H1 : (if x6_1.length < 2513169434916 then ((some (x6_1 ++ [(⟨t254, t255, t256, t257, t258, t259⟩ : S23)] : List (S23))).bind fun y262 => (if t253 = true then (if x5_1.length < 5864062014805 then (line_Replay.l0 kj6 a1 (x5_1 ++ [y262]) ([] : List (S23)) l0 (l0.length : Int) (wrap64 (x13_1 + 1))) else (none)) else (line_Replay.l0 kj6 a1 x5_1 y262 l0 (l0.length : Int) (wrap64 (x13_1 + 1))))) else (none)) = some r := by rw [if_neg (show ¬ (false = true) by decide)] at H; exact H
         clear H
         have H := H1
         clear H1
         by_cases c16 : x6_1.length < 2513169434916
         ·rw [if_pos c16] at H
          have LMc16 := Aside0.mk c16
          clear c16
          obtain ⟨y262, hy262⟩ : ∃ y_ : List (S23), y_ = (x6_1 ++ [(⟨t254, t255, t256, t257, t258, t259⟩ : S23)]) := ⟨_, rfl⟩
          replace H : (if t253 = true then (if x5_1.length < 5864062014805 then (line_Replay.l0 kj6 a1 (x5_1 ++ [y262]) ([] : List (S23)) l0 (l0.length : Int) (wrap64 (x13_1 + 1))) else (none)) else (line_Replay.l0 kj6 a1 x5_1 y262 l0 (l0.length : Int) (wrap64 (x13_1 + 1)))) = some r := by first | (rw [hy262]; with_reducible exact H) | (have H2_ := (Option.bind_some _ _).symm.trans H; rw [hy262]; with_reducible exact H2_) | (have H2_ := (Option.bind_some _ _).symm.trans H; with_reducible exact H2_) | with_reducible exact H | (rw [hy262]; exact H) | exact H
          have Ny262 := Aside0.mk hy262
          clear hy262
          by_cases c17 : t253 = true
          ·subst c17
           have H1 : (if x5_1.length < 5864062014805 then (line_Replay.l0 kj6 a1 (x5_1 ++ [y262]) ([] : List (S23)) l0 (l0.length : Int) (wrap64 (x13_1 + 1))) else (none)) = some r := by rw [if_pos rfl] at H; exact H
           clear H
           have H := H1
           clear H1
           by_cases c18 : x5_1.length < 5864062014805
           ·rw [if_pos c18] at H
            have LMc18 := Aside0.mk c18
            clear c18
            obtain ⟨y265, hy265⟩ : ∃ y_ : List (List (S23)), y_ = (x5_1 ++ [y262]) := ⟨_, rfl⟩
            replace H : (line_Replay.l0 kj6 a1 y265 ([] : List (S23)) l0 (l0.length : Int) (wrap64 (x13_1 + 1))) = some r := by first | (rw [hy265]; with_reducible exact H) | (have H2_ := (Option.bind_some _ _).symm.trans H; rw [hy265]; with_reducible exact H2_) | (have H2_ := (Option.bind_some _ _).symm.trans H; with_reducible exact H2_) | with_reducible exact H | (rw [hy265]; exact H) | exact H
            have Ny265 := Aside0.mk hy265
            clear hy265
            have H' := Aside0.mk H
            clear H
            have hcz19_0 : wc.cell? ⟨gb261, 0, none⟩ = some (.int .i64 t251) := (blk_cell BK261.out 0).trans rfl
            have hcz19_1 : wc.cell? ⟨gb261, 1, none⟩ = some (.int .i64 t252) := (blk_cell BK261.out 1).trans rfl
            have hcz19_2 : wc.cell? ⟨gb261, 2, none⟩ = some (.bool true) := (blk_cell BK261.out 2).trans rfl
            have hcz19_3 : wc.cell? ⟨gb261, 3, none⟩ = some (.int .i64 t254) := (blk_cell BK261.out 3).trans rfl
            have hcz19_4 : wc.cell? ⟨gb261, 4, none⟩ = some (.int .i64 t255) := (blk_cell BK261.out 4).trans rfl
            have hcz19_5 : wc.cell? ⟨gb261, 5, none⟩ = some (.int .i64 t256) := (blk_cell BK261.out 5).trans rfl
            have hcz19_6 : wc.cell? ⟨gb261, 6, none⟩ = some (.int .i64 t257) := (blk_cell BK261.out 6).trans rfl
            have hcz19_7 : wc.cell? ⟨gb261, 7, none⟩ = some (.int .i64 t258) := (blk_cell BK261.out 7).trans rfl
            have hcz19_8 : wc.cell? ⟨gb261, 8, none⟩ = some (.string t259) := (blk_cell BK261.out 8).trans rfl
            have hfz19_0 := blk_frozen BK261.out 0
            have hfz19_1 := blk_frozen BK261.out 1
            have hfz19_2 := blk_frozen BK261.out 2
            have hfz19_3 := blk_frozen BK261.out 3
            have hfz19_4 := blk_frozen BK261.out 4
            have hfz19_5 := blk_frozen BK261.out 5
            have hfz19_6 := blk_frozen BK261.out 6
            have hfz19_7 := blk_frozen BK261.out 7
            have hfz19_8 := blk_frozen BK261.out 8
            go_wp2_with (first | ((with_reducible refine gate_builtin (b := .append) (xs := #[.tmp 37, .tmp 40]) rfl ?_); at_builtin; refine Kd.R_append k23 (w0 := w) w.heap.size rfl (.tmp 37) (.tmp 40) 45 23 (.agg #[(.int .i64 0), (.int .i64 0), (.int .i64 0), (.int .i64 0), (.int .i64 0), (.string ⟨#[]⟩)]) 56 rfl Try.underlying45 info23 rfl (by decide) (by omega) u6 x6_1 (⟨t254, t255, t256, t257, t258, t259⟩ : S23) [.int .i64 t254, .int .i64 t255, .int .i64 t256, .int .i64 t257, .int .i64 t258, .string t259] (fun _ => True) (fun _ => False) rfl rfl ?aP (fun _ hk => hk.elim) ?aF ?aO ?aB ?aS ?aL ?_; (case aP => exact k23_mkM _ _ _ (⟨t254, t255, t256, t257, t258, t259⟩ : S23)); (case aB => exact (by repeat (first | (with_reducible first | exact HB.out | apply below_alloc | apply pw_below_drewN | apply below_drew1 | refine below_set ?_ GE261.out) | exact HB.out))); (case aF => exact (fun _ _ => trivial)); (case aO => exact (by (with_reducible repeat (first | apply Kd.R_alloc | apply Kd.R_drewN | apply Kd.R_drew)); exact HO_6.out)); (case aS => exact (below_size (by repeat (first | (with_reducible first | exact HB.out | apply below_alloc | apply pw_below_drewN | apply below_drew1 | refine below_set ?_ GE261.out) | exact HB.out)))); (case aL => have := LMc16.out; omega); intro v263 w20 ho hb hg hat; rw [← Ny262.out] at ho; have n0_ := Aside0.mk (Kd.S_after (ok := (fun _ => True)) (by (with_reducible repeat (first | apply Kd.S_alloc | apply Kd.S_drewN | apply Kd.S_drew)); exact Kd.S_mono HO_5.out (fun _ hk => ⟨trivial, hk⟩)) hg hat); have n1_ := Aside0.mk (blk_grown (g := gb261) (o := .cells #[.int .i64 t251, .int .i64 t252, .bool true, .int .i64 t254, .int .i64 t255, .int .i64 t256, .int .i64 t257, .int .i64 t258, .string t259] 25 (0, 0)) (by (with_reducible repeat (first | refine blk_drewN ?_ _ | refine blk_drew ?_ | refine blk_alloc ?_ _)); exact BK261.out) hg (Kd.R_ne HO_6.out BK261.out (by decide))); have n2_ := Aside0.mk (hb); have n3_ := Aside0.mk (ho); clear HO_5; clear BK261; clear HB; clear HO_6; have HO_5 := n0_; have BK261 := n1_; have HB := n2_; have HO264 := n3_; clear n0_ n1_ n2_ n3_; clear ho hb hg hat; have hcz21_0 : w20.cell? ⟨gb261, 0, none⟩ = some (.int .i64 t251) := (blk_cell BK261.out 0).trans rfl; have hcz21_1 : w20.cell? ⟨gb261, 1, none⟩ = some (.int .i64 t252) := (blk_cell BK261.out 1).trans rfl; have hcz21_2 : w20.cell? ⟨gb261, 2, none⟩ = some (.bool true) := (blk_cell BK261.out 2).trans rfl; have hcz21_3 : w20.cell? ⟨gb261, 3, none⟩ = some (.int .i64 t254) := (blk_cell BK261.out 3).trans rfl; have hcz21_4 : w20.cell? ⟨gb261, 4, none⟩ = some (.int .i64 t255) := (blk_cell BK261.out 4).trans rfl; have hcz21_5 : w20.cell? ⟨gb261, 5, none⟩ = some (.int .i64 t256) := (blk_cell BK261.out 5).trans rfl; have hcz21_6 : w20.cell? ⟨gb261, 6, none⟩ = some (.int .i64 t257) := (blk_cell BK261.out 6).trans rfl; have hcz21_7 : w20.cell? ⟨gb261, 7, none⟩ = some (.int .i64 t258) := (blk_cell BK261.out 7).trans rfl; have hcz21_8 : w20.cell? ⟨gb261, 8, none⟩ = some (.string t259) := (blk_cell BK261.out 8).trans rfl; have hfz21_0 := blk_frozen BK261.out 0; have hfz21_1 := blk_frozen BK261.out 1; have hfz21_2 := blk_frozen BK261.out 2; have hfz21_3 := blk_frozen BK261.out 3; have hfz21_4 := blk_frozen BK261.out 4; have hfz21_5 := blk_frozen BK261.out 5; have hfz21_6 := blk_frozen BK261.out 6; have hfz21_7 := blk_frozen BK261.out 7; have hfz21_8 := blk_frozen BK261.out 8; obtain ⟨Ao23, co23, eo23⟩ := Kd.R_slice HO264.out; subst eo23) | ((with_reducible refine gate_builtin (b := .append) (xs := #[.tmp 44, .tmp 46]) rfl ?_); at_builtin; refine Kd.S_append (Kd.slice 23 k23) (w0 := w) w.heap.size rfl (.tmp 44) (.tmp 46) 41 45 (.slice none 0 0) 24 rfl Try.underlying41 info45 rfl (by decide) (by omega) u5 x5_1 y262 [.slice Ao23 y262.length co23] (fun _ => True) (fun k_ => some k_ = (.slice Ao23 y262.length co23 : Value).ownBlock) rfl rfl ?aP (fun k_ hk_ => ((Kd.R_mono (ok' := fun k_ => ((fun _ => True)) k_ ∧ some k_ ≠ (u5 : Value).ownBlock) (Kd.R_apart' (HO264.out) (Kd.S_typed HO_5.out) (by decide)) (fun k_ hk => ⟨trivial, hk.2⟩))).1 k_ hk_.symm) ?aF ?aO ?aB ?aS ?aL ?_; (case aP => exact Kd.M_row (Kd.R_mono (Kd.R_tight rfl (Kd.R_mono (ok' := fun k_ => ((fun _ => True)) k_ ∧ some k_ ≠ (u5 : Value).ownBlock) (Kd.R_apart' (HO264.out) (Kd.S_typed HO_5.out) (by decide)) (fun k_ hk => ⟨trivial, hk.2⟩))) (fun _ h_ => h_))); (case aB => exact (by repeat (first | (with_reducible first | exact HB.out | apply below_alloc | apply pw_below_drewN | apply below_drew1 | refine below_set ?_ GE261.out) | exact HB.out))); (case aF => exact (fun _ _ => trivial)); (case aO => exact (by (with_reducible repeat (first | apply Kd.S_alloc | apply Kd.S_drewN | apply Kd.S_drew)); exact Kd.S_mono HO_5.out (fun k_ hk => ⟨trivial, fun e_ => hk.2 e_⟩))); (case aS => exact (below_size (by repeat (first | (with_reducible first | exact HB.out | apply below_alloc | apply pw_below_drewN | apply below_drew1 | refine below_set ?_ GE261.out) | exact HB.out)))); (case aL => have := LMc18.out; omega); intro v266 w22 ho hb hg hat; rw [← Ny265.out] at ho; have n0_ := Aside0.mk (blk_grown (g := gb261) (o := .cells #[.int .i64 t251, .int .i64 t252, .bool true, .int .i64 t254, .int .i64 t255, .int .i64 t256, .int .i64 t257, .int .i64 t258, .string t259] 25 (0, 0)) (by (with_reducible repeat (first | refine blk_drewN ?_ _ | refine blk_drew ?_ | refine blk_alloc ?_ _)); exact BK261.out) hg (Kd.S_ne HO_5.out BK261.out (by decide))); have n1_ := Aside0.mk (hb); have n2_ := Aside0.mk (ho); clear BK261; clear HB; clear HO_5; clear HO264; have BK261 := n0_; have HB := n1_; have HO267 := n2_; clear n0_ n1_ n2_; clear ho hb hg hat))
            go_roundg kj6
            case measure => have := HK1.out; have := HJ6.out; omega
            case rel => exact ⟨(y265), (([] : List (S23))), (wrap64 (x13_1 + 1)), (by first | rfl | (simp; done) | (simp [*]; done)), H', ⟨by have := HK1.out; have := HJ6.out; omega⟩, ⟨by (with_reducible repeat (first | apply Kd.S_alloc | apply Kd.S_drewN | apply Kd.S_drew)); exact Kd.S_mono HO267.out (fun _ hk => (by simp [Value.ownBlock]))⟩, ⟨by first | exact Kd.R_nil _ _ _ _ _ | exact Kd.N_nil _ _ _ _ _ | exact Kd.V_nil _ _ _ _ _ | exact Kd.Q_nil _ _ _ _ _ | exact Kd.S_nil _ _ _ _ _⟩, ⟨by repeat (first | (with_reducible first | exact HB.out | apply below_alloc | apply pw_below_drewN | apply below_drew1 | refine below_set ?_ GE261.out) | exact HB.out)⟩⟩
           ·rw [if_neg c18] at H
            exact absurd H (by simp)
          ·replace c17 := Bool.eq_false_iff.mpr c17
           subst c17
           have H1 : (line_Replay.l0 kj6 a1 x5_1 y262 l0 (l0.length : Int) (wrap64 (x13_1 + 1))) = some r := by rw [if_neg (show ¬ (false = true) by decide)] at H; exact H
           clear H
           have H := H1
           clear H1
           have H' := Aside0.mk H
           clear H
           have hcz24_0 : wc.cell? ⟨gb261, 0, none⟩ = some (.int .i64 t251) := (blk_cell BK261.out 0).trans rfl
           have hcz24_1 : wc.cell? ⟨gb261, 1, none⟩ = some (.int .i64 t252) := (blk_cell BK261.out 1).trans rfl
           have hcz24_2 : wc.cell? ⟨gb261, 2, none⟩ = some (.bool false) := (blk_cell BK261.out 2).trans rfl
           have hcz24_3 : wc.cell? ⟨gb261, 3, none⟩ = some (.int .i64 t254) := (blk_cell BK261.out 3).trans rfl
           have hcz24_4 : wc.cell? ⟨gb261, 4, none⟩ = some (.int .i64 t255) := (blk_cell BK261.out 4).trans rfl
           have hcz24_5 : wc.cell? ⟨gb261, 5, none⟩ = some (.int .i64 t256) := (blk_cell BK261.out 5).trans rfl
           have hcz24_6 : wc.cell? ⟨gb261, 6, none⟩ = some (.int .i64 t257) := (blk_cell BK261.out 6).trans rfl
           have hcz24_7 : wc.cell? ⟨gb261, 7, none⟩ = some (.int .i64 t258) := (blk_cell BK261.out 7).trans rfl
           have hcz24_8 : wc.cell? ⟨gb261, 8, none⟩ = some (.string t259) := (blk_cell BK261.out 8).trans rfl
           have hfz24_0 := blk_frozen BK261.out 0
           have hfz24_1 := blk_frozen BK261.out 1
           have hfz24_2 := blk_frozen BK261.out 2
           have hfz24_3 := blk_frozen BK261.out 3
           have hfz24_4 := blk_frozen BK261.out 4
           have hfz24_5 := blk_frozen BK261.out 5
           have hfz24_6 := blk_frozen BK261.out 6
           have hfz24_7 := blk_frozen BK261.out 7
           have hfz24_8 := blk_frozen BK261.out 8
           go_wp2_with (first | ((with_reducible refine gate_builtin (b := .append) (xs := #[.tmp 37, .tmp 40]) rfl ?_); at_builtin; refine Kd.R_append k23 (w0 := w) w.heap.size rfl (.tmp 37) (.tmp 40) 45 23 (.agg #[(.int .i64 0), (.int .i64 0), (.int .i64 0), (.int .i64 0), (.int .i64 0), (.string ⟨#[]⟩)]) 56 rfl Try.underlying45 info23 rfl (by decide) (by omega) u6 x6_1 (⟨t254, t255, t256, t257, t258, t259⟩ : S23) [.int .i64 t254, .int .i64 t255, .int .i64 t256, .int .i64 t257, .int .i64 t258, .string t259] (fun _ => True) (fun _ => False) rfl rfl ?aP (fun _ hk => hk.elim) ?aF ?aO ?aB ?aS ?aL ?_; (case aP => exact k23_mkM _ _ _ (⟨t254, t255, t256, t257, t258, t259⟩ : S23)); (case aB => exact (by repeat (first | (with_reducible first | exact HB.out | apply below_alloc | apply pw_below_drewN | apply below_drew1 | refine below_set ?_ GE261.out) | exact HB.out))); (case aF => exact (fun _ _ => trivial)); (case aO => exact (by (with_reducible repeat (first | apply Kd.R_alloc | apply Kd.R_drewN | apply Kd.R_drew)); exact HO_6.out)); (case aS => exact (below_size (by repeat (first | (with_reducible first | exact HB.out | apply below_alloc | apply pw_below_drewN | apply below_drew1 | refine below_set ?_ GE261.out) | exact HB.out)))); (case aL => have := LMc16.out; omega); intro v263 w25 ho hb hg hat; rw [← Ny262.out] at ho; have n0_ := Aside0.mk (Kd.S_after (ok := (fun _ => True)) (by (with_reducible repeat (first | apply Kd.S_alloc | apply Kd.S_drewN | apply Kd.S_drew)); exact Kd.S_mono HO_5.out (fun _ hk => ⟨trivial, hk⟩)) hg hat); have n1_ := Aside0.mk (blk_grown (g := gb261) (o := .cells #[.int .i64 t251, .int .i64 t252, .bool false, .int .i64 t254, .int .i64 t255, .int .i64 t256, .int .i64 t257, .int .i64 t258, .string t259] 25 (0, 0)) (by (with_reducible repeat (first | refine blk_drewN ?_ _ | refine blk_drew ?_ | refine blk_alloc ?_ _)); exact BK261.out) hg (Kd.R_ne HO_6.out BK261.out (by decide))); have n2_ := Aside0.mk (hb); have n3_ := Aside0.mk (ho); clear HO_5; clear BK261; clear HB; clear HO_6; have HO_5 := n0_; have BK261 := n1_; have HB := n2_; have HO264 := n3_; clear n0_ n1_ n2_ n3_; clear ho hb hg hat; have hcz26_0 : w25.cell? ⟨gb261, 0, none⟩ = some (.int .i64 t251) := (blk_cell BK261.out 0).trans rfl; have hcz26_1 : w25.cell? ⟨gb261, 1, none⟩ = some (.int .i64 t252) := (blk_cell BK261.out 1).trans rfl; have hcz26_2 : w25.cell? ⟨gb261, 2, none⟩ = some (.bool false) := (blk_cell BK261.out 2).trans rfl; have hcz26_3 : w25.cell? ⟨gb261, 3, none⟩ = some (.int .i64 t254) := (blk_cell BK261.out 3).trans rfl; have hcz26_4 : w25.cell? ⟨gb261, 4, none⟩ = some (.int .i64 t255) := (blk_cell BK261.out 4).trans rfl; have hcz26_5 : w25.cell? ⟨gb261, 5, none⟩ = some (.int .i64 t256) := (blk_cell BK261.out 5).trans rfl; have hcz26_6 : w25.cell? ⟨gb261, 6, none⟩ = some (.int .i64 t257) := (blk_cell BK261.out 6).trans rfl; have hcz26_7 : w25.cell? ⟨gb261, 7, none⟩ = some (.int .i64 t258) := (blk_cell BK261.out 7).trans rfl; have hcz26_8 : w25.cell? ⟨gb261, 8, none⟩ = some (.string t259) := (blk_cell BK261.out 8).trans rfl; have hfz26_0 := blk_frozen BK261.out 0; have hfz26_1 := blk_frozen BK261.out 1; have hfz26_2 := blk_frozen BK261.out 2; have hfz26_3 := blk_frozen BK261.out 3; have hfz26_4 := blk_frozen BK261.out 4; have hfz26_5 := blk_frozen BK261.out 5; have hfz26_6 := blk_frozen BK261.out 6; have hfz26_7 := blk_frozen BK261.out 7; have hfz26_8 := blk_frozen BK261.out 8))
           go_roundg kj6
           case measure => have := HK1.out; have := HJ6.out; omega
           case rel => exact ⟨(x5_1), (y262), (wrap64 (x13_1 + 1)), (by first | rfl | (simp; done) | (simp [*]; done)), H', ⟨by have := HK1.out; have := HJ6.out; omega⟩, ⟨by (with_reducible repeat (first | apply Kd.S_alloc | apply Kd.S_drewN | apply Kd.S_drew)); exact Kd.S_mono HO_5.out (fun _ hk => hk.2)⟩, ⟨by (with_reducible repeat (first | apply Kd.R_alloc | apply Kd.R_drewN | apply Kd.R_drew)); exact HO264.out⟩, ⟨by repeat (first | (with_reducible first | exact HB.out | apply below_alloc | apply pw_below_drewN | apply below_drew1 | refine below_set ?_ GE261.out) | exact HB.out)⟩⟩
         ·rw [if_neg c16] at H
          exact absurd H (by simp)
     ·rw [if_neg c5] at H
      exact absurd H (by simp)
    ·rw [if_neg c4] at H
     exact absurd H (by simp)
   ·rw [if_neg c3] at H
    have c3b0 : decide (x13_1 < (l0.length : Int)) = false := decide_eq_false c3
    clear c3
    obtain rfl := Option.some.inj H
    go_wp2
    go_ret
    exact ⟨_, by first | rfl | (simp [errW_none, errW_some] <;> rfl) | (simp [*, errW_none, errW_some] <;> rfl), by (with_reducible repeat (first | apply Kd.S_alloc | apply Kd.S_drewN | apply Kd.S_drew)); exact Kd.S_mono HO_5.out (fun _ hk => trivial), by repeat (first | (with_reducible first | exact HB.out | apply below_alloc | apply pw_below_drewN | apply below_drew1) | exact HB.out)⟩

/-! ### stowagelaw15_awake: function 12 -/
theorem row1_C {w : World} {g c : Nat} {A : Option Addr} {t : TypeId} {fr : Nat × Nat} {xs : List Int} (h : w.heap[g]? = some (.cells #[.slice A xs.length c] t fr)) (hc : xs.length ≤ c) (hr : Kd.C (Kd.int .u8) w A xs.length xs) :
  Kd.C (Kd.slice 5 (Kd.int .u8)) w (some ⟨g, 0, none⟩) [xs].length [xs] := by
 refine ⟨rfl, by simp, fun _ => ⟨_, rfl, fun j p hj => ?_⟩⟩
 have hj0 : j = 0 := by
  rcases Nat.lt_or_ge j 1 with h1 | h1
  ·omega
  ·rw [List.getElem?_eq_none (by simpa using h1)] at hj
   cases hj
 subst hj0
 obtain rfl : xs = p := by simpa using hj
 refine ⟨[.slice A xs.length c], rfl, ⟨A, c, rfl, hc, hr⟩, fun i u hu => ?_⟩
 have hi0 : i = 0 := by
  rcases Nat.lt_or_ge i 1 with h1 | h1
  ·omega
  ·rw [List.getElem?_eq_none (by simpa using h1)] at hu
   cases hu
 subst hi0
 obtain rfl : Value.slice A xs.length c = u := by simpa using hu
 rw [add_plain]
 simp [World.cell?, h]
def awL : Obj := .cells #[.int .i64 1, .int .i64 0, .bool true, .int .i64 9, .int .i64 3, .int .i64 1, .int .i64 0, .int .i64 0, .string ⟨#[]⟩] 25
def stowagelaw15_awake.f (k : Nat) : Option Bool := (line_Encode.f k 1 0 true 9 3 1 0 0 ⟨#[]⟩).bind fun be => (line_Decode.f k be.1).bind fun m => (line_Replay.f k [be.1] 1).bind fun t => if be.2 = 0 ∧ be.1.length = 64 ∧ (m.1 = 1 ∧ m.2.1 = 0 ∧ m.2.2.1 = true ∧ m.2.2.2.1 = 9 ∧ m.2.2.2.2.1 = 3 ∧ m.2.2.2.2.2.1 = 1 ∧ m.2.2.2.2.2.2.1 = 0 ∧ m.2.2.2.2.2.2.2.1 = 0 ∧ m.2.2.2.2.2.2.2.2.1.size = 0 ∧ m.2.2.2.2.2.2.2.2.2 = 0) ∧ t.length = 1 then some true else none
theorem stowagelaw15_awake.mono : ∀ k, LeO (stowagelaw15_awake.f k) (stowagelaw15_awake.f (k + 1)) := by
 intro k
 unfold stowagelaw15_awake.f
 exact LeO.bind (line_Encode.mono _ _ _ _ _ _ _ _ _ _) (fun _ => LeO.bind (line_Decode.mono _ _) (fun _ => LeO.bind (line_Replay.mono _ _ _) (fun _ => LeO.refl _)))
set_option maxHeartbeats 2000000 in
set_option maxRecDepth 100000 in
theorem stowagelaw15_awake.calls (k : Nat) (r : Bool) (w : World) (h : stowagelaw15_awake.f k = some r) :
  Calls Try.prog 12 #[] w fun e w' => e = .returned (.bool r) ∧ Below w.heap.size w w' := by
 have hu25 := Try.underlying25
 have hu23 := Try.underlying23
 unfold stowagelaw15_awake.f at h
 obtain ⟨⟨b, e⟩, h1, h⟩ := Option.bind_eq_some_iff.1 h
 obtain ⟨m, h2, h⟩ := Option.bind_eq_some_iff.1 h
 obtain ⟨t, h3, h⟩ := Option.bind_eq_some_iff.1 h
 obtain ⟨m1, m2, m3, m4, m5, m6, m7, m8, m9, m10⟩ := m
 by_cases c : e = 0 ∧ b.length = 64 ∧ (m1 = 1 ∧ m2 = 0 ∧ m3 = true ∧ m4 = 9 ∧ m5 = 3 ∧ m6 = 1 ∧ m7 = 0 ∧ m8 = 0 ∧ m9.size = 0 ∧ m10 = 0) ∧ t.length = 1
 ·dsimp only at h
  rw [if_pos c] at h
  obtain rfl := Option.some.inj h
  obtain ⟨rfl, cl, ⟨rfl, rfl, rfl, rfl, rfl, rfl, rfl, rfl, c9, rfl⟩, ct⟩ := c
  obtain rfl : m9 = ⟨#[]⟩ := by
   obtain ⟨x⟩ := m9
   have : x = #[] := Array.eq_empty_of_size_eq_zero c9
   rw [this]
  clear c9
  have H1 := Aside0.mk h1
  have H2 := Aside0.mk h2
  have H3 := Aside0.mk h3
  have CL := Aside0.mk cl
  have CT := Aside0.mk ct
  clear h h1 h2 h3 cl ct
  go_enter Try.func12, Try.ntmps12
  go_wp2_with (first
   | (go_at_call 10; refine (line_Encode.calls k 1 0 true 9 3 1 0 0 ⟨#[]⟩ b 0 _ H1.out).mono ?_; rintro e w1 ⟨v, rfl, ho, hb⟩; obtain ⟨A1, c1, rfl⟩ := Kd.R_slice ho; rw [CL.out]; have HC1 := Aside0.mk (Kd.R_reads' ho).2.2; have HL1 := Aside0.mk (Kd.R_reads' ho).2.1; have HB := Aside0.mk hb; clear ho hb)
   | (go_at_call 13; have hc := line_Decode.calls k A1 c1 b 1 0 true 9 3 1 0 0 ⟨#[]⟩ 0 w1 HC1.out HL1.out H2.out; rw [CL.out] at hc; refine hc.mono ?_; clear hc; rintro e w2 ⟨rfl, hb⟩; have HC2 := Aside0.mk (Kd.C_below HC1.out hb); have HB2 := Aside0.mk hb; clear hb))
  have hh : ((w2.alloc awL).alloc (.cells #[.slice A1 b.length c1] 26)).heap[w2.heap.size + 1]? = some (.cells #[.slice A1 b.length c1] 26 (0, 0)) := by
   have h9 := heap_alloc_new (w2.alloc awL) (.cells #[.slice A1 b.length c1] 26)
   have h8 : (w2.alloc awL).heap.size = w2.heap.size + 1 := by simp
   rwa [h8] at h9
  have hc := line_Replay.calls k (some ⟨w2.heap.size + 1, 0, none⟩) 1 [b] 1 t _ (row1_C hh HL1.out (Kd.C_alloc (Kd.C_alloc HC2.out _) _)) (by simp) H3.out
  rw [CL.out] at hc
  refine hc.mono ?_
  clear hc hh
  rintro e w3 ⟨v3, rfl, ho, hb⟩
  obtain ⟨A3, c3, rfl⟩ := Kd.S_slice ho
  rw [CT.out]
  have BL := Aside0.mk (blk_below (blk_alloc (blk_alloc (blk_below (blk_below (heap_alloc_new w awL) HB.out) HB2.out) awL) (.cells #[.slice A1 64 c1] 26)) hb)
  have BM := Aside0.mk (blk_below (blk_alloc (heap_alloc_new w2 awL) (.cells #[.slice A1 64 c1] 26)) hb)
  have HB3 := Aside0.mk hb
  clear ho hb
  have l0 : w3.cell? ⟨w.heap.size, 0, none⟩ = some (.int .i64 1) := (blk_cell BL.out 0).trans rfl
  have l1 : w3.cell? ⟨w.heap.size, 1, none⟩ = some (.int .i64 0) := (blk_cell BL.out 1).trans rfl
  have l2 : w3.cell? ⟨w.heap.size, 2, none⟩ = some (.bool true) := (blk_cell BL.out 2).trans rfl
  have l3 : w3.cell? ⟨w.heap.size, 3, none⟩ = some (.int .i64 9) := (blk_cell BL.out 3).trans rfl
  have l4 : w3.cell? ⟨w.heap.size, 4, none⟩ = some (.int .i64 3) := (blk_cell BL.out 4).trans rfl
  have l5 : w3.cell? ⟨w.heap.size, 5, none⟩ = some (.int .i64 1) := (blk_cell BL.out 5).trans rfl
  have l6 : w3.cell? ⟨w.heap.size, 6, none⟩ = some (.int .i64 0) := (blk_cell BL.out 6).trans rfl
  have l7 : w3.cell? ⟨w.heap.size, 7, none⟩ = some (.int .i64 0) := (blk_cell BL.out 7).trans rfl
  have l8 : w3.cell? ⟨w.heap.size, 8, none⟩ = some (.string ⟨#[]⟩) := (blk_cell BL.out 8).trans rfl
  have m0 : w3.cell? ⟨w2.heap.size, 0, none⟩ = some (.int .i64 1) := (blk_cell BM.out 0).trans rfl
  have m1 : w3.cell? ⟨w2.heap.size, 1, none⟩ = some (.int .i64 0) := (blk_cell BM.out 1).trans rfl
  have m2 : w3.cell? ⟨w2.heap.size, 2, none⟩ = some (.bool true) := (blk_cell BM.out 2).trans rfl
  have m3 : w3.cell? ⟨w2.heap.size, 3, none⟩ = some (.int .i64 9) := (blk_cell BM.out 3).trans rfl
  have m4 : w3.cell? ⟨w2.heap.size, 4, none⟩ = some (.int .i64 3) := (blk_cell BM.out 4).trans rfl
  have m5 : w3.cell? ⟨w2.heap.size, 5, none⟩ = some (.int .i64 1) := (blk_cell BM.out 5).trans rfl
  have m6 : w3.cell? ⟨w2.heap.size, 6, none⟩ = some (.int .i64 0) := (blk_cell BM.out 6).trans rfl
  have m7 : w3.cell? ⟨w2.heap.size, 7, none⟩ = some (.int .i64 0) := (blk_cell BM.out 7).trans rfl
  have m8 : w3.cell? ⟨w2.heap.size, 8, none⟩ = some (.string ⟨#[]⟩) := (blk_cell BM.out 8).trans rfl
  go_wp2_with fail
  go_ret
  have b1 : Below w.heap.size w w1 := below_then (below_alloc (Below.refl _ _) _) (by simp) HB.out
  have s1 := b1.size
  have b2 : Below w.heap.size w w2 := below_then b1 s1 HB2.out
  have s2 := b2.size
  have b3 := (b2.alloc s2 awL).alloc (Nat.le_trans s2 (by simp)) (.cells #[.slice A1 64 c1] 26)
  have s3 := b3.size
  exact ⟨rfl, below_then b3 s3 HB3.out⟩
 ·dsimp only at h
  rw [if_neg c] at h
  cases h

/-! ### stowageref15_get: function 26 -/
def stowageref15_get.l0 : Nat → List Int → Int → Int → Option (Int)
 | 0, _, _, _ => none
 | k + 1, x0, x3, x4 => if x4 < (x0.length : Int) then (if 0 ≤ x4 then (stowageref15_get.l0 k x0 (wrap64 ((wrap64 (x3 * 256)) + (wrap64 (rd x0 x4)))) (wrap64 (x4 + 1))) else (none)) else (some x3)
def stowageref15_get.f (k : Nat) (l0 : List Int) : Option (Int) := stowageref15_get.l0 k l0 0 0
theorem stowageref15_get.mono_l : ∀ k, (∀ y0 y1 y2, LeO (stowageref15_get.l0 k y0 y1 y2) (stowageref15_get.l0 (k + 1) y0 y1 y2))
 | 0 => fun _ _ _ r h => by simp [stowageref15_get.l0] at h
 | k + 1 => by
  have ih0 := stowageref15_get.mono_l k
  ·intro y0 y1 y2
   unfold stowageref15_get.l0
   repeat' first
   | (with_reducible exact ih0 _ _ _)
   | (with_reducible exact LeO.refl _)
   | (with_reducible exact LeO.none _)
   | (with_reducible refine LeO.ite ?_ ?_)
   | (with_reducible refine LeO.bind ?_ (fun _ => ?_))
   | exact ih0 _ _ _
   | exact LeO.none _
   | refine LeO.ite ?_ ?_
   | refine LeO.bind ?_ (fun _ => ?_)
theorem stowageref15_get.mono : ∀ a0 k, LeO (stowageref15_get.f k a0) (stowageref15_get.f (k + 1) a0) := by
 intro a0 k
 have ih0 := stowageref15_get.mono_l k
 unfold stowageref15_get.f
 repeat' first
   | (with_reducible exact ih0 _ _ _)
   | (with_reducible exact LeO.refl _)
   | (with_reducible exact LeO.none _)
   | (with_reducible refine LeO.ite ?_ ?_)
   | (with_reducible refine LeO.bind ?_ (fun _ => ?_))
   | exact ih0 _ _ _
   | exact LeO.none _
   | refine LeO.ite ?_ ?_
   | refine LeO.bind ?_ (fun _ => ?_)
set_option maxHeartbeats 8000000 in
set_option maxRecDepth 100000 in
theorem stowageref15_get.calls (k : Nat) (A0 : Option Addr) (c0 : Nat) (l0 : List Int) (r : Int) (w : World) (hr0 : Kd.C (Kd.int .u8) w A0 l0.length l0) (hc0 : l0.length ≤ c0) (h : stowageref15_get.f k l0 = some r) :
  Calls Try.prog 26 #[.slice A0 l0.length c0] w fun e w' => e = .returned (.int .i64 r) ∧ Drawn0 w w' := by
 have HR0 := Aside0.mk hr0
 have HC0 := Aside0.mk hc0
 clear hr0 hc0
 have H : (stowageref15_get.l0 k l0 0 0) = some r := h
 clear h
 have H' := Aside0.mk H
 clear H
 go_enter Try.func26, Try.ntmps26
 go_wp2
 go_loopg [3, 4] k (fun kq v3 v4 w' => ∃ (x3_1 : Int) (x4_1 : Int), v3 = .int .i64 x3_1 ∧ v4 = .int .i64 x4_1 ∧ Aside0 (stowageref15_get.l0 kq l0 x3_1 x4_1 = some r) ∧ Aside0 (kq ≤ k) ∧ Drawn0 w w')
 case atStart => exact ⟨(0), (0), (by first | rfl | (simp; done) | (simp [*]; done)), (by first | rfl | (simp; done) | (simp [*]; done)), H', ⟨Nat.le_refl _⟩, by repeat (first | exact Drawn0.refl _ | apply Drawn0.step)⟩
 case round =>
  clear H'
  obtain ⟨x3_1, x4_1, rfl, rfl, HA, HK1, ⟨m1, rfl⟩⟩ := hrel
  cases gk with
  | zero => exact absurd HA.out (by simp [stowageref15_get.l0])
  | succ k1 =>
   have H := HA.out
   clear HA
   simp only [stowageref15_get.l0] at H
   by_cases c2 : x4_1 < (l0.length : Int)
   ·rw [if_pos c2] at H
    have c2b0 : decide (x4_1 < (l0.length : Int)) = true := decide_eq_true c2
    clear c2
    by_cases c3 : 0 ≤ x4_1
    ·rw [if_pos c3] at H
     have c3b0 : decide (0 ≤ x4_1) = true := decide_eq_true c3
     clear c3
     have H' := Aside0.mk H
     clear H
     have p278 : 0 ≤ (x4_1 : Int) := of_decide_eq_true (by first | (with_reducible assumption) | assumption)
     have q278 : x4_1 < (l0.length : Int) := of_decide_eq_true (by first | (with_reducible assumption) | assumption)
     obtain ⟨ad278, e278, hx278_0⟩ := Kd.at_int HR0.out x4_1 p278 q278
     cases e278
     replace p278 := eq_true p278
     replace q278 := eq_true q278
     go_wp2
     go_roundg k1
     case measure => have := HK1.out; omega
     case rel => exact ⟨(wrap64 ((wrap64 (x3_1 * 256)) + (wrap64 (rd l0 x4_1)))), (wrap64 (x4_1 + 1)), (by first | rfl | (simp; done) | (simp [*]; done)), (by first | rfl | (simp; done) | (simp [*]; done)), H', ⟨by have := HK1.out; omega⟩, by repeat (first | exact Drawn0.refl _ | apply Drawn0.step)⟩
    ·rw [if_neg c3] at H
     exact absurd H (by simp)
   ·rw [if_neg c2] at H
    have c2b0 : decide (x4_1 < (l0.length : Int)) = false := decide_eq_false c2
    clear c2
    obtain rfl := Option.some.inj H
    go_wp2
    go_ret
    exact ⟨by first | rfl | (simp; done) | (simp [*]; done), by repeat (first | exact Drawn0.refl _ | apply Drawn0.step)⟩

end Go.Proofs.Ytjfdjbmahahllaa.QLine
