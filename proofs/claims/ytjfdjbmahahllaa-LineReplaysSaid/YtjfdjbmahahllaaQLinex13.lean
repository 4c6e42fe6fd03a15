/- Written by a program of this session (wip/tools/mk.py) out of the kit's printing programs and of texts of our own: the contracts of the Go functions that the law goes through, and the row of the law. No condition is added. -/
import Derived.Test.YtjfdjbmahahllaaQLinex0
import Derived.Test.YtjfdjbmahahllaaQLinex2
import Derived.Test.YtjfdjbmahahllaaQLinex10
/- tight -/
namespace Go.Proofs.Ytjfdjbmahahllaa.QLine
open Go.RowKit Go.Proofs.YtjfdjbmahahllaaW.PrintWords Go.Proofs.YtjfdjbmahahllaaW.PrintLast Go.Proofs.YtjfdjbmahahllaaW.PrintMore
attribute [local go_sem] max2_int min2_int max_two min_two max_three min_three max_four min_four   -- for this text's walks alone
set_option linter.unusedVariables false
set_option linter.unusedSimpArgs false

attribute [local go_sem] min_seven
attribute [local go_sem high] eqA25
/-! ### stowageref15_Replay: function 17 -/
mutual
def stowageref15_Replay.l0 : Nat → List (List Int) → Int → List (List (S23)) → List (S23) → Int → Option ((List (List (S23))))
 | 0, _, _, _, _, _ => none
 | k + 1, x0, x1, x5, x6, x7 => if x7 < (x0.length : Int) then (if 0 ≤ x7 then ((stowageref15_Decode.f k (rd_L3 x0 x7)).bind fun bt392 => (if bt392.2.2.2.2.2.2.2.2.2 = 0 then (if bt392.1 = x1 then (stowageref15_Replay.j1 k x0 x1 x5 x6 x7 (bt392.2.1 != x7) bt392.1 bt392.2.1 bt392.2.2.1 bt392.2.2.2.1 bt392.2.2.2.2.1 bt392.2.2.2.2.2.1 bt392.2.2.2.2.2.2.1 bt392.2.2.2.2.2.2.2.1 bt392.2.2.2.2.2.2.2.2.1) else (stowageref15_Replay.j1 k x0 x1 x5 x6 x7 true bt392.1 bt392.2.1 bt392.2.2.1 bt392.2.2.2.1 bt392.2.2.2.2.1 bt392.2.2.2.2.2.1 bt392.2.2.2.2.2.2.1 bt392.2.2.2.2.2.2.2.1 bt392.2.2.2.2.2.2.2.2.1)) else (stowageref15_Replay.j1 k x0 x1 x5 x6 x7 true bt392.1 bt392.2.1 bt392.2.2.1 bt392.2.2.2.1 bt392.2.2.2.2.1 bt392.2.2.2.2.2.1 bt392.2.2.2.2.2.2.1 bt392.2.2.2.2.2.2.2.1 bt392.2.2.2.2.2.2.2.2.1))) else (none)) else (some x5)
def stowageref15_Replay.j1 : Nat → List (List Int) → Int → List (List (S23)) → List (S23) → Int → Bool → Int → Int → Bool → Int → Int → Int → Int → Int → ByteArray → Option ((List (List (S23))))
 | 0, _, _, _, _, _, _, _, _, _, _, _, _, _, _, _ => none
 | k + 1, x0, x1, x5, x6, x7, x39, x403000, x403001, x403002, x403003, x403004, x403005, x403006, x403007, x403008 => if x39 = true then (some x5) else (if x6.length < 2513169434916 then ((some (x6 ++ [(⟨x403003, x403004, x403005, x403006, x403007, x403008⟩ : S23)] : List (S23))).bind fun y403 => (if x403002 = true then (if x5.length < 5864062014805 then (stowageref15_Replay.l0 k x0 x1 (x5 ++ [y403]) (([] : List (S23))) (wrap64 (x7 + 1))) else (none)) else (stowageref15_Replay.l0 k x0 x1 x5 y403 (wrap64 (x7 + 1))))) else (none))
end
def stowageref15_Replay.f (k : Nat) (l0 : List (List Int)) (a1 : Int) : Option ((List (List (S23)))) := stowageref15_Replay.l0 k l0 a1 (([] : List (List (S23)))) (([] : List (S23))) 0
theorem stowageref15_Replay.mono_l : ∀ k, (∀ y0 y1 y2 y3 y4, LeO (stowageref15_Replay.l0 k y0 y1 y2 y3 y4) (stowageref15_Replay.l0 (k + 1) y0 y1 y2 y3 y4)) ∧ (∀ y0 y1 y2 y3 y4 y5 y6 y7 y8 y9 y10 y11 y12 y13 y14, LeO (stowageref15_Replay.j1 k y0 y1 y2 y3 y4 y5 y6 y7 y8 y9 y10 y11 y12 y13 y14) (stowageref15_Replay.j1 (k + 1) y0 y1 y2 y3 y4 y5 y6 y7 y8 y9 y10 y11 y12 y13 y14))
 | 0 => ⟨fun _ _ _ _ _ r h => by simp [stowageref15_Replay.l0] at h, fun _ _ _ _ _ _ _ _ _ _ _ _ _ _ _ r h => by simp [stowageref15_Replay.j1] at h⟩
 | k + 1 => by
  obtain ⟨ih0, ih1⟩ := stowageref15_Replay.mono_l k
  refine ⟨?_, ?_⟩
  ·intro y0 y1 y2 y3 y4
   unfold stowageref15_Replay.l0
   repeat' first
   | (with_reducible exact ih0 _ _ _ _ _)
   | (with_reducible exact ih1 _ _ _ _ _ _ _ _ _ _ _ _ _ _ _)
   | (with_reducible exact stowageref15_Decode.mono _ _)
   | (with_reducible exact LeO.refl _)
   | (with_reducible exact LeO.none _)
   | (with_reducible refine LeO.ite ?_ ?_)
   | (with_reducible refine LeO.bind ?_ (fun _ => ?_))
   | exact ih0 _ _ _ _ _
   | exact ih1 _ _ _ _ _ _ _ _ _ _ _ _ _ _ _
   | exact stowageref15_Decode.mono _ _
   | exact LeO.none _
   | refine LeO.ite ?_ ?_
   | refine LeO.bind ?_ (fun _ => ?_)
  ·intro y0 y1 y2 y3 y4 y5 y6 y7 y8 y9 y10 y11 y12 y13 y14
   unfold stowageref15_Replay.j1
   repeat' first
   | (with_reducible exact ih0 _ _ _ _ _)
   | (with_reducible exact ih1 _ _ _ _ _ _ _ _ _ _ _ _ _ _ _)
   | (with_reducible exact stowageref15_Decode.mono _ _)
   | (with_reducible exact LeO.refl _)
   | (with_reducible exact LeO.none _)
   | (with_reducible refine LeO.ite ?_ ?_)
   | (with_reducible refine LeO.bind ?_ (fun _ => ?_))
   | exact ih0 _ _ _ _ _
   | exact ih1 _ _ _ _ _ _ _ _ _ _ _ _ _ _ _
   | exact stowageref15_Decode.mono _ _
   | exact LeO.none _
   | refine LeO.ite ?_ ?_
   | refine LeO.bind ?_ (fun _ => ?_)
theorem stowageref15_Replay.mono : ∀ a0 a1 k, LeO (stowageref15_Replay.f k a0 a1) (stowageref15_Replay.f (k + 1) a0 a1) := by
 intro a0 a1 k
 obtain ⟨ih0, ih1⟩ := stowageref15_Replay.mono_l k
 unfold stowageref15_Replay.f
 repeat' first
   | (with_reducible exact ih0 _ _ _ _ _)
   | (with_reducible exact ih1 _ _ _ _ _ _ _ _ _ _ _ _ _ _ _)
   | (with_reducible exact stowageref15_Decode.mono _ _)
   | (with_reducible exact LeO.refl _)
   | (with_reducible exact LeO.none _)
   | (with_reducible refine LeO.ite ?_ ?_)
   | (with_reducible refine LeO.bind ?_ (fun _ => ?_))
   | exact ih0 _ _ _ _ _
   | exact ih1 _ _ _ _ _ _ _ _ _ _ _ _ _ _ _
   | exact stowageref15_Decode.mono _ _
   | exact LeO.none _
   | refine LeO.ite ?_ ?_
   | refine LeO.bind ?_ (fun _ => ?_)
set_option maxHeartbeats 8000000 in
set_option maxRecDepth 100000 in
theorem stowageref15_Replay.calls (k : Nat) (A0 : Option Addr) (c0 : Nat) (l0 : List (List Int)) (a1 : Int) (r : List (List (S23))) (w : World) (hr0 : Kd.C (Kd.slice 5 (Kd.int .u8)) w A0 l0.length l0) (hc0 : l0.length ≤ c0) (h : stowageref15_Replay.f k l0 a1 = some r) :
  Calls Try.prog 17 #[.slice A0 l0.length c0, .int .i64 a1] w fun e w' => ∃ v0_ : Value, e = .returned (v0_) ∧ Kd.S (Kd.slice 23 k23) 45 w' w.heap.size (fun _ => True) v0_ r ∧ Below w.heap.size w w' := by
 have hu25 := Try.underlying25
 have hu23 := Try.underlying23
 have HR0 := Aside0.mk hr0
 have HC0 := Aside0.mk hc0
 clear hr0 hc0
 have HB := Aside0.mk (Below.refl w.heap.size w)
 have H : (stowageref15_Replay.l0 k l0 a1 (([] : List (List (S23)))) (([] : List (S23))) 0) = some r := h
 clear h
 obtain ⟨y385, hy385⟩ : ∃ y_ : List (List (S23)), y_ = (([] : List (List (S23)))) := ⟨_, rfl⟩
 replace H : (stowageref15_Replay.l0 k l0 a1 y385 (([] : List (S23))) 0) = some r := by first | (rw [hy385]; with_reducible exact H) | (have H2_ := (Option.bind_some _ _).symm.trans H; rw [hy385]; with_reducible exact H2_) | (have H2_ := (Option.bind_some _ _).symm.trans H; with_reducible exact H2_) | with_reducible exact H | (rw [hy385]; exact H) | exact H
 have Ny385 := Aside0.mk hy385
 clear hy385
 obtain ⟨y388, hy388⟩ : ∃ y_ : List (S23), y_ = (([] : List (S23))) := ⟨_, rfl⟩
 replace H : (stowageref15_Replay.l0 k l0 a1 y385 y388 0) = some r := by first | (rw [hy388]; with_reducible exact H) | (have H2_ := (Option.bind_some _ _).symm.trans H; rw [hy388]; with_reducible exact H2_) | (have H2_ := (Option.bind_some _ _).symm.trans H; with_reducible exact H2_) | with_reducible exact H | (rw [hy388]; exact H) | exact H
 have Ny388 := Aside0.mk hy388
 clear hy388
 have H' := Aside0.mk H
 clear H
 go_enter Try.func17, Try.ntmps17
 go_wp2_with (first | ((with_reducible refine gate_dst (N := 10) rfl ?_); refine Kd.S_lit (Kd.slice 23 k23) _ 45 ?hg (N := 10) ?hd (xs := ([] : List (List (S23)))) (inner := []) (ok := fun _ => True) (okp := fun _ => True) ?hr ?hp (fun _ hk => hk) trivial (Below.refl _ _) (Nat.le_refl _) (by simp) ?_; (case hd => rfl); (case hg => rfl); (case hr => first | (go_simp; done) | (go_simp; rfl)); (case hp => exact (Reps.none _ _)); intro v386 w3 ho4 hb hg_ hnew_; clear hg_ hnew_; (first | rw [← Ny385.out] at ho4 | (simp only [Int.reduceToNat] at ho4; rw [← Ny385.out] at ho4)); have n0_ := Aside0.mk (Kd.S_lower ho4 (below_size (by repeat (first | (with_reducible first | exact HB.out | apply below_alloc | apply pw_below_drewN | apply below_drew1) | exact HB.out)))); have n1_ := Aside0.mk (below_step (by repeat (first | (with_reducible first | exact HB.out | apply below_alloc | apply pw_below_drewN | apply below_drew1) | exact HB.out)) hb); clear HB; have HO387 := n0_; have HB := n1_; clear n0_ n1_; clear hb ho4) | ((with_reducible refine gate_dst (N := 11) rfl ?_); refine Kd.R_lit k23 _ 23 ?hg (N := 11) ?hd (xs := ([] : List (S23))) (inner := []) (ok := fun _ => True) (okp := fun _ => True) ?hr ?hp (fun _ hk => hk) trivial (Below.refl _ _) (Nat.le_refl _) (by simp) ?_; (case hd => rfl); (case hg => rfl); (case hr => first | (go_simp; done) | (go_simp; rfl)); (case hp => exact (Reps.none _ _)); intro v389 w5 ho6 hb hg_ hnew_; clear hg_ hnew_; (first | rw [← Ny388.out] at ho6 | (simp only [Int.reduceToNat] at ho6; rw [← Ny388.out] at ho6)); have n0_ := Aside0.mk (Kd.S_elder' (by (with_reducible repeat (first | apply Kd.S_alloc | apply Kd.S_drewN | apply Kd.S_drew)); exact HO387.out) (Kd.R_base ho6) hb); have n1_ := Aside0.mk (Kd.R_lower ho6 (below_size (by repeat (first | (with_reducible first | exact HB.out | apply below_alloc | apply pw_below_drewN | apply below_drew1) | exact HB.out)))); have n2_ := Aside0.mk (below_step (by repeat (first | (with_reducible first | exact HB.out | apply below_alloc | apply pw_below_drewN | apply below_drew1) | exact HB.out)) hb); clear HO387; clear HB; have HO387 := n0_; have HO390 := n1_; have HB := n2_; clear n0_ n1_ n2_; clear hb ho6))
 go_loopg [5, 6, 7] k (fun kq v5 v6 v7 w' => ∃ (x5_1 : List (List (S23))) (x6_1 : List (S23)) (x7_1 : Int), v7 = .int .i64 x7_1 ∧ Aside0 (stowageref15_Replay.l0 kq l0 a1 x5_1 x6_1 x7_1 = some r) ∧ Aside0 (kq ≤ k) ∧ Aside0 (Kd.S (Kd.slice 23 k23) 45 w' w.heap.size (fun k_ => some k_ ≠ (v6 : Value).ownBlock) v5 x5_1) ∧ Aside0 (Kd.R k23 23 w' w.heap.size (fun _ => True) v6 x6_1) ∧ Aside0 (Below w.heap.size w w'))
 case atStart => exact ⟨(y385), (y388), (0), (by first | rfl | (simp; done) | (simp [*]; done)), H', ⟨Nat.le_refl _⟩, ⟨by (with_reducible repeat (first | apply Kd.S_alloc | apply Kd.S_drewN | apply Kd.S_drew)); exact Kd.S_mono HO387.out (fun _ hk => hk.2)⟩, ⟨by (with_reducible repeat (first | apply Kd.R_alloc | apply Kd.R_drewN | apply Kd.R_drew)); exact HO390.out⟩, ⟨by repeat (first | (with_reducible first | exact HB.out | apply below_alloc | apply pw_below_drewN | apply below_drew1) | exact HB.out)⟩⟩
 case round =>
  clear H'
  try clear c1
  try clear p2
  obtain ⟨x5_1, x6_1, x7_1, rfl, HA, HK1, HO_5, HO_6, HB⟩ := hrel
  cases gk with
  | zero => exact absurd HA.out (by simp [stowageref15_Replay.l0])
  | succ k1 =>
   have H := HA.out
   clear HA
   simp only [stowageref15_Replay.l0] at H
   by_cases c7 : x7_1 < (l0.length : Int)
   ·rw [if_pos c7] at H
    have c7b0 : decide (x7_1 < (l0.length : Int)) = true := decide_eq_true c7
    clear c7
    by_cases c8 : 0 ≤ x7_1
    ·rw [if_pos c8] at H
     have c8b0 : decide (0 ≤ x7_1) = true := decide_eq_true c8
     clear c8
     replace H := Option.bind_eq_some_iff.mp H
     obtain ⟨⟨t392, t393, t394, t395, t396, t397, t398, t399, t400, t401⟩, A90, H⟩ := H
     replace H : (if t401 = 0 then (if t392 = a1 then (stowageref15_Replay.j1 k1 l0 a1 x5_1 x6_1 x7_1 (t393 != x7_1) t392 t393 t394 t395 t396 t397 t398 t399 t400) else (stowageref15_Replay.j1 k1 l0 a1 x5_1 x6_1 x7_1 true t392 t393 t394 t395 t396 t397 t398 t399 t400)) else (stowageref15_Replay.j1 k1 l0 a1 x5_1 x6_1 x7_1 true t392 t393 t394 t395 t396 t397 t398 t399 t400)) = some r := H
     have A9 := Aside0.mk A90
     clear A90
     have HC10 := Aside0.mk H
     clear H
     have p391 : 0 ≤ (x7_1 : Int) := of_decide_eq_true (by first | (with_reducible assumption) | assumption)
     have q391 : x7_1 < (l0.length : Int) := of_decide_eq_true (by first | (with_reducible assumption) | assumption)
     obtain ⟨ad391, A391_0, c391_0, e391, hx391_0, hl391_0, hi391_0⟩ := at_L3 HR0.out x7_1 p391 q391
     cases e391
     replace hx391_0 := (HB.out.cell (World.block_lt_of_cell? w _ hx391_0)).trans hx391_0
     have HR391_0 := Aside0.mk hi391_0
     have HC391_0 := Aside0.mk hl391_0
     clear hi391_0 hl391_0
     replace p391 := eq_true p391
     replace q391 := eq_true q391
     go_upto_region 7 with (first | ((with_reducible refine gate_callee (f := 14) rfl ?_); refine goesL_ (some 23) rfl rfl Try.func14 (by kernel_rfl) rfl #[.slice A391_0 (rd_L3 l0 x7_1).length c391_0] rfl (by (try simp only [List.map_toArray, List.map_cons, List.map_nil]); first | done | rfl | (simp only [List.length_drop, List.length_take]; rfl)) ?_; (with_reducible refine (stowageref15_Decode.calls k1 _ _ (rd_L3 l0 x7_1) t392 t393 t394 t395 t396 t397 t398 t399 t400 t401 _ ?side1 ?side2 A9.out).mono ?_); (case side1 => repeat (first | exact (Kd.C_below HR391_0.out HB.out) | (with_reducible refine Kd.C_alloc ?_ _) | (with_reducible refine Kd.C_drewN ?_ _) | (with_reducible refine Kd.C_drew ?_))); (case side2 => exact HC391_0.out); rintro e w11 ⟨rfl, hb⟩; refine ⟨_, rfl, ?_⟩; have n0_ := Aside0.mk (Kd.S_below (by (with_reducible repeat (first | apply Kd.S_alloc | apply Kd.S_drewN | apply Kd.S_drew)); exact HO_5.out) hb); have n1_ := Aside0.mk (Kd.R_below (by (with_reducible repeat (first | apply Kd.R_alloc | apply Kd.R_drewN | apply Kd.R_drew)); exact HO_6.out) hb); have n2_ := Aside0.mk (below_step (by repeat (first | (with_reducible first | exact HB.out | apply below_alloc | apply pw_below_drewN | apply below_drew1) | exact HB.out)) hb); clear HO_5; clear HO_6; clear HB; have HO_5 := n0_; have HO_6 := n1_; have HB := n2_; clear n0_ n1_ n2_; (try clear hb); (try clear hb2); (try clear hk); (try clear hi)) | ((with_reducible refine gate_dst (N := 8) rfl ?_); refine box_event ?hg (N := 8) ?hd (cs := #[.int .i64 0, .int .i64 0, .bool false, .int .i64 0, .int .i64 0, .int .i64 0, .int .i64 0, .int .i64 0, .string (⟨#[]⟩ : ByteArray)]) (t := 25) ?hr ?_; (case hd => rfl); (case hg => rfl); (case hr => first | (go_simp; done) | (go_simp; rfl)); intro gb402 hg w12 hbox hb; have n0_ := Aside0.mk (Kd.S_below (by (with_reducible repeat (first | apply Kd.S_alloc | apply Kd.S_drewN | apply Kd.S_drew)); exact HO_5.out) hb); have n1_ := Aside0.mk (Kd.R_below (by (with_reducible repeat (first | apply Kd.R_alloc | apply Kd.R_drewN | apply Kd.R_drew)); exact HO_6.out) hb); have n2_ := Aside0.mk (below_step (by repeat (first | (with_reducible first | exact HB.out | apply below_alloc | apply pw_below_drewN | apply below_drew1) | exact HB.out)) hb); have n3_ := Aside0.mk (hbox); have n4_ := Aside0.mk ((by rw [hg]; exact (below_size (by repeat (first | (with_reducible first | exact HB.out | apply below_alloc | apply pw_below_drewN | apply below_drew1) | exact HB.out))) : w.heap.size ≤ gb402)); have n5_ := Aside0.mk ((by rw [hg]; exact (below_size (by repeat (first | (with_reducible first | exact HB.out | apply below_alloc | apply pw_below_drewN | apply below_drew1) | exact HB.out))) : w.heap.size ≤ gb402)); clear HO_5; clear HO_6; clear HB; have HO_5 := n0_; have HO_6 := n1_; have HB := n2_; have BK402 := n3_; have GW402 := n4_; have GE402 := n5_; clear n0_ n1_ n2_ n3_ n4_ n5_; clear hb hbox hg; have hcz13_0 : w12.cell? ⟨gb402, 0, none⟩ = some (.int .i64 0) := (blk_cell BK402.out 0).trans rfl; have hcz13_1 : w12.cell? ⟨gb402, 1, none⟩ = some (.int .i64 0) := (blk_cell BK402.out 1).trans rfl; have hcz13_2 : w12.cell? ⟨gb402, 2, none⟩ = some (.bool false) := (blk_cell BK402.out 2).trans rfl; have hcz13_3 : w12.cell? ⟨gb402, 3, none⟩ = some (.int .i64 0) := (blk_cell BK402.out 3).trans rfl; have hcz13_4 : w12.cell? ⟨gb402, 4, none⟩ = some (.int .i64 0) := (blk_cell BK402.out 4).trans rfl; have hcz13_5 : w12.cell? ⟨gb402, 5, none⟩ = some (.int .i64 0) := (blk_cell BK402.out 5).trans rfl; have hcz13_6 : w12.cell? ⟨gb402, 6, none⟩ = some (.int .i64 0) := (blk_cell BK402.out 6).trans rfl; have hcz13_7 : w12.cell? ⟨gb402, 7, none⟩ = some (.int .i64 0) := (blk_cell BK402.out 7).trans rfl; have hcz13_8 : w12.cell? ⟨gb402, 8, none⟩ = some (.string (⟨#[]⟩ : ByteArray)) := (blk_cell BK402.out 8).trans rfl; have hfz13_0 := blk_frozen BK402.out 0; have hfz13_1 := blk_frozen BK402.out 1; have hfz13_2 := blk_frozen BK402.out 2; have hfz13_3 := blk_frozen BK402.out 3; have hfz13_4 := blk_frozen BK402.out 4; have hfz13_5 := blk_frozen BK402.out 5; have hfz13_6 := blk_frozen BK402.out 6; have hfz13_7 := blk_frozen BK402.out 7; have hfz13_8 := blk_frozen BK402.out 8))
     (try simp only [Act.put, List.setIfInBounds_toArray, List.set_cons_zero, List.set_cons_succ])
     go_cut [39] (fun v39 wc => ∃ (kq : Nat) (x39_9 : Bool), v39 = .bool x39_9 ∧ Aside0 (stowageref15_Replay.j1 kq l0 a1 x5_1 x6_1 x7_1 x39_9 t392 t393 t394 t395 t396 t397 t398 t399 t400 = some r) ∧ Aside0 (kq ≤ k1) ∧ Aside0 (Kd.S (Kd.slice 23 k23) 45 wc w.heap.size (fun k_ => some k_ ≠ (u6 : Value).ownBlock) u5 x5_1) ∧ Aside0 (Kd.R k23 23 wc w.heap.size (fun _ => True) u6 x6_1) ∧ Aside0 (wc.heap[gb402]? = some (.cells #[.int .i64 t392, .int .i64 t393, .bool t394, .int .i64 t395, .int .i64 t396, .int .i64 t397, .int .i64 t398, .int .i64 t399, .string t400] 25 (0, 0))) ∧ Aside0 (Below w.heap.size w wc))
     case first =>
      have H := HC10.out
      clear HC10
      by_cases c14 : t401 = 0
      ·rw [if_pos c14] at H
       have c14b0 : (t401 == 0) = true := beq_iff_eq.mpr c14
       have c14b1 : (t401 != 0) = false := bne_eq_false_iff_eq.mpr c14
       clear c14
       (first | rw [c14b0] | (simp only [i64_w, i32_w]; rw [c14b0]) | rw [c14b1] | skip)
       by_cases c15 : t392 = a1
       ·rw [if_pos c15] at H
        have c15b0 : (t392 == a1) = true := beq_iff_eq.mpr c15
        have c15b1 : (t392 != a1) = false := bne_eq_false_iff_eq.mpr c15
        clear c15
        have H' := Aside0.mk H
        clear H
        have hcz16_0 : w12.cell? ⟨gb402, 0, none⟩ = some (.int .i64 0) := (blk_cell BK402.out 0).trans rfl
        have hcz16_1 : w12.cell? ⟨gb402, 1, none⟩ = some (.int .i64 0) := (blk_cell BK402.out 1).trans rfl
        have hcz16_2 : w12.cell? ⟨gb402, 2, none⟩ = some (.bool false) := (blk_cell BK402.out 2).trans rfl
        have hcz16_3 : w12.cell? ⟨gb402, 3, none⟩ = some (.int .i64 0) := (blk_cell BK402.out 3).trans rfl
        have hcz16_4 : w12.cell? ⟨gb402, 4, none⟩ = some (.int .i64 0) := (blk_cell BK402.out 4).trans rfl
        have hcz16_5 : w12.cell? ⟨gb402, 5, none⟩ = some (.int .i64 0) := (blk_cell BK402.out 5).trans rfl
        have hcz16_6 : w12.cell? ⟨gb402, 6, none⟩ = some (.int .i64 0) := (blk_cell BK402.out 6).trans rfl
        have hcz16_7 : w12.cell? ⟨gb402, 7, none⟩ = some (.int .i64 0) := (blk_cell BK402.out 7).trans rfl
        have hcz16_8 : w12.cell? ⟨gb402, 8, none⟩ = some (.string (⟨#[]⟩ : ByteArray)) := (blk_cell BK402.out 8).trans rfl
        have hfz16_0 := blk_frozen BK402.out 0
        have hfz16_1 := blk_frozen BK402.out 1
        have hfz16_2 := blk_frozen BK402.out 2
        have hfz16_3 := blk_frozen BK402.out 3
        have hfz16_4 := blk_frozen BK402.out 4
        have hfz16_5 := blk_frozen BK402.out 5
        have hfz16_6 := blk_frozen BK402.out 6
        have hfz16_7 := blk_frozen BK402.out 7
        have hfz16_8 := blk_frozen BK402.out 8
        go_wp2
        go_meet
        case rel => exact ⟨_, ((t393 != x7_1)), (by first | rfl | (simp; done) | (simp [*]; done)), H', ⟨by have := HK1.out; first | omega | exact Nat.le_refl _⟩, ⟨by (with_reducible repeat (first | apply Kd.S_alloc | apply Kd.S_drewN | apply Kd.S_drew)); exact Kd.S_mono (Kd.S_far (p := ⟨gb402, 8, none⟩) (Kd.S_far (p := ⟨gb402, 7, none⟩) (Kd.S_far (p := ⟨gb402, 6, none⟩) (Kd.S_far (p := ⟨gb402, 5, none⟩) (Kd.S_far (p := ⟨gb402, 4, none⟩) (Kd.S_far (p := ⟨gb402, 3, none⟩) (Kd.S_far (p := ⟨gb402, 2, none⟩) (Kd.S_far (p := ⟨gb402, 1, none⟩) (Kd.S_far (p := ⟨gb402, 0, none⟩) (Kd.S_types HO_5.out BK402.out (by decide)) (fun _ hk => hk.2) (.int .i64 t392)) (fun _ hk => hk.2) (.int .i64 t393)) (fun _ hk => hk.2) (.bool t394)) (fun _ hk => hk.2) (.int .i64 t395)) (fun _ hk => hk.2) (.int .i64 t396)) (fun _ hk => hk.2) (.int .i64 t397)) (fun _ hk => hk.2) (.int .i64 t398)) (fun _ hk => hk.2) (.int .i64 t399)) (fun _ hk => hk.2) (.string t400)) (fun _ hk => hk.1)⟩, ⟨by (with_reducible repeat (first | apply Kd.R_alloc | apply Kd.R_drewN | apply Kd.R_drew)); exact Kd.R_mono (Kd.R_far (p := ⟨gb402, 8, none⟩) (Kd.R_far (p := ⟨gb402, 7, none⟩) (Kd.R_far (p := ⟨gb402, 6, none⟩) (Kd.R_far (p := ⟨gb402, 5, none⟩) (Kd.R_far (p := ⟨gb402, 4, none⟩) (Kd.R_far (p := ⟨gb402, 3, none⟩) (Kd.R_far (p := ⟨gb402, 2, none⟩) (Kd.R_far (p := ⟨gb402, 1, none⟩) (Kd.R_far (p := ⟨gb402, 0, none⟩) (Kd.R_types HO_6.out BK402.out (by decide)) (fun _ hk => hk.2) (.int .i64 t392)) (fun _ hk => hk.2) (.int .i64 t393)) (fun _ hk => hk.2) (.bool t394)) (fun _ hk => hk.2) (.int .i64 t395)) (fun _ hk => hk.2) (.int .i64 t396)) (fun _ hk => hk.2) (.int .i64 t397)) (fun _ hk => hk.2) (.int .i64 t398)) (fun _ hk => hk.2) (.int .i64 t399)) (fun _ hk => hk.2) (.string t400)) (fun _ hk => trivial)⟩, ⟨by (with_reducible repeat (first | refine blk_drewN ?_ _ | refine blk_drew ?_ | refine blk_alloc ?_ _)); refine blk_put (cs := #[.int .i64 t392, .int .i64 t393, .bool t394, .int .i64 t395, .int .i64 t396, .int .i64 t397, .int .i64 t398, .int .i64 t399, .string (⟨#[]⟩ : ByteArray)]) ?_ 8 _ rfl; (with_reducible repeat (first | refine blk_drewN ?_ _ | refine blk_drew ?_ | refine blk_alloc ?_ _)); refine blk_put (cs := #[.int .i64 t392, .int .i64 t393, .bool t394, .int .i64 t395, .int .i64 t396, .int .i64 t397, .int .i64 t398, .int .i64 0, .string (⟨#[]⟩ : ByteArray)]) ?_ 7 _ rfl; (with_reducible repeat (first | refine blk_drewN ?_ _ | refine blk_drew ?_ | refine blk_alloc ?_ _)); refine blk_put (cs := #[.int .i64 t392, .int .i64 t393, .bool t394, .int .i64 t395, .int .i64 t396, .int .i64 t397, .int .i64 0, .int .i64 0, .string (⟨#[]⟩ : ByteArray)]) ?_ 6 _ rfl; (with_reducible repeat (first | refine blk_drewN ?_ _ | refine blk_drew ?_ | refine blk_alloc ?_ _)); refine blk_put (cs := #[.int .i64 t392, .int .i64 t393, .bool t394, .int .i64 t395, .int .i64 t396, .int .i64 0, .int .i64 0, .int .i64 0, .string (⟨#[]⟩ : ByteArray)]) ?_ 5 _ rfl; (with_reducible repeat (first | refine blk_drewN ?_ _ | refine blk_drew ?_ | refine blk_alloc ?_ _)); refine blk_put (cs := #[.int .i64 t392, .int .i64 t393, .bool t394, .int .i64 t395, .int .i64 0, .int .i64 0, .int .i64 0, .int .i64 0, .string (⟨#[]⟩ : ByteArray)]) ?_ 4 _ rfl; (with_reducible repeat (first | refine blk_drewN ?_ _ | refine blk_drew ?_ | refine blk_alloc ?_ _)); refine blk_put (cs := #[.int .i64 t392, .int .i64 t393, .bool t394, .int .i64 0, .int .i64 0, .int .i64 0, .int .i64 0, .int .i64 0, .string (⟨#[]⟩ : ByteArray)]) ?_ 3 _ rfl; (with_reducible repeat (first | refine blk_drewN ?_ _ | refine blk_drew ?_ | refine blk_alloc ?_ _)); refine blk_put (cs := #[.int .i64 t392, .int .i64 t393, .bool false, .int .i64 0, .int .i64 0, .int .i64 0, .int .i64 0, .int .i64 0, .string (⟨#[]⟩ : ByteArray)]) ?_ 2 _ rfl; (with_reducible repeat (first | refine blk_drewN ?_ _ | refine blk_drew ?_ | refine blk_alloc ?_ _)); refine blk_put (cs := #[.int .i64 t392, .int .i64 0, .bool false, .int .i64 0, .int .i64 0, .int .i64 0, .int .i64 0, .int .i64 0, .string (⟨#[]⟩ : ByteArray)]) ?_ 1 _ rfl; (with_reducible repeat (first | refine blk_drewN ?_ _ | refine blk_drew ?_ | refine blk_alloc ?_ _)); refine blk_put (cs := #[.int .i64 0, .int .i64 0, .bool false, .int .i64 0, .int .i64 0, .int .i64 0, .int .i64 0, .int .i64 0, .string (⟨#[]⟩ : ByteArray)]) ?_ 0 _ rfl; (with_reducible repeat (first | refine blk_drewN ?_ _ | refine blk_drew ?_ | refine blk_alloc ?_ _)); exact BK402.out⟩, ⟨by repeat (first | (with_reducible first | exact HB.out | apply below_alloc | apply pw_below_drewN | apply below_drew1 | refine below_set ?_ GE402.out) | exact HB.out)⟩⟩
       ·rw [if_neg c15] at H
        have c15b0 : (t392 == a1) = false := beq_eq_false_iff_ne.mpr c15
        have c15b1 : (t392 != a1) = true := bne_iff_ne.mpr c15
        have H' := Aside0.mk H
        clear H
        have hcz17_0 : w12.cell? ⟨gb402, 0, none⟩ = some (.int .i64 0) := (blk_cell BK402.out 0).trans rfl
        have hcz17_1 : w12.cell? ⟨gb402, 1, none⟩ = some (.int .i64 0) := (blk_cell BK402.out 1).trans rfl
        have hcz17_2 : w12.cell? ⟨gb402, 2, none⟩ = some (.bool false) := (blk_cell BK402.out 2).trans rfl
        have hcz17_3 : w12.cell? ⟨gb402, 3, none⟩ = some (.int .i64 0) := (blk_cell BK402.out 3).trans rfl
        have hcz17_4 : w12.cell? ⟨gb402, 4, none⟩ = some (.int .i64 0) := (blk_cell BK402.out 4).trans rfl
        have hcz17_5 : w12.cell? ⟨gb402, 5, none⟩ = some (.int .i64 0) := (blk_cell BK402.out 5).trans rfl
        have hcz17_6 : w12.cell? ⟨gb402, 6, none⟩ = some (.int .i64 0) := (blk_cell BK402.out 6).trans rfl
        have hcz17_7 : w12.cell? ⟨gb402, 7, none⟩ = some (.int .i64 0) := (blk_cell BK402.out 7).trans rfl
        have hcz17_8 : w12.cell? ⟨gb402, 8, none⟩ = some (.string (⟨#[]⟩ : ByteArray)) := (blk_cell BK402.out 8).trans rfl
        have hfz17_0 := blk_frozen BK402.out 0
        have hfz17_1 := blk_frozen BK402.out 1
        have hfz17_2 := blk_frozen BK402.out 2
        have hfz17_3 := blk_frozen BK402.out 3
        have hfz17_4 := blk_frozen BK402.out 4
        have hfz17_5 := blk_frozen BK402.out 5
        have hfz17_6 := blk_frozen BK402.out 6
        have hfz17_7 := blk_frozen BK402.out 7
        have hfz17_8 := blk_frozen BK402.out 8
        go_wp2
        go_meet
        case rel => exact ⟨_, (true), (by first | rfl | (simp; done) | (simp [*]; done)), H', ⟨by have := HK1.out; first | omega | exact Nat.le_refl _⟩, ⟨by (with_reducible repeat (first | apply Kd.S_alloc | apply Kd.S_drewN | apply Kd.S_drew)); exact Kd.S_mono (Kd.S_far (p := ⟨gb402, 8, none⟩) (Kd.S_far (p := ⟨gb402, 7, none⟩) (Kd.S_far (p := ⟨gb402, 6, none⟩) (Kd.S_far (p := ⟨gb402, 5, none⟩) (Kd.S_far (p := ⟨gb402, 4, none⟩) (Kd.S_far (p := ⟨gb402, 3, none⟩) (Kd.S_far (p := ⟨gb402, 2, none⟩) (Kd.S_far (p := ⟨gb402, 1, none⟩) (Kd.S_far (p := ⟨gb402, 0, none⟩) (Kd.S_types HO_5.out BK402.out (by decide)) (fun _ hk => hk.2) (.int .i64 t392)) (fun _ hk => hk.2) (.int .i64 t393)) (fun _ hk => hk.2) (.bool t394)) (fun _ hk => hk.2) (.int .i64 t395)) (fun _ hk => hk.2) (.int .i64 t396)) (fun _ hk => hk.2) (.int .i64 t397)) (fun _ hk => hk.2) (.int .i64 t398)) (fun _ hk => hk.2) (.int .i64 t399)) (fun _ hk => hk.2) (.string t400)) (fun _ hk => hk.1)⟩, ⟨by (with_reducible repeat (first | apply Kd.R_alloc | apply Kd.R_drewN | apply Kd.R_drew)); exact Kd.R_mono (Kd.R_far (p := ⟨gb402, 8, none⟩) (Kd.R_far (p := ⟨gb402, 7, none⟩) (Kd.R_far (p := ⟨gb402, 6, none⟩) (Kd.R_far (p := ⟨gb402, 5, none⟩) (Kd.R_far (p := ⟨gb402, 4, none⟩) (Kd.R_far (p := ⟨gb402, 3, none⟩) (Kd.R_far (p := ⟨gb402, 2, none⟩) (Kd.R_far (p := ⟨gb402, 1, none⟩) (Kd.R_far (p := ⟨gb402, 0, none⟩) (Kd.R_types HO_6.out BK402.out (by decide)) (fun _ hk => hk.2) (.int .i64 t392)) (fun _ hk => hk.2) (.int .i64 t393)) (fun _ hk => hk.2) (.bool t394)) (fun _ hk => hk.2) (.int .i64 t395)) (fun _ hk => hk.2) (.int .i64 t396)) (fun _ hk => hk.2) (.int .i64 t397)) (fun _ hk => hk.2) (.int .i64 t398)) (fun _ hk => hk.2) (.int .i64 t399)) (fun _ hk => hk.2) (.string t400)) (fun _ hk => trivial)⟩, ⟨by (with_reducible repeat (first | refine blk_drewN ?_ _ | refine blk_drew ?_ | refine blk_alloc ?_ _)); refine blk_put (cs := #[.int .i64 t392, .int .i64 t393, .bool t394, .int .i64 t395, .int .i64 t396, .int .i64 t397, .int .i64 t398, .int .i64 t399, .string (⟨#[]⟩ : ByteArray)]) ?_ 8 _ rfl; (with_reducible repeat (first | refine blk_drewN ?_ _ | refine blk_drew ?_ | refine blk_alloc ?_ _)); refine blk_put (cs := #[.int .i64 t392, .int .i64 t393, .bool t394, .int .i64 t395, .int .i64 t396, .int .i64 t397, .int .i64 t398, .int .i64 0, .string (⟨#[]⟩ : ByteArray)]) ?_ 7 _ rfl; (with_reducible repeat (first | refine blk_drewN ?_ _ | refine blk_drew ?_ | refine blk_alloc ?_ _)); refine blk_put (cs := #[.int .i64 t392, .int .i64 t393, .bool t394, .int .i64 t395, .int .i64 t396, .int .i64 t397, .int .i64 0, .int .i64 0, .string (⟨#[]⟩ : ByteArray)]) ?_ 6 _ rfl; (with_reducible repeat (first | refine blk_drewN ?_ _ | refine blk_drew ?_ | refine blk_alloc ?_ _)); refine blk_put (cs := #[.int .i64 t392, .int .i64 t393, .bool t394, .int .i64 t395, .int .i64 t396, .int .i64 0, .int .i64 0, .int .i64 0, .string (⟨#[]⟩ : ByteArray)]) ?_ 5 _ rfl; (with_reducible repeat (first | refine blk_drewN ?_ _ | refine blk_drew ?_ | refine blk_alloc ?_ _)); refine blk_put (cs := #[.int .i64 t392, .int .i64 t393, .bool t394, .int .i64 t395, .int .i64 0, .int .i64 0, .int .i64 0, .int .i64 0, .string (⟨#[]⟩ : ByteArray)]) ?_ 4 _ rfl; (with_reducible repeat (first | refine blk_drewN ?_ _ | refine blk_drew ?_ | refine blk_alloc ?_ _)); refine blk_put (cs := #[.int .i64 t392, .int .i64 t393, .bool t394, .int .i64 0, .int .i64 0, .int .i64 0, .int .i64 0, .int .i64 0, .string (⟨#[]⟩ : ByteArray)]) ?_ 3 _ rfl; (with_reducible repeat (first | refine blk_drewN ?_ _ | refine blk_drew ?_ | refine blk_alloc ?_ _)); refine blk_put (cs := #[.int .i64 t392, .int .i64 t393, .bool false, .int .i64 0, .int .i64 0, .int .i64 0, .int .i64 0, .int .i64 0, .string (⟨#[]⟩ : ByteArray)]) ?_ 2 _ rfl; (with_reducible repeat (first | refine blk_drewN ?_ _ | refine blk_drew ?_ | refine blk_alloc ?_ _)); refine blk_put (cs := #[.int .i64 t392, .int .i64 0, .bool false, .int .i64 0, .int .i64 0, .int .i64 0, .int .i64 0, .int .i64 0, .string (⟨#[]⟩ : ByteArray)]) ?_ 1 _ rfl; (with_reducible repeat (first | refine blk_drewN ?_ _ | refine blk_drew ?_ | refine blk_alloc ?_ _)); refine blk_put (cs := #[.int .i64 0, .int .i64 0, .bool false, .int .i64 0, .int .i64 0, .int .i64 0, .int .i64 0, .int .i64 0, .string (⟨#[]⟩ : ByteArray)]) ?_ 0 _ rfl; (with_reducible repeat (first | refine blk_drewN ?_ _ | refine blk_drew ?_ | refine blk_alloc ?_ _)); exact BK402.out⟩, ⟨by repeat (first | (with_reducible first | exact HB.out | apply below_alloc | apply pw_below_drewN | apply below_drew1 | refine below_set ?_ GE402.out) | exact HB.out)⟩⟩
      ·rw [if_neg c14] at H
       have c14b0 : (t401 == 0) = false := beq_eq_false_iff_ne.mpr c14
       have c14b1 : (t401 != 0) = true := bne_iff_ne.mpr c14
       (first | rw [c14b0] | (simp only [i64_w, i32_w]; rw [c14b0]) | rw [c14b1] | skip)
       have H' := Aside0.mk H
       clear H
       go_wp2
       go_meet
       case rel => exact ⟨_, (true), (by first | rfl | (simp; done) | (simp [*]; done)), H', ⟨by have := HK1.out; first | omega | exact Nat.le_refl _⟩, ⟨by (with_reducible repeat (first | apply Kd.S_alloc | apply Kd.S_drewN | apply Kd.S_drew)); exact Kd.S_mono (Kd.S_far (p := ⟨gb402, 8, none⟩) (Kd.S_far (p := ⟨gb402, 7, none⟩) (Kd.S_far (p := ⟨gb402, 6, none⟩) (Kd.S_far (p := ⟨gb402, 5, none⟩) (Kd.S_far (p := ⟨gb402, 4, none⟩) (Kd.S_far (p := ⟨gb402, 3, none⟩) (Kd.S_far (p := ⟨gb402, 2, none⟩) (Kd.S_far (p := ⟨gb402, 1, none⟩) (Kd.S_far (p := ⟨gb402, 0, none⟩) (Kd.S_types HO_5.out BK402.out (by decide)) (fun _ hk => hk.2) (.int .i64 t392)) (fun _ hk => hk.2) (.int .i64 t393)) (fun _ hk => hk.2) (.bool t394)) (fun _ hk => hk.2) (.int .i64 t395)) (fun _ hk => hk.2) (.int .i64 t396)) (fun _ hk => hk.2) (.int .i64 t397)) (fun _ hk => hk.2) (.int .i64 t398)) (fun _ hk => hk.2) (.int .i64 t399)) (fun _ hk => hk.2) (.string t400)) (fun _ hk => hk.1)⟩, ⟨by (with_reducible repeat (first | apply Kd.R_alloc | apply Kd.R_drewN | apply Kd.R_drew)); exact Kd.R_mono (Kd.R_far (p := ⟨gb402, 8, none⟩) (Kd.R_far (p := ⟨gb402, 7, none⟩) (Kd.R_far (p := ⟨gb402, 6, none⟩) (Kd.R_far (p := ⟨gb402, 5, none⟩) (Kd.R_far (p := ⟨gb402, 4, none⟩) (Kd.R_far (p := ⟨gb402, 3, none⟩) (Kd.R_far (p := ⟨gb402, 2, none⟩) (Kd.R_far (p := ⟨gb402, 1, none⟩) (Kd.R_far (p := ⟨gb402, 0, none⟩) (Kd.R_types HO_6.out BK402.out (by decide)) (fun _ hk => hk.2) (.int .i64 t392)) (fun _ hk => hk.2) (.int .i64 t393)) (fun _ hk => hk.2) (.bool t394)) (fun _ hk => hk.2) (.int .i64 t395)) (fun _ hk => hk.2) (.int .i64 t396)) (fun _ hk => hk.2) (.int .i64 t397)) (fun _ hk => hk.2) (.int .i64 t398)) (fun _ hk => hk.2) (.int .i64 t399)) (fun _ hk => hk.2) (.string t400)) (fun _ hk => trivial)⟩, ⟨by (with_reducible repeat (first | refine blk_drewN ?_ _ | refine blk_drew ?_ | refine blk_alloc ?_ _)); refine blk_put (cs := #[.int .i64 t392, .int .i64 t393, .bool t394, .int .i64 t395, .int .i64 t396, .int .i64 t397, .int .i64 t398, .int .i64 t399, .string (⟨#[]⟩ : ByteArray)]) ?_ 8 _ rfl; (with_reducible repeat (first | refine blk_drewN ?_ _ | refine blk_drew ?_ | refine blk_alloc ?_ _)); refine blk_put (cs := #[.int .i64 t392, .int .i64 t393, .bool t394, .int .i64 t395, .int .i64 t396, .int .i64 t397, .int .i64 t398, .int .i64 0, .string (⟨#[]⟩ : ByteArray)]) ?_ 7 _ rfl; (with_reducible repeat (first | refine blk_drewN ?_ _ | refine blk_drew ?_ | refine blk_alloc ?_ _)); refine blk_put (cs := #[.int .i64 t392, .int .i64 t393, .bool t394, .int .i64 t395, .int .i64 t396, .int .i64 t397, .int .i64 0, .int .i64 0, .string (⟨#[]⟩ : ByteArray)]) ?_ 6 _ rfl; (with_reducible repeat (first | refine blk_drewN ?_ _ | refine blk_drew ?_ | refine blk_alloc ?_ _)); refine blk_put (cs := #[.int .i64 t392, .int .i64 t393, .bool t394, .int .i64 t395, .int .i64 t396, .int .i64 0, .int .i64 0, .int .i64 0, .string (⟨#[]⟩ : ByteArray)]) ?_ 5 _ rfl; (with_reducible repeat (first | refine blk_drewN ?_ _ | refine blk_drew ?_ | refine blk_alloc ?_ _)); refine blk_put (cs := #[.int .i64 t392, .int .i64 t393, .bool t394, .int .i64 t395, .int .i64 0, .int .i64 0, .int .i64 0, .int .i64 0, .string (⟨#[]⟩ : ByteArray)]) ?_ 4 _ rfl; (with_reducible repeat (first | refine blk_drewN ?_ _ | refine blk_drew ?_ | refine blk_alloc ?_ _)); refine blk_put (cs := #[.int .i64 t392, .int .i64 t393, .bool t394, .int .i64 0, .int .i64 0, .int .i64 0, .int .i64 0, .int .i64 0, .string (⟨#[]⟩ : ByteArray)]) ?_ 3 _ rfl; (with_reducible repeat (first | refine blk_drewN ?_ _ | refine blk_drew ?_ | refine blk_alloc ?_ _)); refine blk_put (cs := #[.int .i64 t392, .int .i64 t393, .bool false, .int .i64 0, .int .i64 0, .int .i64 0, .int .i64 0, .int .i64 0, .string (⟨#[]⟩ : ByteArray)]) ?_ 2 _ rfl; (with_reducible repeat (first | refine blk_drewN ?_ _ | refine blk_drew ?_ | refine blk_alloc ?_ _)); refine blk_put (cs := #[.int .i64 t392, .int .i64 0, .bool false, .int .i64 0, .int .i64 0, .int .i64 0, .int .i64 0, .int .i64 0, .string (⟨#[]⟩ : ByteArray)]) ?_ 1 _ rfl; (with_reducible repeat (first | refine blk_drewN ?_ _ | refine blk_drew ?_ | refine blk_alloc ?_ _)); refine blk_put (cs := #[.int .i64 0, .int .i64 0, .bool false, .int .i64 0, .int .i64 0, .int .i64 0, .int .i64 0, .int .i64 0, .string (⟨#[]⟩ : ByteArray)]) ?_ 0 _ rfl; (with_reducible repeat (first | refine blk_drewN ?_ _ | refine blk_drew ?_ | refine blk_alloc ?_ _)); exact BK402.out⟩, ⟨by repeat (first | (with_reducible first | exact HB.out | apply below_alloc | apply pw_below_drewN | apply below_drew1 | refine below_set ?_ GE402.out) | exact HB.out)⟩⟩
     case rest =>
      clear HC10
      try clear c1
      try clear p2
      try clear c3
      try clear p3
      try clear q3
      try clear hx3
      try clear c7
      try clear c7b0
      try clear c8
      try clear c8b0
      try clear c14
      try clear c14b0
      try clear c14b1
      try clear c15
      try clear c15b0
      try clear c15b1
      try clear c17
      try clear hcz13_0
      try clear hcz13_1
      try clear hcz13_2
      try clear hcz13_3
      try clear hcz13_4
      try clear hcz13_5
      try clear hcz13_6
      try clear hcz13_7
      try clear hcz13_8
      try clear hcz16_0
      try clear hcz16_1
      try clear hcz16_2
      try clear hcz16_3
      try clear hcz16_4
      try clear hcz16_5
      try clear hcz16_6
      try clear hcz16_7
      try clear hcz16_8
      try clear hcz17_0
      try clear hcz17_1
      try clear hcz17_2
      try clear hcz17_3
      try clear hcz17_4
      try clear hcz17_5
      try clear hcz17_6
      try clear hcz17_7
      try clear hcz17_8
      try clear hfz13_0
      try clear hfz13_1
      try clear hfz13_2
      try clear hfz13_3
      try clear hfz13_4
      try clear hfz13_5
      try clear hfz13_6
      try clear hfz13_7
      try clear hfz13_8
      try clear hfz16_0
      try clear hfz16_1
      try clear hfz16_2
      try clear hfz16_3
      try clear hfz16_4
      try clear hfz16_5
      try clear hfz16_6
      try clear hfz16_7
      try clear hfz16_8
      try clear hfz17_0
      try clear hfz17_1
      try clear hfz17_2
      try clear hfz17_3
      try clear hfz17_4
      try clear hfz17_5
      try clear hfz17_6
      try clear hfz17_7
      try clear hfz17_8
      try clear hx391_0
      try clear p2
      try clear p391
      try clear q391
      obtain ⟨kq, x39_9, rfl, HA, HJ9, HO_5, HO_6, BK402, HB⟩ := hcut
      cases kq with
      | zero => exact absurd HA.out (by simp [stowageref15_Replay.j1])
      | succ kj9 =>
       have H := HA.out
       clear HA
       simp only [stowageref15_Replay.j1] at H
       by_cases c18 : x39_9 = true
       ·subst c18
        have H1 : (some x5_1) = some r := by rw [if_pos rfl] at H; exact H
        clear H
        have H := H1
        clear H1
        obtain rfl := Option.some.inj H
        go_wp2
        go_ret
        exact ⟨_, by first | rfl | (simp [errW_none, errW_some] <;> rfl) | (simp [*, errW_none, errW_some] <;> rfl), by (with_reducible repeat (first | apply Kd.S_alloc | apply Kd.S_drewN | apply Kd.S_drew)); exact Kd.S_mono HO_5.out (fun _ hk => trivial), by repeat (first | (with_reducible first | exact HB.out | apply below_alloc | apply pw_below_drewN | apply below_drew1 | refine below_set ?_ GE402.out) | exact HB.out)⟩
       ·replace c18 := Bool.eq_false_iff.mpr c18
        subst c18
        have H1 : (if x6_1.length < 2513169434916 then ((some (x6_1 ++ [(⟨t395, t396, t397, t398, t399, t400⟩ : S23)] : List (S23))).bind fun y403 => (if t394 = true then (if x5_1.length < 5864062014805 then (stowageref15_Replay.l0 kj9 l0 a1 (x5_1 ++ [y403]) (([] : List (S23))) (wrap64 (x7_1 + 1))) else (none)) else (stowageref15_Replay.l0 kj9 l0 a1 x5_1 y403 (wrap64 (x7_1 + 1))))) else (none)) = some r := by rw [if_neg (show ¬ (false = true) by decide)] at H; exact H
        clear H
        have H := H1
        clear H1
        by_cases c19 : x6_1.length < 2513169434916
        ·rw [if_pos c19] at H
         have LMc19 := Aside0.mk c19
         clear c19
         obtain ⟨y403, hy403⟩ : ∃ y_ : List (S23), y_ = (x6_1 ++ [(⟨t395, t396, t397, t398, t399, t400⟩ : S23)]) := ⟨_, rfl⟩
         replace H : (if t394 = true then (if x5_1.length < 5864062014805 then (stowageref15_Replay.l0 kj9 l0 a1 (x5_1 ++ [y403]) (([] : List (S23))) (wrap64 (x7_1 + 1))) else (none)) else (stowageref15_Replay.l0 kj9 l0 a1 x5_1 y403 (wrap64 (x7_1 + 1)))) = some r := by first | (rw [hy403]; with_reducible exact H) | (have H2_ := (Option.bind_some _ _).symm.trans H; rw [hy403]; with_reducible exact H2_) | (have H2_ := (Option.bind_some _ _).symm.trans H; with_reducible exact H2_) | with_reducible exact H | (rw [hy403]; exact H) | exact H
         have Ny403 := Aside0.mk hy403
         clear hy403
         by_cases c20 : t394 = true
         ·subst c20
          have H1 : (if x5_1.length < 5864062014805 then (stowageref15_Replay.l0 kj9 l0 a1 (x5_1 ++ [y403]) (([] : List (S23))) (wrap64 (x7_1 + 1))) else (none)) = some r := by rw [if_pos rfl] at H; exact H
          clear H
          have H := H1
          clear H1
          by_cases c21 : x5_1.length < 5864062014805
          ·rw [if_pos c21] at H
           have LMc21 := Aside0.mk c21
           clear c21
           obtain ⟨y406, hy406⟩ : ∃ y_ : List (List (S23)), y_ = (x5_1 ++ [y403]) := ⟨_, rfl⟩
           replace H : (stowageref15_Replay.l0 kj9 l0 a1 y406 (([] : List (S23))) (wrap64 (x7_1 + 1))) = some r := by first | (rw [hy406]; with_reducible exact H) | (have H2_ := (Option.bind_some _ _).symm.trans H; rw [hy406]; with_reducible exact H2_) | (have H2_ := (Option.bind_some _ _).symm.trans H; with_reducible exact H2_) | with_reducible exact H | (rw [hy406]; exact H) | exact H
           have Ny406 := Aside0.mk hy406
           clear hy406
           obtain ⟨y409, hy409⟩ : ∃ y_ : List (S23), y_ = (([] : List (S23))) := ⟨_, rfl⟩
           replace H : (stowageref15_Replay.l0 kj9 l0 a1 y406 y409 (wrap64 (x7_1 + 1))) = some r := by first | (rw [hy409]; with_reducible exact H) | (have H2_ := (Option.bind_some _ _).symm.trans H; rw [hy409]; with_reducible exact H2_) | (have H2_ := (Option.bind_some _ _).symm.trans H; with_reducible exact H2_) | with_reducible exact H | (rw [hy409]; exact H) | exact H
           have Ny409 := Aside0.mk hy409
           clear hy409
           have H' := Aside0.mk H
           clear H
           have hcz22_0 : wc.cell? ⟨gb402, 0, none⟩ = some (.int .i64 t392) := (blk_cell BK402.out 0).trans rfl
           have hcz22_1 : wc.cell? ⟨gb402, 1, none⟩ = some (.int .i64 t393) := (blk_cell BK402.out 1).trans rfl
           have hcz22_2 : wc.cell? ⟨gb402, 2, none⟩ = some (.bool true) := (blk_cell BK402.out 2).trans rfl
           have hcz22_3 : wc.cell? ⟨gb402, 3, none⟩ = some (.int .i64 t395) := (blk_cell BK402.out 3).trans rfl
           have hcz22_4 : wc.cell? ⟨gb402, 4, none⟩ = some (.int .i64 t396) := (blk_cell BK402.out 4).trans rfl
           have hcz22_5 : wc.cell? ⟨gb402, 5, none⟩ = some (.int .i64 t397) := (blk_cell BK402.out 5).trans rfl
           have hcz22_6 : wc.cell? ⟨gb402, 6, none⟩ = some (.int .i64 t398) := (blk_cell BK402.out 6).trans rfl
           have hcz22_7 : wc.cell? ⟨gb402, 7, none⟩ = some (.int .i64 t399) := (blk_cell BK402.out 7).trans rfl
           have hcz22_8 : wc.cell? ⟨gb402, 8, none⟩ = some (.string t400) := (blk_cell BK402.out 8).trans rfl
           have hfz22_0 := blk_frozen BK402.out 0
           have hfz22_1 := blk_frozen BK402.out 1
           have hfz22_2 := blk_frozen BK402.out 2
           have hfz22_3 := blk_frozen BK402.out 3
           have hfz22_4 := blk_frozen BK402.out 4
           have hfz22_5 := blk_frozen BK402.out 5
           have hfz22_6 := blk_frozen BK402.out 6
           have hfz22_7 := blk_frozen BK402.out 7
           have hfz22_8 := blk_frozen BK402.out 8
           go_wp2_with (first | ((with_reducible refine gate_builtin (b := .append) (xs := #[.tmp 41, .tmp 44]) rfl ?_); at_builtin; refine Kd.R_append k23 (w0 := w) w.heap.size rfl (.tmp 41) (.tmp 44) 45 23 (.agg #[(.int .i64 0), (.int .i64 0), (.int .i64 0), (.int .i64 0), (.int .i64 0), (.string ⟨#[]⟩)]) 56 rfl Try.underlying45 info23 rfl (by decide) (by omega) u6 x6_1 (⟨t395, t396, t397, t398, t399, t400⟩ : S23) [.int .i64 t395, .int .i64 t396, .int .i64 t397, .int .i64 t398, .int .i64 t399, .string t400] (fun _ => True) (fun _ => False) rfl rfl ?aP (fun _ hk => hk.elim) ?aF ?aO ?aB ?aS ?aL ?_; (case aP => exact k23_mkM _ _ _ (⟨t395, t396, t397, t398, t399, t400⟩ : S23)); (case aB => exact (by repeat (first | (with_reducible first | exact HB.out | apply below_alloc | apply pw_below_drewN | apply below_drew1 | refine below_set ?_ GE402.out) | exact HB.out))); (case aF => exact (fun _ _ => trivial)); (case aO => exact (by (with_reducible repeat (first | apply Kd.R_alloc | apply Kd.R_drewN | apply Kd.R_drew)); exact HO_6.out)); (case aS => exact (below_size (by repeat (first | (with_reducible first | exact HB.out | apply below_alloc | apply pw_below_drewN | apply below_drew1 | refine below_set ?_ GE402.out) | exact HB.out)))); (case aL => have := LMc19.out; omega); intro v404 w23 ho hb hg hat; rw [← Ny403.out] at ho; have n0_ := Aside0.mk (Kd.S_after (ok := (fun _ => True)) (by (with_reducible repeat (first | apply Kd.S_alloc | apply Kd.S_drewN | apply Kd.S_drew)); exact Kd.S_mono HO_5.out (fun _ hk => ⟨trivial, hk⟩)) hg hat); have n1_ := Aside0.mk (blk_grown (g := gb402) (o := .cells #[.int .i64 t392, .int .i64 t393, .bool true, .int .i64 t395, .int .i64 t396, .int .i64 t397, .int .i64 t398, .int .i64 t399, .string t400] 25 (0, 0)) (by (with_reducible repeat (first | refine blk_drewN ?_ _ | refine blk_drew ?_ | refine blk_alloc ?_ _)); exact BK402.out) hg (Kd.R_ne HO_6.out BK402.out (by decide))); have n2_ := Aside0.mk (hb); have n3_ := Aside0.mk (ho); clear HO_5; clear BK402; clear HB; clear HO_6; have HO_5 := n0_; have BK402 := n1_; have HB := n2_; have HO405 := n3_; clear n0_ n1_ n2_ n3_; clear ho hb hg hat; have hcz24_0 : w23.cell? ⟨gb402, 0, none⟩ = some (.int .i64 t392) := (blk_cell BK402.out 0).trans rfl; have hcz24_1 : w23.cell? ⟨gb402, 1, none⟩ = some (.int .i64 t393) := (blk_cell BK402.out 1).trans rfl; have hcz24_2 : w23.cell? ⟨gb402, 2, none⟩ = some (.bool true) := (blk_cell BK402.out 2).trans rfl; have hcz24_3 : w23.cell? ⟨gb402, 3, none⟩ = some (.int .i64 t395) := (blk_cell BK402.out 3).trans rfl; have hcz24_4 : w23.cell? ⟨gb402, 4, none⟩ = some (.int .i64 t396) := (blk_cell BK402.out 4).trans rfl; have hcz24_5 : w23.cell? ⟨gb402, 5, none⟩ = some (.int .i64 t397) := (blk_cell BK402.out 5).trans rfl; have hcz24_6 : w23.cell? ⟨gb402, 6, none⟩ = some (.int .i64 t398) := (blk_cell BK402.out 6).trans rfl; have hcz24_7 : w23.cell? ⟨gb402, 7, none⟩ = some (.int .i64 t399) := (blk_cell BK402.out 7).trans rfl; have hcz24_8 : w23.cell? ⟨gb402, 8, none⟩ = some (.string t400) := (blk_cell BK402.out 8).trans rfl; have hfz24_0 := blk_frozen BK402.out 0; have hfz24_1 := blk_frozen BK402.out 1; have hfz24_2 := blk_frozen BK402.out 2; have hfz24_3 := blk_frozen BK402.out 3; have hfz24_4 := blk_frozen BK402.out 4; have hfz24_5 := blk_frozen BK402.out 5; have hfz24_6 := blk_frozen BK402.out 6; have hfz24_7 := blk_frozen BK402.out 7; have hfz24_8 := blk_frozen BK402.out 8; obtain ⟨Ao26, co26, eo26⟩ := Kd.R_slice HO405.out; subst eo26) | ((with_reducible refine gate_builtin (b := .append) (xs := #[.tmp 48, .tmp 50]) rfl ?_); at_builtin; refine Kd.S_append (Kd.slice 23 k23) (w0 := w) w.heap.size rfl (.tmp 48) (.tmp 50) 41 45 (.slice none 0 0) 24 rfl Try.underlying41 info45 rfl (by decide) (by omega) u5 x5_1 y403 [.slice Ao26 y403.length co26] (fun _ => True) (fun k_ => some k_ = (.slice Ao26 y403.length co26 : Value).ownBlock) rfl rfl ?aP (fun k_ hk_ => ((Kd.R_mono (ok' := fun k_ => ((fun _ => True)) k_ ∧ some k_ ≠ (u5 : Value).ownBlock) (Kd.R_apart' (HO405.out) (Kd.S_typed HO_5.out) (by decide)) (fun k_ hk => ⟨trivial, hk.2⟩))).1 k_ hk_.symm) ?aF ?aO ?aB ?aS ?aL ?_; (case aP => exact Kd.M_row (Kd.R_mono (Kd.R_tight rfl (Kd.R_mono (ok' := fun k_ => ((fun _ => True)) k_ ∧ some k_ ≠ (u5 : Value).ownBlock) (Kd.R_apart' (HO405.out) (Kd.S_typed HO_5.out) (by decide)) (fun k_ hk => ⟨trivial, hk.2⟩))) (fun _ h_ => h_))); (case aB => exact (by repeat (first | (with_reducible first | exact HB.out | apply below_alloc | apply pw_below_drewN | apply below_drew1 | refine below_set ?_ GE402.out) | exact HB.out))); (case aF => exact (fun _ _ => trivial)); (case aO => exact (by (with_reducible repeat (first | apply Kd.S_alloc | apply Kd.S_drewN | apply Kd.S_drew)); exact Kd.S_mono HO_5.out (fun k_ hk => ⟨trivial, fun e_ => hk.2 e_⟩))); (case aS => exact (below_size (by repeat (first | (with_reducible first | exact HB.out | apply below_alloc | apply pw_below_drewN | apply below_drew1 | refine below_set ?_ GE402.out) | exact HB.out)))); (case aL => have := LMc21.out; omega); intro v407 w25 ho hb hg hat; rw [← Ny406.out] at ho; have n0_ := Aside0.mk (blk_grown (g := gb402) (o := .cells #[.int .i64 t392, .int .i64 t393, .bool true, .int .i64 t395, .int .i64 t396, .int .i64 t397, .int .i64 t398, .int .i64 t399, .string t400] 25 (0, 0)) (by (with_reducible repeat (first | refine blk_drewN ?_ _ | refine blk_drew ?_ | refine blk_alloc ?_ _)); exact BK402.out) hg (Kd.S_ne HO_5.out BK402.out (by decide))); have n1_ := Aside0.mk (hb); have n2_ := Aside0.mk (ho); clear BK402; clear HB; clear HO_5; clear HO405; have BK402 := n0_; have HB := n1_; have HO408 := n2_; clear n0_ n1_ n2_; clear ho hb hg hat) | ((with_reducible refine gate_dst (N := 52) rfl ?_); refine Kd.R_lit k23 _ 23 ?hg (N := 52) ?hd (xs := ([] : List (S23))) (inner := []) (ok := fun _ => True) (okp := fun _ => True) ?hr ?hp (fun _ hk => hk) trivial (Below.refl _ _) (Nat.le_refl _) (by simp) ?_; (case hd => rfl); (case hg => rfl); (case hr => first | (go_simp; done) | (go_simp; rfl)); (case hp => exact (Reps.none _ _)); intro v410 w27 ho28 hb hg_ hnew_; clear hg_ hnew_; (first | rw [← Ny409.out] at ho28 | (simp only [Int.reduceToNat] at ho28; rw [← Ny409.out] at ho28)); have n0_ := Aside0.mk (Kd.S_elder' (by (with_reducible repeat (first | apply Kd.S_alloc | apply Kd.S_drewN | apply Kd.S_drew)); exact HO408.out) (Kd.R_base ho28) hb); have n1_ := Aside0.mk (Kd.R_lower ho28 (below_size (by repeat (first | (with_reducible first | exact HB.out | apply below_alloc | apply pw_below_drewN | apply below_drew1 | refine below_set ?_ GE402.out) | exact HB.out)))); have n2_ := Aside0.mk (blk_below (g := gb402) (o := .cells #[.int .i64 t392, .int .i64 t393, .bool true, .int .i64 t395, .int .i64 t396, .int .i64 t397, .int .i64 t398, .int .i64 t399, .string t400] 25 (0, 0)) (by (with_reducible repeat (first | refine blk_drewN ?_ _ | refine blk_drew ?_ | refine blk_alloc ?_ _)); exact BK402.out) hb); have n3_ := Aside0.mk (below_step (by repeat (first | (with_reducible first | exact HB.out | apply below_alloc | apply pw_below_drewN | apply below_drew1 | refine below_set ?_ GE402.out) | exact HB.out)) hb); clear HO408; clear BK402; clear HB; have HO408 := n0_; have HO411 := n1_; have BK402 := n2_; have HB := n3_; clear n0_ n1_ n2_ n3_; clear hb ho28))
           go_roundg kj9
           case measure => have := HK1.out; have := HJ9.out; omega
           case rel => exact ⟨(y406), (y409), (wrap64 (x7_1 + 1)), (by first | rfl | (simp; done) | (simp [*]; done)), H', ⟨by have := HK1.out; have := HJ9.out; omega⟩, ⟨by (with_reducible repeat (first | apply Kd.S_alloc | apply Kd.S_drewN | apply Kd.S_drew)); exact Kd.S_mono HO408.out (fun _ hk => hk.2)⟩, ⟨by (with_reducible repeat (first | apply Kd.R_alloc | apply Kd.R_drewN | apply Kd.R_drew)); exact HO411.out⟩, ⟨by repeat (first | (with_reducible first | exact HB.out | apply below_alloc | apply pw_below_drewN | apply below_drew1 | refine below_set ?_ GE402.out) | exact HB.out)⟩⟩
          ·rw [if_neg c21] at H
           exact absurd H (by simp)
         ·replace c20 := Bool.eq_false_iff.mpr c20
          subst c20
          have H1 : (stowageref15_Replay.l0 kj9 l0 a1 x5_1 y403 (wrap64 (x7_1 + 1))) = some r := by rw [if_neg (show ¬ (false = true) by decide)] at H; exact H
          clear H
          have H := H1
          clear H1
          have H' := Aside0.mk H
          clear H
          have hcz29_0 : wc.cell? ⟨gb402, 0, none⟩ = some (.int .i64 t392) := (blk_cell BK402.out 0).trans rfl
          have hcz29_1 : wc.cell? ⟨gb402, 1, none⟩ = some (.int .i64 t393) := (blk_cell BK402.out 1).trans rfl
          have hcz29_2 : wc.cell? ⟨gb402, 2, none⟩ = some (.bool false) := (blk_cell BK402.out 2).trans rfl
          have hcz29_3 : wc.cell? ⟨gb402, 3, none⟩ = some (.int .i64 t395) := (blk_cell BK402.out 3).trans rfl
          have hcz29_4 : wc.cell? ⟨gb402, 4, none⟩ = some (.int .i64 t396) := (blk_cell BK402.out 4).trans rfl
          have hcz29_5 : wc.cell? ⟨gb402, 5, none⟩ = some (.int .i64 t397) := (blk_cell BK402.out 5).trans rfl
          have hcz29_6 : wc.cell? ⟨gb402, 6, none⟩ = some (.int .i64 t398) := (blk_cell BK402.out 6).trans rfl
          have hcz29_7 : wc.cell? ⟨gb402, 7, none⟩ = some (.int .i64 t399) := (blk_cell BK402.out 7).trans rfl
          have hcz29_8 : wc.cell? ⟨gb402, 8, none⟩ = some (.string t400) := (blk_cell BK402.out 8).trans rfl
          have hfz29_0 := blk_frozen BK402.out 0
          have hfz29_1 := blk_frozen BK402.out 1
          have hfz29_2 := blk_frozen BK402.out 2
          have hfz29_3 := blk_frozen BK402.out 3
          have hfz29_4 := blk_frozen BK402.out 4
          have hfz29_5 := blk_frozen BK402.out 5
          have hfz29_6 := blk_frozen BK402.out 6
          have hfz29_7 := blk_frozen BK402.out 7
          have hfz29_8 := blk_frozen BK402.out 8
          go_wp2_with (first | ((with_reducible refine gate_builtin (b := .append) (xs := #[.tmp 41, .tmp 44]) rfl ?_); at_builtin; refine Kd.R_append k23 (w0 := w) w.heap.size rfl (.tmp 41) (.tmp 44) 45 23 (.agg #[(.int .i64 0), (.int .i64 0), (.int .i64 0), (.int .i64 0), (.int .i64 0), (.string ⟨#[]⟩)]) 56 rfl Try.underlying45 info23 rfl (by decide) (by omega) u6 x6_1 (⟨t395, t396, t397, t398, t399, t400⟩ : S23) [.int .i64 t395, .int .i64 t396, .int .i64 t397, .int .i64 t398, .int .i64 t399, .string t400] (fun _ => True) (fun _ => False) rfl rfl ?aP (fun _ hk => hk.elim) ?aF ?aO ?aB ?aS ?aL ?_; (case aP => exact k23_mkM _ _ _ (⟨t395, t396, t397, t398, t399, t400⟩ : S23)); (case aB => exact (by repeat (first | (with_reducible first | exact HB.out | apply below_alloc | apply pw_below_drewN | apply below_drew1 | refine below_set ?_ GE402.out) | exact HB.out))); (case aF => exact (fun _ _ => trivial)); (case aO => exact (by (with_reducible repeat (first | apply Kd.R_alloc | apply Kd.R_drewN | apply Kd.R_drew)); exact HO_6.out)); (case aS => exact (below_size (by repeat (first | (with_reducible first | exact HB.out | apply below_alloc | apply pw_below_drewN | apply below_drew1 | refine below_set ?_ GE402.out) | exact HB.out)))); (case aL => have := LMc19.out; omega); intro v404 w30 ho hb hg hat; rw [← Ny403.out] at ho; have n0_ := Aside0.mk (Kd.S_after (ok := (fun _ => True)) (by (with_reducible repeat (first | apply Kd.S_alloc | apply Kd.S_drewN | apply Kd.S_drew)); exact Kd.S_mono HO_5.out (fun _ hk => ⟨trivial, hk⟩)) hg hat); have n1_ := Aside0.mk (blk_grown (g := gb402) (o := .cells #[.int .i64 t392, .int .i64 t393, .bool false, .int .i64 t395, .int .i64 t396, .int .i64 t397, .int .i64 t398, .int .i64 t399, .string t400] 25 (0, 0)) (by (with_reducible repeat (first | refine blk_drewN ?_ _ | refine blk_drew ?_ | refine blk_alloc ?_ _)); exact BK402.out) hg (Kd.R_ne HO_6.out BK402.out (by decide))); have n2_ := Aside0.mk (hb); have n3_ := Aside0.mk (ho); clear HO_5; clear BK402; clear HB; clear HO_6; have HO_5 := n0_; have BK402 := n1_; have HB := n2_; have HO405 := n3_; clear n0_ n1_ n2_ n3_; clear ho hb hg hat; have hcz31_0 : w30.cell? ⟨gb402, 0, none⟩ = some (.int .i64 t392) := (blk_cell BK402.out 0).trans rfl; have hcz31_1 : w30.cell? ⟨gb402, 1, none⟩ = some (.int .i64 t393) := (blk_cell BK402.out 1).trans rfl; have hcz31_2 : w30.cell? ⟨gb402, 2, none⟩ = some (.bool false) := (blk_cell BK402.out 2).trans rfl; have hcz31_3 : w30.cell? ⟨gb402, 3, none⟩ = some (.int .i64 t395) := (blk_cell BK402.out 3).trans rfl; have hcz31_4 : w30.cell? ⟨gb402, 4, none⟩ = some (.int .i64 t396) := (blk_cell BK402.out 4).trans rfl; have hcz31_5 : w30.cell? ⟨gb402, 5, none⟩ = some (.int .i64 t397) := (blk_cell BK402.out 5).trans rfl; have hcz31_6 : w30.cell? ⟨gb402, 6, none⟩ = some (.int .i64 t398) := (blk_cell BK402.out 6).trans rfl; have hcz31_7 : w30.cell? ⟨gb402, 7, none⟩ = some (.int .i64 t399) := (blk_cell BK402.out 7).trans rfl; have hcz31_8 : w30.cell? ⟨gb402, 8, none⟩ = some (.string t400) := (blk_cell BK402.out 8).trans rfl; have hfz31_0 := blk_frozen BK402.out 0; have hfz31_1 := blk_frozen BK402.out 1; have hfz31_2 := blk_frozen BK402.out 2; have hfz31_3 := blk_frozen BK402.out 3; have hfz31_4 := blk_frozen BK402.out 4; have hfz31_5 := blk_frozen BK402.out 5; have hfz31_6 := blk_frozen BK402.out 6; have hfz31_7 := blk_frozen BK402.out 7; have hfz31_8 := blk_frozen BK402.out 8))
          go_roundg kj9
          case measure => have := HK1.out; have := HJ9.out; omega
          case rel => exact ⟨(x5_1), (y403), (wrap64 (x7_1 + 1)), (by first | rfl | (simp; done) | (simp [*]; done)), H', ⟨by have := HK1.out; have := HJ9.out; omega⟩, ⟨by (with_reducible repeat (first | apply Kd.S_alloc | apply Kd.S_drewN | apply Kd.S_drew)); exact Kd.S_mono HO_5.out (fun _ hk => hk.2)⟩, ⟨by (with_reducible repeat (first | apply Kd.R_alloc | apply Kd.R_drewN | apply Kd.R_drew)); exact HO405.out⟩, ⟨by repeat (first | (with_reducible first | exact HB.out | apply below_alloc | apply pw_below_drewN | apply below_drew1 | refine below_set ?_ GE402.out) | exact HB.out)⟩⟩
        ·rw [if_neg c19] at H
         exact absurd H (by simp)
    ·rw [if_neg c8] at H
     exact absurd H (by simp)
   ·rw [if_neg c7] at H
    have c7b0 : decide (x7_1 < (l0.length : Int)) = false := decide_eq_false c7
    clear c7
    obtain rfl := Option.some.inj H
    go_wp2
    go_ret
    exact ⟨_, by first | rfl | (simp [errW_none, errW_some] <;> rfl) | (simp [*, errW_none, errW_some] <;> rfl), by (with_reducible repeat (first | apply Kd.S_alloc | apply Kd.S_drewN | apply Kd.S_drew)); exact Kd.S_mono HO_5.out (fun _ hk => trivial), by repeat (first | (with_reducible first | exact HB.out | apply below_alloc | apply pw_below_drewN | apply below_drew1) | exact HB.out)⟩

end Go.Proofs.Ytjfdjbmahahllaa.QLine
