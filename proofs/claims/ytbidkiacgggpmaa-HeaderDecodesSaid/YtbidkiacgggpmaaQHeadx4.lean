/- Written by a program of this session (wip/tools/mk.py) out of the kit's printing programs and of texts of our own: the contracts of the Go functions that the law goes through, and the row of the law. No condition is added. -/
import Derived.Test.YtbidkiacgggpmaaQHeadx0
import Derived.Test.YtbidkiacgggpmaaQHeadx3
namespace Go.Proofs.Ytbidkiacgggpmaa.QHead
open Go.RowKit Go.Proofs.YtbidkiacgggpmaaW.PrintWords Go.Proofs.YtbidkiacgggpmaaW.PrintLast Go.Proofs.YtbidkiacgggpmaaW.PrintMore
attribute [local go_sem] max2_int min2_int max_two min_two max_three min_three max_four min_four   -- for this text's walks alone
set_option linter.unusedVariables false
set_option linter.unusedSimpArgs false

attribute [local go_sem] min_seven
/-! ### stowageref18_Encode: function 11 -/
mutual
def stowageref18_Encode.j0 : Nat → Bool → Int → Int → Int → Int → Int → ByteArray → Option (List Int × Int)
  | 0, _, _, _, _, _, _, _ => none
  | k + 1, x54, x157000, x157001, x157002, x157003, x157004, x157005 => if x54 = true then (some (([] : List Int), 7)) else (if (x157005.size : Int) = 16 then (stowageref18_Encode.l0 k (([83, 72, (x157000) % 256, (x157001) % 256, (x157002) % 256, (x157003) % 256] : List Int)) 7 x157000 x157001 x157002 x157003 x157004 x157005) else (some (([] : List Int), 1)))
def stowageref18_Encode.l0 : Nat → List Int → Int → Int → Int → Int → Int → Int → ByteArray → Option (List Int × Int)
  | 0, _, _, _, _, _, _, _, _ => none
  | k + 1, x4, x5, x157000, x157001, x157002, x157003, x157004, x157005 => if x5 ≥ 0 then (if 0 ≤ (wrap64 (8 * x5)) then (if x4.length < 140737488355328 then (stowageref18_Encode.l0 k (x4 ++ [(shr .i64 x157004 (wrap64 (8 * x5))) % 256]) (wrap64 (x5 - 1)) x157000 x157001 x157002 x157003 x157004 x157005) else (none)) else (none)) else (if x4.length + x157005.size < 140737488355328 then (stowageref18_Encode.l1 k (x4 ++ bytesOf x157005)) else (none))
def stowageref18_Encode.l1 : Nat → List Int → Option (List Int × Int)
  | 0, _ => none
  | k + 1, x4 => if (x4.length : Int) < 60 then (if x4.length < 140737488355328 then (stowageref18_Encode.l1 k (x4 ++ [0])) else (none)) else ((stowageref02_Sum.f k x4).bind fun t169 => ((some (([(t169 / 16777216) % 256, (t169 / 65536) % 256, (t169 / 256) % 256, (t169) % 256] : List Int) : List Int)).bind fun y170 => (if x4.length + y170.length < 140737488355328 then (some ((x4 ++ y170), 0)) else (none))))
end
def stowageref18_Encode.f (k : Nat) (a0_0 : Int) (a0_1 : Int) (a0_2 : Int) (a0_3 : Int) (a0_4 : Int) (a0_5 : ByteArray) : Option (List Int × Int) := if a0_0 < 1 then (stowageref18_Encode.j0 k true a0_0 a0_1 a0_2 a0_3 a0_4 a0_5) else (if a0_0 > 7 then (stowageref18_Encode.j0 k true a0_0 a0_1 a0_2 a0_3 a0_4 a0_5) else (if a0_1 < 0 then (stowageref18_Encode.j0 k true a0_0 a0_1 a0_2 a0_3 a0_4 a0_5) else (if a0_1 > 7 then (stowageref18_Encode.j0 k true a0_0 a0_1 a0_2 a0_3 a0_4 a0_5) else (if a0_2 < 0 then (stowageref18_Encode.j0 k true a0_0 a0_1 a0_2 a0_3 a0_4 a0_5) else (if a0_2 > 31 then (stowageref18_Encode.j0 k true a0_0 a0_1 a0_2 a0_3 a0_4 a0_5) else (if a0_3 < 0 then (stowageref18_Encode.j0 k true a0_0 a0_1 a0_2 a0_3 a0_4 a0_5) else (if a0_3 > 63 then (stowageref18_Encode.j0 k true a0_0 a0_1 a0_2 a0_3 a0_4 a0_5) else (if a0_4 < 1 then (stowageref18_Encode.j0 k true a0_0 a0_1 a0_2 a0_3 a0_4 a0_5) else (stowageref18_Encode.j0 k (decide (a0_4 > 1099511627776)) a0_0 a0_1 a0_2 a0_3 a0_4 a0_5)))))))))
theorem stowageref18_Encode.mono_l : ∀ k, (∀ y0 y1 y2 y3 y4 y5 y6, LeO (stowageref18_Encode.j0 k y0 y1 y2 y3 y4 y5 y6) (stowageref18_Encode.j0 (k + 1) y0 y1 y2 y3 y4 y5 y6)) ∧ (∀ y0 y1 y2 y3 y4 y5 y6 y7, LeO (stowageref18_Encode.l0 k y0 y1 y2 y3 y4 y5 y6 y7) (stowageref18_Encode.l0 (k + 1) y0 y1 y2 y3 y4 y5 y6 y7)) ∧ (∀ y0, LeO (stowageref18_Encode.l1 k y0) (stowageref18_Encode.l1 (k + 1) y0))
  | 0 => ⟨fun _ _ _ _ _ _ _ r h => by simp [stowageref18_Encode.j0] at h, fun _ _ _ _ _ _ _ _ r h => by simp [stowageref18_Encode.l0] at h, fun _ r h => by simp [stowageref18_Encode.l1] at h⟩
  | k + 1 => by
    obtain ⟨ih0, ih1, ih2⟩ := stowageref18_Encode.mono_l k
    refine ⟨?_, ?_, ?_⟩
    · intro y0 y1 y2 y3 y4 y5 y6
      unfold stowageref18_Encode.j0
      repeat' first
      | (with_reducible exact ih0 _ _ _ _ _ _ _)
      | (with_reducible exact ih1 _ _ _ _ _ _ _ _)
      | (with_reducible exact ih2 _)
      | (with_reducible exact stowageref02_Sum.mono _ _)
      | (with_reducible exact LeO.refl _)
      | (with_reducible exact LeO.none _)
      | (with_reducible refine LeO.ite ?_ ?_)
      | (with_reducible refine LeO.bind ?_ (fun _ => ?_))
      | exact ih0 _ _ _ _ _ _ _
      | exact ih1 _ _ _ _ _ _ _ _
      | exact ih2 _
      | exact stowageref02_Sum.mono _ _
      | exact LeO.none _
      | refine LeO.ite ?_ ?_
      | refine LeO.bind ?_ (fun _ => ?_)
    · intro y0 y1 y2 y3 y4 y5 y6 y7
      unfold stowageref18_Encode.l0
      repeat' first
      | (with_reducible exact ih0 _ _ _ _ _ _ _)
      | (with_reducible exact ih1 _ _ _ _ _ _ _ _)
      | (with_reducible exact ih2 _)
      | (with_reducible exact stowageref02_Sum.mono _ _)
      | (with_reducible exact LeO.refl _)
      | (with_reducible exact LeO.none _)
      | (with_reducible refine LeO.ite ?_ ?_)
      | (with_reducible refine LeO.bind ?_ (fun _ => ?_))
      | exact ih0 _ _ _ _ _ _ _
      | exact ih1 _ _ _ _ _ _ _ _
      | exact ih2 _
      | exact stowageref02_Sum.mono _ _
      | exact LeO.none _
      | refine LeO.ite ?_ ?_
      | refine LeO.bind ?_ (fun _ => ?_)
    · intro y0
      unfold stowageref18_Encode.l1
      repeat' first
      | (with_reducible exact ih0 _ _ _ _ _ _ _)
      | (with_reducible exact ih1 _ _ _ _ _ _ _ _)
      | (with_reducible exact ih2 _)
      | (with_reducible exact stowageref02_Sum.mono _ _)
      | (with_reducible exact LeO.refl _)
      | (with_reducible exact LeO.none _)
      | (with_reducible refine LeO.ite ?_ ?_)
      | (with_reducible refine LeO.bind ?_ (fun _ => ?_))
      | exact ih0 _ _ _ _ _ _ _
      | exact ih1 _ _ _ _ _ _ _ _
      | exact ih2 _
      | exact stowageref02_Sum.mono _ _
      | exact LeO.none _
      | refine LeO.ite ?_ ?_
      | refine LeO.bind ?_ (fun _ => ?_)
theorem stowageref18_Encode.mono : ∀ a0 a1 a2 a3 a4 a5 k, LeO (stowageref18_Encode.f k a0 a1 a2 a3 a4 a5) (stowageref18_Encode.f (k + 1) a0 a1 a2 a3 a4 a5) := by
  intro a0 a1 a2 a3 a4 a5 k
  obtain ⟨ih0, ih1, ih2⟩ := stowageref18_Encode.mono_l k
  unfold stowageref18_Encode.f
  repeat' first
      | (with_reducible exact ih0 _ _ _ _ _ _ _)
      | (with_reducible exact ih1 _ _ _ _ _ _ _ _)
      | (with_reducible exact ih2 _)
      | (with_reducible exact stowageref02_Sum.mono _ _)
      | (with_reducible exact LeO.refl _)
      | (with_reducible exact LeO.none _)
      | (with_reducible refine LeO.ite ?_ ?_)
      | (with_reducible refine LeO.bind ?_ (fun _ => ?_))
      | exact ih0 _ _ _ _ _ _ _
      | exact ih1 _ _ _ _ _ _ _ _
      | exact ih2 _
      | exact stowageref02_Sum.mono _ _
      | exact LeO.none _
      | refine LeO.ite ?_ ?_
      | refine LeO.bind ?_ (fun _ => ?_)
set_option maxHeartbeats 8000000 in
set_option maxRecDepth 100000 in
theorem stowageref18_Encode.calls (k : Nat) (a0_0 : Int) (a0_1 : Int) (a0_2 : Int) (a0_3 : Int) (a0_4 : Int) (a0_5 : ByteArray) (r1 : List Int) (r2 : Int) (w : World) (h : stowageref18_Encode.f k a0_0 a0_1 a0_2 a0_3 a0_4 a0_5 = some (r1, r2)) :
    Calls Try.prog 11 #[.agg #[.int .i64 a0_0, .int .i64 a0_1, .int .i64 a0_2, .int .i64 a0_3, .int .i64 a0_4, .string a0_5]] w fun e w' => ∃ v0_ : Value, e = .returned (.tuple #[v0_, .int .i64 r2]) ∧ Kd.R (Kd.int .u8) 5 w' w.heap.size (fun _ => True) v0_ r1 ∧ Below w.heap.size w w' := by
  have hu23 := Try.underlying23
  have HB := Aside0.mk (Below.refl w.heap.size w)
  have H : (if a0_0 < 1 then (stowageref18_Encode.j0 k true a0_0 a0_1 a0_2 a0_3 a0_4 a0_5) else (if a0_0 > 7 then (stowageref18_Encode.j0 k true a0_0 a0_1 a0_2 a0_3 a0_4 a0_5) else (if a0_1 < 0 then (stowageref18_Encode.j0 k true a0_0 a0_1 a0_2 a0_3 a0_4 a0_5) else (if a0_1 > 7 then (stowageref18_Encode.j0 k true a0_0 a0_1 a0_2 a0_3 a0_4 a0_5) else (if a0_2 < 0 then (stowageref18_Encode.j0 k true a0_0 a0_1 a0_2 a0_3 a0_4 a0_5) else (if a0_2 > 31 then (stowageref18_Encode.j0 k true a0_0 a0_1 a0_2 a0_3 a0_4 a0_5) else (if a0_3 < 0 then (stowageref18_Encode.j0 k true a0_0 a0_1 a0_2 a0_3 a0_4 a0_5) else (if a0_3 > 63 then (stowageref18_Encode.j0 k true a0_0 a0_1 a0_2 a0_3 a0_4 a0_5) else (if a0_4 < 1 then (stowageref18_Encode.j0 k true a0_0 a0_1 a0_2 a0_3 a0_4 a0_5) else (stowageref18_Encode.j0 k (decide (a0_4 > 1099511627776)) a0_0 a0_1 a0_2 a0_3 a0_4 a0_5)))))))))) = some (r1, r2) := h
  clear h
  have HC2 := Aside0.mk H
  clear H
  go_enter Try.func11, Try.ntmps11
  go_upto_region 1 with (first | ((with_reducible refine gate_dst (N := 1) rfl ?_); refine box_event ?hg (N := 1) ?hd (cs := #[.int .i64 a0_0, .int .i64 a0_1, .int .i64 a0_2, .int .i64 a0_3, .int .i64 a0_4, .string a0_5]) (t := 23) ?hr ?_; (case hd => rfl); (case hg => rfl); (case hr => first | (go_simp; done) | (go_simp; rfl)); intro gb156 hg w3 hbox hb; have n0_ := Aside0.mk (below_step (by repeat (first | (with_reducible first | exact HB.out | apply below_alloc | apply pw_below_drewN | apply below_drew1) | exact HB.out)) hb); have n1_ := Aside0.mk (hbox); have n2_ := Aside0.mk ((by rw [hg]; exact (below_size (by repeat (first | (with_reducible first | exact HB.out | apply below_alloc | apply pw_below_drewN | apply below_drew1) | exact HB.out))) : w.heap.size ≤ gb156)); have n3_ := Aside0.mk ((by rw [hg]; exact (below_size (by repeat (first | (with_reducible first | exact HB.out | apply below_alloc | apply pw_below_drewN | apply below_drew1) | exact HB.out))) : w.heap.size ≤ gb156)); clear HB; have HB := n0_; have BK156 := n1_; have GW156 := n2_; have GE156 := n3_; clear n0_ n1_ n2_ n3_; clear hb hbox hg))
  (try simp only [Act.put, List.setIfInBounds_toArray, List.set_cons_zero, List.set_cons_succ])
  go_cut [54] (fun v54 wc => ∃ (kq : Nat) (x54_1 : Bool), v54 = .bool x54_1 ∧ Aside0 (stowageref18_Encode.j0 kq x54_1 a0_0 a0_1 a0_2 a0_3 a0_4 a0_5 = some (r1, r2)) ∧ Aside0 (kq ≤ k) ∧ Aside0 (wc.heap[gb156]? = some (.cells #[.int .i64 a0_0, .int .i64 a0_1, .int .i64 a0_2, .int .i64 a0_3, .int .i64 a0_4, .string a0_5] 23 (0, 0))) ∧ Aside0 (Below w.heap.size w wc))
  case first =>
    have H := HC2.out
    clear HC2
    by_cases c4 : a0_0 < 1
    · rw [if_pos c4] at H
      have c4b0 : decide (a0_0 < 1) = true := decide_eq_true c4
      clear c4
      (first | rw [c4b0] | (simp only [i64_w, i32_w]; rw [c4b0]) | rw [c4b1] | skip)
      have H' := Aside0.mk H
      clear H
      have hcz5_0 : w3.cell? ⟨gb156, 0, none⟩ = some (.int .i64 a0_0) := (blk_cell BK156.out 0).trans rfl
      have hcz5_1 : w3.cell? ⟨gb156, 1, none⟩ = some (.int .i64 a0_1) := (blk_cell BK156.out 1).trans rfl
      have hcz5_2 : w3.cell? ⟨gb156, 2, none⟩ = some (.int .i64 a0_2) := (blk_cell BK156.out 2).trans rfl
      have hcz5_3 : w3.cell? ⟨gb156, 3, none⟩ = some (.int .i64 a0_3) := (blk_cell BK156.out 3).trans rfl
      have hcz5_4 : w3.cell? ⟨gb156, 4, none⟩ = some (.int .i64 a0_4) := (blk_cell BK156.out 4).trans rfl
      have hcz5_5 : w3.cell? ⟨gb156, 5, none⟩ = some (.string a0_5) := (blk_cell BK156.out 5).trans rfl
      have hfz5_0 := blk_frozen BK156.out 0
      have hfz5_1 := blk_frozen BK156.out 1
      have hfz5_2 := blk_frozen BK156.out 2
      have hfz5_3 := blk_frozen BK156.out 3
      have hfz5_4 := blk_frozen BK156.out 4
      have hfz5_5 := blk_frozen BK156.out 5
      go_wp2
      go_meet
      case rel => exact ⟨_, (true), (by first | rfl | (simp; done) | (simp [*]; done)), H', ⟨by first | omega | exact Nat.le_refl _⟩, ⟨by (with_reducible repeat (first | refine blk_drewN ?_ _ | refine blk_drew ?_ | refine blk_alloc ?_ _)); exact BK156.out⟩, ⟨by repeat (first | (with_reducible first | exact HB.out | apply below_alloc | apply pw_below_drewN | apply below_drew1 | refine below_set ?_ GE156.out) | exact HB.out)⟩⟩
    · rw [if_neg c4] at H
      have c4b0 : decide (a0_0 < 1) = false := decide_eq_false c4
      clear c4
      (first | rw [c4b0] | (simp only [i64_w, i32_w]; rw [c4b0]) | rw [c4b1] | skip)
      by_cases c6 : a0_0 > 7
      · rw [if_pos c6] at H
        have c6b0 : decide (7 < a0_0) = true := decide_eq_true c6
        clear c6
        have H' := Aside0.mk H
        clear H
        have hcz7_0 : w3.cell? ⟨gb156, 0, none⟩ = some (.int .i64 a0_0) := (blk_cell BK156.out 0).trans rfl
        have hcz7_1 : w3.cell? ⟨gb156, 1, none⟩ = some (.int .i64 a0_1) := (blk_cell BK156.out 1).trans rfl
        have hcz7_2 : w3.cell? ⟨gb156, 2, none⟩ = some (.int .i64 a0_2) := (blk_cell BK156.out 2).trans rfl
        have hcz7_3 : w3.cell? ⟨gb156, 3, none⟩ = some (.int .i64 a0_3) := (blk_cell BK156.out 3).trans rfl
        have hcz7_4 : w3.cell? ⟨gb156, 4, none⟩ = some (.int .i64 a0_4) := (blk_cell BK156.out 4).trans rfl
        have hcz7_5 : w3.cell? ⟨gb156, 5, none⟩ = some (.string a0_5) := (blk_cell BK156.out 5).trans rfl
        have hfz7_0 := blk_frozen BK156.out 0
        have hfz7_1 := blk_frozen BK156.out 1
        have hfz7_2 := blk_frozen BK156.out 2
        have hfz7_3 := blk_frozen BK156.out 3
        have hfz7_4 := blk_frozen BK156.out 4
        have hfz7_5 := blk_frozen BK156.out 5
        go_wp2
        go_meet
        case rel => exact ⟨_, (true), (by first | rfl | (simp; done) | (simp [*]; done)), H', ⟨by first | omega | exact Nat.le_refl _⟩, ⟨by (with_reducible repeat (first | refine blk_drewN ?_ _ | refine blk_drew ?_ | refine blk_alloc ?_ _)); exact BK156.out⟩, ⟨by repeat (first | (with_reducible first | exact HB.out | apply below_alloc | apply pw_below_drewN | apply below_drew1 | refine below_set ?_ GE156.out) | exact HB.out)⟩⟩
      · rw [if_neg c6] at H
        have c6b0 : decide (7 < a0_0) = false := decide_eq_false c6
        clear c6
        by_cases c8 : a0_1 < 0
        · rw [if_pos c8] at H
          have c8b0 : decide (a0_1 < 0) = true := decide_eq_true c8
          clear c8
          have H' := Aside0.mk H
          clear H
          have hcz9_0 : w3.cell? ⟨gb156, 0, none⟩ = some (.int .i64 a0_0) := (blk_cell BK156.out 0).trans rfl
          have hcz9_1 : w3.cell? ⟨gb156, 1, none⟩ = some (.int .i64 a0_1) := (blk_cell BK156.out 1).trans rfl
          have hcz9_2 : w3.cell? ⟨gb156, 2, none⟩ = some (.int .i64 a0_2) := (blk_cell BK156.out 2).trans rfl
          have hcz9_3 : w3.cell? ⟨gb156, 3, none⟩ = some (.int .i64 a0_3) := (blk_cell BK156.out 3).trans rfl
          have hcz9_4 : w3.cell? ⟨gb156, 4, none⟩ = some (.int .i64 a0_4) := (blk_cell BK156.out 4).trans rfl
          have hcz9_5 : w3.cell? ⟨gb156, 5, none⟩ = some (.string a0_5) := (blk_cell BK156.out 5).trans rfl
          have hfz9_0 := blk_frozen BK156.out 0
          have hfz9_1 := blk_frozen BK156.out 1
          have hfz9_2 := blk_frozen BK156.out 2
          have hfz9_3 := blk_frozen BK156.out 3
          have hfz9_4 := blk_frozen BK156.out 4
          have hfz9_5 := blk_frozen BK156.out 5
          go_wp2
          go_meet
          case rel => exact ⟨_, (true), (by first | rfl | (simp; done) | (simp [*]; done)), H', ⟨by first | omega | exact Nat.le_refl _⟩, ⟨by (with_reducible repeat (first | refine blk_drewN ?_ _ | refine blk_drew ?_ | refine blk_alloc ?_ _)); exact BK156.out⟩, ⟨by repeat (first | (with_reducible first | exact HB.out | apply below_alloc | apply pw_below_drewN | apply below_drew1 | refine below_set ?_ GE156.out) | exact HB.out)⟩⟩
        · rw [if_neg c8] at H
          have c8b0 : decide (a0_1 < 0) = false := decide_eq_false c8
          clear c8
          by_cases c10 : a0_1 > 7
          · rw [if_pos c10] at H
            have c10b0 : decide (7 < a0_1) = true := decide_eq_true c10
            clear c10
            have H' := Aside0.mk H
            clear H
            have hcz11_0 : w3.cell? ⟨gb156, 0, none⟩ = some (.int .i64 a0_0) := (blk_cell BK156.out 0).trans rfl
            have hcz11_1 : w3.cell? ⟨gb156, 1, none⟩ = some (.int .i64 a0_1) := (blk_cell BK156.out 1).trans rfl
            have hcz11_2 : w3.cell? ⟨gb156, 2, none⟩ = some (.int .i64 a0_2) := (blk_cell BK156.out 2).trans rfl
            have hcz11_3 : w3.cell? ⟨gb156, 3, none⟩ = some (.int .i64 a0_3) := (blk_cell BK156.out 3).trans rfl
            have hcz11_4 : w3.cell? ⟨gb156, 4, none⟩ = some (.int .i64 a0_4) := (blk_cell BK156.out 4).trans rfl
            have hcz11_5 : w3.cell? ⟨gb156, 5, none⟩ = some (.string a0_5) := (blk_cell BK156.out 5).trans rfl
            have hfz11_0 := blk_frozen BK156.out 0
            have hfz11_1 := blk_frozen BK156.out 1
            have hfz11_2 := blk_frozen BK156.out 2
            have hfz11_3 := blk_frozen BK156.out 3
            have hfz11_4 := blk_frozen BK156.out 4
            have hfz11_5 := blk_frozen BK156.out 5
            go_wp2
            go_meet
            case rel => exact ⟨_, (true), (by first | rfl | (simp; done) | (simp [*]; done)), H', ⟨by first | omega | exact Nat.le_refl _⟩, ⟨by (with_reducible repeat (first | refine blk_drewN ?_ _ | refine blk_drew ?_ | refine blk_alloc ?_ _)); exact BK156.out⟩, ⟨by repeat (first | (with_reducible first | exact HB.out | apply below_alloc | apply pw_below_drewN | apply below_drew1 | refine below_set ?_ GE156.out) | exact HB.out)⟩⟩
          · rw [if_neg c10] at H
            have c10b0 : decide (7 < a0_1) = false := decide_eq_false c10
            clear c10
            by_cases c12 : a0_2 < 0
            · rw [if_pos c12] at H
              have c12b0 : decide (a0_2 < 0) = true := decide_eq_true c12
              clear c12
              have H' := Aside0.mk H
              clear H
              have hcz13_0 : w3.cell? ⟨gb156, 0, none⟩ = some (.int .i64 a0_0) := (blk_cell BK156.out 0).trans rfl
              have hcz13_1 : w3.cell? ⟨gb156, 1, none⟩ = some (.int .i64 a0_1) := (blk_cell BK156.out 1).trans rfl
              have hcz13_2 : w3.cell? ⟨gb156, 2, none⟩ = some (.int .i64 a0_2) := (blk_cell BK156.out 2).trans rfl
              have hcz13_3 : w3.cell? ⟨gb156, 3, none⟩ = some (.int .i64 a0_3) := (blk_cell BK156.out 3).trans rfl
              have hcz13_4 : w3.cell? ⟨gb156, 4, none⟩ = some (.int .i64 a0_4) := (blk_cell BK156.out 4).trans rfl
              have hcz13_5 : w3.cell? ⟨gb156, 5, none⟩ = some (.string a0_5) := (blk_cell BK156.out 5).trans rfl
              have hfz13_0 := blk_frozen BK156.out 0
              have hfz13_1 := blk_frozen BK156.out 1
              have hfz13_2 := blk_frozen BK156.out 2
              have hfz13_3 := blk_frozen BK156.out 3
              have hfz13_4 := blk_frozen BK156.out 4
              have hfz13_5 := blk_frozen BK156.out 5
              go_wp2
              go_meet
              case rel => exact ⟨_, (true), (by first | rfl | (simp; done) | (simp [*]; done)), H', ⟨by first | omega | exact Nat.le_refl _⟩, ⟨by (with_reducible repeat (first | refine blk_drewN ?_ _ | refine blk_drew ?_ | refine blk_alloc ?_ _)); exact BK156.out⟩, ⟨by repeat (first | (with_reducible first | exact HB.out | apply below_alloc | apply pw_below_drewN | apply below_drew1 | refine below_set ?_ GE156.out) | exact HB.out)⟩⟩
            · rw [if_neg c12] at H
              have c12b0 : decide (a0_2 < 0) = false := decide_eq_false c12
              clear c12
              by_cases c14 : a0_2 > 31
              · rw [if_pos c14] at H
                have c14b0 : decide (31 < a0_2) = true := decide_eq_true c14
                clear c14
                have H' := Aside0.mk H
                clear H
                have hcz15_0 : w3.cell? ⟨gb156, 0, none⟩ = some (.int .i64 a0_0) := (blk_cell BK156.out 0).trans rfl
                have hcz15_1 : w3.cell? ⟨gb156, 1, none⟩ = some (.int .i64 a0_1) := (blk_cell BK156.out 1).trans rfl
                have hcz15_2 : w3.cell? ⟨gb156, 2, none⟩ = some (.int .i64 a0_2) := (blk_cell BK156.out 2).trans rfl
                have hcz15_3 : w3.cell? ⟨gb156, 3, none⟩ = some (.int .i64 a0_3) := (blk_cell BK156.out 3).trans rfl
                have hcz15_4 : w3.cell? ⟨gb156, 4, none⟩ = some (.int .i64 a0_4) := (blk_cell BK156.out 4).trans rfl
                have hcz15_5 : w3.cell? ⟨gb156, 5, none⟩ = some (.string a0_5) := (blk_cell BK156.out 5).trans rfl
                have hfz15_0 := blk_frozen BK156.out 0
                have hfz15_1 := blk_frozen BK156.out 1
                have hfz15_2 := blk_frozen BK156.out 2
                have hfz15_3 := blk_frozen BK156.out 3
                have hfz15_4 := blk_frozen BK156.out 4
                have hfz15_5 := blk_frozen BK156.out 5
                go_wp2
                go_meet
                case rel => exact ⟨_, (true), (by first | rfl | (simp; done) | (simp [*]; done)), H', ⟨by first | omega | exact Nat.le_refl _⟩, ⟨by (with_reducible repeat (first | refine blk_drewN ?_ _ | refine blk_drew ?_ | refine blk_alloc ?_ _)); exact BK156.out⟩, ⟨by repeat (first | (with_reducible first | exact HB.out | apply below_alloc | apply pw_below_drewN | apply below_drew1 | refine below_set ?_ GE156.out) | exact HB.out)⟩⟩
              · rw [if_neg c14] at H
                have c14b0 : decide (31 < a0_2) = false := decide_eq_false c14
                clear c14
                by_cases c16 : a0_3 < 0
                · rw [if_pos c16] at H
                  have c16b0 : decide (a0_3 < 0) = true := decide_eq_true c16
                  clear c16
                  have H' := Aside0.mk H
                  clear H
                  have hcz17_0 : w3.cell? ⟨gb156, 0, none⟩ = some (.int .i64 a0_0) := (blk_cell BK156.out 0).trans rfl
                  have hcz17_1 : w3.cell? ⟨gb156, 1, none⟩ = some (.int .i64 a0_1) := (blk_cell BK156.out 1).trans rfl
                  have hcz17_2 : w3.cell? ⟨gb156, 2, none⟩ = some (.int .i64 a0_2) := (blk_cell BK156.out 2).trans rfl
                  have hcz17_3 : w3.cell? ⟨gb156, 3, none⟩ = some (.int .i64 a0_3) := (blk_cell BK156.out 3).trans rfl
                  have hcz17_4 : w3.cell? ⟨gb156, 4, none⟩ = some (.int .i64 a0_4) := (blk_cell BK156.out 4).trans rfl
                  have hcz17_5 : w3.cell? ⟨gb156, 5, none⟩ = some (.string a0_5) := (blk_cell BK156.out 5).trans rfl
                  have hfz17_0 := blk_frozen BK156.out 0
                  have hfz17_1 := blk_frozen BK156.out 1
                  have hfz17_2 := blk_frozen BK156.out 2
                  have hfz17_3 := blk_frozen BK156.out 3
                  have hfz17_4 := blk_frozen BK156.out 4
                  have hfz17_5 := blk_frozen BK156.out 5
                  go_wp2
                  go_meet
                  case rel => exact ⟨_, (true), (by first | rfl | (simp; done) | (simp [*]; done)), H', ⟨by first | omega | exact Nat.le_refl _⟩, ⟨by (with_reducible repeat (first | refine blk_drewN ?_ _ | refine blk_drew ?_ | refine blk_alloc ?_ _)); exact BK156.out⟩, ⟨by repeat (first | (with_reducible first | exact HB.out | apply below_alloc | apply pw_below_drewN | apply below_drew1 | refine below_set ?_ GE156.out) | exact HB.out)⟩⟩
                · rw [if_neg c16] at H
                  have c16b0 : decide (a0_3 < 0) = false := decide_eq_false c16
                  clear c16
                  by_cases c18 : a0_3 > 63
                  · rw [if_pos c18] at H
                    have c18b0 : decide (63 < a0_3) = true := decide_eq_true c18
                    clear c18
                    have H' := Aside0.mk H
                    clear H
                    have hcz19_0 : w3.cell? ⟨gb156, 0, none⟩ = some (.int .i64 a0_0) := (blk_cell BK156.out 0).trans rfl
                    have hcz19_1 : w3.cell? ⟨gb156, 1, none⟩ = some (.int .i64 a0_1) := (blk_cell BK156.out 1).trans rfl
                    have hcz19_2 : w3.cell? ⟨gb156, 2, none⟩ = some (.int .i64 a0_2) := (blk_cell BK156.out 2).trans rfl
                    have hcz19_3 : w3.cell? ⟨gb156, 3, none⟩ = some (.int .i64 a0_3) := (blk_cell BK156.out 3).trans rfl
                    have hcz19_4 : w3.cell? ⟨gb156, 4, none⟩ = some (.int .i64 a0_4) := (blk_cell BK156.out 4).trans rfl
                    have hcz19_5 : w3.cell? ⟨gb156, 5, none⟩ = some (.string a0_5) := (blk_cell BK156.out 5).trans rfl
                    have hfz19_0 := blk_frozen BK156.out 0
                    have hfz19_1 := blk_frozen BK156.out 1
                    have hfz19_2 := blk_frozen BK156.out 2
                    have hfz19_3 := blk_frozen BK156.out 3
                    have hfz19_4 := blk_frozen BK156.out 4
                    have hfz19_5 := blk_frozen BK156.out 5
                    go_wp2
                    go_meet
                    case rel => exact ⟨_, (true), (by first | rfl | (simp; done) | (simp [*]; done)), H', ⟨by first | omega | exact Nat.le_refl _⟩, ⟨by (with_reducible repeat (first | refine blk_drewN ?_ _ | refine blk_drew ?_ | refine blk_alloc ?_ _)); exact BK156.out⟩, ⟨by repeat (first | (with_reducible first | exact HB.out | apply below_alloc | apply pw_below_drewN | apply below_drew1 | refine below_set ?_ GE156.out) | exact HB.out)⟩⟩
                  · rw [if_neg c18] at H
                    have c18b0 : decide (63 < a0_3) = false := decide_eq_false c18
                    clear c18
                    by_cases c20 : a0_4 < 1
                    · rw [if_pos c20] at H
                      have c20b0 : decide (a0_4 < 1) = true := decide_eq_true c20
                      clear c20
                      have H' := Aside0.mk H
                      clear H
                      have hcz21_0 : w3.cell? ⟨gb156, 0, none⟩ = some (.int .i64 a0_0) := (blk_cell BK156.out 0).trans rfl
                      have hcz21_1 : w3.cell? ⟨gb156, 1, none⟩ = some (.int .i64 a0_1) := (blk_cell BK156.out 1).trans rfl
                      have hcz21_2 : w3.cell? ⟨gb156, 2, none⟩ = some (.int .i64 a0_2) := (blk_cell BK156.out 2).trans rfl
                      have hcz21_3 : w3.cell? ⟨gb156, 3, none⟩ = some (.int .i64 a0_3) := (blk_cell BK156.out 3).trans rfl
                      have hcz21_4 : w3.cell? ⟨gb156, 4, none⟩ = some (.int .i64 a0_4) := (blk_cell BK156.out 4).trans rfl
                      have hcz21_5 : w3.cell? ⟨gb156, 5, none⟩ = some (.string a0_5) := (blk_cell BK156.out 5).trans rfl
                      have hfz21_0 := blk_frozen BK156.out 0
                      have hfz21_1 := blk_frozen BK156.out 1
                      have hfz21_2 := blk_frozen BK156.out 2
                      have hfz21_3 := blk_frozen BK156.out 3
                      have hfz21_4 := blk_frozen BK156.out 4
                      have hfz21_5 := blk_frozen BK156.out 5
                      go_wp2
                      go_meet
                      case rel => exact ⟨_, (true), (by first | rfl | (simp; done) | (simp [*]; done)), H', ⟨by first | omega | exact Nat.le_refl _⟩, ⟨by (with_reducible repeat (first | refine blk_drewN ?_ _ | refine blk_drew ?_ | refine blk_alloc ?_ _)); exact BK156.out⟩, ⟨by repeat (first | (with_reducible first | exact HB.out | apply below_alloc | apply pw_below_drewN | apply below_drew1 | refine below_set ?_ GE156.out) | exact HB.out)⟩⟩
                    · rw [if_neg c20] at H
                      have c20b0 : decide (a0_4 < 1) = false := decide_eq_false c20
                      clear c20
                      have H' := Aside0.mk H
                      clear H
                      have hcz22_0 : w3.cell? ⟨gb156, 0, none⟩ = some (.int .i64 a0_0) := (blk_cell BK156.out 0).trans rfl
                      have hcz22_1 : w3.cell? ⟨gb156, 1, none⟩ = some (.int .i64 a0_1) := (blk_cell BK156.out 1).trans rfl
                      have hcz22_2 : w3.cell? ⟨gb156, 2, none⟩ = some (.int .i64 a0_2) := (blk_cell BK156.out 2).trans rfl
                      have hcz22_3 : w3.cell? ⟨gb156, 3, none⟩ = some (.int .i64 a0_3) := (blk_cell BK156.out 3).trans rfl
                      have hcz22_4 : w3.cell? ⟨gb156, 4, none⟩ = some (.int .i64 a0_4) := (blk_cell BK156.out 4).trans rfl
                      have hcz22_5 : w3.cell? ⟨gb156, 5, none⟩ = some (.string a0_5) := (blk_cell BK156.out 5).trans rfl
                      have hfz22_0 := blk_frozen BK156.out 0
                      have hfz22_1 := blk_frozen BK156.out 1
                      have hfz22_2 := blk_frozen BK156.out 2
                      have hfz22_3 := blk_frozen BK156.out 3
                      have hfz22_4 := blk_frozen BK156.out 4
                      have hfz22_5 := blk_frozen BK156.out 5
                      go_wp2
                      go_meet
                      case rel => exact ⟨_, (decide (a0_4 > 1099511627776)), (by first | rfl | (simp; done) | (simp [*]; done)), H', ⟨by first | omega | exact Nat.le_refl _⟩, ⟨by (with_reducible repeat (first | refine blk_drewN ?_ _ | refine blk_drew ?_ | refine blk_alloc ?_ _)); exact BK156.out⟩, ⟨by repeat (first | (with_reducible first | exact HB.out | apply below_alloc | apply pw_below_drewN | apply below_drew1 | refine below_set ?_ GE156.out) | exact HB.out)⟩⟩
  case rest =>
    clear HC2
    try clear c1
    try clear c2
    try clear p2
    try clear c4
    try clear c4b0
    try clear c4b1
    try clear c6
    try clear c6b0
    try clear c8
    try clear c8b0
    try clear c10
    try clear c10b0
    try clear c11
    try clear c12
    try clear c12b0
    try clear c14
    try clear c14b0
    try clear c16
    try clear c16b0
    try clear c18
    try clear c18b0
    try clear c20
    try clear c20b0
    try clear hcz11_0
    try clear hcz11_1
    try clear hcz11_2
    try clear hcz11_3
    try clear hcz11_4
    try clear hcz11_5
    try clear hcz13_0
    try clear hcz13_1
    try clear hcz13_2
    try clear hcz13_3
    try clear hcz13_4
    try clear hcz13_5
    try clear hcz15_0
    try clear hcz15_1
    try clear hcz15_2
    try clear hcz15_3
    try clear hcz15_4
    try clear hcz15_5
    try clear hcz17_0
    try clear hcz17_1
    try clear hcz17_2
    try clear hcz17_3
    try clear hcz17_4
    try clear hcz17_5
    try clear hcz19_0
    try clear hcz19_1
    try clear hcz19_2
    try clear hcz19_3
    try clear hcz19_4
    try clear hcz19_5
    try clear hcz21_0
    try clear hcz21_1
    try clear hcz21_2
    try clear hcz21_3
    try clear hcz21_4
    try clear hcz21_5
    try clear hcz22_0
    try clear hcz22_1
    try clear hcz22_2
    try clear hcz22_3
    try clear hcz22_4
    try clear hcz22_5
    try clear hcz5_0
    try clear hcz5_1
    try clear hcz5_2
    try clear hcz5_3
    try clear hcz5_4
    try clear hcz5_5
    try clear hcz7_0
    try clear hcz7_1
    try clear hcz7_2
    try clear hcz7_3
    try clear hcz7_4
    try clear hcz7_5
    try clear hcz9_0
    try clear hcz9_1
    try clear hcz9_2
    try clear hcz9_3
    try clear hcz9_4
    try clear hcz9_5
    try clear hfz11_0
    try clear hfz11_1
    try clear hfz11_2
    try clear hfz11_3
    try clear hfz11_4
    try clear hfz11_5
    try clear hfz13_0
    try clear hfz13_1
    try clear hfz13_2
    try clear hfz13_3
    try clear hfz13_4
    try clear hfz13_5
    try clear hfz15_0
    try clear hfz15_1
    try clear hfz15_2
    try clear hfz15_3
    try clear hfz15_4
    try clear hfz15_5
    try clear hfz17_0
    try clear hfz17_1
    try clear hfz17_2
    try clear hfz17_3
    try clear hfz17_4
    try clear hfz17_5
    try clear hfz19_0
    try clear hfz19_1
    try clear hfz19_2
    try clear hfz19_3
    try clear hfz19_4
    try clear hfz19_5
    try clear hfz21_0
    try clear hfz21_1
    try clear hfz21_2
    try clear hfz21_3
    try clear hfz21_4
    try clear hfz21_5
    try clear hfz22_0
    try clear hfz22_1
    try clear hfz22_2
    try clear hfz22_3
    try clear hfz22_4
    try clear hfz22_5
    try clear hfz5_0
    try clear hfz5_1
    try clear hfz5_2
    try clear hfz5_3
    try clear hfz5_4
    try clear hfz5_5
    try clear hfz7_0
    try clear hfz7_1
    try clear hfz7_2
    try clear hfz7_3
    try clear hfz7_4
    try clear hfz7_5
    try clear hfz9_0
    try clear hfz9_1
    try clear hfz9_2
    try clear hfz9_3
    try clear hfz9_4
    try clear hfz9_5
    obtain ⟨kq, x54_1, rfl, HA, HJ1, BK156, HB⟩ := hcut
    cases kq with
    | zero => exact absurd HA.out (by simp [stowageref18_Encode.j0])
    | succ kj1 =>
      have H := HA.out
      clear HA
      simp only [stowageref18_Encode.j0] at H
      by_cases c23 : x54_1 = true
      · subst c23
        have H1 : (some (([] : List Int), 7)) = some (r1, r2) := by rw [if_pos rfl] at H; exact H
        clear H
        have H := H1
        clear H1
        simp only [Option.some.injEq, Prod.mk.injEq] at H
        obtain ⟨rfl, rfl⟩ := H
        go_wp2
        go_ret2
        exact ⟨_, by first | rfl | (simp [errW_none, errW_some] <;> rfl) | (simp [*, errW_none, errW_some] <;> rfl), by first | exact Kd.R_nil _ _ _ _ _ | exact Kd.N_nil _ _ _ _ _ | exact Kd.V_nil _ _ _ _ _ | exact Kd.Q_nil _ _ _ _ _ | exact Kd.S_nil _ _ _ _ _, by repeat (first | (with_reducible first | exact HB.out | apply below_alloc | apply pw_below_drewN | apply below_drew1 | refine below_set ?_ GE156.out) | exact HB.out)⟩
      · replace c23 := Bool.eq_false_iff.mpr c23
        subst c23
        have H1 : (if (a0_5.size : Int) = 16 then (stowageref18_Encode.l0 kj1 (([83, 72, (a0_0) % 256, (a0_1) % 256, (a0_2) % 256, (a0_3) % 256] : List Int)) 7 a0_0 a0_1 a0_2 a0_3 a0_4 a0_5) else (some (([] : List Int), 1))) = some (r1, r2) := by rw [if_neg (show ¬ (false = true) by decide)] at H; exact H
        clear H
        have H := H1
        clear H1
        by_cases c24 : (a0_5.size : Int) = 16
        · rw [if_pos c24] at H
          have c24b0 : ((a0_5.size : Int) == 16) = true := beq_iff_eq.mpr c24
          have c24b1 : ((a0_5.size : Int) != 16) = false := bne_eq_false_iff_eq.mpr c24
          clear c24
          obtain ⟨y157, hy157⟩ : ∃ y_ : List Int, y_ = (([83, 72, (a0_0) % 256, (a0_1) % 256, (a0_2) % 256, (a0_3) % 256] : List Int)) := ⟨_, rfl⟩
          replace H : (stowageref18_Encode.l0 kj1 y157 7 a0_0 a0_1 a0_2 a0_3 a0_4 a0_5) = some (r1, r2) := by first | (rw [hy157]; with_reducible exact H) | (have H2_ := (Option.bind_some _ _).symm.trans H; rw [hy157]; with_reducible exact H2_) | (have H2_ := (Option.bind_some _ _).symm.trans H; with_reducible exact H2_) | with_reducible exact H | (rw [hy157]; exact H) | exact H
          have Ny157 := Aside0.mk hy157
          clear hy157
          have H' := Aside0.mk H
          clear H
          have hcz25_0 : wc.cell? ⟨gb156, 0, none⟩ = some (.int .i64 a0_0) := (blk_cell BK156.out 0).trans rfl
          have hcz25_1 : wc.cell? ⟨gb156, 1, none⟩ = some (.int .i64 a0_1) := (blk_cell BK156.out 1).trans rfl
          have hcz25_2 : wc.cell? ⟨gb156, 2, none⟩ = some (.int .i64 a0_2) := (blk_cell BK156.out 2).trans rfl
          have hcz25_3 : wc.cell? ⟨gb156, 3, none⟩ = some (.int .i64 a0_3) := (blk_cell BK156.out 3).trans rfl
          have hcz25_4 : wc.cell? ⟨gb156, 4, none⟩ = some (.int .i64 a0_4) := (blk_cell BK156.out 4).trans rfl
          have hcz25_5 : wc.cell? ⟨gb156, 5, none⟩ = some (.string a0_5) := (blk_cell BK156.out 5).trans rfl
          have hfz25_0 := blk_frozen BK156.out 0
          have hfz25_1 := blk_frozen BK156.out 1
          have hfz25_2 := blk_frozen BK156.out 2
          have hfz25_3 := blk_frozen BK156.out 3
          have hfz25_4 := blk_frozen BK156.out 4
          have hfz25_5 := blk_frozen BK156.out 5
          go_wp2_with (first | ((with_reducible refine gate_dst (N := 71) rfl ?_); refine Kd.R_lit (Kd.int .u8) _ 5 ?hg (N := 71) ?hd (xs := ([83, 72, (a0_0) % 256, (a0_1) % 256, (a0_2) % 256, (a0_3) % 256] : List Int)) (inner := [.int .u8 83, .int .u8 72, .int .u8 ((a0_0) % 256), .int .u8 ((a0_1) % 256), .int .u8 ((a0_2) % 256), .int .u8 ((a0_3) % 256)]) (ok := fun _ => True) (okp := fun _ => True) ?hr ?hp (fun _ hk => hk) trivial (Below.refl _ _) (Nat.le_refl _) (by simp) ?_; (case hd => rfl); (case hg => rfl); (case hr => first | (go_simp; done) | (go_simp; rfl)); (case hp => exact (Reps.one (show Kd.M (Kd.int .u8) _ _ _ 83 [.int .u8 83] from rfl) (Reps.one (show Kd.M (Kd.int .u8) _ _ _ 72 [.int .u8 72] from rfl) (Reps.one (show Kd.M (Kd.int .u8) _ _ _ ((a0_0) % 256) [.int .u8 ((a0_0) % 256)] from rfl) (Reps.one (show Kd.M (Kd.int .u8) _ _ _ ((a0_1) % 256) [.int .u8 ((a0_1) % 256)] from rfl) (Reps.one (show Kd.M (Kd.int .u8) _ _ _ ((a0_2) % 256) [.int .u8 ((a0_2) % 256)] from rfl) (Reps.one (show Kd.M (Kd.int .u8) _ _ _ ((a0_3) % 256) [.int .u8 ((a0_3) % 256)] from rfl) (Reps.none _ _)))))))); intro v158 w26 ho27 hb hg_ hnew_; clear hg_ hnew_; (first | rw [← Ny157.out] at ho27 | (simp only [Int.reduceToNat] at ho27; rw [← Ny157.out] at ho27)); have n0_ := Aside0.mk (Kd.R_lower ho27 (below_size (by repeat (first | (with_reducible first | exact HB.out | apply below_alloc | apply pw_below_drewN | apply below_drew1 | refine below_set ?_ GE156.out) | exact HB.out)))); have n1_ := Aside0.mk (blk_below (g := gb156) (o := .cells #[.int .i64 a0_0, .int .i64 a0_1, .int .i64 a0_2, .int .i64 a0_3, .int .i64 a0_4, .string a0_5] 23 (0, 0)) (by (with_reducible repeat (first | refine blk_drewN ?_ _ | refine blk_drew ?_ | refine blk_alloc ?_ _)); exact BK156.out) hb); have n2_ := Aside0.mk (below_step (by repeat (first | (with_reducible first | exact HB.out | apply below_alloc | apply pw_below_drewN | apply below_drew1 | refine below_set ?_ GE156.out) | exact HB.out)) hb); clear BK156; clear HB; have HO159 := n0_; have BK156 := n1_; have HB := n2_; clear n0_ n1_ n2_; clear hb ho27))
          go_loopg [4, 5] kj1 (fun kq v4 v5 w' => ∃ (x4_2 : List Int) (x5_2 : Int), v5 = .int .i64 x5_2 ∧ Aside0 (stowageref18_Encode.l0 kq x4_2 x5_2 a0_0 a0_1 a0_2 a0_3 a0_4 a0_5 = some (r1, r2)) ∧ Aside0 (kq ≤ kj1) ∧ Aside0 (Kd.R (Kd.int .u8) 5 w' w.heap.size (fun _ => True) v4 x4_2) ∧ Aside0 (w'.heap[gb156]? = some (.cells #[.int .i64 a0_0, .int .i64 a0_1, .int .i64 a0_2, .int .i64 a0_3, .int .i64 a0_4, .string a0_5] 23 (0, 0))) ∧ Aside0 (Below w.heap.size w w'))
          case atStart => exact ⟨(y157), (7), (by first | rfl | (simp; done) | (simp [*]; done)), H', ⟨Nat.le_refl _⟩, ⟨by (with_reducible repeat (first | apply Kd.R_alloc | apply Kd.R_drewN | apply Kd.R_drew)); exact HO159.out⟩, ⟨by (with_reducible repeat (first | refine blk_drewN ?_ _ | refine blk_drew ?_ | refine blk_alloc ?_ _)); exact BK156.out⟩, ⟨by repeat (first | (with_reducible first | exact HB.out | apply below_alloc | apply pw_below_drewN | apply below_drew1 | refine below_set ?_ GE156.out) | exact HB.out)⟩⟩
          case round =>
            clear H'
            try clear c1
            try clear c2
            try clear p2
            try clear c4
            try clear c4b0
            try clear c4b1
            try clear c6
            try clear c6b0
            try clear c8
            try clear c8b0
            try clear c10
            try clear c10b0
            try clear c11
            try clear c12
            try clear c12b0
            try clear c14
            try clear c14b0
            try clear c16
            try clear c16b0
            try clear c18
            try clear c18b0
            try clear c20
            try clear c20b0
            try clear c23
            try clear c24
            try clear c24b0
            try clear c24b1
            try clear hcz11_0
            try clear hcz11_1
            try clear hcz11_2
            try clear hcz11_3
            try clear hcz11_4
            try clear hcz11_5
            try clear hcz13_0
            try clear hcz13_1
            try clear hcz13_2
            try clear hcz13_3
            try clear hcz13_4
            try clear hcz13_5
            try clear hcz15_0
            try clear hcz15_1
            try clear hcz15_2
            try clear hcz15_3
            try clear hcz15_4
            try clear hcz15_5
            try clear hcz17_0
            try clear hcz17_1
            try clear hcz17_2
            try clear hcz17_3
            try clear hcz17_4
            try clear hcz17_5
            try clear hcz19_0
            try clear hcz19_1
            try clear hcz19_2
            try clear hcz19_3
            try clear hcz19_4
            try clear hcz19_5
            try clear hcz21_0
            try clear hcz21_1
            try clear hcz21_2
            try clear hcz21_3
            try clear hcz21_4
            try clear hcz21_5
            try clear hcz22_0
            try clear hcz22_1
            try clear hcz22_2
            try clear hcz22_3
            try clear hcz22_4
            try clear hcz22_5
            try clear hcz25_0
            try clear hcz25_1
            try clear hcz25_2
            try clear hcz25_3
            try clear hcz25_4
            try clear hcz25_5
            try clear hcz5_0
            try clear hcz5_1
            try clear hcz5_2
            try clear hcz5_3
            try clear hcz5_4
            try clear hcz5_5
            try clear hcz7_0
            try clear hcz7_1
            try clear hcz7_2
            try clear hcz7_3
            try clear hcz7_4
            try clear hcz7_5
            try clear hcz9_0
            try clear hcz9_1
            try clear hcz9_2
            try clear hcz9_3
            try clear hcz9_4
            try clear hcz9_5
            try clear hfz11_0
            try clear hfz11_1
            try clear hfz11_2
            try clear hfz11_3
            try clear hfz11_4
            try clear hfz11_5
            try clear hfz13_0
            try clear hfz13_1
            try clear hfz13_2
            try clear hfz13_3
            try clear hfz13_4
            try clear hfz13_5
            try clear hfz15_0
            try clear hfz15_1
            try clear hfz15_2
            try clear hfz15_3
            try clear hfz15_4
            try clear hfz15_5
            try clear hfz17_0
            try clear hfz17_1
            try clear hfz17_2
            try clear hfz17_3
            try clear hfz17_4
            try clear hfz17_5
            try clear hfz19_0
            try clear hfz19_1
            try clear hfz19_2
            try clear hfz19_3
            try clear hfz19_4
            try clear hfz19_5
            try clear hfz21_0
            try clear hfz21_1
            try clear hfz21_2
            try clear hfz21_3
            try clear hfz21_4
            try clear hfz21_5
            try clear hfz22_0
            try clear hfz22_1
            try clear hfz22_2
            try clear hfz22_3
            try clear hfz22_4
            try clear hfz22_5
            try clear hfz25_0
            try clear hfz25_1
            try clear hfz25_2
            try clear hfz25_3
            try clear hfz25_4
            try clear hfz25_5
            try clear hfz5_0
            try clear hfz5_1
            try clear hfz5_2
            try clear hfz5_3
            try clear hfz5_4
            try clear hfz5_5
            try clear hfz7_0
            try clear hfz7_1
            try clear hfz7_2
            try clear hfz7_3
            try clear hfz7_4
            try clear hfz7_5
            try clear hfz9_0
            try clear hfz9_1
            try clear hfz9_2
            try clear hfz9_3
            try clear hfz9_4
            try clear hfz9_5
            try clear p2
            obtain ⟨x4_2, x5_2, rfl, HA, HK2, HO_4, BK156, HB⟩ := hrel
            cases gk with
            | zero => exact absurd HA.out (by simp [stowageref18_Encode.l0])
            | succ k2 =>
              have H := HA.out
              clear HA
              simp only [stowageref18_Encode.l0] at H
              by_cases c28 : x5_2 ≥ 0
              · rw [if_pos c28] at H
                have c28b0 : decide (0 ≤ x5_2) = true := decide_eq_true c28
                clear c28
                obtain ⟨ji29, hji29⟩ : ∃ j_ : Int, (wrap64 (8 * x5_2)) = j_ := ⟨_, rfl⟩
                replace H : (if 0 ≤ (ji29) then (if x4_2.length < 140737488355328 then (stowageref18_Encode.l0 k2 (x4_2 ++ [(shr .i64 a0_4 (ji29)) % 256]) (wrap64 (x5_2 - 1)) a0_0 a0_1 a0_2 a0_3 a0_4 a0_5) else (none)) else (none)) = some (r1, r2) := by first | (rw [hji29] at H; exact H) | (simp only [hji29] at H ⊢; exact H)
                have hji29w : (IntKind.i64.wrap (8 * x5_2)) = ji29 := (i64_w _).trans hji29
                by_cases c30 : 0 ≤ (ji29)
                · rw [if_pos c30] at H
                  have c30b0 := eq_true c30
                  have c30b1 : decide (0 ≤ (ji29)) = true := decide_eq_true c30
                  clear c30
                  obtain ⟨ji31, hji31⟩ : ∃ j_ : Int, (shr .i64 a0_4 (ji29)) = j_ := ⟨_, rfl⟩
                  replace H : (if x4_2.length < 140737488355328 then (stowageref18_Encode.l0 k2 (x4_2 ++ [(ji31) % 256]) (wrap64 (x5_2 - 1)) a0_0 a0_1 a0_2 a0_3 a0_4 a0_5) else (none)) = some (r1, r2) := by first | (rw [hji31] at H; exact H) | (simp only [hji31] at H ⊢; exact H)
                  have hji31_ : (a0_4 / 2 ^ min (ji29).toNat 64) = ji31 := hji31
                  have hji31z : (ji29) ≤ 64 → (a0_4 / 2 ^ (ji29).toNat) = ji31 := shr_small hji31
                  by_cases c32 : x4_2.length < 140737488355328
                  · rw [if_pos c32] at H
                    have LMc32 := Aside0.mk c32
                    clear c32
                    obtain ⟨y160, hy160⟩ : ∃ y_ : List Int, y_ = (x4_2 ++ [(ji31) % 256]) := ⟨_, rfl⟩
                    replace H : (stowageref18_Encode.l0 k2 y160 (wrap64 (x5_2 - 1)) a0_0 a0_1 a0_2 a0_3 a0_4 a0_5) = some (r1, r2) := by first | (rw [hy160]; with_reducible exact H) | (have H2_ := (Option.bind_some _ _).symm.trans H; rw [hy160]; with_reducible exact H2_) | (have H2_ := (Option.bind_some _ _).symm.trans H; with_reducible exact H2_) | with_reducible exact H | (rw [hy160]; exact H) | exact H
                    have Ny160 := Aside0.mk hy160
                    clear hy160
                    have H' := Aside0.mk H
                    clear H
                    have hcz33_0 : wr.cell? ⟨gb156, 0, none⟩ = some (.int .i64 a0_0) := (blk_cell BK156.out 0).trans rfl
                    have hcz33_1 : wr.cell? ⟨gb156, 1, none⟩ = some (.int .i64 a0_1) := (blk_cell BK156.out 1).trans rfl
                    have hcz33_2 : wr.cell? ⟨gb156, 2, none⟩ = some (.int .i64 a0_2) := (blk_cell BK156.out 2).trans rfl
                    have hcz33_3 : wr.cell? ⟨gb156, 3, none⟩ = some (.int .i64 a0_3) := (blk_cell BK156.out 3).trans rfl
                    have hcz33_4 : wr.cell? ⟨gb156, 4, none⟩ = some (.int .i64 a0_4) := (blk_cell BK156.out 4).trans rfl
                    have hcz33_5 : wr.cell? ⟨gb156, 5, none⟩ = some (.string a0_5) := (blk_cell BK156.out 5).trans rfl
                    have hfz33_0 := blk_frozen BK156.out 0
                    have hfz33_1 := blk_frozen BK156.out 1
                    have hfz33_2 := blk_frozen BK156.out 2
                    have hfz33_3 := blk_frozen BK156.out 3
                    have hfz33_4 := blk_frozen BK156.out 4
                    have hfz33_5 := blk_frozen BK156.out 5
                    go_wp2_with (first | ((with_reducible refine gate_builtin (b := .append) (xs := #[.tmp 76, .tmp 83]) rfl ?_); at_builtin; refine Kd.R_append (Kd.int .u8) (w0 := w) w.heap.size rfl (.tmp 76) (.tmp 83) 24 5 (.int .u8 0) 1 rfl Try.underlying24 info5 rfl (by decide) (by omega) u4 x4_2 ((ji31) % 256) [.int .u8 ((ji31) % 256)] (fun _ => True) (fun _ => False) rfl rfl ?aP (fun _ hk => hk.elim) ?aF ?aO ?aB ?aS ?aL ?_; (case aP => exact rfl); (case aB => exact (by repeat (first | (with_reducible first | exact HB.out | apply below_alloc | apply pw_below_drewN | apply below_drew1 | refine below_set ?_ GE156.out) | exact HB.out))); (case aF => exact (fun _ _ => trivial)); (case aO => exact (by (with_reducible repeat (first | apply Kd.R_alloc | apply Kd.R_drewN | apply Kd.R_drew)); exact HO_4.out)); (case aS => exact (below_size (by repeat (first | (with_reducible first | exact HB.out | apply below_alloc | apply pw_below_drewN | apply below_drew1 | refine below_set ?_ GE156.out) | exact HB.out)))); (case aL => have := LMc32.out; omega); intro v161 w34 ho hb hg hat; rw [← Ny160.out] at ho; have n0_ := Aside0.mk (blk_grown (g := gb156) (o := .cells #[.int .i64 a0_0, .int .i64 a0_1, .int .i64 a0_2, .int .i64 a0_3, .int .i64 a0_4, .string a0_5] 23 (0, 0)) (by (with_reducible repeat (first | refine blk_drewN ?_ _ | refine blk_drew ?_ | refine blk_alloc ?_ _)); exact BK156.out) hg (Kd.R_ne HO_4.out BK156.out (by decide))); have n1_ := Aside0.mk (hb); have n2_ := Aside0.mk (ho); clear BK156; clear HB; clear HO_4; have BK156 := n0_; have HB := n1_; have HO162 := n2_; clear n0_ n1_ n2_; clear ho hb hg hat))
                    go_roundg k2
                    case measure => have := HJ1.out; have := HK2.out; omega
                    case rel => exact ⟨(y160), (wrap64 (x5_2 - 1)), (by first | rfl | (simp; done) | (simp [*]; done)), H', ⟨by have := HJ1.out; have := HK2.out; omega⟩, ⟨by (with_reducible repeat (first | apply Kd.R_alloc | apply Kd.R_drewN | apply Kd.R_drew)); exact HO162.out⟩, ⟨by (with_reducible repeat (first | refine blk_drewN ?_ _ | refine blk_drew ?_ | refine blk_alloc ?_ _)); exact BK156.out⟩, ⟨by repeat (first | (with_reducible first | exact HB.out | apply below_alloc | apply pw_below_drewN | apply below_drew1 | refine below_set ?_ GE156.out) | exact HB.out)⟩⟩
                  · rw [if_neg c32] at H
                    exact absurd H (by simp)
                · rw [if_neg c30] at H
                  exact absurd H (by simp)
              · rw [if_neg c28] at H
                have c28b0 : decide (0 ≤ x5_2) = false := decide_eq_false c28
                clear c28
                by_cases c35 : x4_2.length + a0_5.size < 140737488355328
                · rw [if_pos c35] at H
                  have LMc35 := Aside0.mk c35
                  clear c35
                  obtain ⟨y163, hy163⟩ : ∃ y_ : List Int, y_ = (x4_2 ++ bytesOf a0_5) := ⟨_, rfl⟩
                  replace H : (stowageref18_Encode.l1 k2 y163) = some (r1, r2) := by first | (rw [hy163]; with_reducible exact H) | (have H2_ := (Option.bind_some _ _).symm.trans H; rw [hy163]; with_reducible exact H2_) | (have H2_ := (Option.bind_some _ _).symm.trans H; with_reducible exact H2_) | with_reducible exact H | (rw [hy163]; exact H) | exact H
                  have Ny163 := Aside0.mk hy163
                  clear hy163
                  have H' := Aside0.mk H
                  clear H
                  have hcz36_0 : wr.cell? ⟨gb156, 0, none⟩ = some (.int .i64 a0_0) := (blk_cell BK156.out 0).trans rfl
                  have hcz36_1 : wr.cell? ⟨gb156, 1, none⟩ = some (.int .i64 a0_1) := (blk_cell BK156.out 1).trans rfl
                  have hcz36_2 : wr.cell? ⟨gb156, 2, none⟩ = some (.int .i64 a0_2) := (blk_cell BK156.out 2).trans rfl
                  have hcz36_3 : wr.cell? ⟨gb156, 3, none⟩ = some (.int .i64 a0_3) := (blk_cell BK156.out 3).trans rfl
                  have hcz36_4 : wr.cell? ⟨gb156, 4, none⟩ = some (.int .i64 a0_4) := (blk_cell BK156.out 4).trans rfl
                  have hcz36_5 : wr.cell? ⟨gb156, 5, none⟩ = some (.string a0_5) := (blk_cell BK156.out 5).trans rfl
                  have hfz36_0 := blk_frozen BK156.out 0
                  have hfz36_1 := blk_frozen BK156.out 1
                  have hfz36_2 := blk_frozen BK156.out 2
                  have hfz36_3 := blk_frozen BK156.out 3
                  have hfz36_4 := blk_frozen BK156.out 4
                  have hfz36_5 := blk_frozen BK156.out 5
                  go_wp2_with (first | (at_builtin; refine print_append_str (w0 := w) w.heap.size rfl (.tmp 85) _ 24 9 5 rfl Try.underlying24 Try.underlying9 info5 u4 x4_2 a0_5 rfl rfl ?aO ?aB ?aS ?aL ?_; (case aB => exact (by repeat (first | (with_reducible first | exact HB.out | apply below_alloc | apply pw_below_drewN | apply below_drew1 | refine below_set ?_ GE156.out) | exact HB.out))); (case aO => exact (Kd.own_of_R (by (with_reducible repeat (first | apply Kd.R_alloc | apply Kd.R_drewN | apply Kd.R_drew)); exact HO_4.out))); (case aS => exact (below_size (by repeat (first | (with_reducible first | exact HB.out | apply below_alloc | apply pw_below_drewN | apply below_drew1 | refine below_set ?_ GE156.out) | exact HB.out)))); (case aL => have := LMc35.out; omega); intro v164 w37 ho0 hb hg; have ho := Kd.R_of_own (h1 := fun _ => rfl) (ok := fun _ => True) ho0 (fun _ _ => trivial); clear ho0; have hat := True.intro; rw [← Ny163.out] at ho; change Kd.R (Kd.int .u8) 5 w37 w.heap.size (fun _ => True) v164 y163 at ho; have n0_ := Aside0.mk (blk_grown (g := gb156) (o := .cells #[.int .i64 a0_0, .int .i64 a0_1, .int .i64 a0_2, .int .i64 a0_3, .int .i64 a0_4, .string a0_5] 23 (0, 0)) (by (with_reducible repeat (first | refine blk_drewN ?_ _ | refine blk_drew ?_ | refine blk_alloc ?_ _)); exact BK156.out) hg (Kd.R_ne HO_4.out BK156.out (by decide))); have n1_ := Aside0.mk (hb); have n2_ := Aside0.mk (ho); clear BK156; clear HB; clear HO_4; have BK156 := n0_; have HB := n1_; have HO165 := n2_; clear n0_ n1_ n2_; clear ho hb hg hat))
                  go_loopg [4] k2 (fun kq v4 w' => ∃ (x4_3 : List Int), Aside0 (stowageref18_Encode.l1 kq x4_3 = some (r1, r2)) ∧ Aside0 (kq ≤ k2) ∧ Aside0 (Kd.R (Kd.int .u8) 5 w' w.heap.size (fun _ => True) v4 x4_3) ∧ Aside0 (w'.heap[gb156]? = some (.cells #[.int .i64 a0_0, .int .i64 a0_1, .int .i64 a0_2, .int .i64 a0_3, .int .i64 a0_4, .string a0_5] 23 (0, 0))) ∧ Aside0 (Below w.heap.size w w'))
                  case atStart => exact ⟨(y163), H', ⟨Nat.le_refl _⟩, ⟨by (with_reducible repeat (first | apply Kd.R_alloc | apply Kd.R_drewN | apply Kd.R_drew)); exact HO165.out⟩, ⟨by (with_reducible repeat (first | refine blk_drewN ?_ _ | refine blk_drew ?_ | refine blk_alloc ?_ _)); exact BK156.out⟩, ⟨by repeat (first | (with_reducible first | exact HB.out | apply below_alloc | apply pw_below_drewN | apply below_drew1 | refine below_set ?_ GE156.out) | exact HB.out)⟩⟩
                  case round =>
                    clear H'
                    try clear c1
                    try clear c2
                    try clear p2
                    try clear c3
                    try clear c4
                    try clear c4b0
                    try clear c4b1
                    try clear c6
                    try clear c6b0
                    try clear p6
                    try clear c8
                    try clear c8b0
                    try clear c10
                    try clear c10b0
                    try clear c11
                    try clear c12
                    try clear c12b0
                    try clear c14
                    try clear c14b0
                    try clear c16
                    try clear c16b0
                    try clear c18
                    try clear c18b0
                    try clear c20
                    try clear c20b0
                    try clear c23
                    try clear c24
                    try clear c24b0
                    try clear c24b1
                    try clear c28
                    try clear c28b0
                    try clear c30
                    try clear c30b0
                    try clear c30b1
                    try clear c32
                    try clear c35
                    try clear hcz11_0
                    try clear hcz11_1
                    try clear hcz11_2
                    try clear hcz11_3
                    try clear hcz11_4
                    try clear hcz11_5
                    try clear hcz13_0
                    try clear hcz13_1
                    try clear hcz13_2
                    try clear hcz13_3
                    try clear hcz13_4
                    try clear hcz13_5
                    try clear hcz15_0
                    try clear hcz15_1
                    try clear hcz15_2
                    try clear hcz15_3
                    try clear hcz15_4
                    try clear hcz15_5
                    try clear hcz17_0
                    try clear hcz17_1
                    try clear hcz17_2
                    try clear hcz17_3
                    try clear hcz17_4
                    try clear hcz17_5
                    try clear hcz19_0
                    try clear hcz19_1
                    try clear hcz19_2
                    try clear hcz19_3
                    try clear hcz19_4
                    try clear hcz19_5
                    try clear hcz21_0
                    try clear hcz21_1
                    try clear hcz21_2
                    try clear hcz21_3
                    try clear hcz21_4
                    try clear hcz21_5
                    try clear hcz22_0
                    try clear hcz22_1
                    try clear hcz22_2
                    try clear hcz22_3
                    try clear hcz22_4
                    try clear hcz22_5
                    try clear hcz25_0
                    try clear hcz25_1
                    try clear hcz25_2
                    try clear hcz25_3
                    try clear hcz25_4
                    try clear hcz25_5
                    try clear hcz33_0
                    try clear hcz33_1
                    try clear hcz33_2
                    try clear hcz33_3
                    try clear hcz33_4
                    try clear hcz33_5
                    try clear hcz36_0
                    try clear hcz36_1
                    try clear hcz36_2
                    try clear hcz36_3
                    try clear hcz36_4
                    try clear hcz36_5
                    try clear hcz5_0
                    try clear hcz5_1
                    try clear hcz5_2
                    try clear hcz5_3
                    try clear hcz5_4
                    try clear hcz5_5
                    try clear hcz7_0
                    try clear hcz7_1
                    try clear hcz7_2
                    try clear hcz7_3
                    try clear hcz7_4
                    try clear hcz7_5
                    try clear hcz9_0
                    try clear hcz9_1
                    try clear hcz9_2
                    try clear hcz9_3
                    try clear hcz9_4
                    try clear hcz9_5
                    try clear hfz11_0
                    try clear hfz11_1
                    try clear hfz11_2
                    try clear hfz11_3
                    try clear hfz11_4
                    try clear hfz11_5
                    try clear hfz13_0
                    try clear hfz13_1
                    try clear hfz13_2
                    try clear hfz13_3
                    try clear hfz13_4
                    try clear hfz13_5
                    try clear hfz15_0
                    try clear hfz15_1
                    try clear hfz15_2
                    try clear hfz15_3
                    try clear hfz15_4
                    try clear hfz15_5
                    try clear hfz17_0
                    try clear hfz17_1
                    try clear hfz17_2
                    try clear hfz17_3
                    try clear hfz17_4
                    try clear hfz17_5
                    try clear hfz19_0
                    try clear hfz19_1
                    try clear hfz19_2
                    try clear hfz19_3
                    try clear hfz19_4
                    try clear hfz19_5
                    try clear hfz21_0
                    try clear hfz21_1
                    try clear hfz21_2
                    try clear hfz21_3
                    try clear hfz21_4
                    try clear hfz21_5
                    try clear hfz22_0
                    try clear hfz22_1
                    try clear hfz22_2
                    try clear hfz22_3
                    try clear hfz22_4
                    try clear hfz22_5
                    try clear hfz25_0
                    try clear hfz25_1
                    try clear hfz25_2
                    try clear hfz25_3
                    try clear hfz25_4
                    try clear hfz25_5
                    try clear hfz33_0
                    try clear hfz33_1
                    try clear hfz33_2
                    try clear hfz33_3
                    try clear hfz33_4
                    try clear hfz33_5
                    try clear hfz36_0
                    try clear hfz36_1
                    try clear hfz36_2
                    try clear hfz36_3
                    try clear hfz36_4
                    try clear hfz36_5
                    try clear hfz5_0
                    try clear hfz5_1
                    try clear hfz5_2
                    try clear hfz5_3
                    try clear hfz5_4
                    try clear hfz5_5
                    try clear hfz7_0
                    try clear hfz7_1
                    try clear hfz7_2
                    try clear hfz7_3
                    try clear hfz7_4
                    try clear hfz7_5
                    try clear hfz9_0
                    try clear hfz9_1
                    try clear hfz9_2
                    try clear hfz9_3
                    try clear hfz9_4
                    try clear hfz9_5
                    try clear p2
                    obtain ⟨x4_3, HA, HK3, HO_4, BK156, HB⟩ := hrel
                    cases gk with
                    | zero => exact absurd HA.out (by simp [stowageref18_Encode.l1])
                    | succ k3 =>
                      have H := HA.out
                      clear HA
                      simp only [stowageref18_Encode.l1] at H
                      by_cases c38 : (x4_3.length : Int) < 60
                      · rw [if_pos c38] at H
                        have c38b0 : decide ((x4_3.length : Int) < 60) = true := decide_eq_true c38
                        have c38b1 : decide (x4_3.length < 60) = true := decide_eq_true (by omega)
                        clear c38
                        by_cases c39 : x4_3.length < 140737488355328
                        · rw [if_pos c39] at H
                          have LMc39 := Aside0.mk c39
                          clear c39
                          obtain ⟨y166, hy166⟩ : ∃ y_ : List Int, y_ = (x4_3 ++ [0]) := ⟨_, rfl⟩
                          replace H : (stowageref18_Encode.l1 k3 y166) = some (r1, r2) := by first | (rw [hy166]; with_reducible exact H) | (have H2_ := (Option.bind_some _ _).symm.trans H; rw [hy166]; with_reducible exact H2_) | (have H2_ := (Option.bind_some _ _).symm.trans H; with_reducible exact H2_) | with_reducible exact H | (rw [hy166]; exact H) | exact H
                          have Ny166 := Aside0.mk hy166
                          clear hy166
                          have H' := Aside0.mk H
                          clear H
                          obtain ⟨Ao40, co40, eo40⟩ := Kd.R_slice HO_4.out
                          subst eo40
                          go_wp2_with (first | ((with_reducible refine gate_builtin (b := .append) (xs := #[.tmp 92, .tmp 93]) rfl ?_); at_builtin; refine Kd.R_append (Kd.int .u8) (w0 := w) w.heap.size rfl (.tmp 92) (.tmp 93) 24 5 (.int .u8 0) 1 rfl Try.underlying24 info5 rfl (by decide) (by omega) (.slice Ao40 x4_3.length co40) x4_3 0 [.int .u8 0] (fun _ => True) (fun _ => False) rfl rfl ?aP (fun _ hk => hk.elim) ?aF ?aO ?aB ?aS ?aL ?_; (case aP => exact rfl); (case aB => exact (by repeat (first | (with_reducible first | exact HB.out | apply below_alloc | apply pw_below_drewN | apply below_drew1 | refine below_set ?_ GE156.out) | exact HB.out))); (case aF => exact (fun _ _ => trivial)); (case aO => exact (by (with_reducible repeat (first | apply Kd.R_alloc | apply Kd.R_drewN | apply Kd.R_drew)); exact HO_4.out)); (case aS => exact (below_size (by repeat (first | (with_reducible first | exact HB.out | apply below_alloc | apply pw_below_drewN | apply below_drew1 | refine below_set ?_ GE156.out) | exact HB.out)))); (case aL => have := LMc39.out; omega); intro v167 w41 ho hb hg hat; rw [← Ny166.out] at ho; have n0_ := Aside0.mk (blk_grown (g := gb156) (o := .cells #[.int .i64 a0_0, .int .i64 a0_1, .int .i64 a0_2, .int .i64 a0_3, .int .i64 a0_4, .string a0_5] 23 (0, 0)) (by (with_reducible repeat (first | refine blk_drewN ?_ _ | refine blk_drew ?_ | refine blk_alloc ?_ _)); exact BK156.out) hg (Kd.R_ne HO_4.out BK156.out (by decide))); have n1_ := Aside0.mk (hb); have n2_ := Aside0.mk (ho); clear BK156; clear HB; clear HO_4; have BK156 := n0_; have HB := n1_; have HO168 := n2_; clear n0_ n1_ n2_; clear ho hb hg hat))
                          go_roundg k3
                          case measure => have := HJ1.out; have := HK2.out; have := HK3.out; omega
                          case rel => exact ⟨(y166), H', ⟨by have := HJ1.out; have := HK2.out; have := HK3.out; omega⟩, ⟨by (with_reducible repeat (first | apply Kd.R_alloc | apply Kd.R_drewN | apply Kd.R_drew)); exact HO168.out⟩, ⟨by (with_reducible repeat (first | refine blk_drewN ?_ _ | refine blk_drew ?_ | refine blk_alloc ?_ _)); exact BK156.out⟩, ⟨by repeat (first | (with_reducible first | exact HB.out | apply below_alloc | apply pw_below_drewN | apply below_drew1 | refine below_set ?_ GE156.out) | exact HB.out)⟩⟩
                        · rw [if_neg c39] at H
                          exact absurd H (by simp)
                      · rw [if_neg c38] at H
                        have c38b0 : decide ((x4_3.length : Int) < 60) = false := decide_eq_false c38
                        have c38b1 : decide (x4_3.length < 60) = false := decide_eq_false (by omega)
                        clear c38
                        replace H := Option.bind_eq_some_iff.mp H
                        obtain ⟨t169, A420, H⟩ := H
                        replace H : ((some (([(t169 / 16777216) % 256, (t169 / 65536) % 256, (t169 / 256) % 256, (t169) % 256] : List Int) : List Int)).bind fun y170 => (if x4_3.length + y170.length < 140737488355328 then (some ((x4_3 ++ y170), 0)) else (none))) = some (r1, r2) := H
                        have A42 := Aside0.mk A420
                        clear A420
                        obtain ⟨y170, hy170⟩ : ∃ y_ : List Int, y_ = (([(t169 / 16777216) % 256, (t169 / 65536) % 256, (t169 / 256) % 256, (t169) % 256] : List Int)) := ⟨_, rfl⟩
                        replace H : (if x4_3.length + y170.length < 140737488355328 then (some ((x4_3 ++ y170), 0)) else (none)) = some (r1, r2) := by first | (rw [hy170]; with_reducible exact H) | (have H2_ := (Option.bind_some _ _).symm.trans H; rw [hy170]; with_reducible exact H2_) | (have H2_ := (Option.bind_some _ _).symm.trans H; with_reducible exact H2_) | with_reducible exact H | (rw [hy170]; exact H) | exact H
                        have Ny170 := Aside0.mk hy170
                        clear hy170
                        by_cases c43 : x4_3.length + y170.length < 140737488355328
                        · rw [if_pos c43] at H
                          have LMc43 := Aside0.mk c43
                          clear c43
                          obtain ⟨y173, hy173⟩ : ∃ y_ : List Int, y_ = (x4_3 ++ y170) := ⟨_, rfl⟩
                          replace H : (some (y173, 0)) = some (r1, r2) := by first | (rw [hy173]; with_reducible exact H) | (have H2_ := (Option.bind_some _ _).symm.trans H; rw [hy173]; with_reducible exact H2_) | (have H2_ := (Option.bind_some _ _).symm.trans H; with_reducible exact H2_) | with_reducible exact H | (rw [hy173]; exact H) | exact H
                          have Ny173 := Aside0.mk hy173
                          clear hy173
                          simp only [Option.some.injEq, Prod.mk.injEq] at H
                          obtain ⟨rfl, rfl⟩ := H
                          obtain ⟨Ao44, co44, eo44⟩ := Kd.R_slice HO_4.out
                          subst eo44
                          go_wp2_with (first | ((with_reducible refine gate_callee (f := 25) rfl ?_); refine goesL_ (some 96) rfl rfl Try.func25 (by kernel_rfl) rfl #[.slice Ao44 x4_3.length co44] rfl (by (try simp only [List.map_toArray, List.map_cons, List.map_nil]); first | done | rfl | (simp only [List.length_drop, List.length_take]; rfl)) ?_; (with_reducible refine (stowageref02_Sum.calls k3 _ _ x4_3 t169 _ ?side1 ?side2 A42.out).mono ?_); (case side1 => repeat (first | exact (Kd.R_reads' HO_4.out).2.2 | (with_reducible refine Kd.C_alloc ?_ _) | (with_reducible refine Kd.C_drewN ?_ _) | (with_reducible refine Kd.C_drew ?_))); (case side2 => exact (Kd.R_reads' HO_4.out).2.1); rintro e w' ⟨rfl, ⟨nd, rfl⟩⟩; refine ⟨_, rfl, ?_⟩) | ((with_reducible refine gate_dst (N := 109) rfl ?_); refine Kd.R_lit (Kd.int .u8) _ 5 ?hg (N := 109) ?hd (xs := ([(t169 / 16777216) % 256, (t169 / 65536) % 256, (t169 / 256) % 256, (t169) % 256] : List Int)) (inner := [.int .u8 ((t169 / 16777216) % 256), .int .u8 ((t169 / 65536) % 256), .int .u8 ((t169 / 256) % 256), .int .u8 ((t169) % 256)]) (ok := fun _ => True) (okp := fun _ => True) ?hr ?hp (fun _ hk => hk) trivial (Below.refl _ _) (Nat.le_refl _) (by simp) ?_; (case hd => rfl); (case hg => rfl); (case hr => first | (go_simp; done) | (go_simp; rfl)); (case hp => exact (Reps.one (show Kd.M (Kd.int .u8) _ _ _ ((t169 / 16777216) % 256) [.int .u8 ((t169 / 16777216) % 256)] from rfl) (Reps.one (show Kd.M (Kd.int .u8) _ _ _ ((t169 / 65536) % 256) [.int .u8 ((t169 / 65536) % 256)] from rfl) (Reps.one (show Kd.M (Kd.int .u8) _ _ _ ((t169 / 256) % 256) [.int .u8 ((t169 / 256) % 256)] from rfl) (Reps.one (show Kd.M (Kd.int .u8) _ _ _ ((t169) % 256) [.int .u8 ((t169) % 256)] from rfl) (Reps.none _ _)))))); intro v171 w45 ho46 hb hg_ hnew_; clear hg_ hnew_; (first | rw [← Ny170.out] at ho46 | (simp only [Int.reduceToNat] at ho46; rw [← Ny170.out] at ho46)); have n0_ := Aside0.mk (Kd.R_elder' (by (with_reducible repeat (first | apply Kd.R_alloc | apply Kd.R_drewN | apply Kd.R_drew)); exact HO_4.out) (Kd.R_base ho46) hb); have n1_ := Aside0.mk (Kd.R_lower (Kd.R_new' ho46 (Kd.R_lt (by (with_reducible repeat (first | apply Kd.R_alloc | apply Kd.R_drewN | apply Kd.R_drew)); exact HO_4.out))) (below_size (by repeat (first | (with_reducible first | exact HB.out | apply below_alloc | apply pw_below_drewN | apply below_drew1 | refine below_set ?_ GE156.out) | exact HB.out)))); have n2_ := Aside0.mk (blk_below (g := gb156) (o := .cells #[.int .i64 a0_0, .int .i64 a0_1, .int .i64 a0_2, .int .i64 a0_3, .int .i64 a0_4, .string a0_5] 23 (0, 0)) (by (with_reducible repeat (first | refine blk_drewN ?_ _ | refine blk_drew ?_ | refine blk_alloc ?_ _)); exact BK156.out) hb); have n3_ := Aside0.mk (below_step (by repeat (first | (with_reducible first | exact HB.out | apply below_alloc | apply pw_below_drewN | apply below_drew1 | refine below_set ?_ GE156.out) | exact HB.out)) hb); clear HO_4; clear BK156; clear HB; have HO_4 := n0_; have HO172 := n1_; have BK156 := n2_; have HB := n3_; clear n0_ n1_ n2_ n3_; clear hb ho46; obtain ⟨Ao48, co48, eo48⟩ := Kd.R_slice HO172.out; subst eo48) | ((with_reducible refine gate_builtin (b := .append) (xs := #[.tmp 97, .tmp 109]) rfl ?_); at_builtin; refine Kd.R_append_rows (Kd.int .u8) (w0 := w) w.heap.size rfl (.tmp 97) (.tmp 109) 24 5 (.int .u8 0) 1 rfl Try.underlying24 info5 rfl (by decide) (by omega) (.slice Ao44 x4_3.length co44) x4_3 y170 _ _ _ (fun k_ => some k_ ≠ (.slice Ao48 y170.length co48 : Value).ownBlock) (fun _ => False) rfl rfl ?aO ?aR (fun _ _ h => h) (fun _ h => h.elim) ?aF ?aB ?aS ?aL ?_; (case aR => repeat (first | exact (Kd.R_reads' HO172.out).2.2 | (with_reducible refine Kd.C_alloc ?_ _) | (with_reducible refine Kd.C_drewN ?_ _) | (with_reducible refine Kd.C_drew ?_))); (case aB => exact (by repeat (first | (with_reducible first | exact HB.out | apply below_alloc | apply pw_below_drewN | apply below_drew1 | refine below_set ?_ GE156.out) | exact HB.out))); (case aF => exact (fun k_ hk => Kd.fresh' (Kd.R_lt (by (with_reducible repeat (first | apply Kd.R_alloc | apply Kd.R_drewN | apply Kd.R_drew)); exact HO172.out)) k_ hk)); (case aO => exact (by (with_reducible repeat (first | apply Kd.R_alloc | apply Kd.R_drewN | apply Kd.R_drew)); exact Kd.R_mono HO_4.out (fun _ hk => hk.2))); (case aS => exact (below_size (by repeat (first | (with_reducible first | exact HB.out | apply below_alloc | apply pw_below_drewN | apply below_drew1 | refine below_set ?_ GE156.out) | exact HB.out)))); (case aL => have := LMc43.out; omega); intro v174 w47 ho hb hg hat; rw [← Ny173.out] at ho; have n0_ := Aside0.mk (blk_grown (g := gb156) (o := .cells #[.int .i64 a0_0, .int .i64 a0_1, .int .i64 a0_2, .int .i64 a0_3, .int .i64 a0_4, .string a0_5] 23 (0, 0)) (by (with_reducible repeat (first | refine blk_drewN ?_ _ | refine blk_drew ?_ | refine blk_alloc ?_ _)); exact BK156.out) hg (Kd.R_ne HO_4.out BK156.out (by decide))); have n1_ := Aside0.mk (Kd.R_after (ok := (fun _ => True)) (by (with_reducible repeat (first | apply Kd.R_alloc | apply Kd.R_drewN | apply Kd.R_drew)); exact HO172.out) hg hat); have n2_ := Aside0.mk (hb); have n3_ := Aside0.mk (ho); clear BK156; clear HO172; clear HB; clear HO_4; have BK156 := n0_; have HO172 := n1_; have HB := n2_; have HO175 := n3_; clear n0_ n1_ n2_ n3_; clear ho hb hg hat))
                          go_ret2
                          exact ⟨_, by first | rfl | (simp [errW_none, errW_some] <;> rfl) | (simp [*, errW_none, errW_some] <;> rfl), by (with_reducible repeat (first | apply Kd.R_alloc | apply Kd.R_drewN | apply Kd.R_drew)); exact Kd.R_mono HO175.out (fun _ hk => trivial), by repeat (first | (with_reducible first | exact HB.out | apply below_alloc | apply pw_below_drewN | apply below_drew1 | refine below_set ?_ GE156.out) | exact HB.out)⟩
                        · rw [if_neg c43] at H
                          exact absurd H (by simp)
                · rw [if_neg c35] at H
                  exact absurd H (by simp)
        · rw [if_neg c24] at H
          have c24b0 : ((a0_5.size : Int) == 16) = false := beq_eq_false_iff_ne.mpr c24
          have c24b1 : ((a0_5.size : Int) != 16) = true := bne_iff_ne.mpr c24
          simp only [Option.some.injEq, Prod.mk.injEq] at H
          obtain ⟨rfl, rfl⟩ := H
          have hcz49_0 : wc.cell? ⟨gb156, 0, none⟩ = some (.int .i64 a0_0) := (blk_cell BK156.out 0).trans rfl
          have hcz49_1 : wc.cell? ⟨gb156, 1, none⟩ = some (.int .i64 a0_1) := (blk_cell BK156.out 1).trans rfl
          have hcz49_2 : wc.cell? ⟨gb156, 2, none⟩ = some (.int .i64 a0_2) := (blk_cell BK156.out 2).trans rfl
          have hcz49_3 : wc.cell? ⟨gb156, 3, none⟩ = some (.int .i64 a0_3) := (blk_cell BK156.out 3).trans rfl
          have hcz49_4 : wc.cell? ⟨gb156, 4, none⟩ = some (.int .i64 a0_4) := (blk_cell BK156.out 4).trans rfl
          have hcz49_5 : wc.cell? ⟨gb156, 5, none⟩ = some (.string a0_5) := (blk_cell BK156.out 5).trans rfl
          have hfz49_0 := blk_frozen BK156.out 0
          have hfz49_1 := blk_frozen BK156.out 1
          have hfz49_2 := blk_frozen BK156.out 2
          have hfz49_3 := blk_frozen BK156.out 3
          have hfz49_4 := blk_frozen BK156.out 4
          have hfz49_5 := blk_frozen BK156.out 5
          go_wp2
          go_ret2
          exact ⟨_, by first | rfl | (simp [errW_none, errW_some] <;> rfl) | (simp [*, errW_none, errW_some] <;> rfl), by first | exact Kd.R_nil _ _ _ _ _ | exact Kd.N_nil _ _ _ _ _ | exact Kd.V_nil _ _ _ _ _ | exact Kd.Q_nil _ _ _ _ _ | exact Kd.S_nil _ _ _ _ _, by repeat (first | (with_reducible first | exact HB.out | apply below_alloc | apply pw_below_drewN | apply below_drew1 | refine below_set ?_ GE156.out) | exact HB.out)⟩

end Go.Proofs.Ytbidkiacgggpmaa.QHead
