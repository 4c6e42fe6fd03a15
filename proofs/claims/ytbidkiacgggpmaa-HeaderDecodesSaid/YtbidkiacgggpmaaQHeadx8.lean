/- Written by a program of this session (wip/tools/mk.py) out of the kit's printing programs and of texts of our own: the contracts of the Go functions that the law goes through, and the row of the law. No condition is added. -/
import Derived.Test.YtbidkiacgggpmaaQHeadx0
import Derived.Test.YtbidkiacgggpmaaQHeadx4
namespace Go.Proofs.Ytbidkiacgggpmaa.QHead
open Go.RowKit Go.Proofs.YtbidkiacgggpmaaW.PrintWords Go.Proofs.YtbidkiacgggpmaaW.PrintLast Go.Proofs.YtbidkiacgggpmaaW.PrintMore
attribute [local go_sem] max2_int min2_int max_two min_two max_three min_three max_four min_four   -- for this text's walks alone
set_option linter.unusedVariables false
set_option linter.unusedSimpArgs false

attribute [local go_sem] min_seven
/-! ### stowageref18_Decode: function 14 -/
def stowageref18_Decode.l0 : Nat → List Int → Int → Int → Int → Int → Int → Int → ByteArray → Option (Int × Int × Int × Int × Int × ByteArray × Int)
  | 0, _, _, _, _, _, _, _, _ => none
  | k + 1, x0, x5, x263000, x263001, x263002, x263003, x263004, x263005 => if x5 < 14 then (if 0 ≤ x5 then (if x5 < (x0.length : Int) then (stowageref18_Decode.l0 k x0 (wrap64 (x5 + 1)) x263000 x263001 x263002 x263003 (Go.bits .or .i64 (wrap64 (x263004 * 256)) (wrap64 (rd x0 x5))) x263005) else (none)) else (none)) else ((stowageref18_Encode.f k x263000 x263001 x263002 x263003 x263004 x263005).bind fun bt264 => (if bt264.2 = 0 then (if (strOfNums bt264.1).toList = (strOfNums x0).toList then (some (x263000, x263001, x263002, x263003, x263004, x263005, 0)) else (some (0, 0, 0, 0, 0, (⟨#[]⟩ : ByteArray), 2))) else (some (0, 0, 0, 0, 0, (⟨#[]⟩ : ByteArray), 2))))
def stowageref18_Decode.f (k : Nat) (l0 : List Int) : Option (Int × Int × Int × Int × Int × ByteArray × Int) := if 64 ≤ 281474976710656 then (if (strOfNums l0).toList = (strOfNums (List.replicate 64 0)).toList then (some (0, 0, 0, 0, 0, (⟨#[]⟩ : ByteArray), 4)) else (if (l0.length : Int) = 64 then (if 2 < (l0.length : Int) then (if 3 < (l0.length : Int) then (if 4 < (l0.length : Int) then (if 5 < (l0.length : Int) then (if 14 ≤ 30 then (if 30 ≤ (l0.length : Int) then (stowageref18_Decode.l0 k l0 6 (wrap64 (rd l0 2)) (wrap64 (rd l0 3)) (wrap64 (rd l0 4)) (wrap64 (rd l0 5)) 0 (strOfNums ((l0.take 30).drop 14))) else (none)) else (none)) else (none)) else (none)) else (none)) else (none)) else (some (0, 0, 0, 0, 0, (⟨#[]⟩ : ByteArray), 2)))) else (none)
theorem stowageref18_Decode.mono_l : ∀ k, (∀ y0 y1 y2 y3 y4 y5 y6 y7, LeO (stowageref18_Decode.l0 k y0 y1 y2 y3 y4 y5 y6 y7) (stowageref18_Decode.l0 (k + 1) y0 y1 y2 y3 y4 y5 y6 y7))
  | 0 => fun _ _ _ _ _ _ _ _ r h => by simp [stowageref18_Decode.l0] at h
  | k + 1 => by
    have ih0 := stowageref18_Decode.mono_l k
    · intro y0 y1 y2 y3 y4 y5 y6 y7
      unfold stowageref18_Decode.l0
      repeat' first
      | (with_reducible exact ih0 _ _ _ _ _ _ _ _)
      | (with_reducible exact stowageref18_Encode.mono _ _ _ _ _ _ _)
      | (with_reducible exact LeO.refl _)
      | (with_reducible exact LeO.none _)
      | (with_reducible refine LeO.ite ?_ ?_)
      | (with_reducible refine LeO.bind ?_ (fun _ => ?_))
      | exact ih0 _ _ _ _ _ _ _ _
      | exact stowageref18_Encode.mono _ _ _ _ _ _ _
      | exact LeO.none _
      | refine LeO.ite ?_ ?_
      | refine LeO.bind ?_ (fun _ => ?_)
theorem stowageref18_Decode.mono : ∀ a0 k, LeO (stowageref18_Decode.f k a0) (stowageref18_Decode.f (k + 1) a0) := by
  intro a0 k
  have ih0 := stowageref18_Decode.mono_l k
  unfold stowageref18_Decode.f
  repeat' first
      | (with_reducible exact ih0 _ _ _ _ _ _ _ _)
      | (with_reducible exact stowageref18_Encode.mono _ _ _ _ _ _ _)
      | (with_reducible exact LeO.refl _)
      | (with_reducible exact LeO.none _)
      | (with_reducible refine LeO.ite ?_ ?_)
      | (with_reducible refine LeO.bind ?_ (fun _ => ?_))
      | exact ih0 _ _ _ _ _ _ _ _
      | exact stowageref18_Encode.mono _ _ _ _ _ _ _
      | exact LeO.none _
      | refine LeO.ite ?_ ?_
      | refine LeO.bind ?_ (fun _ => ?_)
def stowageref18_Decode.T5 : Bool × List (List Nat × List Nat) := (true, [([], []), ([0], [0]), ([1], [1]), ([2], [2]), ([], []), ([4], [4]), ([5], [5]), ([6], [6]), ([], []), ([8], [8]), ([9], [9]), ([10], [10]), ([], []), ([12], [12]), ([13], [13]), ([14], [14]), ([], []), ([16], [16]), ([17], [17]), ([3, 7, 11, 15, 18], [3, 7, 11, 15, 18]), ([], []), ([20, 19, 0, 1, 2, 3, 4, 5, 6, 7, 8, 9, 10, 11, 12, 13, 14, 15, 16, 17, 18, 19, 20], [19, 20])])
def stowageref18_Decode.B5 : List Nat := [0, 1, 3, 7, 0, 16, 48, 112, 0, 256, 768, 1792, 0, 4096, 12288, 28672, 0, 65536, 196608, 524287, 0, 2097151]
theorem stowageref18_Decode.tab5 : rtab .any (opsOf Try.f14 5) = stowageref18_Decode.T5 := by kernel_rfl
theorem stowageref18_Decode.bits5 : waitsOk stowageref18_Decode.T5.2 stowageref18_Decode.B5 = true := by kernel_rfl
def stowageref18_Decode.T9 : Bool × List (List Nat × List Nat) := (true, [([], []), ([0], [0]), ([1], [1]), ([], []), ([], []), ([3, 4], [3, 4]), ([5], [5]), ([6], [6]), ([2, 7], [2, 7]), ([0, 1, 2, 3, 4, 5, 6, 7, 8], []), ([9, 8, 0, 1, 2, 3, 4, 5, 6, 7, 8], [8, 9])])
def stowageref18_Decode.B9 : List Nat := [0, 1, 3, 0, 0, 24, 56, 120, 255, 511, 1023]
theorem stowageref18_Decode.tab9 : rtab .any (opsOf Try.f14 9) = stowageref18_Decode.T9 := by kernel_rfl
theorem stowageref18_Decode.bits9 : waitsOk stowageref18_Decode.T9.2 stowageref18_Decode.B9 = true := by kernel_rfl
set_option maxHeartbeats 8000000 in
set_option maxRecDepth 100000 in
theorem stowageref18_Decode.calls (k : Nat) (A0 : Option Addr) (c0 : Nat) (l0 : List Int) (r1 : Int) (r2 : Int) (r3 : Int) (r4 : Int) (r5 : Int) (r6 : ByteArray) (r7 : Int) (w : World) (hr0 : Kd.C (Kd.int .u8) w A0 l0.length l0) (hc0 : l0.length ≤ c0) (h : stowageref18_Decode.f k l0 = some (r1, r2, r3, r4, r5, r6, r7)) :
    Calls Try.prog 14 #[.slice A0 l0.length c0] w fun e w' => e = .returned (.tuple #[.agg #[.int .i64 r1, .int .i64 r2, .int .i64 r3, .int .i64 r4, .int .i64 r5, .string r6], .int .i64 r7]) ∧ Below w.heap.size w w' := by
  have hu23 := Try.underlying23
  have HR0 := Aside0.mk hr0
  have HC0 := Aside0.mk hc0
  clear hr0 hc0
  have HB := Aside0.mk (Below.refl w.heap.size w)
  have H : (if 64 ≤ 281474976710656 then (if (strOfNums l0).toList = (strOfNums (List.replicate 64 0)).toList then (some (0, 0, 0, 0, 0, (⟨#[]⟩ : ByteArray), 4)) else (if (l0.length : Int) = 64 then (if 2 < (l0.length : Int) then (if 3 < (l0.length : Int) then (if 4 < (l0.length : Int) then (if 5 < (l0.length : Int) then (if 14 ≤ 30 then (if 30 ≤ (l0.length : Int) then (stowageref18_Decode.l0 k l0 6 (wrap64 (rd l0 2)) (wrap64 (rd l0 3)) (wrap64 (rd l0 4)) (wrap64 (rd l0 5)) 0 (strOfNums ((l0.take 30).drop 14))) else (none)) else (none)) else (none)) else (none)) else (none)) else (none)) else (some (0, 0, 0, 0, 0, (⟨#[]⟩ : ByteArray), 2)))) else (none)) = some (r1, r2, r3, r4, r5, r6, r7) := h
  clear h
  by_cases c2 : 64 ≤ 281474976710656
  · rw [if_pos c2] at H
    have c2b0 := eq_true c2
    have c2b1 : decide (64 ≤ 281474976710656) = true := decide_eq_true c2
    clear c2
    obtain ⟨y254, hy254⟩ : ∃ y_ : List Int, y_ = (List.replicate 64 0) := ⟨_, rfl⟩
    replace H : (if (strOfNums l0).toList = (strOfNums y254).toList then (some (0, 0, 0, 0, 0, (⟨#[]⟩ : ByteArray), 4)) else (if (l0.length : Int) = 64 then (if 2 < (l0.length : Int) then (if 3 < (l0.length : Int) then (if 4 < (l0.length : Int) then (if 5 < (l0.length : Int) then (if 14 ≤ 30 then (if 30 ≤ (l0.length : Int) then (stowageref18_Decode.l0 k l0 6 (wrap64 (rd l0 2)) (wrap64 (rd l0 3)) (wrap64 (rd l0 4)) (wrap64 (rd l0 5)) 0 (strOfNums ((l0.take 30).drop 14))) else (none)) else (none)) else (none)) else (none)) else (none)) else (none)) else (some (0, 0, 0, 0, 0, (⟨#[]⟩ : ByteArray), 2)))) = some (r1, r2, r3, r4, r5, r6, r7) := by first | (rw [hy254]; with_reducible exact H) | (have H2_ := (Option.bind_some _ _).symm.trans H; rw [hy254]; with_reducible exact H2_) | (have H2_ := (Option.bind_some _ _).symm.trans H; with_reducible exact H2_) | with_reducible exact H | (rw [hy254]; exact H) | exact H
    have Ny254 := Aside0.mk hy254
    clear hy254
    by_cases c3 : (strOfNums l0).toList = (strOfNums y254).toList
    · rw [if_pos c3] at H
      have c3b0 : ((strOfNums l0).toList == (strOfNums y254).toList) = true := beq_iff_eq.mpr c3
      have c3b1 : ((strOfNums l0).toList != (strOfNums y254).toList) = false := bne_eq_false_iff_eq.mpr c3
      clear c3
      simp only [Option.some.injEq, Prod.mk.injEq] at H
      obtain ⟨rfl, rfl, rfl, rfl, rfl, rfl, rfl⟩ := H
      go_enter Try.func14, Try.ntmps14
      try go_wp2_with (first | ((with_reducible refine gate_dst (N := 2) rfl ?_); refine box_event ?hg (N := 2) ?hd (cs := #[.int .i64 0, .int .i64 0, .int .i64 0, .int .i64 0, .int .i64 0, .string (⟨#[]⟩ : ByteArray)]) (t := 23) ?hr ?_; (case hd => rfl); (case hg => rfl); (case hr => first | (go_simp; done) | (go_simp; rfl)); intro gb253 hg w4 hbox hb; have n0_ := Aside0.mk (below_step (by repeat (first | (with_reducible first | exact HB.out | apply below_alloc | apply pw_below_drewN | apply below_drew1) | exact HB.out)) hb); have n1_ := Aside0.mk (hbox); have n2_ := Aside0.mk ((by rw [hg]; exact (below_size (by repeat (first | (with_reducible first | exact HB.out | apply below_alloc | apply pw_below_drewN | apply below_drew1) | exact HB.out))) : w.heap.size ≤ gb253)); have n3_ := Aside0.mk ((by rw [hg]; exact (below_size (by repeat (first | (with_reducible first | exact HB.out | apply below_alloc | apply pw_below_drewN | apply below_drew1) | exact HB.out))) : w.heap.size ≤ gb253)); clear HB; have HB := n0_; have BK253 := n1_; have GW253 := n2_; have GE253 := n3_; clear n0_ n1_ n2_ n3_; clear hb hbox hg))
      have n0_ := Aside0.mk (blk_drew BK253.out)
      have n1_ := Aside0.mk (below_drew1 HB.out)
      clear BK253
      clear HB
      have BK253 := n0_
      have HB := n1_
      clear n0_ n1_
      have hcv6 := Kd.C_string (P := Try.prog) (A := A0) (c := c0) Try.underlying24 Try.underlying5 Try.underlying9 (Kd.C_below HR0.out HB.out)
      have hcx6 := hcv6
      (try simp only [Int.reduceToNat, List.length_drop, List.length_take] at hcx6)
      refine start_ (n := 5) (S := fun w' => (convert 24 9 (.slice A0 l0.length c0)).run Try.prog w' = .ok (.string (strOfNums l0)) w') (ds := []) #[false, false, false, false, false] (by kernel_rfl) rfl rfl (Kd.C_string (P := Try.prog) (A := A0) (c := c0) Try.underlying24 Try.underlying5 Try.underlying9 (Kd.C_below HR0.out HB.out)) (fun hHeld => ?_)
      generalize w4.drew = w5 at BK253 HB hHeld ⊢
      refine pure_ (i := 0) (N := some 8) (v := ?_) (a' := ?_) #[true, false, false, false, false] rfl rfl (by kernel_rfl) (fun _ _ _ h => h) (Or.inl ⟨by rfl, ?_⟩) ?_ ?_
      rotate_left
      · intro w'
        go_simp
        with_reducible rfl
      rotate_left
      · simp only [Act.put, List.setIfInBounds_toArray, List.set_cons_zero, List.set_cons_succ, i64_w, i32_w]
        rfl
      refine take_ (i := 1) (N := some 9) (v := ?_) (a' := ?_) #[true, true, false, false, false] rfl rfl (by kernel_rfl) (fun _ _ _ h => h) (Or.inl ⟨by rfl, ?_⟩) hHeld ?_ ?_
      rotate_left
      · rintro w' sS
        (try simp only [Int.reduceToNat, List.length_drop, List.length_take] at sS)
        go_simp
        with_reducible rfl
      rotate_left
      · simp only [Act.put, List.setIfInBounds_toArray, List.set_cons_zero, List.set_cons_succ, i64_w, i32_w]
        rfl
      refine one_ (i := 2) (N := some 10) #[true, true, true, false, false] rfl rfl (by kernel_rfl) (by decide) (fun K hK => ?_)
      refine Kd.R_make_step (Kd.int .u8) _ 5 (by rfl) (N := 10) rfl 24 _ _ rfl 64 rfl rfl Try.underlying24 (.int .u8 0) 1 info5 rfl (by decide) (by omega) 0 (ok := fun _ => True) (okp := fun _ => True) rfl (fun _ hk => hk) trivial (by omega) (by omega) (Below.refl _ _) (Nat.le_refl _) ?_
      intro v255 w7 ho8 hb hg_ hnew_
      clear hg_ hnew_
      (first | rw [← Ny254.out] at ho8 | (simp only [Int.reduceToNat] at ho8; rw [← Ny254.out] at ho8))
      have n0_ := Aside0.mk (Kd.R_lower ho8 (below_size (by repeat (first | (with_reducible first | exact HB.out | apply below_alloc | apply pw_below_drewN | apply below_drew1 | refine below_set ?_ GE253.out) | exact HB.out))))
      have n1_ := Aside0.mk (blk_below (g := gb253) (o := .cells #[.int .i64 0, .int .i64 0, .int .i64 0, .int .i64 0, .int .i64 0, .string (⟨#[]⟩ : ByteArray)] 23 (0, 0)) (by (with_reducible repeat (first | refine blk_drewN ?_ _ | refine blk_drew ?_ | refine blk_alloc ?_ _)); exact BK253.out) hb)
      have n2_ := Aside0.mk (below_step (by repeat (first | (with_reducible first | exact HB.out | apply below_alloc | apply pw_below_drewN | apply below_drew1 | refine below_set ?_ GE253.out) | exact HB.out)) hb)
      clear BK253
      clear HB
      have HO256 := n0_
      have BK253 := n1_
      have HB := n2_
      clear n0_ n1_ n2_
      clear hb ho8
      refine hK.out _ _ (Kd.C_string (P := Try.prog) (A := A0) (c := c0) Try.underlying24 Try.underlying5 Try.underlying9 (Kd.C_below HR0.out (by repeat (first | (with_reducible first | exact HB.out | apply below_alloc | apply pw_below_drewN | apply below_drew1 | refine below_set ?_ GE253.out) | exact HB.out)))) (fun hHeld => ?_)
      clear hK K
      refine norm_ (a' := ?_) ?_ ?_
      rotate_left
      · show Act.put _ (some 10) _ = _
        simp only [Act.put, List.setIfInBounds_toArray, List.set_cons_zero, List.set_cons_succ, i64_w, i32_w]
        rfl
      refine one_ (i := 3) (N := some 11) #[true, true, true, true, false] rfl rfl (by kernel_rfl) (by decide) (fun K hK => ?_)
      have hcv9 := own_string (P := Try.prog) Try.underlying24 Try.underlying5 Try.underlying9 (Kd.own_of_R HO256.out)
      refine value_ (w1 := ?_) (v := ?_) (by rfl) rfl ?_ ?_
      rotate_left 2
      · go_simp
        constructor
        · rfl
        · rfl
      clear hcv9
      refine hK.out _ _ (Kd.C_string (P := Try.prog) (A := A0) (c := c0) Try.underlying24 Try.underlying5 Try.underlying9 (Kd.C_below HR0.out (by repeat (first | (with_reducible first | exact HB.out | apply below_alloc | apply pw_below_drewN | apply below_drew1 | refine below_set ?_ GE253.out) | exact HB.out)))) (fun hHeld => ?_)
      clear hK K
      refine norm_ (a' := ?_) ?_ ?_
      rotate_left
      · show Act.put _ (some 11) _ = _
        simp only [Act.put, List.setIfInBounds_toArray, List.set_cons_zero, List.set_cons_succ, i64_w, i32_w]
        rfl
      refine pure_ (i := 4) (N := some 12) (v := ?_) (a' := ?_) #[true, true, true, true, true] rfl rfl (by kernel_rfl) (fun _ _ _ h => h) (Or.inl ⟨by rfl, ?_⟩) ?_ ?_
      rotate_left
      · intro w'
        go_simp
        with_reducible rfl
      rotate_left
      · simp only [Act.put, List.setIfInBounds_toArray, List.set_cons_zero, List.set_cons_succ, i64_w, i32_w]
        rfl
      refine done_ (by kernel_rfl) ?_
      have hcz11_0 : w7.cell? ⟨gb253, 0, none⟩ = some (.int .i64 0) := (blk_cell BK253.out 0).trans rfl
      have hcz11_1 : w7.cell? ⟨gb253, 1, none⟩ = some (.int .i64 0) := (blk_cell BK253.out 1).trans rfl
      have hcz11_2 : w7.cell? ⟨gb253, 2, none⟩ = some (.int .i64 0) := (blk_cell BK253.out 2).trans rfl
      have hcz11_3 : w7.cell? ⟨gb253, 3, none⟩ = some (.int .i64 0) := (blk_cell BK253.out 3).trans rfl
      have hcz11_4 : w7.cell? ⟨gb253, 4, none⟩ = some (.int .i64 0) := (blk_cell BK253.out 4).trans rfl
      have hcz11_5 : w7.cell? ⟨gb253, 5, none⟩ = some (.string (⟨#[]⟩ : ByteArray)) := (blk_cell BK253.out 5).trans rfl
      have hfz11_0 := blk_frozen BK253.out 0
      have hfz11_1 := blk_frozen BK253.out 1
      have hfz11_2 := blk_frozen BK253.out 2
      have hfz11_3 := blk_frozen BK253.out 3
      have hfz11_4 := blk_frozen BK253.out 4
      have hfz11_5 := blk_frozen BK253.out 5
      try go_wp2
      refine bodyPost_ret (results_ct rfl _ _ gb253 23 #[.int .i64 0, .int .i64 0, .int .i64 0, .int .i64 0, .int .i64 0, .string (⟨#[]⟩ : ByteArray)] (0, 0) _ rfl (by (with_reducible repeat (first | refine blk_drewN ?_ _ | refine blk_drew ?_ | refine blk_alloc ?_ _)); refine blk_put (cs := #[.int .i64 0, .int .i64 0, .int .i64 0, .int .i64 0, .int .i64 0, .string (⟨#[]⟩ : ByteArray)]) ?_ 5 _ rfl; (with_reducible repeat (first | refine blk_drewN ?_ _ | refine blk_drew ?_ | refine blk_alloc ?_ _)); refine blk_put (cs := #[.int .i64 0, .int .i64 0, .int .i64 0, .int .i64 0, .int .i64 0, .string (⟨#[]⟩ : ByteArray)]) ?_ 4 _ rfl; (with_reducible repeat (first | refine blk_drewN ?_ _ | refine blk_drew ?_ | refine blk_alloc ?_ _)); refine blk_put (cs := #[.int .i64 0, .int .i64 0, .int .i64 0, .int .i64 0, .int .i64 0, .string (⟨#[]⟩ : ByteArray)]) ?_ 3 _ rfl; (with_reducible repeat (first | refine blk_drewN ?_ _ | refine blk_drew ?_ | refine blk_alloc ?_ _)); refine blk_put (cs := #[.int .i64 0, .int .i64 0, .int .i64 0, .int .i64 0, .int .i64 0, .string (⟨#[]⟩ : ByteArray)]) ?_ 2 _ rfl; (with_reducible repeat (first | refine blk_drewN ?_ _ | refine blk_drew ?_ | refine blk_alloc ?_ _)); refine blk_put (cs := #[.int .i64 0, .int .i64 0, .int .i64 0, .int .i64 0, .int .i64 0, .string (⟨#[]⟩ : ByteArray)]) ?_ 1 _ rfl; (with_reducible repeat (first | refine blk_drewN ?_ _ | refine blk_drew ?_ | refine blk_alloc ?_ _)); refine blk_put (cs := #[.int .i64 0, .int .i64 0, .int .i64 0, .int .i64 0, .int .i64 0, .string (⟨#[]⟩ : ByteArray)]) ?_ 0 _ rfl; (with_reducible repeat (first | refine blk_drewN ?_ _ | refine blk_drew ?_ | refine blk_alloc ?_ _)); exact BK253.out) Try.underlying23 rfl (by kernel_rfl)) rfl ?_
      exact ⟨by first | rfl | (simp [errW_none, errW_some] <;> rfl) | (simp [*, errW_none, errW_some] <;> rfl), by repeat (first | (with_reducible first | exact HB.out | apply below_alloc | apply pw_below_drewN | apply below_drew1 | refine below_set ?_ GE253.out) | exact HB.out)⟩
    · rw [if_neg c3] at H
      have c3b0 : ((strOfNums l0).toList == (strOfNums y254).toList) = false := beq_eq_false_iff_ne.mpr c3
      have c3b1 : ((strOfNums l0).toList != (strOfNums y254).toList) = true := bne_iff_ne.mpr c3
      by_cases c12 : (l0.length : Int) = 64
      · rw [if_pos c12] at H
        have c12b0 : ((l0.length : Int) == 64) = true := beq_iff_eq.mpr c12
        have c12b1 : ((l0.length : Int) != 64) = false := bne_eq_false_iff_eq.mpr c12
        clear c12
        by_cases c13 : 2 < (l0.length : Int)
        · rw [if_pos c13] at H
          have c13b0 : decide (2 < (l0.length : Int)) = true := decide_eq_true c13
          have c13b1 : decide (2 < l0.length) = true := decide_eq_true (by omega)
          clear c13
          by_cases c14 : 3 < (l0.length : Int)
          · rw [if_pos c14] at H
            have c14b0 : decide (3 < (l0.length : Int)) = true := decide_eq_true c14
            have c14b1 : decide (3 < l0.length) = true := decide_eq_true (by omega)
            clear c14
            by_cases c15 : 4 < (l0.length : Int)
            · rw [if_pos c15] at H
              have c15b0 : decide (4 < (l0.length : Int)) = true := decide_eq_true c15
              have c15b1 : decide (4 < l0.length) = true := decide_eq_true (by omega)
              clear c15
              by_cases c16 : 5 < (l0.length : Int)
              · rw [if_pos c16] at H
                have c16b0 : decide (5 < (l0.length : Int)) = true := decide_eq_true c16
                have c16b1 : decide (5 < l0.length) = true := decide_eq_true (by omega)
                clear c16
                by_cases c17 : 14 ≤ 30
                · rw [if_pos c17] at H
                  have c17b0 := eq_true c17
                  have c17b1 : decide (14 ≤ 30) = true := decide_eq_true c17
                  clear c17
                  by_cases c18 : 30 ≤ (l0.length : Int)
                  · rw [if_pos c18] at H
                    have c18b0 := eq_true c18
                    have c18b1 : decide (30 ≤ (l0.length : Int)) = true := decide_eq_true c18
                    clear c18
                    have H' := Aside0.mk H
                    clear H
                    go_enter Try.func14, Try.ntmps14
                    try go_wp2_with (first | ((with_reducible refine gate_dst (N := 2) rfl ?_); refine box_event ?hg (N := 2) ?hd (cs := #[.int .i64 0, .int .i64 0, .int .i64 0, .int .i64 0, .int .i64 0, .string (⟨#[]⟩ : ByteArray)]) (t := 23) ?hr ?_; (case hd => rfl); (case hg => rfl); (case hr => first | (go_simp; done) | (go_simp; rfl)); intro gb253 hg w19 hbox hb; have n0_ := Aside0.mk (below_step (by repeat (first | (with_reducible first | exact HB.out | apply below_alloc | apply pw_below_drewN | apply below_drew1) | exact HB.out)) hb); have n1_ := Aside0.mk (hbox); have n2_ := Aside0.mk ((by rw [hg]; exact (below_size (by repeat (first | (with_reducible first | exact HB.out | apply below_alloc | apply pw_below_drewN | apply below_drew1) | exact HB.out))) : w.heap.size ≤ gb253)); have n3_ := Aside0.mk ((by rw [hg]; exact (below_size (by repeat (first | (with_reducible first | exact HB.out | apply below_alloc | apply pw_below_drewN | apply below_drew1) | exact HB.out))) : w.heap.size ≤ gb253)); clear HB; have HB := n0_; have BK253 := n1_; have GW253 := n2_; have GE253 := n3_; clear n0_ n1_ n2_ n3_; clear hb hbox hg))
                    have n0_ := Aside0.mk (blk_drew BK253.out)
                    have n1_ := Aside0.mk (below_drew1 HB.out)
                    clear BK253
                    clear HB
                    have BK253 := n0_
                    have HB := n1_
                    clear n0_ n1_
                    have hcv21 := Kd.C_string (P := Try.prog) (A := A0) (c := c0) Try.underlying24 Try.underlying5 Try.underlying9 (Kd.C_below HR0.out HB.out)
                    have hcx21 := hcv21
                    (try simp only [Int.reduceToNat, List.length_drop, List.length_take] at hcx21)
                    refine start_ (n := 5) (S := fun w' => (convert 24 9 (.slice A0 l0.length c0)).run Try.prog w' = .ok (.string (strOfNums l0)) w') (ds := []) #[false, false, false, false, false] (by kernel_rfl) rfl rfl (Kd.C_string (P := Try.prog) (A := A0) (c := c0) Try.underlying24 Try.underlying5 Try.underlying9 (Kd.C_below HR0.out HB.out)) (fun hHeld => ?_)
                    generalize w19.drew = w20 at BK253 HB hHeld ⊢
                    refine pure_ (i := 0) (N := some 8) (v := ?_) (a' := ?_) #[true, false, false, false, false] rfl rfl (by kernel_rfl) (fun _ _ _ h => h) (Or.inl ⟨by rfl, ?_⟩) ?_ ?_
                    rotate_left
                    · intro w'
                      go_simp
                      with_reducible rfl
                    rotate_left
                    · simp only [Act.put, List.setIfInBounds_toArray, List.set_cons_zero, List.set_cons_succ, i64_w, i32_w]
                      rfl
                    refine take_ (i := 1) (N := some 9) (v := ?_) (a' := ?_) #[true, true, false, false, false] rfl rfl (by kernel_rfl) (fun _ _ _ h => h) (Or.inl ⟨by rfl, ?_⟩) hHeld ?_ ?_
                    rotate_left
                    · rintro w' sS
                      (try simp only [Int.reduceToNat, List.length_drop, List.length_take] at sS)
                      go_simp
                      with_reducible rfl
                    rotate_left
                    · simp only [Act.put, List.setIfInBounds_toArray, List.set_cons_zero, List.set_cons_succ, i64_w, i32_w]
                      rfl
                    refine one_ (i := 2) (N := some 10) #[true, true, true, false, false] rfl rfl (by kernel_rfl) (by decide) (fun K hK => ?_)
                    refine Kd.R_make_step (Kd.int .u8) _ 5 (by rfl) (N := 10) rfl 24 _ _ rfl 64 rfl rfl Try.underlying24 (.int .u8 0) 1 info5 rfl (by decide) (by omega) 0 (ok := fun _ => True) (okp := fun _ => True) rfl (fun _ hk => hk) trivial (by omega) (by omega) (Below.refl _ _) (Nat.le_refl _) ?_
                    intro v255 w22 ho23 hb hg_ hnew_
                    clear hg_ hnew_
                    (first | rw [← Ny254.out] at ho23 | (simp only [Int.reduceToNat] at ho23; rw [← Ny254.out] at ho23))
                    have n0_ := Aside0.mk (Kd.R_lower ho23 (below_size (by repeat (first | (with_reducible first | exact HB.out | apply below_alloc | apply pw_below_drewN | apply below_drew1 | refine below_set ?_ GE253.out) | exact HB.out))))
                    have n1_ := Aside0.mk (blk_below (g := gb253) (o := .cells #[.int .i64 0, .int .i64 0, .int .i64 0, .int .i64 0, .int .i64 0, .string (⟨#[]⟩ : ByteArray)] 23 (0, 0)) (by (with_reducible repeat (first | refine blk_drewN ?_ _ | refine blk_drew ?_ | refine blk_alloc ?_ _)); exact BK253.out) hb)
                    have n2_ := Aside0.mk (below_step (by repeat (first | (with_reducible first | exact HB.out | apply below_alloc | apply pw_below_drewN | apply below_drew1 | refine below_set ?_ GE253.out) | exact HB.out)) hb)
                    clear BK253
                    clear HB
                    have HO256 := n0_
                    have BK253 := n1_
                    have HB := n2_
                    clear n0_ n1_ n2_
                    clear hb ho23
                    refine hK.out _ _ (Kd.C_string (P := Try.prog) (A := A0) (c := c0) Try.underlying24 Try.underlying5 Try.underlying9 (Kd.C_below HR0.out (by repeat (first | (with_reducible first | exact HB.out | apply below_alloc | apply pw_below_drewN | apply below_drew1 | refine below_set ?_ GE253.out) | exact HB.out)))) (fun hHeld => ?_)
                    clear hK K
                    refine norm_ (a' := ?_) ?_ ?_
                    rotate_left
                    · show Act.put _ (some 10) _ = _
                      simp only [Act.put, List.setIfInBounds_toArray, List.set_cons_zero, List.set_cons_succ, i64_w, i32_w]
                      rfl
                    refine one_ (i := 3) (N := some 11) #[true, true, true, true, false] rfl rfl (by kernel_rfl) (by decide) (fun K hK => ?_)
                    have hcv24 := own_string (P := Try.prog) Try.underlying24 Try.underlying5 Try.underlying9 (Kd.own_of_R HO256.out)
                    refine value_ (w1 := ?_) (v := ?_) (by rfl) rfl ?_ ?_
                    rotate_left 2
                    · go_simp
                      constructor
                      · rfl
                      · rfl
                    clear hcv24
                    refine hK.out _ _ (Kd.C_string (P := Try.prog) (A := A0) (c := c0) Try.underlying24 Try.underlying5 Try.underlying9 (Kd.C_below HR0.out (by repeat (first | (with_reducible first | exact HB.out | apply below_alloc | apply pw_below_drewN | apply below_drew1 | refine below_set ?_ GE253.out) | exact HB.out)))) (fun hHeld => ?_)
                    clear hK K
                    refine norm_ (a' := ?_) ?_ ?_
                    rotate_left
                    · show Act.put _ (some 11) _ = _
                      simp only [Act.put, List.setIfInBounds_toArray, List.set_cons_zero, List.set_cons_succ, i64_w, i32_w]
                      rfl
                    refine pure_ (i := 4) (N := some 12) (v := ?_) (a' := ?_) #[true, true, true, true, true] rfl rfl (by kernel_rfl) (fun _ _ _ h => h) (Or.inl ⟨by rfl, ?_⟩) ?_ ?_
                    rotate_left
                    · intro w'
                      go_simp
                      with_reducible rfl
                    rotate_left
                    · simp only [Act.put, List.setIfInBounds_toArray, List.set_cons_zero, List.set_cons_succ, i64_w, i32_w]
                      rfl
                    refine done_ (by kernel_rfl) ?_
                    try go_wp2
                    have n0_ := Aside0.mk (Kd.R_drew HO256.out)
                    have n1_ := Aside0.mk (blk_drew BK253.out)
                    have n2_ := Aside0.mk (below_drew1 HB.out)
                    clear HO256
                    clear BK253
                    clear HB
                    have HO256 := n0_
                    have BK253 := n1_
                    have HB := n2_
                    clear n0_ n1_ n2_
                    have p257 : 0 ≤ (2 : Int) := (by omega)
                    have q257 : 2 < (l0.length : Int) := of_decide_eq_true (by first | (with_reducible assumption) | assumption)
                    obtain ⟨ad257, e257, hx257_0⟩ := Kd.at_int HR0.out 2 p257 q257
                    have hw257_0 := hx257_0
                    (try rw [show ((2 : Int)).toNat = 2 from rfl] at hw257_0)
                    (try rw [show 2 * 1 = 2 from rfl] at hw257_0)
                    (try simp only [Nat.reduceMul, Nat.reduceEqDiff, Go.Addr.add, ↓reduceIte] at hw257_0)
                    cases e257
                    (try simp only [show (2 : Int).toNat = 2 from rfl, Nat.reduceMul, Nat.reduceEqDiff, Go.Addr.add, ↓reduceIte] at hx257_0)
                    have qi257 : (2 < l0.length) = True := eq_true (by omega)
                    (try rw [show ((2 : Int)).toNat = 2 from rfl] at hx257_0)
                    replace hx257_0 := (HB.out.cell (World.block_lt_of_cell? w _ hx257_0)).trans hx257_0
                    replace p257 := eq_true p257
                    replace q257 := eq_true q257
                    have p258 : 0 ≤ (3 : Int) := (by omega)
                    have q258 : 3 < (l0.length : Int) := of_decide_eq_true (by first | (with_reducible assumption) | assumption)
                    obtain ⟨ad258, e258, hx258_0⟩ := Kd.at_int HR0.out 3 p258 q258
                    have hw258_0 := hx258_0
                    (try rw [show ((3 : Int)).toNat = 3 from rfl] at hw258_0)
                    (try rw [show 3 * 1 = 3 from rfl] at hw258_0)
                    (try simp only [Nat.reduceMul, Nat.reduceEqDiff, Go.Addr.add, ↓reduceIte] at hw258_0)
                    obtain rfl : ad257 = ad258 := (by injection e258)
                    (try simp only [show (3 : Int).toNat = 3 from rfl, Nat.reduceMul, Nat.reduceEqDiff, Go.Addr.add, ↓reduceIte] at hx258_0)
                    have qi258 : (3 < l0.length) = True := eq_true (by omega)
                    (try rw [show ((3 : Int)).toNat = 3 from rfl] at hx258_0)
                    replace hx258_0 := (HB.out.cell (World.block_lt_of_cell? w _ hx258_0)).trans hx258_0
                    replace p258 := eq_true p258
                    replace q258 := eq_true q258
                    have p259 : 0 ≤ (4 : Int) := (by omega)
                    have q259 : 4 < (l0.length : Int) := of_decide_eq_true (by first | (with_reducible assumption) | assumption)
                    obtain ⟨ad259, e259, hx259_0⟩ := Kd.at_int HR0.out 4 p259 q259
                    have hw259_0 := hx259_0
                    (try rw [show ((4 : Int)).toNat = 4 from rfl] at hw259_0)
                    (try rw [show 4 * 1 = 4 from rfl] at hw259_0)
                    (try simp only [Nat.reduceMul, Nat.reduceEqDiff, Go.Addr.add, ↓reduceIte] at hw259_0)
                    obtain rfl : ad257 = ad259 := (by injection e259)
                    (try simp only [show (4 : Int).toNat = 4 from rfl, Nat.reduceMul, Nat.reduceEqDiff, Go.Addr.add, ↓reduceIte] at hx259_0)
                    have qi259 : (4 < l0.length) = True := eq_true (by omega)
                    (try rw [show ((4 : Int)).toNat = 4 from rfl] at hx259_0)
                    replace hx259_0 := (HB.out.cell (World.block_lt_of_cell? w _ hx259_0)).trans hx259_0
                    replace p259 := eq_true p259
                    replace q259 := eq_true q259
                    have p260 : 0 ≤ (5 : Int) := (by omega)
                    have q260 : 5 < (l0.length : Int) := of_decide_eq_true (by first | (with_reducible assumption) | assumption)
                    obtain ⟨ad260, e260, hx260_0⟩ := Kd.at_int HR0.out 5 p260 q260
                    have hw260_0 := hx260_0
                    (try rw [show ((5 : Int)).toNat = 5 from rfl] at hw260_0)
                    (try rw [show 5 * 1 = 5 from rfl] at hw260_0)
                    (try simp only [Nat.reduceMul, Nat.reduceEqDiff, Go.Addr.add, ↓reduceIte] at hw260_0)
                    obtain rfl : ad257 = ad260 := (by injection e260)
                    (try simp only [show (5 : Int).toNat = 5 from rfl, Nat.reduceMul, Nat.reduceEqDiff, Go.Addr.add, ↓reduceIte] at hx260_0)
                    have qi260 : (5 < l0.length) = True := eq_true (by omega)
                    (try rw [show ((5 : Int)).toNat = 5 from rfl] at hx260_0)
                    replace hx260_0 := (HB.out.cell (World.block_lt_of_cell? w _ hx260_0)).trans hx260_0
                    replace p260 := eq_true p260
                    replace q260 := eq_true q260
                    obtain ⟨i027, hi027, _, hsz27, _⟩ := info_parts info5
                    obtain ⟨A27, hcut27, hA27, hC27⟩ := print_mid_of (P := Try.prog) (Value.int .u8) 0 24 5 .i64 .i64 Try.underlying24 hi027 hsz27 (some ad257) c0 l0 14 30 (by omega) (by first | omega | exact of_decide_eq_true (by first | (with_reducible assumption) | assumption)) (of_decide_eq_true (by first | (with_reducible assumption) | assumption)) HC0.out
                    have HR261 := Aside0.mk (Kd.C_of_reads (h1 := fun _ => rfl) (hA27 _ (Kd.reads_of_C HR0.out)))
                    have HC261 := Aside0.mk hC27
                    clear hA27 hC27 hi027 hsz27
                    have hcv28 := Kd.C_string (P := Try.prog) (A := A27) (c := (c0 - 14)) Try.underlying24 Try.underlying5 Try.underlying9 (Kd.C_below HR261.out HB.out)
                    have hcx28 := hcv28
                    (try simp only [Int.reduceToNat, List.length_drop, List.length_take] at hcx28)
                    refine start_ (n := 22) (S := fun w' => w'.cell? ⟨ad257.block, ad257.off + 2, none⟩ = some (.int .u8 (rd l0 2)) ∧ w'.cell? ⟨ad257.block, ad257.off + 3, none⟩ = some (.int .u8 (rd l0 3)) ∧ w'.cell? ⟨ad257.block, ad257.off + 4, none⟩ = some (.int .u8 (rd l0 4)) ∧ w'.cell? ⟨ad257.block, ad257.off + 5, none⟩ = some (.int .u8 (rd l0 5)) ∧ (convert 24 9 (.slice A27 ((l0.take 30).drop 14).length (c0 - 14))).run Try.prog w' = .ok (.string (strOfNums ((l0.take 30).drop 14))) w') (ds := []) #[false, false, false, false, false, false, false, false, false, false, false, false, false, false, false, false, false, false, false, false, false, false] (by kernel_rfl) rfl rfl ⟨((HB.out.cell (World.block_lt_of_cell? w _ hw257_0)).trans hw257_0), ((HB.out.cell (World.block_lt_of_cell? w _ hw258_0)).trans hw258_0), ((HB.out.cell (World.block_lt_of_cell? w _ hw259_0)).trans hw259_0), ((HB.out.cell (World.block_lt_of_cell? w _ hw260_0)).trans hw260_0), (Kd.C_string (P := Try.prog) (A := A27) (c := (c0 - 14)) Try.underlying24 Try.underlying5 Try.underlying9 (Kd.C_below HR261.out HB.out))⟩ (fun hHeld => ?_); refine with_tabW stowageref18_Decode.tab5 stowageref18_Decode.bits5 (fun HT_ HW_ => ?_)
                    generalize w22.drew = w26 at HO256 BK253 HB HR261 hx257_0 hx258_0 hx259_0 hx260_0 hHeld ⊢
                    refine pure_ (i := 0) (N := some 18) (v := ?_) (a' := ?_) #[true, false, false, false, false, false, false, false, false, false, false, false, false, false, false, false, false, false, false, false, false, false] rfl rfl (any_of HT_.out (by kernel_rfl)) (fun _ _ _ h => h) (Or.inl ⟨by rfl, ?_⟩) ?_ ?_
                    rotate_left
                    · intro w'
                      go_simp
                      with_reducible rfl
                    rotate_left
                    · simp only [Act.put, List.setIfInBounds_toArray, List.set_cons_zero, List.set_cons_succ, i64_w, i32_w]
                      rfl
                    refine pure_ (i := 1) (N := some 19) (v := ?_) (a' := ?_) #[true, true, false, false, false, false, false, false, false, false, false, false, false, false, false, false, false, false, false, false, false, false] rfl rfl (any_of HT_.out (by kernel_rfl)) (fun _ _ _ h => h) (Or.inl ⟨by rfl, ?_⟩) ?_ ?_
                    rotate_left
                    · intro w'
                      go_simp
                      with_reducible rfl
                    rotate_left
                    · simp only [Act.put, List.setIfInBounds_toArray, List.set_cons_zero, List.set_cons_succ, i64_w, i32_w]
                      rfl
                    refine pure_ (i := 4) (N := some 22) (v := ?_) (a' := ?_) #[true, true, false, false, true, false, false, false, false, false, false, false, false, false, false, false, false, false, false, false, false, false] rfl rfl (any_of HT_.out (by kernel_rfl)) (fun _ _ _ h => h) (Or.inl ⟨by rfl, ?_⟩) ?_ ?_
                    rotate_left
                    · intro w'
                      go_simp
                      with_reducible rfl
                    rotate_left
                    · simp only [Act.put, List.setIfInBounds_toArray, List.set_cons_zero, List.set_cons_succ, i64_w, i32_w]
                      rfl
                    refine pure_ (i := 5) (N := some 23) (v := ?_) (a' := ?_) #[true, true, false, false, true, true, false, false, false, false, false, false, false, false, false, false, false, false, false, false, false, false] rfl rfl (any_of HT_.out (by kernel_rfl)) (fun _ _ _ h => h) (Or.inl ⟨by rfl, ?_⟩) ?_ ?_
                    rotate_left
                    · intro w'
                      go_simp
                      with_reducible rfl
                    rotate_left
                    · simp only [Act.put, List.setIfInBounds_toArray, List.set_cons_zero, List.set_cons_succ, i64_w, i32_w]
                      rfl
                    refine pure_ (i := 8) (N := some 26) (v := ?_) (a' := ?_) #[true, true, false, false, true, true, false, false, true, false, false, false, false, false, false, false, false, false, false, false, false, false] rfl rfl (any_of HT_.out (by kernel_rfl)) (fun _ _ _ h => h) (Or.inl ⟨by rfl, ?_⟩) ?_ ?_
                    rotate_left
                    · intro w'
                      go_simp
                      with_reducible rfl
                    rotate_left
                    · simp only [Act.put, List.setIfInBounds_toArray, List.set_cons_zero, List.set_cons_succ, i64_w, i32_w]
                      rfl
                    refine pure_ (i := 9) (N := some 27) (v := ?_) (a' := ?_) #[true, true, false, false, true, true, false, false, true, true, false, false, false, false, false, false, false, false, false, false, false, false] rfl rfl (any_of HT_.out (by kernel_rfl)) (fun _ _ _ h => h) (Or.inl ⟨by rfl, ?_⟩) ?_ ?_
                    rotate_left
                    · intro w'
                      go_simp
                      with_reducible rfl
                    rotate_left
                    · simp only [Act.put, List.setIfInBounds_toArray, List.set_cons_zero, List.set_cons_succ, i64_w, i32_w]
                      rfl
                    refine pure_ (i := 12) (N := some 30) (v := ?_) (a' := ?_) #[true, true, false, false, true, true, false, false, true, true, false, false, true, false, false, false, false, false, false, false, false, false] rfl rfl (any_of HT_.out (by kernel_rfl)) (fun _ _ _ h => h) (Or.inl ⟨by rfl, ?_⟩) ?_ ?_
                    rotate_left
                    · intro w'
                      go_simp
                      with_reducible rfl
                    rotate_left
                    · simp only [Act.put, List.setIfInBounds_toArray, List.set_cons_zero, List.set_cons_succ, i64_w, i32_w]
                      rfl
                    refine pure_ (i := 13) (N := some 31) (v := ?_) (a' := ?_) #[true, true, false, false, true, true, false, false, true, true, false, false, true, true, false, false, false, false, false, false, false, false] rfl rfl (any_of HT_.out (by kernel_rfl)) (fun _ _ _ h => h) (Or.inl ⟨by rfl, ?_⟩) ?_ ?_
                    rotate_left
                    · intro w'
                      go_simp
                      with_reducible rfl
                    rotate_left
                    · simp only [Act.put, List.setIfInBounds_toArray, List.set_cons_zero, List.set_cons_succ, i64_w, i32_w]
                      rfl
                    refine pure_ (i := 16) (N := some 34) (v := ?_) (a' := ?_) #[true, true, false, false, true, true, false, false, true, true, false, false, true, true, false, false, true, false, false, false, false, false] rfl rfl (any_of HT_.out (by kernel_rfl)) (fun _ _ _ h => h) (Or.inl ⟨by rfl, ?_⟩) ?_ ?_
                    rotate_left
                    · intro w'
                      go_simp
                      with_reducible rfl
                    rotate_left
                    · simp only [Act.put, List.setIfInBounds_toArray, List.set_cons_zero, List.set_cons_succ, i64_w, i32_w]
                      rfl
                    refine pure_ (i := 17) (N := some 35) (v := ?_) (a' := ?_) #[true, true, false, false, true, true, false, false, true, true, false, false, true, true, false, false, true, true, false, false, false, false] rfl rfl (any_of HT_.out (by kernel_rfl)) (fun _ _ _ h => h) (Or.inl ⟨by rfl, ?_⟩) ?_ ?_
                    rotate_left
                    · intro w'
                      go_simp
                      with_reducible rfl
                    rotate_left
                    · simp only [Act.put, List.setIfInBounds_toArray, List.set_cons_zero, List.set_cons_succ, i64_w, i32_w]
                      rfl
                    refine take_ (i := 18) (N := some 36) (v := ?_) (a' := ?_) #[true, true, false, false, true, true, false, false, true, true, false, false, true, true, false, false, true, true, true, false, false, false] rfl rfl (take_ofW HT_.out HW_.out (by kernel_rfl)) (fun _ _ _ h => h) (Or.inl ⟨by rfl, ?_⟩) hHeld ?_ ?_
                    rotate_left
                    · rintro w' ⟨s0, s1, s2, s3, sS⟩
                      (try simp only [Int.reduceToNat, List.length_drop, List.length_take] at sS)
                      go_simp
                      with_reducible rfl
                    rotate_left
                    · simp only [Act.put, List.setIfInBounds_toArray, List.set_cons_zero, List.set_cons_succ, i64_w, i32_w]
                      rfl
                    refine take_ (i := 2) (N := some 20) (v := ?_) (a' := ?_) #[true, true, true, false, true, true, false, false, true, true, false, false, true, true, false, false, true, true, true, false, false, false] rfl rfl (take_ofW HT_.out HW_.out (by kernel_rfl)) (fun _ _ _ h => h) (Or.inl ⟨by rfl, ?_⟩) hHeld ?_ ?_
                    rotate_left
                    · rintro w' ⟨s0, s1, s2, s3, sS⟩
                      go_simp
                      with_reducible rfl
                    rotate_left
                    · simp only [Act.put, List.setIfInBounds_toArray, List.set_cons_zero, List.set_cons_succ, i64_w, i32_w]
                      rfl
                    refine pure_ (i := 3) (N := some 21) (v := ?_) (a' := ?_) #[true, true, true, true, true, true, false, false, true, true, false, false, true, true, false, false, true, true, true, false, false, false] rfl rfl (any_of HT_.out (by kernel_rfl)) (fun _ _ _ h => h) (Or.inl ⟨by rfl, ?_⟩) ?_ ?_
                    rotate_left
                    · intro w'
                      go_simp
                      with_reducible rfl
                    rotate_left
                    · simp only [Act.put, List.setIfInBounds_toArray, List.set_cons_zero, List.set_cons_succ, i64_w, i32_w]
                      rfl
                    refine take_ (i := 6) (N := some 24) (v := ?_) (a' := ?_) #[true, true, true, true, true, true, true, false, true, true, false, false, true, true, false, false, true, true, true, false, false, false] rfl rfl (take_ofW HT_.out HW_.out (by kernel_rfl)) (fun _ _ _ h => h) (Or.inl ⟨by rfl, ?_⟩) hHeld ?_ ?_
                    rotate_left
                    · rintro w' ⟨s0, s1, s2, s3, sS⟩
                      go_simp
                      with_reducible rfl
                    rotate_left
                    · simp only [Act.put, List.setIfInBounds_toArray, List.set_cons_zero, List.set_cons_succ, i64_w, i32_w]
                      rfl
                    refine pure_ (i := 7) (N := some 25) (v := ?_) (a' := ?_) #[true, true, true, true, true, true, true, true, true, true, false, false, true, true, false, false, true, true, true, false, false, false] rfl rfl (any_of HT_.out (by kernel_rfl)) (fun _ _ _ h => h) (Or.inl ⟨by rfl, ?_⟩) ?_ ?_
                    rotate_left
                    · intro w'
                      go_simp
                      with_reducible rfl
                    rotate_left
                    · simp only [Act.put, List.setIfInBounds_toArray, List.set_cons_zero, List.set_cons_succ, i64_w, i32_w]
                      rfl
                    refine take_ (i := 10) (N := some 28) (v := ?_) (a' := ?_) #[true, true, true, true, true, true, true, true, true, true, true, false, true, true, false, false, true, true, true, false, false, false] rfl rfl (take_ofW HT_.out HW_.out (by kernel_rfl)) (fun _ _ _ h => h) (Or.inl ⟨by rfl, ?_⟩) hHeld ?_ ?_
                    rotate_left
                    · rintro w' ⟨s0, s1, s2, s3, sS⟩
                      go_simp
                      with_reducible rfl
                    rotate_left
                    · simp only [Act.put, List.setIfInBounds_toArray, List.set_cons_zero, List.set_cons_succ, i64_w, i32_w]
                      rfl
                    refine pure_ (i := 11) (N := some 29) (v := ?_) (a' := ?_) #[true, true, true, true, true, true, true, true, true, true, true, true, true, true, false, false, true, true, true, false, false, false] rfl rfl (any_of HT_.out (by kernel_rfl)) (fun _ _ _ h => h) (Or.inl ⟨by rfl, ?_⟩) ?_ ?_
                    rotate_left
                    · intro w'
                      go_simp
                      with_reducible rfl
                    rotate_left
                    · simp only [Act.put, List.setIfInBounds_toArray, List.set_cons_zero, List.set_cons_succ, i64_w, i32_w]
                      rfl
                    refine take_ (i := 14) (N := some 32) (v := ?_) (a' := ?_) #[true, true, true, true, true, true, true, true, true, true, true, true, true, true, true, false, true, true, true, false, false, false] rfl rfl (take_ofW HT_.out HW_.out (by kernel_rfl)) (fun _ _ _ h => h) (Or.inl ⟨by rfl, ?_⟩) hHeld ?_ ?_
                    rotate_left
                    · rintro w' ⟨s0, s1, s2, s3, sS⟩
                      go_simp
                      with_reducible rfl
                    rotate_left
                    · simp only [Act.put, List.setIfInBounds_toArray, List.set_cons_zero, List.set_cons_succ, i64_w, i32_w]
                      rfl
                    refine pure_ (i := 15) (N := some 33) (v := ?_) (a' := ?_) #[true, true, true, true, true, true, true, true, true, true, true, true, true, true, true, true, true, true, true, false, false, false] rfl rfl (any_of HT_.out (by kernel_rfl)) (fun _ _ _ h => h) (Or.inl ⟨by rfl, ?_⟩) ?_ ?_
                    rotate_left
                    · intro w'
                      go_simp
                      with_reducible rfl
                    rotate_left
                    · simp only [Act.put, List.setIfInBounds_toArray, List.set_cons_zero, List.set_cons_succ, i64_w, i32_w]
                      rfl
                    refine pure_ (i := 19) (N := some 37) (v := ?_) (a' := ?_) #[true, true, true, true, true, true, true, true, true, true, true, true, true, true, true, true, true, true, true, true, false, false] rfl rfl (any_of HT_.out (by kernel_rfl)) (fun _ _ _ h => h) (Or.inl ⟨by rfl, ?_⟩) ?_ ?_
                    rotate_left
                    · intro w'
                      go_simp
                      with_reducible rfl
                    rotate_left
                    · simp only [Act.put, List.setIfInBounds_toArray, List.set_cons_zero, List.set_cons_succ, i64_w, i32_w]
                      rfl
                    refine one_ (i := 20) (N := some 4) #[true, true, true, true, true, true, true, true, true, true, true, true, true, true, true, true, true, true, true, true, true, false] rfl rfl (one_of HT_.out (by kernel_rfl)) (by decide) (fun K hK => ?_)
                    refine box_step ?hg (N := 4) ?hd (cs := #[.int .i64 0, .int .i64 0, .int .i64 0, .int .i64 0, .int .i64 0, .string (⟨#[]⟩ : ByteArray)]) (t := 23) ?hr ?_; (case hd => rfl); (case hg => rfl); (case hr => first | (go_simp; done) | (go_simp; rfl))
                    intro gb262 hg w29 hbox hb
                    have n0_ := Aside0.mk (Kd.R_below (by (with_reducible repeat (first | apply Kd.R_alloc | apply Kd.R_drewN | apply Kd.R_drew)); exact HO256.out) hb)
                    have n1_ := Aside0.mk (blk_below (g := gb253) (o := .cells #[.int .i64 0, .int .i64 0, .int .i64 0, .int .i64 0, .int .i64 0, .string (⟨#[]⟩ : ByteArray)] 23 (0, 0)) (by (with_reducible repeat (first | refine blk_drewN ?_ _ | refine blk_drew ?_ | refine blk_alloc ?_ _)); exact BK253.out) hb)
                    have n2_ := Aside0.mk (below_step (by repeat (first | (with_reducible first | exact HB.out | apply below_alloc | apply pw_below_drewN | apply below_drew1 | refine below_set ?_ GE253.out) | exact HB.out)) hb)
                    have n3_ := Aside0.mk (hbox)
                    have n4_ := Aside0.mk ((by rw [hg]; exact (below_size (by repeat (first | (with_reducible first | exact HB.out | apply below_alloc | apply pw_below_drewN | apply below_drew1 | refine below_set ?_ GE253.out) | exact HB.out))) : w.heap.size ≤ gb262))
                    have n5_ := Aside0.mk ((by rw [hg]; exact (below_size (by repeat (first | (with_reducible first | exact HB.out | apply below_alloc | apply pw_below_drewN | apply below_drew1 | refine below_set ?_ GE253.out) | exact HB.out))) : w.heap.size ≤ gb262))
                    have n6_ := Aside0.mk ((by rw [hg]; exact Nat.ne_of_lt (blk_lt (g := gb253) (o := .cells #[.int .i64 0, .int .i64 0, .int .i64 0, .int .i64 0, .int .i64 0, .string (⟨#[]⟩ : ByteArray)] 23 (0, 0)) (by (with_reducible repeat (first | refine blk_drewN ?_ _ | refine blk_drew ?_ | refine blk_alloc ?_ _)); exact BK253.out)) : gb253 ≠ gb262))
                    have n7_ := Aside0.mk ((by rw [hg]; exact Nat.ne_of_gt (blk_lt (g := gb253) (o := .cells #[.int .i64 0, .int .i64 0, .int .i64 0, .int .i64 0, .int .i64 0, .string (⟨#[]⟩ : ByteArray)] 23 (0, 0)) (by (with_reducible repeat (first | refine blk_drewN ?_ _ | refine blk_drew ?_ | refine blk_alloc ?_ _)); exact BK253.out)) : gb262 ≠ gb253))
                    clear HO256
                    clear BK253
                    clear HB
                    have HO256 := n0_
                    have BK253 := n1_
                    have HB := n2_
                    have BK262 := n3_
                    have GW262 := n4_
                    have GE262 := n5_
                    have NB253_262 := n6_
                    have NB262_253 := n7_
                    clear n0_ n1_ n2_ n3_ n4_ n5_ n6_ n7_
                    clear hb hbox hg
                    refine hK.out _ _ ⟨((HB.out.cell (World.block_lt_of_cell? w _ hw257_0)).trans hw257_0), ((HB.out.cell (World.block_lt_of_cell? w _ hw258_0)).trans hw258_0), ((HB.out.cell (World.block_lt_of_cell? w _ hw259_0)).trans hw259_0), ((HB.out.cell (World.block_lt_of_cell? w _ hw260_0)).trans hw260_0), (Kd.C_string (P := Try.prog) (A := A27) (c := (c0 - 14)) Try.underlying24 Try.underlying5 Try.underlying9 (Kd.C_below HR261.out (by repeat (first | (with_reducible first | exact HB.out | apply below_alloc | apply pw_below_drewN | apply below_drew1 | refine below_set ?_ GE253.out | refine below_set ?_ GE262.out) | exact HB.out))))⟩ (fun hHeld => ?_)
                    clear hK K
                    refine norm_ (a' := ?_) ?_ ?_
                    rotate_left
                    · show Act.put _ (some 4) _ = _
                      simp only [Act.put, List.setIfInBounds_toArray, List.set_cons_zero, List.set_cons_succ, i64_w, i32_w]
                      rfl
                    refine one_ (i := 21) (N := none) #[true, true, true, true, true, true, true, true, true, true, true, true, true, true, true, true, true, true, true, true, true, true] rfl rfl (one_of HT_.out (by kernel_rfl)) (by decide) (fun K hK => ?_)
                    have hs31 : w29.cell? ⟨gb262, 0, none⟩ = some (.int .i64 0) := (blk_cell BK262.out 0).trans rfl
                    have hfs31 := blk_frozen BK262.out 0
                    have hns31_0 := NB253_262.out
                    have hms31_0 := NB262_253.out
                    have hs32 : w29.cell? ⟨gb262, 1, none⟩ = some (.int .i64 0) := (blk_cell BK262.out 1).trans rfl
                    have hfs32 := blk_frozen BK262.out 1
                    have hns32_0 := NB253_262.out
                    have hms32_0 := NB262_253.out
                    have hs33 : w29.cell? ⟨gb262, 2, none⟩ = some (.int .i64 0) := (blk_cell BK262.out 2).trans rfl
                    have hfs33 := blk_frozen BK262.out 2
                    have hns33_0 := NB253_262.out
                    have hms33_0 := NB262_253.out
                    have hs34 : w29.cell? ⟨gb262, 3, none⟩ = some (.int .i64 0) := (blk_cell BK262.out 3).trans rfl
                    have hfs34 := blk_frozen BK262.out 3
                    have hns34_0 := NB253_262.out
                    have hms34_0 := NB262_253.out
                    have hs35 : w29.cell? ⟨gb262, 4, none⟩ = some (.int .i64 0) := (blk_cell BK262.out 4).trans rfl
                    have hfs35 := blk_frozen BK262.out 4
                    have hns35_0 := NB253_262.out
                    have hms35_0 := NB262_253.out
                    have hs36 : w29.cell? ⟨gb262, 5, none⟩ = some (.string (⟨#[]⟩ : ByteArray)) := (blk_cell BK262.out 5).trans rfl
                    have hfs36 := blk_frozen BK262.out 5
                    have hns36_0 := NB253_262.out
                    have hms36_0 := NB262_253.out
                    refine skip_ (w1 := ?_) (by rfl) rfl ?_ ?_
                    rotate_left
                    · go_simp
                      rfl
                    refine hK.out _ _ ⟨(Fz.far (by first | exact Nat.ne_of_lt (Nat.lt_of_lt_of_le (by have := World.block_lt_of_cell? _ _ hw257_0; first | rwa [add_block] at this | exact this) GW262.out) | (rw [add_block]; exact Nat.ne_of_lt (Nat.lt_of_lt_of_le (by have := World.block_lt_of_cell? _ _ hw257_0; first | rwa [add_block] at this | exact this) GW262.out)) | (show (Addr.add _ _).block ≠ _; rw [add_block]; exact Nat.ne_of_lt (Nat.lt_of_lt_of_le (by have := World.block_lt_of_cell? _ _ hw257_0; first | rwa [add_block] at this | exact this) GW262.out)) | (dsimp only; exact Nat.ne_of_lt (Nat.lt_of_lt_of_le (by have := World.block_lt_of_cell? _ _ hw257_0; first | rwa [add_block] at this | exact this) GW262.out))) ((Fz.far (by first | exact Nat.ne_of_lt (Nat.lt_of_lt_of_le (by have := World.block_lt_of_cell? _ _ hw257_0; first | rwa [add_block] at this | exact this) GW262.out) | (rw [add_block]; exact Nat.ne_of_lt (Nat.lt_of_lt_of_le (by have := World.block_lt_of_cell? _ _ hw257_0; first | rwa [add_block] at this | exact this) GW262.out)) | (show (Addr.add _ _).block ≠ _; rw [add_block]; exact Nat.ne_of_lt (Nat.lt_of_lt_of_le (by have := World.block_lt_of_cell? _ _ hw257_0; first | rwa [add_block] at this | exact this) GW262.out)) | (dsimp only; exact Nat.ne_of_lt (Nat.lt_of_lt_of_le (by have := World.block_lt_of_cell? _ _ hw257_0; first | rwa [add_block] at this | exact this) GW262.out))) ((Fz.far (by first | exact Nat.ne_of_lt (Nat.lt_of_lt_of_le (by have := World.block_lt_of_cell? _ _ hw257_0; first | rwa [add_block] at this | exact this) GW262.out) | (rw [add_block]; exact Nat.ne_of_lt (Nat.lt_of_lt_of_le (by have := World.block_lt_of_cell? _ _ hw257_0; first | rwa [add_block] at this | exact this) GW262.out)) | (show (Addr.add _ _).block ≠ _; rw [add_block]; exact Nat.ne_of_lt (Nat.lt_of_lt_of_le (by have := World.block_lt_of_cell? _ _ hw257_0; first | rwa [add_block] at this | exact this) GW262.out)) | (dsimp only; exact Nat.ne_of_lt (Nat.lt_of_lt_of_le (by have := World.block_lt_of_cell? _ _ hw257_0; first | rwa [add_block] at this | exact this) GW262.out))) ((Fz.far (by first | exact Nat.ne_of_lt (Nat.lt_of_lt_of_le (by have := World.block_lt_of_cell? _ _ hw257_0; first | rwa [add_block] at this | exact this) GW262.out) | (rw [add_block]; exact Nat.ne_of_lt (Nat.lt_of_lt_of_le (by have := World.block_lt_of_cell? _ _ hw257_0; first | rwa [add_block] at this | exact this) GW262.out)) | (show (Addr.add _ _).block ≠ _; rw [add_block]; exact Nat.ne_of_lt (Nat.lt_of_lt_of_le (by have := World.block_lt_of_cell? _ _ hw257_0; first | rwa [add_block] at this | exact this) GW262.out)) | (dsimp only; exact Nat.ne_of_lt (Nat.lt_of_lt_of_le (by have := World.block_lt_of_cell? _ _ hw257_0; first | rwa [add_block] at this | exact this) GW262.out))) ((Fz.far (by first | exact Nat.ne_of_lt (Nat.lt_of_lt_of_le (by have := World.block_lt_of_cell? _ _ hw257_0; first | rwa [add_block] at this | exact this) GW262.out) | (rw [add_block]; exact Nat.ne_of_lt (Nat.lt_of_lt_of_le (by have := World.block_lt_of_cell? _ _ hw257_0; first | rwa [add_block] at this | exact this) GW262.out)) | (show (Addr.add _ _).block ≠ _; rw [add_block]; exact Nat.ne_of_lt (Nat.lt_of_lt_of_le (by have := World.block_lt_of_cell? _ _ hw257_0; first | rwa [add_block] at this | exact this) GW262.out)) | (dsimp only; exact Nat.ne_of_lt (Nat.lt_of_lt_of_le (by have := World.block_lt_of_cell? _ _ hw257_0; first | rwa [add_block] at this | exact this) GW262.out))) ((Fz.far (by first | exact Nat.ne_of_lt (Nat.lt_of_lt_of_le (by have := World.block_lt_of_cell? _ _ hw257_0; first | rwa [add_block] at this | exact this) GW262.out) | (rw [add_block]; exact Nat.ne_of_lt (Nat.lt_of_lt_of_le (by have := World.block_lt_of_cell? _ _ hw257_0; first | rwa [add_block] at this | exact this) GW262.out)) | (show (Addr.add _ _).block ≠ _; rw [add_block]; exact Nat.ne_of_lt (Nat.lt_of_lt_of_le (by have := World.block_lt_of_cell? _ _ hw257_0; first | rwa [add_block] at this | exact this) GW262.out)) | (dsimp only; exact Nat.ne_of_lt (Nat.lt_of_lt_of_le (by have := World.block_lt_of_cell? _ _ hw257_0; first | rwa [add_block] at this | exact this) GW262.out))) (hHeld.1)))))))))))), (Fz.far (by first | exact Nat.ne_of_lt (Nat.lt_of_lt_of_le (by have := World.block_lt_of_cell? _ _ hw258_0; first | rwa [add_block] at this | exact this) GW262.out) | (rw [add_block]; exact Nat.ne_of_lt (Nat.lt_of_lt_of_le (by have := World.block_lt_of_cell? _ _ hw258_0; first | rwa [add_block] at this | exact this) GW262.out)) | (show (Addr.add _ _).block ≠ _; rw [add_block]; exact Nat.ne_of_lt (Nat.lt_of_lt_of_le (by have := World.block_lt_of_cell? _ _ hw258_0; first | rwa [add_block] at this | exact this) GW262.out)) | (dsimp only; exact Nat.ne_of_lt (Nat.lt_of_lt_of_le (by have := World.block_lt_of_cell? _ _ hw258_0; first | rwa [add_block] at this | exact this) GW262.out))) ((Fz.far (by first | exact Nat.ne_of_lt (Nat.lt_of_lt_of_le (by have := World.block_lt_of_cell? _ _ hw258_0; first | rwa [add_block] at this | exact this) GW262.out) | (rw [add_block]; exact Nat.ne_of_lt (Nat.lt_of_lt_of_le (by have := World.block_lt_of_cell? _ _ hw258_0; first | rwa [add_block] at this | exact this) GW262.out)) | (show (Addr.add _ _).block ≠ _; rw [add_block]; exact Nat.ne_of_lt (Nat.lt_of_lt_of_le (by have := World.block_lt_of_cell? _ _ hw258_0; first | rwa [add_block] at this | exact this) GW262.out)) | (dsimp only; exact Nat.ne_of_lt (Nat.lt_of_lt_of_le (by have := World.block_lt_of_cell? _ _ hw258_0; first | rwa [add_block] at this | exact this) GW262.out))) ((Fz.far (by first | exact Nat.ne_of_lt (Nat.lt_of_lt_of_le (by have := World.block_lt_of_cell? _ _ hw258_0; first | rwa [add_block] at this | exact this) GW262.out) | (rw [add_block]; exact Nat.ne_of_lt (Nat.lt_of_lt_of_le (by have := World.block_lt_of_cell? _ _ hw258_0; first | rwa [add_block] at this | exact this) GW262.out)) | (show (Addr.add _ _).block ≠ _; rw [add_block]; exact Nat.ne_of_lt (Nat.lt_of_lt_of_le (by have := World.block_lt_of_cell? _ _ hw258_0; first | rwa [add_block] at this | exact this) GW262.out)) | (dsimp only; exact Nat.ne_of_lt (Nat.lt_of_lt_of_le (by have := World.block_lt_of_cell? _ _ hw258_0; first | rwa [add_block] at this | exact this) GW262.out))) ((Fz.far (by first | exact Nat.ne_of_lt (Nat.lt_of_lt_of_le (by have := World.block_lt_of_cell? _ _ hw258_0; first | rwa [add_block] at this | exact this) GW262.out) | (rw [add_block]; exact Nat.ne_of_lt (Nat.lt_of_lt_of_le (by have := World.block_lt_of_cell? _ _ hw258_0; first | rwa [add_block] at this | exact this) GW262.out)) | (show (Addr.add _ _).block ≠ _; rw [add_block]; exact Nat.ne_of_lt (Nat.lt_of_lt_of_le (by have := World.block_lt_of_cell? _ _ hw258_0; first | rwa [add_block] at this | exact this) GW262.out)) | (dsimp only; exact Nat.ne_of_lt (Nat.lt_of_lt_of_le (by have := World.block_lt_of_cell? _ _ hw258_0; first | rwa [add_block] at this | exact this) GW262.out))) ((Fz.far (by first | exact Nat.ne_of_lt (Nat.lt_of_lt_of_le (by have := World.block_lt_of_cell? _ _ hw258_0; first | rwa [add_block] at this | exact this) GW262.out) | (rw [add_block]; exact Nat.ne_of_lt (Nat.lt_of_lt_of_le (by have := World.block_lt_of_cell? _ _ hw258_0; first | rwa [add_block] at this | exact this) GW262.out)) | (show (Addr.add _ _).block ≠ _; rw [add_block]; exact Nat.ne_of_lt (Nat.lt_of_lt_of_le (by have := World.block_lt_of_cell? _ _ hw258_0; first | rwa [add_block] at this | exact this) GW262.out)) | (dsimp only; exact Nat.ne_of_lt (Nat.lt_of_lt_of_le (by have := World.block_lt_of_cell? _ _ hw258_0; first | rwa [add_block] at this | exact this) GW262.out))) ((Fz.far (by first | exact Nat.ne_of_lt (Nat.lt_of_lt_of_le (by have := World.block_lt_of_cell? _ _ hw258_0; first | rwa [add_block] at this | exact this) GW262.out) | (rw [add_block]; exact Nat.ne_of_lt (Nat.lt_of_lt_of_le (by have := World.block_lt_of_cell? _ _ hw258_0; first | rwa [add_block] at this | exact this) GW262.out)) | (show (Addr.add _ _).block ≠ _; rw [add_block]; exact Nat.ne_of_lt (Nat.lt_of_lt_of_le (by have := World.block_lt_of_cell? _ _ hw258_0; first | rwa [add_block] at this | exact this) GW262.out)) | (dsimp only; exact Nat.ne_of_lt (Nat.lt_of_lt_of_le (by have := World.block_lt_of_cell? _ _ hw258_0; first | rwa [add_block] at this | exact this) GW262.out))) (hHeld.2.1)))))))))))), (Fz.far (by first | exact Nat.ne_of_lt (Nat.lt_of_lt_of_le (by have := World.block_lt_of_cell? _ _ hw259_0; first | rwa [add_block] at this | exact this) GW262.out) | (rw [add_block]; exact Nat.ne_of_lt (Nat.lt_of_lt_of_le (by have := World.block_lt_of_cell? _ _ hw259_0; first | rwa [add_block] at this | exact this) GW262.out)) | (show (Addr.add _ _).block ≠ _; rw [add_block]; exact Nat.ne_of_lt (Nat.lt_of_lt_of_le (by have := World.block_lt_of_cell? _ _ hw259_0; first | rwa [add_block] at this | exact this) GW262.out)) | (dsimp only; exact Nat.ne_of_lt (Nat.lt_of_lt_of_le (by have := World.block_lt_of_cell? _ _ hw259_0; first | rwa [add_block] at this | exact this) GW262.out))) ((Fz.far (by first | exact Nat.ne_of_lt (Nat.lt_of_lt_of_le (by have := World.block_lt_of_cell? _ _ hw259_0; first | rwa [add_block] at this | exact this) GW262.out) | (rw [add_block]; exact Nat.ne_of_lt (Nat.lt_of_lt_of_le (by have := World.block_lt_of_cell? _ _ hw259_0; first | rwa [add_block] at this | exact this) GW262.out)) | (show (Addr.add _ _).block ≠ _; rw [add_block]; exact Nat.ne_of_lt (Nat.lt_of_lt_of_le (by have := World.block_lt_of_cell? _ _ hw259_0; first | rwa [add_block] at this | exact this) GW262.out)) | (dsimp only; exact Nat.ne_of_lt (Nat.lt_of_lt_of_le (by have := World.block_lt_of_cell? _ _ hw259_0; first | rwa [add_block] at this | exact this) GW262.out))) ((Fz.far (by first | exact Nat.ne_of_lt (Nat.lt_of_lt_of_le (by have := World.block_lt_of_cell? _ _ hw259_0; first | rwa [add_block] at this | exact this) GW262.out) | (rw [add_block]; exact Nat.ne_of_lt (Nat.lt_of_lt_of_le (by have := World.block_lt_of_cell? _ _ hw259_0; first | rwa [add_block] at this | exact this) GW262.out)) | (show (Addr.add _ _).block ≠ _; rw [add_block]; exact Nat.ne_of_lt (Nat.lt_of_lt_of_le (by have := World.block_lt_of_cell? _ _ hw259_0; first | rwa [add_block] at this | exact this) GW262.out)) | (dsimp only; exact Nat.ne_of_lt (Nat.lt_of_lt_of_le (by have := World.block_lt_of_cell? _ _ hw259_0; first | rwa [add_block] at this | exact this) GW262.out))) ((Fz.far (by first | exact Nat.ne_of_lt (Nat.lt_of_lt_of_le (by have := World.block_lt_of_cell? _ _ hw259_0; first | rwa [add_block] at this | exact this) GW262.out) | (rw [add_block]; exact Nat.ne_of_lt (Nat.lt_of_lt_of_le (by have := World.block_lt_of_cell? _ _ hw259_0; first | rwa [add_block] at this | exact this) GW262.out)) | (show (Addr.add _ _).block ≠ _; rw [add_block]; exact Nat.ne_of_lt (Nat.lt_of_lt_of_le (by have := World.block_lt_of_cell? _ _ hw259_0; first | rwa [add_block] at this | exact this) GW262.out)) | (dsimp only; exact Nat.ne_of_lt (Nat.lt_of_lt_of_le (by have := World.block_lt_of_cell? _ _ hw259_0; first | rwa [add_block] at this | exact this) GW262.out))) ((Fz.far (by first | exact Nat.ne_of_lt (Nat.lt_of_lt_of_le (by have := World.block_lt_of_cell? _ _ hw259_0; first | rwa [add_block] at this | exact this) GW262.out) | (rw [add_block]; exact Nat.ne_of_lt (Nat.lt_of_lt_of_le (by have := World.block_lt_of_cell? _ _ hw259_0; first | rwa [add_block] at this | exact this) GW262.out)) | (show (Addr.add _ _).block ≠ _; rw [add_block]; exact Nat.ne_of_lt (Nat.lt_of_lt_of_le (by have := World.block_lt_of_cell? _ _ hw259_0; first | rwa [add_block] at this | exact this) GW262.out)) | (dsimp only; exact Nat.ne_of_lt (Nat.lt_of_lt_of_le (by have := World.block_lt_of_cell? _ _ hw259_0; first | rwa [add_block] at this | exact this) GW262.out))) ((Fz.far (by first | exact Nat.ne_of_lt (Nat.lt_of_lt_of_le (by have := World.block_lt_of_cell? _ _ hw259_0; first | rwa [add_block] at this | exact this) GW262.out) | (rw [add_block]; exact Nat.ne_of_lt (Nat.lt_of_lt_of_le (by have := World.block_lt_of_cell? _ _ hw259_0; first | rwa [add_block] at this | exact this) GW262.out)) | (show (Addr.add _ _).block ≠ _; rw [add_block]; exact Nat.ne_of_lt (Nat.lt_of_lt_of_le (by have := World.block_lt_of_cell? _ _ hw259_0; first | rwa [add_block] at this | exact this) GW262.out)) | (dsimp only; exact Nat.ne_of_lt (Nat.lt_of_lt_of_le (by have := World.block_lt_of_cell? _ _ hw259_0; first | rwa [add_block] at this | exact this) GW262.out))) (hHeld.2.2.1)))))))))))), (Fz.far (by first | exact Nat.ne_of_lt (Nat.lt_of_lt_of_le (by have := World.block_lt_of_cell? _ _ hw260_0; first | rwa [add_block] at this | exact this) GW262.out) | (rw [add_block]; exact Nat.ne_of_lt (Nat.lt_of_lt_of_le (by have := World.block_lt_of_cell? _ _ hw260_0; first | rwa [add_block] at this | exact this) GW262.out)) | (show (Addr.add _ _).block ≠ _; rw [add_block]; exact Nat.ne_of_lt (Nat.lt_of_lt_of_le (by have := World.block_lt_of_cell? _ _ hw260_0; first | rwa [add_block] at this | exact this) GW262.out)) | (dsimp only; exact Nat.ne_of_lt (Nat.lt_of_lt_of_le (by have := World.block_lt_of_cell? _ _ hw260_0; first | rwa [add_block] at this | exact this) GW262.out))) ((Fz.far (by first | exact Nat.ne_of_lt (Nat.lt_of_lt_of_le (by have := World.block_lt_of_cell? _ _ hw260_0; first | rwa [add_block] at this | exact this) GW262.out) | (rw [add_block]; exact Nat.ne_of_lt (Nat.lt_of_lt_of_le (by have := World.block_lt_of_cell? _ _ hw260_0; first | rwa [add_block] at this | exact this) GW262.out)) | (show (Addr.add _ _).block ≠ _; rw [add_block]; exact Nat.ne_of_lt (Nat.lt_of_lt_of_le (by have := World.block_lt_of_cell? _ _ hw260_0; first | rwa [add_block] at this | exact this) GW262.out)) | (dsimp only; exact Nat.ne_of_lt (Nat.lt_of_lt_of_le (by have := World.block_lt_of_cell? _ _ hw260_0; first | rwa [add_block] at this | exact this) GW262.out))) ((Fz.far (by first | exact Nat.ne_of_lt (Nat.lt_of_lt_of_le (by have := World.block_lt_of_cell? _ _ hw260_0; first | rwa [add_block] at this | exact this) GW262.out) | (rw [add_block]; exact Nat.ne_of_lt (Nat.lt_of_lt_of_le (by have := World.block_lt_of_cell? _ _ hw260_0; first | rwa [add_block] at this | exact this) GW262.out)) | (show (Addr.add _ _).block ≠ _; rw [add_block]; exact Nat.ne_of_lt (Nat.lt_of_lt_of_le (by have := World.block_lt_of_cell? _ _ hw260_0; first | rwa [add_block] at this | exact this) GW262.out)) | (dsimp only; exact Nat.ne_of_lt (Nat.lt_of_lt_of_le (by have := World.block_lt_of_cell? _ _ hw260_0; first | rwa [add_block] at this | exact this) GW262.out))) ((Fz.far (by first | exact Nat.ne_of_lt (Nat.lt_of_lt_of_le (by have := World.block_lt_of_cell? _ _ hw260_0; first | rwa [add_block] at this | exact this) GW262.out) | (rw [add_block]; exact Nat.ne_of_lt (Nat.lt_of_lt_of_le (by have := World.block_lt_of_cell? _ _ hw260_0; first | rwa [add_block] at this | exact this) GW262.out)) | (show (Addr.add _ _).block ≠ _; rw [add_block]; exact Nat.ne_of_lt (Nat.lt_of_lt_of_le (by have := World.block_lt_of_cell? _ _ hw260_0; first | rwa [add_block] at this | exact this) GW262.out)) | (dsimp only; exact Nat.ne_of_lt (Nat.lt_of_lt_of_le (by have := World.block_lt_of_cell? _ _ hw260_0; first | rwa [add_block] at this | exact this) GW262.out))) ((Fz.far (by first | exact Nat.ne_of_lt (Nat.lt_of_lt_of_le (by have := World.block_lt_of_cell? _ _ hw260_0; first | rwa [add_block] at this | exact this) GW262.out) | (rw [add_block]; exact Nat.ne_of_lt (Nat.lt_of_lt_of_le (by have := World.block_lt_of_cell? _ _ hw260_0; first | rwa [add_block] at this | exact this) GW262.out)) | (show (Addr.add _ _).block ≠ _; rw [add_block]; exact Nat.ne_of_lt (Nat.lt_of_lt_of_le (by have := World.block_lt_of_cell? _ _ hw260_0; first | rwa [add_block] at this | exact this) GW262.out)) | (dsimp only; exact Nat.ne_of_lt (Nat.lt_of_lt_of_le (by have := World.block_lt_of_cell? _ _ hw260_0; first | rwa [add_block] at this | exact this) GW262.out))) ((Fz.far (by first | exact Nat.ne_of_lt (Nat.lt_of_lt_of_le (by have := World.block_lt_of_cell? _ _ hw260_0; first | rwa [add_block] at this | exact this) GW262.out) | (rw [add_block]; exact Nat.ne_of_lt (Nat.lt_of_lt_of_le (by have := World.block_lt_of_cell? _ _ hw260_0; first | rwa [add_block] at this | exact this) GW262.out)) | (show (Addr.add _ _).block ≠ _; rw [add_block]; exact Nat.ne_of_lt (Nat.lt_of_lt_of_le (by have := World.block_lt_of_cell? _ _ hw260_0; first | rwa [add_block] at this | exact this) GW262.out)) | (dsimp only; exact Nat.ne_of_lt (Nat.lt_of_lt_of_le (by have := World.block_lt_of_cell? _ _ hw260_0; first | rwa [add_block] at this | exact this) GW262.out))) (hHeld.2.2.2.1)))))))))))), (Kd.C_string (P := Try.prog) (A := A27) (c := (c0 - 14)) Try.underlying24 Try.underlying5 Try.underlying9 (Kd.C_below HR261.out (by repeat (first | (with_reducible first | exact HB.out | apply below_alloc | apply pw_below_drewN | apply below_drew1 | refine below_set ?_ GE253.out | refine below_set ?_ GE262.out) | exact HB.out))))⟩ (fun hHeld => ?_)
                    clear hK K
                    refine done_ (done_of HT_.out (by kernel_rfl)) ?_
                    try go_wp2
                    go_loopg [5] k (fun kq v5 w' => ∃ (x5_1 : Int) (x263004_1 : Int), v5 = .int .i64 x5_1 ∧ Aside0 (stowageref18_Decode.l0 kq l0 x5_1 (wrap64 (rd l0 2)) (wrap64 (rd l0 3)) (wrap64 (rd l0 4)) (wrap64 (rd l0 5)) x263004_1 (strOfNums ((l0.take 30).drop 14)) = some (r1, r2, r3, r4, r5, r6, r7)) ∧ Aside0 (kq ≤ k) ∧ Aside0 (w'.heap[gb253]? = some (.cells #[.int .i64 0, .int .i64 0, .int .i64 0, .int .i64 0, .int .i64 0, .string (⟨#[]⟩ : ByteArray)] 23 (0, 0))) ∧ Aside0 (w'.heap[gb262]? = some (.cells #[.int .i64 (wrap64 (rd l0 2)), .int .i64 (wrap64 (rd l0 3)), .int .i64 (wrap64 (rd l0 4)), .int .i64 (wrap64 (rd l0 5)), .int .i64 x263004_1, .string (strOfNums ((l0.take 30).drop 14))] 23 (0, 0))) ∧ Aside0 (Below w.heap.size w w'))
                    case atStart => exact ⟨(6), (0), (by first | rfl | (simp; done) | (simp [*]; done)), H', ⟨Nat.le_refl _⟩, ⟨by (with_reducible repeat (first | refine blk_drewN ?_ _ | refine blk_drew ?_ | refine blk_alloc ?_ _)); refine blk_far ?_ NB253_262.out _; (with_reducible repeat (first | refine blk_drewN ?_ _ | refine blk_drew ?_ | refine blk_alloc ?_ _)); refine blk_far ?_ NB253_262.out _; (with_reducible repeat (first | refine blk_drewN ?_ _ | refine blk_drew ?_ | refine blk_alloc ?_ _)); refine blk_far ?_ NB253_262.out _; (with_reducible repeat (first | refine blk_drewN ?_ _ | refine blk_drew ?_ | refine blk_alloc ?_ _)); refine blk_far ?_ NB253_262.out _; (with_reducible repeat (first | refine blk_drewN ?_ _ | refine blk_drew ?_ | refine blk_alloc ?_ _)); refine blk_far ?_ NB253_262.out _; (with_reducible repeat (first | refine blk_drewN ?_ _ | refine blk_drew ?_ | refine blk_alloc ?_ _)); refine blk_far ?_ NB253_262.out _; (with_reducible repeat (first | refine blk_drewN ?_ _ | refine blk_drew ?_ | refine blk_alloc ?_ _)); exact BK253.out⟩, ⟨by (with_reducible repeat (first | refine blk_drewN ?_ _ | refine blk_drew ?_ | refine blk_alloc ?_ _)); refine blk_put (cs := #[.int .i64 (wrap64 (rd l0 2)), .int .i64 (wrap64 (rd l0 3)), .int .i64 (wrap64 (rd l0 4)), .int .i64 (wrap64 (rd l0 5)), .int .i64 0, .string (⟨#[]⟩ : ByteArray)]) ?_ 5 _ rfl; (with_reducible repeat (first | refine blk_drewN ?_ _ | refine blk_drew ?_ | refine blk_alloc ?_ _)); refine blk_put (cs := #[.int .i64 (wrap64 (rd l0 2)), .int .i64 (wrap64 (rd l0 3)), .int .i64 (wrap64 (rd l0 4)), .int .i64 (wrap64 (rd l0 5)), .int .i64 0, .string (⟨#[]⟩ : ByteArray)]) ?_ 4 _ rfl; (with_reducible repeat (first | refine blk_drewN ?_ _ | refine blk_drew ?_ | refine blk_alloc ?_ _)); refine blk_put (cs := #[.int .i64 (wrap64 (rd l0 2)), .int .i64 (wrap64 (rd l0 3)), .int .i64 (wrap64 (rd l0 4)), .int .i64 0, .int .i64 0, .string (⟨#[]⟩ : ByteArray)]) ?_ 3 _ rfl; (with_reducible repeat (first | refine blk_drewN ?_ _ | refine blk_drew ?_ | refine blk_alloc ?_ _)); refine blk_put (cs := #[.int .i64 (wrap64 (rd l0 2)), .int .i64 (wrap64 (rd l0 3)), .int .i64 0, .int .i64 0, .int .i64 0, .string (⟨#[]⟩ : ByteArray)]) ?_ 2 _ rfl; (with_reducible repeat (first | refine blk_drewN ?_ _ | refine blk_drew ?_ | refine blk_alloc ?_ _)); refine blk_put (cs := #[.int .i64 (wrap64 (rd l0 2)), .int .i64 0, .int .i64 0, .int .i64 0, .int .i64 0, .string (⟨#[]⟩ : ByteArray)]) ?_ 1 _ rfl; (with_reducible repeat (first | refine blk_drewN ?_ _ | refine blk_drew ?_ | refine blk_alloc ?_ _)); refine blk_put (cs := #[.int .i64 0, .int .i64 0, .int .i64 0, .int .i64 0, .int .i64 0, .string (⟨#[]⟩ : ByteArray)]) ?_ 0 _ rfl; (with_reducible repeat (first | refine blk_drewN ?_ _ | refine blk_drew ?_ | refine blk_alloc ?_ _)); exact BK262.out⟩, ⟨by repeat (first | (with_reducible first | exact HB.out | apply below_alloc | apply pw_below_drewN | apply below_drew1 | refine below_set ?_ GE253.out | refine below_set ?_ GE262.out) | exact HB.out)⟩⟩
                    case round =>
                      clear H'
                      try clear c1
                      try clear c2
                      try clear c2b0
                      try clear c2b1
                      try clear p2
                      try clear q2
                      try clear hx2
                      try clear hcv2
                      try clear qi2
                      try clear c3
                      try clear c3b0
                      try clear c3b1
                      try clear p6
                      try clear hcv6
                      try clear hcv9
                      try clear c12
                      try clear c12b0
                      try clear c12b1
                      try clear c13
                      try clear c13b0
                      try clear c13b1
                      try clear c14
                      try clear c14b0
                      try clear c14b1
                      try clear c15
                      try clear c15b0
                      try clear c15b1
                      try clear c16
                      try clear c16b0
                      try clear c16b1
                      try clear c17
                      try clear c17b0
                      try clear c17b1
                      try clear c18
                      try clear c18b0
                      try clear c18b1
                      try clear hcv21
                      try clear hcv24
                      try clear p25
                      try clear q25
                      try clear hx25
                      try clear qi25
                      try clear p26
                      try clear q26
                      try clear hx26
                      try clear qi26
                      try clear hcv28
                      try clear hcz11_0
                      try clear hcz11_1
                      try clear hcz11_2
                      try clear hcz11_3
                      try clear hcz11_4
                      try clear hcz11_5
                      try clear hfz11_0
                      try clear hfz11_1
                      try clear hfz11_2
                      try clear hfz11_3
                      try clear hfz11_4
                      try clear hfz11_5
                      try clear hx257_0
                      try clear hx258_0
                      try clear hx259_0
                      try clear hx260_0
                      try clear p257
                      try clear p258
                      try clear p259
                      try clear p260
                      try clear q257
                      try clear q258
                      try clear q259
                      try clear q260
                      obtain ⟨x5_1, x263004_1, rfl, HA, HK1, BK253, BK262, HB⟩ := hrel
                      cases gk with
                      | zero => exact absurd HA.out (by simp [stowageref18_Decode.l0])
                      | succ k1 =>
                        have H := HA.out
                        clear HA
                        simp only [stowageref18_Decode.l0] at H
                        by_cases c37 : x5_1 < 14
                        · rw [if_pos c37] at H
                          have c37b0 : decide (x5_1 < 14) = true := decide_eq_true c37
                          clear c37
                          by_cases c38 : 0 ≤ x5_1
                          · rw [if_pos c38] at H
                            have c38b0 : decide (0 ≤ x5_1) = true := decide_eq_true c38
                            clear c38
                            by_cases c39 : x5_1 < (l0.length : Int)
                            · rw [if_pos c39] at H
                              have c39b0 : decide (x5_1 < (l0.length : Int)) = true := decide_eq_true c39
                              clear c39
                              have H' := Aside0.mk H
                              clear H
                              try go_wp2
                              have n0_ := Aside0.mk (blk_drew BK253.out)
                              have n1_ := Aside0.mk (blk_drew BK262.out)
                              have n2_ := Aside0.mk (below_drew1 HB.out)
                              clear BK253
                              clear BK262
                              clear HB
                              have BK253 := n0_
                              have BK262 := n1_
                              have HB := n2_
                              clear n0_ n1_ n2_
                              have p263 : 0 ≤ (x5_1 : Int) := of_decide_eq_true (by first | (with_reducible assumption) | assumption)
                              have q263 : x5_1 < (l0.length : Int) := of_decide_eq_true (by first | (with_reducible assumption) | assumption)
                              obtain ⟨ad263, e263, hx263_0⟩ := Kd.at_int HR0.out x5_1 p263 q263
                              have hw263_0 := hx263_0
                              obtain rfl : ad257 = ad263 := (by injection e263)
                              replace hx263_0 := (HB.out.cell (World.block_lt_of_cell? w _ hx263_0)).trans hx263_0
                              replace p263 := eq_true p263
                              replace q263 := eq_true q263
                              refine start_ (n := 11) (S := fun w' => w'.cell? ⟨gb262, 0, none⟩ = some (.int .i64 (wrap64 (rd l0 2))) ∧ w'.cell? ⟨gb262, 1, none⟩ = some (.int .i64 (wrap64 (rd l0 3))) ∧ w'.cell? ⟨gb262, 2, none⟩ = some (.int .i64 (wrap64 (rd l0 4))) ∧ w'.cell? ⟨gb262, 3, none⟩ = some (.int .i64 (wrap64 (rd l0 5))) ∧ w'.cell? ⟨gb262, 4, none⟩ = some (.int .i64 x263004_1) ∧ w'.cell? ⟨gb262, 5, none⟩ = some (.string (strOfNums ((l0.take 30).drop 14))) ∧ w'.cell? (ad257.add (x5_1).toNat) = some (.int .u8 (rd l0 x5_1))) (ds := [10]) #[false, false, false, false, false, false, false, false, false, false, false] (by kernel_rfl) rfl rfl ⟨(blk_cell BK262.out 0).trans rfl, (blk_cell BK262.out 1).trans rfl, (blk_cell BK262.out 2).trans rfl, (blk_cell BK262.out 3).trans rfl, (blk_cell BK262.out 4).trans rfl, (blk_cell BK262.out 5).trans rfl, ((HB.out.cell (World.block_lt_of_cell? w _ hw263_0)).trans hw263_0)⟩ (fun hHeld => ?_); refine with_tabW stowageref18_Decode.tab9 stowageref18_Decode.bits9 (fun HT_ HW_ => ?_)
                              generalize wr.drew = w40 at BK253 BK262 HB hx263_0 hHeld ⊢
                              refine pure_ (i := 0) (N := some 42) (v := ?_) (a' := ?_) #[true, false, false, false, false, false, false, false, false, false, false] rfl rfl (any_of HT_.out (by kernel_rfl)) (fun _ _ _ h => h) (Or.inl ⟨by rfl, ?_⟩) ?_ ?_
                              rotate_left
                              · intro w'
                                go_simp
                                with_reducible rfl
                              rotate_left
                              · simp only [Act.put, List.setIfInBounds_toArray, List.set_cons_zero, List.set_cons_succ, i64_w, i32_w]
                                rfl
                              refine pure_ (i := 3) (N := some 45) (v := ?_) (a' := ?_) #[true, false, false, true, false, false, false, false, false, false, false] rfl rfl (any_of HT_.out (by kernel_rfl)) (fun _ _ _ h => h) (Or.inl ⟨by rfl, ?_⟩) ?_ ?_
                              rotate_left
                              · intro w'
                                go_simp
                                with_reducible rfl
                              rotate_left
                              · simp only [Act.put, List.setIfInBounds_toArray, List.set_cons_zero, List.set_cons_succ, i64_w, i32_w]
                                rfl
                              refine pure_ (i := 4) (N := some 46) (v := ?_) (a' := ?_) #[true, false, false, true, true, false, false, false, false, false, false] rfl rfl (any_of HT_.out (by kernel_rfl)) (fun _ _ _ h => h) (Or.inl ⟨by rfl, ?_⟩) ?_ ?_
                              rotate_left
                              · intro w'
                                go_simp
                                with_reducible rfl
                              rotate_left
                              · simp only [Act.put, List.setIfInBounds_toArray, List.set_cons_zero, List.set_cons_succ, i64_w, i32_w]
                                rfl
                              refine pure_ (i := 5) (N := some 47) (v := ?_) (a' := ?_) #[true, false, false, true, true, true, false, false, false, false, false] rfl rfl (any_of HT_.out (by kernel_rfl)) (fun _ _ _ h => h) (Or.inl ⟨by rfl, ?_⟩) ?_ ?_
                              rotate_left
                              · intro w'
                                go_simp
                                with_reducible rfl
                              rotate_left
                              · simp only [Act.put, List.setIfInBounds_toArray, List.set_cons_zero, List.set_cons_succ, i64_w, i32_w]
                                rfl
                              refine take_ (i := 1) (N := some 43) (v := ?_) (a' := ?_) #[true, true, false, true, true, true, false, false, false, false, false] rfl rfl (take_ofW HT_.out HW_.out (by kernel_rfl)) (fun _ _ _ h => h) (Or.inl ⟨by rfl, ?_⟩) hHeld ?_ ?_
                              rotate_left
                              · rintro w' ⟨s0, s1, s2, s3, s4, s5, s6⟩
                                go_simp
                                with_reducible rfl
                              rotate_left
                              · simp only [Act.put, List.setIfInBounds_toArray, List.set_cons_zero, List.set_cons_succ, i64_w, i32_w]
                                rfl
                              refine pure_ (i := 2) (N := some 44) (v := ?_) (a' := ?_) #[true, true, true, true, true, true, false, false, false, false, false] rfl rfl (any_of HT_.out (by kernel_rfl)) (fun _ _ _ h => h) (Or.inl ⟨by rfl, ?_⟩) ?_ ?_
                              rotate_left
                              · intro w'
                                go_simp
                                with_reducible rfl
                              rotate_left
                              · simp only [Act.put, List.setIfInBounds_toArray, List.set_cons_zero, List.set_cons_succ, i64_w, i32_w]
                                rfl
                              refine take_ (i := 6) (N := some 48) (v := ?_) (a' := ?_) #[true, true, true, true, true, true, true, false, false, false, false] rfl rfl (take_ofW HT_.out HW_.out (by kernel_rfl)) (fun _ _ _ h => h) (Or.inl ⟨by rfl, ?_⟩) hHeld ?_ ?_
                              rotate_left
                              · rintro w' ⟨s0, s1, s2, s3, s4, s5, s6⟩
                                go_simp
                                with_reducible rfl
                              rotate_left
                              · simp only [Act.put, List.setIfInBounds_toArray, List.set_cons_zero, List.set_cons_succ, i64_w, i32_w]
                                rfl
                              refine pure_ (i := 7) (N := some 49) (v := ?_) (a' := ?_) #[true, true, true, true, true, true, true, true, false, false, false] rfl rfl (any_of HT_.out (by kernel_rfl)) (fun _ _ _ h => h) (Or.inl ⟨by rfl, ?_⟩) ?_ ?_
                              rotate_left
                              · intro w'
                                go_simp
                                with_reducible rfl
                              rotate_left
                              · simp only [Act.put, List.setIfInBounds_toArray, List.set_cons_zero, List.set_cons_succ, i64_w, i32_w]
                                rfl
                              refine pure_ (i := 8) (N := some 50) (v := ?_) (a' := ?_) #[true, true, true, true, true, true, true, true, true, false, false] rfl rfl (any_of HT_.out (by kernel_rfl)) (fun _ _ _ h => h) (Or.inl ⟨by rfl, ?_⟩) ?_ ?_
                              rotate_left
                              · intro w'
                                go_simp
                                with_reducible rfl
                              rotate_left
                              · simp only [Act.put, List.setIfInBounds_toArray, List.set_cons_zero, List.set_cons_succ, i64_w, i32_w]
                                rfl
                              refine pure_ (i := 9) (N := some 51) (v := ?_) (a' := ?_) #[true, true, true, true, true, true, true, true, true, true, false] rfl rfl (any_of HT_.out (by kernel_rfl)) (fun _ _ _ h => h) (Or.inl ⟨by rfl, ?_⟩) ?_ ?_
                              rotate_left
                              · intro w'
                                go_simp
                                with_reducible rfl
                              rotate_left
                              · simp only [Act.put, List.setIfInBounds_toArray, List.set_cons_zero, List.set_cons_succ, i64_w, i32_w]
                                rfl
                              refine last_ (i := 10) (N := none) #[true, true, true, true, true, true, true, true, true, true, true] rfl rfl (one_of HT_.out (by kernel_rfl)) (by decide) (fun K hK => ?_)
                              have hs41 : w40.cell? ⟨gb262, 4, none⟩ = some (.int .i64 x263004_1) := (blk_cell BK262.out 4).trans rfl
                              have hfs41 := blk_frozen BK262.out 4
                              have hns41_0 := NB253_262.out
                              have hms41_0 := NB262_253.out
                              refine skip_ (w1 := ?_) (by rfl) rfl ?_ ?_
                              rotate_left
                              · go_simp
                                rfl
                              refine hK.out _ _ ?_
                              clear hK K
                              refine done_ (done_of HT_.out (by kernel_rfl)) ?_
                              try go_wp2
                              go_roundg k1
                              case measure => have := HK1.out; omega
                              case rel => exact ⟨(wrap64 (x5_1 + 1)), (Go.bits .or .i64 (wrap64 (x263004_1 * 256)) (wrap64 (rd l0 x5_1))), (by first | rfl | (simp; done) | (simp [*]; done)), H', ⟨by have := HK1.out; omega⟩, ⟨by (with_reducible repeat (first | refine blk_drewN ?_ _ | refine blk_drew ?_ | refine blk_alloc ?_ _)); refine blk_far ?_ NB253_262.out _; (with_reducible repeat (first | refine blk_drewN ?_ _ | refine blk_drew ?_ | refine blk_alloc ?_ _)); exact BK253.out⟩, ⟨by (with_reducible repeat (first | refine blk_drewN ?_ _ | refine blk_drew ?_ | refine blk_alloc ?_ _)); refine blk_put (cs := #[.int .i64 (wrap64 (rd l0 2)), .int .i64 (wrap64 (rd l0 3)), .int .i64 (wrap64 (rd l0 4)), .int .i64 (wrap64 (rd l0 5)), .int .i64 x263004_1, .string (strOfNums ((l0.take 30).drop 14))]) ?_ 4 _ rfl; (with_reducible repeat (first | refine blk_drewN ?_ _ | refine blk_drew ?_ | refine blk_alloc ?_ _)); exact BK262.out⟩, ⟨by repeat (first | (with_reducible first | exact HB.out | apply below_alloc | apply pw_below_drewN | apply below_drew1 | refine below_set ?_ GE253.out | refine below_set ?_ GE262.out) | exact HB.out)⟩⟩
                            · rw [if_neg c39] at H
                              exact absurd H (by simp)
                          · rw [if_neg c38] at H
                            exact absurd H (by simp)
                        · rw [if_neg c37] at H
                          have c37b0 : decide (x5_1 < 14) = false := decide_eq_false c37
                          clear c37
                          replace H := Option.bind_eq_some_iff.mp H
                          obtain ⟨⟨t264, t267⟩, A420, H⟩ := H
                          replace H : (if t267 = 0 then (if (strOfNums t264).toList = (strOfNums l0).toList then (some ((wrap64 (rd l0 2)), (wrap64 (rd l0 3)), (wrap64 (rd l0 4)), (wrap64 (rd l0 5)), x263004_1, (strOfNums ((l0.take 30).drop 14)), 0)) else (some (0, 0, 0, 0, 0, (⟨#[]⟩ : ByteArray), 2))) else (some (0, 0, 0, 0, 0, (⟨#[]⟩ : ByteArray), 2))) = some (r1, r2, r3, r4, r5, r6, r7) := H
                          have A42 := Aside0.mk A420
                          clear A420
                          by_cases c43 : t267 = 0
                          · rw [if_pos c43] at H
                            have c43b0 : (t267 == 0) = true := beq_iff_eq.mpr c43
                            have c43b1 : (t267 != 0) = false := bne_eq_false_iff_eq.mpr c43
                            clear c43
                            by_cases c44 : (strOfNums t264).toList = (strOfNums l0).toList
                            · rw [if_pos c44] at H
                              have c44b0 : ((strOfNums t264).toList == (strOfNums l0).toList) = true := beq_iff_eq.mpr c44
                              have c44b1 : ((strOfNums t264).toList != (strOfNums l0).toList) = false := bne_eq_false_iff_eq.mpr c44
                              clear c44
                              simp only [Option.some.injEq, Prod.mk.injEq] at H
                              obtain ⟨rfl, rfl, rfl, rfl, rfl, rfl, rfl⟩ := H
                              have hnb45 := NB262_253.out
                              have hnc45 := NB253_262.out
                              have hcz46_0 : wr.cell? ⟨gb262, 0, none⟩ = some (.int .i64 (wrap64 (rd l0 2))) := (blk_cell BK262.out 0).trans rfl
                              have hcz46_1 : wr.cell? ⟨gb262, 1, none⟩ = some (.int .i64 (wrap64 (rd l0 3))) := (blk_cell BK262.out 1).trans rfl
                              have hcz46_2 : wr.cell? ⟨gb262, 2, none⟩ = some (.int .i64 (wrap64 (rd l0 4))) := (blk_cell BK262.out 2).trans rfl
                              have hcz46_3 : wr.cell? ⟨gb262, 3, none⟩ = some (.int .i64 (wrap64 (rd l0 5))) := (blk_cell BK262.out 3).trans rfl
                              have hcz46_4 : wr.cell? ⟨gb262, 4, none⟩ = some (.int .i64 x263004_1) := (blk_cell BK262.out 4).trans rfl
                              have hcz46_5 : wr.cell? ⟨gb262, 5, none⟩ = some (.string (strOfNums ((l0.take 30).drop 14))) := (blk_cell BK262.out 5).trans rfl
                              have hfz46_0 := blk_frozen BK262.out 0
                              have hfz46_1 := blk_frozen BK262.out 1
                              have hfz46_2 := blk_frozen BK262.out 2
                              have hfz46_3 := blk_frozen BK262.out 3
                              have hfz46_4 := blk_frozen BK262.out 4
                              have hfz46_5 := blk_frozen BK262.out 5
                              go_wp2_with (first | ((with_reducible refine gate_callee (f := 11) rfl ?_); refine goesL_ (some 54) rfl rfl Try.func11 (by kernel_rfl) rfl #[.agg #[.int .i64 (wrap64 (rd l0 2)), .int .i64 (wrap64 (rd l0 3)), .int .i64 (wrap64 (rd l0 4)), .int .i64 (wrap64 (rd l0 5)), .int .i64 x263004_1, .string (strOfNums ((l0.take 30).drop 14))]] rfl (by (try simp only [List.map_toArray, List.map_cons, List.map_nil]); first | done | rfl | (simp only [List.length_drop, List.length_take]; rfl)) ?_; (with_reducible refine (stowageref18_Encode.calls k1 (wrap64 (rd l0 2)) (wrap64 (rd l0 3)) (wrap64 (rd l0 4)) (wrap64 (rd l0 5)) x263004_1 (strOfNums ((l0.take 30).drop 14)) t264 t267 _ A42.out).mono ?_); rintro e w47 ⟨v265, rfl, ho0, hb⟩; refine ⟨_, rfl, ?_⟩; have n0_ := Aside0.mk (Kd.R_lower ho0 (below_size (by repeat (first | (with_reducible first | exact HB.out | apply below_alloc | apply pw_below_drewN | apply below_drew1 | refine below_set ?_ GE253.out | refine below_set ?_ GE262.out) | exact HB.out)))); have n1_ := Aside0.mk (blk_below (g := gb253) (o := .cells #[.int .i64 0, .int .i64 0, .int .i64 0, .int .i64 0, .int .i64 0, .string (⟨#[]⟩ : ByteArray)] 23 (0, 0)) (by (with_reducible repeat (first | refine blk_drewN ?_ _ | refine blk_drew ?_ | refine blk_alloc ?_ _)); exact BK253.out) hb); have n2_ := Aside0.mk (blk_below (g := gb262) (o := .cells #[.int .i64 (wrap64 (rd l0 2)), .int .i64 (wrap64 (rd l0 3)), .int .i64 (wrap64 (rd l0 4)), .int .i64 (wrap64 (rd l0 5)), .int .i64 x263004_1, .string (strOfNums ((l0.take 30).drop 14))] 23 (0, 0)) (by (with_reducible repeat (first | refine blk_drewN ?_ _ | refine blk_drew ?_ | refine blk_alloc ?_ _)); exact BK262.out) hb); have n3_ := Aside0.mk (below_step (by repeat (first | (with_reducible first | exact HB.out | apply below_alloc | apply pw_below_drewN | apply below_drew1 | refine below_set ?_ GE253.out | refine below_set ?_ GE262.out) | exact HB.out)) hb); clear BK253; clear BK262; clear HB; have HO266 := n0_; have BK253 := n1_; have BK262 := n2_; have HB := n3_; clear n0_ n1_ n2_ n3_; (try clear hb); (try clear hb2); (try clear hk); (try clear hi); (try clear ho0); have hcv48 := fun nq_ : Nat => own_string (P := Try.prog) Try.underlying24 Try.underlying5 Try.underlying9 (Kd.own_of_R (Kd.R_drewN HO266.out nq_)); have hcw49 := own_string (P := Try.prog) Try.underlying24 Try.underlying5 Try.underlying9 (Kd.own_of_R HO266.out); have hcv50 := Kd.C_string (P := Try.prog) (A := (some ad257)) (c := c0) Try.underlying24 Try.underlying5 Try.underlying9 (Kd.C_below HR0.out HB.out); have hcx50 := hcv50; (try simp only [Int.reduceToNat, List.length_drop, List.length_take] at hcx50); have hcz51_0 : w47.cell? ⟨gb262, 0, none⟩ = some (.int .i64 (wrap64 (rd l0 2))) := (blk_cell BK262.out 0).trans rfl; have hcz51_1 : w47.cell? ⟨gb262, 1, none⟩ = some (.int .i64 (wrap64 (rd l0 3))) := (blk_cell BK262.out 1).trans rfl; have hcz51_2 : w47.cell? ⟨gb262, 2, none⟩ = some (.int .i64 (wrap64 (rd l0 4))) := (blk_cell BK262.out 2).trans rfl; have hcz51_3 : w47.cell? ⟨gb262, 3, none⟩ = some (.int .i64 (wrap64 (rd l0 5))) := (blk_cell BK262.out 3).trans rfl; have hcz51_4 : w47.cell? ⟨gb262, 4, none⟩ = some (.int .i64 x263004_1) := (blk_cell BK262.out 4).trans rfl; have hcz51_5 : w47.cell? ⟨gb262, 5, none⟩ = some (.string (strOfNums ((l0.take 30).drop 14))) := (blk_cell BK262.out 5).trans rfl; have hfz51_0 := blk_frozen BK262.out 0; have hfz51_1 := blk_frozen BK262.out 1; have hfz51_2 := blk_frozen BK262.out 2; have hfz51_3 := blk_frozen BK262.out 3; have hfz51_4 := blk_frozen BK262.out 4; have hfz51_5 := blk_frozen BK262.out 5; have hcz52_0 : w47.cell? ⟨gb253, 0, none⟩ = some (.int .i64 0) := (blk_cell BK253.out 0).trans rfl; have hcz52_1 : w47.cell? ⟨gb253, 1, none⟩ = some (.int .i64 0) := (blk_cell BK253.out 1).trans rfl; have hcz52_2 : w47.cell? ⟨gb253, 2, none⟩ = some (.int .i64 0) := (blk_cell BK253.out 2).trans rfl; have hcz52_3 : w47.cell? ⟨gb253, 3, none⟩ = some (.int .i64 0) := (blk_cell BK253.out 3).trans rfl; have hcz52_4 : w47.cell? ⟨gb253, 4, none⟩ = some (.int .i64 0) := (blk_cell BK253.out 4).trans rfl; have hcz52_5 : w47.cell? ⟨gb253, 5, none⟩ = some (.string (⟨#[]⟩ : ByteArray)) := (blk_cell BK253.out 5).trans rfl; have hfz52_0 := blk_frozen BK253.out 0; have hfz52_1 := blk_frozen BK253.out 1; have hfz52_2 := blk_frozen BK253.out 2; have hfz52_3 := blk_frozen BK253.out 3; have hfz52_4 := blk_frozen BK253.out 4; have hfz52_5 := blk_frozen BK253.out 5))
                              refine bodyPost_ret (results_ct rfl _ _ gb253 23 #[.int .i64 (wrap64 (rd l0 2)), .int .i64 (wrap64 (rd l0 3)), .int .i64 (wrap64 (rd l0 4)), .int .i64 (wrap64 (rd l0 5)), .int .i64 x263004_1, .string (strOfNums ((l0.take 30).drop 14))] (0, 0) _ rfl (by (with_reducible repeat (first | refine blk_drewN ?_ _ | refine blk_drew ?_ | refine blk_alloc ?_ _)); refine blk_put (cs := #[.int .i64 (wrap64 (rd l0 2)), .int .i64 (wrap64 (rd l0 3)), .int .i64 (wrap64 (rd l0 4)), .int .i64 (wrap64 (rd l0 5)), .int .i64 x263004_1, .string (⟨#[]⟩ : ByteArray)]) ?_ 5 _ rfl; (with_reducible repeat (first | refine blk_drewN ?_ _ | refine blk_drew ?_ | refine blk_alloc ?_ _)); refine blk_put (cs := #[.int .i64 (wrap64 (rd l0 2)), .int .i64 (wrap64 (rd l0 3)), .int .i64 (wrap64 (rd l0 4)), .int .i64 (wrap64 (rd l0 5)), .int .i64 0, .string (⟨#[]⟩ : ByteArray)]) ?_ 4 _ rfl; (with_reducible repeat (first | refine blk_drewN ?_ _ | refine blk_drew ?_ | refine blk_alloc ?_ _)); refine blk_put (cs := #[.int .i64 (wrap64 (rd l0 2)), .int .i64 (wrap64 (rd l0 3)), .int .i64 (wrap64 (rd l0 4)), .int .i64 0, .int .i64 0, .string (⟨#[]⟩ : ByteArray)]) ?_ 3 _ rfl; (with_reducible repeat (first | refine blk_drewN ?_ _ | refine blk_drew ?_ | refine blk_alloc ?_ _)); refine blk_put (cs := #[.int .i64 (wrap64 (rd l0 2)), .int .i64 (wrap64 (rd l0 3)), .int .i64 0, .int .i64 0, .int .i64 0, .string (⟨#[]⟩ : ByteArray)]) ?_ 2 _ rfl; (with_reducible repeat (first | refine blk_drewN ?_ _ | refine blk_drew ?_ | refine blk_alloc ?_ _)); refine blk_put (cs := #[.int .i64 (wrap64 (rd l0 2)), .int .i64 0, .int .i64 0, .int .i64 0, .int .i64 0, .string (⟨#[]⟩ : ByteArray)]) ?_ 1 _ rfl; (with_reducible repeat (first | refine blk_drewN ?_ _ | refine blk_drew ?_ | refine blk_alloc ?_ _)); refine blk_put (cs := #[.int .i64 0, .int .i64 0, .int .i64 0, .int .i64 0, .int .i64 0, .string (⟨#[]⟩ : ByteArray)]) ?_ 0 _ rfl; (with_reducible repeat (first | refine blk_drewN ?_ _ | refine blk_drew ?_ | refine blk_alloc ?_ _)); exact BK253.out) Try.underlying23 rfl (by kernel_rfl)) rfl ?_
                              exact ⟨by first | rfl | (simp [errW_none, errW_some] <;> rfl) | (simp [*, errW_none, errW_some] <;> rfl), by repeat (first | (with_reducible first | exact HB.out | apply below_alloc | apply pw_below_drewN | apply below_drew1 | refine below_set ?_ GE253.out | refine below_set ?_ GE262.out) | exact HB.out)⟩
                            · rw [if_neg c44] at H
                              have c44b0 : ((strOfNums t264).toList == (strOfNums l0).toList) = false := beq_eq_false_iff_ne.mpr c44
                              have c44b1 : ((strOfNums t264).toList != (strOfNums l0).toList) = true := bne_iff_ne.mpr c44
                              simp only [Option.some.injEq, Prod.mk.injEq] at H
                              obtain ⟨rfl, rfl, rfl, rfl, rfl, rfl, rfl⟩ := H
                              have hnb53 := NB262_253.out
                              have hnc53 := NB253_262.out
                              have hcz54_0 : wr.cell? ⟨gb262, 0, none⟩ = some (.int .i64 (wrap64 (rd l0 2))) := (blk_cell BK262.out 0).trans rfl
                              have hcz54_1 : wr.cell? ⟨gb262, 1, none⟩ = some (.int .i64 (wrap64 (rd l0 3))) := (blk_cell BK262.out 1).trans rfl
                              have hcz54_2 : wr.cell? ⟨gb262, 2, none⟩ = some (.int .i64 (wrap64 (rd l0 4))) := (blk_cell BK262.out 2).trans rfl
                              have hcz54_3 : wr.cell? ⟨gb262, 3, none⟩ = some (.int .i64 (wrap64 (rd l0 5))) := (blk_cell BK262.out 3).trans rfl
                              have hcz54_4 : wr.cell? ⟨gb262, 4, none⟩ = some (.int .i64 x263004_1) := (blk_cell BK262.out 4).trans rfl
                              have hcz54_5 : wr.cell? ⟨gb262, 5, none⟩ = some (.string (strOfNums ((l0.take 30).drop 14))) := (blk_cell BK262.out 5).trans rfl
                              have hfz54_0 := blk_frozen BK262.out 0
                              have hfz54_1 := blk_frozen BK262.out 1
                              have hfz54_2 := blk_frozen BK262.out 2
                              have hfz54_3 := blk_frozen BK262.out 3
                              have hfz54_4 := blk_frozen BK262.out 4
                              have hfz54_5 := blk_frozen BK262.out 5
                              go_wp2_with (first | ((with_reducible refine gate_callee (f := 11) rfl ?_); refine goesL_ (some 54) rfl rfl Try.func11 (by kernel_rfl) rfl #[.agg #[.int .i64 (wrap64 (rd l0 2)), .int .i64 (wrap64 (rd l0 3)), .int .i64 (wrap64 (rd l0 4)), .int .i64 (wrap64 (rd l0 5)), .int .i64 x263004_1, .string (strOfNums ((l0.take 30).drop 14))]] rfl (by (try simp only [List.map_toArray, List.map_cons, List.map_nil]); first | done | rfl | (simp only [List.length_drop, List.length_take]; rfl)) ?_; (with_reducible refine (stowageref18_Encode.calls k1 (wrap64 (rd l0 2)) (wrap64 (rd l0 3)) (wrap64 (rd l0 4)) (wrap64 (rd l0 5)) x263004_1 (strOfNums ((l0.take 30).drop 14)) t264 t267 _ A42.out).mono ?_); rintro e w55 ⟨v265, rfl, ho0, hb⟩; refine ⟨_, rfl, ?_⟩; have n0_ := Aside0.mk (Kd.R_lower ho0 (below_size (by repeat (first | (with_reducible first | exact HB.out | apply below_alloc | apply pw_below_drewN | apply below_drew1 | refine below_set ?_ GE253.out | refine below_set ?_ GE262.out) | exact HB.out)))); have n1_ := Aside0.mk (blk_below (g := gb253) (o := .cells #[.int .i64 0, .int .i64 0, .int .i64 0, .int .i64 0, .int .i64 0, .string (⟨#[]⟩ : ByteArray)] 23 (0, 0)) (by (with_reducible repeat (first | refine blk_drewN ?_ _ | refine blk_drew ?_ | refine blk_alloc ?_ _)); exact BK253.out) hb); have n2_ := Aside0.mk (blk_below (g := gb262) (o := .cells #[.int .i64 (wrap64 (rd l0 2)), .int .i64 (wrap64 (rd l0 3)), .int .i64 (wrap64 (rd l0 4)), .int .i64 (wrap64 (rd l0 5)), .int .i64 x263004_1, .string (strOfNums ((l0.take 30).drop 14))] 23 (0, 0)) (by (with_reducible repeat (first | refine blk_drewN ?_ _ | refine blk_drew ?_ | refine blk_alloc ?_ _)); exact BK262.out) hb); have n3_ := Aside0.mk (below_step (by repeat (first | (with_reducible first | exact HB.out | apply below_alloc | apply pw_below_drewN | apply below_drew1 | refine below_set ?_ GE253.out | refine below_set ?_ GE262.out) | exact HB.out)) hb); clear BK253; clear BK262; clear HB; have HO266 := n0_; have BK253 := n1_; have BK262 := n2_; have HB := n3_; clear n0_ n1_ n2_ n3_; (try clear hb); (try clear hb2); (try clear hk); (try clear hi); (try clear ho0); have hcv56 := fun nq_ : Nat => own_string (P := Try.prog) Try.underlying24 Try.underlying5 Try.underlying9 (Kd.own_of_R (Kd.R_drewN HO266.out nq_)); have hcw57 := own_string (P := Try.prog) Try.underlying24 Try.underlying5 Try.underlying9 (Kd.own_of_R HO266.out); have hcv58 := Kd.C_string (P := Try.prog) (A := (some ad257)) (c := c0) Try.underlying24 Try.underlying5 Try.underlying9 (Kd.C_below HR0.out HB.out); have hcx58 := hcv58; (try simp only [Int.reduceToNat, List.length_drop, List.length_take] at hcx58); have hcz59_0 : w55.cell? ⟨gb253, 0, none⟩ = some (.int .i64 0) := (blk_cell BK253.out 0).trans rfl; have hcz59_1 : w55.cell? ⟨gb253, 1, none⟩ = some (.int .i64 0) := (blk_cell BK253.out 1).trans rfl; have hcz59_2 : w55.cell? ⟨gb253, 2, none⟩ = some (.int .i64 0) := (blk_cell BK253.out 2).trans rfl; have hcz59_3 : w55.cell? ⟨gb253, 3, none⟩ = some (.int .i64 0) := (blk_cell BK253.out 3).trans rfl; have hcz59_4 : w55.cell? ⟨gb253, 4, none⟩ = some (.int .i64 0) := (blk_cell BK253.out 4).trans rfl; have hcz59_5 : w55.cell? ⟨gb253, 5, none⟩ = some (.string (⟨#[]⟩ : ByteArray)) := (blk_cell BK253.out 5).trans rfl; have hfz59_0 := blk_frozen BK253.out 0; have hfz59_1 := blk_frozen BK253.out 1; have hfz59_2 := blk_frozen BK253.out 2; have hfz59_3 := blk_frozen BK253.out 3; have hfz59_4 := blk_frozen BK253.out 4; have hfz59_5 := blk_frozen BK253.out 5))
                              refine bodyPost_ret (results_ct rfl _ _ gb253 23 #[.int .i64 0, .int .i64 0, .int .i64 0, .int .i64 0, .int .i64 0, .string (⟨#[]⟩ : ByteArray)] (0, 0) _ rfl (by (with_reducible repeat (first | refine blk_drewN ?_ _ | refine blk_drew ?_ | refine blk_alloc ?_ _)); refine blk_put (cs := #[.int .i64 0, .int .i64 0, .int .i64 0, .int .i64 0, .int .i64 0, .string (⟨#[]⟩ : ByteArray)]) ?_ 5 _ rfl; (with_reducible repeat (first | refine blk_drewN ?_ _ | refine blk_drew ?_ | refine blk_alloc ?_ _)); refine blk_put (cs := #[.int .i64 0, .int .i64 0, .int .i64 0, .int .i64 0, .int .i64 0, .string (⟨#[]⟩ : ByteArray)]) ?_ 4 _ rfl; (with_reducible repeat (first | refine blk_drewN ?_ _ | refine blk_drew ?_ | refine blk_alloc ?_ _)); refine blk_put (cs := #[.int .i64 0, .int .i64 0, .int .i64 0, .int .i64 0, .int .i64 0, .string (⟨#[]⟩ : ByteArray)]) ?_ 3 _ rfl; (with_reducible repeat (first | refine blk_drewN ?_ _ | refine blk_drew ?_ | refine blk_alloc ?_ _)); refine blk_put (cs := #[.int .i64 0, .int .i64 0, .int .i64 0, .int .i64 0, .int .i64 0, .string (⟨#[]⟩ : ByteArray)]) ?_ 2 _ rfl; (with_reducible repeat (first | refine blk_drewN ?_ _ | refine blk_drew ?_ | refine blk_alloc ?_ _)); refine blk_put (cs := #[.int .i64 0, .int .i64 0, .int .i64 0, .int .i64 0, .int .i64 0, .string (⟨#[]⟩ : ByteArray)]) ?_ 1 _ rfl; (with_reducible repeat (first | refine blk_drewN ?_ _ | refine blk_drew ?_ | refine blk_alloc ?_ _)); refine blk_put (cs := #[.int .i64 0, .int .i64 0, .int .i64 0, .int .i64 0, .int .i64 0, .string (⟨#[]⟩ : ByteArray)]) ?_ 0 _ rfl; (with_reducible repeat (first | refine blk_drewN ?_ _ | refine blk_drew ?_ | refine blk_alloc ?_ _)); exact BK253.out) Try.underlying23 rfl (by kernel_rfl)) rfl ?_
                              exact ⟨by first | rfl | (simp [errW_none, errW_some] <;> rfl) | (simp [*, errW_none, errW_some] <;> rfl), by repeat (first | (with_reducible first | exact HB.out | apply below_alloc | apply pw_below_drewN | apply below_drew1 | refine below_set ?_ GE253.out | refine below_set ?_ GE262.out) | exact HB.out)⟩
                          · rw [if_neg c43] at H
                            have c43b0 : (t267 == 0) = false := beq_eq_false_iff_ne.mpr c43
                            have c43b1 : (t267 != 0) = true := bne_iff_ne.mpr c43
                            simp only [Option.some.injEq, Prod.mk.injEq] at H
                            obtain ⟨rfl, rfl, rfl, rfl, rfl, rfl, rfl⟩ := H
                            have hnb60 := NB262_253.out
                            have hnc60 := NB253_262.out
                            have hcz61_0 : wr.cell? ⟨gb262, 0, none⟩ = some (.int .i64 (wrap64 (rd l0 2))) := (blk_cell BK262.out 0).trans rfl
                            have hcz61_1 : wr.cell? ⟨gb262, 1, none⟩ = some (.int .i64 (wrap64 (rd l0 3))) := (blk_cell BK262.out 1).trans rfl
                            have hcz61_2 : wr.cell? ⟨gb262, 2, none⟩ = some (.int .i64 (wrap64 (rd l0 4))) := (blk_cell BK262.out 2).trans rfl
                            have hcz61_3 : wr.cell? ⟨gb262, 3, none⟩ = some (.int .i64 (wrap64 (rd l0 5))) := (blk_cell BK262.out 3).trans rfl
                            have hcz61_4 : wr.cell? ⟨gb262, 4, none⟩ = some (.int .i64 x263004_1) := (blk_cell BK262.out 4).trans rfl
                            have hcz61_5 : wr.cell? ⟨gb262, 5, none⟩ = some (.string (strOfNums ((l0.take 30).drop 14))) := (blk_cell BK262.out 5).trans rfl
                            have hfz61_0 := blk_frozen BK262.out 0
                            have hfz61_1 := blk_frozen BK262.out 1
                            have hfz61_2 := blk_frozen BK262.out 2
                            have hfz61_3 := blk_frozen BK262.out 3
                            have hfz61_4 := blk_frozen BK262.out 4
                            have hfz61_5 := blk_frozen BK262.out 5
                            go_wp2_with (first | ((with_reducible refine gate_callee (f := 11) rfl ?_); refine goesL_ (some 54) rfl rfl Try.func11 (by kernel_rfl) rfl #[.agg #[.int .i64 (wrap64 (rd l0 2)), .int .i64 (wrap64 (rd l0 3)), .int .i64 (wrap64 (rd l0 4)), .int .i64 (wrap64 (rd l0 5)), .int .i64 x263004_1, .string (strOfNums ((l0.take 30).drop 14))]] rfl (by (try simp only [List.map_toArray, List.map_cons, List.map_nil]); first | done | rfl | (simp only [List.length_drop, List.length_take]; rfl)) ?_; (with_reducible refine (stowageref18_Encode.calls k1 (wrap64 (rd l0 2)) (wrap64 (rd l0 3)) (wrap64 (rd l0 4)) (wrap64 (rd l0 5)) x263004_1 (strOfNums ((l0.take 30).drop 14)) t264 t267 _ A42.out).mono ?_); rintro e w62 ⟨v265, rfl, ho0, hb⟩; refine ⟨_, rfl, ?_⟩; have n0_ := Aside0.mk (Kd.R_lower ho0 (below_size (by repeat (first | (with_reducible first | exact HB.out | apply below_alloc | apply pw_below_drewN | apply below_drew1 | refine below_set ?_ GE253.out | refine below_set ?_ GE262.out) | exact HB.out)))); have n1_ := Aside0.mk (blk_below (g := gb253) (o := .cells #[.int .i64 0, .int .i64 0, .int .i64 0, .int .i64 0, .int .i64 0, .string (⟨#[]⟩ : ByteArray)] 23 (0, 0)) (by (with_reducible repeat (first | refine blk_drewN ?_ _ | refine blk_drew ?_ | refine blk_alloc ?_ _)); exact BK253.out) hb); have n2_ := Aside0.mk (blk_below (g := gb262) (o := .cells #[.int .i64 (wrap64 (rd l0 2)), .int .i64 (wrap64 (rd l0 3)), .int .i64 (wrap64 (rd l0 4)), .int .i64 (wrap64 (rd l0 5)), .int .i64 x263004_1, .string (strOfNums ((l0.take 30).drop 14))] 23 (0, 0)) (by (with_reducible repeat (first | refine blk_drewN ?_ _ | refine blk_drew ?_ | refine blk_alloc ?_ _)); exact BK262.out) hb); have n3_ := Aside0.mk (below_step (by repeat (first | (with_reducible first | exact HB.out | apply below_alloc | apply pw_below_drewN | apply below_drew1 | refine below_set ?_ GE253.out | refine below_set ?_ GE262.out) | exact HB.out)) hb); clear BK253; clear BK262; clear HB; have HO266 := n0_; have BK253 := n1_; have BK262 := n2_; have HB := n3_; clear n0_ n1_ n2_ n3_; (try clear hb); (try clear hb2); (try clear hk); (try clear hi); (try clear ho0); have hcz63_0 : w62.cell? ⟨gb253, 0, none⟩ = some (.int .i64 0) := (blk_cell BK253.out 0).trans rfl; have hcz63_1 : w62.cell? ⟨gb253, 1, none⟩ = some (.int .i64 0) := (blk_cell BK253.out 1).trans rfl; have hcz63_2 : w62.cell? ⟨gb253, 2, none⟩ = some (.int .i64 0) := (blk_cell BK253.out 2).trans rfl; have hcz63_3 : w62.cell? ⟨gb253, 3, none⟩ = some (.int .i64 0) := (blk_cell BK253.out 3).trans rfl; have hcz63_4 : w62.cell? ⟨gb253, 4, none⟩ = some (.int .i64 0) := (blk_cell BK253.out 4).trans rfl; have hcz63_5 : w62.cell? ⟨gb253, 5, none⟩ = some (.string (⟨#[]⟩ : ByteArray)) := (blk_cell BK253.out 5).trans rfl; have hfz63_0 := blk_frozen BK253.out 0; have hfz63_1 := blk_frozen BK253.out 1; have hfz63_2 := blk_frozen BK253.out 2; have hfz63_3 := blk_frozen BK253.out 3; have hfz63_4 := blk_frozen BK253.out 4; have hfz63_5 := blk_frozen BK253.out 5))
                            refine bodyPost_ret (results_ct rfl _ _ gb253 23 #[.int .i64 0, .int .i64 0, .int .i64 0, .int .i64 0, .int .i64 0, .string (⟨#[]⟩ : ByteArray)] (0, 0) _ rfl (by (with_reducible repeat (first | refine blk_drewN ?_ _ | refine blk_drew ?_ | refine blk_alloc ?_ _)); refine blk_put (cs := #[.int .i64 0, .int .i64 0, .int .i64 0, .int .i64 0, .int .i64 0, .string (⟨#[]⟩ : ByteArray)]) ?_ 5 _ rfl; (with_reducible repeat (first | refine blk_drewN ?_ _ | refine blk_drew ?_ | refine blk_alloc ?_ _)); refine blk_put (cs := #[.int .i64 0, .int .i64 0, .int .i64 0, .int .i64 0, .int .i64 0, .string (⟨#[]⟩ : ByteArray)]) ?_ 4 _ rfl; (with_reducible repeat (first | refine blk_drewN ?_ _ | refine blk_drew ?_ | refine blk_alloc ?_ _)); refine blk_put (cs := #[.int .i64 0, .int .i64 0, .int .i64 0, .int .i64 0, .int .i64 0, .string (⟨#[]⟩ : ByteArray)]) ?_ 3 _ rfl; (with_reducible repeat (first | refine blk_drewN ?_ _ | refine blk_drew ?_ | refine blk_alloc ?_ _)); refine blk_put (cs := #[.int .i64 0, .int .i64 0, .int .i64 0, .int .i64 0, .int .i64 0, .string (⟨#[]⟩ : ByteArray)]) ?_ 2 _ rfl; (with_reducible repeat (first | refine blk_drewN ?_ _ | refine blk_drew ?_ | refine blk_alloc ?_ _)); refine blk_put (cs := #[.int .i64 0, .int .i64 0, .int .i64 0, .int .i64 0, .int .i64 0, .string (⟨#[]⟩ : ByteArray)]) ?_ 1 _ rfl; (with_reducible repeat (first | refine blk_drewN ?_ _ | refine blk_drew ?_ | refine blk_alloc ?_ _)); refine blk_put (cs := #[.int .i64 0, .int .i64 0, .int .i64 0, .int .i64 0, .int .i64 0, .string (⟨#[]⟩ : ByteArray)]) ?_ 0 _ rfl; (with_reducible repeat (first | refine blk_drewN ?_ _ | refine blk_drew ?_ | refine blk_alloc ?_ _)); exact BK253.out) Try.underlying23 rfl (by kernel_rfl)) rfl ?_
                            exact ⟨by first | rfl | (simp [errW_none, errW_some] <;> rfl) | (simp [*, errW_none, errW_some] <;> rfl), by repeat (first | (with_reducible first | exact HB.out | apply below_alloc | apply pw_below_drewN | apply below_drew1 | refine below_set ?_ GE253.out | refine below_set ?_ GE262.out) | exact HB.out)⟩
                  · rw [if_neg c18] at H
                    exact absurd H (by simp)
                · rw [if_neg c17] at H
                  exact absurd H (by simp)
              · rw [if_neg c16] at H
                exact absurd H (by simp)
            · rw [if_neg c15] at H
              exact absurd H (by simp)
          · rw [if_neg c14] at H
            exact absurd H (by simp)
        · rw [if_neg c13] at H
          exact absurd H (by simp)
      · rw [if_neg c12] at H
        have c12b0 : ((l0.length : Int) == 64) = false := beq_eq_false_iff_ne.mpr c12
        have c12b1 : ((l0.length : Int) != 64) = true := bne_iff_ne.mpr c12
        simp only [Option.some.injEq, Prod.mk.injEq] at H
        obtain ⟨rfl, rfl, rfl, rfl, rfl, rfl, rfl⟩ := H
        go_enter Try.func14, Try.ntmps14
        try go_wp2_with (first | ((with_reducible refine gate_dst (N := 2) rfl ?_); refine box_event ?hg (N := 2) ?hd (cs := #[.int .i64 0, .int .i64 0, .int .i64 0, .int .i64 0, .int .i64 0, .string (⟨#[]⟩ : ByteArray)]) (t := 23) ?hr ?_; (case hd => rfl); (case hg => rfl); (case hr => first | (go_simp; done) | (go_simp; rfl)); intro gb253 hg w64 hbox hb; have n0_ := Aside0.mk (below_step (by repeat (first | (with_reducible first | exact HB.out | apply below_alloc | apply pw_below_drewN | apply below_drew1) | exact HB.out)) hb); have n1_ := Aside0.mk (hbox); have n2_ := Aside0.mk ((by rw [hg]; exact (below_size (by repeat (first | (with_reducible first | exact HB.out | apply below_alloc | apply pw_below_drewN | apply below_drew1) | exact HB.out))) : w.heap.size ≤ gb253)); have n3_ := Aside0.mk ((by rw [hg]; exact (below_size (by repeat (first | (with_reducible first | exact HB.out | apply below_alloc | apply pw_below_drewN | apply below_drew1) | exact HB.out))) : w.heap.size ≤ gb253)); clear HB; have HB := n0_; have BK253 := n1_; have GW253 := n2_; have GE253 := n3_; clear n0_ n1_ n2_ n3_; clear hb hbox hg))
        have n0_ := Aside0.mk (blk_drew BK253.out)
        have n1_ := Aside0.mk (below_drew1 HB.out)
        clear BK253
        clear HB
        have BK253 := n0_
        have HB := n1_
        clear n0_ n1_
        have hcv66 := Kd.C_string (P := Try.prog) (A := A0) (c := c0) Try.underlying24 Try.underlying5 Try.underlying9 (Kd.C_below HR0.out HB.out)
        have hcx66 := hcv66
        (try simp only [Int.reduceToNat, List.length_drop, List.length_take] at hcx66)
        refine start_ (n := 5) (S := fun w' => (convert 24 9 (.slice A0 l0.length c0)).run Try.prog w' = .ok (.string (strOfNums l0)) w') (ds := []) #[false, false, false, false, false] (by kernel_rfl) rfl rfl (Kd.C_string (P := Try.prog) (A := A0) (c := c0) Try.underlying24 Try.underlying5 Try.underlying9 (Kd.C_below HR0.out HB.out)) (fun hHeld => ?_)
        generalize w64.drew = w65 at BK253 HB hHeld ⊢
        refine pure_ (i := 0) (N := some 8) (v := ?_) (a' := ?_) #[true, false, false, false, false] rfl rfl (by kernel_rfl) (fun _ _ _ h => h) (Or.inl ⟨by rfl, ?_⟩) ?_ ?_
        rotate_left
        · intro w'
          go_simp
          with_reducible rfl
        rotate_left
        · simp only [Act.put, List.setIfInBounds_toArray, List.set_cons_zero, List.set_cons_succ, i64_w, i32_w]
          rfl
        refine take_ (i := 1) (N := some 9) (v := ?_) (a' := ?_) #[true, true, false, false, false] rfl rfl (by kernel_rfl) (fun _ _ _ h => h) (Or.inl ⟨by rfl, ?_⟩) hHeld ?_ ?_
        rotate_left
        · rintro w' sS
          (try simp only [Int.reduceToNat, List.length_drop, List.length_take] at sS)
          go_simp
          with_reducible rfl
        rotate_left
        · simp only [Act.put, List.setIfInBounds_toArray, List.set_cons_zero, List.set_cons_succ, i64_w, i32_w]
          rfl
        refine one_ (i := 2) (N := some 10) #[true, true, true, false, false] rfl rfl (by kernel_rfl) (by decide) (fun K hK => ?_)
        refine Kd.R_make_step (Kd.int .u8) _ 5 (by rfl) (N := 10) rfl 24 _ _ rfl 64 rfl rfl Try.underlying24 (.int .u8 0) 1 info5 rfl (by decide) (by omega) 0 (ok := fun _ => True) (okp := fun _ => True) rfl (fun _ hk => hk) trivial (by omega) (by omega) (Below.refl _ _) (Nat.le_refl _) ?_
        intro v255 w67 ho68 hb hg_ hnew_
        clear hg_ hnew_
        (first | rw [← Ny254.out] at ho68 | (simp only [Int.reduceToNat] at ho68; rw [← Ny254.out] at ho68))
        have n0_ := Aside0.mk (Kd.R_lower ho68 (below_size (by repeat (first | (with_reducible first | exact HB.out | apply below_alloc | apply pw_below_drewN | apply below_drew1 | refine below_set ?_ GE253.out) | exact HB.out))))
        have n1_ := Aside0.mk (blk_below (g := gb253) (o := .cells #[.int .i64 0, .int .i64 0, .int .i64 0, .int .i64 0, .int .i64 0, .string (⟨#[]⟩ : ByteArray)] 23 (0, 0)) (by (with_reducible repeat (first | refine blk_drewN ?_ _ | refine blk_drew ?_ | refine blk_alloc ?_ _)); exact BK253.out) hb)
        have n2_ := Aside0.mk (below_step (by repeat (first | (with_reducible first | exact HB.out | apply below_alloc | apply pw_below_drewN | apply below_drew1 | refine below_set ?_ GE253.out) | exact HB.out)) hb)
        clear BK253
        clear HB
        have HO256 := n0_
        have BK253 := n1_
        have HB := n2_
        clear n0_ n1_ n2_
        clear hb ho68
        refine hK.out _ _ (Kd.C_string (P := Try.prog) (A := A0) (c := c0) Try.underlying24 Try.underlying5 Try.underlying9 (Kd.C_below HR0.out (by repeat (first | (with_reducible first | exact HB.out | apply below_alloc | apply pw_below_drewN | apply below_drew1 | refine below_set ?_ GE253.out) | exact HB.out)))) (fun hHeld => ?_)
        clear hK K
        refine norm_ (a' := ?_) ?_ ?_
        rotate_left
        · show Act.put _ (some 10) _ = _
          simp only [Act.put, List.setIfInBounds_toArray, List.set_cons_zero, List.set_cons_succ, i64_w, i32_w]
          rfl
        refine one_ (i := 3) (N := some 11) #[true, true, true, true, false] rfl rfl (by kernel_rfl) (by decide) (fun K hK => ?_)
        have hcv69 := own_string (P := Try.prog) Try.underlying24 Try.underlying5 Try.underlying9 (Kd.own_of_R HO256.out)
        refine value_ (w1 := ?_) (v := ?_) (by rfl) rfl ?_ ?_
        rotate_left 2
        · go_simp
          constructor
          · rfl
          · rfl
        clear hcv69
        refine hK.out _ _ (Kd.C_string (P := Try.prog) (A := A0) (c := c0) Try.underlying24 Try.underlying5 Try.underlying9 (Kd.C_below HR0.out (by repeat (first | (with_reducible first | exact HB.out | apply below_alloc | apply pw_below_drewN | apply below_drew1 | refine below_set ?_ GE253.out) | exact HB.out)))) (fun hHeld => ?_)
        clear hK K
        refine norm_ (a' := ?_) ?_ ?_
        rotate_left
        · show Act.put _ (some 11) _ = _
          simp only [Act.put, List.setIfInBounds_toArray, List.set_cons_zero, List.set_cons_succ, i64_w, i32_w]
          rfl
        refine pure_ (i := 4) (N := some 12) (v := ?_) (a' := ?_) #[true, true, true, true, true] rfl rfl (by kernel_rfl) (fun _ _ _ h => h) (Or.inl ⟨by rfl, ?_⟩) ?_ ?_
        rotate_left
        · intro w'
          go_simp
          with_reducible rfl
        rotate_left
        · simp only [Act.put, List.setIfInBounds_toArray, List.set_cons_zero, List.set_cons_succ, i64_w, i32_w]
          rfl
        refine done_ (by kernel_rfl) ?_
        have hcz71_0 : w67.cell? ⟨gb253, 0, none⟩ = some (.int .i64 0) := (blk_cell BK253.out 0).trans rfl
        have hcz71_1 : w67.cell? ⟨gb253, 1, none⟩ = some (.int .i64 0) := (blk_cell BK253.out 1).trans rfl
        have hcz71_2 : w67.cell? ⟨gb253, 2, none⟩ = some (.int .i64 0) := (blk_cell BK253.out 2).trans rfl
        have hcz71_3 : w67.cell? ⟨gb253, 3, none⟩ = some (.int .i64 0) := (blk_cell BK253.out 3).trans rfl
        have hcz71_4 : w67.cell? ⟨gb253, 4, none⟩ = some (.int .i64 0) := (blk_cell BK253.out 4).trans rfl
        have hcz71_5 : w67.cell? ⟨gb253, 5, none⟩ = some (.string (⟨#[]⟩ : ByteArray)) := (blk_cell BK253.out 5).trans rfl
        have hfz71_0 := blk_frozen BK253.out 0
        have hfz71_1 := blk_frozen BK253.out 1
        have hfz71_2 := blk_frozen BK253.out 2
        have hfz71_3 := blk_frozen BK253.out 3
        have hfz71_4 := blk_frozen BK253.out 4
        have hfz71_5 := blk_frozen BK253.out 5
        try go_wp2
        refine bodyPost_ret (results_ct rfl _ _ gb253 23 #[.int .i64 0, .int .i64 0, .int .i64 0, .int .i64 0, .int .i64 0, .string (⟨#[]⟩ : ByteArray)] (0, 0) _ rfl (by (with_reducible repeat (first | refine blk_drewN ?_ _ | refine blk_drew ?_ | refine blk_alloc ?_ _)); refine blk_put (cs := #[.int .i64 0, .int .i64 0, .int .i64 0, .int .i64 0, .int .i64 0, .string (⟨#[]⟩ : ByteArray)]) ?_ 5 _ rfl; (with_reducible repeat (first | refine blk_drewN ?_ _ | refine blk_drew ?_ | refine blk_alloc ?_ _)); refine blk_put (cs := #[.int .i64 0, .int .i64 0, .int .i64 0, .int .i64 0, .int .i64 0, .string (⟨#[]⟩ : ByteArray)]) ?_ 4 _ rfl; (with_reducible repeat (first | refine blk_drewN ?_ _ | refine blk_drew ?_ | refine blk_alloc ?_ _)); refine blk_put (cs := #[.int .i64 0, .int .i64 0, .int .i64 0, .int .i64 0, .int .i64 0, .string (⟨#[]⟩ : ByteArray)]) ?_ 3 _ rfl; (with_reducible repeat (first | refine blk_drewN ?_ _ | refine blk_drew ?_ | refine blk_alloc ?_ _)); refine blk_put (cs := #[.int .i64 0, .int .i64 0, .int .i64 0, .int .i64 0, .int .i64 0, .string (⟨#[]⟩ : ByteArray)]) ?_ 2 _ rfl; (with_reducible repeat (first | refine blk_drewN ?_ _ | refine blk_drew ?_ | refine blk_alloc ?_ _)); refine blk_put (cs := #[.int .i64 0, .int .i64 0, .int .i64 0, .int .i64 0, .int .i64 0, .string (⟨#[]⟩ : ByteArray)]) ?_ 1 _ rfl; (with_reducible repeat (first | refine blk_drewN ?_ _ | refine blk_drew ?_ | refine blk_alloc ?_ _)); refine blk_put (cs := #[.int .i64 0, .int .i64 0, .int .i64 0, .int .i64 0, .int .i64 0, .string (⟨#[]⟩ : ByteArray)]) ?_ 0 _ rfl; (with_reducible repeat (first | refine blk_drewN ?_ _ | refine blk_drew ?_ | refine blk_alloc ?_ _)); exact BK253.out) Try.underlying23 rfl (by kernel_rfl)) rfl ?_
        exact ⟨by first | rfl | (simp [errW_none, errW_some] <;> rfl) | (simp [*, errW_none, errW_some] <;> rfl), by repeat (first | (with_reducible first | exact HB.out | apply below_alloc | apply pw_below_drewN | apply below_drew1 | refine below_set ?_ GE253.out) | exact HB.out)⟩
  · rw [if_neg c2] at H
    exact absurd H (by simp)

end Go.Proofs.Ytbidkiacgggpmaa.QHead
