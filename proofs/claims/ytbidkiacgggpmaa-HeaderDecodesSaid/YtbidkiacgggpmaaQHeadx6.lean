/- Written by a program of this session (wip/tools/mk.py) out of the kit's printing programs and of texts of our own: the contracts of the Go functions that the law goes through, and the row of the law. No condition is added. -/
import Derived.Test.YtbidkiacgggpmaaQHeadx0
import Derived.Test.YtbidkiacgggpmaaQHeadx3
import Derived.Test.YtbidkiacgggpmaaQHeadx5
namespace Go.Proofs.Ytbidkiacgggpmaa.QHead
open Go.RowKit Go.Proofs.YtbidkiacgggpmaaW.PrintWords Go.Proofs.YtbidkiacgggpmaaW.PrintLast Go.Proofs.YtbidkiacgggpmaaW.PrintMore
attribute [local go_sem] max2_int min2_int max_two min_two max_three min_three max_four min_four   -- for this text's walks alone
set_option linter.unusedVariables false
set_option linter.unusedSimpArgs false

attribute [local go_sem] min_seven
/-! ### header_Decode: function 13 -/
def header_Decode.f (k : Nat) (l0 : List Int) : Option (Int × Int × Int × Int × Int × ByteArray × Int) := if 64 ≤ 281474976710656 then ((bytes_Equal.f l0 (List.replicate 64 0)).bind fun t198 => (if t198 = true then (some (0, 0, 0, 0, 0, (⟨#[]⟩ : ByteArray), 4)) else (if (l0.length : Int) = 64 then (if 2 ≤ 14 then (if 14 ≤ (l0.length : Int) then ((pack_Split.f k ((l0.take 14).drop 2) (([1, 1, 1, 1, 8] : List Int))).bind fun bt203 => (if 0 < (bt203.1.length : Int) then (if 1 < (bt203.1.length : Int) then (if 2 < (bt203.1.length : Int) then (if 3 < (bt203.1.length : Int) then (if 4 < (bt203.1.length : Int) then (if 14 ≤ 30 then (if 30 ≤ (l0.length : Int) then ((header_Encode.f k (wrap64 (rd bt203.1 0)) (wrap64 (rd bt203.1 1)) (wrap64 (rd bt203.1 2)) (wrap64 (rd bt203.1 3)) (wrap64 (rd bt203.1 4)) (strOfNums ((l0.take 30).drop 14))).bind fun bt214 => (if bt214.2 = 0 then ((bytes_Equal.f bt214.1 l0).bind fun t218 => (if t218 = true then (some (wrap64 (rd bt203.1 0), wrap64 (rd bt203.1 1), wrap64 (rd bt203.1 2), wrap64 (rd bt203.1 3), wrap64 (rd bt203.1 4), strOfNums ((l0.take 30).drop 14), 0)) else (some (0, 0, 0, 0, 0, (⟨#[]⟩ : ByteArray), 2)))) else (some (0, 0, 0, 0, 0, (⟨#[]⟩ : ByteArray), 2)))) else (none)) else (none)) else (none)) else (none)) else (none)) else (none)) else (none))) else (none)) else (none)) else (some (0, 0, 0, 0, 0, (⟨#[]⟩ : ByteArray), 2))))) else (none)
theorem header_Decode.mono : ∀ a0 k, LeO (header_Decode.f k a0) (header_Decode.f (k + 1) a0) := by
  intro a0 k
  unfold header_Decode.f
  repeat' first
      | (with_reducible exact header_Encode.mono _ _ _ _ _ _ _)
      | (with_reducible exact pack_Split.mono _ _ _)
      | (with_reducible exact LeO.refl _)
      | (with_reducible exact LeO.none _)
      | (with_reducible refine LeO.ite ?_ ?_)
      | (with_reducible refine LeO.bind ?_ (fun _ => ?_))
      | exact header_Encode.mono _ _ _ _ _ _ _
      | exact pack_Split.mono _ _ _
      | exact LeO.none _
      | refine LeO.ite ?_ ?_
      | refine LeO.bind ?_ (fun _ => ?_)
def header_Decode.T6 : Bool × List (List Nat × List Nat) := (true, [([], []), ([0], [0]), ([1], [1]), ([2], [2]), ([], []), ([4], [4]), ([5], [5]), ([6], [6]), ([], []), ([8], [8]), ([9], [9]), ([10], [10]), ([], []), ([12], [12]), ([13], [13]), ([14], [14]), ([], []), ([16], [16]), ([17], [17]), ([18], [18]), ([], []), ([20], [20]), ([21], [21]), ([3, 7, 11, 15, 19, 22], [3, 7, 11, 15, 19, 22]), ([], []), ([24, 23, 0, 1, 2, 3, 4, 5, 6, 7, 8, 9, 10, 11, 12, 13, 14, 15, 16, 17, 18, 19, 20, 21, 22, 23, 24], [23, 24])])
def header_Decode.B6 : List Nat := [0, 1, 3, 7, 0, 16, 48, 112, 0, 256, 768, 1792, 0, 4096, 12288, 28672, 0, 65536, 196608, 458752, 0, 1048576, 3145728, 8388607, 0, 33554431]
theorem header_Decode.tab6 : rtab .any (opsOf Try.f13 6) = header_Decode.T6 := by kernel_rfl
theorem header_Decode.bits6 : waitsOk header_Decode.T6.2 header_Decode.B6 = true := by kernel_rfl
set_option maxHeartbeats 8000000 in
set_option maxRecDepth 100000 in
theorem header_Decode.calls (k : Nat) (A0 : Option Addr) (c0 : Nat) (l0 : List Int) (r1 : Int) (r2 : Int) (r3 : Int) (r4 : Int) (r5 : Int) (r6 : ByteArray) (r7 : Int) (w : World) (hr0 : Kd.C (Kd.int .u8) w A0 l0.length l0) (hc0 : l0.length ≤ c0) (h : header_Decode.f k l0 = some (r1, r2, r3, r4, r5, r6, r7)) :
    Calls Try.prog 13 #[.slice A0 l0.length c0] w fun e w' => e = .returned (.tuple #[.agg #[.int .i64 r1, .int .i64 r2, .int .i64 r3, .int .i64 r4, .int .i64 r5, .string r6], .int .i64 r7]) ∧ Below w.heap.size w w' := by
  have hu23 := Try.underlying23
  have HR0 := Aside0.mk hr0
  have HC0 := Aside0.mk hc0
  clear hr0 hc0
  have HB := Aside0.mk (Below.refl w.heap.size w)
  have H : (if 64 ≤ 281474976710656 then ((bytes_Equal.f l0 (List.replicate 64 0)).bind fun t198 => (if t198 = true then (some (0, 0, 0, 0, 0, (⟨#[]⟩ : ByteArray), 4)) else (if (l0.length : Int) = 64 then (if 2 ≤ 14 then (if 14 ≤ (l0.length : Int) then ((pack_Split.f k ((l0.take 14).drop 2) (([1, 1, 1, 1, 8] : List Int))).bind fun bt203 => (if 0 < (bt203.1.length : Int) then (if 1 < (bt203.1.length : Int) then (if 2 < (bt203.1.length : Int) then (if 3 < (bt203.1.length : Int) then (if 4 < (bt203.1.length : Int) then (if 14 ≤ 30 then (if 30 ≤ (l0.length : Int) then ((header_Encode.f k (wrap64 (rd bt203.1 0)) (wrap64 (rd bt203.1 1)) (wrap64 (rd bt203.1 2)) (wrap64 (rd bt203.1 3)) (wrap64 (rd bt203.1 4)) (strOfNums ((l0.take 30).drop 14))).bind fun bt214 => (if bt214.2 = 0 then ((bytes_Equal.f bt214.1 l0).bind fun t218 => (if t218 = true then (some (wrap64 (rd bt203.1 0), wrap64 (rd bt203.1 1), wrap64 (rd bt203.1 2), wrap64 (rd bt203.1 3), wrap64 (rd bt203.1 4), strOfNums ((l0.take 30).drop 14), 0)) else (some (0, 0, 0, 0, 0, (⟨#[]⟩ : ByteArray), 2)))) else (some (0, 0, 0, 0, 0, (⟨#[]⟩ : ByteArray), 2)))) else (none)) else (none)) else (none)) else (none)) else (none)) else (none)) else (none))) else (none)) else (none)) else (some (0, 0, 0, 0, 0, (⟨#[]⟩ : ByteArray), 2))))) else (none)) = some (r1, r2, r3, r4, r5, r6, r7) := h
  clear h
  by_cases c2 : 64 ≤ 281474976710656
  · rw [if_pos c2] at H
    have c2b0 := eq_true c2
    have c2b1 : decide (64 ≤ 281474976710656) = true := decide_eq_true c2
    clear c2
    obtain ⟨y195, hy195⟩ : ∃ y_ : List Int, y_ = (List.replicate 64 0) := ⟨_, rfl⟩
    replace H : ((bytes_Equal.f l0 y195).bind fun t198 => (if t198 = true then (some (0, 0, 0, 0, 0, (⟨#[]⟩ : ByteArray), 4)) else (if (l0.length : Int) = 64 then (if 2 ≤ 14 then (if 14 ≤ (l0.length : Int) then ((pack_Split.f k ((l0.take 14).drop 2) (([1, 1, 1, 1, 8] : List Int))).bind fun bt203 => (if 0 < (bt203.1.length : Int) then (if 1 < (bt203.1.length : Int) then (if 2 < (bt203.1.length : Int) then (if 3 < (bt203.1.length : Int) then (if 4 < (bt203.1.length : Int) then (if 14 ≤ 30 then (if 30 ≤ (l0.length : Int) then ((header_Encode.f k (wrap64 (rd bt203.1 0)) (wrap64 (rd bt203.1 1)) (wrap64 (rd bt203.1 2)) (wrap64 (rd bt203.1 3)) (wrap64 (rd bt203.1 4)) (strOfNums ((l0.take 30).drop 14))).bind fun bt214 => (if bt214.2 = 0 then ((bytes_Equal.f bt214.1 l0).bind fun t218 => (if t218 = true then (some (wrap64 (rd bt203.1 0), wrap64 (rd bt203.1 1), wrap64 (rd bt203.1 2), wrap64 (rd bt203.1 3), wrap64 (rd bt203.1 4), strOfNums ((l0.take 30).drop 14), 0)) else (some (0, 0, 0, 0, 0, (⟨#[]⟩ : ByteArray), 2)))) else (some (0, 0, 0, 0, 0, (⟨#[]⟩ : ByteArray), 2)))) else (none)) else (none)) else (none)) else (none)) else (none)) else (none)) else (none))) else (none)) else (none)) else (some (0, 0, 0, 0, 0, (⟨#[]⟩ : ByteArray), 2))))) = some (r1, r2, r3, r4, r5, r6, r7) := by first | (rw [hy195]; with_reducible exact H) | (have H2_ := (Option.bind_some _ _).symm.trans H; rw [hy195]; with_reducible exact H2_) | (have H2_ := (Option.bind_some _ _).symm.trans H; with_reducible exact H2_) | with_reducible exact H | (rw [hy195]; exact H) | exact H
    have Ny195 := Aside0.mk hy195
    clear hy195
    replace H := Option.bind_eq_some_iff.mp H
    obtain ⟨t198, A30, H⟩ := H
    replace H : (if t198 = true then (some (0, 0, 0, 0, 0, (⟨#[]⟩ : ByteArray), 4)) else (if (l0.length : Int) = 64 then (if 2 ≤ 14 then (if 14 ≤ (l0.length : Int) then ((pack_Split.f k ((l0.take 14).drop 2) (([1, 1, 1, 1, 8] : List Int))).bind fun bt203 => (if 0 < (bt203.1.length : Int) then (if 1 < (bt203.1.length : Int) then (if 2 < (bt203.1.length : Int) then (if 3 < (bt203.1.length : Int) then (if 4 < (bt203.1.length : Int) then (if 14 ≤ 30 then (if 30 ≤ (l0.length : Int) then ((header_Encode.f k (wrap64 (rd bt203.1 0)) (wrap64 (rd bt203.1 1)) (wrap64 (rd bt203.1 2)) (wrap64 (rd bt203.1 3)) (wrap64 (rd bt203.1 4)) (strOfNums ((l0.take 30).drop 14))).bind fun bt214 => (if bt214.2 = 0 then ((bytes_Equal.f bt214.1 l0).bind fun t218 => (if t218 = true then (some (wrap64 (rd bt203.1 0), wrap64 (rd bt203.1 1), wrap64 (rd bt203.1 2), wrap64 (rd bt203.1 3), wrap64 (rd bt203.1 4), strOfNums ((l0.take 30).drop 14), 0)) else (some (0, 0, 0, 0, 0, (⟨#[]⟩ : ByteArray), 2)))) else (some (0, 0, 0, 0, 0, (⟨#[]⟩ : ByteArray), 2)))) else (none)) else (none)) else (none)) else (none)) else (none)) else (none)) else (none))) else (none)) else (none)) else (some (0, 0, 0, 0, 0, (⟨#[]⟩ : ByteArray), 2)))) = some (r1, r2, r3, r4, r5, r6, r7) := H
    have A3 := Aside0.mk A30
    clear A30
    by_cases c4 : t198 = true
    · subst c4
      have H1 : (some (0, 0, 0, 0, 0, (⟨#[]⟩ : ByteArray), 4)) = some (r1, r2, r3, r4, r5, r6, r7) := by rw [if_pos rfl] at H; exact H
      clear H
      have H := H1
      clear H1
      simp only [Option.some.injEq, Prod.mk.injEq] at H
      obtain ⟨rfl, rfl, rfl, rfl, rfl, rfl, rfl⟩ := H
      go_enter Try.func13, Try.ntmps13
      go_wp2_with (first | ((with_reducible refine gate_dst (N := 2) rfl ?_); refine box_event ?hg (N := 2) ?hd (cs := #[.int .i64 0, .int .i64 0, .int .i64 0, .int .i64 0, .int .i64 0, .string (⟨#[]⟩ : ByteArray)]) (t := 23) ?hr ?_; (case hd => rfl); (case hg => rfl); (case hr => first | (go_simp; done) | (go_simp; rfl)); intro gb194 hg w5 hbox hb; have n0_ := Aside0.mk (below_step (by repeat (first | (with_reducible first | exact HB.out | apply below_alloc | apply pw_below_drewN | apply below_drew1) | exact HB.out)) hb); have n1_ := Aside0.mk (hbox); have n2_ := Aside0.mk ((by rw [hg]; exact (below_size (by repeat (first | (with_reducible first | exact HB.out | apply below_alloc | apply pw_below_drewN | apply below_drew1) | exact HB.out))) : w.heap.size ≤ gb194)); have n3_ := Aside0.mk ((by rw [hg]; exact (below_size (by repeat (first | (with_reducible first | exact HB.out | apply below_alloc | apply pw_below_drewN | apply below_drew1) | exact HB.out))) : w.heap.size ≤ gb194)); clear HB; have HB := n0_; have BK194 := n1_; have GW194 := n2_; have GE194 := n3_; clear n0_ n1_ n2_ n3_; clear hb hbox hg) | ((with_reducible refine gate_dst (N := 10) rfl ?_); refine Kd.R_make (Kd.int .u8) _ 5 rfl (N := 10) rfl 24 _ _ rfl 64 rfl rfl Try.underlying24 (.int .u8 0) 1 info5 rfl (by decide) (by omega) 0 (ok := fun _ => True) (okp := fun _ => True) rfl (fun _ hk => hk) trivial (by omega) (by omega) (Below.refl _ _) (Nat.le_refl _) ?_; intro v196 w6 ho7 hb hg_ hnew_; clear hg_ hnew_; (first | rw [← Ny195.out] at ho7 | (simp only [Int.reduceToNat] at ho7; rw [← Ny195.out] at ho7)); have n0_ := Aside0.mk (Kd.R_lower ho7 (below_size (by repeat (first | (with_reducible first | exact HB.out | apply below_alloc | apply pw_below_drewN | apply below_drew1 | refine below_set ?_ GE194.out) | exact HB.out)))); have n1_ := Aside0.mk (blk_below (g := gb194) (o := .cells #[.int .i64 0, .int .i64 0, .int .i64 0, .int .i64 0, .int .i64 0, .string (⟨#[]⟩ : ByteArray)] 23 (0, 0)) (by (with_reducible repeat (first | refine blk_drewN ?_ _ | refine blk_drew ?_ | refine blk_alloc ?_ _)); exact BK194.out) hb); have n2_ := Aside0.mk (below_step (by repeat (first | (with_reducible first | exact HB.out | apply below_alloc | apply pw_below_drewN | apply below_drew1 | refine below_set ?_ GE194.out) | exact HB.out)) hb); clear BK194; clear HB; have HO197 := n0_; have BK194 := n1_; have HB := n2_; clear n0_ n1_ n2_; clear hb ho7; obtain ⟨Ao8, co8, eo8⟩ := Kd.R_slice HO197.out; subst eo8) | ((with_reducible refine gate_callee (f := 26) rfl ?_); refine goesL_ (some 11) rfl rfl Try.func26 (by kernel_rfl) rfl #[.slice A0 l0.length c0, .slice Ao8 y195.length co8] rfl (by (try simp only [List.map_toArray, List.map_cons, List.map_nil]); first | done | rfl | (simp only [List.length_drop, List.length_take]; rfl)) ?_; (with_reducible refine (bytes_Equal.calls _ _ l0 _ _ y195 true _ ?side1 ?side2 ?side3 ?side4 A3.out).mono ?_); (case side1 => repeat (first | exact (Kd.C_below HR0.out HB.out) | (with_reducible refine Kd.C_alloc ?_ _) | (with_reducible refine Kd.C_drewN ?_ _) | (with_reducible refine Kd.C_drew ?_))); (case side2 => exact HC0.out); (case side3 => repeat (first | exact (Kd.R_reads' HO197.out).2.2 | (with_reducible refine Kd.C_alloc ?_ _) | (with_reducible refine Kd.C_drewN ?_ _) | (with_reducible refine Kd.C_drew ?_))); (case side4 => exact (Kd.R_reads' HO197.out).2.1); rintro e w' ⟨rfl, ⟨nd, rfl⟩⟩; refine ⟨_, rfl, ?_⟩; (try (rw [drewN_self w6]; generalize hq_ : World.drewN w6 _ = w6; have n0_ : Aside0 (Kd.R (Kd.int .u8) 5 w6 w.heap.size (fun _ => True) (.slice Ao8 y195.length co8) y195) := ⟨by rw [← hq_]; exact (by (with_reducible repeat (first | apply Kd.R_alloc | apply Kd.R_drewN | apply Kd.R_drew)); exact HO197.out)⟩; have n1_ : Aside0 (w6.heap[gb194]? = some (.cells #[.int .i64 0, .int .i64 0, .int .i64 0, .int .i64 0, .int .i64 0, .string (⟨#[]⟩ : ByteArray)] 23 (0, 0))) := ⟨by rw [← hq_]; exact (by (with_reducible repeat (first | refine blk_drewN ?_ _ | refine blk_drew ?_ | refine blk_alloc ?_ _)); exact BK194.out)⟩; have n2_ : Aside0 (Below w.heap.size w w6) := ⟨by rw [← hq_]; exact (by repeat (first | (with_reducible first | exact HB.out | apply below_alloc | apply pw_below_drewN | apply below_drew1 | refine below_set ?_ GE194.out) | exact HB.out))⟩; clear HO197 BK194 HB hq_; have HO197 := n0_; have BK194 := n1_; have HB := n2_; clear n0_ n1_ n2_)); have hcz9_0 : w6.cell? ⟨gb194, 0, none⟩ = some (.int .i64 0) := (blk_cell BK194.out 0).trans rfl; have hcz9_1 : w6.cell? ⟨gb194, 1, none⟩ = some (.int .i64 0) := (blk_cell BK194.out 1).trans rfl; have hcz9_2 : w6.cell? ⟨gb194, 2, none⟩ = some (.int .i64 0) := (blk_cell BK194.out 2).trans rfl; have hcz9_3 : w6.cell? ⟨gb194, 3, none⟩ = some (.int .i64 0) := (blk_cell BK194.out 3).trans rfl; have hcz9_4 : w6.cell? ⟨gb194, 4, none⟩ = some (.int .i64 0) := (blk_cell BK194.out 4).trans rfl; have hcz9_5 : w6.cell? ⟨gb194, 5, none⟩ = some (.string (⟨#[]⟩ : ByteArray)) := (blk_cell BK194.out 5).trans rfl; have hfz9_0 := blk_frozen BK194.out 0; have hfz9_1 := blk_frozen BK194.out 1; have hfz9_2 := blk_frozen BK194.out 2; have hfz9_3 := blk_frozen BK194.out 3; have hfz9_4 := blk_frozen BK194.out 4; have hfz9_5 := blk_frozen BK194.out 5))
      refine bodyPost_ret (results_ct rfl _ _ gb194 23 #[.int .i64 0, .int .i64 0, .int .i64 0, .int .i64 0, .int .i64 0, .string (⟨#[]⟩ : ByteArray)] (0, 0) _ rfl (by (with_reducible repeat (first | refine blk_drewN ?_ _ | refine blk_drew ?_ | refine blk_alloc ?_ _)); refine blk_put (cs := #[.int .i64 0, .int .i64 0, .int .i64 0, .int .i64 0, .int .i64 0, .string (⟨#[]⟩ : ByteArray)]) ?_ 5 _ rfl; (with_reducible repeat (first | refine blk_drewN ?_ _ | refine blk_drew ?_ | refine blk_alloc ?_ _)); refine blk_put (cs := #[.int .i64 0, .int .i64 0, .int .i64 0, .int .i64 0, .int .i64 0, .string (⟨#[]⟩ : ByteArray)]) ?_ 4 _ rfl; (with_reducible repeat (first | refine blk_drewN ?_ _ | refine blk_drew ?_ | refine blk_alloc ?_ _)); refine blk_put (cs := #[.int .i64 0, .int .i64 0, .int .i64 0, .int .i64 0, .int .i64 0, .string (⟨#[]⟩ : ByteArray)]) ?_ 3 _ rfl; (with_reducible repeat (first | refine blk_drewN ?_ _ | refine blk_drew ?_ | refine blk_alloc ?_ _)); refine blk_put (cs := #[.int .i64 0, .int .i64 0, .int .i64 0, .int .i64 0, .int .i64 0, .string (⟨#[]⟩ : ByteArray)]) ?_ 2 _ rfl; (with_reducible repeat (first | refine blk_drewN ?_ _ | refine blk_drew ?_ | refine blk_alloc ?_ _)); refine blk_put (cs := #[.int .i64 0, .int .i64 0, .int .i64 0, .int .i64 0, .int .i64 0, .string (⟨#[]⟩ : ByteArray)]) ?_ 1 _ rfl; (with_reducible repeat (first | refine blk_drewN ?_ _ | refine blk_drew ?_ | refine blk_alloc ?_ _)); refine blk_put (cs := #[.int .i64 0, .int .i64 0, .int .i64 0, .int .i64 0, .int .i64 0, .string (⟨#[]⟩ : ByteArray)]) ?_ 0 _ rfl; (with_reducible repeat (first | refine blk_drewN ?_ _ | refine blk_drew ?_ | refine blk_alloc ?_ _)); exact BK194.out) Try.underlying23 rfl (by kernel_rfl)) rfl ?_
      exact ⟨by first | rfl | (simp [errW_none, errW_some] <;> rfl) | (simp [*, errW_none, errW_some] <;> rfl), by repeat (first | (with_reducible first | exact HB.out | apply below_alloc | apply pw_below_drewN | apply below_drew1 | refine below_set ?_ GE194.out) | exact HB.out)⟩
    · replace c4 := Bool.eq_false_iff.mpr c4
      subst c4
      have H1 : (if (l0.length : Int) = 64 then (if 2 ≤ 14 then (if 14 ≤ (l0.length : Int) then ((pack_Split.f k ((l0.take 14).drop 2) (([1, 1, 1, 1, 8] : List Int))).bind fun bt203 => (if 0 < (bt203.1.length : Int) then (if 1 < (bt203.1.length : Int) then (if 2 < (bt203.1.length : Int) then (if 3 < (bt203.1.length : Int) then (if 4 < (bt203.1.length : Int) then (if 14 ≤ 30 then (if 30 ≤ (l0.length : Int) then ((header_Encode.f k (wrap64 (rd bt203.1 0)) (wrap64 (rd bt203.1 1)) (wrap64 (rd bt203.1 2)) (wrap64 (rd bt203.1 3)) (wrap64 (rd bt203.1 4)) (strOfNums ((l0.take 30).drop 14))).bind fun bt214 => (if bt214.2 = 0 then ((bytes_Equal.f bt214.1 l0).bind fun t218 => (if t218 = true then (some (wrap64 (rd bt203.1 0), wrap64 (rd bt203.1 1), wrap64 (rd bt203.1 2), wrap64 (rd bt203.1 3), wrap64 (rd bt203.1 4), strOfNums ((l0.take 30).drop 14), 0)) else (some (0, 0, 0, 0, 0, (⟨#[]⟩ : ByteArray), 2)))) else (some (0, 0, 0, 0, 0, (⟨#[]⟩ : ByteArray), 2)))) else (none)) else (none)) else (none)) else (none)) else (none)) else (none)) else (none))) else (none)) else (none)) else (some (0, 0, 0, 0, 0, (⟨#[]⟩ : ByteArray), 2))) = some (r1, r2, r3, r4, r5, r6, r7) := by rw [if_neg (show ¬ (false = true) by decide)] at H; exact H
      clear H
      have H := H1
      clear H1
      by_cases c10 : (l0.length : Int) = 64
      · rw [if_pos c10] at H
        have c10b0 : ((l0.length : Int) == 64) = true := beq_iff_eq.mpr c10
        have c10b1 : ((l0.length : Int) != 64) = false := bne_eq_false_iff_eq.mpr c10
        clear c10
        by_cases c11 : 2 ≤ 14
        · rw [if_pos c11] at H
          have c11b0 := eq_true c11
          have c11b1 : decide (2 ≤ 14) = true := decide_eq_true c11
          clear c11
          by_cases c12 : 14 ≤ (l0.length : Int)
          · rw [if_pos c12] at H
            have c12b0 := eq_true c12
            have c12b1 : decide (14 ≤ (l0.length : Int)) = true := decide_eq_true c12
            clear c12
            obtain ⟨y200, hy200⟩ : ∃ y_ : List Int, y_ = (([1, 1, 1, 1, 8] : List Int)) := ⟨_, rfl⟩
            replace H : ((pack_Split.f k ((l0.take 14).drop 2) y200).bind fun bt203 => (if 0 < (bt203.1.length : Int) then (if 1 < (bt203.1.length : Int) then (if 2 < (bt203.1.length : Int) then (if 3 < (bt203.1.length : Int) then (if 4 < (bt203.1.length : Int) then (if 14 ≤ 30 then (if 30 ≤ (l0.length : Int) then ((header_Encode.f k (wrap64 (rd bt203.1 0)) (wrap64 (rd bt203.1 1)) (wrap64 (rd bt203.1 2)) (wrap64 (rd bt203.1 3)) (wrap64 (rd bt203.1 4)) (strOfNums ((l0.take 30).drop 14))).bind fun bt214 => (if bt214.2 = 0 then ((bytes_Equal.f bt214.1 l0).bind fun t218 => (if t218 = true then (some (wrap64 (rd bt203.1 0), wrap64 (rd bt203.1 1), wrap64 (rd bt203.1 2), wrap64 (rd bt203.1 3), wrap64 (rd bt203.1 4), strOfNums ((l0.take 30).drop 14), 0)) else (some (0, 0, 0, 0, 0, (⟨#[]⟩ : ByteArray), 2)))) else (some (0, 0, 0, 0, 0, (⟨#[]⟩ : ByteArray), 2)))) else (none)) else (none)) else (none)) else (none)) else (none)) else (none)) else (none))) = some (r1, r2, r3, r4, r5, r6, r7) := by first | (rw [hy200]; with_reducible exact H) | (have H2_ := (Option.bind_some _ _).symm.trans H; rw [hy200]; with_reducible exact H2_) | (have H2_ := (Option.bind_some _ _).symm.trans H; with_reducible exact H2_) | with_reducible exact H | (rw [hy200]; exact H) | exact H
            have Ny200 := Aside0.mk hy200
            clear hy200
            replace H := Option.bind_eq_some_iff.mp H
            obtain ⟨⟨t203, t206⟩, A130, H⟩ := H
            replace H : (if 0 < (t203.length : Int) then (if 1 < (t203.length : Int) then (if 2 < (t203.length : Int) then (if 3 < (t203.length : Int) then (if 4 < (t203.length : Int) then (if 14 ≤ 30 then (if 30 ≤ (l0.length : Int) then ((header_Encode.f k (wrap64 (rd t203 0)) (wrap64 (rd t203 1)) (wrap64 (rd t203 2)) (wrap64 (rd t203 3)) (wrap64 (rd t203 4)) (strOfNums ((l0.take 30).drop 14))).bind fun bt214 => (if bt214.2 = 0 then ((bytes_Equal.f bt214.1 l0).bind fun t218 => (if t218 = true then (some (wrap64 (rd t203 0), wrap64 (rd t203 1), wrap64 (rd t203 2), wrap64 (rd t203 3), wrap64 (rd t203 4), strOfNums ((l0.take 30).drop 14), 0)) else (some (0, 0, 0, 0, 0, (⟨#[]⟩ : ByteArray), 2)))) else (some (0, 0, 0, 0, 0, (⟨#[]⟩ : ByteArray), 2)))) else (none)) else (none)) else (none)) else (none)) else (none)) else (none)) else (none)) = some (r1, r2, r3, r4, r5, r6, r7) := H
            have A13 := Aside0.mk A130
            clear A130
            by_cases c14 : 0 < (t203.length : Int)
            · rw [if_pos c14] at H
              have c14b0 : decide (0 < (t203.length : Int)) = true := decide_eq_true c14
              have c14b1 : decide (0 < t203.length) = true := decide_eq_true (by omega)
              clear c14
              by_cases c15 : 1 < (t203.length : Int)
              · rw [if_pos c15] at H
                have c15b0 : decide (1 < (t203.length : Int)) = true := decide_eq_true c15
                have c15b1 : decide (1 < t203.length) = true := decide_eq_true (by omega)
                clear c15
                by_cases c16 : 2 < (t203.length : Int)
                · rw [if_pos c16] at H
                  have c16b0 : decide (2 < (t203.length : Int)) = true := decide_eq_true c16
                  have c16b1 : decide (2 < t203.length) = true := decide_eq_true (by omega)
                  clear c16
                  by_cases c17 : 3 < (t203.length : Int)
                  · rw [if_pos c17] at H
                    have c17b0 : decide (3 < (t203.length : Int)) = true := decide_eq_true c17
                    have c17b1 : decide (3 < t203.length) = true := decide_eq_true (by omega)
                    clear c17
                    by_cases c18 : 4 < (t203.length : Int)
                    · rw [if_pos c18] at H
                      have c18b0 : decide (4 < (t203.length : Int)) = true := decide_eq_true c18
                      have c18b1 : decide (4 < t203.length) = true := decide_eq_true (by omega)
                      clear c18
                      by_cases c19 : 14 ≤ 30
                      · rw [if_pos c19] at H
                        have c19b0 := eq_true c19
                        have c19b1 : decide (14 ≤ 30) = true := decide_eq_true c19
                        clear c19
                        by_cases c20 : 30 ≤ (l0.length : Int)
                        · rw [if_pos c20] at H
                          have c20b0 := eq_true c20
                          have c20b1 : decide (30 ≤ (l0.length : Int)) = true := decide_eq_true c20
                          clear c20
                          replace H := Option.bind_eq_some_iff.mp H
                          obtain ⟨⟨t214, t217⟩, A210, H⟩ := H
                          replace H : (if t217 = 0 then ((bytes_Equal.f t214 l0).bind fun t218 => (if t218 = true then (some (wrap64 (rd t203 0), wrap64 (rd t203 1), wrap64 (rd t203 2), wrap64 (rd t203 3), wrap64 (rd t203 4), strOfNums ((l0.take 30).drop 14), 0)) else (some (0, 0, 0, 0, 0, (⟨#[]⟩ : ByteArray), 2)))) else (some (0, 0, 0, 0, 0, (⟨#[]⟩ : ByteArray), 2))) = some (r1, r2, r3, r4, r5, r6, r7) := H
                          have A21 := Aside0.mk A210
                          clear A210
                          by_cases c22 : t217 = 0
                          · rw [if_pos c22] at H
                            have c22b0 : (t217 == 0) = true := beq_iff_eq.mpr c22
                            have c22b1 : (t217 != 0) = false := bne_eq_false_iff_eq.mpr c22
                            clear c22
                            replace H := Option.bind_eq_some_iff.mp H
                            obtain ⟨t218, A230, H⟩ := H
                            replace H : (if t218 = true then (some (wrap64 (rd t203 0), wrap64 (rd t203 1), wrap64 (rd t203 2), wrap64 (rd t203 3), wrap64 (rd t203 4), strOfNums ((l0.take 30).drop 14), 0)) else (some (0, 0, 0, 0, 0, (⟨#[]⟩ : ByteArray), 2))) = some (r1, r2, r3, r4, r5, r6, r7) := H
                            have A23 := Aside0.mk A230
                            clear A230
                            by_cases c24 : t218 = true
                            · subst c24
                              have H1 : (some (wrap64 (rd t203 0), wrap64 (rd t203 1), wrap64 (rd t203 2), wrap64 (rd t203 3), wrap64 (rd t203 4), strOfNums ((l0.take 30).drop 14), 0)) = some (r1, r2, r3, r4, r5, r6, r7) := by rw [if_pos rfl] at H; exact H
                              clear H
                              have H := H1
                              clear H1
                              simp only [Option.some.injEq, Prod.mk.injEq] at H
                              obtain ⟨rfl, rfl, rfl, rfl, rfl, rfl, rfl⟩ := H
                              go_enter Try.func13, Try.ntmps13
                              try go_wp2_with (first | ((with_reducible refine gate_dst (N := 2) rfl ?_); refine box_event ?hg (N := 2) ?hd (cs := #[.int .i64 0, .int .i64 0, .int .i64 0, .int .i64 0, .int .i64 0, .string (⟨#[]⟩ : ByteArray)]) (t := 23) ?hr ?_; (case hd => rfl); (case hg => rfl); (case hr => first | (go_simp; done) | (go_simp; rfl)); intro gb194 hg w25 hbox hb; have n0_ := Aside0.mk (below_step (by repeat (first | (with_reducible first | exact HB.out | apply below_alloc | apply pw_below_drewN | apply below_drew1) | exact HB.out)) hb); have n1_ := Aside0.mk (hbox); have n2_ := Aside0.mk ((by rw [hg]; exact (below_size (by repeat (first | (with_reducible first | exact HB.out | apply below_alloc | apply pw_below_drewN | apply below_drew1) | exact HB.out))) : w.heap.size ≤ gb194)); have n3_ := Aside0.mk ((by rw [hg]; exact (below_size (by repeat (first | (with_reducible first | exact HB.out | apply below_alloc | apply pw_below_drewN | apply below_drew1) | exact HB.out))) : w.heap.size ≤ gb194)); clear HB; have HB := n0_; have BK194 := n1_; have GW194 := n2_; have GE194 := n3_; clear n0_ n1_ n2_ n3_; clear hb hbox hg) | ((with_reducible refine gate_dst (N := 10) rfl ?_); refine Kd.R_make (Kd.int .u8) _ 5 rfl (N := 10) rfl 24 _ _ rfl 64 rfl rfl Try.underlying24 (.int .u8 0) 1 info5 rfl (by decide) (by omega) 0 (ok := fun _ => True) (okp := fun _ => True) rfl (fun _ hk => hk) trivial (by omega) (by omega) (Below.refl _ _) (Nat.le_refl _) ?_; intro v196 w26 ho27 hb hg_ hnew_; clear hg_ hnew_; (first | rw [← Ny195.out] at ho27 | (simp only [Int.reduceToNat] at ho27; rw [← Ny195.out] at ho27)); have n0_ := Aside0.mk (Kd.R_lower ho27 (below_size (by repeat (first | (with_reducible first | exact HB.out | apply below_alloc | apply pw_below_drewN | apply below_drew1 | refine below_set ?_ GE194.out) | exact HB.out)))); have n1_ := Aside0.mk (blk_below (g := gb194) (o := .cells #[.int .i64 0, .int .i64 0, .int .i64 0, .int .i64 0, .int .i64 0, .string (⟨#[]⟩ : ByteArray)] 23 (0, 0)) (by (with_reducible repeat (first | refine blk_drewN ?_ _ | refine blk_drew ?_ | refine blk_alloc ?_ _)); exact BK194.out) hb); have n2_ := Aside0.mk (below_step (by repeat (first | (with_reducible first | exact HB.out | apply below_alloc | apply pw_below_drewN | apply below_drew1 | refine below_set ?_ GE194.out) | exact HB.out)) hb); clear BK194; clear HB; have HO197 := n0_; have BK194 := n1_; have HB := n2_; clear n0_ n1_ n2_; clear hb ho27; obtain ⟨Ao28, co28, eo28⟩ := Kd.R_slice HO197.out; subst eo28) | ((with_reducible refine gate_callee (f := 26) rfl ?_); refine goesL_ (some 11) rfl rfl Try.func26 (by kernel_rfl) rfl #[.slice A0 l0.length c0, .slice Ao28 y195.length co28] rfl (by (try simp only [List.map_toArray, List.map_cons, List.map_nil]); first | done | rfl | (simp only [List.length_drop, List.length_take]; rfl)) ?_; (with_reducible refine (bytes_Equal.calls _ _ l0 _ _ y195 false _ ?side1 ?side2 ?side3 ?side4 A3.out).mono ?_); (case side1 => repeat (first | exact (Kd.C_below HR0.out HB.out) | (with_reducible refine Kd.C_alloc ?_ _) | (with_reducible refine Kd.C_drewN ?_ _) | (with_reducible refine Kd.C_drew ?_))); (case side2 => exact HC0.out); (case side3 => repeat (first | exact (Kd.R_reads' HO197.out).2.2 | (with_reducible refine Kd.C_alloc ?_ _) | (with_reducible refine Kd.C_drewN ?_ _) | (with_reducible refine Kd.C_drew ?_))); (case side4 => exact (Kd.R_reads' HO197.out).2.1); rintro e w' ⟨rfl, ⟨nd, rfl⟩⟩; refine ⟨_, rfl, ?_⟩; (try (rw [drewN_self w26]; generalize hq_ : World.drewN w26 _ = w26; have n0_ : Aside0 (Kd.R (Kd.int .u8) 5 w26 w.heap.size (fun _ => True) (.slice Ao28 y195.length co28) y195) := ⟨by rw [← hq_]; exact (by (with_reducible repeat (first | apply Kd.R_alloc | apply Kd.R_drewN | apply Kd.R_drew)); exact HO197.out)⟩; have n1_ : Aside0 (w26.heap[gb194]? = some (.cells #[.int .i64 0, .int .i64 0, .int .i64 0, .int .i64 0, .int .i64 0, .string (⟨#[]⟩ : ByteArray)] 23 (0, 0))) := ⟨by rw [← hq_]; exact (by (with_reducible repeat (first | refine blk_drewN ?_ _ | refine blk_drew ?_ | refine blk_alloc ?_ _)); exact BK194.out)⟩; have n2_ : Aside0 (Below w.heap.size w w26) := ⟨by rw [← hq_]; exact (by repeat (first | (with_reducible first | exact HB.out | apply below_alloc | apply pw_below_drewN | apply below_drew1 | refine below_set ?_ GE194.out) | exact HB.out))⟩; clear HO197 BK194 HB hq_; have HO197 := n0_; have BK194 := n1_; have HB := n2_; clear n0_ n1_ n2_)); obtain ⟨i029, hi029, _, hsz29, _⟩ := info_parts info5; obtain ⟨A29, hcut29, hA29, hC29⟩ := print_mid_of (P := Try.prog) (Value.int .u8) 0 24 5 .i64 .i64 Try.underlying24 hi029 hsz29 A0 c0 l0 2 14 (by omega) (by first | omega | exact of_decide_eq_true (by first | (with_reducible assumption) | assumption)) (of_decide_eq_true (by first | (with_reducible assumption) | assumption)) HC0.out; have HR199 := Aside0.mk (Kd.C_of_reads (h1 := fun _ => rfl) (hA29 _ (Kd.reads_of_C HR0.out))); have HC199 := Aside0.mk hC29; clear hA29 hC29 hi029 hsz29) | ((with_reducible refine gate_dst (N := 20) rfl ?_); refine Kd.R_lit (Kd.int .i64) _ 3 ?hg (N := 20) ?hd (xs := ([1, 1, 1, 1, 8] : List Int)) (inner := [.int .i64 1, .int .i64 1, .int .i64 1, .int .i64 1, .int .i64 8]) (ok := fun _ => True) (okp := fun _ => True) ?hr ?hp (fun _ hk => hk) trivial (Below.refl _ _) (Nat.le_refl _) (by simp) ?_; (case hd => rfl); (case hg => rfl); (case hr => first | (go_simp; done) | (go_simp; rfl)); (case hp => exact (Reps.one (show Kd.M (Kd.int .i64) _ _ _ 1 [.int .i64 1] from rfl) (Reps.one (show Kd.M (Kd.int .i64) _ _ _ 1 [.int .i64 1] from rfl) (Reps.one (show Kd.M (Kd.int .i64) _ _ _ 1 [.int .i64 1] from rfl) (Reps.one (show Kd.M (Kd.int .i64) _ _ _ 1 [.int .i64 1] from rfl) (Reps.one (show Kd.M (Kd.int .i64) _ _ _ 8 [.int .i64 8] from rfl) (Reps.none _ _))))))); intro v201 w30 ho31 hb hg_ hnew_; clear hg_ hnew_; (first | rw [← Ny200.out] at ho31 | (simp only [Int.reduceToNat] at ho31; rw [← Ny200.out] at ho31)); have n0_ := Aside0.mk (Kd.R_below (by (with_reducible repeat (first | apply Kd.R_alloc | apply Kd.R_drewN | apply Kd.R_drew)); exact HO197.out) hb); have n1_ := Aside0.mk (Kd.R_lower ho31 (below_size (by repeat (first | (with_reducible first | exact HB.out | apply below_alloc | apply pw_below_drewN | apply below_drew1 | refine below_set ?_ GE194.out) | exact HB.out)))); have n2_ := Aside0.mk (blk_below (g := gb194) (o := .cells #[.int .i64 0, .int .i64 0, .int .i64 0, .int .i64 0, .int .i64 0, .string (⟨#[]⟩ : ByteArray)] 23 (0, 0)) (by (with_reducible repeat (first | refine blk_drewN ?_ _ | refine blk_drew ?_ | refine blk_alloc ?_ _)); exact BK194.out) hb); have n3_ := Aside0.mk (below_step (by repeat (first | (with_reducible first | exact HB.out | apply below_alloc | apply pw_below_drewN | apply below_drew1 | refine below_set ?_ GE194.out) | exact HB.out)) hb); clear HO197; clear BK194; clear HB; have HO197 := n0_; have HO202 := n1_; have BK194 := n2_; have HB := n3_; clear n0_ n1_ n2_ n3_; clear hb ho31; obtain ⟨Ao32, co32, eo32⟩ := Kd.R_slice HO202.out; subst eo32) | ((with_reducible refine gate_callee (f := 27) rfl ?_); refine goesL_ (some 21) rfl rfl Try.func27 (by kernel_rfl) rfl #[.slice A29 ((l0.take 14).drop 2).length (c0 - 2), .slice Ao32 y200.length co32] rfl (by (try simp only [List.map_toArray, List.map_cons, List.map_nil]); first | done | (rw [show ((l0.take 14).drop 2).length = (14 - 2) from (by rw [List.length_drop, List.length_take]; have h_ : (14 : Int) ≤ (l0.length : Int) := of_decide_eq_true (by first | (with_reducible assumption) | assumption); omega)] <;> rfl) | rfl | (simp only [List.length_drop, List.length_take]; rfl)) ?_; (with_reducible refine (pack_Split.calls k (fun k_ => k_ < w.heap.size) _ _ ((l0.take 14).drop 2) _ _ y200 t203 t206 _ ?side1 ?side2 ?side3 A13.out).mono ?_); (case side1 => exact Kd.V_mk HC199.out (Kd.F_below (Kd.C_F (Kd.heap_int .u8) HR199.out) (by repeat (first | (with_reducible first | exact HB.out | apply below_alloc | apply pw_below_drewN | apply below_drew1 | refine below_set ?_ GE194.out) | exact HB.out)))); (case side2 => repeat (first | exact (Kd.R_reads' HO202.out).2.2 | (with_reducible refine Kd.C_alloc ?_ _) | (with_reducible refine Kd.C_drewN ?_ _) | (with_reducible refine Kd.C_drew ?_))); (case side3 => exact (Kd.R_reads' HO202.out).2.1); rintro e w33 ⟨v204, rfl, ho0, hb⟩; refine ⟨_, rfl, ?_⟩; have n0_ := Aside0.mk (Kd.R_below (by (with_reducible repeat (first | apply Kd.R_alloc | apply Kd.R_drewN | apply Kd.R_drew)); exact HO197.out) hb); have n1_ := Aside0.mk (Kd.R_below (by (with_reducible repeat (first | apply Kd.R_alloc | apply Kd.R_drewN | apply Kd.R_drew)); exact HO202.out) hb); have n2_ := Aside0.mk (Kd.R_lower (Kd.R_mono (ok' := fun k_ => True) ho0 (fun _ hk_ => trivial)) (below_size (by repeat (first | (with_reducible first | exact HB.out | apply below_alloc | apply pw_below_drewN | apply below_drew1 | refine below_set ?_ GE194.out) | exact HB.out)))); have n3_ := Aside0.mk (blk_below (g := gb194) (o := .cells #[.int .i64 0, .int .i64 0, .int .i64 0, .int .i64 0, .int .i64 0, .string (⟨#[]⟩ : ByteArray)] 23 (0, 0)) (by (with_reducible repeat (first | refine blk_drewN ?_ _ | refine blk_drew ?_ | refine blk_alloc ?_ _)); exact BK194.out) hb); have n4_ := Aside0.mk (below_step (by repeat (first | (with_reducible first | exact HB.out | apply below_alloc | apply pw_below_drewN | apply below_drew1 | refine below_set ?_ GE194.out) | exact HB.out)) hb); clear HO197; clear HO202; clear BK194; clear HB; have HO197 := n0_; have HO202 := n1_; have HO205 := n2_; have BK194 := n3_; have HB := n4_; clear n0_ n1_ n2_ n3_ n4_; (try clear hb); (try clear hb2); (try clear hk); (try clear hi); (try clear ho0)))
                              have n0_ := Aside0.mk (Kd.R_drew HO197.out)
                              have n1_ := Aside0.mk (Kd.R_drew HO202.out)
                              have n2_ := Aside0.mk (Kd.R_drew HO205.out)
                              have n3_ := Aside0.mk (blk_drew BK194.out)
                              have n4_ := Aside0.mk (below_drew1 HB.out)
                              clear HO197
                              clear HO202
                              clear HO205
                              clear BK194
                              clear HB
                              have HO197 := n0_
                              have HO202 := n1_
                              have HO205 := n2_
                              have BK194 := n3_
                              have HB := n4_
                              clear n0_ n1_ n2_ n3_ n4_
                              obtain ⟨Ao35, co35, eo35⟩ := Kd.R_slice HO205.out
                              (first | subst eo35 | (injection eo35 with f1_ f2_ f3_; have f4_ := f1_.symm; have f5_ := f3_.symm; clear f1_ f2_ f3_; subst f4_; subst f5_))
                              have p207 : 0 ≤ (0 : Int) := (by omega)
                              have q207 : 0 < (t203.length : Int) := of_decide_eq_true (by first | (with_reducible assumption) | assumption)
                              obtain ⟨ad207, e207, hx207_0⟩ := Kd.at_int (Kd.R_reads' HO205.out).2.2 0 p207 q207
                              cases e207
                              have qi207 : (0 < t203.length) = True := eq_true (by omega)
                              (try rw [show ((0 : Int)).toNat = 0 from rfl] at hx207_0)
                              (try rw [Addr.add_zero'] at hx207_0)
                              replace p207 := eq_true p207
                              replace q207 := eq_true q207
                              have p208 : 0 ≤ (1 : Int) := (by omega)
                              have q208 : 1 < (t203.length : Int) := of_decide_eq_true (by first | (with_reducible assumption) | assumption)
                              obtain ⟨ad208, e208, hx208_0⟩ := Kd.at_int (Kd.R_reads' HO205.out).2.2 1 p208 q208
                              obtain rfl : ad207 = ad208 := (by injection e208)
                              (try simp only [show (1 : Int).toNat = 1 from rfl, Nat.reduceMul, Nat.reduceEqDiff, Go.Addr.add, ↓reduceIte] at hx208_0)
                              have qi208 : (1 < t203.length) = True := eq_true (by omega)
                              (try rw [show ((1 : Int)).toNat = 1 from rfl] at hx208_0)
                              replace p208 := eq_true p208
                              replace q208 := eq_true q208
                              have p209 : 0 ≤ (2 : Int) := (by omega)
                              have q209 : 2 < (t203.length : Int) := of_decide_eq_true (by first | (with_reducible assumption) | assumption)
                              obtain ⟨ad209, e209, hx209_0⟩ := Kd.at_int (Kd.R_reads' HO205.out).2.2 2 p209 q209
                              obtain rfl : ad207 = ad209 := (by injection e209)
                              (try simp only [show (2 : Int).toNat = 2 from rfl, Nat.reduceMul, Nat.reduceEqDiff, Go.Addr.add, ↓reduceIte] at hx209_0)
                              have qi209 : (2 < t203.length) = True := eq_true (by omega)
                              (try rw [show ((2 : Int)).toNat = 2 from rfl] at hx209_0)
                              replace p209 := eq_true p209
                              replace q209 := eq_true q209
                              have p210 : 0 ≤ (3 : Int) := (by omega)
                              have q210 : 3 < (t203.length : Int) := of_decide_eq_true (by first | (with_reducible assumption) | assumption)
                              obtain ⟨ad210, e210, hx210_0⟩ := Kd.at_int (Kd.R_reads' HO205.out).2.2 3 p210 q210
                              obtain rfl : ad207 = ad210 := (by injection e210)
                              (try simp only [show (3 : Int).toNat = 3 from rfl, Nat.reduceMul, Nat.reduceEqDiff, Go.Addr.add, ↓reduceIte] at hx210_0)
                              have qi210 : (3 < t203.length) = True := eq_true (by omega)
                              (try rw [show ((3 : Int)).toNat = 3 from rfl] at hx210_0)
                              replace p210 := eq_true p210
                              replace q210 := eq_true q210
                              have p211 : 0 ≤ (4 : Int) := (by omega)
                              have q211 : 4 < (t203.length : Int) := of_decide_eq_true (by first | (with_reducible assumption) | assumption)
                              obtain ⟨ad211, e211, hx211_0⟩ := Kd.at_int (Kd.R_reads' HO205.out).2.2 4 p211 q211
                              obtain rfl : ad207 = ad211 := (by injection e211)
                              (try simp only [show (4 : Int).toNat = 4 from rfl, Nat.reduceMul, Nat.reduceEqDiff, Go.Addr.add, ↓reduceIte] at hx211_0)
                              have qi211 : (4 < t203.length) = True := eq_true (by omega)
                              (try rw [show ((4 : Int)).toNat = 4 from rfl] at hx211_0)
                              replace p211 := eq_true p211
                              replace q211 := eq_true q211
                              obtain ⟨i036, hi036, _, hsz36, _⟩ := info_parts info5
                              obtain ⟨A36, hcut36, hA36, hC36⟩ := print_mid_of (P := Try.prog) (Value.int .u8) 0 24 5 .i64 .i64 Try.underlying24 hi036 hsz36 A0 c0 l0 14 30 (by omega) (by first | omega | exact of_decide_eq_true (by first | (with_reducible assumption) | assumption)) (of_decide_eq_true (by first | (with_reducible assumption) | assumption)) HC0.out
                              have HR212 := Aside0.mk (Kd.C_of_reads (h1 := fun _ => rfl) (hA36 _ (Kd.reads_of_C HR0.out)))
                              have HC212 := Aside0.mk hC36
                              clear hA36 hC36 hi036 hsz36
                              have hcv37 := Kd.C_string (P := Try.prog) (A := A36) (c := (c0 - 14)) Try.underlying24 Try.underlying5 Try.underlying9 (Kd.C_below HR212.out HB.out)
                              have hcx37 := hcv37
                              (try simp only [Int.reduceToNat, List.length_drop, List.length_take] at hcx37)
                              refine start_ (n := 26) (S := fun w' => w'.cell? ad207 = some (.int .u64 (rd t203 0)) ∧ w'.cell? ⟨ad207.block, ad207.off + 1, none⟩ = some (.int .u64 (rd t203 1)) ∧ w'.cell? ⟨ad207.block, ad207.off + 2, none⟩ = some (.int .u64 (rd t203 2)) ∧ w'.cell? ⟨ad207.block, ad207.off + 3, none⟩ = some (.int .u64 (rd t203 3)) ∧ w'.cell? ⟨ad207.block, ad207.off + 4, none⟩ = some (.int .u64 (rd t203 4)) ∧ (convert 24 9 (.slice A36 ((l0.take 30).drop 14).length (c0 - 14))).run Try.prog w' = .ok (.string (strOfNums ((l0.take 30).drop 14))) w') (ds := []) #[false, false, false, false, false, false, false, false, false, false, false, false, false, false, false, false, false, false, false, false, false, false, false, false, false, false] (by kernel_rfl) rfl rfl ⟨hx207_0, hx208_0, hx209_0, hx210_0, hx211_0, (Kd.C_string (P := Try.prog) (A := A36) (c := (c0 - 14)) Try.underlying24 Try.underlying5 Try.underlying9 (Kd.C_below HR212.out HB.out))⟩ (fun hHeld => ?_); refine with_tabW header_Decode.tab6 header_Decode.bits6 (fun HT_ HW_ => ?_)
                              generalize w33.drew = w34 at HO197 HO202 HO205 BK194 HB HR212 hx207_0 hx208_0 hx209_0 hx210_0 hx211_0 hHeld ⊢
                              refine pure_ (i := 0) (N := some 24) (v := ?_) (a' := ?_) #[true, false, false, false, false, false, false, false, false, false, false, false, false, false, false, false, false, false, false, false, false, false, false, false, false, false] rfl rfl (any_of HT_.out (by kernel_rfl)) (fun _ _ _ h => h) (Or.inl ⟨by rfl, ?_⟩) ?_ ?_
                              rotate_left
                              · intro w'
                                go_simp
                                with_reducible rfl
                              rotate_left
                              · simp only [Act.put, List.setIfInBounds_toArray, List.set_cons_zero, List.set_cons_succ, i64_w, i32_w]
                                rfl
                              refine pure_ (i := 1) (N := some 25) (v := ?_) (a' := ?_) #[true, true, false, false, false, false, false, false, false, false, false, false, false, false, false, false, false, false, false, false, false, false, false, false, false, false] rfl rfl (any_of HT_.out (by kernel_rfl)) (fun _ _ _ h => h) (Or.inl ⟨by rfl, ?_⟩) ?_ ?_
                              rotate_left
                              · intro w'
                                go_simp
                                with_reducible rfl
                              rotate_left
                              · simp only [Act.put, List.setIfInBounds_toArray, List.set_cons_zero, List.set_cons_succ, i64_w, i32_w]
                                rfl
                              refine pure_ (i := 4) (N := some 28) (v := ?_) (a' := ?_) #[true, true, false, false, true, false, false, false, false, false, false, false, false, false, false, false, false, false, false, false, false, false, false, false, false, false] rfl rfl (any_of HT_.out (by kernel_rfl)) (fun _ _ _ h => h) (Or.inl ⟨by rfl, ?_⟩) ?_ ?_
                              rotate_left
                              · intro w'
                                go_simp
                                with_reducible rfl
                              rotate_left
                              · simp only [Act.put, List.setIfInBounds_toArray, List.set_cons_zero, List.set_cons_succ, i64_w, i32_w]
                                rfl
                              refine pure_ (i := 5) (N := some 29) (v := ?_) (a' := ?_) #[true, true, false, false, true, true, false, false, false, false, false, false, false, false, false, false, false, false, false, false, false, false, false, false, false, false] rfl rfl (any_of HT_.out (by kernel_rfl)) (fun _ _ _ h => h) (Or.inl ⟨by rfl, ?_⟩) ?_ ?_
                              rotate_left
                              · intro w'
                                go_simp
                                with_reducible rfl
                              rotate_left
                              · simp only [Act.put, List.setIfInBounds_toArray, List.set_cons_zero, List.set_cons_succ, i64_w, i32_w]
                                rfl
                              refine pure_ (i := 8) (N := some 32) (v := ?_) (a' := ?_) #[true, true, false, false, true, true, false, false, true, false, false, false, false, false, false, false, false, false, false, false, false, false, false, false, false, false] rfl rfl (any_of HT_.out (by kernel_rfl)) (fun _ _ _ h => h) (Or.inl ⟨by rfl, ?_⟩) ?_ ?_
                              rotate_left
                              · intro w'
                                go_simp
                                with_reducible rfl
                              rotate_left
                              · simp only [Act.put, List.setIfInBounds_toArray, List.set_cons_zero, List.set_cons_succ, i64_w, i32_w]
                                rfl
                              refine pure_ (i := 9) (N := some 33) (v := ?_) (a' := ?_) #[true, true, false, false, true, true, false, false, true, true, false, false, false, false, false, false, false, false, false, false, false, false, false, false, false, false] rfl rfl (any_of HT_.out (by kernel_rfl)) (fun _ _ _ h => h) (Or.inl ⟨by rfl, ?_⟩) ?_ ?_
                              rotate_left
                              · intro w'
                                go_simp
                                with_reducible rfl
                              rotate_left
                              · simp only [Act.put, List.setIfInBounds_toArray, List.set_cons_zero, List.set_cons_succ, i64_w, i32_w]
                                rfl
                              refine pure_ (i := 12) (N := some 36) (v := ?_) (a' := ?_) #[true, true, false, false, true, true, false, false, true, true, false, false, true, false, false, false, false, false, false, false, false, false, false, false, false, false] rfl rfl (any_of HT_.out (by kernel_rfl)) (fun _ _ _ h => h) (Or.inl ⟨by rfl, ?_⟩) ?_ ?_
                              rotate_left
                              · intro w'
                                go_simp
                                with_reducible rfl
                              rotate_left
                              · simp only [Act.put, List.setIfInBounds_toArray, List.set_cons_zero, List.set_cons_succ, i64_w, i32_w]
                                rfl
                              refine pure_ (i := 13) (N := some 37) (v := ?_) (a' := ?_) #[true, true, false, false, true, true, false, false, true, true, false, false, true, true, false, false, false, false, false, false, false, false, false, false, false, false] rfl rfl (any_of HT_.out (by kernel_rfl)) (fun _ _ _ h => h) (Or.inl ⟨by rfl, ?_⟩) ?_ ?_
                              rotate_left
                              · intro w'
                                go_simp
                                with_reducible rfl
                              rotate_left
                              · simp only [Act.put, List.setIfInBounds_toArray, List.set_cons_zero, List.set_cons_succ, i64_w, i32_w]
                                rfl
                              refine pure_ (i := 16) (N := some 40) (v := ?_) (a' := ?_) #[true, true, false, false, true, true, false, false, true, true, false, false, true, true, false, false, true, false, false, false, false, false, false, false, false, false] rfl rfl (any_of HT_.out (by kernel_rfl)) (fun _ _ _ h => h) (Or.inl ⟨by rfl, ?_⟩) ?_ ?_
                              rotate_left
                              · intro w'
                                go_simp
                                with_reducible rfl
                              rotate_left
                              · simp only [Act.put, List.setIfInBounds_toArray, List.set_cons_zero, List.set_cons_succ, i64_w, i32_w]
                                rfl
                              refine pure_ (i := 17) (N := some 41) (v := ?_) (a' := ?_) #[true, true, false, false, true, true, false, false, true, true, false, false, true, true, false, false, true, true, false, false, false, false, false, false, false, false] rfl rfl (any_of HT_.out (by kernel_rfl)) (fun _ _ _ h => h) (Or.inl ⟨by rfl, ?_⟩) ?_ ?_
                              rotate_left
                              · intro w'
                                go_simp
                                with_reducible rfl
                              rotate_left
                              · simp only [Act.put, List.setIfInBounds_toArray, List.set_cons_zero, List.set_cons_succ, i64_w, i32_w]
                                rfl
                              refine pure_ (i := 20) (N := some 44) (v := ?_) (a' := ?_) #[true, true, false, false, true, true, false, false, true, true, false, false, true, true, false, false, true, true, false, false, true, false, false, false, false, false] rfl rfl (any_of HT_.out (by kernel_rfl)) (fun _ _ _ h => h) (Or.inl ⟨by rfl, ?_⟩) ?_ ?_
                              rotate_left
                              · intro w'
                                go_simp
                                with_reducible rfl
                              rotate_left
                              · simp only [Act.put, List.setIfInBounds_toArray, List.set_cons_zero, List.set_cons_succ, i64_w, i32_w]
                                rfl
                              refine pure_ (i := 21) (N := some 45) (v := ?_) (a' := ?_) #[true, true, false, false, true, true, false, false, true, true, false, false, true, true, false, false, true, true, false, false, true, true, false, false, false, false] rfl rfl (any_of HT_.out (by kernel_rfl)) (fun _ _ _ h => h) (Or.inl ⟨by rfl, ?_⟩) ?_ ?_
                              rotate_left
                              · intro w'
                                go_simp
                                with_reducible rfl
                              rotate_left
                              · simp only [Act.put, List.setIfInBounds_toArray, List.set_cons_zero, List.set_cons_succ, i64_w, i32_w]
                                rfl
                              refine take_ (i := 22) (N := some 46) (v := ?_) (a' := ?_) #[true, true, false, false, true, true, false, false, true, true, false, false, true, true, false, false, true, true, false, false, true, true, true, false, false, false] rfl rfl (take_ofW HT_.out HW_.out (by kernel_rfl)) (fun _ _ _ h => h) (Or.inl ⟨by rfl, ?_⟩) hHeld ?_ ?_
                              rotate_left
                              · rintro w' ⟨s0, s1, s2, s3, s4, sS⟩
                                (try simp only [Int.reduceToNat, List.length_drop, List.length_take] at sS)
                                go_simp
                                with_reducible rfl
                              rotate_left
                              · simp only [Act.put, List.setIfInBounds_toArray, List.set_cons_zero, List.set_cons_succ, i64_w, i32_w]
                                rfl
                              refine take_ (i := 2) (N := some 26) (v := ?_) (a' := ?_) #[true, true, true, false, true, true, false, false, true, true, false, false, true, true, false, false, true, true, false, false, true, true, true, false, false, false] rfl rfl (take_ofW HT_.out HW_.out (by kernel_rfl)) (fun _ _ _ h => h) (Or.inl ⟨by rfl, ?_⟩) hHeld ?_ ?_
                              rotate_left
                              · rintro w' ⟨s0, s1, s2, s3, s4, sS⟩
                                go_simp
                                with_reducible rfl
                              rotate_left
                              · simp only [Act.put, List.setIfInBounds_toArray, List.set_cons_zero, List.set_cons_succ, i64_w, i32_w]
                                rfl
                              refine pure_ (i := 3) (N := some 27) (v := ?_) (a' := ?_) #[true, true, true, true, true, true, false, false, true, true, false, false, true, true, false, false, true, true, false, false, true, true, true, false, false, false] rfl rfl (any_of HT_.out (by kernel_rfl)) (fun _ _ _ h => h) (Or.inl ⟨by rfl, ?_⟩) ?_ ?_
                              rotate_left
                              · intro w'
                                go_simp
                                with_reducible rfl
                              rotate_left
                              · simp only [Act.put, List.setIfInBounds_toArray, List.set_cons_zero, List.set_cons_succ, i64_w, i32_w]
                                rfl
                              refine take_ (i := 6) (N := some 30) (v := ?_) (a' := ?_) #[true, true, true, true, true, true, true, false, true, true, false, false, true, true, false, false, true, true, false, false, true, true, true, false, false, false] rfl rfl (take_ofW HT_.out HW_.out (by kernel_rfl)) (fun _ _ _ h => h) (Or.inl ⟨by rfl, ?_⟩) hHeld ?_ ?_
                              rotate_left
                              · rintro w' ⟨s0, s1, s2, s3, s4, sS⟩
                                go_simp
                                with_reducible rfl
                              rotate_left
                              · simp only [Act.put, List.setIfInBounds_toArray, List.set_cons_zero, List.set_cons_succ, i64_w, i32_w]
                                rfl
                              refine pure_ (i := 7) (N := some 31) (v := ?_) (a' := ?_) #[true, true, true, true, true, true, true, true, true, true, false, false, true, true, false, false, true, true, false, false, true, true, true, false, false, false] rfl rfl (any_of HT_.out (by kernel_rfl)) (fun _ _ _ h => h) (Or.inl ⟨by rfl, ?_⟩) ?_ ?_
                              rotate_left
                              · intro w'
                                go_simp
                                with_reducible rfl
                              rotate_left
                              · simp only [Act.put, List.setIfInBounds_toArray, List.set_cons_zero, List.set_cons_succ, i64_w, i32_w]
                                rfl
                              refine take_ (i := 10) (N := some 34) (v := ?_) (a' := ?_) #[true, true, true, true, true, true, true, true, true, true, true, false, true, true, false, false, true, true, false, false, true, true, true, false, false, false] rfl rfl (take_ofW HT_.out HW_.out (by kernel_rfl)) (fun _ _ _ h => h) (Or.inl ⟨by rfl, ?_⟩) hHeld ?_ ?_
                              rotate_left
                              · rintro w' ⟨s0, s1, s2, s3, s4, sS⟩
                                go_simp
                                with_reducible rfl
                              rotate_left
                              · simp only [Act.put, List.setIfInBounds_toArray, List.set_cons_zero, List.set_cons_succ, i64_w, i32_w]
                                rfl
                              refine pure_ (i := 11) (N := some 35) (v := ?_) (a' := ?_) #[true, true, true, true, true, true, true, true, true, true, true, true, true, true, false, false, true, true, false, false, true, true, true, false, false, false] rfl rfl (any_of HT_.out (by kernel_rfl)) (fun _ _ _ h => h) (Or.inl ⟨by rfl, ?_⟩) ?_ ?_
                              rotate_left
                              · intro w'
                                go_simp
                                with_reducible rfl
                              rotate_left
                              · simp only [Act.put, List.setIfInBounds_toArray, List.set_cons_zero, List.set_cons_succ, i64_w, i32_w]
                                rfl
                              refine take_ (i := 14) (N := some 38) (v := ?_) (a' := ?_) #[true, true, true, true, true, true, true, true, true, true, true, true, true, true, true, false, true, true, false, false, true, true, true, false, false, false] rfl rfl (take_ofW HT_.out HW_.out (by kernel_rfl)) (fun _ _ _ h => h) (Or.inl ⟨by rfl, ?_⟩) hHeld ?_ ?_
                              rotate_left
                              · rintro w' ⟨s0, s1, s2, s3, s4, sS⟩
                                go_simp
                                with_reducible rfl
                              rotate_left
                              · simp only [Act.put, List.setIfInBounds_toArray, List.set_cons_zero, List.set_cons_succ, i64_w, i32_w]
                                rfl
                              refine pure_ (i := 15) (N := some 39) (v := ?_) (a' := ?_) #[true, true, true, true, true, true, true, true, true, true, true, true, true, true, true, true, true, true, false, false, true, true, true, false, false, false] rfl rfl (any_of HT_.out (by kernel_rfl)) (fun _ _ _ h => h) (Or.inl ⟨by rfl, ?_⟩) ?_ ?_
                              rotate_left
                              · intro w'
                                go_simp
                                with_reducible rfl
                              rotate_left
                              · simp only [Act.put, List.setIfInBounds_toArray, List.set_cons_zero, List.set_cons_succ, i64_w, i32_w]
                                rfl
                              refine take_ (i := 18) (N := some 42) (v := ?_) (a' := ?_) #[true, true, true, true, true, true, true, true, true, true, true, true, true, true, true, true, true, true, true, false, true, true, true, false, false, false] rfl rfl (take_ofW HT_.out HW_.out (by kernel_rfl)) (fun _ _ _ h => h) (Or.inl ⟨by rfl, ?_⟩) hHeld ?_ ?_
                              rotate_left
                              · rintro w' ⟨s0, s1, s2, s3, s4, sS⟩
                                go_simp
                                with_reducible rfl
                              rotate_left
                              · simp only [Act.put, List.setIfInBounds_toArray, List.set_cons_zero, List.set_cons_succ, i64_w, i32_w]
                                rfl
                              refine pure_ (i := 19) (N := some 43) (v := ?_) (a' := ?_) #[true, true, true, true, true, true, true, true, true, true, true, true, true, true, true, true, true, true, true, true, true, true, true, false, false, false] rfl rfl (any_of HT_.out (by kernel_rfl)) (fun _ _ _ h => h) (Or.inl ⟨by rfl, ?_⟩) ?_ ?_
                              rotate_left
                              · intro w'
                                go_simp
                                with_reducible rfl
                              rotate_left
                              · simp only [Act.put, List.setIfInBounds_toArray, List.set_cons_zero, List.set_cons_succ, i64_w, i32_w]
                                rfl
                              refine pure_ (i := 23) (N := some 47) (v := ?_) (a' := ?_) #[true, true, true, true, true, true, true, true, true, true, true, true, true, true, true, true, true, true, true, true, true, true, true, true, false, false] rfl rfl (any_of HT_.out (by kernel_rfl)) (fun _ _ _ h => h) (Or.inl ⟨by rfl, ?_⟩) ?_ ?_
                              rotate_left
                              · intro w'
                                go_simp
                                with_reducible rfl
                              rotate_left
                              · simp only [Act.put, List.setIfInBounds_toArray, List.set_cons_zero, List.set_cons_succ, i64_w, i32_w]
                                rfl
                              refine one_ (i := 24) (N := some 6) #[true, true, true, true, true, true, true, true, true, true, true, true, true, true, true, true, true, true, true, true, true, true, true, true, true, false] rfl rfl (one_of HT_.out (by kernel_rfl)) (by decide) (fun K hK => ?_)
                              refine box_step ?hg (N := 6) ?hd (cs := #[.int .i64 0, .int .i64 0, .int .i64 0, .int .i64 0, .int .i64 0, .string (⟨#[]⟩ : ByteArray)]) (t := 23) ?hr ?_; (case hd => rfl); (case hg => rfl); (case hr => first | (go_simp; done) | (go_simp; rfl))
                              intro gb213 hg w38 hbox hb
                              have HS0_ := (hb.cell (World.block_lt_of_cell? _ _ (hHeld.1))).trans (hHeld.1)
                              have HS1_ := (hb.cell (World.block_lt_of_cell? _ _ (hHeld.2.1))).trans (hHeld.2.1)
                              have HS2_ := (hb.cell (World.block_lt_of_cell? _ _ (hHeld.2.2.1))).trans (hHeld.2.2.1)
                              have HS3_ := (hb.cell (World.block_lt_of_cell? _ _ (hHeld.2.2.2.1))).trans (hHeld.2.2.2.1)
                              have HS4_ := (hb.cell (World.block_lt_of_cell? _ _ (hHeld.2.2.2.2.1))).trans (hHeld.2.2.2.2.1)
                              have n0_ := Aside0.mk (Kd.R_below (by (with_reducible repeat (first | apply Kd.R_alloc | apply Kd.R_drewN | apply Kd.R_drew)); exact HO197.out) hb)
                              have n1_ := Aside0.mk (Kd.R_below (by (with_reducible repeat (first | apply Kd.R_alloc | apply Kd.R_drewN | apply Kd.R_drew)); exact HO202.out) hb)
                              have n2_ := Aside0.mk (Kd.R_below (by (with_reducible repeat (first | apply Kd.R_alloc | apply Kd.R_drewN | apply Kd.R_drew)); exact HO205.out) hb)
                              have n3_ := Aside0.mk (blk_below (g := gb194) (o := .cells #[.int .i64 0, .int .i64 0, .int .i64 0, .int .i64 0, .int .i64 0, .string (⟨#[]⟩ : ByteArray)] 23 (0, 0)) (by (with_reducible repeat (first | refine blk_drewN ?_ _ | refine blk_drew ?_ | refine blk_alloc ?_ _)); exact BK194.out) hb)
                              have n4_ := Aside0.mk (below_step (by repeat (first | (with_reducible first | exact HB.out | apply below_alloc | apply pw_below_drewN | apply below_drew1 | refine below_set ?_ GE194.out) | exact HB.out)) hb)
                              have n5_ := Aside0.mk (hbox)
                              have n6_ := Aside0.mk ((by rw [hg]; exact (below_size (by repeat (first | (with_reducible first | exact HB.out | apply below_alloc | apply pw_below_drewN | apply below_drew1 | refine below_set ?_ GE194.out) | exact HB.out))) : w.heap.size ≤ gb213))
                              have n7_ := Aside0.mk ((by rw [hg]; exact (below_size (by repeat (first | (with_reducible first | exact HB.out | apply below_alloc | apply pw_below_drewN | apply below_drew1 | refine below_set ?_ GE194.out) | exact HB.out))) : w.heap.size ≤ gb213))
                              have n8_ := Aside0.mk ((by rw [hg]; exact Nat.ne_of_lt (blk_lt (g := gb194) (o := .cells #[.int .i64 0, .int .i64 0, .int .i64 0, .int .i64 0, .int .i64 0, .string (⟨#[]⟩ : ByteArray)] 23 (0, 0)) (by (with_reducible repeat (first | refine blk_drewN ?_ _ | refine blk_drew ?_ | refine blk_alloc ?_ _)); exact BK194.out)) : gb194 ≠ gb213))
                              have n9_ := Aside0.mk ((by rw [hg]; exact Nat.ne_of_gt (blk_lt (g := gb194) (o := .cells #[.int .i64 0, .int .i64 0, .int .i64 0, .int .i64 0, .int .i64 0, .string (⟨#[]⟩ : ByteArray)] 23 (0, 0)) (by (with_reducible repeat (first | refine blk_drewN ?_ _ | refine blk_drew ?_ | refine blk_alloc ?_ _)); exact BK194.out)) : gb213 ≠ gb194))
                              clear HO197
                              clear HO202
                              clear HO205
                              clear BK194
                              clear HB
                              have HO197 := n0_
                              have HO202 := n1_
                              have HO205 := n2_
                              have BK194 := n3_
                              have HB := n4_
                              have BK213 := n5_
                              have GW213 := n6_
                              have GE213 := n7_
                              have NB194_213 := n8_
                              have NB213_194 := n9_
                              clear n0_ n1_ n2_ n3_ n4_ n5_ n6_ n7_ n8_ n9_
                              clear hb hbox hg
                              refine hK.out _ _ ⟨HS0_, HS1_, HS2_, HS3_, HS4_, (Kd.C_string (P := Try.prog) (A := A36) (c := (c0 - 14)) Try.underlying24 Try.underlying5 Try.underlying9 (Kd.C_below HR212.out (by repeat (first | (with_reducible first | exact HB.out | apply below_alloc | apply pw_below_drewN | apply below_drew1 | refine below_set ?_ GE194.out | refine below_set ?_ GE213.out) | exact HB.out))))⟩ (fun hHeld => ?_)
                              clear hK K
                              refine norm_ (a' := ?_) ?_ ?_
                              rotate_left
                              · show Act.put _ (some 6) _ = _
                                simp only [Act.put, List.setIfInBounds_toArray, List.set_cons_zero, List.set_cons_succ, i64_w, i32_w]
                                rfl
                              refine one_ (i := 25) (N := none) #[true, true, true, true, true, true, true, true, true, true, true, true, true, true, true, true, true, true, true, true, true, true, true, true, true, true] rfl rfl (one_of HT_.out (by kernel_rfl)) (by decide) (fun K hK => ?_)
                              have hs40 : w38.cell? ⟨gb213, 0, none⟩ = some (.int .i64 0) := (blk_cell BK213.out 0).trans rfl
                              have hfs40 := blk_frozen BK213.out 0
                              have hns40_0 := NB194_213.out
                              have hms40_0 := NB213_194.out
                              have hs41 : w38.cell? ⟨gb213, 1, none⟩ = some (.int .i64 0) := (blk_cell BK213.out 1).trans rfl
                              have hfs41 := blk_frozen BK213.out 1
                              have hns41_0 := NB194_213.out
                              have hms41_0 := NB213_194.out
                              have hs42 : w38.cell? ⟨gb213, 2, none⟩ = some (.int .i64 0) := (blk_cell BK213.out 2).trans rfl
                              have hfs42 := blk_frozen BK213.out 2
                              have hns42_0 := NB194_213.out
                              have hms42_0 := NB213_194.out
                              have hs43 : w38.cell? ⟨gb213, 3, none⟩ = some (.int .i64 0) := (blk_cell BK213.out 3).trans rfl
                              have hfs43 := blk_frozen BK213.out 3
                              have hns43_0 := NB194_213.out
                              have hms43_0 := NB213_194.out
                              have hs44 : w38.cell? ⟨gb213, 4, none⟩ = some (.int .i64 0) := (blk_cell BK213.out 4).trans rfl
                              have hfs44 := blk_frozen BK213.out 4
                              have hns44_0 := NB194_213.out
                              have hms44_0 := NB213_194.out
                              have hs45 : w38.cell? ⟨gb213, 5, none⟩ = some (.string (⟨#[]⟩ : ByteArray)) := (blk_cell BK213.out 5).trans rfl
                              have hfs45 := blk_frozen BK213.out 5
                              have hns45_0 := NB194_213.out
                              have hms45_0 := NB213_194.out
                              refine skip_ (w1 := ?_) (by rfl) rfl ?_ ?_
                              rotate_left
                              · go_simp
                                rfl
                              have hfar1_ := Kd.own_blk (Kd.R_ne HO205.out BK213.out (by decide))
                              refine hK.out _ _ ⟨(Fz.far (by first | exact hfar1_ | (rw [add_block]; exact hfar1_) | (show (Addr.add _ _).block ≠ _; rw [add_block]; exact hfar1_) | (dsimp only; exact hfar1_)) ((Fz.far (by first | exact hfar1_ | (rw [add_block]; exact hfar1_) | (show (Addr.add _ _).block ≠ _; rw [add_block]; exact hfar1_) | (dsimp only; exact hfar1_)) ((Fz.far (by first | exact hfar1_ | (rw [add_block]; exact hfar1_) | (show (Addr.add _ _).block ≠ _; rw [add_block]; exact hfar1_) | (dsimp only; exact hfar1_)) ((Fz.far (by first | exact hfar1_ | (rw [add_block]; exact hfar1_) | (show (Addr.add _ _).block ≠ _; rw [add_block]; exact hfar1_) | (dsimp only; exact hfar1_)) ((Fz.far (by first | exact hfar1_ | (rw [add_block]; exact hfar1_) | (show (Addr.add _ _).block ≠ _; rw [add_block]; exact hfar1_) | (dsimp only; exact hfar1_)) ((Fz.far (by first | exact hfar1_ | (rw [add_block]; exact hfar1_) | (show (Addr.add _ _).block ≠ _; rw [add_block]; exact hfar1_) | (dsimp only; exact hfar1_)) (hHeld.1)))))))))))), (Fz.far (by first | exact hfar1_ | (rw [add_block]; exact hfar1_) | (show (Addr.add _ _).block ≠ _; rw [add_block]; exact hfar1_) | (dsimp only; exact hfar1_)) ((Fz.far (by first | exact hfar1_ | (rw [add_block]; exact hfar1_) | (show (Addr.add _ _).block ≠ _; rw [add_block]; exact hfar1_) | (dsimp only; exact hfar1_)) ((Fz.far (by first | exact hfar1_ | (rw [add_block]; exact hfar1_) | (show (Addr.add _ _).block ≠ _; rw [add_block]; exact hfar1_) | (dsimp only; exact hfar1_)) ((Fz.far (by first | exact hfar1_ | (rw [add_block]; exact hfar1_) | (show (Addr.add _ _).block ≠ _; rw [add_block]; exact hfar1_) | (dsimp only; exact hfar1_)) ((Fz.far (by first | exact hfar1_ | (rw [add_block]; exact hfar1_) | (show (Addr.add _ _).block ≠ _; rw [add_block]; exact hfar1_) | (dsimp only; exact hfar1_)) ((Fz.far (by first | exact hfar1_ | (rw [add_block]; exact hfar1_) | (show (Addr.add _ _).block ≠ _; rw [add_block]; exact hfar1_) | (dsimp only; exact hfar1_)) (hHeld.2.1)))))))))))), (Fz.far (by first | exact hfar1_ | (rw [add_block]; exact hfar1_) | (show (Addr.add _ _).block ≠ _; rw [add_block]; exact hfar1_) | (dsimp only; exact hfar1_)) ((Fz.far (by first | exact hfar1_ | (rw [add_block]; exact hfar1_) | (show (Addr.add _ _).block ≠ _; rw [add_block]; exact hfar1_) | (dsimp only; exact hfar1_)) ((Fz.far (by first | exact hfar1_ | (rw [add_block]; exact hfar1_) | (show (Addr.add _ _).block ≠ _; rw [add_block]; exact hfar1_) | (dsimp only; exact hfar1_)) ((Fz.far (by first | exact hfar1_ | (rw [add_block]; exact hfar1_) | (show (Addr.add _ _).block ≠ _; rw [add_block]; exact hfar1_) | (dsimp only; exact hfar1_)) ((Fz.far (by first | exact hfar1_ | (rw [add_block]; exact hfar1_) | (show (Addr.add _ _).block ≠ _; rw [add_block]; exact hfar1_) | (dsimp only; exact hfar1_)) ((Fz.far (by first | exact hfar1_ | (rw [add_block]; exact hfar1_) | (show (Addr.add _ _).block ≠ _; rw [add_block]; exact hfar1_) | (dsimp only; exact hfar1_)) (hHeld.2.2.1)))))))))))), (Fz.far (by first | exact hfar1_ | (rw [add_block]; exact hfar1_) | (show (Addr.add _ _).block ≠ _; rw [add_block]; exact hfar1_) | (dsimp only; exact hfar1_)) ((Fz.far (by first | exact hfar1_ | (rw [add_block]; exact hfar1_) | (show (Addr.add _ _).block ≠ _; rw [add_block]; exact hfar1_) | (dsimp only; exact hfar1_)) ((Fz.far (by first | exact hfar1_ | (rw [add_block]; exact hfar1_) | (show (Addr.add _ _).block ≠ _; rw [add_block]; exact hfar1_) | (dsimp only; exact hfar1_)) ((Fz.far (by first | exact hfar1_ | (rw [add_block]; exact hfar1_) | (show (Addr.add _ _).block ≠ _; rw [add_block]; exact hfar1_) | (dsimp only; exact hfar1_)) ((Fz.far (by first | exact hfar1_ | (rw [add_block]; exact hfar1_) | (show (Addr.add _ _).block ≠ _; rw [add_block]; exact hfar1_) | (dsimp only; exact hfar1_)) ((Fz.far (by first | exact hfar1_ | (rw [add_block]; exact hfar1_) | (show (Addr.add _ _).block ≠ _; rw [add_block]; exact hfar1_) | (dsimp only; exact hfar1_)) (hHeld.2.2.2.1)))))))))))), (Fz.far (by first | exact hfar1_ | (rw [add_block]; exact hfar1_) | (show (Addr.add _ _).block ≠ _; rw [add_block]; exact hfar1_) | (dsimp only; exact hfar1_)) ((Fz.far (by first | exact hfar1_ | (rw [add_block]; exact hfar1_) | (show (Addr.add _ _).block ≠ _; rw [add_block]; exact hfar1_) | (dsimp only; exact hfar1_)) ((Fz.far (by first | exact hfar1_ | (rw [add_block]; exact hfar1_) | (show (Addr.add _ _).block ≠ _; rw [add_block]; exact hfar1_) | (dsimp only; exact hfar1_)) ((Fz.far (by first | exact hfar1_ | (rw [add_block]; exact hfar1_) | (show (Addr.add _ _).block ≠ _; rw [add_block]; exact hfar1_) | (dsimp only; exact hfar1_)) ((Fz.far (by first | exact hfar1_ | (rw [add_block]; exact hfar1_) | (show (Addr.add _ _).block ≠ _; rw [add_block]; exact hfar1_) | (dsimp only; exact hfar1_)) ((Fz.far (by first | exact hfar1_ | (rw [add_block]; exact hfar1_) | (show (Addr.add _ _).block ≠ _; rw [add_block]; exact hfar1_) | (dsimp only; exact hfar1_)) (hHeld.2.2.2.2.1)))))))))))), (Kd.C_string (P := Try.prog) (A := A36) (c := (c0 - 14)) Try.underlying24 Try.underlying5 Try.underlying9 (Kd.C_below HR212.out (by repeat (first | (with_reducible first | exact HB.out | apply below_alloc | apply pw_below_drewN | apply below_drew1 | refine below_set ?_ GE194.out | refine below_set ?_ GE213.out) | exact HB.out))))⟩ (fun hHeld => ?_)
                              clear hK K
                              refine done_ (done_of HT_.out (by kernel_rfl)) ?_
                              have hnb46 := NB213_194.out
                              have hnc46 := NB194_213.out
                              have hcz47_0 : w38.cell? ⟨gb213, 0, none⟩ = some (.int .i64 0) := (blk_cell BK213.out 0).trans rfl
                              have hcz47_1 : w38.cell? ⟨gb213, 1, none⟩ = some (.int .i64 0) := (blk_cell BK213.out 1).trans rfl
                              have hcz47_2 : w38.cell? ⟨gb213, 2, none⟩ = some (.int .i64 0) := (blk_cell BK213.out 2).trans rfl
                              have hcz47_3 : w38.cell? ⟨gb213, 3, none⟩ = some (.int .i64 0) := (blk_cell BK213.out 3).trans rfl
                              have hcz47_4 : w38.cell? ⟨gb213, 4, none⟩ = some (.int .i64 0) := (blk_cell BK213.out 4).trans rfl
                              have hcz47_5 : w38.cell? ⟨gb213, 5, none⟩ = some (.string (⟨#[]⟩ : ByteArray)) := (blk_cell BK213.out 5).trans rfl
                              have hfz47_0 := blk_frozen BK213.out 0
                              have hfz47_1 := blk_frozen BK213.out 1
                              have hfz47_2 := blk_frozen BK213.out 2
                              have hfz47_3 := blk_frozen BK213.out 3
                              have hfz47_4 := blk_frozen BK213.out 4
                              have hfz47_5 := blk_frozen BK213.out 5
                              try go_wp2_with (first | ((with_reducible refine gate_callee (f := 10) rfl ?_); refine goesL_ (some 50) rfl rfl Try.func10 (by kernel_rfl) rfl #[.agg #[.int .i64 (wrap64 (rd t203 0)), .int .i64 (wrap64 (rd t203 1)), .int .i64 (wrap64 (rd t203 2)), .int .i64 (wrap64 (rd t203 3)), .int .i64 (wrap64 (rd t203 4)), .string (strOfNums ((l0.take 30).drop 14))]] rfl (by (try simp only [List.map_toArray, List.map_cons, List.map_nil]); first | done | rfl | (simp only [List.length_drop, List.length_take]; rfl)) ?_; (with_reducible refine (header_Encode.calls k (wrap64 (rd t203 0)) (wrap64 (rd t203 1)) (wrap64 (rd t203 2)) (wrap64 (rd t203 3)) (wrap64 (rd t203 4)) (strOfNums ((l0.take 30).drop 14)) t214 t217 _ A21.out).mono ?_); rintro e w48 ⟨v215, rfl, ho0, hb⟩; refine ⟨_, rfl, ?_⟩; have n0_ := Aside0.mk (Kd.R_elder' (by (with_reducible repeat (first | apply Kd.R_alloc | apply Kd.R_drewN | apply Kd.R_drew)); exact (Kd.R_mono (Kd.R_far (p := ⟨gb213, 5, none⟩) (Kd.R_far (p := ⟨gb213, 4, none⟩) (Kd.R_far (p := ⟨gb213, 3, none⟩) (Kd.R_far (p := ⟨gb213, 2, none⟩) (Kd.R_far (p := ⟨gb213, 1, none⟩) (Kd.R_far (p := ⟨gb213, 0, none⟩) (Kd.R_types HO197.out BK213.out (by decide)) (fun _ hk => hk.2) (.int .i64 (wrap64 (rd t203 0)))) (fun _ hk => hk.2) (.int .i64 (wrap64 (rd t203 1)))) (fun _ hk => hk.2) (.int .i64 (wrap64 (rd t203 2)))) (fun _ hk => hk.2) (.int .i64 (wrap64 (rd t203 3)))) (fun _ hk => hk.2) (.int .i64 (wrap64 (rd t203 4)))) (fun _ hk => hk.2) (.string (strOfNums ((l0.take 30).drop 14)))) (fun _ h_ => h_.1))) (Kd.R_base ho0) hb); have n1_ := Aside0.mk (Kd.R_below (by (with_reducible repeat (first | apply Kd.R_alloc | apply Kd.R_drewN | apply Kd.R_drew)); exact (Kd.R_mono (Kd.R_far (p := ⟨gb213, 5, none⟩) (Kd.R_far (p := ⟨gb213, 4, none⟩) (Kd.R_far (p := ⟨gb213, 3, none⟩) (Kd.R_far (p := ⟨gb213, 2, none⟩) (Kd.R_far (p := ⟨gb213, 1, none⟩) (Kd.R_far (p := ⟨gb213, 0, none⟩) (Kd.R_types HO202.out BK213.out (by decide)) (fun _ hk => hk.2) (.int .i64 (wrap64 (rd t203 0)))) (fun _ hk => hk.2) (.int .i64 (wrap64 (rd t203 1)))) (fun _ hk => hk.2) (.int .i64 (wrap64 (rd t203 2)))) (fun _ hk => hk.2) (.int .i64 (wrap64 (rd t203 3)))) (fun _ hk => hk.2) (.int .i64 (wrap64 (rd t203 4)))) (fun _ hk => hk.2) (.string (strOfNums ((l0.take 30).drop 14)))) (fun _ h_ => h_.1))) hb); have n2_ := Aside0.mk (Kd.R_below (by (with_reducible repeat (first | apply Kd.R_alloc | apply Kd.R_drewN | apply Kd.R_drew)); exact (Kd.R_mono (Kd.R_far (p := ⟨gb213, 5, none⟩) (Kd.R_far (p := ⟨gb213, 4, none⟩) (Kd.R_far (p := ⟨gb213, 3, none⟩) (Kd.R_far (p := ⟨gb213, 2, none⟩) (Kd.R_far (p := ⟨gb213, 1, none⟩) (Kd.R_far (p := ⟨gb213, 0, none⟩) (Kd.R_types HO205.out BK213.out (by decide)) (fun _ hk => hk.2) (.int .i64 (wrap64 (rd t203 0)))) (fun _ hk => hk.2) (.int .i64 (wrap64 (rd t203 1)))) (fun _ hk => hk.2) (.int .i64 (wrap64 (rd t203 2)))) (fun _ hk => hk.2) (.int .i64 (wrap64 (rd t203 3)))) (fun _ hk => hk.2) (.int .i64 (wrap64 (rd t203 4)))) (fun _ hk => hk.2) (.string (strOfNums ((l0.take 30).drop 14)))) (fun _ h_ => h_.1))) hb); have n3_ := Aside0.mk (Kd.R_lower (Kd.R_new' ho0 (Kd.R_lt (by (with_reducible repeat (first | apply Kd.R_alloc | apply Kd.R_drewN | apply Kd.R_drew)); exact (Kd.R_mono (Kd.R_far (p := ⟨gb213, 5, none⟩) (Kd.R_far (p := ⟨gb213, 4, none⟩) (Kd.R_far (p := ⟨gb213, 3, none⟩) (Kd.R_far (p := ⟨gb213, 2, none⟩) (Kd.R_far (p := ⟨gb213, 1, none⟩) (Kd.R_far (p := ⟨gb213, 0, none⟩) (Kd.R_types HO197.out BK213.out (by decide)) (fun _ hk => hk.2) (.int .i64 (wrap64 (rd t203 0)))) (fun _ hk => hk.2) (.int .i64 (wrap64 (rd t203 1)))) (fun _ hk => hk.2) (.int .i64 (wrap64 (rd t203 2)))) (fun _ hk => hk.2) (.int .i64 (wrap64 (rd t203 3)))) (fun _ hk => hk.2) (.int .i64 (wrap64 (rd t203 4)))) (fun _ hk => hk.2) (.string (strOfNums ((l0.take 30).drop 14)))) (fun _ h_ => h_.1))))) (below_size (by repeat (first | (with_reducible first | exact HB.out | apply below_alloc | apply pw_below_drewN | apply below_drew1 | refine below_set ?_ GE194.out | refine below_set ?_ GE213.out) | exact HB.out)))); have n4_ := Aside0.mk (blk_below (g := gb194) (o := .cells #[.int .i64 0, .int .i64 0, .int .i64 0, .int .i64 0, .int .i64 0, .string (⟨#[]⟩ : ByteArray)] 23 (0, 0)) (by (with_reducible repeat (first | refine blk_drewN ?_ _ | refine blk_drew ?_ | refine blk_alloc ?_ _)); refine blk_far ?_ NB194_213.out _; (with_reducible repeat (first | refine blk_drewN ?_ _ | refine blk_drew ?_ | refine blk_alloc ?_ _)); refine blk_far ?_ NB194_213.out _; (with_reducible repeat (first | refine blk_drewN ?_ _ | refine blk_drew ?_ | refine blk_alloc ?_ _)); refine blk_far ?_ NB194_213.out _; (with_reducible repeat (first | refine blk_drewN ?_ _ | refine blk_drew ?_ | refine blk_alloc ?_ _)); refine blk_far ?_ NB194_213.out _; (with_reducible repeat (first | refine blk_drewN ?_ _ | refine blk_drew ?_ | refine blk_alloc ?_ _)); refine blk_far ?_ NB194_213.out _; (with_reducible repeat (first | refine blk_drewN ?_ _ | refine blk_drew ?_ | refine blk_alloc ?_ _)); refine blk_far ?_ NB194_213.out _; (with_reducible repeat (first | refine blk_drewN ?_ _ | refine blk_drew ?_ | refine blk_alloc ?_ _)); exact BK194.out) hb); have n5_ := Aside0.mk (blk_below (g := gb213) (o := .cells #[.int .i64 (wrap64 (rd t203 0)), .int .i64 (wrap64 (rd t203 1)), .int .i64 (wrap64 (rd t203 2)), .int .i64 (wrap64 (rd t203 3)), .int .i64 (wrap64 (rd t203 4)), .string (strOfNums ((l0.take 30).drop 14))] 23 (0, 0)) (by (with_reducible repeat (first | refine blk_drewN ?_ _ | refine blk_drew ?_ | refine blk_alloc ?_ _)); refine blk_put (cs := #[.int .i64 (wrap64 (rd t203 0)), .int .i64 (wrap64 (rd t203 1)), .int .i64 (wrap64 (rd t203 2)), .int .i64 (wrap64 (rd t203 3)), .int .i64 (wrap64 (rd t203 4)), .string (⟨#[]⟩ : ByteArray)]) ?_ 5 _ rfl; (with_reducible repeat (first | refine blk_drewN ?_ _ | refine blk_drew ?_ | refine blk_alloc ?_ _)); refine blk_put (cs := #[.int .i64 (wrap64 (rd t203 0)), .int .i64 (wrap64 (rd t203 1)), .int .i64 (wrap64 (rd t203 2)), .int .i64 (wrap64 (rd t203 3)), .int .i64 0, .string (⟨#[]⟩ : ByteArray)]) ?_ 4 _ rfl; (with_reducible repeat (first | refine blk_drewN ?_ _ | refine blk_drew ?_ | refine blk_alloc ?_ _)); refine blk_put (cs := #[.int .i64 (wrap64 (rd t203 0)), .int .i64 (wrap64 (rd t203 1)), .int .i64 (wrap64 (rd t203 2)), .int .i64 0, .int .i64 0, .string (⟨#[]⟩ : ByteArray)]) ?_ 3 _ rfl; (with_reducible repeat (first | refine blk_drewN ?_ _ | refine blk_drew ?_ | refine blk_alloc ?_ _)); refine blk_put (cs := #[.int .i64 (wrap64 (rd t203 0)), .int .i64 (wrap64 (rd t203 1)), .int .i64 0, .int .i64 0, .int .i64 0, .string (⟨#[]⟩ : ByteArray)]) ?_ 2 _ rfl; (with_reducible repeat (first | refine blk_drewN ?_ _ | refine blk_drew ?_ | refine blk_alloc ?_ _)); refine blk_put (cs := #[.int .i64 (wrap64 (rd t203 0)), .int .i64 0, .int .i64 0, .int .i64 0, .int .i64 0, .string (⟨#[]⟩ : ByteArray)]) ?_ 1 _ rfl; (with_reducible repeat (first | refine blk_drewN ?_ _ | refine blk_drew ?_ | refine blk_alloc ?_ _)); refine blk_put (cs := #[.int .i64 0, .int .i64 0, .int .i64 0, .int .i64 0, .int .i64 0, .string (⟨#[]⟩ : ByteArray)]) ?_ 0 _ rfl; (with_reducible repeat (first | refine blk_drewN ?_ _ | refine blk_drew ?_ | refine blk_alloc ?_ _)); exact BK213.out) hb); have n6_ := Aside0.mk (below_step (by repeat (first | (with_reducible first | exact HB.out | apply below_alloc | apply pw_below_drewN | apply below_drew1 | refine below_set ?_ GE194.out | refine below_set ?_ GE213.out) | exact HB.out)) hb); clear HO197; clear HO202; clear HO205; clear BK194; clear BK213; clear HB; have HO197 := n0_; have HO202 := n1_; have HO205 := n2_; have HO216 := n3_; have BK194 := n4_; have BK213 := n5_; have HB := n6_; clear n0_ n1_ n2_ n3_ n4_ n5_ n6_; (try clear hb); (try clear hb2); (try clear hk); (try clear hi); (try clear ho0); obtain ⟨Ao49, co49, eo49⟩ := Kd.R_slice HO216.out; subst eo49) | (go_at_call 26; (with_reducible refine (bytes_Equal.calls _ _ t214 _ _ l0 true _ ?side1 ?side2 ?side3 ?side4 A23.out).mono ?_); (case side1 => repeat (first | exact (Kd.R_reads' HO216.out).2.2 | (with_reducible refine Kd.C_alloc ?_ _) | (with_reducible refine Kd.C_drewN ?_ _) | (with_reducible refine Kd.C_drew ?_))); (case side2 => exact (Kd.R_reads' HO216.out).2.1); (case side3 => repeat (first | exact (Kd.C_below HR0.out HB.out) | (with_reducible refine Kd.C_alloc ?_ _) | (with_reducible refine Kd.C_drewN ?_ _) | (with_reducible refine Kd.C_drew ?_))); (case side4 => exact HC0.out); rintro e w' ⟨rfl, ⟨nd, rfl⟩⟩; (try (rw [drewN_self w48]; generalize hq_ : World.drewN w48 _ = w48; have n0_ : Aside0 (Kd.R (Kd.int .u8) 5 w48 w.heap.size (fun k_ => some k_ ≠ (.slice Ao49 t214.length co49 : Value).ownBlock) (.slice Ao28 y195.length co28) y195) := ⟨by rw [← hq_]; exact (by (with_reducible repeat (first | apply Kd.R_alloc | apply Kd.R_drewN | apply Kd.R_drew)); exact Kd.R_mono HO197.out (fun _ hk => hk.2))⟩; have n1_ : Aside0 (Kd.R (Kd.int .i64) 3 w48 w.heap.size (fun _ => True) (.slice Ao32 y200.length co32) y200) := ⟨by rw [← hq_]; exact (by (with_reducible repeat (first | apply Kd.R_alloc | apply Kd.R_drewN | apply Kd.R_drew)); exact HO202.out)⟩; have n2_ : Aside0 (Kd.R (Kd.int .u64) 54 w48 w.heap.size (fun _ => True) (.slice (some ad207) t203.length co35) t203) := ⟨by rw [← hq_]; exact (by (with_reducible repeat (first | apply Kd.R_alloc | apply Kd.R_drewN | apply Kd.R_drew)); exact HO205.out)⟩; have n3_ : Aside0 (Kd.R (Kd.int .u8) 5 w48 w.heap.size (fun k_ => some k_ ≠ (.slice Ao28 y195.length co28 : Value).ownBlock) (.slice Ao49 t214.length co49) t214) := ⟨by rw [← hq_]; exact (by (with_reducible repeat (first | apply Kd.R_alloc | apply Kd.R_drewN | apply Kd.R_drew)); exact Kd.R_mono HO216.out (fun _ hk => hk.2))⟩; have n4_ : Aside0 (w48.heap[gb194]? = some (.cells #[.int .i64 0, .int .i64 0, .int .i64 0, .int .i64 0, .int .i64 0, .string (⟨#[]⟩ : ByteArray)] 23 (0, 0))) := ⟨by rw [← hq_]; exact (by (with_reducible repeat (first | refine blk_drewN ?_ _ | refine blk_drew ?_ | refine blk_alloc ?_ _)); exact BK194.out)⟩; have n5_ : Aside0 (w48.heap[gb213]? = some (.cells #[.int .i64 (wrap64 (rd t203 0)), .int .i64 (wrap64 (rd t203 1)), .int .i64 (wrap64 (rd t203 2)), .int .i64 (wrap64 (rd t203 3)), .int .i64 (wrap64 (rd t203 4)), .string (strOfNums ((l0.take 30).drop 14))] 23 (0, 0))) := ⟨by rw [← hq_]; exact (by (with_reducible repeat (first | refine blk_drewN ?_ _ | refine blk_drew ?_ | refine blk_alloc ?_ _)); exact BK213.out)⟩; have n6_ : Aside0 (Below w.heap.size w w48) := ⟨by rw [← hq_]; exact (by repeat (first | (with_reducible first | exact HB.out | apply below_alloc | apply pw_below_drewN | apply below_drew1 | refine below_set ?_ GE194.out | refine below_set ?_ GE213.out) | exact HB.out))⟩; clear HO197 HO202 HO205 HO216 BK194 BK213 HB hq_; have HO197 := n0_; have HO202 := n1_; have HO205 := n2_; have HO216 := n3_; have BK194 := n4_; have BK213 := n5_; have HB := n6_; clear n0_ n1_ n2_ n3_ n4_ n5_ n6_)); have hcz50_0 : w48.cell? ⟨gb213, 0, none⟩ = some (.int .i64 (wrap64 (rd t203 0))) := (blk_cell BK213.out 0).trans rfl; have hcz50_1 : w48.cell? ⟨gb213, 1, none⟩ = some (.int .i64 (wrap64 (rd t203 1))) := (blk_cell BK213.out 1).trans rfl; have hcz50_2 : w48.cell? ⟨gb213, 2, none⟩ = some (.int .i64 (wrap64 (rd t203 2))) := (blk_cell BK213.out 2).trans rfl; have hcz50_3 : w48.cell? ⟨gb213, 3, none⟩ = some (.int .i64 (wrap64 (rd t203 3))) := (blk_cell BK213.out 3).trans rfl; have hcz50_4 : w48.cell? ⟨gb213, 4, none⟩ = some (.int .i64 (wrap64 (rd t203 4))) := (blk_cell BK213.out 4).trans rfl; have hcz50_5 : w48.cell? ⟨gb213, 5, none⟩ = some (.string (strOfNums ((l0.take 30).drop 14))) := (blk_cell BK213.out 5).trans rfl; have hfz50_0 := blk_frozen BK213.out 0; have hfz50_1 := blk_frozen BK213.out 1; have hfz50_2 := blk_frozen BK213.out 2; have hfz50_3 := blk_frozen BK213.out 3; have hfz50_4 := blk_frozen BK213.out 4; have hfz50_5 := blk_frozen BK213.out 5; have hcz51_0 : w48.cell? ⟨gb194, 0, none⟩ = some (.int .i64 0) := (blk_cell BK194.out 0).trans rfl; have hcz51_1 : w48.cell? ⟨gb194, 1, none⟩ = some (.int .i64 0) := (blk_cell BK194.out 1).trans rfl; have hcz51_2 : w48.cell? ⟨gb194, 2, none⟩ = some (.int .i64 0) := (blk_cell BK194.out 2).trans rfl; have hcz51_3 : w48.cell? ⟨gb194, 3, none⟩ = some (.int .i64 0) := (blk_cell BK194.out 3).trans rfl; have hcz51_4 : w48.cell? ⟨gb194, 4, none⟩ = some (.int .i64 0) := (blk_cell BK194.out 4).trans rfl; have hcz51_5 : w48.cell? ⟨gb194, 5, none⟩ = some (.string (⟨#[]⟩ : ByteArray)) := (blk_cell BK194.out 5).trans rfl; have hfz51_0 := blk_frozen BK194.out 0; have hfz51_1 := blk_frozen BK194.out 1; have hfz51_2 := blk_frozen BK194.out 2; have hfz51_3 := blk_frozen BK194.out 3; have hfz51_4 := blk_frozen BK194.out 4; have hfz51_5 := blk_frozen BK194.out 5))
                              refine bodyPost_ret (results_ct rfl _ _ gb194 23 #[.int .i64 (wrap64 (rd t203 0)), .int .i64 (wrap64 (rd t203 1)), .int .i64 (wrap64 (rd t203 2)), .int .i64 (wrap64 (rd t203 3)), .int .i64 (wrap64 (rd t203 4)), .string (strOfNums ((l0.take 30).drop 14))] (0, 0) _ rfl (by (with_reducible repeat (first | refine blk_drewN ?_ _ | refine blk_drew ?_ | refine blk_alloc ?_ _)); refine blk_put (cs := #[.int .i64 (wrap64 (rd t203 0)), .int .i64 (wrap64 (rd t203 1)), .int .i64 (wrap64 (rd t203 2)), .int .i64 (wrap64 (rd t203 3)), .int .i64 (wrap64 (rd t203 4)), .string (⟨#[]⟩ : ByteArray)]) ?_ 5 _ rfl; (with_reducible repeat (first | refine blk_drewN ?_ _ | refine blk_drew ?_ | refine blk_alloc ?_ _)); refine blk_put (cs := #[.int .i64 (wrap64 (rd t203 0)), .int .i64 (wrap64 (rd t203 1)), .int .i64 (wrap64 (rd t203 2)), .int .i64 (wrap64 (rd t203 3)), .int .i64 0, .string (⟨#[]⟩ : ByteArray)]) ?_ 4 _ rfl; (with_reducible repeat (first | refine blk_drewN ?_ _ | refine blk_drew ?_ | refine blk_alloc ?_ _)); refine blk_put (cs := #[.int .i64 (wrap64 (rd t203 0)), .int .i64 (wrap64 (rd t203 1)), .int .i64 (wrap64 (rd t203 2)), .int .i64 0, .int .i64 0, .string (⟨#[]⟩ : ByteArray)]) ?_ 3 _ rfl; (with_reducible repeat (first | refine blk_drewN ?_ _ | refine blk_drew ?_ | refine blk_alloc ?_ _)); refine blk_put (cs := #[.int .i64 (wrap64 (rd t203 0)), .int .i64 (wrap64 (rd t203 1)), .int .i64 0, .int .i64 0, .int .i64 0, .string (⟨#[]⟩ : ByteArray)]) ?_ 2 _ rfl; (with_reducible repeat (first | refine blk_drewN ?_ _ | refine blk_drew ?_ | refine blk_alloc ?_ _)); refine blk_put (cs := #[.int .i64 (wrap64 (rd t203 0)), .int .i64 0, .int .i64 0, .int .i64 0, .int .i64 0, .string (⟨#[]⟩ : ByteArray)]) ?_ 1 _ rfl; (with_reducible repeat (first | refine blk_drewN ?_ _ | refine blk_drew ?_ | refine blk_alloc ?_ _)); refine blk_put (cs := #[.int .i64 0, .int .i64 0, .int .i64 0, .int .i64 0, .int .i64 0, .string (⟨#[]⟩ : ByteArray)]) ?_ 0 _ rfl; (with_reducible repeat (first | refine blk_drewN ?_ _ | refine blk_drew ?_ | refine blk_alloc ?_ _)); exact BK194.out) Try.underlying23 rfl (by kernel_rfl)) rfl ?_
                              exact ⟨by first | rfl | (simp [errW_none, errW_some] <;> rfl) | (simp [*, errW_none, errW_some] <;> rfl), by repeat (first | (with_reducible first | exact HB.out | apply below_alloc | apply pw_below_drewN | apply below_drew1 | refine below_set ?_ GE194.out | refine below_set ?_ GE213.out) | exact HB.out)⟩
                            · replace c24 := Bool.eq_false_iff.mpr c24
                              subst c24
                              have H1 : (some (0, 0, 0, 0, 0, (⟨#[]⟩ : ByteArray), 2)) = some (r1, r2, r3, r4, r5, r6, r7) := by rw [if_neg (show ¬ (false = true) by decide)] at H; exact H
                              clear H
                              have H := H1
                              clear H1
                              simp only [Option.some.injEq, Prod.mk.injEq] at H
                              obtain ⟨rfl, rfl, rfl, rfl, rfl, rfl, rfl⟩ := H
                              go_enter Try.func13, Try.ntmps13
                              try go_wp2_with (first | ((with_reducible refine gate_dst (N := 2) rfl ?_); refine box_event ?hg (N := 2) ?hd (cs := #[.int .i64 0, .int .i64 0, .int .i64 0, .int .i64 0, .int .i64 0, .string (⟨#[]⟩ : ByteArray)]) (t := 23) ?hr ?_; (case hd => rfl); (case hg => rfl); (case hr => first | (go_simp; done) | (go_simp; rfl)); intro gb194 hg w52 hbox hb; have n0_ := Aside0.mk (below_step (by repeat (first | (with_reducible first | exact HB.out | apply below_alloc | apply pw_below_drewN | apply below_drew1) | exact HB.out)) hb); have n1_ := Aside0.mk (hbox); have n2_ := Aside0.mk ((by rw [hg]; exact (below_size (by repeat (first | (with_reducible first | exact HB.out | apply below_alloc | apply pw_below_drewN | apply below_drew1) | exact HB.out))) : w.heap.size ≤ gb194)); have n3_ := Aside0.mk ((by rw [hg]; exact (below_size (by repeat (first | (with_reducible first | exact HB.out | apply below_alloc | apply pw_below_drewN | apply below_drew1) | exact HB.out))) : w.heap.size ≤ gb194)); clear HB; have HB := n0_; have BK194 := n1_; have GW194 := n2_; have GE194 := n3_; clear n0_ n1_ n2_ n3_; clear hb hbox hg) | ((with_reducible refine gate_dst (N := 10) rfl ?_); refine Kd.R_make (Kd.int .u8) _ 5 rfl (N := 10) rfl 24 _ _ rfl 64 rfl rfl Try.underlying24 (.int .u8 0) 1 info5 rfl (by decide) (by omega) 0 (ok := fun _ => True) (okp := fun _ => True) rfl (fun _ hk => hk) trivial (by omega) (by omega) (Below.refl _ _) (Nat.le_refl _) ?_; intro v196 w53 ho54 hb hg_ hnew_; clear hg_ hnew_; (first | rw [← Ny195.out] at ho54 | (simp only [Int.reduceToNat] at ho54; rw [← Ny195.out] at ho54)); have n0_ := Aside0.mk (Kd.R_lower ho54 (below_size (by repeat (first | (with_reducible first | exact HB.out | apply below_alloc | apply pw_below_drewN | apply below_drew1 | refine below_set ?_ GE194.out) | exact HB.out)))); have n1_ := Aside0.mk (blk_below (g := gb194) (o := .cells #[.int .i64 0, .int .i64 0, .int .i64 0, .int .i64 0, .int .i64 0, .string (⟨#[]⟩ : ByteArray)] 23 (0, 0)) (by (with_reducible repeat (first | refine blk_drewN ?_ _ | refine blk_drew ?_ | refine blk_alloc ?_ _)); exact BK194.out) hb); have n2_ := Aside0.mk (below_step (by repeat (first | (with_reducible first | exact HB.out | apply below_alloc | apply pw_below_drewN | apply below_drew1 | refine below_set ?_ GE194.out) | exact HB.out)) hb); clear BK194; clear HB; have HO197 := n0_; have BK194 := n1_; have HB := n2_; clear n0_ n1_ n2_; clear hb ho54; obtain ⟨Ao55, co55, eo55⟩ := Kd.R_slice HO197.out; subst eo55) | ((with_reducible refine gate_callee (f := 26) rfl ?_); refine goesL_ (some 11) rfl rfl Try.func26 (by kernel_rfl) rfl #[.slice A0 l0.length c0, .slice Ao55 y195.length co55] rfl (by (try simp only [List.map_toArray, List.map_cons, List.map_nil]); first | done | rfl | (simp only [List.length_drop, List.length_take]; rfl)) ?_; (with_reducible refine (bytes_Equal.calls _ _ l0 _ _ y195 false _ ?side1 ?side2 ?side3 ?side4 A3.out).mono ?_); (case side1 => repeat (first | exact (Kd.C_below HR0.out HB.out) | (with_reducible refine Kd.C_alloc ?_ _) | (with_reducible refine Kd.C_drewN ?_ _) | (with_reducible refine Kd.C_drew ?_))); (case side2 => exact HC0.out); (case side3 => repeat (first | exact (Kd.R_reads' HO197.out).2.2 | (with_reducible refine Kd.C_alloc ?_ _) | (with_reducible refine Kd.C_drewN ?_ _) | (with_reducible refine Kd.C_drew ?_))); (case side4 => exact (Kd.R_reads' HO197.out).2.1); rintro e w' ⟨rfl, ⟨nd, rfl⟩⟩; refine ⟨_, rfl, ?_⟩; (try (rw [drewN_self w53]; generalize hq_ : World.drewN w53 _ = w53; have n0_ : Aside0 (Kd.R (Kd.int .u8) 5 w53 w.heap.size (fun _ => True) (.slice Ao55 y195.length co55) y195) := ⟨by rw [← hq_]; exact (by (with_reducible repeat (first | apply Kd.R_alloc | apply Kd.R_drewN | apply Kd.R_drew)); exact HO197.out)⟩; have n1_ : Aside0 (w53.heap[gb194]? = some (.cells #[.int .i64 0, .int .i64 0, .int .i64 0, .int .i64 0, .int .i64 0, .string (⟨#[]⟩ : ByteArray)] 23 (0, 0))) := ⟨by rw [← hq_]; exact (by (with_reducible repeat (first | refine blk_drewN ?_ _ | refine blk_drew ?_ | refine blk_alloc ?_ _)); exact BK194.out)⟩; have n2_ : Aside0 (Below w.heap.size w w53) := ⟨by rw [← hq_]; exact (by repeat (first | (with_reducible first | exact HB.out | apply below_alloc | apply pw_below_drewN | apply below_drew1 | refine below_set ?_ GE194.out) | exact HB.out))⟩; clear HO197 BK194 HB hq_; have HO197 := n0_; have BK194 := n1_; have HB := n2_; clear n0_ n1_ n2_)); obtain ⟨i056, hi056, _, hsz56, _⟩ := info_parts info5; obtain ⟨A56, hcut56, hA56, hC56⟩ := print_mid_of (P := Try.prog) (Value.int .u8) 0 24 5 .i64 .i64 Try.underlying24 hi056 hsz56 A0 c0 l0 2 14 (by omega) (by first | omega | exact of_decide_eq_true (by first | (with_reducible assumption) | assumption)) (of_decide_eq_true (by first | (with_reducible assumption) | assumption)) HC0.out; have HR199 := Aside0.mk (Kd.C_of_reads (h1 := fun _ => rfl) (hA56 _ (Kd.reads_of_C HR0.out))); have HC199 := Aside0.mk hC56; clear hA56 hC56 hi056 hsz56) | ((with_reducible refine gate_dst (N := 20) rfl ?_); refine Kd.R_lit (Kd.int .i64) _ 3 ?hg (N := 20) ?hd (xs := ([1, 1, 1, 1, 8] : List Int)) (inner := [.int .i64 1, .int .i64 1, .int .i64 1, .int .i64 1, .int .i64 8]) (ok := fun _ => True) (okp := fun _ => True) ?hr ?hp (fun _ hk => hk) trivial (Below.refl _ _) (Nat.le_refl _) (by simp) ?_; (case hd => rfl); (case hg => rfl); (case hr => first | (go_simp; done) | (go_simp; rfl)); (case hp => exact (Reps.one (show Kd.M (Kd.int .i64) _ _ _ 1 [.int .i64 1] from rfl) (Reps.one (show Kd.M (Kd.int .i64) _ _ _ 1 [.int .i64 1] from rfl) (Reps.one (show Kd.M (Kd.int .i64) _ _ _ 1 [.int .i64 1] from rfl) (Reps.one (show Kd.M (Kd.int .i64) _ _ _ 1 [.int .i64 1] from rfl) (Reps.one (show Kd.M (Kd.int .i64) _ _ _ 8 [.int .i64 8] from rfl) (Reps.none _ _))))))); intro v201 w57 ho58 hb hg_ hnew_; clear hg_ hnew_; (first | rw [← Ny200.out] at ho58 | (simp only [Int.reduceToNat] at ho58; rw [← Ny200.out] at ho58)); have n0_ := Aside0.mk (Kd.R_below (by (with_reducible repeat (first | apply Kd.R_alloc | apply Kd.R_drewN | apply Kd.R_drew)); exact HO197.out) hb); have n1_ := Aside0.mk (Kd.R_lower ho58 (below_size (by repeat (first | (with_reducible first | exact HB.out | apply below_alloc | apply pw_below_drewN | apply below_drew1 | refine below_set ?_ GE194.out) | exact HB.out)))); have n2_ := Aside0.mk (blk_below (g := gb194) (o := .cells #[.int .i64 0, .int .i64 0, .int .i64 0, .int .i64 0, .int .i64 0, .string (⟨#[]⟩ : ByteArray)] 23 (0, 0)) (by (with_reducible repeat (first | refine blk_drewN ?_ _ | refine blk_drew ?_ | refine blk_alloc ?_ _)); exact BK194.out) hb); have n3_ := Aside0.mk (below_step (by repeat (first | (with_reducible first | exact HB.out | apply below_alloc | apply pw_below_drewN | apply below_drew1 | refine below_set ?_ GE194.out) | exact HB.out)) hb); clear HO197; clear BK194; clear HB; have HO197 := n0_; have HO202 := n1_; have BK194 := n2_; have HB := n3_; clear n0_ n1_ n2_ n3_; clear hb ho58; obtain ⟨Ao59, co59, eo59⟩ := Kd.R_slice HO202.out; subst eo59) | ((with_reducible refine gate_callee (f := 27) rfl ?_); refine goesL_ (some 21) rfl rfl Try.func27 (by kernel_rfl) rfl #[.slice A56 ((l0.take 14).drop 2).length (c0 - 2), .slice Ao59 y200.length co59] rfl (by (try simp only [List.map_toArray, List.map_cons, List.map_nil]); first | done | (rw [show ((l0.take 14).drop 2).length = (14 - 2) from (by rw [List.length_drop, List.length_take]; have h_ : (14 : Int) ≤ (l0.length : Int) := of_decide_eq_true (by first | (with_reducible assumption) | assumption); omega)] <;> rfl) | rfl | (simp only [List.length_drop, List.length_take]; rfl)) ?_; (with_reducible refine (pack_Split.calls k (fun k_ => k_ < w.heap.size) _ _ ((l0.take 14).drop 2) _ _ y200 t203 t206 _ ?side1 ?side2 ?side3 A13.out).mono ?_); (case side1 => exact Kd.V_mk HC199.out (Kd.F_below (Kd.C_F (Kd.heap_int .u8) HR199.out) (by repeat (first | (with_reducible first | exact HB.out | apply below_alloc | apply pw_below_drewN | apply below_drew1 | refine below_set ?_ GE194.out) | exact HB.out)))); (case side2 => repeat (first | exact (Kd.R_reads' HO202.out).2.2 | (with_reducible refine Kd.C_alloc ?_ _) | (with_reducible refine Kd.C_drewN ?_ _) | (with_reducible refine Kd.C_drew ?_))); (case side3 => exact (Kd.R_reads' HO202.out).2.1); rintro e w60 ⟨v204, rfl, ho0, hb⟩; refine ⟨_, rfl, ?_⟩; have n0_ := Aside0.mk (Kd.R_below (by (with_reducible repeat (first | apply Kd.R_alloc | apply Kd.R_drewN | apply Kd.R_drew)); exact HO197.out) hb); have n1_ := Aside0.mk (Kd.R_below (by (with_reducible repeat (first | apply Kd.R_alloc | apply Kd.R_drewN | apply Kd.R_drew)); exact HO202.out) hb); have n2_ := Aside0.mk (Kd.R_lower (Kd.R_mono (ok' := fun k_ => True) ho0 (fun _ hk_ => trivial)) (below_size (by repeat (first | (with_reducible first | exact HB.out | apply below_alloc | apply pw_below_drewN | apply below_drew1 | refine below_set ?_ GE194.out) | exact HB.out)))); have n3_ := Aside0.mk (blk_below (g := gb194) (o := .cells #[.int .i64 0, .int .i64 0, .int .i64 0, .int .i64 0, .int .i64 0, .string (⟨#[]⟩ : ByteArray)] 23 (0, 0)) (by (with_reducible repeat (first | refine blk_drewN ?_ _ | refine blk_drew ?_ | refine blk_alloc ?_ _)); exact BK194.out) hb); have n4_ := Aside0.mk (below_step (by repeat (first | (with_reducible first | exact HB.out | apply below_alloc | apply pw_below_drewN | apply below_drew1 | refine below_set ?_ GE194.out) | exact HB.out)) hb); clear HO197; clear HO202; clear BK194; clear HB; have HO197 := n0_; have HO202 := n1_; have HO205 := n2_; have BK194 := n3_; have HB := n4_; clear n0_ n1_ n2_ n3_ n4_; (try clear hb); (try clear hb2); (try clear hk); (try clear hi); (try clear ho0)))
                              have n0_ := Aside0.mk (Kd.R_drew HO197.out)
                              have n1_ := Aside0.mk (Kd.R_drew HO202.out)
                              have n2_ := Aside0.mk (Kd.R_drew HO205.out)
                              have n3_ := Aside0.mk (blk_drew BK194.out)
                              have n4_ := Aside0.mk (below_drew1 HB.out)
                              clear HO197
                              clear HO202
                              clear HO205
                              clear BK194
                              clear HB
                              have HO197 := n0_
                              have HO202 := n1_
                              have HO205 := n2_
                              have BK194 := n3_
                              have HB := n4_
                              clear n0_ n1_ n2_ n3_ n4_
                              obtain ⟨Ao62, co62, eo62⟩ := Kd.R_slice HO205.out
                              (first | subst eo62 | (injection eo62 with f1_ f2_ f3_; have f4_ := f1_.symm; have f5_ := f3_.symm; clear f1_ f2_ f3_; subst f4_; subst f5_))
                              have p207 : 0 ≤ (0 : Int) := (by omega)
                              have q207 : 0 < (t203.length : Int) := of_decide_eq_true (by first | (with_reducible assumption) | assumption)
                              obtain ⟨ad207, e207, hx207_0⟩ := Kd.at_int (Kd.R_reads' HO205.out).2.2 0 p207 q207
                              cases e207
                              have qi207 : (0 < t203.length) = True := eq_true (by omega)
                              (try rw [show ((0 : Int)).toNat = 0 from rfl] at hx207_0)
                              (try rw [Addr.add_zero'] at hx207_0)
                              replace p207 := eq_true p207
                              replace q207 := eq_true q207
                              have p208 : 0 ≤ (1 : Int) := (by omega)
                              have q208 : 1 < (t203.length : Int) := of_decide_eq_true (by first | (with_reducible assumption) | assumption)
                              obtain ⟨ad208, e208, hx208_0⟩ := Kd.at_int (Kd.R_reads' HO205.out).2.2 1 p208 q208
                              obtain rfl : ad207 = ad208 := (by injection e208)
                              (try simp only [show (1 : Int).toNat = 1 from rfl, Nat.reduceMul, Nat.reduceEqDiff, Go.Addr.add, ↓reduceIte] at hx208_0)
                              have qi208 : (1 < t203.length) = True := eq_true (by omega)
                              (try rw [show ((1 : Int)).toNat = 1 from rfl] at hx208_0)
                              replace p208 := eq_true p208
                              replace q208 := eq_true q208
                              have p209 : 0 ≤ (2 : Int) := (by omega)
                              have q209 : 2 < (t203.length : Int) := of_decide_eq_true (by first | (with_reducible assumption) | assumption)
                              obtain ⟨ad209, e209, hx209_0⟩ := Kd.at_int (Kd.R_reads' HO205.out).2.2 2 p209 q209
                              obtain rfl : ad207 = ad209 := (by injection e209)
                              (try simp only [show (2 : Int).toNat = 2 from rfl, Nat.reduceMul, Nat.reduceEqDiff, Go.Addr.add, ↓reduceIte] at hx209_0)
                              have qi209 : (2 < t203.length) = True := eq_true (by omega)
                              (try rw [show ((2 : Int)).toNat = 2 from rfl] at hx209_0)
                              replace p209 := eq_true p209
                              replace q209 := eq_true q209
                              have p210 : 0 ≤ (3 : Int) := (by omega)
                              have q210 : 3 < (t203.length : Int) := of_decide_eq_true (by first | (with_reducible assumption) | assumption)
                              obtain ⟨ad210, e210, hx210_0⟩ := Kd.at_int (Kd.R_reads' HO205.out).2.2 3 p210 q210
                              obtain rfl : ad207 = ad210 := (by injection e210)
                              (try simp only [show (3 : Int).toNat = 3 from rfl, Nat.reduceMul, Nat.reduceEqDiff, Go.Addr.add, ↓reduceIte] at hx210_0)
                              have qi210 : (3 < t203.length) = True := eq_true (by omega)
                              (try rw [show ((3 : Int)).toNat = 3 from rfl] at hx210_0)
                              replace p210 := eq_true p210
                              replace q210 := eq_true q210
                              have p211 : 0 ≤ (4 : Int) := (by omega)
                              have q211 : 4 < (t203.length : Int) := of_decide_eq_true (by first | (with_reducible assumption) | assumption)
                              obtain ⟨ad211, e211, hx211_0⟩ := Kd.at_int (Kd.R_reads' HO205.out).2.2 4 p211 q211
                              obtain rfl : ad207 = ad211 := (by injection e211)
                              (try simp only [show (4 : Int).toNat = 4 from rfl, Nat.reduceMul, Nat.reduceEqDiff, Go.Addr.add, ↓reduceIte] at hx211_0)
                              have qi211 : (4 < t203.length) = True := eq_true (by omega)
                              (try rw [show ((4 : Int)).toNat = 4 from rfl] at hx211_0)
                              replace p211 := eq_true p211
                              replace q211 := eq_true q211
                              obtain ⟨i063, hi063, _, hsz63, _⟩ := info_parts info5
                              obtain ⟨A63, hcut63, hA63, hC63⟩ := print_mid_of (P := Try.prog) (Value.int .u8) 0 24 5 .i64 .i64 Try.underlying24 hi063 hsz63 A0 c0 l0 14 30 (by omega) (by first | omega | exact of_decide_eq_true (by first | (with_reducible assumption) | assumption)) (of_decide_eq_true (by first | (with_reducible assumption) | assumption)) HC0.out
                              have HR212 := Aside0.mk (Kd.C_of_reads (h1 := fun _ => rfl) (hA63 _ (Kd.reads_of_C HR0.out)))
                              have HC212 := Aside0.mk hC63
                              clear hA63 hC63 hi063 hsz63
                              have hcv64 := Kd.C_string (P := Try.prog) (A := A63) (c := (c0 - 14)) Try.underlying24 Try.underlying5 Try.underlying9 (Kd.C_below HR212.out HB.out)
                              have hcx64 := hcv64
                              (try simp only [Int.reduceToNat, List.length_drop, List.length_take] at hcx64)
                              refine start_ (n := 26) (S := fun w' => w'.cell? ad207 = some (.int .u64 (rd t203 0)) ∧ w'.cell? ⟨ad207.block, ad207.off + 1, none⟩ = some (.int .u64 (rd t203 1)) ∧ w'.cell? ⟨ad207.block, ad207.off + 2, none⟩ = some (.int .u64 (rd t203 2)) ∧ w'.cell? ⟨ad207.block, ad207.off + 3, none⟩ = some (.int .u64 (rd t203 3)) ∧ w'.cell? ⟨ad207.block, ad207.off + 4, none⟩ = some (.int .u64 (rd t203 4)) ∧ (convert 24 9 (.slice A63 ((l0.take 30).drop 14).length (c0 - 14))).run Try.prog w' = .ok (.string (strOfNums ((l0.take 30).drop 14))) w') (ds := []) #[false, false, false, false, false, false, false, false, false, false, false, false, false, false, false, false, false, false, false, false, false, false, false, false, false, false] (by kernel_rfl) rfl rfl ⟨hx207_0, hx208_0, hx209_0, hx210_0, hx211_0, (Kd.C_string (P := Try.prog) (A := A63) (c := (c0 - 14)) Try.underlying24 Try.underlying5 Try.underlying9 (Kd.C_below HR212.out HB.out))⟩ (fun hHeld => ?_); refine with_tabW header_Decode.tab6 header_Decode.bits6 (fun HT_ HW_ => ?_)
                              generalize w60.drew = w61 at HO197 HO202 HO205 BK194 HB HR212 hx207_0 hx208_0 hx209_0 hx210_0 hx211_0 hHeld ⊢
                              refine pure_ (i := 0) (N := some 24) (v := ?_) (a' := ?_) #[true, false, false, false, false, false, false, false, false, false, false, false, false, false, false, false, false, false, false, false, false, false, false, false, false, false] rfl rfl (any_of HT_.out (by kernel_rfl)) (fun _ _ _ h => h) (Or.inl ⟨by rfl, ?_⟩) ?_ ?_
                              rotate_left
                              · intro w'
                                go_simp
                                with_reducible rfl
                              rotate_left
                              · simp only [Act.put, List.setIfInBounds_toArray, List.set_cons_zero, List.set_cons_succ, i64_w, i32_w]
                                rfl
                              refine pure_ (i := 1) (N := some 25) (v := ?_) (a' := ?_) #[true, true, false, false, false, false, false, false, false, false, false, false, false, false, false, false, false, false, false, false, false, false, false, false, false, false] rfl rfl (any_of HT_.out (by kernel_rfl)) (fun _ _ _ h => h) (Or.inl ⟨by rfl, ?_⟩) ?_ ?_
                              rotate_left
                              · intro w'
                                go_simp
                                with_reducible rfl
                              rotate_left
                              · simp only [Act.put, List.setIfInBounds_toArray, List.set_cons_zero, List.set_cons_succ, i64_w, i32_w]
                                rfl
                              refine pure_ (i := 4) (N := some 28) (v := ?_) (a' := ?_) #[true, true, false, false, true, false, false, false, false, false, false, false, false, false, false, false, false, false, false, false, false, false, false, false, false, false] rfl rfl (any_of HT_.out (by kernel_rfl)) (fun _ _ _ h => h) (Or.inl ⟨by rfl, ?_⟩) ?_ ?_
                              rotate_left
                              · intro w'
                                go_simp
                                with_reducible rfl
                              rotate_left
                              · simp only [Act.put, List.setIfInBounds_toArray, List.set_cons_zero, List.set_cons_succ, i64_w, i32_w]
                                rfl
                              refine pure_ (i := 5) (N := some 29) (v := ?_) (a' := ?_) #[true, true, false, false, true, true, false, false, false, false, false, false, false, false, false, false, false, false, false, false, false, false, false, false, false, false] rfl rfl (any_of HT_.out (by kernel_rfl)) (fun _ _ _ h => h) (Or.inl ⟨by rfl, ?_⟩) ?_ ?_
                              rotate_left
                              · intro w'
                                go_simp
                                with_reducible rfl
                              rotate_left
                              · simp only [Act.put, List.setIfInBounds_toArray, List.set_cons_zero, List.set_cons_succ, i64_w, i32_w]
                                rfl
                              refine pure_ (i := 8) (N := some 32) (v := ?_) (a' := ?_) #[true, true, false, false, true, true, false, false, true, false, false, false, false, false, false, false, false, false, false, false, false, false, false, false, false, false] rfl rfl (any_of HT_.out (by kernel_rfl)) (fun _ _ _ h => h) (Or.inl ⟨by rfl, ?_⟩) ?_ ?_
                              rotate_left
                              · intro w'
                                go_simp
                                with_reducible rfl
                              rotate_left
                              · simp only [Act.put, List.setIfInBounds_toArray, List.set_cons_zero, List.set_cons_succ, i64_w, i32_w]
                                rfl
                              refine pure_ (i := 9) (N := some 33) (v := ?_) (a' := ?_) #[true, true, false, false, true, true, false, false, true, true, false, false, false, false, false, false, false, false, false, false, false, false, false, false, false, false] rfl rfl (any_of HT_.out (by kernel_rfl)) (fun _ _ _ h => h) (Or.inl ⟨by rfl, ?_⟩) ?_ ?_
                              rotate_left
                              · intro w'
                                go_simp
                                with_reducible rfl
                              rotate_left
                              · simp only [Act.put, List.setIfInBounds_toArray, List.set_cons_zero, List.set_cons_succ, i64_w, i32_w]
                                rfl
                              refine pure_ (i := 12) (N := some 36) (v := ?_) (a' := ?_) #[true, true, false, false, true, true, false, false, true, true, false, false, true, false, false, false, false, false, false, false, false, false, false, false, false, false] rfl rfl (any_of HT_.out (by kernel_rfl)) (fun _ _ _ h => h) (Or.inl ⟨by rfl, ?_⟩) ?_ ?_
                              rotate_left
                              · intro w'
                                go_simp
                                with_reducible rfl
                              rotate_left
                              · simp only [Act.put, List.setIfInBounds_toArray, List.set_cons_zero, List.set_cons_succ, i64_w, i32_w]
                                rfl
                              refine pure_ (i := 13) (N := some 37) (v := ?_) (a' := ?_) #[true, true, false, false, true, true, false, false, true, true, false, false, true, true, false, false, false, false, false, false, false, false, false, false, false, false] rfl rfl (any_of HT_.out (by kernel_rfl)) (fun _ _ _ h => h) (Or.inl ⟨by rfl, ?_⟩) ?_ ?_
                              rotate_left
                              · intro w'
                                go_simp
                                with_reducible rfl
                              rotate_left
                              · simp only [Act.put, List.setIfInBounds_toArray, List.set_cons_zero, List.set_cons_succ, i64_w, i32_w]
                                rfl
                              refine pure_ (i := 16) (N := some 40) (v := ?_) (a' := ?_) #[true, true, false, false, true, true, false, false, true, true, false, false, true, true, false, false, true, false, false, false, false, false, false, false, false, false] rfl rfl (any_of HT_.out (by kernel_rfl)) (fun _ _ _ h => h) (Or.inl ⟨by rfl, ?_⟩) ?_ ?_
                              rotate_left
                              · intro w'
                                go_simp
                                with_reducible rfl
                              rotate_left
                              · simp only [Act.put, List.setIfInBounds_toArray, List.set_cons_zero, List.set_cons_succ, i64_w, i32_w]
                                rfl
                              refine pure_ (i := 17) (N := some 41) (v := ?_) (a' := ?_) #[true, true, false, false, true, true, false, false, true, true, false, false, true, true, false, false, true, true, false, false, false, false, false, false, false, false] rfl rfl (any_of HT_.out (by kernel_rfl)) (fun _ _ _ h => h) (Or.inl ⟨by rfl, ?_⟩) ?_ ?_
                              rotate_left
                              · intro w'
                                go_simp
                                with_reducible rfl
                              rotate_left
                              · simp only [Act.put, List.setIfInBounds_toArray, List.set_cons_zero, List.set_cons_succ, i64_w, i32_w]
                                rfl
                              refine pure_ (i := 20) (N := some 44) (v := ?_) (a' := ?_) #[true, true, false, false, true, true, false, false, true, true, false, false, true, true, false, false, true, true, false, false, true, false, false, false, false, false] rfl rfl (any_of HT_.out (by kernel_rfl)) (fun _ _ _ h => h) (Or.inl ⟨by rfl, ?_⟩) ?_ ?_
                              rotate_left
                              · intro w'
                                go_simp
                                with_reducible rfl
                              rotate_left
                              · simp only [Act.put, List.setIfInBounds_toArray, List.set_cons_zero, List.set_cons_succ, i64_w, i32_w]
                                rfl
                              refine pure_ (i := 21) (N := some 45) (v := ?_) (a' := ?_) #[true, true, false, false, true, true, false, false, true, true, false, false, true, true, false, false, true, true, false, false, true, true, false, false, false, false] rfl rfl (any_of HT_.out (by kernel_rfl)) (fun _ _ _ h => h) (Or.inl ⟨by rfl, ?_⟩) ?_ ?_
                              rotate_left
                              · intro w'
                                go_simp
                                with_reducible rfl
                              rotate_left
                              · simp only [Act.put, List.setIfInBounds_toArray, List.set_cons_zero, List.set_cons_succ, i64_w, i32_w]
                                rfl
                              refine take_ (i := 22) (N := some 46) (v := ?_) (a' := ?_) #[true, true, false, false, true, true, false, false, true, true, false, false, true, true, false, false, true, true, false, false, true, true, true, false, false, false] rfl rfl (take_ofW HT_.out HW_.out (by kernel_rfl)) (fun _ _ _ h => h) (Or.inl ⟨by rfl, ?_⟩) hHeld ?_ ?_
                              rotate_left
                              · rintro w' ⟨s0, s1, s2, s3, s4, sS⟩
                                (try simp only [Int.reduceToNat, List.length_drop, List.length_take] at sS)
                                go_simp
                                with_reducible rfl
                              rotate_left
                              · simp only [Act.put, List.setIfInBounds_toArray, List.set_cons_zero, List.set_cons_succ, i64_w, i32_w]
                                rfl
                              refine take_ (i := 2) (N := some 26) (v := ?_) (a' := ?_) #[true, true, true, false, true, true, false, false, true, true, false, false, true, true, false, false, true, true, false, false, true, true, true, false, false, false] rfl rfl (take_ofW HT_.out HW_.out (by kernel_rfl)) (fun _ _ _ h => h) (Or.inl ⟨by rfl, ?_⟩) hHeld ?_ ?_
                              rotate_left
                              · rintro w' ⟨s0, s1, s2, s3, s4, sS⟩
                                go_simp
                                with_reducible rfl
                              rotate_left
                              · simp only [Act.put, List.setIfInBounds_toArray, List.set_cons_zero, List.set_cons_succ, i64_w, i32_w]
                                rfl
                              refine pure_ (i := 3) (N := some 27) (v := ?_) (a' := ?_) #[true, true, true, true, true, true, false, false, true, true, false, false, true, true, false, false, true, true, false, false, true, true, true, false, false, false] rfl rfl (any_of HT_.out (by kernel_rfl)) (fun _ _ _ h => h) (Or.inl ⟨by rfl, ?_⟩) ?_ ?_
                              rotate_left
                              · intro w'
                                go_simp
                                with_reducible rfl
                              rotate_left
                              · simp only [Act.put, List.setIfInBounds_toArray, List.set_cons_zero, List.set_cons_succ, i64_w, i32_w]
                                rfl
                              refine take_ (i := 6) (N := some 30) (v := ?_) (a' := ?_) #[true, true, true, true, true, true, true, false, true, true, false, false, true, true, false, false, true, true, false, false, true, true, true, false, false, false] rfl rfl (take_ofW HT_.out HW_.out (by kernel_rfl)) (fun _ _ _ h => h) (Or.inl ⟨by rfl, ?_⟩) hHeld ?_ ?_
                              rotate_left
                              · rintro w' ⟨s0, s1, s2, s3, s4, sS⟩
                                go_simp
                                with_reducible rfl
                              rotate_left
                              · simp only [Act.put, List.setIfInBounds_toArray, List.set_cons_zero, List.set_cons_succ, i64_w, i32_w]
                                rfl
                              refine pure_ (i := 7) (N := some 31) (v := ?_) (a' := ?_) #[true, true, true, true, true, true, true, true, true, true, false, false, true, true, false, false, true, true, false, false, true, true, true, false, false, false] rfl rfl (any_of HT_.out (by kernel_rfl)) (fun _ _ _ h => h) (Or.inl ⟨by rfl, ?_⟩) ?_ ?_
                              rotate_left
                              · intro w'
                                go_simp
                                with_reducible rfl
                              rotate_left
                              · simp only [Act.put, List.setIfInBounds_toArray, List.set_cons_zero, List.set_cons_succ, i64_w, i32_w]
                                rfl
                              refine take_ (i := 10) (N := some 34) (v := ?_) (a' := ?_) #[true, true, true, true, true, true, true, true, true, true, true, false, true, true, false, false, true, true, false, false, true, true, true, false, false, false] rfl rfl (take_ofW HT_.out HW_.out (by kernel_rfl)) (fun _ _ _ h => h) (Or.inl ⟨by rfl, ?_⟩) hHeld ?_ ?_
                              rotate_left
                              · rintro w' ⟨s0, s1, s2, s3, s4, sS⟩
                                go_simp
                                with_reducible rfl
                              rotate_left
                              · simp only [Act.put, List.setIfInBounds_toArray, List.set_cons_zero, List.set_cons_succ, i64_w, i32_w]
                                rfl
                              refine pure_ (i := 11) (N := some 35) (v := ?_) (a' := ?_) #[true, true, true, true, true, true, true, true, true, true, true, true, true, true, false, false, true, true, false, false, true, true, true, false, false, false] rfl rfl (any_of HT_.out (by kernel_rfl)) (fun _ _ _ h => h) (Or.inl ⟨by rfl, ?_⟩) ?_ ?_
                              rotate_left
                              · intro w'
                                go_simp
                                with_reducible rfl
                              rotate_left
                              · simp only [Act.put, List.setIfInBounds_toArray, List.set_cons_zero, List.set_cons_succ, i64_w, i32_w]
                                rfl
                              refine take_ (i := 14) (N := some 38) (v := ?_) (a' := ?_) #[true, true, true, true, true, true, true, true, true, true, true, true, true, true, true, false, true, true, false, false, true, true, true, false, false, false] rfl rfl (take_ofW HT_.out HW_.out (by kernel_rfl)) (fun _ _ _ h => h) (Or.inl ⟨by rfl, ?_⟩) hHeld ?_ ?_
                              rotate_left
                              · rintro w' ⟨s0, s1, s2, s3, s4, sS⟩
                                go_simp
                                with_reducible rfl
                              rotate_left
                              · simp only [Act.put, List.setIfInBounds_toArray, List.set_cons_zero, List.set_cons_succ, i64_w, i32_w]
                                rfl
                              refine pure_ (i := 15) (N := some 39) (v := ?_) (a' := ?_) #[true, true, true, true, true, true, true, true, true, true, true, true, true, true, true, true, true, true, false, false, true, true, true, false, false, false] rfl rfl (any_of HT_.out (by kernel_rfl)) (fun _ _ _ h => h) (Or.inl ⟨by rfl, ?_⟩) ?_ ?_
                              rotate_left
                              · intro w'
                                go_simp
                                with_reducible rfl
                              rotate_left
                              · simp only [Act.put, List.setIfInBounds_toArray, List.set_cons_zero, List.set_cons_succ, i64_w, i32_w]
                                rfl
                              refine take_ (i := 18) (N := some 42) (v := ?_) (a' := ?_) #[true, true, true, true, true, true, true, true, true, true, true, true, true, true, true, true, true, true, true, false, true, true, true, false, false, false] rfl rfl (take_ofW HT_.out HW_.out (by kernel_rfl)) (fun _ _ _ h => h) (Or.inl ⟨by rfl, ?_⟩) hHeld ?_ ?_
                              rotate_left
                              · rintro w' ⟨s0, s1, s2, s3, s4, sS⟩
                                go_simp
                                with_reducible rfl
                              rotate_left
                              · simp only [Act.put, List.setIfInBounds_toArray, List.set_cons_zero, List.set_cons_succ, i64_w, i32_w]
                                rfl
                              refine pure_ (i := 19) (N := some 43) (v := ?_) (a' := ?_) #[true, true, true, true, true, true, true, true, true, true, true, true, true, true, true, true, true, true, true, true, true, true, true, false, false, false] rfl rfl (any_of HT_.out (by kernel_rfl)) (fun _ _ _ h => h) (Or.inl ⟨by rfl, ?_⟩) ?_ ?_
                              rotate_left
                              · intro w'
                                go_simp
                                with_reducible rfl
                              rotate_left
                              · simp only [Act.put, List.setIfInBounds_toArray, List.set_cons_zero, List.set_cons_succ, i64_w, i32_w]
                                rfl
                              refine pure_ (i := 23) (N := some 47) (v := ?_) (a' := ?_) #[true, true, true, true, true, true, true, true, true, true, true, true, true, true, true, true, true, true, true, true, true, true, true, true, false, false] rfl rfl (any_of HT_.out (by kernel_rfl)) (fun _ _ _ h => h) (Or.inl ⟨by rfl, ?_⟩) ?_ ?_
                              rotate_left
                              · intro w'
                                go_simp
                                with_reducible rfl
                              rotate_left
                              · simp only [Act.put, List.setIfInBounds_toArray, List.set_cons_zero, List.set_cons_succ, i64_w, i32_w]
                                rfl
                              refine one_ (i := 24) (N := some 6) #[true, true, true, true, true, true, true, true, true, true, true, true, true, true, true, true, true, true, true, true, true, true, true, true, true, false] rfl rfl (one_of HT_.out (by kernel_rfl)) (by decide) (fun K hK => ?_)
                              refine box_step ?hg (N := 6) ?hd (cs := #[.int .i64 0, .int .i64 0, .int .i64 0, .int .i64 0, .int .i64 0, .string (⟨#[]⟩ : ByteArray)]) (t := 23) ?hr ?_; (case hd => rfl); (case hg => rfl); (case hr => first | (go_simp; done) | (go_simp; rfl))
                              intro gb213 hg w65 hbox hb
                              have HS0_ := (hb.cell (World.block_lt_of_cell? _ _ (hHeld.1))).trans (hHeld.1)
                              have HS1_ := (hb.cell (World.block_lt_of_cell? _ _ (hHeld.2.1))).trans (hHeld.2.1)
                              have HS2_ := (hb.cell (World.block_lt_of_cell? _ _ (hHeld.2.2.1))).trans (hHeld.2.2.1)
                              have HS3_ := (hb.cell (World.block_lt_of_cell? _ _ (hHeld.2.2.2.1))).trans (hHeld.2.2.2.1)
                              have HS4_ := (hb.cell (World.block_lt_of_cell? _ _ (hHeld.2.2.2.2.1))).trans (hHeld.2.2.2.2.1)
                              have n0_ := Aside0.mk (Kd.R_below (by (with_reducible repeat (first | apply Kd.R_alloc | apply Kd.R_drewN | apply Kd.R_drew)); exact HO197.out) hb)
                              have n1_ := Aside0.mk (Kd.R_below (by (with_reducible repeat (first | apply Kd.R_alloc | apply Kd.R_drewN | apply Kd.R_drew)); exact HO202.out) hb)
                              have n2_ := Aside0.mk (Kd.R_below (by (with_reducible repeat (first | apply Kd.R_alloc | apply Kd.R_drewN | apply Kd.R_drew)); exact HO205.out) hb)
                              have n3_ := Aside0.mk (blk_below (g := gb194) (o := .cells #[.int .i64 0, .int .i64 0, .int .i64 0, .int .i64 0, .int .i64 0, .string (⟨#[]⟩ : ByteArray)] 23 (0, 0)) (by (with_reducible repeat (first | refine blk_drewN ?_ _ | refine blk_drew ?_ | refine blk_alloc ?_ _)); exact BK194.out) hb)
                              have n4_ := Aside0.mk (below_step (by repeat (first | (with_reducible first | exact HB.out | apply below_alloc | apply pw_below_drewN | apply below_drew1 | refine below_set ?_ GE194.out) | exact HB.out)) hb)
                              have n5_ := Aside0.mk (hbox)
                              have n6_ := Aside0.mk ((by rw [hg]; exact (below_size (by repeat (first | (with_reducible first | exact HB.out | apply below_alloc | apply pw_below_drewN | apply below_drew1 | refine below_set ?_ GE194.out) | exact HB.out))) : w.heap.size ≤ gb213))
                              have n7_ := Aside0.mk ((by rw [hg]; exact (below_size (by repeat (first | (with_reducible first | exact HB.out | apply below_alloc | apply pw_below_drewN | apply below_drew1 | refine below_set ?_ GE194.out) | exact HB.out))) : w.heap.size ≤ gb213))
                              have n8_ := Aside0.mk ((by rw [hg]; exact Nat.ne_of_lt (blk_lt (g := gb194) (o := .cells #[.int .i64 0, .int .i64 0, .int .i64 0, .int .i64 0, .int .i64 0, .string (⟨#[]⟩ : ByteArray)] 23 (0, 0)) (by (with_reducible repeat (first | refine blk_drewN ?_ _ | refine blk_drew ?_ | refine blk_alloc ?_ _)); exact BK194.out)) : gb194 ≠ gb213))
                              have n9_ := Aside0.mk ((by rw [hg]; exact Nat.ne_of_gt (blk_lt (g := gb194) (o := .cells #[.int .i64 0, .int .i64 0, .int .i64 0, .int .i64 0, .int .i64 0, .string (⟨#[]⟩ : ByteArray)] 23 (0, 0)) (by (with_reducible repeat (first | refine blk_drewN ?_ _ | refine blk_drew ?_ | refine blk_alloc ?_ _)); exact BK194.out)) : gb213 ≠ gb194))
                              clear HO197
                              clear HO202
                              clear HO205
                              clear BK194
                              clear HB
                              have HO197 := n0_
                              have HO202 := n1_
                              have HO205 := n2_
                              have BK194 := n3_
                              have HB := n4_
                              have BK213 := n5_
                              have GW213 := n6_
                              have GE213 := n7_
                              have NB194_213 := n8_
                              have NB213_194 := n9_
                              clear n0_ n1_ n2_ n3_ n4_ n5_ n6_ n7_ n8_ n9_
                              clear hb hbox hg
                              refine hK.out _ _ ⟨HS0_, HS1_, HS2_, HS3_, HS4_, (Kd.C_string (P := Try.prog) (A := A63) (c := (c0 - 14)) Try.underlying24 Try.underlying5 Try.underlying9 (Kd.C_below HR212.out (by repeat (first | (with_reducible first | exact HB.out | apply below_alloc | apply pw_below_drewN | apply below_drew1 | refine below_set ?_ GE194.out | refine below_set ?_ GE213.out) | exact HB.out))))⟩ (fun hHeld => ?_)
                              clear hK K
                              refine norm_ (a' := ?_) ?_ ?_
                              rotate_left
                              · show Act.put _ (some 6) _ = _
                                simp only [Act.put, List.setIfInBounds_toArray, List.set_cons_zero, List.set_cons_succ, i64_w, i32_w]
                                rfl
                              refine one_ (i := 25) (N := none) #[true, true, true, true, true, true, true, true, true, true, true, true, true, true, true, true, true, true, true, true, true, true, true, true, true, true] rfl rfl (one_of HT_.out (by kernel_rfl)) (by decide) (fun K hK => ?_)
                              have hs67 : w65.cell? ⟨gb213, 0, none⟩ = some (.int .i64 0) := (blk_cell BK213.out 0).trans rfl
                              have hfs67 := blk_frozen BK213.out 0
                              have hns67_0 := NB194_213.out
                              have hms67_0 := NB213_194.out
                              have hs68 : w65.cell? ⟨gb213, 1, none⟩ = some (.int .i64 0) := (blk_cell BK213.out 1).trans rfl
                              have hfs68 := blk_frozen BK213.out 1
                              have hns68_0 := NB194_213.out
                              have hms68_0 := NB213_194.out
                              have hs69 : w65.cell? ⟨gb213, 2, none⟩ = some (.int .i64 0) := (blk_cell BK213.out 2).trans rfl
                              have hfs69 := blk_frozen BK213.out 2
                              have hns69_0 := NB194_213.out
                              have hms69_0 := NB213_194.out
                              have hs70 : w65.cell? ⟨gb213, 3, none⟩ = some (.int .i64 0) := (blk_cell BK213.out 3).trans rfl
                              have hfs70 := blk_frozen BK213.out 3
                              have hns70_0 := NB194_213.out
                              have hms70_0 := NB213_194.out
                              have hs71 : w65.cell? ⟨gb213, 4, none⟩ = some (.int .i64 0) := (blk_cell BK213.out 4).trans rfl
                              have hfs71 := blk_frozen BK213.out 4
                              have hns71_0 := NB194_213.out
                              have hms71_0 := NB213_194.out
                              have hs72 : w65.cell? ⟨gb213, 5, none⟩ = some (.string (⟨#[]⟩ : ByteArray)) := (blk_cell BK213.out 5).trans rfl
                              have hfs72 := blk_frozen BK213.out 5
                              have hns72_0 := NB194_213.out
                              have hms72_0 := NB213_194.out
                              refine skip_ (w1 := ?_) (by rfl) rfl ?_ ?_
                              rotate_left
                              · go_simp
                                rfl
                              have hfar2_ := Kd.own_blk (Kd.R_ne HO205.out BK213.out (by decide))
                              refine hK.out _ _ ⟨(Fz.far (by first | exact hfar2_ | (rw [add_block]; exact hfar2_) | (show (Addr.add _ _).block ≠ _; rw [add_block]; exact hfar2_) | (dsimp only; exact hfar2_)) ((Fz.far (by first | exact hfar2_ | (rw [add_block]; exact hfar2_) | (show (Addr.add _ _).block ≠ _; rw [add_block]; exact hfar2_) | (dsimp only; exact hfar2_)) ((Fz.far (by first | exact hfar2_ | (rw [add_block]; exact hfar2_) | (show (Addr.add _ _).block ≠ _; rw [add_block]; exact hfar2_) | (dsimp only; exact hfar2_)) ((Fz.far (by first | exact hfar2_ | (rw [add_block]; exact hfar2_) | (show (Addr.add _ _).block ≠ _; rw [add_block]; exact hfar2_) | (dsimp only; exact hfar2_)) ((Fz.far (by first | exact hfar2_ | (rw [add_block]; exact hfar2_) | (show (Addr.add _ _).block ≠ _; rw [add_block]; exact hfar2_) | (dsimp only; exact hfar2_)) ((Fz.far (by first | exact hfar2_ | (rw [add_block]; exact hfar2_) | (show (Addr.add _ _).block ≠ _; rw [add_block]; exact hfar2_) | (dsimp only; exact hfar2_)) (hHeld.1)))))))))))), (Fz.far (by first | exact hfar2_ | (rw [add_block]; exact hfar2_) | (show (Addr.add _ _).block ≠ _; rw [add_block]; exact hfar2_) | (dsimp only; exact hfar2_)) ((Fz.far (by first | exact hfar2_ | (rw [add_block]; exact hfar2_) | (show (Addr.add _ _).block ≠ _; rw [add_block]; exact hfar2_) | (dsimp only; exact hfar2_)) ((Fz.far (by first | exact hfar2_ | (rw [add_block]; exact hfar2_) | (show (Addr.add _ _).block ≠ _; rw [add_block]; exact hfar2_) | (dsimp only; exact hfar2_)) ((Fz.far (by first | exact hfar2_ | (rw [add_block]; exact hfar2_) | (show (Addr.add _ _).block ≠ _; rw [add_block]; exact hfar2_) | (dsimp only; exact hfar2_)) ((Fz.far (by first | exact hfar2_ | (rw [add_block]; exact hfar2_) | (show (Addr.add _ _).block ≠ _; rw [add_block]; exact hfar2_) | (dsimp only; exact hfar2_)) ((Fz.far (by first | exact hfar2_ | (rw [add_block]; exact hfar2_) | (show (Addr.add _ _).block ≠ _; rw [add_block]; exact hfar2_) | (dsimp only; exact hfar2_)) (hHeld.2.1)))))))))))), (Fz.far (by first | exact hfar2_ | (rw [add_block]; exact hfar2_) | (show (Addr.add _ _).block ≠ _; rw [add_block]; exact hfar2_) | (dsimp only; exact hfar2_)) ((Fz.far (by first | exact hfar2_ | (rw [add_block]; exact hfar2_) | (show (Addr.add _ _).block ≠ _; rw [add_block]; exact hfar2_) | (dsimp only; exact hfar2_)) ((Fz.far (by first | exact hfar2_ | (rw [add_block]; exact hfar2_) | (show (Addr.add _ _).block ≠ _; rw [add_block]; exact hfar2_) | (dsimp only; exact hfar2_)) ((Fz.far (by first | exact hfar2_ | (rw [add_block]; exact hfar2_) | (show (Addr.add _ _).block ≠ _; rw [add_block]; exact hfar2_) | (dsimp only; exact hfar2_)) ((Fz.far (by first | exact hfar2_ | (rw [add_block]; exact hfar2_) | (show (Addr.add _ _).block ≠ _; rw [add_block]; exact hfar2_) | (dsimp only; exact hfar2_)) ((Fz.far (by first | exact hfar2_ | (rw [add_block]; exact hfar2_) | (show (Addr.add _ _).block ≠ _; rw [add_block]; exact hfar2_) | (dsimp only; exact hfar2_)) (hHeld.2.2.1)))))))))))), (Fz.far (by first | exact hfar2_ | (rw [add_block]; exact hfar2_) | (show (Addr.add _ _).block ≠ _; rw [add_block]; exact hfar2_) | (dsimp only; exact hfar2_)) ((Fz.far (by first | exact hfar2_ | (rw [add_block]; exact hfar2_) | (show (Addr.add _ _).block ≠ _; rw [add_block]; exact hfar2_) | (dsimp only; exact hfar2_)) ((Fz.far (by first | exact hfar2_ | (rw [add_block]; exact hfar2_) | (show (Addr.add _ _).block ≠ _; rw [add_block]; exact hfar2_) | (dsimp only; exact hfar2_)) ((Fz.far (by first | exact hfar2_ | (rw [add_block]; exact hfar2_) | (show (Addr.add _ _).block ≠ _; rw [add_block]; exact hfar2_) | (dsimp only; exact hfar2_)) ((Fz.far (by first | exact hfar2_ | (rw [add_block]; exact hfar2_) | (show (Addr.add _ _).block ≠ _; rw [add_block]; exact hfar2_) | (dsimp only; exact hfar2_)) ((Fz.far (by first | exact hfar2_ | (rw [add_block]; exact hfar2_) | (show (Addr.add _ _).block ≠ _; rw [add_block]; exact hfar2_) | (dsimp only; exact hfar2_)) (hHeld.2.2.2.1)))))))))))), (Fz.far (by first | exact hfar2_ | (rw [add_block]; exact hfar2_) | (show (Addr.add _ _).block ≠ _; rw [add_block]; exact hfar2_) | (dsimp only; exact hfar2_)) ((Fz.far (by first | exact hfar2_ | (rw [add_block]; exact hfar2_) | (show (Addr.add _ _).block ≠ _; rw [add_block]; exact hfar2_) | (dsimp only; exact hfar2_)) ((Fz.far (by first | exact hfar2_ | (rw [add_block]; exact hfar2_) | (show (Addr.add _ _).block ≠ _; rw [add_block]; exact hfar2_) | (dsimp only; exact hfar2_)) ((Fz.far (by first | exact hfar2_ | (rw [add_block]; exact hfar2_) | (show (Addr.add _ _).block ≠ _; rw [add_block]; exact hfar2_) | (dsimp only; exact hfar2_)) ((Fz.far (by first | exact hfar2_ | (rw [add_block]; exact hfar2_) | (show (Addr.add _ _).block ≠ _; rw [add_block]; exact hfar2_) | (dsimp only; exact hfar2_)) ((Fz.far (by first | exact hfar2_ | (rw [add_block]; exact hfar2_) | (show (Addr.add _ _).block ≠ _; rw [add_block]; exact hfar2_) | (dsimp only; exact hfar2_)) (hHeld.2.2.2.2.1)))))))))))), (Kd.C_string (P := Try.prog) (A := A63) (c := (c0 - 14)) Try.underlying24 Try.underlying5 Try.underlying9 (Kd.C_below HR212.out (by repeat (first | (with_reducible first | exact HB.out | apply below_alloc | apply pw_below_drewN | apply below_drew1 | refine below_set ?_ GE194.out | refine below_set ?_ GE213.out) | exact HB.out))))⟩ (fun hHeld => ?_)
                              clear hK K
                              refine done_ (done_of HT_.out (by kernel_rfl)) ?_
                              have hnb73 := NB213_194.out
                              have hnc73 := NB194_213.out
                              have hcz74_0 : w65.cell? ⟨gb213, 0, none⟩ = some (.int .i64 0) := (blk_cell BK213.out 0).trans rfl
                              have hcz74_1 : w65.cell? ⟨gb213, 1, none⟩ = some (.int .i64 0) := (blk_cell BK213.out 1).trans rfl
                              have hcz74_2 : w65.cell? ⟨gb213, 2, none⟩ = some (.int .i64 0) := (blk_cell BK213.out 2).trans rfl
                              have hcz74_3 : w65.cell? ⟨gb213, 3, none⟩ = some (.int .i64 0) := (blk_cell BK213.out 3).trans rfl
                              have hcz74_4 : w65.cell? ⟨gb213, 4, none⟩ = some (.int .i64 0) := (blk_cell BK213.out 4).trans rfl
                              have hcz74_5 : w65.cell? ⟨gb213, 5, none⟩ = some (.string (⟨#[]⟩ : ByteArray)) := (blk_cell BK213.out 5).trans rfl
                              have hfz74_0 := blk_frozen BK213.out 0
                              have hfz74_1 := blk_frozen BK213.out 1
                              have hfz74_2 := blk_frozen BK213.out 2
                              have hfz74_3 := blk_frozen BK213.out 3
                              have hfz74_4 := blk_frozen BK213.out 4
                              have hfz74_5 := blk_frozen BK213.out 5
                              try go_wp2_with (first | ((with_reducible refine gate_callee (f := 10) rfl ?_); refine goesL_ (some 50) rfl rfl Try.func10 (by kernel_rfl) rfl #[.agg #[.int .i64 (wrap64 (rd t203 0)), .int .i64 (wrap64 (rd t203 1)), .int .i64 (wrap64 (rd t203 2)), .int .i64 (wrap64 (rd t203 3)), .int .i64 (wrap64 (rd t203 4)), .string (strOfNums ((l0.take 30).drop 14))]] rfl (by (try simp only [List.map_toArray, List.map_cons, List.map_nil]); first | done | rfl | (simp only [List.length_drop, List.length_take]; rfl)) ?_; (with_reducible refine (header_Encode.calls k (wrap64 (rd t203 0)) (wrap64 (rd t203 1)) (wrap64 (rd t203 2)) (wrap64 (rd t203 3)) (wrap64 (rd t203 4)) (strOfNums ((l0.take 30).drop 14)) t214 t217 _ A21.out).mono ?_); rintro e w75 ⟨v215, rfl, ho0, hb⟩; refine ⟨_, rfl, ?_⟩; have n0_ := Aside0.mk (Kd.R_elder' (by (with_reducible repeat (first | apply Kd.R_alloc | apply Kd.R_drewN | apply Kd.R_drew)); exact (Kd.R_mono (Kd.R_far (p := ⟨gb213, 5, none⟩) (Kd.R_far (p := ⟨gb213, 4, none⟩) (Kd.R_far (p := ⟨gb213, 3, none⟩) (Kd.R_far (p := ⟨gb213, 2, none⟩) (Kd.R_far (p := ⟨gb213, 1, none⟩) (Kd.R_far (p := ⟨gb213, 0, none⟩) (Kd.R_types HO197.out BK213.out (by decide)) (fun _ hk => hk.2) (.int .i64 (wrap64 (rd t203 0)))) (fun _ hk => hk.2) (.int .i64 (wrap64 (rd t203 1)))) (fun _ hk => hk.2) (.int .i64 (wrap64 (rd t203 2)))) (fun _ hk => hk.2) (.int .i64 (wrap64 (rd t203 3)))) (fun _ hk => hk.2) (.int .i64 (wrap64 (rd t203 4)))) (fun _ hk => hk.2) (.string (strOfNums ((l0.take 30).drop 14)))) (fun _ h_ => h_.1))) (Kd.R_base ho0) hb); have n1_ := Aside0.mk (Kd.R_below (by (with_reducible repeat (first | apply Kd.R_alloc | apply Kd.R_drewN | apply Kd.R_drew)); exact (Kd.R_mono (Kd.R_far (p := ⟨gb213, 5, none⟩) (Kd.R_far (p := ⟨gb213, 4, none⟩) (Kd.R_far (p := ⟨gb213, 3, none⟩) (Kd.R_far (p := ⟨gb213, 2, none⟩) (Kd.R_far (p := ⟨gb213, 1, none⟩) (Kd.R_far (p := ⟨gb213, 0, none⟩) (Kd.R_types HO202.out BK213.out (by decide)) (fun _ hk => hk.2) (.int .i64 (wrap64 (rd t203 0)))) (fun _ hk => hk.2) (.int .i64 (wrap64 (rd t203 1)))) (fun _ hk => hk.2) (.int .i64 (wrap64 (rd t203 2)))) (fun _ hk => hk.2) (.int .i64 (wrap64 (rd t203 3)))) (fun _ hk => hk.2) (.int .i64 (wrap64 (rd t203 4)))) (fun _ hk => hk.2) (.string (strOfNums ((l0.take 30).drop 14)))) (fun _ h_ => h_.1))) hb); have n2_ := Aside0.mk (Kd.R_below (by (with_reducible repeat (first | apply Kd.R_alloc | apply Kd.R_drewN | apply Kd.R_drew)); exact (Kd.R_mono (Kd.R_far (p := ⟨gb213, 5, none⟩) (Kd.R_far (p := ⟨gb213, 4, none⟩) (Kd.R_far (p := ⟨gb213, 3, none⟩) (Kd.R_far (p := ⟨gb213, 2, none⟩) (Kd.R_far (p := ⟨gb213, 1, none⟩) (Kd.R_far (p := ⟨gb213, 0, none⟩) (Kd.R_types HO205.out BK213.out (by decide)) (fun _ hk => hk.2) (.int .i64 (wrap64 (rd t203 0)))) (fun _ hk => hk.2) (.int .i64 (wrap64 (rd t203 1)))) (fun _ hk => hk.2) (.int .i64 (wrap64 (rd t203 2)))) (fun _ hk => hk.2) (.int .i64 (wrap64 (rd t203 3)))) (fun _ hk => hk.2) (.int .i64 (wrap64 (rd t203 4)))) (fun _ hk => hk.2) (.string (strOfNums ((l0.take 30).drop 14)))) (fun _ h_ => h_.1))) hb); have n3_ := Aside0.mk (Kd.R_lower (Kd.R_new' ho0 (Kd.R_lt (by (with_reducible repeat (first | apply Kd.R_alloc | apply Kd.R_drewN | apply Kd.R_drew)); exact (Kd.R_mono (Kd.R_far (p := ⟨gb213, 5, none⟩) (Kd.R_far (p := ⟨gb213, 4, none⟩) (Kd.R_far (p := ⟨gb213, 3, none⟩) (Kd.R_far (p := ⟨gb213, 2, none⟩) (Kd.R_far (p := ⟨gb213, 1, none⟩) (Kd.R_far (p := ⟨gb213, 0, none⟩) (Kd.R_types HO197.out BK213.out (by decide)) (fun _ hk => hk.2) (.int .i64 (wrap64 (rd t203 0)))) (fun _ hk => hk.2) (.int .i64 (wrap64 (rd t203 1)))) (fun _ hk => hk.2) (.int .i64 (wrap64 (rd t203 2)))) (fun _ hk => hk.2) (.int .i64 (wrap64 (rd t203 3)))) (fun _ hk => hk.2) (.int .i64 (wrap64 (rd t203 4)))) (fun _ hk => hk.2) (.string (strOfNums ((l0.take 30).drop 14)))) (fun _ h_ => h_.1))))) (below_size (by repeat (first | (with_reducible first | exact HB.out | apply below_alloc | apply pw_below_drewN | apply below_drew1 | refine below_set ?_ GE194.out | refine below_set ?_ GE213.out) | exact HB.out)))); have n4_ := Aside0.mk (blk_below (g := gb194) (o := .cells #[.int .i64 0, .int .i64 0, .int .i64 0, .int .i64 0, .int .i64 0, .string (⟨#[]⟩ : ByteArray)] 23 (0, 0)) (by (with_reducible repeat (first | refine blk_drewN ?_ _ | refine blk_drew ?_ | refine blk_alloc ?_ _)); refine blk_far ?_ NB194_213.out _; (with_reducible repeat (first | refine blk_drewN ?_ _ | refine blk_drew ?_ | refine blk_alloc ?_ _)); refine blk_far ?_ NB194_213.out _; (with_reducible repeat (first | refine blk_drewN ?_ _ | refine blk_drew ?_ | refine blk_alloc ?_ _)); refine blk_far ?_ NB194_213.out _; (with_reducible repeat (first | refine blk_drewN ?_ _ | refine blk_drew ?_ | refine blk_alloc ?_ _)); refine blk_far ?_ NB194_213.out _; (with_reducible repeat (first | refine blk_drewN ?_ _ | refine blk_drew ?_ | refine blk_alloc ?_ _)); refine blk_far ?_ NB194_213.out _; (with_reducible repeat (first | refine blk_drewN ?_ _ | refine blk_drew ?_ | refine blk_alloc ?_ _)); refine blk_far ?_ NB194_213.out _; (with_reducible repeat (first | refine blk_drewN ?_ _ | refine blk_drew ?_ | refine blk_alloc ?_ _)); exact BK194.out) hb); have n5_ := Aside0.mk (blk_below (g := gb213) (o := .cells #[.int .i64 (wrap64 (rd t203 0)), .int .i64 (wrap64 (rd t203 1)), .int .i64 (wrap64 (rd t203 2)), .int .i64 (wrap64 (rd t203 3)), .int .i64 (wrap64 (rd t203 4)), .string (strOfNums ((l0.take 30).drop 14))] 23 (0, 0)) (by (with_reducible repeat (first | refine blk_drewN ?_ _ | refine blk_drew ?_ | refine blk_alloc ?_ _)); refine blk_put (cs := #[.int .i64 (wrap64 (rd t203 0)), .int .i64 (wrap64 (rd t203 1)), .int .i64 (wrap64 (rd t203 2)), .int .i64 (wrap64 (rd t203 3)), .int .i64 (wrap64 (rd t203 4)), .string (⟨#[]⟩ : ByteArray)]) ?_ 5 _ rfl; (with_reducible repeat (first | refine blk_drewN ?_ _ | refine blk_drew ?_ | refine blk_alloc ?_ _)); refine blk_put (cs := #[.int .i64 (wrap64 (rd t203 0)), .int .i64 (wrap64 (rd t203 1)), .int .i64 (wrap64 (rd t203 2)), .int .i64 (wrap64 (rd t203 3)), .int .i64 0, .string (⟨#[]⟩ : ByteArray)]) ?_ 4 _ rfl; (with_reducible repeat (first | refine blk_drewN ?_ _ | refine blk_drew ?_ | refine blk_alloc ?_ _)); refine blk_put (cs := #[.int .i64 (wrap64 (rd t203 0)), .int .i64 (wrap64 (rd t203 1)), .int .i64 (wrap64 (rd t203 2)), .int .i64 0, .int .i64 0, .string (⟨#[]⟩ : ByteArray)]) ?_ 3 _ rfl; (with_reducible repeat (first | refine blk_drewN ?_ _ | refine blk_drew ?_ | refine blk_alloc ?_ _)); refine blk_put (cs := #[.int .i64 (wrap64 (rd t203 0)), .int .i64 (wrap64 (rd t203 1)), .int .i64 0, .int .i64 0, .int .i64 0, .string (⟨#[]⟩ : ByteArray)]) ?_ 2 _ rfl; (with_reducible repeat (first | refine blk_drewN ?_ _ | refine blk_drew ?_ | refine blk_alloc ?_ _)); refine blk_put (cs := #[.int .i64 (wrap64 (rd t203 0)), .int .i64 0, .int .i64 0, .int .i64 0, .int .i64 0, .string (⟨#[]⟩ : ByteArray)]) ?_ 1 _ rfl; (with_reducible repeat (first | refine blk_drewN ?_ _ | refine blk_drew ?_ | refine blk_alloc ?_ _)); refine blk_put (cs := #[.int .i64 0, .int .i64 0, .int .i64 0, .int .i64 0, .int .i64 0, .string (⟨#[]⟩ : ByteArray)]) ?_ 0 _ rfl; (with_reducible repeat (first | refine blk_drewN ?_ _ | refine blk_drew ?_ | refine blk_alloc ?_ _)); exact BK213.out) hb); have n6_ := Aside0.mk (below_step (by repeat (first | (with_reducible first | exact HB.out | apply below_alloc | apply pw_below_drewN | apply below_drew1 | refine below_set ?_ GE194.out | refine below_set ?_ GE213.out) | exact HB.out)) hb); clear HO197; clear HO202; clear HO205; clear BK194; clear BK213; clear HB; have HO197 := n0_; have HO202 := n1_; have HO205 := n2_; have HO216 := n3_; have BK194 := n4_; have BK213 := n5_; have HB := n6_; clear n0_ n1_ n2_ n3_ n4_ n5_ n6_; (try clear hb); (try clear hb2); (try clear hk); (try clear hi); (try clear ho0); obtain ⟨Ao76, co76, eo76⟩ := Kd.R_slice HO216.out; subst eo76) | (go_at_call 26; (with_reducible refine (bytes_Equal.calls _ _ t214 _ _ l0 false _ ?side1 ?side2 ?side3 ?side4 A23.out).mono ?_); (case side1 => repeat (first | exact (Kd.R_reads' HO216.out).2.2 | (with_reducible refine Kd.C_alloc ?_ _) | (with_reducible refine Kd.C_drewN ?_ _) | (with_reducible refine Kd.C_drew ?_))); (case side2 => exact (Kd.R_reads' HO216.out).2.1); (case side3 => repeat (first | exact (Kd.C_below HR0.out HB.out) | (with_reducible refine Kd.C_alloc ?_ _) | (with_reducible refine Kd.C_drewN ?_ _) | (with_reducible refine Kd.C_drew ?_))); (case side4 => exact HC0.out); rintro e w' ⟨rfl, ⟨nd, rfl⟩⟩; (try (rw [drewN_self w75]; generalize hq_ : World.drewN w75 _ = w75; have n0_ : Aside0 (Kd.R (Kd.int .u8) 5 w75 w.heap.size (fun k_ => some k_ ≠ (.slice Ao76 t214.length co76 : Value).ownBlock) (.slice Ao55 y195.length co55) y195) := ⟨by rw [← hq_]; exact (by (with_reducible repeat (first | apply Kd.R_alloc | apply Kd.R_drewN | apply Kd.R_drew)); exact Kd.R_mono HO197.out (fun _ hk => hk.2))⟩; have n1_ : Aside0 (Kd.R (Kd.int .i64) 3 w75 w.heap.size (fun _ => True) (.slice Ao59 y200.length co59) y200) := ⟨by rw [← hq_]; exact (by (with_reducible repeat (first | apply Kd.R_alloc | apply Kd.R_drewN | apply Kd.R_drew)); exact HO202.out)⟩; have n2_ : Aside0 (Kd.R (Kd.int .u64) 54 w75 w.heap.size (fun _ => True) (.slice (some ad207) t203.length co62) t203) := ⟨by rw [← hq_]; exact (by (with_reducible repeat (first | apply Kd.R_alloc | apply Kd.R_drewN | apply Kd.R_drew)); exact HO205.out)⟩; have n3_ : Aside0 (Kd.R (Kd.int .u8) 5 w75 w.heap.size (fun k_ => some k_ ≠ (.slice Ao55 y195.length co55 : Value).ownBlock) (.slice Ao76 t214.length co76) t214) := ⟨by rw [← hq_]; exact (by (with_reducible repeat (first | apply Kd.R_alloc | apply Kd.R_drewN | apply Kd.R_drew)); exact Kd.R_mono HO216.out (fun _ hk => hk.2))⟩; have n4_ : Aside0 (w75.heap[gb194]? = some (.cells #[.int .i64 0, .int .i64 0, .int .i64 0, .int .i64 0, .int .i64 0, .string (⟨#[]⟩ : ByteArray)] 23 (0, 0))) := ⟨by rw [← hq_]; exact (by (with_reducible repeat (first | refine blk_drewN ?_ _ | refine blk_drew ?_ | refine blk_alloc ?_ _)); exact BK194.out)⟩; have n5_ : Aside0 (w75.heap[gb213]? = some (.cells #[.int .i64 (wrap64 (rd t203 0)), .int .i64 (wrap64 (rd t203 1)), .int .i64 (wrap64 (rd t203 2)), .int .i64 (wrap64 (rd t203 3)), .int .i64 (wrap64 (rd t203 4)), .string (strOfNums ((l0.take 30).drop 14))] 23 (0, 0))) := ⟨by rw [← hq_]; exact (by (with_reducible repeat (first | refine blk_drewN ?_ _ | refine blk_drew ?_ | refine blk_alloc ?_ _)); exact BK213.out)⟩; have n6_ : Aside0 (Below w.heap.size w w75) := ⟨by rw [← hq_]; exact (by repeat (first | (with_reducible first | exact HB.out | apply below_alloc | apply pw_below_drewN | apply below_drew1 | refine below_set ?_ GE194.out | refine below_set ?_ GE213.out) | exact HB.out))⟩; clear HO197 HO202 HO205 HO216 BK194 BK213 HB hq_; have HO197 := n0_; have HO202 := n1_; have HO205 := n2_; have HO216 := n3_; have BK194 := n4_; have BK213 := n5_; have HB := n6_; clear n0_ n1_ n2_ n3_ n4_ n5_ n6_)); have hcz77_0 : w75.cell? ⟨gb194, 0, none⟩ = some (.int .i64 0) := (blk_cell BK194.out 0).trans rfl; have hcz77_1 : w75.cell? ⟨gb194, 1, none⟩ = some (.int .i64 0) := (blk_cell BK194.out 1).trans rfl; have hcz77_2 : w75.cell? ⟨gb194, 2, none⟩ = some (.int .i64 0) := (blk_cell BK194.out 2).trans rfl; have hcz77_3 : w75.cell? ⟨gb194, 3, none⟩ = some (.int .i64 0) := (blk_cell BK194.out 3).trans rfl; have hcz77_4 : w75.cell? ⟨gb194, 4, none⟩ = some (.int .i64 0) := (blk_cell BK194.out 4).trans rfl; have hcz77_5 : w75.cell? ⟨gb194, 5, none⟩ = some (.string (⟨#[]⟩ : ByteArray)) := (blk_cell BK194.out 5).trans rfl; have hfz77_0 := blk_frozen BK194.out 0; have hfz77_1 := blk_frozen BK194.out 1; have hfz77_2 := blk_frozen BK194.out 2; have hfz77_3 := blk_frozen BK194.out 3; have hfz77_4 := blk_frozen BK194.out 4; have hfz77_5 := blk_frozen BK194.out 5))
                              refine bodyPost_ret (results_ct rfl _ _ gb194 23 #[.int .i64 0, .int .i64 0, .int .i64 0, .int .i64 0, .int .i64 0, .string (⟨#[]⟩ : ByteArray)] (0, 0) _ rfl (by (with_reducible repeat (first | refine blk_drewN ?_ _ | refine blk_drew ?_ | refine blk_alloc ?_ _)); refine blk_put (cs := #[.int .i64 0, .int .i64 0, .int .i64 0, .int .i64 0, .int .i64 0, .string (⟨#[]⟩ : ByteArray)]) ?_ 5 _ rfl; (with_reducible repeat (first | refine blk_drewN ?_ _ | refine blk_drew ?_ | refine blk_alloc ?_ _)); refine blk_put (cs := #[.int .i64 0, .int .i64 0, .int .i64 0, .int .i64 0, .int .i64 0, .string (⟨#[]⟩ : ByteArray)]) ?_ 4 _ rfl; (with_reducible repeat (first | refine blk_drewN ?_ _ | refine blk_drew ?_ | refine blk_alloc ?_ _)); refine blk_put (cs := #[.int .i64 0, .int .i64 0, .int .i64 0, .int .i64 0, .int .i64 0, .string (⟨#[]⟩ : ByteArray)]) ?_ 3 _ rfl; (with_reducible repeat (first | refine blk_drewN ?_ _ | refine blk_drew ?_ | refine blk_alloc ?_ _)); refine blk_put (cs := #[.int .i64 0, .int .i64 0, .int .i64 0, .int .i64 0, .int .i64 0, .string (⟨#[]⟩ : ByteArray)]) ?_ 2 _ rfl; (with_reducible repeat (first | refine blk_drewN ?_ _ | refine blk_drew ?_ | refine blk_alloc ?_ _)); refine blk_put (cs := #[.int .i64 0, .int .i64 0, .int .i64 0, .int .i64 0, .int .i64 0, .string (⟨#[]⟩ : ByteArray)]) ?_ 1 _ rfl; (with_reducible repeat (first | refine blk_drewN ?_ _ | refine blk_drew ?_ | refine blk_alloc ?_ _)); refine blk_put (cs := #[.int .i64 0, .int .i64 0, .int .i64 0, .int .i64 0, .int .i64 0, .string (⟨#[]⟩ : ByteArray)]) ?_ 0 _ rfl; (with_reducible repeat (first | refine blk_drewN ?_ _ | refine blk_drew ?_ | refine blk_alloc ?_ _)); exact BK194.out) Try.underlying23 rfl (by kernel_rfl)) rfl ?_
                              exact ⟨by first | rfl | (simp [errW_none, errW_some] <;> rfl) | (simp [*, errW_none, errW_some] <;> rfl), by repeat (first | (with_reducible first | exact HB.out | apply below_alloc | apply pw_below_drewN | apply below_drew1 | refine below_set ?_ GE194.out | refine below_set ?_ GE213.out) | exact HB.out)⟩
                          · rw [if_neg c22] at H
                            have c22b0 : (t217 == 0) = false := beq_eq_false_iff_ne.mpr c22
                            have c22b1 : (t217 != 0) = true := bne_iff_ne.mpr c22
                            simp only [Option.some.injEq, Prod.mk.injEq] at H
                            obtain ⟨rfl, rfl, rfl, rfl, rfl, rfl, rfl⟩ := H
                            go_enter Try.func13, Try.ntmps13
                            try go_wp2_with (first | ((with_reducible refine gate_dst (N := 2) rfl ?_); refine box_event ?hg (N := 2) ?hd (cs := #[.int .i64 0, .int .i64 0, .int .i64 0, .int .i64 0, .int .i64 0, .string (⟨#[]⟩ : ByteArray)]) (t := 23) ?hr ?_; (case hd => rfl); (case hg => rfl); (case hr => first | (go_simp; done) | (go_simp; rfl)); intro gb194 hg w78 hbox hb; have n0_ := Aside0.mk (below_step (by repeat (first | (with_reducible first | exact HB.out | apply below_alloc | apply pw_below_drewN | apply below_drew1) | exact HB.out)) hb); have n1_ := Aside0.mk (hbox); have n2_ := Aside0.mk ((by rw [hg]; exact (below_size (by repeat (first | (with_reducible first | exact HB.out | apply below_alloc | apply pw_below_drewN | apply below_drew1) | exact HB.out))) : w.heap.size ≤ gb194)); have n3_ := Aside0.mk ((by rw [hg]; exact (below_size (by repeat (first | (with_reducible first | exact HB.out | apply below_alloc | apply pw_below_drewN | apply below_drew1) | exact HB.out))) : w.heap.size ≤ gb194)); clear HB; have HB := n0_; have BK194 := n1_; have GW194 := n2_; have GE194 := n3_; clear n0_ n1_ n2_ n3_; clear hb hbox hg) | ((with_reducible refine gate_dst (N := 10) rfl ?_); refine Kd.R_make (Kd.int .u8) _ 5 rfl (N := 10) rfl 24 _ _ rfl 64 rfl rfl Try.underlying24 (.int .u8 0) 1 info5 rfl (by decide) (by omega) 0 (ok := fun _ => True) (okp := fun _ => True) rfl (fun _ hk => hk) trivial (by omega) (by omega) (Below.refl _ _) (Nat.le_refl _) ?_; intro v196 w79 ho80 hb hg_ hnew_; clear hg_ hnew_; (first | rw [← Ny195.out] at ho80 | (simp only [Int.reduceToNat] at ho80; rw [← Ny195.out] at ho80)); have n0_ := Aside0.mk (Kd.R_lower ho80 (below_size (by repeat (first | (with_reducible first | exact HB.out | apply below_alloc | apply pw_below_drewN | apply below_drew1 | refine below_set ?_ GE194.out) | exact HB.out)))); have n1_ := Aside0.mk (blk_below (g := gb194) (o := .cells #[.int .i64 0, .int .i64 0, .int .i64 0, .int .i64 0, .int .i64 0, .string (⟨#[]⟩ : ByteArray)] 23 (0, 0)) (by (with_reducible repeat (first | refine blk_drewN ?_ _ | refine blk_drew ?_ | refine blk_alloc ?_ _)); exact BK194.out) hb); have n2_ := Aside0.mk (below_step (by repeat (first | (with_reducible first | exact HB.out | apply below_alloc | apply pw_below_drewN | apply below_drew1 | refine below_set ?_ GE194.out) | exact HB.out)) hb); clear BK194; clear HB; have HO197 := n0_; have BK194 := n1_; have HB := n2_; clear n0_ n1_ n2_; clear hb ho80; obtain ⟨Ao81, co81, eo81⟩ := Kd.R_slice HO197.out; subst eo81) | ((with_reducible refine gate_callee (f := 26) rfl ?_); refine goesL_ (some 11) rfl rfl Try.func26 (by kernel_rfl) rfl #[.slice A0 l0.length c0, .slice Ao81 y195.length co81] rfl (by (try simp only [List.map_toArray, List.map_cons, List.map_nil]); first | done | rfl | (simp only [List.length_drop, List.length_take]; rfl)) ?_; (with_reducible refine (bytes_Equal.calls _ _ l0 _ _ y195 false _ ?side1 ?side2 ?side3 ?side4 A3.out).mono ?_); (case side1 => repeat (first | exact (Kd.C_below HR0.out HB.out) | (with_reducible refine Kd.C_alloc ?_ _) | (with_reducible refine Kd.C_drewN ?_ _) | (with_reducible refine Kd.C_drew ?_))); (case side2 => exact HC0.out); (case side3 => repeat (first | exact (Kd.R_reads' HO197.out).2.2 | (with_reducible refine Kd.C_alloc ?_ _) | (with_reducible refine Kd.C_drewN ?_ _) | (with_reducible refine Kd.C_drew ?_))); (case side4 => exact (Kd.R_reads' HO197.out).2.1); rintro e w' ⟨rfl, ⟨nd, rfl⟩⟩; refine ⟨_, rfl, ?_⟩; (try (rw [drewN_self w79]; generalize hq_ : World.drewN w79 _ = w79; have n0_ : Aside0 (Kd.R (Kd.int .u8) 5 w79 w.heap.size (fun _ => True) (.slice Ao81 y195.length co81) y195) := ⟨by rw [← hq_]; exact (by (with_reducible repeat (first | apply Kd.R_alloc | apply Kd.R_drewN | apply Kd.R_drew)); exact HO197.out)⟩; have n1_ : Aside0 (w79.heap[gb194]? = some (.cells #[.int .i64 0, .int .i64 0, .int .i64 0, .int .i64 0, .int .i64 0, .string (⟨#[]⟩ : ByteArray)] 23 (0, 0))) := ⟨by rw [← hq_]; exact (by (with_reducible repeat (first | refine blk_drewN ?_ _ | refine blk_drew ?_ | refine blk_alloc ?_ _)); exact BK194.out)⟩; have n2_ : Aside0 (Below w.heap.size w w79) := ⟨by rw [← hq_]; exact (by repeat (first | (with_reducible first | exact HB.out | apply below_alloc | apply pw_below_drewN | apply below_drew1 | refine below_set ?_ GE194.out) | exact HB.out))⟩; clear HO197 BK194 HB hq_; have HO197 := n0_; have BK194 := n1_; have HB := n2_; clear n0_ n1_ n2_)); obtain ⟨i082, hi082, _, hsz82, _⟩ := info_parts info5; obtain ⟨A82, hcut82, hA82, hC82⟩ := print_mid_of (P := Try.prog) (Value.int .u8) 0 24 5 .i64 .i64 Try.underlying24 hi082 hsz82 A0 c0 l0 2 14 (by omega) (by first | omega | exact of_decide_eq_true (by first | (with_reducible assumption) | assumption)) (of_decide_eq_true (by first | (with_reducible assumption) | assumption)) HC0.out; have HR199 := Aside0.mk (Kd.C_of_reads (h1 := fun _ => rfl) (hA82 _ (Kd.reads_of_C HR0.out))); have HC199 := Aside0.mk hC82; clear hA82 hC82 hi082 hsz82) | ((with_reducible refine gate_dst (N := 20) rfl ?_); refine Kd.R_lit (Kd.int .i64) _ 3 ?hg (N := 20) ?hd (xs := ([1, 1, 1, 1, 8] : List Int)) (inner := [.int .i64 1, .int .i64 1, .int .i64 1, .int .i64 1, .int .i64 8]) (ok := fun _ => True) (okp := fun _ => True) ?hr ?hp (fun _ hk => hk) trivial (Below.refl _ _) (Nat.le_refl _) (by simp) ?_; (case hd => rfl); (case hg => rfl); (case hr => first | (go_simp; done) | (go_simp; rfl)); (case hp => exact (Reps.one (show Kd.M (Kd.int .i64) _ _ _ 1 [.int .i64 1] from rfl) (Reps.one (show Kd.M (Kd.int .i64) _ _ _ 1 [.int .i64 1] from rfl) (Reps.one (show Kd.M (Kd.int .i64) _ _ _ 1 [.int .i64 1] from rfl) (Reps.one (show Kd.M (Kd.int .i64) _ _ _ 1 [.int .i64 1] from rfl) (Reps.one (show Kd.M (Kd.int .i64) _ _ _ 8 [.int .i64 8] from rfl) (Reps.none _ _))))))); intro v201 w83 ho84 hb hg_ hnew_; clear hg_ hnew_; (first | rw [← Ny200.out] at ho84 | (simp only [Int.reduceToNat] at ho84; rw [← Ny200.out] at ho84)); have n0_ := Aside0.mk (Kd.R_below (by (with_reducible repeat (first | apply Kd.R_alloc | apply Kd.R_drewN | apply Kd.R_drew)); exact HO197.out) hb); have n1_ := Aside0.mk (Kd.R_lower ho84 (below_size (by repeat (first | (with_reducible first | exact HB.out | apply below_alloc | apply pw_below_drewN | apply below_drew1 | refine below_set ?_ GE194.out) | exact HB.out)))); have n2_ := Aside0.mk (blk_below (g := gb194) (o := .cells #[.int .i64 0, .int .i64 0, .int .i64 0, .int .i64 0, .int .i64 0, .string (⟨#[]⟩ : ByteArray)] 23 (0, 0)) (by (with_reducible repeat (first | refine blk_drewN ?_ _ | refine blk_drew ?_ | refine blk_alloc ?_ _)); exact BK194.out) hb); have n3_ := Aside0.mk (below_step (by repeat (first | (with_reducible first | exact HB.out | apply below_alloc | apply pw_below_drewN | apply below_drew1 | refine below_set ?_ GE194.out) | exact HB.out)) hb); clear HO197; clear BK194; clear HB; have HO197 := n0_; have HO202 := n1_; have BK194 := n2_; have HB := n3_; clear n0_ n1_ n2_ n3_; clear hb ho84; obtain ⟨Ao85, co85, eo85⟩ := Kd.R_slice HO202.out; subst eo85) | ((with_reducible refine gate_callee (f := 27) rfl ?_); refine goesL_ (some 21) rfl rfl Try.func27 (by kernel_rfl) rfl #[.slice A82 ((l0.take 14).drop 2).length (c0 - 2), .slice Ao85 y200.length co85] rfl (by (try simp only [List.map_toArray, List.map_cons, List.map_nil]); first | done | (rw [show ((l0.take 14).drop 2).length = (14 - 2) from (by rw [List.length_drop, List.length_take]; have h_ : (14 : Int) ≤ (l0.length : Int) := of_decide_eq_true (by first | (with_reducible assumption) | assumption); omega)] <;> rfl) | rfl | (simp only [List.length_drop, List.length_take]; rfl)) ?_; (with_reducible refine (pack_Split.calls k (fun k_ => k_ < w.heap.size) _ _ ((l0.take 14).drop 2) _ _ y200 t203 t206 _ ?side1 ?side2 ?side3 A13.out).mono ?_); (case side1 => exact Kd.V_mk HC199.out (Kd.F_below (Kd.C_F (Kd.heap_int .u8) HR199.out) (by repeat (first | (with_reducible first | exact HB.out | apply below_alloc | apply pw_below_drewN | apply below_drew1 | refine below_set ?_ GE194.out) | exact HB.out)))); (case side2 => repeat (first | exact (Kd.R_reads' HO202.out).2.2 | (with_reducible refine Kd.C_alloc ?_ _) | (with_reducible refine Kd.C_drewN ?_ _) | (with_reducible refine Kd.C_drew ?_))); (case side3 => exact (Kd.R_reads' HO202.out).2.1); rintro e w86 ⟨v204, rfl, ho0, hb⟩; refine ⟨_, rfl, ?_⟩; have n0_ := Aside0.mk (Kd.R_below (by (with_reducible repeat (first | apply Kd.R_alloc | apply Kd.R_drewN | apply Kd.R_drew)); exact HO197.out) hb); have n1_ := Aside0.mk (Kd.R_below (by (with_reducible repeat (first | apply Kd.R_alloc | apply Kd.R_drewN | apply Kd.R_drew)); exact HO202.out) hb); have n2_ := Aside0.mk (Kd.R_lower (Kd.R_mono (ok' := fun k_ => True) ho0 (fun _ hk_ => trivial)) (below_size (by repeat (first | (with_reducible first | exact HB.out | apply below_alloc | apply pw_below_drewN | apply below_drew1 | refine below_set ?_ GE194.out) | exact HB.out)))); have n3_ := Aside0.mk (blk_below (g := gb194) (o := .cells #[.int .i64 0, .int .i64 0, .int .i64 0, .int .i64 0, .int .i64 0, .string (⟨#[]⟩ : ByteArray)] 23 (0, 0)) (by (with_reducible repeat (first | refine blk_drewN ?_ _ | refine blk_drew ?_ | refine blk_alloc ?_ _)); exact BK194.out) hb); have n4_ := Aside0.mk (below_step (by repeat (first | (with_reducible first | exact HB.out | apply below_alloc | apply pw_below_drewN | apply below_drew1 | refine below_set ?_ GE194.out) | exact HB.out)) hb); clear HO197; clear HO202; clear BK194; clear HB; have HO197 := n0_; have HO202 := n1_; have HO205 := n2_; have BK194 := n3_; have HB := n4_; clear n0_ n1_ n2_ n3_ n4_; (try clear hb); (try clear hb2); (try clear hk); (try clear hi); (try clear ho0)))
                            have n0_ := Aside0.mk (Kd.R_drew HO197.out)
                            have n1_ := Aside0.mk (Kd.R_drew HO202.out)
                            have n2_ := Aside0.mk (Kd.R_drew HO205.out)
                            have n3_ := Aside0.mk (blk_drew BK194.out)
                            have n4_ := Aside0.mk (below_drew1 HB.out)
                            clear HO197
                            clear HO202
                            clear HO205
                            clear BK194
                            clear HB
                            have HO197 := n0_
                            have HO202 := n1_
                            have HO205 := n2_
                            have BK194 := n3_
                            have HB := n4_
                            clear n0_ n1_ n2_ n3_ n4_
                            obtain ⟨Ao88, co88, eo88⟩ := Kd.R_slice HO205.out
                            (first | subst eo88 | (injection eo88 with f1_ f2_ f3_; have f4_ := f1_.symm; have f5_ := f3_.symm; clear f1_ f2_ f3_; subst f4_; subst f5_))
                            have p207 : 0 ≤ (0 : Int) := (by omega)
                            have q207 : 0 < (t203.length : Int) := of_decide_eq_true (by first | (with_reducible assumption) | assumption)
                            obtain ⟨ad207, e207, hx207_0⟩ := Kd.at_int (Kd.R_reads' HO205.out).2.2 0 p207 q207
                            cases e207
                            have qi207 : (0 < t203.length) = True := eq_true (by omega)
                            (try rw [show ((0 : Int)).toNat = 0 from rfl] at hx207_0)
                            (try rw [Addr.add_zero'] at hx207_0)
                            replace p207 := eq_true p207
                            replace q207 := eq_true q207
                            have p208 : 0 ≤ (1 : Int) := (by omega)
                            have q208 : 1 < (t203.length : Int) := of_decide_eq_true (by first | (with_reducible assumption) | assumption)
                            obtain ⟨ad208, e208, hx208_0⟩ := Kd.at_int (Kd.R_reads' HO205.out).2.2 1 p208 q208
                            obtain rfl : ad207 = ad208 := (by injection e208)
                            (try simp only [show (1 : Int).toNat = 1 from rfl, Nat.reduceMul, Nat.reduceEqDiff, Go.Addr.add, ↓reduceIte] at hx208_0)
                            have qi208 : (1 < t203.length) = True := eq_true (by omega)
                            (try rw [show ((1 : Int)).toNat = 1 from rfl] at hx208_0)
                            replace p208 := eq_true p208
                            replace q208 := eq_true q208
                            have p209 : 0 ≤ (2 : Int) := (by omega)
                            have q209 : 2 < (t203.length : Int) := of_decide_eq_true (by first | (with_reducible assumption) | assumption)
                            obtain ⟨ad209, e209, hx209_0⟩ := Kd.at_int (Kd.R_reads' HO205.out).2.2 2 p209 q209
                            obtain rfl : ad207 = ad209 := (by injection e209)
                            (try simp only [show (2 : Int).toNat = 2 from rfl, Nat.reduceMul, Nat.reduceEqDiff, Go.Addr.add, ↓reduceIte] at hx209_0)
                            have qi209 : (2 < t203.length) = True := eq_true (by omega)
                            (try rw [show ((2 : Int)).toNat = 2 from rfl] at hx209_0)
                            replace p209 := eq_true p209
                            replace q209 := eq_true q209
                            have p210 : 0 ≤ (3 : Int) := (by omega)
                            have q210 : 3 < (t203.length : Int) := of_decide_eq_true (by first | (with_reducible assumption) | assumption)
                            obtain ⟨ad210, e210, hx210_0⟩ := Kd.at_int (Kd.R_reads' HO205.out).2.2 3 p210 q210
                            obtain rfl : ad207 = ad210 := (by injection e210)
                            (try simp only [show (3 : Int).toNat = 3 from rfl, Nat.reduceMul, Nat.reduceEqDiff, Go.Addr.add, ↓reduceIte] at hx210_0)
                            have qi210 : (3 < t203.length) = True := eq_true (by omega)
                            (try rw [show ((3 : Int)).toNat = 3 from rfl] at hx210_0)
                            replace p210 := eq_true p210
                            replace q210 := eq_true q210
                            have p211 : 0 ≤ (4 : Int) := (by omega)
                            have q211 : 4 < (t203.length : Int) := of_decide_eq_true (by first | (with_reducible assumption) | assumption)
                            obtain ⟨ad211, e211, hx211_0⟩ := Kd.at_int (Kd.R_reads' HO205.out).2.2 4 p211 q211
                            obtain rfl : ad207 = ad211 := (by injection e211)
                            (try simp only [show (4 : Int).toNat = 4 from rfl, Nat.reduceMul, Nat.reduceEqDiff, Go.Addr.add, ↓reduceIte] at hx211_0)
                            have qi211 : (4 < t203.length) = True := eq_true (by omega)
                            (try rw [show ((4 : Int)).toNat = 4 from rfl] at hx211_0)
                            replace p211 := eq_true p211
                            replace q211 := eq_true q211
                            obtain ⟨i089, hi089, _, hsz89, _⟩ := info_parts info5
                            obtain ⟨A89, hcut89, hA89, hC89⟩ := print_mid_of (P := Try.prog) (Value.int .u8) 0 24 5 .i64 .i64 Try.underlying24 hi089 hsz89 A0 c0 l0 14 30 (by omega) (by first | omega | exact of_decide_eq_true (by first | (with_reducible assumption) | assumption)) (of_decide_eq_true (by first | (with_reducible assumption) | assumption)) HC0.out
                            have HR212 := Aside0.mk (Kd.C_of_reads (h1 := fun _ => rfl) (hA89 _ (Kd.reads_of_C HR0.out)))
                            have HC212 := Aside0.mk hC89
                            clear hA89 hC89 hi089 hsz89
                            have hcv90 := Kd.C_string (P := Try.prog) (A := A89) (c := (c0 - 14)) Try.underlying24 Try.underlying5 Try.underlying9 (Kd.C_below HR212.out HB.out)
                            have hcx90 := hcv90
                            (try simp only [Int.reduceToNat, List.length_drop, List.length_take] at hcx90)
                            refine start_ (n := 26) (S := fun w' => w'.cell? ad207 = some (.int .u64 (rd t203 0)) ∧ w'.cell? ⟨ad207.block, ad207.off + 1, none⟩ = some (.int .u64 (rd t203 1)) ∧ w'.cell? ⟨ad207.block, ad207.off + 2, none⟩ = some (.int .u64 (rd t203 2)) ∧ w'.cell? ⟨ad207.block, ad207.off + 3, none⟩ = some (.int .u64 (rd t203 3)) ∧ w'.cell? ⟨ad207.block, ad207.off + 4, none⟩ = some (.int .u64 (rd t203 4)) ∧ (convert 24 9 (.slice A89 ((l0.take 30).drop 14).length (c0 - 14))).run Try.prog w' = .ok (.string (strOfNums ((l0.take 30).drop 14))) w') (ds := []) #[false, false, false, false, false, false, false, false, false, false, false, false, false, false, false, false, false, false, false, false, false, false, false, false, false, false] (by kernel_rfl) rfl rfl ⟨hx207_0, hx208_0, hx209_0, hx210_0, hx211_0, (Kd.C_string (P := Try.prog) (A := A89) (c := (c0 - 14)) Try.underlying24 Try.underlying5 Try.underlying9 (Kd.C_below HR212.out HB.out))⟩ (fun hHeld => ?_); refine with_tabW header_Decode.tab6 header_Decode.bits6 (fun HT_ HW_ => ?_)
                            generalize w86.drew = w87 at HO197 HO202 HO205 BK194 HB HR212 hx207_0 hx208_0 hx209_0 hx210_0 hx211_0 hHeld ⊢
                            refine pure_ (i := 0) (N := some 24) (v := ?_) (a' := ?_) #[true, false, false, false, false, false, false, false, false, false, false, false, false, false, false, false, false, false, false, false, false, false, false, false, false, false] rfl rfl (any_of HT_.out (by kernel_rfl)) (fun _ _ _ h => h) (Or.inl ⟨by rfl, ?_⟩) ?_ ?_
                            rotate_left
                            · intro w'
                              go_simp
                              with_reducible rfl
                            rotate_left
                            · simp only [Act.put, List.setIfInBounds_toArray, List.set_cons_zero, List.set_cons_succ, i64_w, i32_w]
                              rfl
                            refine pure_ (i := 1) (N := some 25) (v := ?_) (a' := ?_) #[true, true, false, false, false, false, false, false, false, false, false, false, false, false, false, false, false, false, false, false, false, false, false, false, false, false] rfl rfl (any_of HT_.out (by kernel_rfl)) (fun _ _ _ h => h) (Or.inl ⟨by rfl, ?_⟩) ?_ ?_
                            rotate_left
                            · intro w'
                              go_simp
                              with_reducible rfl
                            rotate_left
                            · simp only [Act.put, List.setIfInBounds_toArray, List.set_cons_zero, List.set_cons_succ, i64_w, i32_w]
                              rfl
                            refine pure_ (i := 4) (N := some 28) (v := ?_) (a' := ?_) #[true, true, false, false, true, false, false, false, false, false, false, false, false, false, false, false, false, false, false, false, false, false, false, false, false, false] rfl rfl (any_of HT_.out (by kernel_rfl)) (fun _ _ _ h => h) (Or.inl ⟨by rfl, ?_⟩) ?_ ?_
                            rotate_left
                            · intro w'
                              go_simp
                              with_reducible rfl
                            rotate_left
                            · simp only [Act.put, List.setIfInBounds_toArray, List.set_cons_zero, List.set_cons_succ, i64_w, i32_w]
                              rfl
                            refine pure_ (i := 5) (N := some 29) (v := ?_) (a' := ?_) #[true, true, false, false, true, true, false, false, false, false, false, false, false, false, false, false, false, false, false, false, false, false, false, false, false, false] rfl rfl (any_of HT_.out (by kernel_rfl)) (fun _ _ _ h => h) (Or.inl ⟨by rfl, ?_⟩) ?_ ?_
                            rotate_left
                            · intro w'
                              go_simp
                              with_reducible rfl
                            rotate_left
                            · simp only [Act.put, List.setIfInBounds_toArray, List.set_cons_zero, List.set_cons_succ, i64_w, i32_w]
                              rfl
                            refine pure_ (i := 8) (N := some 32) (v := ?_) (a' := ?_) #[true, true, false, false, true, true, false, false, true, false, false, false, false, false, false, false, false, false, false, false, false, false, false, false, false, false] rfl rfl (any_of HT_.out (by kernel_rfl)) (fun _ _ _ h => h) (Or.inl ⟨by rfl, ?_⟩) ?_ ?_
                            rotate_left
                            · intro w'
                              go_simp
                              with_reducible rfl
                            rotate_left
                            · simp only [Act.put, List.setIfInBounds_toArray, List.set_cons_zero, List.set_cons_succ, i64_w, i32_w]
                              rfl
                            refine pure_ (i := 9) (N := some 33) (v := ?_) (a' := ?_) #[true, true, false, false, true, true, false, false, true, true, false, false, false, false, false, false, false, false, false, false, false, false, false, false, false, false] rfl rfl (any_of HT_.out (by kernel_rfl)) (fun _ _ _ h => h) (Or.inl ⟨by rfl, ?_⟩) ?_ ?_
                            rotate_left
                            · intro w'
                              go_simp
                              with_reducible rfl
                            rotate_left
                            · simp only [Act.put, List.setIfInBounds_toArray, List.set_cons_zero, List.set_cons_succ, i64_w, i32_w]
                              rfl
                            refine pure_ (i := 12) (N := some 36) (v := ?_) (a' := ?_) #[true, true, false, false, true, true, false, false, true, true, false, false, true, false, false, false, false, false, false, false, false, false, false, false, false, false] rfl rfl (any_of HT_.out (by kernel_rfl)) (fun _ _ _ h => h) (Or.inl ⟨by rfl, ?_⟩) ?_ ?_
                            rotate_left
                            · intro w'
                              go_simp
                              with_reducible rfl
                            rotate_left
                            · simp only [Act.put, List.setIfInBounds_toArray, List.set_cons_zero, List.set_cons_succ, i64_w, i32_w]
                              rfl
                            refine pure_ (i := 13) (N := some 37) (v := ?_) (a' := ?_) #[true, true, false, false, true, true, false, false, true, true, false, false, true, true, false, false, false, false, false, false, false, false, false, false, false, false] rfl rfl (any_of HT_.out (by kernel_rfl)) (fun _ _ _ h => h) (Or.inl ⟨by rfl, ?_⟩) ?_ ?_
                            rotate_left
                            · intro w'
                              go_simp
                              with_reducible rfl
                            rotate_left
                            · simp only [Act.put, List.setIfInBounds_toArray, List.set_cons_zero, List.set_cons_succ, i64_w, i32_w]
                              rfl
                            refine pure_ (i := 16) (N := some 40) (v := ?_) (a' := ?_) #[true, true, false, false, true, true, false, false, true, true, false, false, true, true, false, false, true, false, false, false, false, false, false, false, false, false] rfl rfl (any_of HT_.out (by kernel_rfl)) (fun _ _ _ h => h) (Or.inl ⟨by rfl, ?_⟩) ?_ ?_
                            rotate_left
                            · intro w'
                              go_simp
                              with_reducible rfl
                            rotate_left
                            · simp only [Act.put, List.setIfInBounds_toArray, List.set_cons_zero, List.set_cons_succ, i64_w, i32_w]
                              rfl
                            refine pure_ (i := 17) (N := some 41) (v := ?_) (a' := ?_) #[true, true, false, false, true, true, false, false, true, true, false, false, true, true, false, false, true, true, false, false, false, false, false, false, false, false] rfl rfl (any_of HT_.out (by kernel_rfl)) (fun _ _ _ h => h) (Or.inl ⟨by rfl, ?_⟩) ?_ ?_
                            rotate_left
                            · intro w'
                              go_simp
                              with_reducible rfl
                            rotate_left
                            · simp only [Act.put, List.setIfInBounds_toArray, List.set_cons_zero, List.set_cons_succ, i64_w, i32_w]
                              rfl
                            refine pure_ (i := 20) (N := some 44) (v := ?_) (a' := ?_) #[true, true, false, false, true, true, false, false, true, true, false, false, true, true, false, false, true, true, false, false, true, false, false, false, false, false] rfl rfl (any_of HT_.out (by kernel_rfl)) (fun _ _ _ h => h) (Or.inl ⟨by rfl, ?_⟩) ?_ ?_
                            rotate_left
                            · intro w'
                              go_simp
                              with_reducible rfl
                            rotate_left
                            · simp only [Act.put, List.setIfInBounds_toArray, List.set_cons_zero, List.set_cons_succ, i64_w, i32_w]
                              rfl
                            refine pure_ (i := 21) (N := some 45) (v := ?_) (a' := ?_) #[true, true, false, false, true, true, false, false, true, true, false, false, true, true, false, false, true, true, false, false, true, true, false, false, false, false] rfl rfl (any_of HT_.out (by kernel_rfl)) (fun _ _ _ h => h) (Or.inl ⟨by rfl, ?_⟩) ?_ ?_
                            rotate_left
                            · intro w'
                              go_simp
                              with_reducible rfl
                            rotate_left
                            · simp only [Act.put, List.setIfInBounds_toArray, List.set_cons_zero, List.set_cons_succ, i64_w, i32_w]
                              rfl
                            refine take_ (i := 22) (N := some 46) (v := ?_) (a' := ?_) #[true, true, false, false, true, true, false, false, true, true, false, false, true, true, false, false, true, true, false, false, true, true, true, false, false, false] rfl rfl (take_ofW HT_.out HW_.out (by kernel_rfl)) (fun _ _ _ h => h) (Or.inl ⟨by rfl, ?_⟩) hHeld ?_ ?_
                            rotate_left
                            · rintro w' ⟨s0, s1, s2, s3, s4, sS⟩
                              (try simp only [Int.reduceToNat, List.length_drop, List.length_take] at sS)
                              go_simp
                              with_reducible rfl
                            rotate_left
                            · simp only [Act.put, List.setIfInBounds_toArray, List.set_cons_zero, List.set_cons_succ, i64_w, i32_w]
                              rfl
                            refine take_ (i := 2) (N := some 26) (v := ?_) (a' := ?_) #[true, true, true, false, true, true, false, false, true, true, false, false, true, true, false, false, true, true, false, false, true, true, true, false, false, false] rfl rfl (take_ofW HT_.out HW_.out (by kernel_rfl)) (fun _ _ _ h => h) (Or.inl ⟨by rfl, ?_⟩) hHeld ?_ ?_
                            rotate_left
                            · rintro w' ⟨s0, s1, s2, s3, s4, sS⟩
                              go_simp
                              with_reducible rfl
                            rotate_left
                            · simp only [Act.put, List.setIfInBounds_toArray, List.set_cons_zero, List.set_cons_succ, i64_w, i32_w]
                              rfl
                            refine pure_ (i := 3) (N := some 27) (v := ?_) (a' := ?_) #[true, true, true, true, true, true, false, false, true, true, false, false, true, true, false, false, true, true, false, false, true, true, true, false, false, false] rfl rfl (any_of HT_.out (by kernel_rfl)) (fun _ _ _ h => h) (Or.inl ⟨by rfl, ?_⟩) ?_ ?_
                            rotate_left
                            · intro w'
                              go_simp
                              with_reducible rfl
                            rotate_left
                            · simp only [Act.put, List.setIfInBounds_toArray, List.set_cons_zero, List.set_cons_succ, i64_w, i32_w]
                              rfl
                            refine take_ (i := 6) (N := some 30) (v := ?_) (a' := ?_) #[true, true, true, true, true, true, true, false, true, true, false, false, true, true, false, false, true, true, false, false, true, true, true, false, false, false] rfl rfl (take_ofW HT_.out HW_.out (by kernel_rfl)) (fun _ _ _ h => h) (Or.inl ⟨by rfl, ?_⟩) hHeld ?_ ?_
                            rotate_left
                            · rintro w' ⟨s0, s1, s2, s3, s4, sS⟩
                              go_simp
                              with_reducible rfl
                            rotate_left
                            · simp only [Act.put, List.setIfInBounds_toArray, List.set_cons_zero, List.set_cons_succ, i64_w, i32_w]
                              rfl
                            refine pure_ (i := 7) (N := some 31) (v := ?_) (a' := ?_) #[true, true, true, true, true, true, true, true, true, true, false, false, true, true, false, false, true, true, false, false, true, true, true, false, false, false] rfl rfl (any_of HT_.out (by kernel_rfl)) (fun _ _ _ h => h) (Or.inl ⟨by rfl, ?_⟩) ?_ ?_
                            rotate_left
                            · intro w'
                              go_simp
                              with_reducible rfl
                            rotate_left
                            · simp only [Act.put, List.setIfInBounds_toArray, List.set_cons_zero, List.set_cons_succ, i64_w, i32_w]
                              rfl
                            refine take_ (i := 10) (N := some 34) (v := ?_) (a' := ?_) #[true, true, true, true, true, true, true, true, true, true, true, false, true, true, false, false, true, true, false, false, true, true, true, false, false, false] rfl rfl (take_ofW HT_.out HW_.out (by kernel_rfl)) (fun _ _ _ h => h) (Or.inl ⟨by rfl, ?_⟩) hHeld ?_ ?_
                            rotate_left
                            · rintro w' ⟨s0, s1, s2, s3, s4, sS⟩
                              go_simp
                              with_reducible rfl
                            rotate_left
                            · simp only [Act.put, List.setIfInBounds_toArray, List.set_cons_zero, List.set_cons_succ, i64_w, i32_w]
                              rfl
                            refine pure_ (i := 11) (N := some 35) (v := ?_) (a' := ?_) #[true, true, true, true, true, true, true, true, true, true, true, true, true, true, false, false, true, true, false, false, true, true, true, false, false, false] rfl rfl (any_of HT_.out (by kernel_rfl)) (fun _ _ _ h => h) (Or.inl ⟨by rfl, ?_⟩) ?_ ?_
                            rotate_left
                            · intro w'
                              go_simp
                              with_reducible rfl
                            rotate_left
                            · simp only [Act.put, List.setIfInBounds_toArray, List.set_cons_zero, List.set_cons_succ, i64_w, i32_w]
                              rfl
                            refine take_ (i := 14) (N := some 38) (v := ?_) (a' := ?_) #[true, true, true, true, true, true, true, true, true, true, true, true, true, true, true, false, true, true, false, false, true, true, true, false, false, false] rfl rfl (take_ofW HT_.out HW_.out (by kernel_rfl)) (fun _ _ _ h => h) (Or.inl ⟨by rfl, ?_⟩) hHeld ?_ ?_
                            rotate_left
                            · rintro w' ⟨s0, s1, s2, s3, s4, sS⟩
                              go_simp
                              with_reducible rfl
                            rotate_left
                            · simp only [Act.put, List.setIfInBounds_toArray, List.set_cons_zero, List.set_cons_succ, i64_w, i32_w]
                              rfl
                            refine pure_ (i := 15) (N := some 39) (v := ?_) (a' := ?_) #[true, true, true, true, true, true, true, true, true, true, true, true, true, true, true, true, true, true, false, false, true, true, true, false, false, false] rfl rfl (any_of HT_.out (by kernel_rfl)) (fun _ _ _ h => h) (Or.inl ⟨by rfl, ?_⟩) ?_ ?_
                            rotate_left
                            · intro w'
                              go_simp
                              with_reducible rfl
                            rotate_left
                            · simp only [Act.put, List.setIfInBounds_toArray, List.set_cons_zero, List.set_cons_succ, i64_w, i32_w]
                              rfl
                            refine take_ (i := 18) (N := some 42) (v := ?_) (a' := ?_) #[true, true, true, true, true, true, true, true, true, true, true, true, true, true, true, true, true, true, true, false, true, true, true, false, false, false] rfl rfl (take_ofW HT_.out HW_.out (by kernel_rfl)) (fun _ _ _ h => h) (Or.inl ⟨by rfl, ?_⟩) hHeld ?_ ?_
                            rotate_left
                            · rintro w' ⟨s0, s1, s2, s3, s4, sS⟩
                              go_simp
                              with_reducible rfl
                            rotate_left
                            · simp only [Act.put, List.setIfInBounds_toArray, List.set_cons_zero, List.set_cons_succ, i64_w, i32_w]
                              rfl
                            refine pure_ (i := 19) (N := some 43) (v := ?_) (a' := ?_) #[true, true, true, true, true, true, true, true, true, true, true, true, true, true, true, true, true, true, true, true, true, true, true, false, false, false] rfl rfl (any_of HT_.out (by kernel_rfl)) (fun _ _ _ h => h) (Or.inl ⟨by rfl, ?_⟩) ?_ ?_
                            rotate_left
                            · intro w'
                              go_simp
                              with_reducible rfl
                            rotate_left
                            · simp only [Act.put, List.setIfInBounds_toArray, List.set_cons_zero, List.set_cons_succ, i64_w, i32_w]
                              rfl
                            refine pure_ (i := 23) (N := some 47) (v := ?_) (a' := ?_) #[true, true, true, true, true, true, true, true, true, true, true, true, true, true, true, true, true, true, true, true, true, true, true, true, false, false] rfl rfl (any_of HT_.out (by kernel_rfl)) (fun _ _ _ h => h) (Or.inl ⟨by rfl, ?_⟩) ?_ ?_
                            rotate_left
                            · intro w'
                              go_simp
                              with_reducible rfl
                            rotate_left
                            · simp only [Act.put, List.setIfInBounds_toArray, List.set_cons_zero, List.set_cons_succ, i64_w, i32_w]
                              rfl
                            refine one_ (i := 24) (N := some 6) #[true, true, true, true, true, true, true, true, true, true, true, true, true, true, true, true, true, true, true, true, true, true, true, true, true, false] rfl rfl (one_of HT_.out (by kernel_rfl)) (by decide) (fun K hK => ?_)
                            refine box_step ?hg (N := 6) ?hd (cs := #[.int .i64 0, .int .i64 0, .int .i64 0, .int .i64 0, .int .i64 0, .string (⟨#[]⟩ : ByteArray)]) (t := 23) ?hr ?_; (case hd => rfl); (case hg => rfl); (case hr => first | (go_simp; done) | (go_simp; rfl))
                            intro gb213 hg w91 hbox hb
                            have HS0_ := (hb.cell (World.block_lt_of_cell? _ _ (hHeld.1))).trans (hHeld.1)
                            have HS1_ := (hb.cell (World.block_lt_of_cell? _ _ (hHeld.2.1))).trans (hHeld.2.1)
                            have HS2_ := (hb.cell (World.block_lt_of_cell? _ _ (hHeld.2.2.1))).trans (hHeld.2.2.1)
                            have HS3_ := (hb.cell (World.block_lt_of_cell? _ _ (hHeld.2.2.2.1))).trans (hHeld.2.2.2.1)
                            have HS4_ := (hb.cell (World.block_lt_of_cell? _ _ (hHeld.2.2.2.2.1))).trans (hHeld.2.2.2.2.1)
                            have n0_ := Aside0.mk (Kd.R_below (by (with_reducible repeat (first | apply Kd.R_alloc | apply Kd.R_drewN | apply Kd.R_drew)); exact HO197.out) hb)
                            have n1_ := Aside0.mk (Kd.R_below (by (with_reducible repeat (first | apply Kd.R_alloc | apply Kd.R_drewN | apply Kd.R_drew)); exact HO202.out) hb)
                            have n2_ := Aside0.mk (Kd.R_below (by (with_reducible repeat (first | apply Kd.R_alloc | apply Kd.R_drewN | apply Kd.R_drew)); exact HO205.out) hb)
                            have n3_ := Aside0.mk (blk_below (g := gb194) (o := .cells #[.int .i64 0, .int .i64 0, .int .i64 0, .int .i64 0, .int .i64 0, .string (⟨#[]⟩ : ByteArray)] 23 (0, 0)) (by (with_reducible repeat (first | refine blk_drewN ?_ _ | refine blk_drew ?_ | refine blk_alloc ?_ _)); exact BK194.out) hb)
                            have n4_ := Aside0.mk (below_step (by repeat (first | (with_reducible first | exact HB.out | apply below_alloc | apply pw_below_drewN | apply below_drew1 | refine below_set ?_ GE194.out) | exact HB.out)) hb)
                            have n5_ := Aside0.mk (hbox)
                            have n6_ := Aside0.mk ((by rw [hg]; exact (below_size (by repeat (first | (with_reducible first | exact HB.out | apply below_alloc | apply pw_below_drewN | apply below_drew1 | refine below_set ?_ GE194.out) | exact HB.out))) : w.heap.size ≤ gb213))
                            have n7_ := Aside0.mk ((by rw [hg]; exact (below_size (by repeat (first | (with_reducible first | exact HB.out | apply below_alloc | apply pw_below_drewN | apply below_drew1 | refine below_set ?_ GE194.out) | exact HB.out))) : w.heap.size ≤ gb213))
                            have n8_ := Aside0.mk ((by rw [hg]; exact Nat.ne_of_lt (blk_lt (g := gb194) (o := .cells #[.int .i64 0, .int .i64 0, .int .i64 0, .int .i64 0, .int .i64 0, .string (⟨#[]⟩ : ByteArray)] 23 (0, 0)) (by (with_reducible repeat (first | refine blk_drewN ?_ _ | refine blk_drew ?_ | refine blk_alloc ?_ _)); exact BK194.out)) : gb194 ≠ gb213))
                            have n9_ := Aside0.mk ((by rw [hg]; exact Nat.ne_of_gt (blk_lt (g := gb194) (o := .cells #[.int .i64 0, .int .i64 0, .int .i64 0, .int .i64 0, .int .i64 0, .string (⟨#[]⟩ : ByteArray)] 23 (0, 0)) (by (with_reducible repeat (first | refine blk_drewN ?_ _ | refine blk_drew ?_ | refine blk_alloc ?_ _)); exact BK194.out)) : gb213 ≠ gb194))
                            clear HO197
                            clear HO202
                            clear HO205
                            clear BK194
                            clear HB
                            have HO197 := n0_
                            have HO202 := n1_
                            have HO205 := n2_
                            have BK194 := n3_
                            have HB := n4_
                            have BK213 := n5_
                            have GW213 := n6_
                            have GE213 := n7_
                            have NB194_213 := n8_
                            have NB213_194 := n9_
                            clear n0_ n1_ n2_ n3_ n4_ n5_ n6_ n7_ n8_ n9_
                            clear hb hbox hg
                            refine hK.out _ _ ⟨HS0_, HS1_, HS2_, HS3_, HS4_, (Kd.C_string (P := Try.prog) (A := A89) (c := (c0 - 14)) Try.underlying24 Try.underlying5 Try.underlying9 (Kd.C_below HR212.out (by repeat (first | (with_reducible first | exact HB.out | apply below_alloc | apply pw_below_drewN | apply below_drew1 | refine below_set ?_ GE194.out | refine below_set ?_ GE213.out) | exact HB.out))))⟩ (fun hHeld => ?_)
                            clear hK K
                            refine norm_ (a' := ?_) ?_ ?_
                            rotate_left
                            · show Act.put _ (some 6) _ = _
                              simp only [Act.put, List.setIfInBounds_toArray, List.set_cons_zero, List.set_cons_succ, i64_w, i32_w]
                              rfl
                            refine one_ (i := 25) (N := none) #[true, true, true, true, true, true, true, true, true, true, true, true, true, true, true, true, true, true, true, true, true, true, true, true, true, true] rfl rfl (one_of HT_.out (by kernel_rfl)) (by decide) (fun K hK => ?_)
                            have hs93 : w91.cell? ⟨gb213, 0, none⟩ = some (.int .i64 0) := (blk_cell BK213.out 0).trans rfl
                            have hfs93 := blk_frozen BK213.out 0
                            have hns93_0 := NB194_213.out
                            have hms93_0 := NB213_194.out
                            have hs94 : w91.cell? ⟨gb213, 1, none⟩ = some (.int .i64 0) := (blk_cell BK213.out 1).trans rfl
                            have hfs94 := blk_frozen BK213.out 1
                            have hns94_0 := NB194_213.out
                            have hms94_0 := NB213_194.out
                            have hs95 : w91.cell? ⟨gb213, 2, none⟩ = some (.int .i64 0) := (blk_cell BK213.out 2).trans rfl
                            have hfs95 := blk_frozen BK213.out 2
                            have hns95_0 := NB194_213.out
                            have hms95_0 := NB213_194.out
                            have hs96 : w91.cell? ⟨gb213, 3, none⟩ = some (.int .i64 0) := (blk_cell BK213.out 3).trans rfl
                            have hfs96 := blk_frozen BK213.out 3
                            have hns96_0 := NB194_213.out
                            have hms96_0 := NB213_194.out
                            have hs97 : w91.cell? ⟨gb213, 4, none⟩ = some (.int .i64 0) := (blk_cell BK213.out 4).trans rfl
                            have hfs97 := blk_frozen BK213.out 4
                            have hns97_0 := NB194_213.out
                            have hms97_0 := NB213_194.out
                            have hs98 : w91.cell? ⟨gb213, 5, none⟩ = some (.string (⟨#[]⟩ : ByteArray)) := (blk_cell BK213.out 5).trans rfl
                            have hfs98 := blk_frozen BK213.out 5
                            have hns98_0 := NB194_213.out
                            have hms98_0 := NB213_194.out
                            refine skip_ (w1 := ?_) (by rfl) rfl ?_ ?_
                            rotate_left
                            · go_simp
                              rfl
                            have hfar3_ := Kd.own_blk (Kd.R_ne HO205.out BK213.out (by decide))
                            refine hK.out _ _ ⟨(Fz.far (by first | exact hfar3_ | (rw [add_block]; exact hfar3_) | (show (Addr.add _ _).block ≠ _; rw [add_block]; exact hfar3_) | (dsimp only; exact hfar3_)) ((Fz.far (by first | exact hfar3_ | (rw [add_block]; exact hfar3_) | (show (Addr.add _ _).block ≠ _; rw [add_block]; exact hfar3_) | (dsimp only; exact hfar3_)) ((Fz.far (by first | exact hfar3_ | (rw [add_block]; exact hfar3_) | (show (Addr.add _ _).block ≠ _; rw [add_block]; exact hfar3_) | (dsimp only; exact hfar3_)) ((Fz.far (by first | exact hfar3_ | (rw [add_block]; exact hfar3_) | (show (Addr.add _ _).block ≠ _; rw [add_block]; exact hfar3_) | (dsimp only; exact hfar3_)) ((Fz.far (by first | exact hfar3_ | (rw [add_block]; exact hfar3_) | (show (Addr.add _ _).block ≠ _; rw [add_block]; exact hfar3_) | (dsimp only; exact hfar3_)) ((Fz.far (by first | exact hfar3_ | (rw [add_block]; exact hfar3_) | (show (Addr.add _ _).block ≠ _; rw [add_block]; exact hfar3_) | (dsimp only; exact hfar3_)) (hHeld.1)))))))))))), (Fz.far (by first | exact hfar3_ | (rw [add_block]; exact hfar3_) | (show (Addr.add _ _).block ≠ _; rw [add_block]; exact hfar3_) | (dsimp only; exact hfar3_)) ((Fz.far (by first | exact hfar3_ | (rw [add_block]; exact hfar3_) | (show (Addr.add _ _).block ≠ _; rw [add_block]; exact hfar3_) | (dsimp only; exact hfar3_)) ((Fz.far (by first | exact hfar3_ | (rw [add_block]; exact hfar3_) | (show (Addr.add _ _).block ≠ _; rw [add_block]; exact hfar3_) | (dsimp only; exact hfar3_)) ((Fz.far (by first | exact hfar3_ | (rw [add_block]; exact hfar3_) | (show (Addr.add _ _).block ≠ _; rw [add_block]; exact hfar3_) | (dsimp only; exact hfar3_)) ((Fz.far (by first | exact hfar3_ | (rw [add_block]; exact hfar3_) | (show (Addr.add _ _).block ≠ _; rw [add_block]; exact hfar3_) | (dsimp only; exact hfar3_)) ((Fz.far (by first | exact hfar3_ | (rw [add_block]; exact hfar3_) | (show (Addr.add _ _).block ≠ _; rw [add_block]; exact hfar3_) | (dsimp only; exact hfar3_)) (hHeld.2.1)))))))))))), (Fz.far (by first | exact hfar3_ | (rw [add_block]; exact hfar3_) | (show (Addr.add _ _).block ≠ _; rw [add_block]; exact hfar3_) | (dsimp only; exact hfar3_)) ((Fz.far (by first | exact hfar3_ | (rw [add_block]; exact hfar3_) | (show (Addr.add _ _).block ≠ _; rw [add_block]; exact hfar3_) | (dsimp only; exact hfar3_)) ((Fz.far (by first | exact hfar3_ | (rw [add_block]; exact hfar3_) | (show (Addr.add _ _).block ≠ _; rw [add_block]; exact hfar3_) | (dsimp only; exact hfar3_)) ((Fz.far (by first | exact hfar3_ | (rw [add_block]; exact hfar3_) | (show (Addr.add _ _).block ≠ _; rw [add_block]; exact hfar3_) | (dsimp only; exact hfar3_)) ((Fz.far (by first | exact hfar3_ | (rw [add_block]; exact hfar3_) | (show (Addr.add _ _).block ≠ _; rw [add_block]; exact hfar3_) | (dsimp only; exact hfar3_)) ((Fz.far (by first | exact hfar3_ | (rw [add_block]; exact hfar3_) | (show (Addr.add _ _).block ≠ _; rw [add_block]; exact hfar3_) | (dsimp only; exact hfar3_)) (hHeld.2.2.1)))))))))))), (Fz.far (by first | exact hfar3_ | (rw [add_block]; exact hfar3_) | (show (Addr.add _ _).block ≠ _; rw [add_block]; exact hfar3_) | (dsimp only; exact hfar3_)) ((Fz.far (by first | exact hfar3_ | (rw [add_block]; exact hfar3_) | (show (Addr.add _ _).block ≠ _; rw [add_block]; exact hfar3_) | (dsimp only; exact hfar3_)) ((Fz.far (by first | exact hfar3_ | (rw [add_block]; exact hfar3_) | (show (Addr.add _ _).block ≠ _; rw [add_block]; exact hfar3_) | (dsimp only; exact hfar3_)) ((Fz.far (by first | exact hfar3_ | (rw [add_block]; exact hfar3_) | (show (Addr.add _ _).block ≠ _; rw [add_block]; exact hfar3_) | (dsimp only; exact hfar3_)) ((Fz.far (by first | exact hfar3_ | (rw [add_block]; exact hfar3_) | (show (Addr.add _ _).block ≠ _; rw [add_block]; exact hfar3_) | (dsimp only; exact hfar3_)) ((Fz.far (by first | exact hfar3_ | (rw [add_block]; exact hfar3_) | (show (Addr.add _ _).block ≠ _; rw [add_block]; exact hfar3_) | (dsimp only; exact hfar3_)) (hHeld.2.2.2.1)))))))))))), (Fz.far (by first | exact hfar3_ | (rw [add_block]; exact hfar3_) | (show (Addr.add _ _).block ≠ _; rw [add_block]; exact hfar3_) | (dsimp only; exact hfar3_)) ((Fz.far (by first | exact hfar3_ | (rw [add_block]; exact hfar3_) | (show (Addr.add _ _).block ≠ _; rw [add_block]; exact hfar3_) | (dsimp only; exact hfar3_)) ((Fz.far (by first | exact hfar3_ | (rw [add_block]; exact hfar3_) | (show (Addr.add _ _).block ≠ _; rw [add_block]; exact hfar3_) | (dsimp only; exact hfar3_)) ((Fz.far (by first | exact hfar3_ | (rw [add_block]; exact hfar3_) | (show (Addr.add _ _).block ≠ _; rw [add_block]; exact hfar3_) | (dsimp only; exact hfar3_)) ((Fz.far (by first | exact hfar3_ | (rw [add_block]; exact hfar3_) | (show (Addr.add _ _).block ≠ _; rw [add_block]; exact hfar3_) | (dsimp only; exact hfar3_)) ((Fz.far (by first | exact hfar3_ | (rw [add_block]; exact hfar3_) | (show (Addr.add _ _).block ≠ _; rw [add_block]; exact hfar3_) | (dsimp only; exact hfar3_)) (hHeld.2.2.2.2.1)))))))))))), (Kd.C_string (P := Try.prog) (A := A89) (c := (c0 - 14)) Try.underlying24 Try.underlying5 Try.underlying9 (Kd.C_below HR212.out (by repeat (first | (with_reducible first | exact HB.out | apply below_alloc | apply pw_below_drewN | apply below_drew1 | refine below_set ?_ GE194.out | refine below_set ?_ GE213.out) | exact HB.out))))⟩ (fun hHeld => ?_)
                            clear hK K
                            refine done_ (done_of HT_.out (by kernel_rfl)) ?_
                            have hnb99 := NB213_194.out
                            have hnc99 := NB194_213.out
                            have hcz100_0 : w91.cell? ⟨gb213, 0, none⟩ = some (.int .i64 0) := (blk_cell BK213.out 0).trans rfl
                            have hcz100_1 : w91.cell? ⟨gb213, 1, none⟩ = some (.int .i64 0) := (blk_cell BK213.out 1).trans rfl
                            have hcz100_2 : w91.cell? ⟨gb213, 2, none⟩ = some (.int .i64 0) := (blk_cell BK213.out 2).trans rfl
                            have hcz100_3 : w91.cell? ⟨gb213, 3, none⟩ = some (.int .i64 0) := (blk_cell BK213.out 3).trans rfl
                            have hcz100_4 : w91.cell? ⟨gb213, 4, none⟩ = some (.int .i64 0) := (blk_cell BK213.out 4).trans rfl
                            have hcz100_5 : w91.cell? ⟨gb213, 5, none⟩ = some (.string (⟨#[]⟩ : ByteArray)) := (blk_cell BK213.out 5).trans rfl
                            have hfz100_0 := blk_frozen BK213.out 0
                            have hfz100_1 := blk_frozen BK213.out 1
                            have hfz100_2 := blk_frozen BK213.out 2
                            have hfz100_3 := blk_frozen BK213.out 3
                            have hfz100_4 := blk_frozen BK213.out 4
                            have hfz100_5 := blk_frozen BK213.out 5
                            try go_wp2_with (first | ((with_reducible refine gate_callee (f := 10) rfl ?_); refine goesL_ (some 50) rfl rfl Try.func10 (by kernel_rfl) rfl #[.agg #[.int .i64 (wrap64 (rd t203 0)), .int .i64 (wrap64 (rd t203 1)), .int .i64 (wrap64 (rd t203 2)), .int .i64 (wrap64 (rd t203 3)), .int .i64 (wrap64 (rd t203 4)), .string (strOfNums ((l0.take 30).drop 14))]] rfl (by (try simp only [List.map_toArray, List.map_cons, List.map_nil]); first | done | rfl | (simp only [List.length_drop, List.length_take]; rfl)) ?_; (with_reducible refine (header_Encode.calls k (wrap64 (rd t203 0)) (wrap64 (rd t203 1)) (wrap64 (rd t203 2)) (wrap64 (rd t203 3)) (wrap64 (rd t203 4)) (strOfNums ((l0.take 30).drop 14)) t214 t217 _ A21.out).mono ?_); rintro e w101 ⟨v215, rfl, ho0, hb⟩; refine ⟨_, rfl, ?_⟩; have n0_ := Aside0.mk (Kd.R_elder' (by (with_reducible repeat (first | apply Kd.R_alloc | apply Kd.R_drewN | apply Kd.R_drew)); exact (Kd.R_mono (Kd.R_far (p := ⟨gb213, 5, none⟩) (Kd.R_far (p := ⟨gb213, 4, none⟩) (Kd.R_far (p := ⟨gb213, 3, none⟩) (Kd.R_far (p := ⟨gb213, 2, none⟩) (Kd.R_far (p := ⟨gb213, 1, none⟩) (Kd.R_far (p := ⟨gb213, 0, none⟩) (Kd.R_types HO197.out BK213.out (by decide)) (fun _ hk => hk.2) (.int .i64 (wrap64 (rd t203 0)))) (fun _ hk => hk.2) (.int .i64 (wrap64 (rd t203 1)))) (fun _ hk => hk.2) (.int .i64 (wrap64 (rd t203 2)))) (fun _ hk => hk.2) (.int .i64 (wrap64 (rd t203 3)))) (fun _ hk => hk.2) (.int .i64 (wrap64 (rd t203 4)))) (fun _ hk => hk.2) (.string (strOfNums ((l0.take 30).drop 14)))) (fun _ h_ => h_.1))) (Kd.R_base ho0) hb); have n1_ := Aside0.mk (Kd.R_below (by (with_reducible repeat (first | apply Kd.R_alloc | apply Kd.R_drewN | apply Kd.R_drew)); exact (Kd.R_mono (Kd.R_far (p := ⟨gb213, 5, none⟩) (Kd.R_far (p := ⟨gb213, 4, none⟩) (Kd.R_far (p := ⟨gb213, 3, none⟩) (Kd.R_far (p := ⟨gb213, 2, none⟩) (Kd.R_far (p := ⟨gb213, 1, none⟩) (Kd.R_far (p := ⟨gb213, 0, none⟩) (Kd.R_types HO202.out BK213.out (by decide)) (fun _ hk => hk.2) (.int .i64 (wrap64 (rd t203 0)))) (fun _ hk => hk.2) (.int .i64 (wrap64 (rd t203 1)))) (fun _ hk => hk.2) (.int .i64 (wrap64 (rd t203 2)))) (fun _ hk => hk.2) (.int .i64 (wrap64 (rd t203 3)))) (fun _ hk => hk.2) (.int .i64 (wrap64 (rd t203 4)))) (fun _ hk => hk.2) (.string (strOfNums ((l0.take 30).drop 14)))) (fun _ h_ => h_.1))) hb); have n2_ := Aside0.mk (Kd.R_below (by (with_reducible repeat (first | apply Kd.R_alloc | apply Kd.R_drewN | apply Kd.R_drew)); exact (Kd.R_mono (Kd.R_far (p := ⟨gb213, 5, none⟩) (Kd.R_far (p := ⟨gb213, 4, none⟩) (Kd.R_far (p := ⟨gb213, 3, none⟩) (Kd.R_far (p := ⟨gb213, 2, none⟩) (Kd.R_far (p := ⟨gb213, 1, none⟩) (Kd.R_far (p := ⟨gb213, 0, none⟩) (Kd.R_types HO205.out BK213.out (by decide)) (fun _ hk => hk.2) (.int .i64 (wrap64 (rd t203 0)))) (fun _ hk => hk.2) (.int .i64 (wrap64 (rd t203 1)))) (fun _ hk => hk.2) (.int .i64 (wrap64 (rd t203 2)))) (fun _ hk => hk.2) (.int .i64 (wrap64 (rd t203 3)))) (fun _ hk => hk.2) (.int .i64 (wrap64 (rd t203 4)))) (fun _ hk => hk.2) (.string (strOfNums ((l0.take 30).drop 14)))) (fun _ h_ => h_.1))) hb); have n3_ := Aside0.mk (Kd.R_lower (Kd.R_new' ho0 (Kd.R_lt (by (with_reducible repeat (first | apply Kd.R_alloc | apply Kd.R_drewN | apply Kd.R_drew)); exact (Kd.R_mono (Kd.R_far (p := ⟨gb213, 5, none⟩) (Kd.R_far (p := ⟨gb213, 4, none⟩) (Kd.R_far (p := ⟨gb213, 3, none⟩) (Kd.R_far (p := ⟨gb213, 2, none⟩) (Kd.R_far (p := ⟨gb213, 1, none⟩) (Kd.R_far (p := ⟨gb213, 0, none⟩) (Kd.R_types HO197.out BK213.out (by decide)) (fun _ hk => hk.2) (.int .i64 (wrap64 (rd t203 0)))) (fun _ hk => hk.2) (.int .i64 (wrap64 (rd t203 1)))) (fun _ hk => hk.2) (.int .i64 (wrap64 (rd t203 2)))) (fun _ hk => hk.2) (.int .i64 (wrap64 (rd t203 3)))) (fun _ hk => hk.2) (.int .i64 (wrap64 (rd t203 4)))) (fun _ hk => hk.2) (.string (strOfNums ((l0.take 30).drop 14)))) (fun _ h_ => h_.1))))) (below_size (by repeat (first | (with_reducible first | exact HB.out | apply below_alloc | apply pw_below_drewN | apply below_drew1 | refine below_set ?_ GE194.out | refine below_set ?_ GE213.out) | exact HB.out)))); have n4_ := Aside0.mk (blk_below (g := gb194) (o := .cells #[.int .i64 0, .int .i64 0, .int .i64 0, .int .i64 0, .int .i64 0, .string (⟨#[]⟩ : ByteArray)] 23 (0, 0)) (by (with_reducible repeat (first | refine blk_drewN ?_ _ | refine blk_drew ?_ | refine blk_alloc ?_ _)); refine blk_far ?_ NB194_213.out _; (with_reducible repeat (first | refine blk_drewN ?_ _ | refine blk_drew ?_ | refine blk_alloc ?_ _)); refine blk_far ?_ NB194_213.out _; (with_reducible repeat (first | refine blk_drewN ?_ _ | refine blk_drew ?_ | refine blk_alloc ?_ _)); refine blk_far ?_ NB194_213.out _; (with_reducible repeat (first | refine blk_drewN ?_ _ | refine blk_drew ?_ | refine blk_alloc ?_ _)); refine blk_far ?_ NB194_213.out _; (with_reducible repeat (first | refine blk_drewN ?_ _ | refine blk_drew ?_ | refine blk_alloc ?_ _)); refine blk_far ?_ NB194_213.out _; (with_reducible repeat (first | refine blk_drewN ?_ _ | refine blk_drew ?_ | refine blk_alloc ?_ _)); refine blk_far ?_ NB194_213.out _; (with_reducible repeat (first | refine blk_drewN ?_ _ | refine blk_drew ?_ | refine blk_alloc ?_ _)); exact BK194.out) hb); have n5_ := Aside0.mk (blk_below (g := gb213) (o := .cells #[.int .i64 (wrap64 (rd t203 0)), .int .i64 (wrap64 (rd t203 1)), .int .i64 (wrap64 (rd t203 2)), .int .i64 (wrap64 (rd t203 3)), .int .i64 (wrap64 (rd t203 4)), .string (strOfNums ((l0.take 30).drop 14))] 23 (0, 0)) (by (with_reducible repeat (first | refine blk_drewN ?_ _ | refine blk_drew ?_ | refine blk_alloc ?_ _)); refine blk_put (cs := #[.int .i64 (wrap64 (rd t203 0)), .int .i64 (wrap64 (rd t203 1)), .int .i64 (wrap64 (rd t203 2)), .int .i64 (wrap64 (rd t203 3)), .int .i64 (wrap64 (rd t203 4)), .string (⟨#[]⟩ : ByteArray)]) ?_ 5 _ rfl; (with_reducible repeat (first | refine blk_drewN ?_ _ | refine blk_drew ?_ | refine blk_alloc ?_ _)); refine blk_put (cs := #[.int .i64 (wrap64 (rd t203 0)), .int .i64 (wrap64 (rd t203 1)), .int .i64 (wrap64 (rd t203 2)), .int .i64 (wrap64 (rd t203 3)), .int .i64 0, .string (⟨#[]⟩ : ByteArray)]) ?_ 4 _ rfl; (with_reducible repeat (first | refine blk_drewN ?_ _ | refine blk_drew ?_ | refine blk_alloc ?_ _)); refine blk_put (cs := #[.int .i64 (wrap64 (rd t203 0)), .int .i64 (wrap64 (rd t203 1)), .int .i64 (wrap64 (rd t203 2)), .int .i64 0, .int .i64 0, .string (⟨#[]⟩ : ByteArray)]) ?_ 3 _ rfl; (with_reducible repeat (first | refine blk_drewN ?_ _ | refine blk_drew ?_ | refine blk_alloc ?_ _)); refine blk_put (cs := #[.int .i64 (wrap64 (rd t203 0)), .int .i64 (wrap64 (rd t203 1)), .int .i64 0, .int .i64 0, .int .i64 0, .string (⟨#[]⟩ : ByteArray)]) ?_ 2 _ rfl; (with_reducible repeat (first | refine blk_drewN ?_ _ | refine blk_drew ?_ | refine blk_alloc ?_ _)); refine blk_put (cs := #[.int .i64 (wrap64 (rd t203 0)), .int .i64 0, .int .i64 0, .int .i64 0, .int .i64 0, .string (⟨#[]⟩ : ByteArray)]) ?_ 1 _ rfl; (with_reducible repeat (first | refine blk_drewN ?_ _ | refine blk_drew ?_ | refine blk_alloc ?_ _)); refine blk_put (cs := #[.int .i64 0, .int .i64 0, .int .i64 0, .int .i64 0, .int .i64 0, .string (⟨#[]⟩ : ByteArray)]) ?_ 0 _ rfl; (with_reducible repeat (first | refine blk_drewN ?_ _ | refine blk_drew ?_ | refine blk_alloc ?_ _)); exact BK213.out) hb); have n6_ := Aside0.mk (below_step (by repeat (first | (with_reducible first | exact HB.out | apply below_alloc | apply pw_below_drewN | apply below_drew1 | refine below_set ?_ GE194.out | refine below_set ?_ GE213.out) | exact HB.out)) hb); clear HO197; clear HO202; clear HO205; clear BK194; clear BK213; clear HB; have HO197 := n0_; have HO202 := n1_; have HO205 := n2_; have HO216 := n3_; have BK194 := n4_; have BK213 := n5_; have HB := n6_; clear n0_ n1_ n2_ n3_ n4_ n5_ n6_; (try clear hb); (try clear hb2); (try clear hk); (try clear hi); (try clear ho0); have hcz102_0 : w101.cell? ⟨gb194, 0, none⟩ = some (.int .i64 0) := (blk_cell BK194.out 0).trans rfl; have hcz102_1 : w101.cell? ⟨gb194, 1, none⟩ = some (.int .i64 0) := (blk_cell BK194.out 1).trans rfl; have hcz102_2 : w101.cell? ⟨gb194, 2, none⟩ = some (.int .i64 0) := (blk_cell BK194.out 2).trans rfl; have hcz102_3 : w101.cell? ⟨gb194, 3, none⟩ = some (.int .i64 0) := (blk_cell BK194.out 3).trans rfl; have hcz102_4 : w101.cell? ⟨gb194, 4, none⟩ = some (.int .i64 0) := (blk_cell BK194.out 4).trans rfl; have hcz102_5 : w101.cell? ⟨gb194, 5, none⟩ = some (.string (⟨#[]⟩ : ByteArray)) := (blk_cell BK194.out 5).trans rfl; have hfz102_0 := blk_frozen BK194.out 0; have hfz102_1 := blk_frozen BK194.out 1; have hfz102_2 := blk_frozen BK194.out 2; have hfz102_3 := blk_frozen BK194.out 3; have hfz102_4 := blk_frozen BK194.out 4; have hfz102_5 := blk_frozen BK194.out 5))
                            refine bodyPost_ret (results_ct rfl _ _ gb194 23 #[.int .i64 0, .int .i64 0, .int .i64 0, .int .i64 0, .int .i64 0, .string (⟨#[]⟩ : ByteArray)] (0, 0) _ rfl (by (with_reducible repeat (first | refine blk_drewN ?_ _ | refine blk_drew ?_ | refine blk_alloc ?_ _)); refine blk_put (cs := #[.int .i64 0, .int .i64 0, .int .i64 0, .int .i64 0, .int .i64 0, .string (⟨#[]⟩ : ByteArray)]) ?_ 5 _ rfl; (with_reducible repeat (first | refine blk_drewN ?_ _ | refine blk_drew ?_ | refine blk_alloc ?_ _)); refine blk_put (cs := #[.int .i64 0, .int .i64 0, .int .i64 0, .int .i64 0, .int .i64 0, .string (⟨#[]⟩ : ByteArray)]) ?_ 4 _ rfl; (with_reducible repeat (first | refine blk_drewN ?_ _ | refine blk_drew ?_ | refine blk_alloc ?_ _)); refine blk_put (cs := #[.int .i64 0, .int .i64 0, .int .i64 0, .int .i64 0, .int .i64 0, .string (⟨#[]⟩ : ByteArray)]) ?_ 3 _ rfl; (with_reducible repeat (first | refine blk_drewN ?_ _ | refine blk_drew ?_ | refine blk_alloc ?_ _)); refine blk_put (cs := #[.int .i64 0, .int .i64 0, .int .i64 0, .int .i64 0, .int .i64 0, .string (⟨#[]⟩ : ByteArray)]) ?_ 2 _ rfl; (with_reducible repeat (first | refine blk_drewN ?_ _ | refine blk_drew ?_ | refine blk_alloc ?_ _)); refine blk_put (cs := #[.int .i64 0, .int .i64 0, .int .i64 0, .int .i64 0, .int .i64 0, .string (⟨#[]⟩ : ByteArray)]) ?_ 1 _ rfl; (with_reducible repeat (first | refine blk_drewN ?_ _ | refine blk_drew ?_ | refine blk_alloc ?_ _)); refine blk_put (cs := #[.int .i64 0, .int .i64 0, .int .i64 0, .int .i64 0, .int .i64 0, .string (⟨#[]⟩ : ByteArray)]) ?_ 0 _ rfl; (with_reducible repeat (first | refine blk_drewN ?_ _ | refine blk_drew ?_ | refine blk_alloc ?_ _)); exact BK194.out) Try.underlying23 rfl (by kernel_rfl)) rfl ?_
                            exact ⟨by first | rfl | (simp [errW_none, errW_some] <;> rfl) | (simp [*, errW_none, errW_some] <;> rfl), by repeat (first | (with_reducible first | exact HB.out | apply below_alloc | apply pw_below_drewN | apply below_drew1 | refine below_set ?_ GE194.out | refine below_set ?_ GE213.out) | exact HB.out)⟩
                        · rw [if_neg c20] at H
                          exact absurd H (by simp)
                      · rw [if_neg c19] at H
                        exact absurd H (by simp)
                    · rw [if_neg c18] at H
                      exact absurd H (by simp)
                  · rw [if_neg c17] at H
                    exact absurd H (by simp)
                · rw [if_neg c16] at H
                  exact absurd H (by simp)
              · rw [if_neg c15] at H
                exact absurd H (by simp)
            · rw [if_neg c14] at H
              exact absurd H (by simp)
          · rw [if_neg c12] at H
            exact absurd H (by simp)
        · rw [if_neg c11] at H
          exact absurd H (by simp)
      · rw [if_neg c10] at H
        have c10b0 : ((l0.length : Int) == 64) = false := beq_eq_false_iff_ne.mpr c10
        have c10b1 : ((l0.length : Int) != 64) = true := bne_iff_ne.mpr c10
        simp only [Option.some.injEq, Prod.mk.injEq] at H
        obtain ⟨rfl, rfl, rfl, rfl, rfl, rfl, rfl⟩ := H
        go_enter Try.func13, Try.ntmps13
        go_wp2_with (first | ((with_reducible refine gate_dst (N := 2) rfl ?_); refine box_event ?hg (N := 2) ?hd (cs := #[.int .i64 0, .int .i64 0, .int .i64 0, .int .i64 0, .int .i64 0, .string (⟨#[]⟩ : ByteArray)]) (t := 23) ?hr ?_; (case hd => rfl); (case hg => rfl); (case hr => first | (go_simp; done) | (go_simp; rfl)); intro gb194 hg w103 hbox hb; have n0_ := Aside0.mk (below_step (by repeat (first | (with_reducible first | exact HB.out | apply below_alloc | apply pw_below_drewN | apply below_drew1) | exact HB.out)) hb); have n1_ := Aside0.mk (hbox); have n2_ := Aside0.mk ((by rw [hg]; exact (below_size (by repeat (first | (with_reducible first | exact HB.out | apply below_alloc | apply pw_below_drewN | apply below_drew1) | exact HB.out))) : w.heap.size ≤ gb194)); have n3_ := Aside0.mk ((by rw [hg]; exact (below_size (by repeat (first | (with_reducible first | exact HB.out | apply below_alloc | apply pw_below_drewN | apply below_drew1) | exact HB.out))) : w.heap.size ≤ gb194)); clear HB; have HB := n0_; have BK194 := n1_; have GW194 := n2_; have GE194 := n3_; clear n0_ n1_ n2_ n3_; clear hb hbox hg) | ((with_reducible refine gate_dst (N := 10) rfl ?_); refine Kd.R_make (Kd.int .u8) _ 5 rfl (N := 10) rfl 24 _ _ rfl 64 rfl rfl Try.underlying24 (.int .u8 0) 1 info5 rfl (by decide) (by omega) 0 (ok := fun _ => True) (okp := fun _ => True) rfl (fun _ hk => hk) trivial (by omega) (by omega) (Below.refl _ _) (Nat.le_refl _) ?_; intro v196 w104 ho105 hb hg_ hnew_; clear hg_ hnew_; (first | rw [← Ny195.out] at ho105 | (simp only [Int.reduceToNat] at ho105; rw [← Ny195.out] at ho105)); have n0_ := Aside0.mk (Kd.R_lower ho105 (below_size (by repeat (first | (with_reducible first | exact HB.out | apply below_alloc | apply pw_below_drewN | apply below_drew1 | refine below_set ?_ GE194.out) | exact HB.out)))); have n1_ := Aside0.mk (blk_below (g := gb194) (o := .cells #[.int .i64 0, .int .i64 0, .int .i64 0, .int .i64 0, .int .i64 0, .string (⟨#[]⟩ : ByteArray)] 23 (0, 0)) (by (with_reducible repeat (first | refine blk_drewN ?_ _ | refine blk_drew ?_ | refine blk_alloc ?_ _)); exact BK194.out) hb); have n2_ := Aside0.mk (below_step (by repeat (first | (with_reducible first | exact HB.out | apply below_alloc | apply pw_below_drewN | apply below_drew1 | refine below_set ?_ GE194.out) | exact HB.out)) hb); clear BK194; clear HB; have HO197 := n0_; have BK194 := n1_; have HB := n2_; clear n0_ n1_ n2_; clear hb ho105; obtain ⟨Ao106, co106, eo106⟩ := Kd.R_slice HO197.out; subst eo106) | ((with_reducible refine gate_callee (f := 26) rfl ?_); refine goesL_ (some 11) rfl rfl Try.func26 (by kernel_rfl) rfl #[.slice A0 l0.length c0, .slice Ao106 y195.length co106] rfl (by (try simp only [List.map_toArray, List.map_cons, List.map_nil]); first | done | rfl | (simp only [List.length_drop, List.length_take]; rfl)) ?_; (with_reducible refine (bytes_Equal.calls _ _ l0 _ _ y195 false _ ?side1 ?side2 ?side3 ?side4 A3.out).mono ?_); (case side1 => repeat (first | exact (Kd.C_below HR0.out HB.out) | (with_reducible refine Kd.C_alloc ?_ _) | (with_reducible refine Kd.C_drewN ?_ _) | (with_reducible refine Kd.C_drew ?_))); (case side2 => exact HC0.out); (case side3 => repeat (first | exact (Kd.R_reads' HO197.out).2.2 | (with_reducible refine Kd.C_alloc ?_ _) | (with_reducible refine Kd.C_drewN ?_ _) | (with_reducible refine Kd.C_drew ?_))); (case side4 => exact (Kd.R_reads' HO197.out).2.1); rintro e w' ⟨rfl, ⟨nd, rfl⟩⟩; refine ⟨_, rfl, ?_⟩; (try (rw [drewN_self w104]; generalize hq_ : World.drewN w104 _ = w104; have n0_ : Aside0 (Kd.R (Kd.int .u8) 5 w104 w.heap.size (fun _ => True) (.slice Ao106 y195.length co106) y195) := ⟨by rw [← hq_]; exact (by (with_reducible repeat (first | apply Kd.R_alloc | apply Kd.R_drewN | apply Kd.R_drew)); exact HO197.out)⟩; have n1_ : Aside0 (w104.heap[gb194]? = some (.cells #[.int .i64 0, .int .i64 0, .int .i64 0, .int .i64 0, .int .i64 0, .string (⟨#[]⟩ : ByteArray)] 23 (0, 0))) := ⟨by rw [← hq_]; exact (by (with_reducible repeat (first | refine blk_drewN ?_ _ | refine blk_drew ?_ | refine blk_alloc ?_ _)); exact BK194.out)⟩; have n2_ : Aside0 (Below w.heap.size w w104) := ⟨by rw [← hq_]; exact (by repeat (first | (with_reducible first | exact HB.out | apply below_alloc | apply pw_below_drewN | apply below_drew1 | refine below_set ?_ GE194.out) | exact HB.out))⟩; clear HO197 BK194 HB hq_; have HO197 := n0_; have BK194 := n1_; have HB := n2_; clear n0_ n1_ n2_)); have hcz107_0 : w104.cell? ⟨gb194, 0, none⟩ = some (.int .i64 0) := (blk_cell BK194.out 0).trans rfl; have hcz107_1 : w104.cell? ⟨gb194, 1, none⟩ = some (.int .i64 0) := (blk_cell BK194.out 1).trans rfl; have hcz107_2 : w104.cell? ⟨gb194, 2, none⟩ = some (.int .i64 0) := (blk_cell BK194.out 2).trans rfl; have hcz107_3 : w104.cell? ⟨gb194, 3, none⟩ = some (.int .i64 0) := (blk_cell BK194.out 3).trans rfl; have hcz107_4 : w104.cell? ⟨gb194, 4, none⟩ = some (.int .i64 0) := (blk_cell BK194.out 4).trans rfl; have hcz107_5 : w104.cell? ⟨gb194, 5, none⟩ = some (.string (⟨#[]⟩ : ByteArray)) := (blk_cell BK194.out 5).trans rfl; have hfz107_0 := blk_frozen BK194.out 0; have hfz107_1 := blk_frozen BK194.out 1; have hfz107_2 := blk_frozen BK194.out 2; have hfz107_3 := blk_frozen BK194.out 3; have hfz107_4 := blk_frozen BK194.out 4; have hfz107_5 := blk_frozen BK194.out 5))
        refine bodyPost_ret (results_ct rfl _ _ gb194 23 #[.int .i64 0, .int .i64 0, .int .i64 0, .int .i64 0, .int .i64 0, .string (⟨#[]⟩ : ByteArray)] (0, 0) _ rfl (by (with_reducible repeat (first | refine blk_drewN ?_ _ | refine blk_drew ?_ | refine blk_alloc ?_ _)); refine blk_put (cs := #[.int .i64 0, .int .i64 0, .int .i64 0, .int .i64 0, .int .i64 0, .string (⟨#[]⟩ : ByteArray)]) ?_ 5 _ rfl; (with_reducible repeat (first | refine blk_drewN ?_ _ | refine blk_drew ?_ | refine blk_alloc ?_ _)); refine blk_put (cs := #[.int .i64 0, .int .i64 0, .int .i64 0, .int .i64 0, .int .i64 0, .string (⟨#[]⟩ : ByteArray)]) ?_ 4 _ rfl; (with_reducible repeat (first | refine blk_drewN ?_ _ | refine blk_drew ?_ | refine blk_alloc ?_ _)); refine blk_put (cs := #[.int .i64 0, .int .i64 0, .int .i64 0, .int .i64 0, .int .i64 0, .string (⟨#[]⟩ : ByteArray)]) ?_ 3 _ rfl; (with_reducible repeat (first | refine blk_drewN ?_ _ | refine blk_drew ?_ | refine blk_alloc ?_ _)); refine blk_put (cs := #[.int .i64 0, .int .i64 0, .int .i64 0, .int .i64 0, .int .i64 0, .string (⟨#[]⟩ : ByteArray)]) ?_ 2 _ rfl; (with_reducible repeat (first | refine blk_drewN ?_ _ | refine blk_drew ?_ | refine blk_alloc ?_ _)); refine blk_put (cs := #[.int .i64 0, .int .i64 0, .int .i64 0, .int .i64 0, .int .i64 0, .string (⟨#[]⟩ : ByteArray)]) ?_ 1 _ rfl; (with_reducible repeat (first | refine blk_drewN ?_ _ | refine blk_drew ?_ | refine blk_alloc ?_ _)); refine blk_put (cs := #[.int .i64 0, .int .i64 0, .int .i64 0, .int .i64 0, .int .i64 0, .string (⟨#[]⟩ : ByteArray)]) ?_ 0 _ rfl; (with_reducible repeat (first | refine blk_drewN ?_ _ | refine blk_drew ?_ | refine blk_alloc ?_ _)); exact BK194.out) Try.underlying23 rfl (by kernel_rfl)) rfl ?_
        exact ⟨by first | rfl | (simp [errW_none, errW_some] <;> rfl) | (simp [*, errW_none, errW_some] <;> rfl), by repeat (first | (with_reducible first | exact HB.out | apply below_alloc | apply pw_below_drewN | apply below_drew1 | refine below_set ?_ GE194.out) | exact HB.out)⟩
  · rw [if_neg c2] at H
    exact absurd H (by simp)

end Go.Proofs.Ytbidkiacgggpmaa.QHead
