/- Written by a program of this session (wip/tools/mk.py) out of the kit's printing programs and of texts of our own: the contracts of the Go functions that the law goes through, and the row of the law. No condition is added. -/
import Derived.Test.YtjfdjbmahahllaaQLinex0
import Derived.Test.YtjfdjbmahahllaaQLinex3
/- tight -/
namespace Go.Proofs.Ytjfdjbmahahllaa.QLine
open Go.RowKit Go.Proofs.YtjfdjbmahahllaaW.PrintWords Go.Proofs.YtjfdjbmahahllaaW.PrintLast Go.Proofs.YtjfdjbmahahllaaW.PrintMore
attribute [local go_sem] max2_int min2_int max_two min_two max_three min_three max_four min_four   -- for this text's walks alone
set_option linter.unusedVariables false
set_option linter.unusedSimpArgs false

attribute [local go_sem] min_seven
/-! ### line_Encode: function 10 -/
mutual
def line_Encode.j0 : Nat → Bool → Int → Int → Bool → Int → Int → Int → Int → Int → ByteArray → Int → Int → Int → Int → Int → ByteArray → Option (List Int × Int)
 | 0, _, _, _, _, _, _, _, _, _, _, _, _, _, _, _, _ => none
 | k + 1, x49, x118000, x118001, x118002, x118003, x118004, x118005, x118006, x118007, x118008, x119000, x119001, x119002, x119003, x119004, x119005 => if x49 = true then (some (([] : List Int), 7)) else (if (x119005.size : Int) = 0 then (line_Encode.j1 k false x118000 x118001 x118002 x118003 x118004 x118005 x118006 x118007 x118008 x119000 x119001 x119002 x119003 x119004 x119005) else (line_Encode.j1 k ((x119005.size : Int) != 16) x118000 x118001 x118002 x118003 x118004 x118005 x118006 x118007 x118008 x119000 x119001 x119002 x119003 x119004 x119005))
def line_Encode.j1 : Nat → Bool → Int → Int → Bool → Int → Int → Int → Int → Int → ByteArray → Int → Int → Int → Int → Int → ByteArray → Option (List Int × Int)
 | 0, _, _, _, _, _, _, _, _, _, _, _, _, _, _, _, _ => none
 | k + 1, x59, x118000, x118001, x118002, x118003, x118004, x118005, x118006, x118007, x118008, x119000, x119001, x119002, x119003, x119004, x119005 => if x59 = true then (some (([] : List Int), 1)) else (if x118002 = true then (line_Encode.j2 k 1 x118000 x118001 x118002 x118003 x118004 x118005 x118006 x118007 x118008 x119000 x119001 x119002 x119003 x119004 x119005) else (line_Encode.j2 k 0 x118000 x118001 x118002 x118003 x118004 x118005 x118006 x118007 x118008 x119000 x119001 x119002 x119003 x119004 x119005))
def line_Encode.j2 : Nat → Int → Int → Int → Bool → Int → Int → Int → Int → Int → ByteArray → Int → Int → Int → Int → Int → ByteArray → Option (List Int × Int)
 | 0, _, _, _, _, _, _, _, _, _, _, _, _, _, _, _, _ => none
 | k + 1, x5, x118000, x118001, x118002, x118003, x118004, x118005, x118006, x118007, x118008, x119000, x119001, x119002, x119003, x119004, x119005 => (some (([83, 76] : List Int) : List Int)).bind fun y119 => ((line_sizes.f).bind fun t125 => ((pack_Must.f k (([IntKind.u64.wrap (x118000), IntKind.u64.wrap (x118001), x5, IntKind.u64.wrap (x119000), IntKind.u64.wrap (x119001), IntKind.u64.wrap (x119002), IntKind.u64.wrap (x119003), IntKind.u64.wrap (x119004), IntKind.u64.wrap ((x119005.size : Int))] : List Int)) t125).bind fun t128 => (if y119.length + t128.length < 140737488355328 then ((some (y119 ++ t128 : List Int)).bind fun y131 => (if y131.length + x119005.size < 140737488355328 then ((some (y131 ++ bytesOf x119005 : List Int)).bind fun y134 => (if 0 ≤ (wrap64 (60 - (y134.length : Int))) then (if y134.length + (wrap64 (60 - (y134.length : Int)) : Int).toNat < 140737488355328 then ((some (y134 ++ List.replicate (wrap64 (60 - (y134.length : Int)) : Int).toNat 0 : List Int)).bind fun y137 => ((crc_Sum.f y137).bind fun t140 => ((pack_Must.f k (([IntKind.u64.wrap (t140)] : List Int)) (([4] : List Int))).bind fun t147 => (if y137.length + t147.length < 140737488355328 then (some ((y137 ++ t147), 0)) else (none))))) else (none)) else (none))) else (none))) else (none))))
end
def line_Encode.f (k : Nat) (a0_0 : Int) (a0_1 : Int) (a0_2 : Bool) (a0_3 : Int) (a0_4 : Int) (a0_5 : Int) (a0_6 : Int) (a0_7 : Int) (a0_8 : ByteArray) : Option (List Int × Int) := if (mn (mn (mn (mn (mn (mn a0_0 a0_1) a0_3) a0_4) a0_5) a0_6) a0_7) < 0 then (line_Encode.j0 k true a0_0 a0_1 a0_2 a0_3 a0_4 a0_5 a0_6 a0_7 a0_8 a0_3 a0_4 a0_5 a0_6 a0_7 a0_8) else (if (mx a0_0 a0_1) > 2147483647 then (line_Encode.j0 k true a0_0 a0_1 a0_2 a0_3 a0_4 a0_5 a0_6 a0_7 a0_8 a0_3 a0_4 a0_5 a0_6 a0_7 a0_8) else (if a0_3 > 9 then (line_Encode.j0 k true a0_0 a0_1 a0_2 a0_3 a0_4 a0_5 a0_6 a0_7 a0_8 a0_3 a0_4 a0_5 a0_6 a0_7 a0_8) else (line_Encode.j0 k (decide ((mx (mx (mx a0_4 a0_5) a0_6) a0_7) > 1099511627776)) a0_0 a0_1 a0_2 a0_3 a0_4 a0_5 a0_6 a0_7 a0_8 a0_3 a0_4 a0_5 a0_6 a0_7 a0_8)))
theorem line_Encode.mono_l : ∀ k, (∀ y0 y1 y2 y3 y4 y5 y6 y7 y8 y9 y10 y11 y12 y13 y14 y15, LeO (line_Encode.j0 k y0 y1 y2 y3 y4 y5 y6 y7 y8 y9 y10 y11 y12 y13 y14 y15) (line_Encode.j0 (k + 1) y0 y1 y2 y3 y4 y5 y6 y7 y8 y9 y10 y11 y12 y13 y14 y15)) ∧ (∀ y0 y1 y2 y3 y4 y5 y6 y7 y8 y9 y10 y11 y12 y13 y14 y15, LeO (line_Encode.j1 k y0 y1 y2 y3 y4 y5 y6 y7 y8 y9 y10 y11 y12 y13 y14 y15) (line_Encode.j1 (k + 1) y0 y1 y2 y3 y4 y5 y6 y7 y8 y9 y10 y11 y12 y13 y14 y15)) ∧ (∀ y0 y1 y2 y3 y4 y5 y6 y7 y8 y9 y10 y11 y12 y13 y14 y15, LeO (line_Encode.j2 k y0 y1 y2 y3 y4 y5 y6 y7 y8 y9 y10 y11 y12 y13 y14 y15) (line_Encode.j2 (k + 1) y0 y1 y2 y3 y4 y5 y6 y7 y8 y9 y10 y11 y12 y13 y14 y15))
 | 0 => ⟨fun _ _ _ _ _ _ _ _ _ _ _ _ _ _ _ _ r h => by simp [line_Encode.j0] at h, fun _ _ _ _ _ _ _ _ _ _ _ _ _ _ _ _ r h => by simp [line_Encode.j1] at h, fun _ _ _ _ _ _ _ _ _ _ _ _ _ _ _ _ r h => by simp [line_Encode.j2] at h⟩
 | k + 1 => by
  obtain ⟨ih0, ih1, ih2⟩ := line_Encode.mono_l k
  refine ⟨?_, ?_, ?_⟩
  ·intro y0 y1 y2 y3 y4 y5 y6 y7 y8 y9 y10 y11 y12 y13 y14 y15
   unfold line_Encode.j0
   repeat' first
   | (with_reducible exact ih0 _ _ _ _ _ _ _ _ _ _ _ _ _ _ _ _)
   | (with_reducible exact ih1 _ _ _ _ _ _ _ _ _ _ _ _ _ _ _ _)
   | (with_reducible exact ih2 _ _ _ _ _ _ _ _ _ _ _ _ _ _ _ _)
   | (with_reducible exact pack_Must.mono _ _ _)
   | (with_reducible exact LeO.refl _)
   | (with_reducible exact LeO.none _)
   | (with_reducible refine LeO.ite ?_ ?_)
   | (with_reducible refine LeO.bind ?_ (fun _ => ?_))
   | exact ih0 _ _ _ _ _ _ _ _ _ _ _ _ _ _ _ _
   | exact ih1 _ _ _ _ _ _ _ _ _ _ _ _ _ _ _ _
   | exact ih2 _ _ _ _ _ _ _ _ _ _ _ _ _ _ _ _
   | exact pack_Must.mono _ _ _
   | exact LeO.none _
   | refine LeO.ite ?_ ?_
   | refine LeO.bind ?_ (fun _ => ?_)
  ·intro y0 y1 y2 y3 y4 y5 y6 y7 y8 y9 y10 y11 y12 y13 y14 y15
   unfold line_Encode.j1
   repeat' first
   | (with_reducible exact ih0 _ _ _ _ _ _ _ _ _ _ _ _ _ _ _ _)
   | (with_reducible exact ih1 _ _ _ _ _ _ _ _ _ _ _ _ _ _ _ _)
   | (with_reducible exact ih2 _ _ _ _ _ _ _ _ _ _ _ _ _ _ _ _)
   | (with_reducible exact pack_Must.mono _ _ _)
   | (with_reducible exact LeO.refl _)
   | (with_reducible exact LeO.none _)
   | (with_reducible refine LeO.ite ?_ ?_)
   | (with_reducible refine LeO.bind ?_ (fun _ => ?_))
   | exact ih0 _ _ _ _ _ _ _ _ _ _ _ _ _ _ _ _
   | exact ih1 _ _ _ _ _ _ _ _ _ _ _ _ _ _ _ _
   | exact ih2 _ _ _ _ _ _ _ _ _ _ _ _ _ _ _ _
   | exact pack_Must.mono _ _ _
   | exact LeO.none _
   | refine LeO.ite ?_ ?_
   | refine LeO.bind ?_ (fun _ => ?_)
  ·intro y0 y1 y2 y3 y4 y5 y6 y7 y8 y9 y10 y11 y12 y13 y14 y15
   unfold line_Encode.j2
   repeat' first
   | (with_reducible exact ih0 _ _ _ _ _ _ _ _ _ _ _ _ _ _ _ _)
   | (with_reducible exact ih1 _ _ _ _ _ _ _ _ _ _ _ _ _ _ _ _)
   | (with_reducible exact ih2 _ _ _ _ _ _ _ _ _ _ _ _ _ _ _ _)
   | (with_reducible exact pack_Must.mono _ _ _)
   | (with_reducible exact LeO.refl _)
   | (with_reducible exact LeO.none _)
   | (with_reducible refine LeO.ite ?_ ?_)
   | (with_reducible refine LeO.bind ?_ (fun _ => ?_))
   | exact ih0 _ _ _ _ _ _ _ _ _ _ _ _ _ _ _ _
   | exact ih1 _ _ _ _ _ _ _ _ _ _ _ _ _ _ _ _
   | exact ih2 _ _ _ _ _ _ _ _ _ _ _ _ _ _ _ _
   | exact pack_Must.mono _ _ _
   | exact LeO.none _
   | refine LeO.ite ?_ ?_
   | refine LeO.bind ?_ (fun _ => ?_)
theorem line_Encode.mono : ∀ a0 a1 a2 a3 a4 a5 a6 a7 a8 k, LeO (line_Encode.f k a0 a1 a2 a3 a4 a5 a6 a7 a8) (line_Encode.f (k + 1) a0 a1 a2 a3 a4 a5 a6 a7 a8) := by
 intro a0 a1 a2 a3 a4 a5 a6 a7 a8 k
 obtain ⟨ih0, ih1, ih2⟩ := line_Encode.mono_l k
 unfold line_Encode.f
 repeat' first
   | (with_reducible exact ih0 _ _ _ _ _ _ _ _ _ _ _ _ _ _ _ _)
   | (with_reducible exact ih1 _ _ _ _ _ _ _ _ _ _ _ _ _ _ _ _)
   | (with_reducible exact ih2 _ _ _ _ _ _ _ _ _ _ _ _ _ _ _ _)
   | (with_reducible exact pack_Must.mono _ _ _)
   | (with_reducible exact LeO.refl _)
   | (with_reducible exact LeO.none _)
   | (with_reducible refine LeO.ite ?_ ?_)
   | (with_reducible refine LeO.bind ?_ (fun _ => ?_))
   | exact ih0 _ _ _ _ _ _ _ _ _ _ _ _ _ _ _ _
   | exact ih1 _ _ _ _ _ _ _ _ _ _ _ _ _ _ _ _
   | exact ih2 _ _ _ _ _ _ _ _ _ _ _ _ _ _ _ _
   | exact pack_Must.mono _ _ _
   | exact LeO.none _
   | refine LeO.ite ?_ ?_
   | refine LeO.bind ?_ (fun _ => ?_)
def line_Encode.T9 : Bool × List (List Nat × List Nat) := (true, [([], []), ([0], [0]), ([], []), ([2], [2]), ([3], [3]), ([], []), ([5], [5]), ([6], [6]), ([], []), ([], []), ([9], [9]), ([10], [10]), ([], []), ([12], [12]), ([13], [13]), ([], []), ([15], [15]), ([16], [16]), ([], []), ([18], [18]), ([19], [19]), ([], []), ([21], [21]), ([22], [22]), ([], []), ([24], [24]), ([25], [25]), ([26], [26]), ([4, 7, 8, 11, 14, 17, 20, 23, 27], [4, 7, 8, 11, 14, 17, 20, 23, 27]), ([], []), ([28, 29, 29], [28, 29]), ([1, 30, 30], [1, 30]), ([31, 31, 0, 1, 2, 3, 4, 5, 6, 7, 8, 9, 10, 11, 12, 13, 14, 15, 16, 17, 18, 19, 20, 21, 22, 23, 24, 25, 26, 27, 28, 29, 30, 31], [31])])
def line_Encode.B9 : List Nat := [0, 1, 0, 4, 12, 0, 32, 96, 0, 0, 512, 1536, 0, 4096, 12288, 0, 32768, 98304, 0, 262144, 786432, 0, 2097152, 6291456, 0, 16777216, 50331648, 117440512, 268435452, 0, 1073741820, 2147483647, 4294967295]
theorem line_Encode.tab9 : rtab .any (opsOf Try.f10 9) = line_Encode.T9 := by kernel_rfl
theorem line_Encode.bits9 : waitsOk line_Encode.T9.2 line_Encode.B9 = true := by kernel_rfl
set_option maxHeartbeats 8000000 in
set_option maxRecDepth 100000 in
theorem line_Encode.calls (k : Nat) (a0_0 : Int) (a0_1 : Int) (a0_2 : Bool) (a0_3 : Int) (a0_4 : Int) (a0_5 : Int) (a0_6 : Int) (a0_7 : Int) (a0_8 : ByteArray) (r1 : List Int) (r2 : Int) (w : World) (h : line_Encode.f k a0_0 a0_1 a0_2 a0_3 a0_4 a0_5 a0_6 a0_7 a0_8 = some (r1, r2)) :
  Calls Try.prog 10 #[.agg #[.int .i64 a0_0, .int .i64 a0_1, .bool a0_2, .int .i64 a0_3, .int .i64 a0_4, .int .i64 a0_5, .int .i64 a0_6, .int .i64 a0_7, .string a0_8]] w fun e w' => ∃ v0_ : Value, e = .returned (.tuple #[v0_, .int .i64 r2]) ∧ Kd.R (Kd.int .u8) 5 w' w.heap.size (fun _ => True) v0_ r1 ∧ Below w.heap.size w w' := by
 have hu25 := Try.underlying25
 have hu23 := Try.underlying23
 have HB := Aside0.mk (Below.refl w.heap.size w)
 have H : (if (mn (mn (mn (mn (mn (mn a0_0 a0_1) a0_3) a0_4) a0_5) a0_6) a0_7) < 0 then (line_Encode.j0 k true a0_0 a0_1 a0_2 a0_3 a0_4 a0_5 a0_6 a0_7 a0_8 a0_3 a0_4 a0_5 a0_6 a0_7 a0_8) else (if (mx a0_0 a0_1) > 2147483647 then (line_Encode.j0 k true a0_0 a0_1 a0_2 a0_3 a0_4 a0_5 a0_6 a0_7 a0_8 a0_3 a0_4 a0_5 a0_6 a0_7 a0_8) else (if a0_3 > 9 then (line_Encode.j0 k true a0_0 a0_1 a0_2 a0_3 a0_4 a0_5 a0_6 a0_7 a0_8 a0_3 a0_4 a0_5 a0_6 a0_7 a0_8) else (line_Encode.j0 k (decide ((mx (mx (mx a0_4 a0_5) a0_6) a0_7) > 1099511627776)) a0_0 a0_1 a0_2 a0_3 a0_4 a0_5 a0_6 a0_7 a0_8 a0_3 a0_4 a0_5 a0_6 a0_7 a0_8)))) = some (r1, r2) := h
 clear h
 have HC2 := Aside0.mk H
 clear H
 go_enter Try.func10, Try.ntmps10
 go_upto_region 2 with (first | ((with_reducible refine gate_dst (N := 1) rfl ?_); (try (refine gate_guard (by rfl) ?_; dsimp only)); refine box_event ?hg (N := 1) ?hd (cs := #[.int .i64 a0_0, .int .i64 a0_1, .bool a0_2, .int .i64 a0_3, .int .i64 a0_4, .int .i64 a0_5, .int .i64 a0_6, .int .i64 a0_7, .string a0_8]) (t := 25) ?hr ?_; (case hd => rfl); (case hg => rfl); (case hr => first | (go_simp; done) | (go_simp; rfl)); intro gb117 hg w3 hbox hb; have n0_ := Aside0.mk (below_step (by repeat (first | (with_reducible first | exact HB.out | apply below_alloc | apply pw_below_drewN | apply below_drew1) | exact HB.out)) hb); have n1_ := Aside0.mk (hbox); have n2_ := Aside0.mk ((by rw [hg]; exact (below_size (by repeat (first | (with_reducible first | exact HB.out | apply below_alloc | apply pw_below_drewN | apply below_drew1) | exact HB.out))) : w.heap.size ≤ gb117)); have n3_ := Aside0.mk ((by rw [hg]; exact (below_size (by repeat (first | (with_reducible first | exact HB.out | apply below_alloc | apply pw_below_drewN | apply below_drew1) | exact HB.out))) : w.heap.size ≤ gb117)); clear HB; have HB := n0_; have BK117 := n1_; have GW117 := n2_; have GE117 := n3_; clear n0_ n1_ n2_ n3_; clear hb hbox hg; have hcz4_0 : w3.cell? ⟨gb117, 0, none⟩ = some (.int .i64 a0_0) := (blk_cell BK117.out 0).trans rfl; have hcz4_1 : w3.cell? ⟨gb117, 1, none⟩ = some (.int .i64 a0_1) := (blk_cell BK117.out 1).trans rfl; have hcz4_2 : w3.cell? ⟨gb117, 2, none⟩ = some (.bool a0_2) := (blk_cell BK117.out 2).trans rfl; have hcz4_3 : w3.cell? ⟨gb117, 3, none⟩ = some (.int .i64 a0_3) := (blk_cell BK117.out 3).trans rfl; have hcz4_4 : w3.cell? ⟨gb117, 4, none⟩ = some (.int .i64 a0_4) := (blk_cell BK117.out 4).trans rfl; have hcz4_5 : w3.cell? ⟨gb117, 5, none⟩ = some (.int .i64 a0_5) := (blk_cell BK117.out 5).trans rfl; have hcz4_6 : w3.cell? ⟨gb117, 6, none⟩ = some (.int .i64 a0_6) := (blk_cell BK117.out 6).trans rfl; have hcz4_7 : w3.cell? ⟨gb117, 7, none⟩ = some (.int .i64 a0_7) := (blk_cell BK117.out 7).trans rfl; have hcz4_8 : w3.cell? ⟨gb117, 8, none⟩ = some (.string a0_8) := (blk_cell BK117.out 8).trans rfl; have hfz4_0 := blk_frozen BK117.out 0; have hfz4_1 := blk_frozen BK117.out 1; have hfz4_2 := blk_frozen BK117.out 2; have hfz4_3 := blk_frozen BK117.out 3; have hfz4_4 := blk_frozen BK117.out 4; have hfz4_5 := blk_frozen BK117.out 5; have hfz4_6 := blk_frozen BK117.out 6; have hfz4_7 := blk_frozen BK117.out 7; have hfz4_8 := blk_frozen BK117.out 8) | ((with_reducible refine gate_dst (N := 4) rfl ?_); (try (refine gate_guard (by rfl) ?_; dsimp only)); refine box_event ?hg (N := 4) ?hd (cs := #[.int .i64 0, .int .i64 0, .int .i64 0, .int .i64 0, .int .i64 0, .string (⟨#[]⟩ : ByteArray)]) (t := 23) ?hr ?_; (case hd => rfl); (case hg => rfl); (case hr => first | (go_simp; done) | (go_simp; rfl)); intro gb118 hg w5 hbox hb; have n0_ := Aside0.mk (blk_below (g := gb117) (o := .cells #[.int .i64 a0_0, .int .i64 a0_1, .bool a0_2, .int .i64 a0_3, .int .i64 a0_4, .int .i64 a0_5, .int .i64 a0_6, .int .i64 a0_7, .string a0_8] 25 (0, 0)) (by (with_reducible repeat (first | refine blk_drewN ?_ _ | refine blk_drew ?_ | refine blk_alloc ?_ _)); exact BK117.out) hb); have n1_ := Aside0.mk (below_step (by repeat (first | (with_reducible first | exact HB.out | apply below_alloc | apply pw_below_drewN | apply below_drew1 | refine below_set ?_ GE117.out) | exact HB.out)) hb); have n2_ := Aside0.mk (hbox); have n3_ := Aside0.mk ((by rw [hg]; exact (below_size (by repeat (first | (with_reducible first | exact HB.out | apply below_alloc | apply pw_below_drewN | apply below_drew1 | refine below_set ?_ GE117.out) | exact HB.out))) : w.heap.size ≤ gb118)); have n4_ := Aside0.mk ((by rw [hg]; exact (below_size (by repeat (first | (with_reducible first | exact HB.out | apply below_alloc | apply pw_below_drewN | apply below_drew1 | refine below_set ?_ GE117.out) | exact HB.out))) : w.heap.size ≤ gb118)); have n5_ := Aside0.mk ((by rw [hg]; exact Nat.ne_of_lt (blk_lt (g := gb117) (o := .cells #[.int .i64 a0_0, .int .i64 a0_1, .bool a0_2, .int .i64 a0_3, .int .i64 a0_4, .int .i64 a0_5, .int .i64 a0_6, .int .i64 a0_7, .string a0_8] 25 (0, 0)) (by (with_reducible repeat (first | refine blk_drewN ?_ _ | refine blk_drew ?_ | refine blk_alloc ?_ _)); exact BK117.out)) : gb117 ≠ gb118)); have n6_ := Aside0.mk ((by rw [hg]; exact Nat.ne_of_gt (blk_lt (g := gb117) (o := .cells #[.int .i64 a0_0, .int .i64 a0_1, .bool a0_2, .int .i64 a0_3, .int .i64 a0_4, .int .i64 a0_5, .int .i64 a0_6, .int .i64 a0_7, .string a0_8] 25 (0, 0)) (by (with_reducible repeat (first | refine blk_drewN ?_ _ | refine blk_drew ?_ | refine blk_alloc ?_ _)); exact BK117.out)) : gb118 ≠ gb117)); clear BK117; clear HB; have BK117 := n0_; have HB := n1_; have BK118 := n2_; have GW118 := n3_; have GE118 := n4_; have NB117_118 := n5_; have NB118_117 := n6_; clear n0_ n1_ n2_ n3_ n4_ n5_ n6_; clear hb hbox hg; have hnb6 := NB118_117.out; have hnc6 := NB117_118.out; have hcz7_0 : w5.cell? ⟨gb118, 0, none⟩ = some (.int .i64 0) := (blk_cell BK118.out 0).trans rfl; have hcz7_1 : w5.cell? ⟨gb118, 1, none⟩ = some (.int .i64 0) := (blk_cell BK118.out 1).trans rfl; have hcz7_2 : w5.cell? ⟨gb118, 2, none⟩ = some (.int .i64 0) := (blk_cell BK118.out 2).trans rfl; have hcz7_3 : w5.cell? ⟨gb118, 3, none⟩ = some (.int .i64 0) := (blk_cell BK118.out 3).trans rfl; have hcz7_4 : w5.cell? ⟨gb118, 4, none⟩ = some (.int .i64 0) := (blk_cell BK118.out 4).trans rfl; have hcz7_5 : w5.cell? ⟨gb118, 5, none⟩ = some (.string (⟨#[]⟩ : ByteArray)) := (blk_cell BK118.out 5).trans rfl; have hfz7_0 := blk_frozen BK118.out 0; have hfz7_1 := blk_frozen BK118.out 1; have hfz7_2 := blk_frozen BK118.out 2; have hfz7_3 := blk_frozen BK118.out 3; have hfz7_4 := blk_frozen BK118.out 4; have hfz7_5 := blk_frozen BK118.out 5))
 (try simp only [Act.put, List.setIfInBounds_toArray, List.set_cons_zero, List.set_cons_succ])
 go_cut [49] (fun v49 wc => ∃ (kq : Nat) (x49_1 : Bool), v49 = .bool x49_1 ∧ Aside0 (line_Encode.j0 kq x49_1 a0_0 a0_1 a0_2 a0_3 a0_4 a0_5 a0_6 a0_7 a0_8 a0_3 a0_4 a0_5 a0_6 a0_7 a0_8 = some (r1, r2)) ∧ Aside0 (kq ≤ k) ∧ Aside0 (wc.heap[gb117]? = some (.cells #[.int .i64 a0_0, .int .i64 a0_1, .bool a0_2, .int .i64 a0_3, .int .i64 a0_4, .int .i64 a0_5, .int .i64 a0_6, .int .i64 a0_7, .string a0_8] 25 (0, 0))) ∧ Aside0 (wc.heap[gb118]? = some (.cells #[.int .i64 a0_3, .int .i64 a0_4, .int .i64 a0_5, .int .i64 a0_6, .int .i64 a0_7, .string a0_8] 23 (0, 0))) ∧ Aside0 (Below w.heap.size w wc))
 case first =>
  have H := HC2.out
  clear HC2
  obtain ⟨ji8, hji8⟩ : ∃ j_ : Int, (mn a0_0 a0_1) = j_ := ⟨_, rfl⟩
  replace H : (if (mn (mn (mn (mn (mn (ji8) a0_3) a0_4) a0_5) a0_6) a0_7) < 0 then (line_Encode.j0 k true a0_0 a0_1 a0_2 a0_3 a0_4 a0_5 a0_6 a0_7 a0_8 a0_3 a0_4 a0_5 a0_6 a0_7 a0_8) else (if (mx a0_0 a0_1) > 2147483647 then (line_Encode.j0 k true a0_0 a0_1 a0_2 a0_3 a0_4 a0_5 a0_6 a0_7 a0_8 a0_3 a0_4 a0_5 a0_6 a0_7 a0_8) else (if a0_3 > 9 then (line_Encode.j0 k true a0_0 a0_1 a0_2 a0_3 a0_4 a0_5 a0_6 a0_7 a0_8 a0_3 a0_4 a0_5 a0_6 a0_7 a0_8) else (line_Encode.j0 k (decide ((mx (mx (mx a0_4 a0_5) a0_6) a0_7) > 1099511627776)) a0_0 a0_1 a0_2 a0_3 a0_4 a0_5 a0_6 a0_7 a0_8 a0_3 a0_4 a0_5 a0_6 a0_7 a0_8)))) = some (r1, r2) := by first | (rw [hji8] at H; exact H) | (simp only [hji8] at H ⊢; exact H)
  have hji8_ : (if a0_1 < a0_0 then a0_1 else a0_0) = ji8 := hji8
  obtain ⟨ji9, hji9⟩ : ∃ j_ : Int, (mn (ji8) a0_3) = j_ := ⟨_, rfl⟩
  replace H : (if (mn (mn (mn (mn (ji9) a0_4) a0_5) a0_6) a0_7) < 0 then (line_Encode.j0 k true a0_0 a0_1 a0_2 a0_3 a0_4 a0_5 a0_6 a0_7 a0_8 a0_3 a0_4 a0_5 a0_6 a0_7 a0_8) else (if (mx a0_0 a0_1) > 2147483647 then (line_Encode.j0 k true a0_0 a0_1 a0_2 a0_3 a0_4 a0_5 a0_6 a0_7 a0_8 a0_3 a0_4 a0_5 a0_6 a0_7 a0_8) else (if a0_3 > 9 then (line_Encode.j0 k true a0_0 a0_1 a0_2 a0_3 a0_4 a0_5 a0_6 a0_7 a0_8 a0_3 a0_4 a0_5 a0_6 a0_7 a0_8) else (line_Encode.j0 k (decide ((mx (mx (mx a0_4 a0_5) a0_6) a0_7) > 1099511627776)) a0_0 a0_1 a0_2 a0_3 a0_4 a0_5 a0_6 a0_7 a0_8 a0_3 a0_4 a0_5 a0_6 a0_7 a0_8)))) = some (r1, r2) := by first | (rw [hji9] at H; exact H) | (simp only [hji9] at H ⊢; exact H)
  have hji9_ : (if a0_3 < (ji8) then a0_3 else (ji8)) = ji9 := hji9
  obtain ⟨ji10, hji10⟩ : ∃ j_ : Int, (mn (ji9) a0_4) = j_ := ⟨_, rfl⟩
  replace H : (if (mn (mn (mn (ji10) a0_5) a0_6) a0_7) < 0 then (line_Encode.j0 k true a0_0 a0_1 a0_2 a0_3 a0_4 a0_5 a0_6 a0_7 a0_8 a0_3 a0_4 a0_5 a0_6 a0_7 a0_8) else (if (mx a0_0 a0_1) > 2147483647 then (line_Encode.j0 k true a0_0 a0_1 a0_2 a0_3 a0_4 a0_5 a0_6 a0_7 a0_8 a0_3 a0_4 a0_5 a0_6 a0_7 a0_8) else (if a0_3 > 9 then (line_Encode.j0 k true a0_0 a0_1 a0_2 a0_3 a0_4 a0_5 a0_6 a0_7 a0_8 a0_3 a0_4 a0_5 a0_6 a0_7 a0_8) else (line_Encode.j0 k (decide ((mx (mx (mx a0_4 a0_5) a0_6) a0_7) > 1099511627776)) a0_0 a0_1 a0_2 a0_3 a0_4 a0_5 a0_6 a0_7 a0_8 a0_3 a0_4 a0_5 a0_6 a0_7 a0_8)))) = some (r1, r2) := by first | (rw [hji10] at H; exact H) | (simp only [hji10] at H ⊢; exact H)
  have hji10_ : (if a0_4 < (ji9) then a0_4 else (ji9)) = ji10 := hji10
  obtain ⟨ji11, hji11⟩ : ∃ j_ : Int, (mn (ji10) a0_5) = j_ := ⟨_, rfl⟩
  replace H : (if (mn (mn (ji11) a0_6) a0_7) < 0 then (line_Encode.j0 k true a0_0 a0_1 a0_2 a0_3 a0_4 a0_5 a0_6 a0_7 a0_8 a0_3 a0_4 a0_5 a0_6 a0_7 a0_8) else (if (mx a0_0 a0_1) > 2147483647 then (line_Encode.j0 k true a0_0 a0_1 a0_2 a0_3 a0_4 a0_5 a0_6 a0_7 a0_8 a0_3 a0_4 a0_5 a0_6 a0_7 a0_8) else (if a0_3 > 9 then (line_Encode.j0 k true a0_0 a0_1 a0_2 a0_3 a0_4 a0_5 a0_6 a0_7 a0_8 a0_3 a0_4 a0_5 a0_6 a0_7 a0_8) else (line_Encode.j0 k (decide ((mx (mx (mx a0_4 a0_5) a0_6) a0_7) > 1099511627776)) a0_0 a0_1 a0_2 a0_3 a0_4 a0_5 a0_6 a0_7 a0_8 a0_3 a0_4 a0_5 a0_6 a0_7 a0_8)))) = some (r1, r2) := by first | (rw [hji11] at H; exact H) | (simp only [hji11] at H ⊢; exact H)
  have hji11_ : (if a0_5 < (ji10) then a0_5 else (ji10)) = ji11 := hji11
  obtain ⟨ji12, hji12⟩ : ∃ j_ : Int, (mn (ji11) a0_6) = j_ := ⟨_, rfl⟩
  replace H : (if (mn (ji12) a0_7) < 0 then (line_Encode.j0 k true a0_0 a0_1 a0_2 a0_3 a0_4 a0_5 a0_6 a0_7 a0_8 a0_3 a0_4 a0_5 a0_6 a0_7 a0_8) else (if (mx a0_0 a0_1) > 2147483647 then (line_Encode.j0 k true a0_0 a0_1 a0_2 a0_3 a0_4 a0_5 a0_6 a0_7 a0_8 a0_3 a0_4 a0_5 a0_6 a0_7 a0_8) else (if a0_3 > 9 then (line_Encode.j0 k true a0_0 a0_1 a0_2 a0_3 a0_4 a0_5 a0_6 a0_7 a0_8 a0_3 a0_4 a0_5 a0_6 a0_7 a0_8) else (line_Encode.j0 k (decide ((mx (mx (mx a0_4 a0_5) a0_6) a0_7) > 1099511627776)) a0_0 a0_1 a0_2 a0_3 a0_4 a0_5 a0_6 a0_7 a0_8 a0_3 a0_4 a0_5 a0_6 a0_7 a0_8)))) = some (r1, r2) := by first | (rw [hji12] at H; exact H) | (simp only [hji12] at H ⊢; exact H)
  have hji12_ : (if a0_6 < (ji11) then a0_6 else (ji11)) = ji12 := hji12
  obtain ⟨ji13, hji13⟩ : ∃ j_ : Int, (mn (ji12) a0_7) = j_ := ⟨_, rfl⟩
  replace H : (if (ji13) < 0 then (line_Encode.j0 k true a0_0 a0_1 a0_2 a0_3 a0_4 a0_5 a0_6 a0_7 a0_8 a0_3 a0_4 a0_5 a0_6 a0_7 a0_8) else (if (mx a0_0 a0_1) > 2147483647 then (line_Encode.j0 k true a0_0 a0_1 a0_2 a0_3 a0_4 a0_5 a0_6 a0_7 a0_8 a0_3 a0_4 a0_5 a0_6 a0_7 a0_8) else (if a0_3 > 9 then (line_Encode.j0 k true a0_0 a0_1 a0_2 a0_3 a0_4 a0_5 a0_6 a0_7 a0_8 a0_3 a0_4 a0_5 a0_6 a0_7 a0_8) else (line_Encode.j0 k (decide ((mx (mx (mx a0_4 a0_5) a0_6) a0_7) > 1099511627776)) a0_0 a0_1 a0_2 a0_3 a0_4 a0_5 a0_6 a0_7 a0_8 a0_3 a0_4 a0_5 a0_6 a0_7 a0_8)))) = some (r1, r2) := by first | (rw [hji13] at H; exact H) | (simp only [hji13] at H ⊢; exact H)
  have hji13_ : (if a0_7 < (ji12) then a0_7 else (ji12)) = ji13 := hji13
  by_cases c14 : (ji13) < 0
  ·rw [if_pos c14] at H
   have c14b0 : decide ((ji13) < 0) = true := decide_eq_true c14
   clear c14
   (first | rw [c14b0] | (simp only [i64_w, i32_w]; rw [c14b0]) | rw [c14b1] | skip)
   have H' := Aside0.mk H
   clear H
   have hnb15 := NB117_118.out
   have hnc15 := NB118_117.out
   have hcz16_0 : w5.cell? ⟨gb117, 0, none⟩ = some (.int .i64 a0_0) := (blk_cell BK117.out 0).trans rfl
   have hcz16_1 : w5.cell? ⟨gb117, 1, none⟩ = some (.int .i64 a0_1) := (blk_cell BK117.out 1).trans rfl
   have hcz16_2 : w5.cell? ⟨gb117, 2, none⟩ = some (.bool a0_2) := (blk_cell BK117.out 2).trans rfl
   have hcz16_3 : w5.cell? ⟨gb117, 3, none⟩ = some (.int .i64 a0_3) := (blk_cell BK117.out 3).trans rfl
   have hcz16_4 : w5.cell? ⟨gb117, 4, none⟩ = some (.int .i64 a0_4) := (blk_cell BK117.out 4).trans rfl
   have hcz16_5 : w5.cell? ⟨gb117, 5, none⟩ = some (.int .i64 a0_5) := (blk_cell BK117.out 5).trans rfl
   have hcz16_6 : w5.cell? ⟨gb117, 6, none⟩ = some (.int .i64 a0_6) := (blk_cell BK117.out 6).trans rfl
   have hcz16_7 : w5.cell? ⟨gb117, 7, none⟩ = some (.int .i64 a0_7) := (blk_cell BK117.out 7).trans rfl
   have hcz16_8 : w5.cell? ⟨gb117, 8, none⟩ = some (.string a0_8) := (blk_cell BK117.out 8).trans rfl
   have hfz16_0 := blk_frozen BK117.out 0
   have hfz16_1 := blk_frozen BK117.out 1
   have hfz16_2 := blk_frozen BK117.out 2
   have hfz16_3 := blk_frozen BK117.out 3
   have hfz16_4 := blk_frozen BK117.out 4
   have hfz16_5 := blk_frozen BK117.out 5
   have hfz16_6 := blk_frozen BK117.out 6
   have hfz16_7 := blk_frozen BK117.out 7
   have hfz16_8 := blk_frozen BK117.out 8
   have hcz17_0 : w5.cell? ⟨gb118, 0, none⟩ = some (.int .i64 0) := (blk_cell BK118.out 0).trans rfl
   have hcz17_1 : w5.cell? ⟨gb118, 1, none⟩ = some (.int .i64 0) := (blk_cell BK118.out 1).trans rfl
   have hcz17_2 : w5.cell? ⟨gb118, 2, none⟩ = some (.int .i64 0) := (blk_cell BK118.out 2).trans rfl
   have hcz17_3 : w5.cell? ⟨gb118, 3, none⟩ = some (.int .i64 0) := (blk_cell BK118.out 3).trans rfl
   have hcz17_4 : w5.cell? ⟨gb118, 4, none⟩ = some (.int .i64 0) := (blk_cell BK118.out 4).trans rfl
   have hcz17_5 : w5.cell? ⟨gb118, 5, none⟩ = some (.string (⟨#[]⟩ : ByteArray)) := (blk_cell BK118.out 5).trans rfl
   have hfz17_0 := blk_frozen BK118.out 0
   have hfz17_1 := blk_frozen BK118.out 1
   have hfz17_2 := blk_frozen BK118.out 2
   have hfz17_3 := blk_frozen BK118.out 3
   have hfz17_4 := blk_frozen BK118.out 4
   have hfz17_5 := blk_frozen BK118.out 5
   go_wp2
   go_meet
   case rel => exact ⟨_, (true), (by first | rfl | (simp; done) | (simp [*]; done)), H', ⟨by first | omega | exact Nat.le_refl _⟩, ⟨by (with_reducible repeat (first | refine blk_drewN ?_ _ | refine blk_drew ?_ | refine blk_alloc ?_ _)); refine blk_far ?_ NB117_118.out _; (with_reducible repeat (first | refine blk_drewN ?_ _ | refine blk_drew ?_ | refine blk_alloc ?_ _)); refine blk_far ?_ NB117_118.out _; (with_reducible repeat (first | refine blk_drewN ?_ _ | refine blk_drew ?_ | refine blk_alloc ?_ _)); refine blk_far ?_ NB117_118.out _; (with_reducible repeat (first | refine blk_drewN ?_ _ | refine blk_drew ?_ | refine blk_alloc ?_ _)); refine blk_far ?_ NB117_118.out _; (with_reducible repeat (first | refine blk_drewN ?_ _ | refine blk_drew ?_ | refine blk_alloc ?_ _)); refine blk_far ?_ NB117_118.out _; (with_reducible repeat (first | refine blk_drewN ?_ _ | refine blk_drew ?_ | refine blk_alloc ?_ _)); refine blk_far ?_ NB117_118.out _; (with_reducible repeat (first | refine blk_drewN ?_ _ | refine blk_drew ?_ | refine blk_alloc ?_ _)); exact BK117.out⟩, ⟨by (with_reducible repeat (first | refine blk_drewN ?_ _ | refine blk_drew ?_ | refine blk_alloc ?_ _)); refine blk_put (cs := #[.int .i64 a0_3, .int .i64 a0_4, .int .i64 a0_5, .int .i64 a0_6, .int .i64 a0_7, .string (⟨#[]⟩ : ByteArray)]) ?_ 5 _ rfl; (with_reducible repeat (first | refine blk_drewN ?_ _ | refine blk_drew ?_ | refine blk_alloc ?_ _)); refine blk_put (cs := #[.int .i64 a0_3, .int .i64 a0_4, .int .i64 a0_5, .int .i64 a0_6, .int .i64 0, .string (⟨#[]⟩ : ByteArray)]) ?_ 4 _ rfl; (with_reducible repeat (first | refine blk_drewN ?_ _ | refine blk_drew ?_ | refine blk_alloc ?_ _)); refine blk_put (cs := #[.int .i64 a0_3, .int .i64 a0_4, .int .i64 a0_5, .int .i64 0, .int .i64 0, .string (⟨#[]⟩ : ByteArray)]) ?_ 3 _ rfl; (with_reducible repeat (first | refine blk_drewN ?_ _ | refine blk_drew ?_ | refine blk_alloc ?_ _)); refine blk_put (cs := #[.int .i64 a0_3, .int .i64 a0_4, .int .i64 0, .int .i64 0, .int .i64 0, .string (⟨#[]⟩ : ByteArray)]) ?_ 2 _ rfl; (with_reducible repeat (first | refine blk_drewN ?_ _ | refine blk_drew ?_ | refine blk_alloc ?_ _)); refine blk_put (cs := #[.int .i64 a0_3, .int .i64 0, .int .i64 0, .int .i64 0, .int .i64 0, .string (⟨#[]⟩ : ByteArray)]) ?_ 1 _ rfl; (with_reducible repeat (first | refine blk_drewN ?_ _ | refine blk_drew ?_ | refine blk_alloc ?_ _)); refine blk_put (cs := #[.int .i64 0, .int .i64 0, .int .i64 0, .int .i64 0, .int .i64 0, .string (⟨#[]⟩ : ByteArray)]) ?_ 0 _ rfl; (with_reducible repeat (first | refine blk_drewN ?_ _ | refine blk_drew ?_ | refine blk_alloc ?_ _)); exact BK118.out⟩, ⟨by repeat (first | (with_reducible first | exact HB.out | apply below_alloc | apply pw_below_drewN | apply below_drew1 | refine below_set ?_ GE117.out | refine below_set ?_ GE118.out) | exact HB.out)⟩⟩
  ·rw [if_neg c14] at H
   have c14b0 : decide ((ji13) < 0) = false := decide_eq_false c14
   clear c14
   (first | rw [c14b0] | (simp only [i64_w, i32_w]; rw [c14b0]) | rw [c14b1] | skip)
   obtain ⟨ji18, hji18⟩ : ∃ j_ : Int, (mx a0_0 a0_1) = j_ := ⟨_, rfl⟩
   replace H : (if (ji18) > 2147483647 then (line_Encode.j0 k true a0_0 a0_1 a0_2 a0_3 a0_4 a0_5 a0_6 a0_7 a0_8 a0_3 a0_4 a0_5 a0_6 a0_7 a0_8) else (if a0_3 > 9 then (line_Encode.j0 k true a0_0 a0_1 a0_2 a0_3 a0_4 a0_5 a0_6 a0_7 a0_8 a0_3 a0_4 a0_5 a0_6 a0_7 a0_8) else (line_Encode.j0 k (decide ((mx (mx (mx a0_4 a0_5) a0_6) a0_7) > 1099511627776)) a0_0 a0_1 a0_2 a0_3 a0_4 a0_5 a0_6 a0_7 a0_8 a0_3 a0_4 a0_5 a0_6 a0_7 a0_8))) = some (r1, r2) := by first | (rw [hji18] at H; exact H) | (simp only [hji18] at H ⊢; exact H)
   have hji18_ : (if a0_0 < a0_1 then a0_1 else a0_0) = ji18 := hji18
   by_cases c19 : (ji18) > 2147483647
   ·rw [if_pos c19] at H
    have c19b0 : decide (2147483647 < (ji18)) = true := decide_eq_true c19
    clear c19
    have H' := Aside0.mk H
    clear H
    have hnb20 := NB117_118.out
    have hnc20 := NB118_117.out
    have hcz21_0 : w5.cell? ⟨gb117, 0, none⟩ = some (.int .i64 a0_0) := (blk_cell BK117.out 0).trans rfl
    have hcz21_1 : w5.cell? ⟨gb117, 1, none⟩ = some (.int .i64 a0_1) := (blk_cell BK117.out 1).trans rfl
    have hcz21_2 : w5.cell? ⟨gb117, 2, none⟩ = some (.bool a0_2) := (blk_cell BK117.out 2).trans rfl
    have hcz21_3 : w5.cell? ⟨gb117, 3, none⟩ = some (.int .i64 a0_3) := (blk_cell BK117.out 3).trans rfl
    have hcz21_4 : w5.cell? ⟨gb117, 4, none⟩ = some (.int .i64 a0_4) := (blk_cell BK117.out 4).trans rfl
    have hcz21_5 : w5.cell? ⟨gb117, 5, none⟩ = some (.int .i64 a0_5) := (blk_cell BK117.out 5).trans rfl
    have hcz21_6 : w5.cell? ⟨gb117, 6, none⟩ = some (.int .i64 a0_6) := (blk_cell BK117.out 6).trans rfl
    have hcz21_7 : w5.cell? ⟨gb117, 7, none⟩ = some (.int .i64 a0_7) := (blk_cell BK117.out 7).trans rfl
    have hcz21_8 : w5.cell? ⟨gb117, 8, none⟩ = some (.string a0_8) := (blk_cell BK117.out 8).trans rfl
    have hfz21_0 := blk_frozen BK117.out 0
    have hfz21_1 := blk_frozen BK117.out 1
    have hfz21_2 := blk_frozen BK117.out 2
    have hfz21_3 := blk_frozen BK117.out 3
    have hfz21_4 := blk_frozen BK117.out 4
    have hfz21_5 := blk_frozen BK117.out 5
    have hfz21_6 := blk_frozen BK117.out 6
    have hfz21_7 := blk_frozen BK117.out 7
    have hfz21_8 := blk_frozen BK117.out 8
    have hcz22_0 : w5.cell? ⟨gb118, 0, none⟩ = some (.int .i64 0) := (blk_cell BK118.out 0).trans rfl
    have hcz22_1 : w5.cell? ⟨gb118, 1, none⟩ = some (.int .i64 0) := (blk_cell BK118.out 1).trans rfl
    have hcz22_2 : w5.cell? ⟨gb118, 2, none⟩ = some (.int .i64 0) := (blk_cell BK118.out 2).trans rfl
    have hcz22_3 : w5.cell? ⟨gb118, 3, none⟩ = some (.int .i64 0) := (blk_cell BK118.out 3).trans rfl
    have hcz22_4 : w5.cell? ⟨gb118, 4, none⟩ = some (.int .i64 0) := (blk_cell BK118.out 4).trans rfl
    have hcz22_5 : w5.cell? ⟨gb118, 5, none⟩ = some (.string (⟨#[]⟩ : ByteArray)) := (blk_cell BK118.out 5).trans rfl
    have hfz22_0 := blk_frozen BK118.out 0
    have hfz22_1 := blk_frozen BK118.out 1
    have hfz22_2 := blk_frozen BK118.out 2
    have hfz22_3 := blk_frozen BK118.out 3
    have hfz22_4 := blk_frozen BK118.out 4
    have hfz22_5 := blk_frozen BK118.out 5
    go_wp2
    go_meet
    case rel => exact ⟨_, (true), (by first | rfl | (simp; done) | (simp [*]; done)), H', ⟨by first | omega | exact Nat.le_refl _⟩, ⟨by (with_reducible repeat (first | refine blk_drewN ?_ _ | refine blk_drew ?_ | refine blk_alloc ?_ _)); refine blk_far ?_ NB117_118.out _; (with_reducible repeat (first | refine blk_drewN ?_ _ | refine blk_drew ?_ | refine blk_alloc ?_ _)); refine blk_far ?_ NB117_118.out _; (with_reducible repeat (first | refine blk_drewN ?_ _ | refine blk_drew ?_ | refine blk_alloc ?_ _)); refine blk_far ?_ NB117_118.out _; (with_reducible repeat (first | refine blk_drewN ?_ _ | refine blk_drew ?_ | refine blk_alloc ?_ _)); refine blk_far ?_ NB117_118.out _; (with_reducible repeat (first | refine blk_drewN ?_ _ | refine blk_drew ?_ | refine blk_alloc ?_ _)); refine blk_far ?_ NB117_118.out _; (with_reducible repeat (first | refine blk_drewN ?_ _ | refine blk_drew ?_ | refine blk_alloc ?_ _)); refine blk_far ?_ NB117_118.out _; (with_reducible repeat (first | refine blk_drewN ?_ _ | refine blk_drew ?_ | refine blk_alloc ?_ _)); exact BK117.out⟩, ⟨by (with_reducible repeat (first | refine blk_drewN ?_ _ | refine blk_drew ?_ | refine blk_alloc ?_ _)); refine blk_put (cs := #[.int .i64 a0_3, .int .i64 a0_4, .int .i64 a0_5, .int .i64 a0_6, .int .i64 a0_7, .string (⟨#[]⟩ : ByteArray)]) ?_ 5 _ rfl; (with_reducible repeat (first | refine blk_drewN ?_ _ | refine blk_drew ?_ | refine blk_alloc ?_ _)); refine blk_put (cs := #[.int .i64 a0_3, .int .i64 a0_4, .int .i64 a0_5, .int .i64 a0_6, .int .i64 0, .string (⟨#[]⟩ : ByteArray)]) ?_ 4 _ rfl; (with_reducible repeat (first | refine blk_drewN ?_ _ | refine blk_drew ?_ | refine blk_alloc ?_ _)); refine blk_put (cs := #[.int .i64 a0_3, .int .i64 a0_4, .int .i64 a0_5, .int .i64 0, .int .i64 0, .string (⟨#[]⟩ : ByteArray)]) ?_ 3 _ rfl; (with_reducible repeat (first | refine blk_drewN ?_ _ | refine blk_drew ?_ | refine blk_alloc ?_ _)); refine blk_put (cs := #[.int .i64 a0_3, .int .i64 a0_4, .int .i64 0, .int .i64 0, .int .i64 0, .string (⟨#[]⟩ : ByteArray)]) ?_ 2 _ rfl; (with_reducible repeat (first | refine blk_drewN ?_ _ | refine blk_drew ?_ | refine blk_alloc ?_ _)); refine blk_put (cs := #[.int .i64 a0_3, .int .i64 0, .int .i64 0, .int .i64 0, .int .i64 0, .string (⟨#[]⟩ : ByteArray)]) ?_ 1 _ rfl; (with_reducible repeat (first | refine blk_drewN ?_ _ | refine blk_drew ?_ | refine blk_alloc ?_ _)); refine blk_put (cs := #[.int .i64 0, .int .i64 0, .int .i64 0, .int .i64 0, .int .i64 0, .string (⟨#[]⟩ : ByteArray)]) ?_ 0 _ rfl; (with_reducible repeat (first | refine blk_drewN ?_ _ | refine blk_drew ?_ | refine blk_alloc ?_ _)); exact BK118.out⟩, ⟨by repeat (first | (with_reducible first | exact HB.out | apply below_alloc | apply pw_below_drewN | apply below_drew1 | refine below_set ?_ GE117.out | refine below_set ?_ GE118.out) | exact HB.out)⟩⟩
   ·rw [if_neg c19] at H
    have c19b0 : decide (2147483647 < (ji18)) = false := decide_eq_false c19
    clear c19
    by_cases c23 : a0_3 > 9
    ·rw [if_pos c23] at H
     have c23b0 : decide (9 < a0_3) = true := decide_eq_true c23
     clear c23
     have H' := Aside0.mk H
     clear H
     have hnb24 := NB117_118.out
     have hnc24 := NB118_117.out
     have hcz25_0 : w5.cell? ⟨gb117, 0, none⟩ = some (.int .i64 a0_0) := (blk_cell BK117.out 0).trans rfl
     have hcz25_1 : w5.cell? ⟨gb117, 1, none⟩ = some (.int .i64 a0_1) := (blk_cell BK117.out 1).trans rfl
     have hcz25_2 : w5.cell? ⟨gb117, 2, none⟩ = some (.bool a0_2) := (blk_cell BK117.out 2).trans rfl
     have hcz25_3 : w5.cell? ⟨gb117, 3, none⟩ = some (.int .i64 a0_3) := (blk_cell BK117.out 3).trans rfl
     have hcz25_4 : w5.cell? ⟨gb117, 4, none⟩ = some (.int .i64 a0_4) := (blk_cell BK117.out 4).trans rfl
     have hcz25_5 : w5.cell? ⟨gb117, 5, none⟩ = some (.int .i64 a0_5) := (blk_cell BK117.out 5).trans rfl
     have hcz25_6 : w5.cell? ⟨gb117, 6, none⟩ = some (.int .i64 a0_6) := (blk_cell BK117.out 6).trans rfl
     have hcz25_7 : w5.cell? ⟨gb117, 7, none⟩ = some (.int .i64 a0_7) := (blk_cell BK117.out 7).trans rfl
     have hcz25_8 : w5.cell? ⟨gb117, 8, none⟩ = some (.string a0_8) := (blk_cell BK117.out 8).trans rfl
     have hfz25_0 := blk_frozen BK117.out 0
     have hfz25_1 := blk_frozen BK117.out 1
     have hfz25_2 := blk_frozen BK117.out 2
     have hfz25_3 := blk_frozen BK117.out 3
     have hfz25_4 := blk_frozen BK117.out 4
     have hfz25_5 := blk_frozen BK117.out 5
     have hfz25_6 := blk_frozen BK117.out 6
     have hfz25_7 := blk_frozen BK117.out 7
     have hfz25_8 := blk_frozen BK117.out 8
     have hcz26_0 : w5.cell? ⟨gb118, 0, none⟩ = some (.int .i64 0) := (blk_cell BK118.out 0).trans rfl
     have hcz26_1 : w5.cell? ⟨gb118, 1, none⟩ = some (.int .i64 0) := (blk_cell BK118.out 1).trans rfl
     have hcz26_2 : w5.cell? ⟨gb118, 2, none⟩ = some (.int .i64 0) := (blk_cell BK118.out 2).trans rfl
     have hcz26_3 : w5.cell? ⟨gb118, 3, none⟩ = some (.int .i64 0) := (blk_cell BK118.out 3).trans rfl
     have hcz26_4 : w5.cell? ⟨gb118, 4, none⟩ = some (.int .i64 0) := (blk_cell BK118.out 4).trans rfl
     have hcz26_5 : w5.cell? ⟨gb118, 5, none⟩ = some (.string (⟨#[]⟩ : ByteArray)) := (blk_cell BK118.out 5).trans rfl
     have hfz26_0 := blk_frozen BK118.out 0
     have hfz26_1 := blk_frozen BK118.out 1
     have hfz26_2 := blk_frozen BK118.out 2
     have hfz26_3 := blk_frozen BK118.out 3
     have hfz26_4 := blk_frozen BK118.out 4
     have hfz26_5 := blk_frozen BK118.out 5
     go_wp2
     go_meet
     case rel => exact ⟨_, (true), (by first | rfl | (simp; done) | (simp [*]; done)), H', ⟨by first | omega | exact Nat.le_refl _⟩, ⟨by (with_reducible repeat (first | refine blk_drewN ?_ _ | refine blk_drew ?_ | refine blk_alloc ?_ _)); refine blk_far ?_ NB117_118.out _; (with_reducible repeat (first | refine blk_drewN ?_ _ | refine blk_drew ?_ | refine blk_alloc ?_ _)); refine blk_far ?_ NB117_118.out _; (with_reducible repeat (first | refine blk_drewN ?_ _ | refine blk_drew ?_ | refine blk_alloc ?_ _)); refine blk_far ?_ NB117_118.out _; (with_reducible repeat (first | refine blk_drewN ?_ _ | refine blk_drew ?_ | refine blk_alloc ?_ _)); refine blk_far ?_ NB117_118.out _; (with_reducible repeat (first | refine blk_drewN ?_ _ | refine blk_drew ?_ | refine blk_alloc ?_ _)); refine blk_far ?_ NB117_118.out _; (with_reducible repeat (first | refine blk_drewN ?_ _ | refine blk_drew ?_ | refine blk_alloc ?_ _)); refine blk_far ?_ NB117_118.out _; (with_reducible repeat (first | refine blk_drewN ?_ _ | refine blk_drew ?_ | refine blk_alloc ?_ _)); exact BK117.out⟩, ⟨by (with_reducible repeat (first | refine blk_drewN ?_ _ | refine blk_drew ?_ | refine blk_alloc ?_ _)); refine blk_put (cs := #[.int .i64 a0_3, .int .i64 a0_4, .int .i64 a0_5, .int .i64 a0_6, .int .i64 a0_7, .string (⟨#[]⟩ : ByteArray)]) ?_ 5 _ rfl; (with_reducible repeat (first | refine blk_drewN ?_ _ | refine blk_drew ?_ | refine blk_alloc ?_ _)); refine blk_put (cs := #[.int .i64 a0_3, .int .i64 a0_4, .int .i64 a0_5, .int .i64 a0_6, .int .i64 0, .string (⟨#[]⟩ : ByteArray)]) ?_ 4 _ rfl; (with_reducible repeat (first | refine blk_drewN ?_ _ | refine blk_drew ?_ | refine blk_alloc ?_ _)); refine blk_put (cs := #[.int .i64 a0_3, .int .i64 a0_4, .int .i64 a0_5, .int .i64 0, .int .i64 0, .string (⟨#[]⟩ : ByteArray)]) ?_ 3 _ rfl; (with_reducible repeat (first | refine blk_drewN ?_ _ | refine blk_drew ?_ | refine blk_alloc ?_ _)); refine blk_put (cs := #[.int .i64 a0_3, .int .i64 a0_4, .int .i64 0, .int .i64 0, .int .i64 0, .string (⟨#[]⟩ : ByteArray)]) ?_ 2 _ rfl; (with_reducible repeat (first | refine blk_drewN ?_ _ | refine blk_drew ?_ | refine blk_alloc ?_ _)); refine blk_put (cs := #[.int .i64 a0_3, .int .i64 0, .int .i64 0, .int .i64 0, .int .i64 0, .string (⟨#[]⟩ : ByteArray)]) ?_ 1 _ rfl; (with_reducible repeat (first | refine blk_drewN ?_ _ | refine blk_drew ?_ | refine blk_alloc ?_ _)); refine blk_put (cs := #[.int .i64 0, .int .i64 0, .int .i64 0, .int .i64 0, .int .i64 0, .string (⟨#[]⟩ : ByteArray)]) ?_ 0 _ rfl; (with_reducible repeat (first | refine blk_drewN ?_ _ | refine blk_drew ?_ | refine blk_alloc ?_ _)); exact BK118.out⟩, ⟨by repeat (first | (with_reducible first | exact HB.out | apply below_alloc | apply pw_below_drewN | apply below_drew1 | refine below_set ?_ GE117.out | refine below_set ?_ GE118.out) | exact HB.out)⟩⟩
    ·rw [if_neg c23] at H
     have c23b0 : decide (9 < a0_3) = false := decide_eq_false c23
     clear c23
     obtain ⟨ji27, hji27⟩ : ∃ j_ : Int, (mx a0_4 a0_5) = j_ := ⟨_, rfl⟩
     replace H : (line_Encode.j0 k (decide ((mx (mx (ji27) a0_6) a0_7) > 1099511627776)) a0_0 a0_1 a0_2 a0_3 a0_4 a0_5 a0_6 a0_7 a0_8 a0_3 a0_4 a0_5 a0_6 a0_7 a0_8) = some (r1, r2) := by first | (rw [hji27] at H; exact H) | (simp only [hji27] at H ⊢; exact H)
     have hji27_ : (if a0_4 < a0_5 then a0_5 else a0_4) = ji27 := hji27
     obtain ⟨ji28, hji28⟩ : ∃ j_ : Int, (mx (ji27) a0_6) = j_ := ⟨_, rfl⟩
     replace H : (line_Encode.j0 k (decide ((mx (ji28) a0_7) > 1099511627776)) a0_0 a0_1 a0_2 a0_3 a0_4 a0_5 a0_6 a0_7 a0_8 a0_3 a0_4 a0_5 a0_6 a0_7 a0_8) = some (r1, r2) := by first | (rw [hji28] at H; exact H) | (simp only [hji28] at H ⊢; exact H)
     have hji28_ : (if (ji27) < a0_6 then a0_6 else (ji27)) = ji28 := hji28
     obtain ⟨ji29, hji29⟩ : ∃ j_ : Int, (mx (ji28) a0_7) = j_ := ⟨_, rfl⟩
     replace H : (line_Encode.j0 k (decide ((ji29) > 1099511627776)) a0_0 a0_1 a0_2 a0_3 a0_4 a0_5 a0_6 a0_7 a0_8 a0_3 a0_4 a0_5 a0_6 a0_7 a0_8) = some (r1, r2) := by first | (rw [hji29] at H; exact H) | (simp only [hji29] at H ⊢; exact H)
     have hji29_ : (if (ji28) < a0_7 then a0_7 else (ji28)) = ji29 := hji29
     have H' := Aside0.mk H
     clear H
     have hnb30 := NB117_118.out
     have hnc30 := NB118_117.out
     have hcz31_0 : w5.cell? ⟨gb117, 0, none⟩ = some (.int .i64 a0_0) := (blk_cell BK117.out 0).trans rfl
     have hcz31_1 : w5.cell? ⟨gb117, 1, none⟩ = some (.int .i64 a0_1) := (blk_cell BK117.out 1).trans rfl
     have hcz31_2 : w5.cell? ⟨gb117, 2, none⟩ = some (.bool a0_2) := (blk_cell BK117.out 2).trans rfl
     have hcz31_3 : w5.cell? ⟨gb117, 3, none⟩ = some (.int .i64 a0_3) := (blk_cell BK117.out 3).trans rfl
     have hcz31_4 : w5.cell? ⟨gb117, 4, none⟩ = some (.int .i64 a0_4) := (blk_cell BK117.out 4).trans rfl
     have hcz31_5 : w5.cell? ⟨gb117, 5, none⟩ = some (.int .i64 a0_5) := (blk_cell BK117.out 5).trans rfl
     have hcz31_6 : w5.cell? ⟨gb117, 6, none⟩ = some (.int .i64 a0_6) := (blk_cell BK117.out 6).trans rfl
     have hcz31_7 : w5.cell? ⟨gb117, 7, none⟩ = some (.int .i64 a0_7) := (blk_cell BK117.out 7).trans rfl
     have hcz31_8 : w5.cell? ⟨gb117, 8, none⟩ = some (.string a0_8) := (blk_cell BK117.out 8).trans rfl
     have hfz31_0 := blk_frozen BK117.out 0
     have hfz31_1 := blk_frozen BK117.out 1
     have hfz31_2 := blk_frozen BK117.out 2
     have hfz31_3 := blk_frozen BK117.out 3
     have hfz31_4 := blk_frozen BK117.out 4
     have hfz31_5 := blk_frozen BK117.out 5
     have hfz31_6 := blk_frozen BK117.out 6
     have hfz31_7 := blk_frozen BK117.out 7
     have hfz31_8 := blk_frozen BK117.out 8
     have hcz32_0 : w5.cell? ⟨gb118, 0, none⟩ = some (.int .i64 0) := (blk_cell BK118.out 0).trans rfl
     have hcz32_1 : w5.cell? ⟨gb118, 1, none⟩ = some (.int .i64 0) := (blk_cell BK118.out 1).trans rfl
     have hcz32_2 : w5.cell? ⟨gb118, 2, none⟩ = some (.int .i64 0) := (blk_cell BK118.out 2).trans rfl
     have hcz32_3 : w5.cell? ⟨gb118, 3, none⟩ = some (.int .i64 0) := (blk_cell BK118.out 3).trans rfl
     have hcz32_4 : w5.cell? ⟨gb118, 4, none⟩ = some (.int .i64 0) := (blk_cell BK118.out 4).trans rfl
     have hcz32_5 : w5.cell? ⟨gb118, 5, none⟩ = some (.string (⟨#[]⟩ : ByteArray)) := (blk_cell BK118.out 5).trans rfl
     have hfz32_0 := blk_frozen BK118.out 0
     have hfz32_1 := blk_frozen BK118.out 1
     have hfz32_2 := blk_frozen BK118.out 2
     have hfz32_3 := blk_frozen BK118.out 3
     have hfz32_4 := blk_frozen BK118.out 4
     have hfz32_5 := blk_frozen BK118.out 5
     go_wp2
     go_meet
     case rel => exact ⟨_, (decide ((ji29) > 1099511627776)), (by first | rfl | (simp; done) | (simp only [← hji29] <;> (first | rfl | simp)) | (simp [*]; done)), H', ⟨by first | omega | exact Nat.le_refl _⟩, ⟨by (with_reducible repeat (first | refine blk_drewN ?_ _ | refine blk_drew ?_ | refine blk_alloc ?_ _)); refine blk_far ?_ NB117_118.out _; (with_reducible repeat (first | refine blk_drewN ?_ _ | refine blk_drew ?_ | refine blk_alloc ?_ _)); refine blk_far ?_ NB117_118.out _; (with_reducible repeat (first | refine blk_drewN ?_ _ | refine blk_drew ?_ | refine blk_alloc ?_ _)); refine blk_far ?_ NB117_118.out _; (with_reducible repeat (first | refine blk_drewN ?_ _ | refine blk_drew ?_ | refine blk_alloc ?_ _)); refine blk_far ?_ NB117_118.out _; (with_reducible repeat (first | refine blk_drewN ?_ _ | refine blk_drew ?_ | refine blk_alloc ?_ _)); refine blk_far ?_ NB117_118.out _; (with_reducible repeat (first | refine blk_drewN ?_ _ | refine blk_drew ?_ | refine blk_alloc ?_ _)); refine blk_far ?_ NB117_118.out _; (with_reducible repeat (first | refine blk_drewN ?_ _ | refine blk_drew ?_ | refine blk_alloc ?_ _)); exact BK117.out⟩, ⟨by (with_reducible repeat (first | refine blk_drewN ?_ _ | refine blk_drew ?_ | refine blk_alloc ?_ _)); refine blk_put (cs := #[.int .i64 a0_3, .int .i64 a0_4, .int .i64 a0_5, .int .i64 a0_6, .int .i64 a0_7, .string (⟨#[]⟩ : ByteArray)]) ?_ 5 _ rfl; (with_reducible repeat (first | refine blk_drewN ?_ _ | refine blk_drew ?_ | refine blk_alloc ?_ _)); refine blk_put (cs := #[.int .i64 a0_3, .int .i64 a0_4, .int .i64 a0_5, .int .i64 a0_6, .int .i64 0, .string (⟨#[]⟩ : ByteArray)]) ?_ 4 _ rfl; (with_reducible repeat (first | refine blk_drewN ?_ _ | refine blk_drew ?_ | refine blk_alloc ?_ _)); refine blk_put (cs := #[.int .i64 a0_3, .int .i64 a0_4, .int .i64 a0_5, .int .i64 0, .int .i64 0, .string (⟨#[]⟩ : ByteArray)]) ?_ 3 _ rfl; (with_reducible repeat (first | refine blk_drewN ?_ _ | refine blk_drew ?_ | refine blk_alloc ?_ _)); refine blk_put (cs := #[.int .i64 a0_3, .int .i64 a0_4, .int .i64 0, .int .i64 0, .int .i64 0, .string (⟨#[]⟩ : ByteArray)]) ?_ 2 _ rfl; (with_reducible repeat (first | refine blk_drewN ?_ _ | refine blk_drew ?_ | refine blk_alloc ?_ _)); refine blk_put (cs := #[.int .i64 a0_3, .int .i64 0, .int .i64 0, .int .i64 0, .int .i64 0, .string (⟨#[]⟩ : ByteArray)]) ?_ 1 _ rfl; (with_reducible repeat (first | refine blk_drewN ?_ _ | refine blk_drew ?_ | refine blk_alloc ?_ _)); refine blk_put (cs := #[.int .i64 0, .int .i64 0, .int .i64 0, .int .i64 0, .int .i64 0, .string (⟨#[]⟩ : ByteArray)]) ?_ 0 _ rfl; (with_reducible repeat (first | refine blk_drewN ?_ _ | refine blk_drew ?_ | refine blk_alloc ?_ _)); exact BK118.out⟩, ⟨by repeat (first | (with_reducible first | exact HB.out | apply below_alloc | apply pw_below_drewN | apply below_drew1 | refine below_set ?_ GE117.out | refine below_set ?_ GE118.out) | exact HB.out)⟩⟩
 case rest =>
  clear HC2
  try clear c1
  try clear c2
  try clear p2
  try clear c3
  try clear c6
  try clear c10
  try clear c14
  try clear c14b0
  try clear c14b1
  try clear c15
  try clear c19
  try clear c19b0
  try clear c20
  try clear c23
  try clear c23b0
  try clear c24
  try clear c30
  try clear hcz16_0
  try clear hcz16_1
  try clear hcz16_2
  try clear hcz16_3
  try clear hcz16_4
  try clear hcz16_5
  try clear hcz16_6
  try clear hcz16_7
  try clear hcz16_8
  try clear hcz17_0
  try clear hcz17_1
  try clear hcz17_2
  try clear hcz17_3
  try clear hcz17_4
  try clear hcz17_5
  try clear hcz21_0
  try clear hcz21_1
  try clear hcz21_2
  try clear hcz21_3
  try clear hcz21_4
  try clear hcz21_5
  try clear hcz21_6
  try clear hcz21_7
  try clear hcz21_8
  try clear hcz22_0
  try clear hcz22_1
  try clear hcz22_2
  try clear hcz22_3
  try clear hcz22_4
  try clear hcz22_5
  try clear hcz25_0
  try clear hcz25_1
  try clear hcz25_2
  try clear hcz25_3
  try clear hcz25_4
  try clear hcz25_5
  try clear hcz25_6
  try clear hcz25_7
  try clear hcz25_8
  try clear hcz26_0
  try clear hcz26_1
  try clear hcz26_2
  try clear hcz26_3
  try clear hcz26_4
  try clear hcz26_5
  try clear hcz31_0
  try clear hcz31_1
  try clear hcz31_2
  try clear hcz31_3
  try clear hcz31_4
  try clear hcz31_5
  try clear hcz31_6
  try clear hcz31_7
  try clear hcz31_8
  try clear hcz32_0
  try clear hcz32_1
  try clear hcz32_2
  try clear hcz32_3
  try clear hcz32_4
  try clear hcz32_5
  try clear hcz4_0
  try clear hcz4_1
  try clear hcz4_2
  try clear hcz4_3
  try clear hcz4_4
  try clear hcz4_5
  try clear hcz4_6
  try clear hcz4_7
  try clear hcz4_8
  try clear hcz7_0
  try clear hcz7_1
  try clear hcz7_2
  try clear hcz7_3
  try clear hcz7_4
  try clear hcz7_5
  try clear hfz16_0
  try clear hfz16_1
  try clear hfz16_2
  try clear hfz16_3
  try clear hfz16_4
  try clear hfz16_5
  try clear hfz16_6
  try clear hfz16_7
  try clear hfz16_8
  try clear hfz17_0
  try clear hfz17_1
  try clear hfz17_2
  try clear hfz17_3
  try clear hfz17_4
  try clear hfz17_5
  try clear hfz21_0
  try clear hfz21_1
  try clear hfz21_2
  try clear hfz21_3
  try clear hfz21_4
  try clear hfz21_5
  try clear hfz21_6
  try clear hfz21_7
  try clear hfz21_8
  try clear hfz22_0
  try clear hfz22_1
  try clear hfz22_2
  try clear hfz22_3
  try clear hfz22_4
  try clear hfz22_5
  try clear hfz25_0
  try clear hfz25_1
  try clear hfz25_2
  try clear hfz25_3
  try clear hfz25_4
  try clear hfz25_5
  try clear hfz25_6
  try clear hfz25_7
  try clear hfz25_8
  try clear hfz26_0
  try clear hfz26_1
  try clear hfz26_2
  try clear hfz26_3
  try clear hfz26_4
  try clear hfz26_5
  try clear hfz31_0
  try clear hfz31_1
  try clear hfz31_2
  try clear hfz31_3
  try clear hfz31_4
  try clear hfz31_5
  try clear hfz31_6
  try clear hfz31_7
  try clear hfz31_8
  try clear hfz32_0
  try clear hfz32_1
  try clear hfz32_2
  try clear hfz32_3
  try clear hfz32_4
  try clear hfz32_5
  try clear hfz4_0
  try clear hfz4_1
  try clear hfz4_2
  try clear hfz4_3
  try clear hfz4_4
  try clear hfz4_5
  try clear hfz4_6
  try clear hfz4_7
  try clear hfz4_8
  try clear hfz7_0
  try clear hfz7_1
  try clear hfz7_2
  try clear hfz7_3
  try clear hfz7_4
  try clear hfz7_5
  obtain ⟨kq, x49_1, rfl, HA, HJ1, BK117, BK118, HB⟩ := hcut
  cases kq with
  | zero => exact absurd HA.out (by simp [line_Encode.j0])
  | succ kj1 =>
   have H := HA.out
   clear HA
   simp only [line_Encode.j0] at H
   by_cases c33 : x49_1 = true
   ·subst c33
    have H1 : (some (([] : List Int), 7)) = some (r1, r2) := by rw [if_pos rfl] at H; exact H
    clear H
    have H := H1
    clear H1
    simp only [Option.some.injEq, Prod.mk.injEq] at H
    obtain ⟨rfl, rfl⟩ := H
    go_wp2
    go_ret2
    exact ⟨_, by first | rfl | (simp [errW_none, errW_some] <;> rfl) | (simp [*, errW_none, errW_some] <;> rfl), by first | exact Kd.R_nil _ _ _ _ _ | exact Kd.N_nil _ _ _ _ _ | exact Kd.V_nil _ _ _ _ _ | exact Kd.Q_nil _ _ _ _ _ | exact Kd.S_nil _ _ _ _ _, by repeat (first | (with_reducible first | exact HB.out | apply below_alloc | apply pw_below_drewN | apply below_drew1 | refine below_set ?_ GE117.out | refine below_set ?_ GE118.out) | exact HB.out)⟩
   ·replace c33 := Bool.eq_false_iff.mpr c33
    subst c33
    have H1 : (if (a0_8.size : Int) = 0 then (line_Encode.j1 kj1 false a0_0 a0_1 a0_2 a0_3 a0_4 a0_5 a0_6 a0_7 a0_8 a0_3 a0_4 a0_5 a0_6 a0_7 a0_8) else (line_Encode.j1 kj1 ((a0_8.size : Int) != 16) a0_0 a0_1 a0_2 a0_3 a0_4 a0_5 a0_6 a0_7 a0_8 a0_3 a0_4 a0_5 a0_6 a0_7 a0_8)) = some (r1, r2) := by rw [if_neg (show ¬ (false = true) by decide)] at H; exact H
    clear H
    have H := H1
    clear H1
    have HC34 := Aside0.mk H
    clear H
    go_upto_region 4 with (fail)
    go_cut [59] (fun v59 wc => ∃ (kq : Nat) (x59_33 : Bool), v59 = .bool x59_33 ∧ Aside0 (line_Encode.j1 kq x59_33 a0_0 a0_1 a0_2 a0_3 a0_4 a0_5 a0_6 a0_7 a0_8 a0_3 a0_4 a0_5 a0_6 a0_7 a0_8 = some (r1, r2)) ∧ Aside0 (kq ≤ kj1) ∧ Aside0 (wc.heap[gb117]? = some (.cells #[.int .i64 a0_0, .int .i64 a0_1, .bool a0_2, .int .i64 a0_3, .int .i64 a0_4, .int .i64 a0_5, .int .i64 a0_6, .int .i64 a0_7, .string a0_8] 25 (0, 0))) ∧ Aside0 (wc.heap[gb118]? = some (.cells #[.int .i64 a0_3, .int .i64 a0_4, .int .i64 a0_5, .int .i64 a0_6, .int .i64 a0_7, .string a0_8] 23 (0, 0))) ∧ Aside0 (Below w.heap.size w wc))
    case first =>
     have H := HC34.out
     clear HC34
     by_cases c35 : (a0_8.size : Int) = 0
     ·rw [if_pos c35] at H
      have c35b0 : ((a0_8.size : Int) == 0) = true := beq_iff_eq.mpr c35
      have c35b1 : ((a0_8.size : Int) != 0) = false := bne_eq_false_iff_eq.mpr c35
      clear c35
      (first | rw [c35b0] | (simp only [i64_w, i32_w]; rw [c35b0]) | rw [c35b1] | skip)
      have H' := Aside0.mk H
      clear H
      have hnb36 := NB118_117.out
      have hnc36 := NB117_118.out
      have hcz37_0 : wc.cell? ⟨gb118, 0, none⟩ = some (.int .i64 a0_3) := (blk_cell BK118.out 0).trans rfl
      have hcz37_1 : wc.cell? ⟨gb118, 1, none⟩ = some (.int .i64 a0_4) := (blk_cell BK118.out 1).trans rfl
      have hcz37_2 : wc.cell? ⟨gb118, 2, none⟩ = some (.int .i64 a0_5) := (blk_cell BK118.out 2).trans rfl
      have hcz37_3 : wc.cell? ⟨gb118, 3, none⟩ = some (.int .i64 a0_6) := (blk_cell BK118.out 3).trans rfl
      have hcz37_4 : wc.cell? ⟨gb118, 4, none⟩ = some (.int .i64 a0_7) := (blk_cell BK118.out 4).trans rfl
      have hcz37_5 : wc.cell? ⟨gb118, 5, none⟩ = some (.string a0_8) := (blk_cell BK118.out 5).trans rfl
      have hfz37_0 := blk_frozen BK118.out 0
      have hfz37_1 := blk_frozen BK118.out 1
      have hfz37_2 := blk_frozen BK118.out 2
      have hfz37_3 := blk_frozen BK118.out 3
      have hfz37_4 := blk_frozen BK118.out 4
      have hfz37_5 := blk_frozen BK118.out 5
      go_wp2
      go_meet
      case rel => exact ⟨_, (false), (by first | rfl | (simp; done) | (simp [*]; done)), H', ⟨by have := HJ1.out; first | omega | exact Nat.le_refl _⟩, ⟨by (with_reducible repeat (first | refine blk_drewN ?_ _ | refine blk_drew ?_ | refine blk_alloc ?_ _)); exact BK117.out⟩, ⟨by (with_reducible repeat (first | refine blk_drewN ?_ _ | refine blk_drew ?_ | refine blk_alloc ?_ _)); exact BK118.out⟩, ⟨by repeat (first | (with_reducible first | exact HB.out | apply below_alloc | apply pw_below_drewN | apply below_drew1 | refine below_set ?_ GE117.out | refine below_set ?_ GE118.out) | exact HB.out)⟩⟩
     ·rw [if_neg c35] at H
      have c35b0 : ((a0_8.size : Int) == 0) = false := beq_eq_false_iff_ne.mpr c35
      have c35b1 : ((a0_8.size : Int) != 0) = true := bne_iff_ne.mpr c35
      (first | rw [c35b0] | (simp only [i64_w, i32_w]; rw [c35b0]) | rw [c35b1] | skip)
      have H' := Aside0.mk H
      clear H
      have hnb38 := NB118_117.out
      have hnc38 := NB117_118.out
      have hcz39_0 : wc.cell? ⟨gb118, 0, none⟩ = some (.int .i64 a0_3) := (blk_cell BK118.out 0).trans rfl
      have hcz39_1 : wc.cell? ⟨gb118, 1, none⟩ = some (.int .i64 a0_4) := (blk_cell BK118.out 1).trans rfl
      have hcz39_2 : wc.cell? ⟨gb118, 2, none⟩ = some (.int .i64 a0_5) := (blk_cell BK118.out 2).trans rfl
      have hcz39_3 : wc.cell? ⟨gb118, 3, none⟩ = some (.int .i64 a0_6) := (blk_cell BK118.out 3).trans rfl
      have hcz39_4 : wc.cell? ⟨gb118, 4, none⟩ = some (.int .i64 a0_7) := (blk_cell BK118.out 4).trans rfl
      have hcz39_5 : wc.cell? ⟨gb118, 5, none⟩ = some (.string a0_8) := (blk_cell BK118.out 5).trans rfl
      have hfz39_0 := blk_frozen BK118.out 0
      have hfz39_1 := blk_frozen BK118.out 1
      have hfz39_2 := blk_frozen BK118.out 2
      have hfz39_3 := blk_frozen BK118.out 3
      have hfz39_4 := blk_frozen BK118.out 4
      have hfz39_5 := blk_frozen BK118.out 5
      go_wp2
      go_meet
      case rel => exact ⟨_, (((a0_8.size : Int) != 16)), (by first | rfl | (simp; done) | (simp [*]; done)), H', ⟨by have := HJ1.out; first | omega | exact Nat.le_refl _⟩, ⟨by (with_reducible repeat (first | refine blk_drewN ?_ _ | refine blk_drew ?_ | refine blk_alloc ?_ _)); exact BK117.out⟩, ⟨by (with_reducible repeat (first | refine blk_drewN ?_ _ | refine blk_drew ?_ | refine blk_alloc ?_ _)); exact BK118.out⟩, ⟨by repeat (first | (with_reducible first | exact HB.out | apply below_alloc | apply pw_below_drewN | apply below_drew1 | refine below_set ?_ GE117.out | refine below_set ?_ GE118.out) | exact HB.out)⟩⟩
    case rest =>
     clear HC34
     try clear c1
     try clear c2
     try clear p2
     try clear c3
     try clear c6
     try clear c10
     try clear c14
     try clear c14b0
     try clear c14b1
     try clear c15
     try clear c19
     try clear c19b0
     try clear c20
     try clear c23
     try clear c23b0
     try clear c24
     try clear c30
     try clear c33
     try clear c35
     try clear c35b0
     try clear c35b1
     try clear c36
     try clear c38
     try clear hcz16_0
     try clear hcz16_1
     try clear hcz16_2
     try clear hcz16_3
     try clear hcz16_4
     try clear hcz16_5
     try clear hcz16_6
     try clear hcz16_7
     try clear hcz16_8
     try clear hcz17_0
     try clear hcz17_1
     try clear hcz17_2
     try clear hcz17_3
     try clear hcz17_4
     try clear hcz17_5
     try clear hcz21_0
     try clear hcz21_1
     try clear hcz21_2
     try clear hcz21_3
     try clear hcz21_4
     try clear hcz21_5
     try clear hcz21_6
     try clear hcz21_7
     try clear hcz21_8
     try clear hcz22_0
     try clear hcz22_1
     try clear hcz22_2
     try clear hcz22_3
     try clear hcz22_4
     try clear hcz22_5
     try clear hcz25_0
     try clear hcz25_1
     try clear hcz25_2
     try clear hcz25_3
     try clear hcz25_4
     try clear hcz25_5
     try clear hcz25_6
     try clear hcz25_7
     try clear hcz25_8
     try clear hcz26_0
     try clear hcz26_1
     try clear hcz26_2
     try clear hcz26_3
     try clear hcz26_4
     try clear hcz26_5
     try clear hcz31_0
     try clear hcz31_1
     try clear hcz31_2
     try clear hcz31_3
     try clear hcz31_4
     try clear hcz31_5
     try clear hcz31_6
     try clear hcz31_7
     try clear hcz31_8
     try clear hcz32_0
     try clear hcz32_1
     try clear hcz32_2
     try clear hcz32_3
     try clear hcz32_4
     try clear hcz32_5
     try clear hcz37_0
     try clear hcz37_1
     try clear hcz37_2
     try clear hcz37_3
     try clear hcz37_4
     try clear hcz37_5
     try clear hcz39_0
     try clear hcz39_1
     try clear hcz39_2
     try clear hcz39_3
     try clear hcz39_4
     try clear hcz39_5
     try clear hcz4_0
     try clear hcz4_1
     try clear hcz4_2
     try clear hcz4_3
     try clear hcz4_4
     try clear hcz4_5
     try clear hcz4_6
     try clear hcz4_7
     try clear hcz4_8
     try clear hcz7_0
     try clear hcz7_1
     try clear hcz7_2
     try clear hcz7_3
     try clear hcz7_4
     try clear hcz7_5
     try clear hfz16_0
     try clear hfz16_1
     try clear hfz16_2
     try clear hfz16_3
     try clear hfz16_4
     try clear hfz16_5
     try clear hfz16_6
     try clear hfz16_7
     try clear hfz16_8
     try clear hfz17_0
     try clear hfz17_1
     try clear hfz17_2
     try clear hfz17_3
     try clear hfz17_4
     try clear hfz17_5
     try clear hfz21_0
     try clear hfz21_1
     try clear hfz21_2
     try clear hfz21_3
     try clear hfz21_4
     try clear hfz21_5
     try clear hfz21_6
     try clear hfz21_7
     try clear hfz21_8
     try clear hfz22_0
     try clear hfz22_1
     try clear hfz22_2
     try clear hfz22_3
     try clear hfz22_4
     try clear hfz22_5
     try clear hfz25_0
     try clear hfz25_1
     try clear hfz25_2
     try clear hfz25_3
     try clear hfz25_4
     try clear hfz25_5
     try clear hfz25_6
     try clear hfz25_7
     try clear hfz25_8
     try clear hfz26_0
     try clear hfz26_1
     try clear hfz26_2
     try clear hfz26_3
     try clear hfz26_4
     try clear hfz26_5
     try clear hfz31_0
     try clear hfz31_1
     try clear hfz31_2
     try clear hfz31_3
     try clear hfz31_4
     try clear hfz31_5
     try clear hfz31_6
     try clear hfz31_7
     try clear hfz31_8
     try clear hfz32_0
     try clear hfz32_1
     try clear hfz32_2
     try clear hfz32_3
     try clear hfz32_4
     try clear hfz32_5
     try clear hfz37_0
     try clear hfz37_1
     try clear hfz37_2
     try clear hfz37_3
     try clear hfz37_4
     try clear hfz37_5
     try clear hfz39_0
     try clear hfz39_1
     try clear hfz39_2
     try clear hfz39_3
     try clear hfz39_4
     try clear hfz39_5
     try clear hfz4_0
     try clear hfz4_1
     try clear hfz4_2
     try clear hfz4_3
     try clear hfz4_4
     try clear hfz4_5
     try clear hfz4_6
     try clear hfz4_7
     try clear hfz4_8
     try clear hfz7_0
     try clear hfz7_1
     try clear hfz7_2
     try clear hfz7_3
     try clear hfz7_4
     try clear hfz7_5
     try clear p2
     obtain ⟨kq, x59_33, rfl, HA, HJ33, BK117, BK118, HB⟩ := hcut
     cases kq with
     | zero => exact absurd HA.out (by simp [line_Encode.j1])
     | succ kj33 =>
      have H := HA.out
      clear HA
      simp only [line_Encode.j1] at H
      by_cases c40 : x59_33 = true
      ·subst c40
       have H1 : (some (([] : List Int), 1)) = some (r1, r2) := by rw [if_pos rfl] at H; exact H
       clear H
       have H := H1
       clear H1
       simp only [Option.some.injEq, Prod.mk.injEq] at H
       obtain ⟨rfl, rfl⟩ := H
       go_wp2
       go_ret2
       exact ⟨_, by first | rfl | (simp [errW_none, errW_some] <;> rfl) | (simp [*, errW_none, errW_some] <;> rfl), by first | exact Kd.R_nil _ _ _ _ _ | exact Kd.N_nil _ _ _ _ _ | exact Kd.V_nil _ _ _ _ _ | exact Kd.Q_nil _ _ _ _ _ | exact Kd.S_nil _ _ _ _ _, by repeat (first | (with_reducible first | exact HB.out | apply below_alloc | apply pw_below_drewN | apply below_drew1 | refine below_set ?_ GE117.out | refine below_set ?_ GE118.out) | exact HB.out)⟩
      ·replace c40 := Bool.eq_false_iff.mpr c40
       subst c40
       have H1 : (if a0_2 = true then (line_Encode.j2 kj33 1 a0_0 a0_1 a0_2 a0_3 a0_4 a0_5 a0_6 a0_7 a0_8 a0_3 a0_4 a0_5 a0_6 a0_7 a0_8) else (line_Encode.j2 kj33 0 a0_0 a0_1 a0_2 a0_3 a0_4 a0_5 a0_6 a0_7 a0_8 a0_3 a0_4 a0_5 a0_6 a0_7 a0_8)) = some (r1, r2) := by rw [if_neg (show ¬ (false = true) by decide)] at H; exact H
       clear H
       have H := H1
       clear H1
       have HC41 := Aside0.mk H
       clear H
       have hnb42 := NB117_118.out
       have hnc42 := NB118_117.out
       have hcz43_0 : wc.cell? ⟨gb117, 0, none⟩ = some (.int .i64 a0_0) := (blk_cell BK117.out 0).trans rfl
       have hcz43_1 : wc.cell? ⟨gb117, 1, none⟩ = some (.int .i64 a0_1) := (blk_cell BK117.out 1).trans rfl
       have hcz43_2 : wc.cell? ⟨gb117, 2, none⟩ = some (.bool a0_2) := (blk_cell BK117.out 2).trans rfl
       have hcz43_3 : wc.cell? ⟨gb117, 3, none⟩ = some (.int .i64 a0_3) := (blk_cell BK117.out 3).trans rfl
       have hcz43_4 : wc.cell? ⟨gb117, 4, none⟩ = some (.int .i64 a0_4) := (blk_cell BK117.out 4).trans rfl
       have hcz43_5 : wc.cell? ⟨gb117, 5, none⟩ = some (.int .i64 a0_5) := (blk_cell BK117.out 5).trans rfl
       have hcz43_6 : wc.cell? ⟨gb117, 6, none⟩ = some (.int .i64 a0_6) := (blk_cell BK117.out 6).trans rfl
       have hcz43_7 : wc.cell? ⟨gb117, 7, none⟩ = some (.int .i64 a0_7) := (blk_cell BK117.out 7).trans rfl
       have hcz43_8 : wc.cell? ⟨gb117, 8, none⟩ = some (.string a0_8) := (blk_cell BK117.out 8).trans rfl
       have hfz43_0 := blk_frozen BK117.out 0
       have hfz43_1 := blk_frozen BK117.out 1
       have hfz43_2 := blk_frozen BK117.out 2
       have hfz43_3 := blk_frozen BK117.out 3
       have hfz43_4 := blk_frozen BK117.out 4
       have hfz43_5 := blk_frozen BK117.out 5
       have hfz43_6 := blk_frozen BK117.out 6
       have hfz43_7 := blk_frozen BK117.out 7
       have hfz43_8 := blk_frozen BK117.out 8
       go_upto_if 61 with (fail)
       go_cut [5] (fun v5 wc => ∃ (kq : Nat) (x5_40 : Int), v5 = .int .u64 x5_40 ∧ Aside0 (line_Encode.j2 kq x5_40 a0_0 a0_1 a0_2 a0_3 a0_4 a0_5 a0_6 a0_7 a0_8 a0_3 a0_4 a0_5 a0_6 a0_7 a0_8 = some (r1, r2)) ∧ Aside0 (kq ≤ kj33) ∧ Aside0 (wc.heap[gb117]? = some (.cells #[.int .i64 a0_0, .int .i64 a0_1, .bool a0_2, .int .i64 a0_3, .int .i64 a0_4, .int .i64 a0_5, .int .i64 a0_6, .int .i64 a0_7, .string a0_8] 25 (0, 0))) ∧ Aside0 (wc.heap[gb118]? = some (.cells #[.int .i64 a0_3, .int .i64 a0_4, .int .i64 a0_5, .int .i64 a0_6, .int .i64 a0_7, .string a0_8] 23 (0, 0))) ∧ Aside0 (Below w.heap.size w wc))
       case first =>
        have H := HC41.out
        clear HC41
        by_cases c44 : a0_2 = true
        ·subst c44
         have H1 : (line_Encode.j2 kj33 1 a0_0 a0_1 true a0_3 a0_4 a0_5 a0_6 a0_7 a0_8 a0_3 a0_4 a0_5 a0_6 a0_7 a0_8) = some (r1, r2) := by rw [if_pos rfl] at H; exact H
         clear H
         have H := H1
         clear H1
         have H' := Aside0.mk H
         clear H
         go_wp2
         go_meet
         case rel => exact ⟨_, (1), (by first | rfl | (simp; done) | (simp [*]; done)), H', ⟨by have := HJ1.out; have := HJ33.out; first | omega | exact Nat.le_refl _⟩, ⟨by (with_reducible repeat (first | refine blk_drewN ?_ _ | refine blk_drew ?_ | refine blk_alloc ?_ _)); exact BK117.out⟩, ⟨by (with_reducible repeat (first | refine blk_drewN ?_ _ | refine blk_drew ?_ | refine blk_alloc ?_ _)); exact BK118.out⟩, ⟨by repeat (first | (with_reducible first | exact HB.out | apply below_alloc | apply pw_below_drewN | apply below_drew1 | refine below_set ?_ GE117.out | refine below_set ?_ GE118.out) | exact HB.out)⟩⟩
        ·replace c44 := Bool.eq_false_iff.mpr c44
         subst c44
         have H1 : (line_Encode.j2 kj33 0 a0_0 a0_1 false a0_3 a0_4 a0_5 a0_6 a0_7 a0_8 a0_3 a0_4 a0_5 a0_6 a0_7 a0_8) = some (r1, r2) := by rw [if_neg (show ¬ (false = true) by decide)] at H; exact H
         clear H
         have H := H1
         clear H1
         have H' := Aside0.mk H
         clear H
         go_wp2
         go_meet
         case rel => exact ⟨_, (0), (by first | rfl | (simp; done) | (simp [*]; done)), H', ⟨by have := HJ1.out; have := HJ33.out; first | omega | exact Nat.le_refl _⟩, ⟨by (with_reducible repeat (first | refine blk_drewN ?_ _ | refine blk_drew ?_ | refine blk_alloc ?_ _)); exact BK117.out⟩, ⟨by (with_reducible repeat (first | refine blk_drewN ?_ _ | refine blk_drew ?_ | refine blk_alloc ?_ _)); exact BK118.out⟩, ⟨by repeat (first | (with_reducible first | exact HB.out | apply below_alloc | apply pw_below_drewN | apply below_drew1 | refine below_set ?_ GE117.out | refine below_set ?_ GE118.out) | exact HB.out)⟩⟩
       case rest =>
        clear HC41
        try clear c1
        try clear c2
        try clear p2
        try clear c3
        try clear c4
        try clear c6
        try clear c10
        try clear c14
        try clear c14b0
        try clear c14b1
        try clear c15
        try clear c19
        try clear c19b0
        try clear c20
        try clear c23
        try clear c23b0
        try clear c24
        try clear c30
        try clear c33
        try clear c35
        try clear c35b0
        try clear c35b1
        try clear c36
        try clear c38
        try clear c40
        try clear c42
        try clear c44
        try clear hcz16_0
        try clear hcz16_1
        try clear hcz16_2
        try clear hcz16_3
        try clear hcz16_4
        try clear hcz16_5
        try clear hcz16_6
        try clear hcz16_7
        try clear hcz16_8
        try clear hcz17_0
        try clear hcz17_1
        try clear hcz17_2
        try clear hcz17_3
        try clear hcz17_4
        try clear hcz17_5
        try clear hcz21_0
        try clear hcz21_1
        try clear hcz21_2
        try clear hcz21_3
        try clear hcz21_4
        try clear hcz21_5
        try clear hcz21_6
        try clear hcz21_7
        try clear hcz21_8
        try clear hcz22_0
        try clear hcz22_1
        try clear hcz22_2
        try clear hcz22_3
        try clear hcz22_4
        try clear hcz22_5
        try clear hcz25_0
        try clear hcz25_1
        try clear hcz25_2
        try clear hcz25_3
        try clear hcz25_4
        try clear hcz25_5
        try clear hcz25_6
        try clear hcz25_7
        try clear hcz25_8
        try clear hcz26_0
        try clear hcz26_1
        try clear hcz26_2
        try clear hcz26_3
        try clear hcz26_4
        try clear hcz26_5
        try clear hcz31_0
        try clear hcz31_1
        try clear hcz31_2
        try clear hcz31_3
        try clear hcz31_4
        try clear hcz31_5
        try clear hcz31_6
        try clear hcz31_7
        try clear hcz31_8
        try clear hcz32_0
        try clear hcz32_1
        try clear hcz32_2
        try clear hcz32_3
        try clear hcz32_4
        try clear hcz32_5
        try clear hcz37_0
        try clear hcz37_1
        try clear hcz37_2
        try clear hcz37_3
        try clear hcz37_4
        try clear hcz37_5
        try clear hcz39_0
        try clear hcz39_1
        try clear hcz39_2
        try clear hcz39_3
        try clear hcz39_4
        try clear hcz39_5
        try clear hcz43_0
        try clear hcz43_1
        try clear hcz43_2
        try clear hcz43_3
        try clear hcz43_4
        try clear hcz43_5
        try clear hcz43_6
        try clear hcz43_7
        try clear hcz43_8
        try clear hcz4_0
        try clear hcz4_1
        try clear hcz4_2
        try clear hcz4_3
        try clear hcz4_4
        try clear hcz4_5
        try clear hcz4_6
        try clear hcz4_7
        try clear hcz4_8
        try clear hcz7_0
        try clear hcz7_1
        try clear hcz7_2
        try clear hcz7_3
        try clear hcz7_4
        try clear hcz7_5
        try clear hfz16_0
        try clear hfz16_1
        try clear hfz16_2
        try clear hfz16_3
        try clear hfz16_4
        try clear hfz16_5
        try clear hfz16_6
        try clear hfz16_7
        try clear hfz16_8
        try clear hfz17_0
        try clear hfz17_1
        try clear hfz17_2
        try clear hfz17_3
        try clear hfz17_4
        try clear hfz17_5
        try clear hfz21_0
        try clear hfz21_1
        try clear hfz21_2
        try clear hfz21_3
        try clear hfz21_4
        try clear hfz21_5
        try clear hfz21_6
        try clear hfz21_7
        try clear hfz21_8
        try clear hfz22_0
        try clear hfz22_1
        try clear hfz22_2
        try clear hfz22_3
        try clear hfz22_4
        try clear hfz22_5
        try clear hfz25_0
        try clear hfz25_1
        try clear hfz25_2
        try clear hfz25_3
        try clear hfz25_4
        try clear hfz25_5
        try clear hfz25_6
        try clear hfz25_7
        try clear hfz25_8
        try clear hfz26_0
        try clear hfz26_1
        try clear hfz26_2
        try clear hfz26_3
        try clear hfz26_4
        try clear hfz26_5
        try clear hfz31_0
        try clear hfz31_1
        try clear hfz31_2
        try clear hfz31_3
        try clear hfz31_4
        try clear hfz31_5
        try clear hfz31_6
        try clear hfz31_7
        try clear hfz31_8
        try clear hfz32_0
        try clear hfz32_1
        try clear hfz32_2
        try clear hfz32_3
        try clear hfz32_4
        try clear hfz32_5
        try clear hfz37_0
        try clear hfz37_1
        try clear hfz37_2
        try clear hfz37_3
        try clear hfz37_4
        try clear hfz37_5
        try clear hfz39_0
        try clear hfz39_1
        try clear hfz39_2
        try clear hfz39_3
        try clear hfz39_4
        try clear hfz39_5
        try clear hfz43_0
        try clear hfz43_1
        try clear hfz43_2
        try clear hfz43_3
        try clear hfz43_4
        try clear hfz43_5
        try clear hfz43_6
        try clear hfz43_7
        try clear hfz43_8
        try clear hfz4_0
        try clear hfz4_1
        try clear hfz4_2
        try clear hfz4_3
        try clear hfz4_4
        try clear hfz4_5
        try clear hfz4_6
        try clear hfz4_7
        try clear hfz4_8
        try clear hfz7_0
        try clear hfz7_1
        try clear hfz7_2
        try clear hfz7_3
        try clear hfz7_4
        try clear hfz7_5
        try clear p2
        obtain ⟨kq, x5_40, rfl, HA, HJ40, BK117, BK118, HB⟩ := hcut
        cases kq with
        | zero => exact absurd HA.out (by simp [line_Encode.j2])
        | succ kj40 =>
         have H := HA.out
         clear HA
         simp only [line_Encode.j2] at H
         obtain ⟨y119, hy119⟩ : ∃ y_ : List Int, y_ = (([83, 76] : List Int)) := ⟨_, rfl⟩
         replace H : ((line_sizes.f).bind fun t125 => ((pack_Must.f kj40 (([IntKind.u64.wrap (a0_0), IntKind.u64.wrap (a0_1), x5_40, IntKind.u64.wrap (a0_3), IntKind.u64.wrap (a0_4), IntKind.u64.wrap (a0_5), IntKind.u64.wrap (a0_6), IntKind.u64.wrap (a0_7), IntKind.u64.wrap ((a0_8.size : Int))] : List Int)) t125).bind fun t128 => (if y119.length + t128.length < 140737488355328 then ((some (y119 ++ t128 : List Int)).bind fun y131 => (if y131.length + a0_8.size < 140737488355328 then ((some (y131 ++ bytesOf a0_8 : List Int)).bind fun y134 => (if 0 ≤ (wrap64 (60 - (y134.length : Int))) then (if y134.length + (wrap64 (60 - (y134.length : Int)) : Int).toNat < 140737488355328 then ((some (y134 ++ List.replicate (wrap64 (60 - (y134.length : Int)) : Int).toNat 0 : List Int)).bind fun y137 => ((crc_Sum.f y137).bind fun t140 => ((pack_Must.f kj40 (([IntKind.u64.wrap (t140)] : List Int)) (([4] : List Int))).bind fun t147 => (if y137.length + t147.length < 140737488355328 then (some ((y137 ++ t147), 0)) else (none))))) else (none)) else (none))) else (none))) else (none)))) = some (r1, r2) := by first | (rw [hy119]; with_reducible exact H) | (have H2_ := (Option.bind_some _ _).symm.trans H; rw [hy119]; with_reducible exact H2_) | (have H2_ := (Option.bind_some _ _).symm.trans H; with_reducible exact H2_) | with_reducible exact H | (rw [hy119]; exact H) | exact H
         have Ny119 := Aside0.mk hy119
         clear hy119
         obtain ⟨y122, hy122⟩ : ∃ y_ : List Int, y_ = (([IntKind.u64.wrap (a0_0), IntKind.u64.wrap (a0_1), x5_40, IntKind.u64.wrap (a0_3), IntKind.u64.wrap (a0_4), IntKind.u64.wrap (a0_5), IntKind.u64.wrap (a0_6), IntKind.u64.wrap (a0_7), IntKind.u64.wrap ((a0_8.size : Int))] : List Int)) := ⟨_, rfl⟩
         replace H : ((line_sizes.f).bind fun t125 => ((pack_Must.f kj40 y122 t125).bind fun t128 => (if y119.length + t128.length < 140737488355328 then ((some (y119 ++ t128 : List Int)).bind fun y131 => (if y131.length + a0_8.size < 140737488355328 then ((some (y131 ++ bytesOf a0_8 : List Int)).bind fun y134 => (if 0 ≤ (wrap64 (60 - (y134.length : Int))) then (if y134.length + (wrap64 (60 - (y134.length : Int)) : Int).toNat < 140737488355328 then ((some (y134 ++ List.replicate (wrap64 (60 - (y134.length : Int)) : Int).toNat 0 : List Int)).bind fun y137 => ((crc_Sum.f y137).bind fun t140 => ((pack_Must.f kj40 (([IntKind.u64.wrap (t140)] : List Int)) (([4] : List Int))).bind fun t147 => (if y137.length + t147.length < 140737488355328 then (some ((y137 ++ t147), 0)) else (none))))) else (none)) else (none))) else (none))) else (none)))) = some (r1, r2) := by first | (rw [hy122]; with_reducible exact H) | (have H2_ := (Option.bind_some _ _).symm.trans H; rw [hy122]; with_reducible exact H2_) | (have H2_ := (Option.bind_some _ _).symm.trans H; with_reducible exact H2_) | with_reducible exact H | (rw [hy122]; exact H) | exact H
         have Ny122 := Aside0.mk hy122
         clear hy122
         replace H := Option.bind_eq_some_iff.mp H
         obtain ⟨t125, A450, H⟩ := H
         replace H : ((pack_Must.f kj40 y122 t125).bind fun t128 => (if y119.length + t128.length < 140737488355328 then ((some (y119 ++ t128 : List Int)).bind fun y131 => (if y131.length + a0_8.size < 140737488355328 then ((some (y131 ++ bytesOf a0_8 : List Int)).bind fun y134 => (if 0 ≤ (wrap64 (60 - (y134.length : Int))) then (if y134.length + (wrap64 (60 - (y134.length : Int)) : Int).toNat < 140737488355328 then ((some (y134 ++ List.replicate (wrap64 (60 - (y134.length : Int)) : Int).toNat 0 : List Int)).bind fun y137 => ((crc_Sum.f y137).bind fun t140 => ((pack_Must.f kj40 (([IntKind.u64.wrap (t140)] : List Int)) (([4] : List Int))).bind fun t147 => (if y137.length + t147.length < 140737488355328 then (some ((y137 ++ t147), 0)) else (none))))) else (none)) else (none))) else (none))) else (none))) = some (r1, r2) := H
         have A45 := Aside0.mk A450
         clear A450
         replace H := Option.bind_eq_some_iff.mp H
         obtain ⟨t128, A460, H⟩ := H
         replace H : (if y119.length + t128.length < 140737488355328 then ((some (y119 ++ t128 : List Int)).bind fun y131 => (if y131.length + a0_8.size < 140737488355328 then ((some (y131 ++ bytesOf a0_8 : List Int)).bind fun y134 => (if 0 ≤ (wrap64 (60 - (y134.length : Int))) then (if y134.length + (wrap64 (60 - (y134.length : Int)) : Int).toNat < 140737488355328 then ((some (y134 ++ List.replicate (wrap64 (60 - (y134.length : Int)) : Int).toNat 0 : List Int)).bind fun y137 => ((crc_Sum.f y137).bind fun t140 => ((pack_Must.f kj40 (([IntKind.u64.wrap (t140)] : List Int)) (([4] : List Int))).bind fun t147 => (if y137.length + t147.length < 140737488355328 then (some ((y137 ++ t147), 0)) else (none))))) else (none)) else (none))) else (none))) else (none)) = some (r1, r2) := H
         have A46 := Aside0.mk A460
         clear A460
         by_cases c47 : y119.length + t128.length < 140737488355328
         ·rw [if_pos c47] at H
          have LMc47 := Aside0.mk c47
          clear c47
          obtain ⟨y131, hy131⟩ : ∃ y_ : List Int, y_ = (y119 ++ t128) := ⟨_, rfl⟩
          replace H : (if y131.length + a0_8.size < 140737488355328 then ((some (y131 ++ bytesOf a0_8 : List Int)).bind fun y134 => (if 0 ≤ (wrap64 (60 - (y134.length : Int))) then (if y134.length + (wrap64 (60 - (y134.length : Int)) : Int).toNat < 140737488355328 then ((some (y134 ++ List.replicate (wrap64 (60 - (y134.length : Int)) : Int).toNat 0 : List Int)).bind fun y137 => ((crc_Sum.f y137).bind fun t140 => ((pack_Must.f kj40 (([IntKind.u64.wrap (t140)] : List Int)) (([4] : List Int))).bind fun t147 => (if y137.length + t147.length < 140737488355328 then (some ((y137 ++ t147), 0)) else (none))))) else (none)) else (none))) else (none)) = some (r1, r2) := by first | (rw [hy131]; with_reducible exact H) | (have H2_ := (Option.bind_some _ _).symm.trans H; rw [hy131]; with_reducible exact H2_) | (have H2_ := (Option.bind_some _ _).symm.trans H; with_reducible exact H2_) | with_reducible exact H | (rw [hy131]; exact H) | exact H
          have Ny131 := Aside0.mk hy131
          clear hy131
          by_cases c48 : y131.length + a0_8.size < 140737488355328
          ·rw [if_pos c48] at H
           have LMc48 := Aside0.mk c48
           clear c48
           obtain ⟨y134, hy134⟩ : ∃ y_ : List Int, y_ = (y131 ++ bytesOf a0_8) := ⟨_, rfl⟩
           replace H : (if 0 ≤ (wrap64 (60 - (y134.length : Int))) then (if y134.length + (wrap64 (60 - (y134.length : Int)) : Int).toNat < 140737488355328 then ((some (y134 ++ List.replicate (wrap64 (60 - (y134.length : Int)) : Int).toNat 0 : List Int)).bind fun y137 => ((crc_Sum.f y137).bind fun t140 => ((pack_Must.f kj40 (([IntKind.u64.wrap (t140)] : List Int)) (([4] : List Int))).bind fun t147 => (if y137.length + t147.length < 140737488355328 then (some ((y137 ++ t147), 0)) else (none))))) else (none)) else (none)) = some (r1, r2) := by first | (rw [hy134]; with_reducible exact H) | (have H2_ := (Option.bind_some _ _).symm.trans H; rw [hy134]; with_reducible exact H2_) | (have H2_ := (Option.bind_some _ _).symm.trans H; with_reducible exact H2_) | with_reducible exact H | (rw [hy134]; exact H) | exact H
           have Ny134 := Aside0.mk hy134
           clear hy134
           obtain ⟨ji49, hji49⟩ : ∃ j_ : Int, (wrap64 (60 - (y134.length : Int))) = j_ := ⟨_, rfl⟩
           replace H : (if 0 ≤ (ji49) then (if y134.length + (ji49 : Int).toNat < 140737488355328 then ((some (y134 ++ List.replicate (ji49 : Int).toNat 0 : List Int)).bind fun y137 => ((crc_Sum.f y137).bind fun t140 => ((pack_Must.f kj40 (([IntKind.u64.wrap (t140)] : List Int)) (([4] : List Int))).bind fun t147 => (if y137.length + t147.length < 140737488355328 then (some ((y137 ++ t147), 0)) else (none))))) else (none)) else (none)) = some (r1, r2) := by first | (rw [hji49] at H; exact H) | (simp only [hji49] at H ⊢; exact H)
           (try rw [hji49] at A45)
           (try rw [hji49] at A46)
           have hji49w : (IntKind.i64.wrap (60 - (y134.length : Int))) = ji49 := (i64_w _).trans hji49
           by_cases c50 : 0 ≤ (ji49)
           ·rw [if_pos c50] at H
            have c50b0 := eq_true c50
            have c50b1 : decide (0 ≤ (ji49)) = true := decide_eq_true c50
            clear c50
            by_cases c51 : y134.length + (ji49 : Int).toNat < 140737488355328
            ·rw [if_pos c51] at H
             have LMc51 := Aside0.mk c51
             clear c51
             obtain ⟨y137, hy137⟩ : ∃ y_ : List Int, y_ = (y134 ++ List.replicate (ji49 : Int).toNat 0) := ⟨_, rfl⟩
             replace H : ((crc_Sum.f y137).bind fun t140 => ((pack_Must.f kj40 (([IntKind.u64.wrap (t140)] : List Int)) (([4] : List Int))).bind fun t147 => (if y137.length + t147.length < 140737488355328 then (some ((y137 ++ t147), 0)) else (none)))) = some (r1, r2) := by first | (rw [hy137]; with_reducible exact H) | (have H2_ := (Option.bind_some _ _).symm.trans H; rw [hy137]; with_reducible exact H2_) | (have H2_ := (Option.bind_some _ _).symm.trans H; with_reducible exact H2_) | with_reducible exact H | (rw [hy137]; exact H) | exact H
             have Ny137 := Aside0.mk hy137
             clear hy137
             replace H := Option.bind_eq_some_iff.mp H
             obtain ⟨t140, A520, H⟩ := H
             replace H : ((pack_Must.f kj40 (([IntKind.u64.wrap (t140)] : List Int)) (([4] : List Int))).bind fun t147 => (if y137.length + t147.length < 140737488355328 then (some ((y137 ++ t147), 0)) else (none))) = some (r1, r2) := H
             have A52 := Aside0.mk A520
             clear A520
             obtain ⟨y141, hy141⟩ : ∃ y_ : List Int, y_ = (([IntKind.u64.wrap (t140)] : List Int)) := ⟨_, rfl⟩
             replace H : ((pack_Must.f kj40 y141 (([4] : List Int))).bind fun t147 => (if y137.length + t147.length < 140737488355328 then (some ((y137 ++ t147), 0)) else (none))) = some (r1, r2) := by first | (rw [hy141]; with_reducible exact H) | (have H2_ := (Option.bind_some _ _).symm.trans H; rw [hy141]; with_reducible exact H2_) | (have H2_ := (Option.bind_some _ _).symm.trans H; with_reducible exact H2_) | with_reducible exact H | (rw [hy141]; exact H) | exact H
             have Ny141 := Aside0.mk hy141
             clear hy141
             obtain ⟨y144, hy144⟩ : ∃ y_ : List Int, y_ = (([4] : List Int)) := ⟨_, rfl⟩
             replace H : ((pack_Must.f kj40 y141 y144).bind fun t147 => (if y137.length + t147.length < 140737488355328 then (some ((y137 ++ t147), 0)) else (none))) = some (r1, r2) := by first | (rw [hy144]; with_reducible exact H) | (have H2_ := (Option.bind_some _ _).symm.trans H; rw [hy144]; with_reducible exact H2_) | (have H2_ := (Option.bind_some _ _).symm.trans H; with_reducible exact H2_) | with_reducible exact H | (rw [hy144]; exact H) | exact H
             have Ny144 := Aside0.mk hy144
             clear hy144
             replace H := Option.bind_eq_some_iff.mp H
             obtain ⟨t147, A530, H⟩ := H
             replace H : (if y137.length + t147.length < 140737488355328 then (some ((y137 ++ t147), 0)) else (none)) = some (r1, r2) := H
             have A53 := Aside0.mk A530
             clear A530
             by_cases c54 : y137.length + t147.length < 140737488355328
             ·rw [if_pos c54] at H
              have LMc54 := Aside0.mk c54
              clear c54
              obtain ⟨y150, hy150⟩ : ∃ y_ : List Int, y_ = (y137 ++ t147) := ⟨_, rfl⟩
              replace H : (some (y150, 0)) = some (r1, r2) := by first | (rw [hy150]; with_reducible exact H) | (have H2_ := (Option.bind_some _ _).symm.trans H; rw [hy150]; with_reducible exact H2_) | (have H2_ := (Option.bind_some _ _).symm.trans H; with_reducible exact H2_) | with_reducible exact H | (rw [hy150]; exact H) | exact H
              have Ny150 := Aside0.mk hy150
              clear hy150
              simp only [Option.some.injEq, Prod.mk.injEq] at H
              obtain ⟨rfl, rfl⟩ := H
              try go_wp2
              have n0_ := Aside0.mk (blk_drew BK117.out)
              have n1_ := Aside0.mk (blk_drew BK118.out)
              have n2_ := Aside0.mk (below_drew1 HB.out)
              clear BK117
              clear BK118
              clear HB
              have BK117 := n0_
              have BK118 := n1_
              have HB := n2_
              clear n0_ n1_ n2_
              refine start_ (n := 33) (S := fun w' => w'.cell? ⟨gb117, 0, none⟩ = some (.int .i64 a0_0) ∧ w'.cell? ⟨gb117, 1, none⟩ = some (.int .i64 a0_1) ∧ w'.cell? ⟨gb117, 2, none⟩ = some (.bool a0_2) ∧ w'.cell? ⟨gb117, 3, none⟩ = some (.int .i64 a0_3) ∧ w'.cell? ⟨gb117, 4, none⟩ = some (.int .i64 a0_4) ∧ w'.cell? ⟨gb117, 5, none⟩ = some (.int .i64 a0_5) ∧ w'.cell? ⟨gb117, 6, none⟩ = some (.int .i64 a0_6) ∧ w'.cell? ⟨gb117, 7, none⟩ = some (.int .i64 a0_7) ∧ w'.cell? ⟨gb117, 8, none⟩ = some (.string a0_8) ∧ w'.cell? ⟨gb118, 0, none⟩ = some (.int .i64 a0_3) ∧ w'.cell? ⟨gb118, 1, none⟩ = some (.int .i64 a0_4) ∧ w'.cell? ⟨gb118, 2, none⟩ = some (.int .i64 a0_5) ∧ w'.cell? ⟨gb118, 3, none⟩ = some (.int .i64 a0_6) ∧ w'.cell? ⟨gb118, 4, none⟩ = some (.int .i64 a0_7) ∧ w'.cell? ⟨gb118, 5, none⟩ = some (.string a0_8)) (ds := []) #[false, false, false, false, false, false, false, false, false, false, false, false, false, false, false, false, false, false, false, false, false, false, false, false, false, false, false, false, false, false, false, false, false] (by kernel_rfl) rfl rfl ⟨(blk_cell BK117.out 0).trans rfl, (blk_cell BK117.out 1).trans rfl, (blk_cell BK117.out 2).trans rfl, (blk_cell BK117.out 3).trans rfl, (blk_cell BK117.out 4).trans rfl, (blk_cell BK117.out 5).trans rfl, (blk_cell BK117.out 6).trans rfl, (blk_cell BK117.out 7).trans rfl, (blk_cell BK117.out 8).trans rfl, (blk_cell BK118.out 0).trans rfl, (blk_cell BK118.out 1).trans rfl, (blk_cell BK118.out 2).trans rfl, (blk_cell BK118.out 3).trans rfl, (blk_cell BK118.out 4).trans rfl, (blk_cell BK118.out 5).trans rfl⟩ (fun hHeld => ?_); refine with_tabW line_Encode.tab9 line_Encode.bits9 (fun HT_ HW_ => ?_)
              generalize wc.drew = w55 at BK117 BK118 HB hHeld ⊢
              refine pure_ (i := 2) (N := some 64) (v := ?_) (a' := ?_) #[false, false, true, false, false, false, false, false, false, false, false, false, false, false, false, false, false, false, false, false, false, false, false, false, false, false, false, false, false, false, false, false, false] rfl rfl (any_of HT_.out (by kernel_rfl)) (fun _ _ _ h => h) (Or.inl ⟨by rfl, ?_⟩) ?_ ?_
              rotate_left
              ·intro w'
               go_simp
               with_reducible rfl
              rotate_left
              ·simp only [Act.put, List.setIfInBounds_toArray, List.set_cons_zero, List.set_cons_succ, i64_w, i32_w]
               rfl
              refine pure_ (i := 5) (N := some 67) (v := ?_) (a' := ?_) #[false, false, true, false, false, true, false, false, false, false, false, false, false, false, false, false, false, false, false, false, false, false, false, false, false, false, false, false, false, false, false, false, false] rfl rfl (any_of HT_.out (by kernel_rfl)) (fun _ _ _ h => h) (Or.inl ⟨by rfl, ?_⟩) ?_ ?_
              rotate_left
              ·intro w'
               go_simp
               with_reducible rfl
              rotate_left
              ·simp only [Act.put, List.setIfInBounds_toArray, List.set_cons_zero, List.set_cons_succ, i64_w, i32_w]
               rfl
              refine pure_ (i := 8) (N := some 70) (v := ?_) (a' := ?_) #[false, false, true, false, false, true, false, false, true, false, false, false, false, false, false, false, false, false, false, false, false, false, false, false, false, false, false, false, false, false, false, false, false] rfl rfl (any_of HT_.out (by kernel_rfl)) (fun _ _ _ h => h) (Or.inl ⟨by rfl, ?_⟩) ?_ ?_
              rotate_left
              ·intro w'
               go_simp
               with_reducible rfl
              rotate_left
              ·simp only [Act.put, List.setIfInBounds_toArray, List.set_cons_zero, List.set_cons_succ, i64_w, i32_w]
               rfl
              refine pure_ (i := 9) (N := some 71) (v := ?_) (a' := ?_) #[false, false, true, false, false, true, false, false, true, true, false, false, false, false, false, false, false, false, false, false, false, false, false, false, false, false, false, false, false, false, false, false, false] rfl rfl (any_of HT_.out (by kernel_rfl)) (fun _ _ _ h => h) (Or.inl ⟨by rfl, ?_⟩) ?_ ?_
              rotate_left
              ·intro w'
               go_simp
               with_reducible rfl
              rotate_left
              ·simp only [Act.put, List.setIfInBounds_toArray, List.set_cons_zero, List.set_cons_succ, i64_w, i32_w]
               rfl
              refine pure_ (i := 12) (N := some 74) (v := ?_) (a' := ?_) #[false, false, true, false, false, true, false, false, true, true, false, false, true, false, false, false, false, false, false, false, false, false, false, false, false, false, false, false, false, false, false, false, false] rfl rfl (any_of HT_.out (by kernel_rfl)) (fun _ _ _ h => h) (Or.inl ⟨by rfl, ?_⟩) ?_ ?_
              rotate_left
              ·intro w'
               go_simp
               with_reducible rfl
              rotate_left
              ·simp only [Act.put, List.setIfInBounds_toArray, List.set_cons_zero, List.set_cons_succ, i64_w, i32_w]
               rfl
              refine pure_ (i := 15) (N := some 77) (v := ?_) (a' := ?_) #[false, false, true, false, false, true, false, false, true, true, false, false, true, false, false, true, false, false, false, false, false, false, false, false, false, false, false, false, false, false, false, false, false] rfl rfl (any_of HT_.out (by kernel_rfl)) (fun _ _ _ h => h) (Or.inl ⟨by rfl, ?_⟩) ?_ ?_
              rotate_left
              ·intro w'
               go_simp
               with_reducible rfl
              rotate_left
              ·simp only [Act.put, List.setIfInBounds_toArray, List.set_cons_zero, List.set_cons_succ, i64_w, i32_w]
               rfl
              refine pure_ (i := 18) (N := some 80) (v := ?_) (a' := ?_) #[false, false, true, false, false, true, false, false, true, true, false, false, true, false, false, true, false, false, true, false, false, false, false, false, false, false, false, false, false, false, false, false, false] rfl rfl (any_of HT_.out (by kernel_rfl)) (fun _ _ _ h => h) (Or.inl ⟨by rfl, ?_⟩) ?_ ?_
              rotate_left
              ·intro w'
               go_simp
               with_reducible rfl
              rotate_left
              ·simp only [Act.put, List.setIfInBounds_toArray, List.set_cons_zero, List.set_cons_succ, i64_w, i32_w]
               rfl
              refine pure_ (i := 21) (N := some 83) (v := ?_) (a' := ?_) #[false, false, true, false, false, true, false, false, true, true, false, false, true, false, false, true, false, false, true, false, false, true, false, false, false, false, false, false, false, false, false, false, false] rfl rfl (any_of HT_.out (by kernel_rfl)) (fun _ _ _ h => h) (Or.inl ⟨by rfl, ?_⟩) ?_ ?_
              rotate_left
              ·intro w'
               go_simp
               with_reducible rfl
              rotate_left
              ·simp only [Act.put, List.setIfInBounds_toArray, List.set_cons_zero, List.set_cons_succ, i64_w, i32_w]
               rfl
              refine pure_ (i := 24) (N := some 86) (v := ?_) (a' := ?_) #[false, false, true, false, false, true, false, false, true, true, false, false, true, false, false, true, false, false, true, false, false, true, false, false, true, false, false, false, false, false, false, false, false] rfl rfl (any_of HT_.out (by kernel_rfl)) (fun _ _ _ h => h) (Or.inl ⟨by rfl, ?_⟩) ?_ ?_
              rotate_left
              ·intro w'
               go_simp
               with_reducible rfl
              rotate_left
              ·simp only [Act.put, List.setIfInBounds_toArray, List.set_cons_zero, List.set_cons_succ, i64_w, i32_w]
               rfl
              refine take_ (i := 3) (N := some 65) (v := ?_) (a' := ?_) #[false, false, true, true, false, true, false, false, true, true, false, false, true, false, false, true, false, false, true, false, false, true, false, false, true, false, false, false, false, false, false, false, false] rfl rfl (take_ofW HT_.out HW_.out (by kernel_rfl)) (fun _ _ _ h => h) (Or.inl ⟨by rfl, ?_⟩) hHeld ?_ ?_
              rotate_left
              ·rintro w' ⟨s0, s1, s2, s3, s4, s5, s6, s7, s8, s9, s10, s11, s12, s13, s14⟩
               go_simp
               with_reducible rfl
              rotate_left
              ·simp only [Act.put, List.setIfInBounds_toArray, List.set_cons_zero, List.set_cons_succ, i64_w, i32_w]
               rfl
              refine pure_ (i := 4) (N := some 66) (v := ?_) (a' := ?_) #[false, false, true, true, true, true, false, false, true, true, false, false, true, false, false, true, false, false, true, false, false, true, false, false, true, false, false, false, false, false, false, false, false] rfl rfl (any_of HT_.out (by kernel_rfl)) (fun _ _ _ h => h) (Or.inl ⟨by rfl, ?_⟩) ?_ ?_
              rotate_left
              ·intro w'
               go_simp
               with_reducible rfl
              rotate_left
              ·simp only [Act.put, List.setIfInBounds_toArray, List.set_cons_zero, List.set_cons_succ, i64_w, i32_w]
               rfl
              refine take_ (i := 6) (N := some 68) (v := ?_) (a' := ?_) #[false, false, true, true, true, true, true, false, true, true, false, false, true, false, false, true, false, false, true, false, false, true, false, false, true, false, false, false, false, false, false, false, false] rfl rfl (take_ofW HT_.out HW_.out (by kernel_rfl)) (fun _ _ _ h => h) (Or.inl ⟨by rfl, ?_⟩) hHeld ?_ ?_
              rotate_left
              ·rintro w' ⟨s0, s1, s2, s3, s4, s5, s6, s7, s8, s9, s10, s11, s12, s13, s14⟩
               go_simp
               with_reducible rfl
              rotate_left
              ·simp only [Act.put, List.setIfInBounds_toArray, List.set_cons_zero, List.set_cons_succ, i64_w, i32_w]
               rfl
              refine pure_ (i := 7) (N := some 69) (v := ?_) (a' := ?_) #[false, false, true, true, true, true, true, true, true, true, false, false, true, false, false, true, false, false, true, false, false, true, false, false, true, false, false, false, false, false, false, false, false] rfl rfl (any_of HT_.out (by kernel_rfl)) (fun _ _ _ h => h) (Or.inl ⟨by rfl, ?_⟩) ?_ ?_
              rotate_left
              ·intro w'
               go_simp
               with_reducible rfl
              rotate_left
              ·simp only [Act.put, List.setIfInBounds_toArray, List.set_cons_zero, List.set_cons_succ, i64_w, i32_w]
               rfl
              refine take_ (i := 10) (N := some 72) (v := ?_) (a' := ?_) #[false, false, true, true, true, true, true, true, true, true, true, false, true, false, false, true, false, false, true, false, false, true, false, false, true, false, false, false, false, false, false, false, false] rfl rfl (take_ofW HT_.out HW_.out (by kernel_rfl)) (fun _ _ _ h => h) (Or.inl ⟨by rfl, ?_⟩) hHeld ?_ ?_
              rotate_left
              ·rintro w' ⟨s0, s1, s2, s3, s4, s5, s6, s7, s8, s9, s10, s11, s12, s13, s14⟩
               go_simp
               with_reducible rfl
              rotate_left
              ·simp only [Act.put, List.setIfInBounds_toArray, List.set_cons_zero, List.set_cons_succ, i64_w, i32_w]
               rfl
              refine pure_ (i := 11) (N := some 73) (v := ?_) (a' := ?_) #[false, false, true, true, true, true, true, true, true, true, true, true, true, false, false, true, false, false, true, false, false, true, false, false, true, false, false, false, false, false, false, false, false] rfl rfl (any_of HT_.out (by kernel_rfl)) (fun _ _ _ h => h) (Or.inl ⟨by rfl, ?_⟩) ?_ ?_
              rotate_left
              ·intro w'
               go_simp
               with_reducible rfl
              rotate_left
              ·simp only [Act.put, List.setIfInBounds_toArray, List.set_cons_zero, List.set_cons_succ, i64_w, i32_w]
               rfl
              refine take_ (i := 13) (N := some 75) (v := ?_) (a' := ?_) #[false, false, true, true, true, true, true, true, true, true, true, true, true, true, false, true, false, false, true, false, false, true, false, false, true, false, false, false, false, false, false, false, false] rfl rfl (take_ofW HT_.out HW_.out (by kernel_rfl)) (fun _ _ _ h => h) (Or.inl ⟨by rfl, ?_⟩) hHeld ?_ ?_
              rotate_left
              ·rintro w' ⟨s0, s1, s2, s3, s4, s5, s6, s7, s8, s9, s10, s11, s12, s13, s14⟩
               go_simp
               with_reducible rfl
              rotate_left
              ·simp only [Act.put, List.setIfInBounds_toArray, List.set_cons_zero, List.set_cons_succ, i64_w, i32_w]
               rfl
              refine pure_ (i := 14) (N := some 76) (v := ?_) (a' := ?_) #[false, false, true, true, true, true, true, true, true, true, true, true, true, true, true, true, false, false, true, false, false, true, false, false, true, false, false, false, false, false, false, false, false] rfl rfl (any_of HT_.out (by kernel_rfl)) (fun _ _ _ h => h) (Or.inl ⟨by rfl, ?_⟩) ?_ ?_
              rotate_left
              ·intro w'
               go_simp
               with_reducible rfl
              rotate_left
              ·simp only [Act.put, List.setIfInBounds_toArray, List.set_cons_zero, List.set_cons_succ, i64_w, i32_w]
               rfl
              refine take_ (i := 16) (N := some 78) (v := ?_) (a' := ?_) #[false, false, true, true, true, true, true, true, true, true, true, true, true, true, true, true, true, false, true, false, false, true, false, false, true, false, false, false, false, false, false, false, false] rfl rfl (take_ofW HT_.out HW_.out (by kernel_rfl)) (fun _ _ _ h => h) (Or.inl ⟨by rfl, ?_⟩) hHeld ?_ ?_
              rotate_left
              ·rintro w' ⟨s0, s1, s2, s3, s4, s5, s6, s7, s8, s9, s10, s11, s12, s13, s14⟩
               go_simp
               with_reducible rfl
              rotate_left
              ·simp only [Act.put, List.setIfInBounds_toArray, List.set_cons_zero, List.set_cons_succ, i64_w, i32_w]
               rfl
              refine pure_ (i := 17) (N := some 79) (v := ?_) (a' := ?_) #[false, false, true, true, true, true, true, true, true, true, true, true, true, true, true, true, true, true, true, false, false, true, false, false, true, false, false, false, false, false, false, false, false] rfl rfl (any_of HT_.out (by kernel_rfl)) (fun _ _ _ h => h) (Or.inl ⟨by rfl, ?_⟩) ?_ ?_
              rotate_left
              ·intro w'
               go_simp
               with_reducible rfl
              rotate_left
              ·simp only [Act.put, List.setIfInBounds_toArray, List.set_cons_zero, List.set_cons_succ, i64_w, i32_w]
               rfl
              refine take_ (i := 19) (N := some 81) (v := ?_) (a' := ?_) #[false, false, true, true, true, true, true, true, true, true, true, true, true, true, true, true, true, true, true, true, false, true, false, false, true, false, false, false, false, false, false, false, false] rfl rfl (take_ofW HT_.out HW_.out (by kernel_rfl)) (fun _ _ _ h => h) (Or.inl ⟨by rfl, ?_⟩) hHeld ?_ ?_
              rotate_left
              ·rintro w' ⟨s0, s1, s2, s3, s4, s5, s6, s7, s8, s9, s10, s11, s12, s13, s14⟩
               go_simp
               with_reducible rfl
              rotate_left
              ·simp only [Act.put, List.setIfInBounds_toArray, List.set_cons_zero, List.set_cons_succ, i64_w, i32_w]
               rfl
              refine pure_ (i := 20) (N := some 82) (v := ?_) (a' := ?_) #[false, false, true, true, true, true, true, true, true, true, true, true, true, true, true, true, true, true, true, true, true, true, false, false, true, false, false, false, false, false, false, false, false] rfl rfl (any_of HT_.out (by kernel_rfl)) (fun _ _ _ h => h) (Or.inl ⟨by rfl, ?_⟩) ?_ ?_
              rotate_left
              ·intro w'
               go_simp
               with_reducible rfl
              rotate_left
              ·simp only [Act.put, List.setIfInBounds_toArray, List.set_cons_zero, List.set_cons_succ, i64_w, i32_w]
               rfl
              refine take_ (i := 22) (N := some 84) (v := ?_) (a' := ?_) #[false, false, true, true, true, true, true, true, true, true, true, true, true, true, true, true, true, true, true, true, true, true, true, false, true, false, false, false, false, false, false, false, false] rfl rfl (take_ofW HT_.out HW_.out (by kernel_rfl)) (fun _ _ _ h => h) (Or.inl ⟨by rfl, ?_⟩) hHeld ?_ ?_
              rotate_left
              ·rintro w' ⟨s0, s1, s2, s3, s4, s5, s6, s7, s8, s9, s10, s11, s12, s13, s14⟩
               go_simp
               with_reducible rfl
              rotate_left
              ·simp only [Act.put, List.setIfInBounds_toArray, List.set_cons_zero, List.set_cons_succ, i64_w, i32_w]
               rfl
              refine pure_ (i := 23) (N := some 85) (v := ?_) (a' := ?_) #[false, false, true, true, true, true, true, true, true, true, true, true, true, true, true, true, true, true, true, true, true, true, true, true, true, false, false, false, false, false, false, false, false] rfl rfl (any_of HT_.out (by kernel_rfl)) (fun _ _ _ h => h) (Or.inl ⟨by rfl, ?_⟩) ?_ ?_
              rotate_left
              ·intro w'
               go_simp
               with_reducible rfl
              rotate_left
              ·simp only [Act.put, List.setIfInBounds_toArray, List.set_cons_zero, List.set_cons_succ, i64_w, i32_w]
               rfl
              refine take_ (i := 25) (N := some 87) (v := ?_) (a' := ?_) #[false, false, true, true, true, true, true, true, true, true, true, true, true, true, true, true, true, true, true, true, true, true, true, true, true, true, false, false, false, false, false, false, false] rfl rfl (take_ofW HT_.out HW_.out (by kernel_rfl)) (fun _ _ _ h => h) (Or.inl ⟨by rfl, ?_⟩) hHeld ?_ ?_
              rotate_left
              ·rintro w' ⟨s0, s1, s2, s3, s4, s5, s6, s7, s8, s9, s10, s11, s12, s13, s14⟩
               go_simp
               with_reducible rfl
              rotate_left
              ·simp only [Act.put, List.setIfInBounds_toArray, List.set_cons_zero, List.set_cons_succ, i64_w, i32_w]
               rfl
              refine pure_ (i := 26) (N := some 88) (v := ?_) (a' := ?_) #[false, false, true, true, true, true, true, true, true, true, true, true, true, true, true, true, true, true, true, true, true, true, true, true, true, true, true, false, false, false, false, false, false] rfl rfl (any_of HT_.out (by kernel_rfl)) (fun _ _ _ h => h) (Or.inl ⟨by rfl, ?_⟩) ?_ ?_
              rotate_left
              ·intro w'
               go_simp
               with_reducible rfl
              rotate_left
              ·simp only [Act.put, List.setIfInBounds_toArray, List.set_cons_zero, List.set_cons_succ, i64_w, i32_w]
               rfl
              refine pure_ (i := 27) (N := some 89) (v := ?_) (a' := ?_) #[false, false, true, true, true, true, true, true, true, true, true, true, true, true, true, true, true, true, true, true, true, true, true, true, true, true, true, true, false, false, false, false, false] rfl rfl (any_of HT_.out (by kernel_rfl)) (fun _ _ _ h => h) (Or.inl ⟨by rfl, ?_⟩) ?_ ?_
              rotate_left
              ·intro w'
               go_simp
               with_reducible rfl
              rotate_left
              ·simp only [Act.put, List.setIfInBounds_toArray, List.set_cons_zero, List.set_cons_succ, i64_w, i32_w]
               rfl
              refine join_ (σ := Nat × Value × Value × Value) 2 #[true, true, true, true, true, true, true, true, true, true, true, true, true, true, true, true, true, true, true, true, true, true, true, true, true, true, true, true, true, true, true, false, false] (fun s_ => [(62, (.slice (some ⟨s_.1, 0, none⟩) 2 2)), (90, s_.2.1), (91, s_.2.2.1), (92, s_.2.2.2), (63, (.slice (some ⟨s_.1, 0, none⟩) 2 2))]) (fun s_ w' => (w.heap.size ≤ s_.1) ∧ (w'.heap[s_.1]? = some (.cells #[.int .u8 83, .int .u8 76] 5 (2, 3))) ∧ (Kd.R (Kd.int .u64) 48 w' w.heap.size (fun _ => True) s_.2.1 y122) ∧ (Kd.R (Kd.int .i64) 3 w' w.heap.size (fun _ => True) s_.2.2.1 t125) ∧ (Kd.R (Kd.int .u8) 5 w' w.heap.size (fun _ => True) s_.2.2.2 t128) ∧ (w'.heap[gb117]? = some (.cells #[.int .i64 a0_0, .int .i64 a0_1, .bool a0_2, .int .i64 a0_3, .int .i64 a0_4, .int .i64 a0_5, .int .i64 a0_6, .int .i64 a0_7, .string a0_8] 25 (0, 0))) ∧ (w'.heap[gb118]? = some (.cells #[.int .i64 a0_3, .int .i64 a0_4, .int .i64 a0_5, .int .i64 a0_6, .int .i64 a0_7, .string a0_8] 23 (0, 0))) ∧ (Below w.heap.size w w')) ?_ ?_
              rotate_left
              ·intro hP2_28_29_30
               refine join_ (σ := Nat × Value × Value × Value) 3 #[true, false, true, true, true, true, true, true, true, true, true, true, true, true, true, true, true, true, true, true, true, true, true, true, true, true, true, true, true, true, true, false, false] (fun s_ => [(62, (.slice (some ⟨s_.1, 0, none⟩) 2 2)), (90, s_.2.1), (91, s_.2.2.1), (92, s_.2.2.2)]) (fun s_ w' => (w.heap.size ≤ s_.1) ∧ (w'.heap[s_.1]? = some (.cells #[.int .u8 83, .int .u8 76] 5 (0, 0))) ∧ (Kd.R (Kd.int .u64) 48 w' w.heap.size (fun _ => True) s_.2.1 y122) ∧ (Kd.R (Kd.int .i64) 3 w' w.heap.size (fun _ => True) s_.2.2.1 t125) ∧ (Kd.R (Kd.int .u8) 5 w' w.heap.size (fun k_ => k_ ≠ s_.1) s_.2.2.2 t128) ∧ (w'.heap[gb117]? = some (.cells #[.int .i64 a0_0, .int .i64 a0_1, .bool a0_2, .int .i64 a0_3, .int .i64 a0_4, .int .i64 a0_5, .int .i64 a0_6, .int .i64 a0_7, .string a0_8] 25 (0, 0))) ∧ (w'.heap[gb118]? = some (.cells #[.int .i64 a0_3, .int .i64 a0_4, .int .i64 a0_5, .int .i64 a0_6, .int .i64 a0_7, .string a0_8] 23 (0, 0))) ∧ (Below w.heap.size w w')) ?_ ?_
               rotate_left
               ·intro hP1_28_29_30
                refine join_ (σ := Nat × Value × Value) 3 #[true, true, true, true, true, true, true, true, true, true, true, true, true, true, true, true, true, true, true, true, true, true, true, true, true, true, true, true, true, true, false, false, false] (fun s_ => [(62, (.slice (some ⟨s_.1, 0, none⟩) 2 2)), (90, s_.2.1), (91, s_.2.2), (63, (.slice (some ⟨s_.1, 0, none⟩) 2 2))]) (fun s_ w' => (w.heap.size ≤ s_.1) ∧ (w'.heap[s_.1]? = some (.cells #[.int .u8 83, .int .u8 76] 5 (2, 3))) ∧ (Kd.R (Kd.int .u64) 48 w' w.heap.size (fun _ => True) s_.2.1 y122) ∧ (Kd.R (Kd.int .i64) 3 w' w.heap.size (fun _ => True) s_.2.2 t125) ∧ (w'.heap[gb117]? = some (.cells #[.int .i64 a0_0, .int .i64 a0_1, .bool a0_2, .int .i64 a0_3, .int .i64 a0_4, .int .i64 a0_5, .int .i64 a0_6, .int .i64 a0_7, .string a0_8] 25 (0, 0))) ∧ (w'.heap[gb118]? = some (.cells #[.int .i64 a0_3, .int .i64 a0_4, .int .i64 a0_5, .int .i64 a0_6, .int .i64 a0_7, .string a0_8] 23 (0, 0))) ∧ (Below w.heap.size w w')) ?_ ?_
                rotate_left
                ·intro hP2_28_29
                 refine join_ (σ := Value × Value × Value) 4 #[false, false, true, true, true, true, true, true, true, true, true, true, true, true, true, true, true, true, true, true, true, true, true, true, true, true, true, true, true, true, true, false, false] (fun s_ => [(90, s_.1), (91, s_.2.1), (92, s_.2.2)]) (fun s_ w' => (Kd.R (Kd.int .u64) 48 w' w.heap.size (fun _ => True) s_.1 y122) ∧ (Kd.R (Kd.int .i64) 3 w' w.heap.size (fun _ => True) s_.2.1 t125) ∧ (Kd.R (Kd.int .u8) 5 w' w.heap.size (fun _ => True) s_.2.2 t128) ∧ (w'.heap[gb117]? = some (.cells #[.int .i64 a0_0, .int .i64 a0_1, .bool a0_2, .int .i64 a0_3, .int .i64 a0_4, .int .i64 a0_5, .int .i64 a0_6, .int .i64 a0_7, .string a0_8] 25 (0, 0))) ∧ (w'.heap[gb118]? = some (.cells #[.int .i64 a0_3, .int .i64 a0_4, .int .i64 a0_5, .int .i64 a0_6, .int .i64 a0_7, .string a0_8] 23 (0, 0))) ∧ (Below w.heap.size w w')) ?_ ?_
                 rotate_left
                 ·intro hP0_28_29_30
                  refine join_ (σ := Nat × Value × Value) 4 #[true, false, true, true, true, true, true, true, true, true, true, true, true, true, true, true, true, true, true, true, true, true, true, true, true, true, true, true, true, true, false, false, false] (fun s_ => [(62, (.slice (some ⟨s_.1, 0, none⟩) 2 2)), (90, s_.2.1), (91, s_.2.2)]) (fun s_ w' => (w.heap.size ≤ s_.1) ∧ (w'.heap[s_.1]? = some (.cells #[.int .u8 83, .int .u8 76] 5 (0, 0))) ∧ (Kd.R (Kd.int .u64) 48 w' w.heap.size (fun _ => True) s_.2.1 y122) ∧ (Kd.R (Kd.int .i64) 3 w' w.heap.size (fun _ => True) s_.2.2 t125) ∧ (w'.heap[gb117]? = some (.cells #[.int .i64 a0_0, .int .i64 a0_1, .bool a0_2, .int .i64 a0_3, .int .i64 a0_4, .int .i64 a0_5, .int .i64 a0_6, .int .i64 a0_7, .string a0_8] 25 (0, 0))) ∧ (w'.heap[gb118]? = some (.cells #[.int .i64 a0_3, .int .i64 a0_4, .int .i64 a0_5, .int .i64 a0_6, .int .i64 a0_7, .string a0_8] 23 (0, 0))) ∧ (Below w.heap.size w w')) ?_ ?_
                  rotate_left
                  ·intro hP1_28_29
                   refine join_ (σ := Nat × Value) 4 #[true, true, true, true, true, true, true, true, true, true, true, true, true, true, true, true, true, true, true, true, true, true, true, true, true, true, true, true, true, false, false, false, false] (fun s_ => [(62, (.slice (some ⟨s_.1, 0, none⟩) 2 2)), (90, s_.2), (63, (.slice (some ⟨s_.1, 0, none⟩) 2 2))]) (fun s_ w' => (w.heap.size ≤ s_.1) ∧ (w'.heap[s_.1]? = some (.cells #[.int .u8 83, .int .u8 76] 5 (2, 3))) ∧ (Kd.R (Kd.int .u64) 48 w' w.heap.size (fun _ => True) s_.2 y122) ∧ (w'.heap[gb117]? = some (.cells #[.int .i64 a0_0, .int .i64 a0_1, .bool a0_2, .int .i64 a0_3, .int .i64 a0_4, .int .i64 a0_5, .int .i64 a0_6, .int .i64 a0_7, .string a0_8] 25 (0, 0))) ∧ (w'.heap[gb118]? = some (.cells #[.int .i64 a0_3, .int .i64 a0_4, .int .i64 a0_5, .int .i64 a0_6, .int .i64 a0_7, .string a0_8] 23 (0, 0))) ∧ (Below w.heap.size w w')) ?_ ?_
                   rotate_left
                   ·intro hP2_28
                    refine join_ (σ := Nat × Value) 4 #[true, true, true, true, true, true, true, true, true, true, true, true, true, true, true, true, true, true, true, true, true, true, true, true, true, true, true, true, false, true, false, false, false] (fun s_ => [(62, (.slice (some ⟨s_.1, 0, none⟩) 2 2)), (91, s_.2), (63, (.slice (some ⟨s_.1, 0, none⟩) 2 2))]) (fun s_ w' => (w.heap.size ≤ s_.1) ∧ (w'.heap[s_.1]? = some (.cells #[.int .u8 83, .int .u8 76] 5 (2, 3))) ∧ (Kd.R (Kd.int .i64) 3 w' w.heap.size (fun _ => True) s_.2 t125) ∧ (w'.heap[gb117]? = some (.cells #[.int .i64 a0_0, .int .i64 a0_1, .bool a0_2, .int .i64 a0_3, .int .i64 a0_4, .int .i64 a0_5, .int .i64 a0_6, .int .i64 a0_7, .string a0_8] 25 (0, 0))) ∧ (w'.heap[gb118]? = some (.cells #[.int .i64 a0_3, .int .i64 a0_4, .int .i64 a0_5, .int .i64 a0_6, .int .i64 a0_7, .string a0_8] 23 (0, 0))) ∧ (Below w.heap.size w w')) ?_ ?_
                    rotate_left
                    ·intro hP2_29
                     refine join_ (σ := Value × Value) 5 #[false, false, true, true, true, true, true, true, true, true, true, true, true, true, true, true, true, true, true, true, true, true, true, true, true, true, true, true, true, true, false, false, false] (fun s_ => [(90, s_.1), (91, s_.2)]) (fun s_ w' => (Kd.R (Kd.int .u64) 48 w' w.heap.size (fun _ => True) s_.1 y122) ∧ (Kd.R (Kd.int .i64) 3 w' w.heap.size (fun _ => True) s_.2 t125) ∧ (w'.heap[gb117]? = some (.cells #[.int .i64 a0_0, .int .i64 a0_1, .bool a0_2, .int .i64 a0_3, .int .i64 a0_4, .int .i64 a0_5, .int .i64 a0_6, .int .i64 a0_7, .string a0_8] 25 (0, 0))) ∧ (w'.heap[gb118]? = some (.cells #[.int .i64 a0_3, .int .i64 a0_4, .int .i64 a0_5, .int .i64 a0_6, .int .i64 a0_7, .string a0_8] 23 (0, 0))) ∧ (Below w.heap.size w w')) ?_ ?_
                     rotate_left
                     ·intro hP0_28_29
                      refine join_ (σ := Nat × Value) 5 #[true, false, true, true, true, true, true, true, true, true, true, true, true, true, true, true, true, true, true, true, true, true, true, true, true, true, true, true, true, false, false, false, false] (fun s_ => [(62, (.slice (some ⟨s_.1, 0, none⟩) 2 2)), (90, s_.2)]) (fun s_ w' => (w.heap.size ≤ s_.1) ∧ (w'.heap[s_.1]? = some (.cells #[.int .u8 83, .int .u8 76] 5 (0, 0))) ∧ (Kd.R (Kd.int .u64) 48 w' w.heap.size (fun _ => True) s_.2 y122) ∧ (w'.heap[gb117]? = some (.cells #[.int .i64 a0_0, .int .i64 a0_1, .bool a0_2, .int .i64 a0_3, .int .i64 a0_4, .int .i64 a0_5, .int .i64 a0_6, .int .i64 a0_7, .string a0_8] 25 (0, 0))) ∧ (w'.heap[gb118]? = some (.cells #[.int .i64 a0_3, .int .i64 a0_4, .int .i64 a0_5, .int .i64 a0_6, .int .i64 a0_7, .string a0_8] 23 (0, 0))) ∧ (Below w.heap.size w w')) ?_ ?_
                      rotate_left
                      ·intro hP1_28
                       refine join_ (σ := Nat × Value) 5 #[true, false, true, true, true, true, true, true, true, true, true, true, true, true, true, true, true, true, true, true, true, true, true, true, true, true, true, true, false, true, false, false, false] (fun s_ => [(62, (.slice (some ⟨s_.1, 0, none⟩) 2 2)), (91, s_.2)]) (fun s_ w' => (w.heap.size ≤ s_.1) ∧ (w'.heap[s_.1]? = some (.cells #[.int .u8 83, .int .u8 76] 5 (0, 0))) ∧ (Kd.R (Kd.int .i64) 3 w' w.heap.size (fun _ => True) s_.2 t125) ∧ (w'.heap[gb117]? = some (.cells #[.int .i64 a0_0, .int .i64 a0_1, .bool a0_2, .int .i64 a0_3, .int .i64 a0_4, .int .i64 a0_5, .int .i64 a0_6, .int .i64 a0_7, .string a0_8] 25 (0, 0))) ∧ (w'.heap[gb118]? = some (.cells #[.int .i64 a0_3, .int .i64 a0_4, .int .i64 a0_5, .int .i64 a0_6, .int .i64 a0_7, .string a0_8] 23 (0, 0))) ∧ (Below w.heap.size w w')) ?_ ?_
                       rotate_left
                       ·intro hP1_29
                        refine join_ (σ := Nat) 5 #[true, true, true, true, true, true, true, true, true, true, true, true, true, true, true, true, true, true, true, true, true, true, true, true, true, true, true, true, false, false, false, false, false] (fun s_ => [(62, (.slice (some ⟨s_, 0, none⟩) 2 2)), (63, (.slice (some ⟨s_, 0, none⟩) 2 2))]) (fun s_ w' => (w.heap.size ≤ s_) ∧ (w'.heap[s_]? = some (.cells #[.int .u8 83, .int .u8 76] 5 (2, 3))) ∧ (w'.heap[gb117]? = some (.cells #[.int .i64 a0_0, .int .i64 a0_1, .bool a0_2, .int .i64 a0_3, .int .i64 a0_4, .int .i64 a0_5, .int .i64 a0_6, .int .i64 a0_7, .string a0_8] 25 (0, 0))) ∧ (w'.heap[gb118]? = some (.cells #[.int .i64 a0_3, .int .i64 a0_4, .int .i64 a0_5, .int .i64 a0_6, .int .i64 a0_7, .string a0_8] 23 (0, 0))) ∧ (Below w.heap.size w w')) ?_ ?_
                        rotate_left
                        ·intro hP2
                         refine join_ (σ := Value) 6 #[false, false, true, true, true, true, true, true, true, true, true, true, true, true, true, true, true, true, true, true, true, true, true, true, true, true, true, true, true, false, false, false, false] (fun s_ => [(90, s_)]) (fun s_ w' => (Kd.R (Kd.int .u64) 48 w' w.heap.size (fun _ => True) s_ y122) ∧ (w'.heap[gb117]? = some (.cells #[.int .i64 a0_0, .int .i64 a0_1, .bool a0_2, .int .i64 a0_3, .int .i64 a0_4, .int .i64 a0_5, .int .i64 a0_6, .int .i64 a0_7, .string a0_8] 25 (0, 0))) ∧ (w'.heap[gb118]? = some (.cells #[.int .i64 a0_3, .int .i64 a0_4, .int .i64 a0_5, .int .i64 a0_6, .int .i64 a0_7, .string a0_8] 23 (0, 0))) ∧ (Below w.heap.size w w')) ?_ ?_
                         rotate_left
                         ·intro hP0_28
                          refine join_ (σ := Value) 6 #[false, false, true, true, true, true, true, true, true, true, true, true, true, true, true, true, true, true, true, true, true, true, true, true, true, true, true, true, false, true, false, false, false] (fun s_ => [(91, s_)]) (fun s_ w' => (Kd.R (Kd.int .i64) 3 w' w.heap.size (fun _ => True) s_ t125) ∧ (w'.heap[gb117]? = some (.cells #[.int .i64 a0_0, .int .i64 a0_1, .bool a0_2, .int .i64 a0_3, .int .i64 a0_4, .int .i64 a0_5, .int .i64 a0_6, .int .i64 a0_7, .string a0_8] 25 (0, 0))) ∧ (w'.heap[gb118]? = some (.cells #[.int .i64 a0_3, .int .i64 a0_4, .int .i64 a0_5, .int .i64 a0_6, .int .i64 a0_7, .string a0_8] 23 (0, 0))) ∧ (Below w.heap.size w w')) ?_ ?_
                          rotate_left
                          ·intro hP0_29
                           refine join_ (σ := Nat) 6 #[true, false, true, true, true, true, true, true, true, true, true, true, true, true, true, true, true, true, true, true, true, true, true, true, true, true, true, true, false, false, false, false, false] (fun s_ => [(62, (.slice (some ⟨s_, 0, none⟩) 2 2))]) (fun s_ w' => (w.heap.size ≤ s_) ∧ (w'.heap[s_]? = some (.cells #[.int .u8 83, .int .u8 76] 5 (0, 0))) ∧ (w'.heap[gb117]? = some (.cells #[.int .i64 a0_0, .int .i64 a0_1, .bool a0_2, .int .i64 a0_3, .int .i64 a0_4, .int .i64 a0_5, .int .i64 a0_6, .int .i64 a0_7, .string a0_8] 25 (0, 0))) ∧ (w'.heap[gb118]? = some (.cells #[.int .i64 a0_3, .int .i64 a0_4, .int .i64 a0_5, .int .i64 a0_6, .int .i64 a0_7, .string a0_8] 23 (0, 0))) ∧ (Below w.heap.size w w')) ?_ ?_
                           rotate_left
                           ·intro hP1
                            refine three_ (i := 0) (j := 28) (k := 29) (Ni := some 62) (Nj := some 90) (Nk := some 91) #[true, false, true, true, true, true, true, true, true, true, true, true, true, true, true, true, true, true, true, true, true, true, true, true, true, true, true, true, false, false, false, false, false] #[false, false, true, true, true, true, true, true, true, true, true, true, true, true, true, true, true, true, true, true, true, true, true, true, true, true, true, true, true, false, false, false, false] #[false, false, true, true, true, true, true, true, true, true, true, true, true, true, true, true, true, true, true, true, true, true, true, true, true, true, true, true, false, true, false, false, false] rfl rfl rfl rfl rfl rfl (three_of HT_.out (by kernel_rfl)) (by decide) (by decide) (by decide) (fun K hK => ?_) (fun K hK => ?_) (fun K hK => ?_)
                            ·skip
                             refine Fz.lit_step ?hg (N := 62) ?hd (cs := #[.int .u8 83, .int .u8 76]) (t := 5) (n := 2) ?hr ?_; (case hd => rfl); (case hg => rfl); (case hr => first | (go_simp; done) | (go_simp; rfl))
                             intro gA hgA wq201 hA_ hb
                             have n0_ := Aside0.mk (show w.heap.size ≤ gA by rw [hgA]; exact (below_size HB.out))
                             have n1_ := Aside0.mk hA_
                             have n2_ := Aside0.mk (blk_below BK117.out hb)
                             have n3_ := Aside0.mk (blk_below BK118.out hb)
                             have n4_ := Aside0.mk (below_step HB.out hb)
                             clear BK117
                             clear BK118
                             clear HB
                             have GA := n0_
                             have HA_ := n1_
                             have BK117 := n2_
                             have BK118 := n3_
                             have HB := n4_
                             clear n0_ n1_ n2_ n3_ n4_
                             (try clear hA_)
                             (try clear hb)
                             (try clear hgA)
                             (try clear hHeld)
                             refine hK.out _ _ ⟨(blk_cell BK117.out 0).trans rfl, (blk_cell BK117.out 1).trans rfl, (blk_cell BK117.out 2).trans rfl, (blk_cell BK117.out 3).trans rfl, (blk_cell BK117.out 4).trans rfl, (blk_cell BK117.out 5).trans rfl, (blk_cell BK117.out 6).trans rfl, (blk_cell BK117.out 7).trans rfl, (blk_cell BK117.out 8).trans rfl, (blk_cell BK118.out 0).trans rfl, (blk_cell BK118.out 1).trans rfl, (blk_cell BK118.out 2).trans rfl, (blk_cell BK118.out 3).trans rfl, (blk_cell BK118.out 4).trans rfl, (blk_cell BK118.out 5).trans rfl⟩ (fun _ => ?_)
                             clear hK K
                             refine norm_ (a' := ?_) ?_ ?_
                             rotate_left
                             ·show Act.put _ (some 62) _ = _
                              simp only [Act.put, List.setIfInBounds_toArray, List.set_cons_zero, List.set_cons_succ, i64_w, i32_w]
                              rfl
                             exact norm_ (by first | (simp only [putAll, Act.put, List.setIfInBounds_toArray, List.set_cons_zero, List.set_cons_succ]; done) | (simp only [putAll, Act.put, List.setIfInBounds_toArray, List.set_cons_zero, List.set_cons_succ]; rfl)) (hP1 (gA) _ ⟨GA.out, HA_.out, BK117.out, BK118.out, HB.out⟩)
                            ·skip
                             refine Kd.R_lit_step (Kd.int .u64) _ 48 ?hg (N := 90) ?hd (xs := ([IntKind.u64.wrap (a0_0), IntKind.u64.wrap (a0_1), x5_40, IntKind.u64.wrap (a0_3), IntKind.u64.wrap (a0_4), IntKind.u64.wrap (a0_5), IntKind.u64.wrap (a0_6), IntKind.u64.wrap (a0_7), IntKind.u64.wrap ((a0_8.size : Int))] : List Int)) (inner := [.int .u64 (IntKind.u64.wrap (a0_0)), .int .u64 (IntKind.u64.wrap (a0_1)), .int .u64 x5_40, .int .u64 (IntKind.u64.wrap (a0_3)), .int .u64 (IntKind.u64.wrap (a0_4)), .int .u64 (IntKind.u64.wrap (a0_5)), .int .u64 (IntKind.u64.wrap (a0_6)), .int .u64 (IntKind.u64.wrap (a0_7)), .int .u64 (IntKind.u64.wrap ((a0_8.size : Int)))]) (ok := fun _ => True) (okp := fun _ => True) ?hr ?hp (fun _ hk => hk) trivial (Below.refl _ _) (Nat.le_refl _) (by simp) ?_; (case hd => rfl); (case hg => rfl); (case hr => first | (go_simp; done) | (go_simp; rfl)); (case hp => exact (Reps.one (show Kd.M (Kd.int .u64) _ _ _ (IntKind.u64.wrap (a0_0)) [.int .u64 (IntKind.u64.wrap (a0_0))] from rfl) (Reps.one (show Kd.M (Kd.int .u64) _ _ _ (IntKind.u64.wrap (a0_1)) [.int .u64 (IntKind.u64.wrap (a0_1))] from rfl) (Reps.one (show Kd.M (Kd.int .u64) _ _ _ x5_40 [.int .u64 x5_40] from rfl) (Reps.one (show Kd.M (Kd.int .u64) _ _ _ (IntKind.u64.wrap (a0_3)) [.int .u64 (IntKind.u64.wrap (a0_3))] from rfl) (Reps.one (show Kd.M (Kd.int .u64) _ _ _ (IntKind.u64.wrap (a0_4)) [.int .u64 (IntKind.u64.wrap (a0_4))] from rfl) (Reps.one (show Kd.M (Kd.int .u64) _ _ _ (IntKind.u64.wrap (a0_5)) [.int .u64 (IntKind.u64.wrap (a0_5))] from rfl) (Reps.one (show Kd.M (Kd.int .u64) _ _ _ (IntKind.u64.wrap (a0_6)) [.int .u64 (IntKind.u64.wrap (a0_6))] from rfl) (Reps.one (show Kd.M (Kd.int .u64) _ _ _ (IntKind.u64.wrap (a0_7)) [.int .u64 (IntKind.u64.wrap (a0_7))] from rfl) (Reps.one (show Kd.M (Kd.int .u64) _ _ _ (IntKind.u64.wrap ((a0_8.size : Int))) [.int .u64 (IntKind.u64.wrap ((a0_8.size : Int)))] from rfl) (Reps.none _ _)))))))))))
                             intro v123 wq202 ho57 hb hg_ hnew_
                             clear hg_ hnew_
                             (first | rw [← Ny122.out] at ho57 | (simp only [Int.reduceToNat] at ho57; rw [← Ny122.out] at ho57))
                             have n0_ := Aside0.mk (Kd.R_lower ho57 (below_size HB.out))
                             have n1_ := Aside0.mk (blk_below BK117.out hb)
                             have n2_ := Aside0.mk (blk_below BK118.out hb)
                             have n3_ := Aside0.mk (below_step HB.out hb)
                             clear BK117
                             clear BK118
                             clear HB
                             have HO124 := n0_
                             have BK117 := n1_
                             have BK118 := n2_
                             have HB := n3_
                             clear n0_ n1_ n2_ n3_
                             (try clear hb)
                             (try clear ho57)
                             (try clear hHeld)
                             refine hK.out _ _ ⟨(blk_cell BK117.out 0).trans rfl, (blk_cell BK117.out 1).trans rfl, (blk_cell BK117.out 2).trans rfl, (blk_cell BK117.out 3).trans rfl, (blk_cell BK117.out 4).trans rfl, (blk_cell BK117.out 5).trans rfl, (blk_cell BK117.out 6).trans rfl, (blk_cell BK117.out 7).trans rfl, (blk_cell BK117.out 8).trans rfl, (blk_cell BK118.out 0).trans rfl, (blk_cell BK118.out 1).trans rfl, (blk_cell BK118.out 2).trans rfl, (blk_cell BK118.out 3).trans rfl, (blk_cell BK118.out 4).trans rfl, (blk_cell BK118.out 5).trans rfl⟩ (fun _ => ?_)
                             clear hK K
                             refine norm_ (a' := ?_) ?_ ?_
                             rotate_left
                             ·show Act.put _ (some 90) _ = _
                              simp only [Act.put, List.setIfInBounds_toArray, List.set_cons_zero, List.set_cons_succ, i64_w, i32_w]
                              rfl
                             exact norm_ (by first | (simp only [putAll, Act.put, List.setIfInBounds_toArray, List.set_cons_zero, List.set_cons_succ]; done) | (simp only [putAll, Act.put, List.setIfInBounds_toArray, List.set_cons_zero, List.set_cons_succ]; rfl)) (hP0_28 (v123) _ ⟨HO124.out, BK117.out, BK118.out, HB.out⟩)
                            ·skip
                             refine goes_ Try.func19 (by kernel_rfl) rfl #[] (by rfl) rfl rfl (by (try simp only [List.map_toArray, List.map_cons, List.map_nil]); first | done | rfl | (simp only [List.length_drop, List.length_take]; rfl)) ?_
                             with_reducible refine (line_sizes.calls  t125 _ A45.out).mono ?_
                             rintro e wq203 ⟨v126, rfl, ho0, hb⟩
                             refine ⟨_, rfl, ?_⟩
                             have n0_ := Aside0.mk (Kd.R_lower ho0 (below_size HB.out))
                             have n1_ := Aside0.mk (blk_below BK117.out hb)
                             have n2_ := Aside0.mk (blk_below BK118.out hb)
                             have n3_ := Aside0.mk (below_step HB.out hb)
                             clear BK117
                             clear BK118
                             clear HB
                             have HO127 := n0_
                             have BK117 := n1_
                             have BK118 := n2_
                             have HB := n3_
                             clear n0_ n1_ n2_ n3_
                             (try clear hb)
                             (try clear ho0)
                             (try clear hHeld)
                             refine hK.out _ _ ⟨(blk_cell BK117.out 0).trans rfl, (blk_cell BK117.out 1).trans rfl, (blk_cell BK117.out 2).trans rfl, (blk_cell BK117.out 3).trans rfl, (blk_cell BK117.out 4).trans rfl, (blk_cell BK117.out 5).trans rfl, (blk_cell BK117.out 6).trans rfl, (blk_cell BK117.out 7).trans rfl, (blk_cell BK117.out 8).trans rfl, (blk_cell BK118.out 0).trans rfl, (blk_cell BK118.out 1).trans rfl, (blk_cell BK118.out 2).trans rfl, (blk_cell BK118.out 3).trans rfl, (blk_cell BK118.out 4).trans rfl, (blk_cell BK118.out 5).trans rfl⟩ (fun _ => ?_)
                             clear hK K
                             refine norm_ (a' := ?_) ?_ ?_
                             rotate_left
                             ·show Act.put _ (some 91) _ = _
                              simp only [Act.put, List.setIfInBounds_toArray, List.set_cons_zero, List.set_cons_succ, i64_w, i32_w]
                              rfl
                             exact norm_ (by first | (simp only [putAll, Act.put, List.setIfInBounds_toArray, List.set_cons_zero, List.set_cons_succ]; done) | (simp only [putAll, Act.put, List.setIfInBounds_toArray, List.set_cons_zero, List.set_cons_succ]; rfl)) (hP0_29 (v126) _ ⟨HO127.out, BK117.out, BK118.out, HB.out⟩)
                           ·skip
                            rintro gA wq204 ⟨h0_, h1_, h2_, h3_, h4_⟩
                            have n0_ : Aside0 (w.heap.size ≤ gA) := ⟨h0_⟩
                            have n1_ : Aside0 (wq204.heap[gA]? = some (.cells #[.int .u8 83, .int .u8 76] 5 (0, 0))) := ⟨h1_⟩
                            have n2_ : Aside0 (wq204.heap[gb117]? = some (.cells #[.int .i64 a0_0, .int .i64 a0_1, .bool a0_2, .int .i64 a0_3, .int .i64 a0_4, .int .i64 a0_5, .int .i64 a0_6, .int .i64 a0_7, .string a0_8] 25 (0, 0))) := ⟨h2_⟩
                            have n3_ : Aside0 (wq204.heap[gb118]? = some (.cells #[.int .i64 a0_3, .int .i64 a0_4, .int .i64 a0_5, .int .i64 a0_6, .int .i64 a0_7, .string a0_8] 23 (0, 0))) := ⟨h3_⟩
                            have n4_ : Aside0 (Below w.heap.size w wq204) := ⟨h4_⟩
                            (try clear hHeld)
                            clear BK117 BK118 HB h0_ h1_ h2_ h3_ h4_
                            have GA := n0_
                            have HA_ := n1_
                            have BK117 := n2_
                            have BK118 := n3_
                            have HB := n4_
                            clear n0_ n1_ n2_ n3_ n4_
                            refine norm_ (a' := ?_) ?_ ?_
                            rotate_left
                            ·simp only [putAll, Act.put, List.setIfInBounds_toArray, List.set_cons_zero, List.set_cons_succ]
                             rfl
                            refine three_ (i := 1) (j := 28) (k := 29) (Ni := some 63) (Nj := some 90) (Nk := some 91) #[true, true, true, true, true, true, true, true, true, true, true, true, true, true, true, true, true, true, true, true, true, true, true, true, true, true, true, true, false, false, false, false, false] #[true, false, true, true, true, true, true, true, true, true, true, true, true, true, true, true, true, true, true, true, true, true, true, true, true, true, true, true, true, false, false, false, false] #[true, false, true, true, true, true, true, true, true, true, true, true, true, true, true, true, true, true, true, true, true, true, true, true, true, true, true, true, false, true, false, false, false] rfl rfl rfl rfl rfl rfl (three_of HT_.out (by kernel_rfl)) (by decide) (by decide) (by decide) (fun K hK => ?_) (fun K hK => ?_) (fun K hK => ?_)
                            ·skip
                             refine Fz.conv_step (by rfl) (T := 26) (e := 5) (s := .tmp 62) (g := gA) (n := 2) (c := 2) (cs := #[.int .u8 83, .int .u8 76]) (by rfl) (by rfl) HA_.out Try.underlying26 Try.underlying5 ?_
                             intro wq205 hA_ hg hbl
                             have n0_ := Aside0.mk GA.out
                             have n1_ := Aside0.mk hA_
                             have n2_ := Aside0.mk (blk_grown BK117.out hg (fun h_ => blk_ne BK117.out HA_.out (by decide) (Option.some.inj h_)))
                             have n3_ := Aside0.mk (blk_grown BK118.out hg (fun h_ => blk_ne BK118.out HA_.out (by decide) (Option.some.inj h_)))
                             have n4_ := Aside0.mk (hbl _ _ HB.out GA.out)
                             clear GA
                             clear HA_
                             clear BK117
                             clear BK118
                             clear HB
                             have GA := n0_
                             have HA_ := n1_
                             have BK117 := n2_
                             have BK118 := n3_
                             have HB := n4_
                             clear n0_ n1_ n2_ n3_ n4_
                             (try clear hA_)
                             (try clear hg)
                             (try clear hbl)
                             (try clear hHeld)
                             refine hK.out _ _ ⟨(blk_cell BK117.out 0).trans rfl, (blk_cell BK117.out 1).trans rfl, (blk_cell BK117.out 2).trans rfl, (blk_cell BK117.out 3).trans rfl, (blk_cell BK117.out 4).trans rfl, (blk_cell BK117.out 5).trans rfl, (blk_cell BK117.out 6).trans rfl, (blk_cell BK117.out 7).trans rfl, (blk_cell BK117.out 8).trans rfl, (blk_cell BK118.out 0).trans rfl, (blk_cell BK118.out 1).trans rfl, (blk_cell BK118.out 2).trans rfl, (blk_cell BK118.out 3).trans rfl, (blk_cell BK118.out 4).trans rfl, (blk_cell BK118.out 5).trans rfl⟩ (fun _ => ?_)
                             clear hK K
                             refine norm_ (a' := ?_) ?_ ?_
                             rotate_left
                             ·show Act.put _ (some 63) _ = _
                              simp only [Act.put, List.setIfInBounds_toArray, List.set_cons_zero, List.set_cons_succ, i64_w, i32_w]
                              rfl
                             exact norm_ (by first | (simp only [putAll, Act.put, List.setIfInBounds_toArray, List.set_cons_zero, List.set_cons_succ]; done) | (simp only [putAll, Act.put, List.setIfInBounds_toArray, List.set_cons_zero, List.set_cons_succ]; rfl)) (hP2 (gA) _ ⟨GA.out, HA_.out, BK117.out, BK118.out, HB.out⟩)
                            ·skip
                             refine Kd.R_lit_step (Kd.int .u64) _ 48 ?hg (N := 90) ?hd (xs := ([IntKind.u64.wrap (a0_0), IntKind.u64.wrap (a0_1), x5_40, IntKind.u64.wrap (a0_3), IntKind.u64.wrap (a0_4), IntKind.u64.wrap (a0_5), IntKind.u64.wrap (a0_6), IntKind.u64.wrap (a0_7), IntKind.u64.wrap ((a0_8.size : Int))] : List Int)) (inner := [.int .u64 (IntKind.u64.wrap (a0_0)), .int .u64 (IntKind.u64.wrap (a0_1)), .int .u64 x5_40, .int .u64 (IntKind.u64.wrap (a0_3)), .int .u64 (IntKind.u64.wrap (a0_4)), .int .u64 (IntKind.u64.wrap (a0_5)), .int .u64 (IntKind.u64.wrap (a0_6)), .int .u64 (IntKind.u64.wrap (a0_7)), .int .u64 (IntKind.u64.wrap ((a0_8.size : Int)))]) (ok := fun _ => True) (okp := fun _ => True) ?hr ?hp (fun _ hk => hk) trivial (Below.refl _ _) (Nat.le_refl _) (by simp) ?_; (case hd => rfl); (case hg => rfl); (case hr => first | (go_simp; done) | (go_simp; rfl)); (case hp => exact (Reps.one (show Kd.M (Kd.int .u64) _ _ _ (IntKind.u64.wrap (a0_0)) [.int .u64 (IntKind.u64.wrap (a0_0))] from rfl) (Reps.one (show Kd.M (Kd.int .u64) _ _ _ (IntKind.u64.wrap (a0_1)) [.int .u64 (IntKind.u64.wrap (a0_1))] from rfl) (Reps.one (show Kd.M (Kd.int .u64) _ _ _ x5_40 [.int .u64 x5_40] from rfl) (Reps.one (show Kd.M (Kd.int .u64) _ _ _ (IntKind.u64.wrap (a0_3)) [.int .u64 (IntKind.u64.wrap (a0_3))] from rfl) (Reps.one (show Kd.M (Kd.int .u64) _ _ _ (IntKind.u64.wrap (a0_4)) [.int .u64 (IntKind.u64.wrap (a0_4))] from rfl) (Reps.one (show Kd.M (Kd.int .u64) _ _ _ (IntKind.u64.wrap (a0_5)) [.int .u64 (IntKind.u64.wrap (a0_5))] from rfl) (Reps.one (show Kd.M (Kd.int .u64) _ _ _ (IntKind.u64.wrap (a0_6)) [.int .u64 (IntKind.u64.wrap (a0_6))] from rfl) (Reps.one (show Kd.M (Kd.int .u64) _ _ _ (IntKind.u64.wrap (a0_7)) [.int .u64 (IntKind.u64.wrap (a0_7))] from rfl) (Reps.one (show Kd.M (Kd.int .u64) _ _ _ (IntKind.u64.wrap ((a0_8.size : Int))) [.int .u64 (IntKind.u64.wrap ((a0_8.size : Int)))] from rfl) (Reps.none _ _)))))))))))
                             intro v123 wq206 ho57 hb hg_ hnew_
                             clear hg_ hnew_
                             (first | rw [← Ny122.out] at ho57 | (simp only [Int.reduceToNat] at ho57; rw [← Ny122.out] at ho57))
                             have n0_ := Aside0.mk GA.out
                             have n1_ := Aside0.mk (blk_below HA_.out hb)
                             have n2_ := Aside0.mk (Kd.R_lower ho57 (below_size HB.out))
                             have n3_ := Aside0.mk (blk_below BK117.out hb)
                             have n4_ := Aside0.mk (blk_below BK118.out hb)
                             have n5_ := Aside0.mk (below_step HB.out hb)
                             clear GA
                             clear HA_
                             clear BK117
                             clear BK118
                             clear HB
                             have GA := n0_
                             have HA_ := n1_
                             have HO124 := n2_
                             have BK117 := n3_
                             have BK118 := n4_
                             have HB := n5_
                             clear n0_ n1_ n2_ n3_ n4_ n5_
                             (try clear hb)
                             (try clear ho57)
                             (try clear hHeld)
                             refine hK.out _ _ ⟨(blk_cell BK117.out 0).trans rfl, (blk_cell BK117.out 1).trans rfl, (blk_cell BK117.out 2).trans rfl, (blk_cell BK117.out 3).trans rfl, (blk_cell BK117.out 4).trans rfl, (blk_cell BK117.out 5).trans rfl, (blk_cell BK117.out 6).trans rfl, (blk_cell BK117.out 7).trans rfl, (blk_cell BK117.out 8).trans rfl, (blk_cell BK118.out 0).trans rfl, (blk_cell BK118.out 1).trans rfl, (blk_cell BK118.out 2).trans rfl, (blk_cell BK118.out 3).trans rfl, (blk_cell BK118.out 4).trans rfl, (blk_cell BK118.out 5).trans rfl⟩ (fun _ => ?_)
                             clear hK K
                             refine norm_ (a' := ?_) ?_ ?_
                             rotate_left
                             ·show Act.put _ (some 90) _ = _
                              simp only [Act.put, List.setIfInBounds_toArray, List.set_cons_zero, List.set_cons_succ, i64_w, i32_w]
                              rfl
                             exact norm_ (by first | (simp only [putAll, Act.put, List.setIfInBounds_toArray, List.set_cons_zero, List.set_cons_succ]; done) | (simp only [putAll, Act.put, List.setIfInBounds_toArray, List.set_cons_zero, List.set_cons_succ]; rfl)) (hP1_28 (gA, v123) _ ⟨GA.out, HA_.out, HO124.out, BK117.out, BK118.out, HB.out⟩)
                            ·skip
                             refine goes_ Try.func19 (by kernel_rfl) rfl #[] (by rfl) rfl rfl (by (try simp only [List.map_toArray, List.map_cons, List.map_nil]); first | done | rfl | (simp only [List.length_drop, List.length_take]; rfl)) ?_
                             with_reducible refine (line_sizes.calls  t125 _ A45.out).mono ?_
                             rintro e wq207 ⟨v126, rfl, ho0, hb⟩
                             refine ⟨_, rfl, ?_⟩
                             have n0_ := Aside0.mk GA.out
                             have n1_ := Aside0.mk (blk_below HA_.out hb)
                             have n2_ := Aside0.mk (Kd.R_lower ho0 (below_size HB.out))
                             have n3_ := Aside0.mk (blk_below BK117.out hb)
                             have n4_ := Aside0.mk (blk_below BK118.out hb)
                             have n5_ := Aside0.mk (below_step HB.out hb)
                             clear GA
                             clear HA_
                             clear BK117
                             clear BK118
                             clear HB
                             have GA := n0_
                             have HA_ := n1_
                             have HO127 := n2_
                             have BK117 := n3_
                             have BK118 := n4_
                             have HB := n5_
                             clear n0_ n1_ n2_ n3_ n4_ n5_
                             (try clear hb)
                             (try clear ho0)
                             (try clear hHeld)
                             refine hK.out _ _ ⟨(blk_cell BK117.out 0).trans rfl, (blk_cell BK117.out 1).trans rfl, (blk_cell BK117.out 2).trans rfl, (blk_cell BK117.out 3).trans rfl, (blk_cell BK117.out 4).trans rfl, (blk_cell BK117.out 5).trans rfl, (blk_cell BK117.out 6).trans rfl, (blk_cell BK117.out 7).trans rfl, (blk_cell BK117.out 8).trans rfl, (blk_cell BK118.out 0).trans rfl, (blk_cell BK118.out 1).trans rfl, (blk_cell BK118.out 2).trans rfl, (blk_cell BK118.out 3).trans rfl, (blk_cell BK118.out 4).trans rfl, (blk_cell BK118.out 5).trans rfl⟩ (fun _ => ?_)
                             clear hK K
                             refine norm_ (a' := ?_) ?_ ?_
                             rotate_left
                             ·show Act.put _ (some 91) _ = _
                              simp only [Act.put, List.setIfInBounds_toArray, List.set_cons_zero, List.set_cons_succ, i64_w, i32_w]
                              rfl
                             exact norm_ (by first | (simp only [putAll, Act.put, List.setIfInBounds_toArray, List.set_cons_zero, List.set_cons_succ]; done) | (simp only [putAll, Act.put, List.setIfInBounds_toArray, List.set_cons_zero, List.set_cons_succ]; rfl)) (hP1_29 (gA, v126) _ ⟨GA.out, HA_.out, HO127.out, BK117.out, BK118.out, HB.out⟩)
                          ·skip
                           rintro v126 wq208 ⟨h0_, h1_, h2_, h3_⟩
                           have n0_ : Aside0 (Kd.R (Kd.int .i64) 3 wq208 w.heap.size (fun _ => True) v126 t125) := ⟨h0_⟩
                           have n1_ : Aside0 (wq208.heap[gb117]? = some (.cells #[.int .i64 a0_0, .int .i64 a0_1, .bool a0_2, .int .i64 a0_3, .int .i64 a0_4, .int .i64 a0_5, .int .i64 a0_6, .int .i64 a0_7, .string a0_8] 25 (0, 0))) := ⟨h1_⟩
                           have n2_ : Aside0 (wq208.heap[gb118]? = some (.cells #[.int .i64 a0_3, .int .i64 a0_4, .int .i64 a0_5, .int .i64 a0_6, .int .i64 a0_7, .string a0_8] 23 (0, 0))) := ⟨h2_⟩
                           have n3_ : Aside0 (Below w.heap.size w wq208) := ⟨h3_⟩
                           (try clear hHeld)
                           clear BK117 BK118 HB h0_ h1_ h2_ h3_
                           have HO127 := n0_
                           have BK117 := n1_
                           have BK118 := n2_
                           have HB := n3_
                           clear n0_ n1_ n2_ n3_
                           refine norm_ (a' := ?_) ?_ ?_
                           rotate_left
                           ·simp only [putAll, Act.put, List.setIfInBounds_toArray, List.set_cons_zero, List.set_cons_succ]
                            rfl
                           refine two_ (i := 0) (j := 28) (Ni := some 62) (Nj := some 90) #[true, false, true, true, true, true, true, true, true, true, true, true, true, true, true, true, true, true, true, true, true, true, true, true, true, true, true, true, false, true, false, false, false] #[false, false, true, true, true, true, true, true, true, true, true, true, true, true, true, true, true, true, true, true, true, true, true, true, true, true, true, true, true, true, false, false, false] rfl rfl rfl rfl (two_of HT_.out (by kernel_rfl)) (by decide) (by decide) (fun K hK => ?_) (fun K hK => ?_)
                           ·skip
                            refine Fz.lit_step ?hg (N := 62) ?hd (cs := #[.int .u8 83, .int .u8 76]) (t := 5) (n := 2) ?hr ?_; (case hd => rfl); (case hg => rfl); (case hr => first | (go_simp; done) | (go_simp; rfl))
                            intro gA hgA wq209 hA_ hb
                            have n0_ := Aside0.mk (show w.heap.size ≤ gA by rw [hgA]; exact (below_size HB.out))
                            have n1_ := Aside0.mk hA_
                            have n2_ := Aside0.mk (Kd.R_below HO127.out hb)
                            have n3_ := Aside0.mk (blk_below BK117.out hb)
                            have n4_ := Aside0.mk (blk_below BK118.out hb)
                            have n5_ := Aside0.mk (below_step HB.out hb)
                            clear HO127
                            clear BK117
                            clear BK118
                            clear HB
                            have GA := n0_
                            have HA_ := n1_
                            have HO127 := n2_
                            have BK117 := n3_
                            have BK118 := n4_
                            have HB := n5_
                            clear n0_ n1_ n2_ n3_ n4_ n5_
                            (try clear hA_)
                            (try clear hb)
                            (try clear hgA)
                            (try clear hHeld)
                            refine hK.out _ _ ⟨(blk_cell BK117.out 0).trans rfl, (blk_cell BK117.out 1).trans rfl, (blk_cell BK117.out 2).trans rfl, (blk_cell BK117.out 3).trans rfl, (blk_cell BK117.out 4).trans rfl, (blk_cell BK117.out 5).trans rfl, (blk_cell BK117.out 6).trans rfl, (blk_cell BK117.out 7).trans rfl, (blk_cell BK117.out 8).trans rfl, (blk_cell BK118.out 0).trans rfl, (blk_cell BK118.out 1).trans rfl, (blk_cell BK118.out 2).trans rfl, (blk_cell BK118.out 3).trans rfl, (blk_cell BK118.out 4).trans rfl, (blk_cell BK118.out 5).trans rfl⟩ (fun _ => ?_)
                            clear hK K
                            refine norm_ (a' := ?_) ?_ ?_
                            rotate_left
                            ·show Act.put _ (some 62) _ = _
                             simp only [Act.put, List.setIfInBounds_toArray, List.set_cons_zero, List.set_cons_succ, i64_w, i32_w]
                             rfl
                            exact norm_ (by first | (simp only [putAll, Act.put, List.setIfInBounds_toArray, List.set_cons_zero, List.set_cons_succ]; done) | (simp only [putAll, Act.put, List.setIfInBounds_toArray, List.set_cons_zero, List.set_cons_succ]; rfl)) (hP1_29 (gA, v126) _ ⟨GA.out, HA_.out, HO127.out, BK117.out, BK118.out, HB.out⟩)
                           ·skip
                            refine Kd.R_lit_step (Kd.int .u64) _ 48 ?hg (N := 90) ?hd (xs := ([IntKind.u64.wrap (a0_0), IntKind.u64.wrap (a0_1), x5_40, IntKind.u64.wrap (a0_3), IntKind.u64.wrap (a0_4), IntKind.u64.wrap (a0_5), IntKind.u64.wrap (a0_6), IntKind.u64.wrap (a0_7), IntKind.u64.wrap ((a0_8.size : Int))] : List Int)) (inner := [.int .u64 (IntKind.u64.wrap (a0_0)), .int .u64 (IntKind.u64.wrap (a0_1)), .int .u64 x5_40, .int .u64 (IntKind.u64.wrap (a0_3)), .int .u64 (IntKind.u64.wrap (a0_4)), .int .u64 (IntKind.u64.wrap (a0_5)), .int .u64 (IntKind.u64.wrap (a0_6)), .int .u64 (IntKind.u64.wrap (a0_7)), .int .u64 (IntKind.u64.wrap ((a0_8.size : Int)))]) (ok := fun _ => True) (okp := fun _ => True) ?hr ?hp (fun _ hk => hk) trivial (Below.refl _ _) (Nat.le_refl _) (by simp) ?_; (case hd => rfl); (case hg => rfl); (case hr => first | (go_simp; done) | (go_simp; rfl)); (case hp => exact (Reps.one (show Kd.M (Kd.int .u64) _ _ _ (IntKind.u64.wrap (a0_0)) [.int .u64 (IntKind.u64.wrap (a0_0))] from rfl) (Reps.one (show Kd.M (Kd.int .u64) _ _ _ (IntKind.u64.wrap (a0_1)) [.int .u64 (IntKind.u64.wrap (a0_1))] from rfl) (Reps.one (show Kd.M (Kd.int .u64) _ _ _ x5_40 [.int .u64 x5_40] from rfl) (Reps.one (show Kd.M (Kd.int .u64) _ _ _ (IntKind.u64.wrap (a0_3)) [.int .u64 (IntKind.u64.wrap (a0_3))] from rfl) (Reps.one (show Kd.M (Kd.int .u64) _ _ _ (IntKind.u64.wrap (a0_4)) [.int .u64 (IntKind.u64.wrap (a0_4))] from rfl) (Reps.one (show Kd.M (Kd.int .u64) _ _ _ (IntKind.u64.wrap (a0_5)) [.int .u64 (IntKind.u64.wrap (a0_5))] from rfl) (Reps.one (show Kd.M (Kd.int .u64) _ _ _ (IntKind.u64.wrap (a0_6)) [.int .u64 (IntKind.u64.wrap (a0_6))] from rfl) (Reps.one (show Kd.M (Kd.int .u64) _ _ _ (IntKind.u64.wrap (a0_7)) [.int .u64 (IntKind.u64.wrap (a0_7))] from rfl) (Reps.one (show Kd.M (Kd.int .u64) _ _ _ (IntKind.u64.wrap ((a0_8.size : Int))) [.int .u64 (IntKind.u64.wrap ((a0_8.size : Int)))] from rfl) (Reps.none _ _)))))))))))
                            intro v123 wq210 ho57 hb hg_ hnew_
                            clear hg_ hnew_
                            (first | rw [← Ny122.out] at ho57 | (simp only [Int.reduceToNat] at ho57; rw [← Ny122.out] at ho57))
                            have n0_ := Aside0.mk (Kd.R_lower ho57 (below_size HB.out))
                            have n1_ := Aside0.mk (Kd.R_below HO127.out hb)
                            have n2_ := Aside0.mk (blk_below BK117.out hb)
                            have n3_ := Aside0.mk (blk_below BK118.out hb)
                            have n4_ := Aside0.mk (below_step HB.out hb)
                            clear HO127
                            clear BK117
                            clear BK118
                            clear HB
                            have HO124 := n0_
                            have HO127 := n1_
                            have BK117 := n2_
                            have BK118 := n3_
                            have HB := n4_
                            clear n0_ n1_ n2_ n3_ n4_
                            (try clear hb)
                            (try clear ho57)
                            (try clear hHeld)
                            refine hK.out _ _ ⟨(blk_cell BK117.out 0).trans rfl, (blk_cell BK117.out 1).trans rfl, (blk_cell BK117.out 2).trans rfl, (blk_cell BK117.out 3).trans rfl, (blk_cell BK117.out 4).trans rfl, (blk_cell BK117.out 5).trans rfl, (blk_cell BK117.out 6).trans rfl, (blk_cell BK117.out 7).trans rfl, (blk_cell BK117.out 8).trans rfl, (blk_cell BK118.out 0).trans rfl, (blk_cell BK118.out 1).trans rfl, (blk_cell BK118.out 2).trans rfl, (blk_cell BK118.out 3).trans rfl, (blk_cell BK118.out 4).trans rfl, (blk_cell BK118.out 5).trans rfl⟩ (fun _ => ?_)
                            clear hK K
                            refine norm_ (a' := ?_) ?_ ?_
                            rotate_left
                            ·show Act.put _ (some 90) _ = _
                             simp only [Act.put, List.setIfInBounds_toArray, List.set_cons_zero, List.set_cons_succ, i64_w, i32_w]
                             rfl
                            exact norm_ (by first | (simp only [putAll, Act.put, List.setIfInBounds_toArray, List.set_cons_zero, List.set_cons_succ]; done) | (simp only [putAll, Act.put, List.setIfInBounds_toArray, List.set_cons_zero, List.set_cons_succ]; rfl)) (hP0_28_29 (v123, v126) _ ⟨HO124.out, HO127.out, BK117.out, BK118.out, HB.out⟩)
                         ·skip
                          rintro v123 wq211 ⟨h0_, h1_, h2_, h3_⟩
                          have n0_ : Aside0 (Kd.R (Kd.int .u64) 48 wq211 w.heap.size (fun _ => True) v123 y122) := ⟨h0_⟩
                          have n1_ : Aside0 (wq211.heap[gb117]? = some (.cells #[.int .i64 a0_0, .int .i64 a0_1, .bool a0_2, .int .i64 a0_3, .int .i64 a0_4, .int .i64 a0_5, .int .i64 a0_6, .int .i64 a0_7, .string a0_8] 25 (0, 0))) := ⟨h1_⟩
                          have n2_ : Aside0 (wq211.heap[gb118]? = some (.cells #[.int .i64 a0_3, .int .i64 a0_4, .int .i64 a0_5, .int .i64 a0_6, .int .i64 a0_7, .string a0_8] 23 (0, 0))) := ⟨h2_⟩
                          have n3_ : Aside0 (Below w.heap.size w wq211) := ⟨h3_⟩
                          (try clear hHeld)
                          clear BK117 BK118 HB h0_ h1_ h2_ h3_
                          have HO124 := n0_
                          have BK117 := n1_
                          have BK118 := n2_
                          have HB := n3_
                          clear n0_ n1_ n2_ n3_
                          refine norm_ (a' := ?_) ?_ ?_
                          rotate_left
                          ·simp only [putAll, Act.put, List.setIfInBounds_toArray, List.set_cons_zero, List.set_cons_succ]
                           rfl
                          refine two_ (i := 0) (j := 29) (Ni := some 62) (Nj := some 91) #[true, false, true, true, true, true, true, true, true, true, true, true, true, true, true, true, true, true, true, true, true, true, true, true, true, true, true, true, true, false, false, false, false] #[false, false, true, true, true, true, true, true, true, true, true, true, true, true, true, true, true, true, true, true, true, true, true, true, true, true, true, true, true, true, false, false, false] rfl rfl rfl rfl (two_of HT_.out (by kernel_rfl)) (by decide) (by decide) (fun K hK => ?_) (fun K hK => ?_)
                          ·skip
                           refine Fz.lit_step ?hg (N := 62) ?hd (cs := #[.int .u8 83, .int .u8 76]) (t := 5) (n := 2) ?hr ?_; (case hd => rfl); (case hg => rfl); (case hr => first | (go_simp; done) | (go_simp; rfl))
                           intro gA hgA wq212 hA_ hb
                           have n0_ := Aside0.mk (show w.heap.size ≤ gA by rw [hgA]; exact (below_size HB.out))
                           have n1_ := Aside0.mk hA_
                           have n2_ := Aside0.mk (Kd.R_below HO124.out hb)
                           have n3_ := Aside0.mk (blk_below BK117.out hb)
                           have n4_ := Aside0.mk (blk_below BK118.out hb)
                           have n5_ := Aside0.mk (below_step HB.out hb)
                           clear HO124
                           clear BK117
                           clear BK118
                           clear HB
                           have GA := n0_
                           have HA_ := n1_
                           have HO124 := n2_
                           have BK117 := n3_
                           have BK118 := n4_
                           have HB := n5_
                           clear n0_ n1_ n2_ n3_ n4_ n5_
                           (try clear hA_)
                           (try clear hb)
                           (try clear hgA)
                           (try clear hHeld)
                           refine hK.out _ _ ⟨(blk_cell BK117.out 0).trans rfl, (blk_cell BK117.out 1).trans rfl, (blk_cell BK117.out 2).trans rfl, (blk_cell BK117.out 3).trans rfl, (blk_cell BK117.out 4).trans rfl, (blk_cell BK117.out 5).trans rfl, (blk_cell BK117.out 6).trans rfl, (blk_cell BK117.out 7).trans rfl, (blk_cell BK117.out 8).trans rfl, (blk_cell BK118.out 0).trans rfl, (blk_cell BK118.out 1).trans rfl, (blk_cell BK118.out 2).trans rfl, (blk_cell BK118.out 3).trans rfl, (blk_cell BK118.out 4).trans rfl, (blk_cell BK118.out 5).trans rfl⟩ (fun _ => ?_)
                           clear hK K
                           refine norm_ (a' := ?_) ?_ ?_
                           rotate_left
                           ·show Act.put _ (some 62) _ = _
                            simp only [Act.put, List.setIfInBounds_toArray, List.set_cons_zero, List.set_cons_succ, i64_w, i32_w]
                            rfl
                           exact norm_ (by first | (simp only [putAll, Act.put, List.setIfInBounds_toArray, List.set_cons_zero, List.set_cons_succ]; done) | (simp only [putAll, Act.put, List.setIfInBounds_toArray, List.set_cons_zero, List.set_cons_succ]; rfl)) (hP1_28 (gA, v123) _ ⟨GA.out, HA_.out, HO124.out, BK117.out, BK118.out, HB.out⟩)
                          ·skip
                           refine goes_ Try.func19 (by kernel_rfl) rfl #[] (by rfl) rfl rfl (by (try simp only [List.map_toArray, List.map_cons, List.map_nil]); first | done | rfl | (simp only [List.length_drop, List.length_take]; rfl)) ?_
                           with_reducible refine (line_sizes.calls  t125 _ A45.out).mono ?_
                           rintro e wq213 ⟨v126, rfl, ho0, hb⟩
                           refine ⟨_, rfl, ?_⟩
                           have n0_ := Aside0.mk (Kd.R_below HO124.out hb)
                           have n1_ := Aside0.mk (Kd.R_lower ho0 (below_size HB.out))
                           have n2_ := Aside0.mk (blk_below BK117.out hb)
                           have n3_ := Aside0.mk (blk_below BK118.out hb)
                           have n4_ := Aside0.mk (below_step HB.out hb)
                           clear HO124
                           clear BK117
                           clear BK118
                           clear HB
                           have HO124 := n0_
                           have HO127 := n1_
                           have BK117 := n2_
                           have BK118 := n3_
                           have HB := n4_
                           clear n0_ n1_ n2_ n3_ n4_
                           (try clear hb)
                           (try clear ho0)
                           (try clear hHeld)
                           refine hK.out _ _ ⟨(blk_cell BK117.out 0).trans rfl, (blk_cell BK117.out 1).trans rfl, (blk_cell BK117.out 2).trans rfl, (blk_cell BK117.out 3).trans rfl, (blk_cell BK117.out 4).trans rfl, (blk_cell BK117.out 5).trans rfl, (blk_cell BK117.out 6).trans rfl, (blk_cell BK117.out 7).trans rfl, (blk_cell BK117.out 8).trans rfl, (blk_cell BK118.out 0).trans rfl, (blk_cell BK118.out 1).trans rfl, (blk_cell BK118.out 2).trans rfl, (blk_cell BK118.out 3).trans rfl, (blk_cell BK118.out 4).trans rfl, (blk_cell BK118.out 5).trans rfl⟩ (fun _ => ?_)
                           clear hK K
                           refine norm_ (a' := ?_) ?_ ?_
                           rotate_left
                           ·show Act.put _ (some 91) _ = _
                            simp only [Act.put, List.setIfInBounds_toArray, List.set_cons_zero, List.set_cons_succ, i64_w, i32_w]
                            rfl
                           exact norm_ (by first | (simp only [putAll, Act.put, List.setIfInBounds_toArray, List.set_cons_zero, List.set_cons_succ]; done) | (simp only [putAll, Act.put, List.setIfInBounds_toArray, List.set_cons_zero, List.set_cons_succ]; rfl)) (hP0_28_29 (v123, v126) _ ⟨HO124.out, HO127.out, BK117.out, BK118.out, HB.out⟩)
                        ·skip
                         rintro gA wq214 ⟨h0_, h1_, h2_, h3_, h4_⟩
                         have n0_ : Aside0 (w.heap.size ≤ gA) := ⟨h0_⟩
                         have n1_ : Aside0 (wq214.heap[gA]? = some (.cells #[.int .u8 83, .int .u8 76] 5 (2, 3))) := ⟨h1_⟩
                         have n2_ : Aside0 (wq214.heap[gb117]? = some (.cells #[.int .i64 a0_0, .int .i64 a0_1, .bool a0_2, .int .i64 a0_3, .int .i64 a0_4, .int .i64 a0_5, .int .i64 a0_6, .int .i64 a0_7, .string a0_8] 25 (0, 0))) := ⟨h2_⟩
                         have n3_ : Aside0 (wq214.heap[gb118]? = some (.cells #[.int .i64 a0_3, .int .i64 a0_4, .int .i64 a0_5, .int .i64 a0_6, .int .i64 a0_7, .string a0_8] 23 (0, 0))) := ⟨h3_⟩
                         have n4_ : Aside0 (Below w.heap.size w wq214) := ⟨h4_⟩
                         (try clear hHeld)
                         clear BK117 BK118 HB h0_ h1_ h2_ h3_ h4_
                         have GA := n0_
                         have HA_ := n1_
                         have BK117 := n2_
                         have BK118 := n3_
                         have HB := n4_
                         clear n0_ n1_ n2_ n3_ n4_
                         refine norm_ (a' := ?_) ?_ ?_
                         rotate_left
                         ·simp only [putAll, Act.put, List.setIfInBounds_toArray, List.set_cons_zero, List.set_cons_succ]
                          rfl
                         refine two_ (i := 28) (j := 29) (Ni := some 90) (Nj := some 91) #[true, true, true, true, true, true, true, true, true, true, true, true, true, true, true, true, true, true, true, true, true, true, true, true, true, true, true, true, true, false, false, false, false] #[true, true, true, true, true, true, true, true, true, true, true, true, true, true, true, true, true, true, true, true, true, true, true, true, true, true, true, true, false, true, false, false, false] rfl rfl rfl rfl (two_of HT_.out (by kernel_rfl)) (by decide) (by decide) (fun K hK => ?_) (fun K hK => ?_)
                         ·skip
                          refine Kd.R_lit_step (Kd.int .u64) _ 48 ?hg (N := 90) ?hd (xs := ([IntKind.u64.wrap (a0_0), IntKind.u64.wrap (a0_1), x5_40, IntKind.u64.wrap (a0_3), IntKind.u64.wrap (a0_4), IntKind.u64.wrap (a0_5), IntKind.u64.wrap (a0_6), IntKind.u64.wrap (a0_7), IntKind.u64.wrap ((a0_8.size : Int))] : List Int)) (inner := [.int .u64 (IntKind.u64.wrap (a0_0)), .int .u64 (IntKind.u64.wrap (a0_1)), .int .u64 x5_40, .int .u64 (IntKind.u64.wrap (a0_3)), .int .u64 (IntKind.u64.wrap (a0_4)), .int .u64 (IntKind.u64.wrap (a0_5)), .int .u64 (IntKind.u64.wrap (a0_6)), .int .u64 (IntKind.u64.wrap (a0_7)), .int .u64 (IntKind.u64.wrap ((a0_8.size : Int)))]) (ok := fun _ => True) (okp := fun _ => True) ?hr ?hp (fun _ hk => hk) trivial (Below.refl _ _) (Nat.le_refl _) (by simp) ?_; (case hd => rfl); (case hg => rfl); (case hr => first | (go_simp; done) | (go_simp; rfl)); (case hp => exact (Reps.one (show Kd.M (Kd.int .u64) _ _ _ (IntKind.u64.wrap (a0_0)) [.int .u64 (IntKind.u64.wrap (a0_0))] from rfl) (Reps.one (show Kd.M (Kd.int .u64) _ _ _ (IntKind.u64.wrap (a0_1)) [.int .u64 (IntKind.u64.wrap (a0_1))] from rfl) (Reps.one (show Kd.M (Kd.int .u64) _ _ _ x5_40 [.int .u64 x5_40] from rfl) (Reps.one (show Kd.M (Kd.int .u64) _ _ _ (IntKind.u64.wrap (a0_3)) [.int .u64 (IntKind.u64.wrap (a0_3))] from rfl) (Reps.one (show Kd.M (Kd.int .u64) _ _ _ (IntKind.u64.wrap (a0_4)) [.int .u64 (IntKind.u64.wrap (a0_4))] from rfl) (Reps.one (show Kd.M (Kd.int .u64) _ _ _ (IntKind.u64.wrap (a0_5)) [.int .u64 (IntKind.u64.wrap (a0_5))] from rfl) (Reps.one (show Kd.M (Kd.int .u64) _ _ _ (IntKind.u64.wrap (a0_6)) [.int .u64 (IntKind.u64.wrap (a0_6))] from rfl) (Reps.one (show Kd.M (Kd.int .u64) _ _ _ (IntKind.u64.wrap (a0_7)) [.int .u64 (IntKind.u64.wrap (a0_7))] from rfl) (Reps.one (show Kd.M (Kd.int .u64) _ _ _ (IntKind.u64.wrap ((a0_8.size : Int))) [.int .u64 (IntKind.u64.wrap ((a0_8.size : Int)))] from rfl) (Reps.none _ _)))))))))))
                          intro v123 wq215 ho57 hb hg_ hnew_
                          clear hg_ hnew_
                          (first | rw [← Ny122.out] at ho57 | (simp only [Int.reduceToNat] at ho57; rw [← Ny122.out] at ho57))
                          have n0_ := Aside0.mk GA.out
                          have n1_ := Aside0.mk (blk_below HA_.out hb)
                          have n2_ := Aside0.mk (Kd.R_lower ho57 (below_size HB.out))
                          have n3_ := Aside0.mk (blk_below BK117.out hb)
                          have n4_ := Aside0.mk (blk_below BK118.out hb)
                          have n5_ := Aside0.mk (below_step HB.out hb)
                          clear GA
                          clear HA_
                          clear BK117
                          clear BK118
                          clear HB
                          have GA := n0_
                          have HA_ := n1_
                          have HO124 := n2_
                          have BK117 := n3_
                          have BK118 := n4_
                          have HB := n5_
                          clear n0_ n1_ n2_ n3_ n4_ n5_
                          (try clear hb)
                          (try clear ho57)
                          (try clear hHeld)
                          refine hK.out _ _ ⟨(blk_cell BK117.out 0).trans rfl, (blk_cell BK117.out 1).trans rfl, (blk_cell BK117.out 2).trans rfl, (blk_cell BK117.out 3).trans rfl, (blk_cell BK117.out 4).trans rfl, (blk_cell BK117.out 5).trans rfl, (blk_cell BK117.out 6).trans rfl, (blk_cell BK117.out 7).trans rfl, (blk_cell BK117.out 8).trans rfl, (blk_cell BK118.out 0).trans rfl, (blk_cell BK118.out 1).trans rfl, (blk_cell BK118.out 2).trans rfl, (blk_cell BK118.out 3).trans rfl, (blk_cell BK118.out 4).trans rfl, (blk_cell BK118.out 5).trans rfl⟩ (fun _ => ?_)
                          clear hK K
                          refine norm_ (a' := ?_) ?_ ?_
                          rotate_left
                          ·show Act.put _ (some 90) _ = _
                           simp only [Act.put, List.setIfInBounds_toArray, List.set_cons_zero, List.set_cons_succ, i64_w, i32_w]
                           rfl
                          exact norm_ (by first | (simp only [putAll, Act.put, List.setIfInBounds_toArray, List.set_cons_zero, List.set_cons_succ]; done) | (simp only [putAll, Act.put, List.setIfInBounds_toArray, List.set_cons_zero, List.set_cons_succ]; rfl)) (hP2_28 (gA, v123) _ ⟨GA.out, HA_.out, HO124.out, BK117.out, BK118.out, HB.out⟩)
                         ·skip
                          refine goes_ Try.func19 (by kernel_rfl) rfl #[] (by rfl) rfl rfl (by (try simp only [List.map_toArray, List.map_cons, List.map_nil]); first | done | rfl | (simp only [List.length_drop, List.length_take]; rfl)) ?_
                          with_reducible refine (line_sizes.calls  t125 _ A45.out).mono ?_
                          rintro e wq216 ⟨v126, rfl, ho0, hb⟩
                          refine ⟨_, rfl, ?_⟩
                          have n0_ := Aside0.mk GA.out
                          have n1_ := Aside0.mk (blk_below HA_.out hb)
                          have n2_ := Aside0.mk (Kd.R_lower ho0 (below_size HB.out))
                          have n3_ := Aside0.mk (blk_below BK117.out hb)
                          have n4_ := Aside0.mk (blk_below BK118.out hb)
                          have n5_ := Aside0.mk (below_step HB.out hb)
                          clear GA
                          clear HA_
                          clear BK117
                          clear BK118
                          clear HB
                          have GA := n0_
                          have HA_ := n1_
                          have HO127 := n2_
                          have BK117 := n3_
                          have BK118 := n4_
                          have HB := n5_
                          clear n0_ n1_ n2_ n3_ n4_ n5_
                          (try clear hb)
                          (try clear ho0)
                          (try clear hHeld)
                          refine hK.out _ _ ⟨(blk_cell BK117.out 0).trans rfl, (blk_cell BK117.out 1).trans rfl, (blk_cell BK117.out 2).trans rfl, (blk_cell BK117.out 3).trans rfl, (blk_cell BK117.out 4).trans rfl, (blk_cell BK117.out 5).trans rfl, (blk_cell BK117.out 6).trans rfl, (blk_cell BK117.out 7).trans rfl, (blk_cell BK117.out 8).trans rfl, (blk_cell BK118.out 0).trans rfl, (blk_cell BK118.out 1).trans rfl, (blk_cell BK118.out 2).trans rfl, (blk_cell BK118.out 3).trans rfl, (blk_cell BK118.out 4).trans rfl, (blk_cell BK118.out 5).trans rfl⟩ (fun _ => ?_)
                          clear hK K
                          refine norm_ (a' := ?_) ?_ ?_
                          rotate_left
                          ·show Act.put _ (some 91) _ = _
                           simp only [Act.put, List.setIfInBounds_toArray, List.set_cons_zero, List.set_cons_succ, i64_w, i32_w]
                           rfl
                          exact norm_ (by first | (simp only [putAll, Act.put, List.setIfInBounds_toArray, List.set_cons_zero, List.set_cons_succ]; done) | (simp only [putAll, Act.put, List.setIfInBounds_toArray, List.set_cons_zero, List.set_cons_succ]; rfl)) (hP2_29 (gA, v126) _ ⟨GA.out, HA_.out, HO127.out, BK117.out, BK118.out, HB.out⟩)
                       ·skip
                        rintro ⟨gA, v126⟩ wq217 ⟨h0_, h1_, h2_, h3_, h4_, h5_⟩
                        have n0_ : Aside0 (w.heap.size ≤ gA) := ⟨h0_⟩
                        have n1_ : Aside0 (wq217.heap[gA]? = some (.cells #[.int .u8 83, .int .u8 76] 5 (0, 0))) := ⟨h1_⟩
                        have n2_ : Aside0 (Kd.R (Kd.int .i64) 3 wq217 w.heap.size (fun _ => True) v126 t125) := ⟨h2_⟩
                        have n3_ : Aside0 (wq217.heap[gb117]? = some (.cells #[.int .i64 a0_0, .int .i64 a0_1, .bool a0_2, .int .i64 a0_3, .int .i64 a0_4, .int .i64 a0_5, .int .i64 a0_6, .int .i64 a0_7, .string a0_8] 25 (0, 0))) := ⟨h3_⟩
                        have n4_ : Aside0 (wq217.heap[gb118]? = some (.cells #[.int .i64 a0_3, .int .i64 a0_4, .int .i64 a0_5, .int .i64 a0_6, .int .i64 a0_7, .string a0_8] 23 (0, 0))) := ⟨h4_⟩
                        have n5_ : Aside0 (Below w.heap.size w wq217) := ⟨h5_⟩
                        (try clear hHeld)
                        clear BK117 BK118 HB h0_ h1_ h2_ h3_ h4_ h5_
                        have GA := n0_
                        have HA_ := n1_
                        have HO127 := n2_
                        have BK117 := n3_
                        have BK118 := n4_
                        have HB := n5_
                        clear n0_ n1_ n2_ n3_ n4_ n5_
                        refine norm_ (a' := ?_) ?_ ?_
                        rotate_left
                        ·simp only [putAll, Act.put, List.setIfInBounds_toArray, List.set_cons_zero, List.set_cons_succ]
                         rfl
                        refine two_ (i := 1) (j := 28) (Ni := some 63) (Nj := some 90) #[true, true, true, true, true, true, true, true, true, true, true, true, true, true, true, true, true, true, true, true, true, true, true, true, true, true, true, true, false, true, false, false, false] #[true, false, true, true, true, true, true, true, true, true, true, true, true, true, true, true, true, true, true, true, true, true, true, true, true, true, true, true, true, true, false, false, false] rfl rfl rfl rfl (two_of HT_.out (by kernel_rfl)) (by decide) (by decide) (fun K hK => ?_) (fun K hK => ?_)
                        ·skip
                         refine Fz.conv_step (by rfl) (T := 26) (e := 5) (s := .tmp 62) (g := gA) (n := 2) (c := 2) (cs := #[.int .u8 83, .int .u8 76]) (by rfl) (by rfl) HA_.out Try.underlying26 Try.underlying5 ?_
                         intro wq218 hA_ hg hbl
                         have n0_ := Aside0.mk GA.out
                         have n1_ := Aside0.mk hA_
                         have n2_ := Aside0.mk (Kd.R_over' (v := (.slice (some ⟨gA, 0, none⟩) 2 2)) HO127.out (Fz.typedA HA_.out) (by decide) hg)
                         have n3_ := Aside0.mk (blk_grown BK117.out hg (fun h_ => blk_ne BK117.out HA_.out (by decide) (Option.some.inj h_)))
                         have n4_ := Aside0.mk (blk_grown BK118.out hg (fun h_ => blk_ne BK118.out HA_.out (by decide) (Option.some.inj h_)))
                         have n5_ := Aside0.mk (hbl _ _ HB.out GA.out)
                         clear GA
                         clear HA_
                         clear HO127
                         clear BK117
                         clear BK118
                         clear HB
                         have GA := n0_
                         have HA_ := n1_
                         have HO127 := n2_
                         have BK117 := n3_
                         have BK118 := n4_
                         have HB := n5_
                         clear n0_ n1_ n2_ n3_ n4_ n5_
                         (try clear hA_)
                         (try clear hg)
                         (try clear hbl)
                         (try clear hHeld)
                         refine hK.out _ _ ⟨(blk_cell BK117.out 0).trans rfl, (blk_cell BK117.out 1).trans rfl, (blk_cell BK117.out 2).trans rfl, (blk_cell BK117.out 3).trans rfl, (blk_cell BK117.out 4).trans rfl, (blk_cell BK117.out 5).trans rfl, (blk_cell BK117.out 6).trans rfl, (blk_cell BK117.out 7).trans rfl, (blk_cell BK117.out 8).trans rfl, (blk_cell BK118.out 0).trans rfl, (blk_cell BK118.out 1).trans rfl, (blk_cell BK118.out 2).trans rfl, (blk_cell BK118.out 3).trans rfl, (blk_cell BK118.out 4).trans rfl, (blk_cell BK118.out 5).trans rfl⟩ (fun _ => ?_)
                         clear hK K
                         refine norm_ (a' := ?_) ?_ ?_
                         rotate_left
                         ·show Act.put _ (some 63) _ = _
                          simp only [Act.put, List.setIfInBounds_toArray, List.set_cons_zero, List.set_cons_succ, i64_w, i32_w]
                          rfl
                         exact norm_ (by first | (simp only [putAll, Act.put, List.setIfInBounds_toArray, List.set_cons_zero, List.set_cons_succ]; done) | (simp only [putAll, Act.put, List.setIfInBounds_toArray, List.set_cons_zero, List.set_cons_succ]; rfl)) (hP2_29 (gA, v126) _ ⟨GA.out, HA_.out, HO127.out, BK117.out, BK118.out, HB.out⟩)
                        ·skip
                         refine Kd.R_lit_step (Kd.int .u64) _ 48 ?hg (N := 90) ?hd (xs := ([IntKind.u64.wrap (a0_0), IntKind.u64.wrap (a0_1), x5_40, IntKind.u64.wrap (a0_3), IntKind.u64.wrap (a0_4), IntKind.u64.wrap (a0_5), IntKind.u64.wrap (a0_6), IntKind.u64.wrap (a0_7), IntKind.u64.wrap ((a0_8.size : Int))] : List Int)) (inner := [.int .u64 (IntKind.u64.wrap (a0_0)), .int .u64 (IntKind.u64.wrap (a0_1)), .int .u64 x5_40, .int .u64 (IntKind.u64.wrap (a0_3)), .int .u64 (IntKind.u64.wrap (a0_4)), .int .u64 (IntKind.u64.wrap (a0_5)), .int .u64 (IntKind.u64.wrap (a0_6)), .int .u64 (IntKind.u64.wrap (a0_7)), .int .u64 (IntKind.u64.wrap ((a0_8.size : Int)))]) (ok := fun _ => True) (okp := fun _ => True) ?hr ?hp (fun _ hk => hk) trivial (Below.refl _ _) (Nat.le_refl _) (by simp) ?_; (case hd => rfl); (case hg => rfl); (case hr => first | (go_simp; done) | (go_simp; rfl)); (case hp => exact (Reps.one (show Kd.M (Kd.int .u64) _ _ _ (IntKind.u64.wrap (a0_0)) [.int .u64 (IntKind.u64.wrap (a0_0))] from rfl) (Reps.one (show Kd.M (Kd.int .u64) _ _ _ (IntKind.u64.wrap (a0_1)) [.int .u64 (IntKind.u64.wrap (a0_1))] from rfl) (Reps.one (show Kd.M (Kd.int .u64) _ _ _ x5_40 [.int .u64 x5_40] from rfl) (Reps.one (show Kd.M (Kd.int .u64) _ _ _ (IntKind.u64.wrap (a0_3)) [.int .u64 (IntKind.u64.wrap (a0_3))] from rfl) (Reps.one (show Kd.M (Kd.int .u64) _ _ _ (IntKind.u64.wrap (a0_4)) [.int .u64 (IntKind.u64.wrap (a0_4))] from rfl) (Reps.one (show Kd.M (Kd.int .u64) _ _ _ (IntKind.u64.wrap (a0_5)) [.int .u64 (IntKind.u64.wrap (a0_5))] from rfl) (Reps.one (show Kd.M (Kd.int .u64) _ _ _ (IntKind.u64.wrap (a0_6)) [.int .u64 (IntKind.u64.wrap (a0_6))] from rfl) (Reps.one (show Kd.M (Kd.int .u64) _ _ _ (IntKind.u64.wrap (a0_7)) [.int .u64 (IntKind.u64.wrap (a0_7))] from rfl) (Reps.one (show Kd.M (Kd.int .u64) _ _ _ (IntKind.u64.wrap ((a0_8.size : Int))) [.int .u64 (IntKind.u64.wrap ((a0_8.size : Int)))] from rfl) (Reps.none _ _)))))))))))
                         intro v123 wq219 ho57 hb hg_ hnew_
                         clear hg_ hnew_
                         (first | rw [← Ny122.out] at ho57 | (simp only [Int.reduceToNat] at ho57; rw [← Ny122.out] at ho57))
                         have n0_ := Aside0.mk GA.out
                         have n1_ := Aside0.mk (blk_below HA_.out hb)
                         have n2_ := Aside0.mk (Kd.R_lower ho57 (below_size HB.out))
                         have n3_ := Aside0.mk (Kd.R_below HO127.out hb)
                         have n4_ := Aside0.mk (blk_below BK117.out hb)
                         have n5_ := Aside0.mk (blk_below BK118.out hb)
                         have n6_ := Aside0.mk (below_step HB.out hb)
                         clear GA
                         clear HA_
                         clear HO127
                         clear BK117
                         clear BK118
                         clear HB
                         have GA := n0_
                         have HA_ := n1_
                         have HO124 := n2_
                         have HO127 := n3_
                         have BK117 := n4_
                         have BK118 := n5_
                         have HB := n6_
                         clear n0_ n1_ n2_ n3_ n4_ n5_ n6_
                         (try clear hb)
                         (try clear ho57)
                         (try clear hHeld)
                         refine hK.out _ _ ⟨(blk_cell BK117.out 0).trans rfl, (blk_cell BK117.out 1).trans rfl, (blk_cell BK117.out 2).trans rfl, (blk_cell BK117.out 3).trans rfl, (blk_cell BK117.out 4).trans rfl, (blk_cell BK117.out 5).trans rfl, (blk_cell BK117.out 6).trans rfl, (blk_cell BK117.out 7).trans rfl, (blk_cell BK117.out 8).trans rfl, (blk_cell BK118.out 0).trans rfl, (blk_cell BK118.out 1).trans rfl, (blk_cell BK118.out 2).trans rfl, (blk_cell BK118.out 3).trans rfl, (blk_cell BK118.out 4).trans rfl, (blk_cell BK118.out 5).trans rfl⟩ (fun _ => ?_)
                         clear hK K
                         refine norm_ (a' := ?_) ?_ ?_
                         rotate_left
                         ·show Act.put _ (some 90) _ = _
                          simp only [Act.put, List.setIfInBounds_toArray, List.set_cons_zero, List.set_cons_succ, i64_w, i32_w]
                          rfl
                         exact norm_ (by first | (simp only [putAll, Act.put, List.setIfInBounds_toArray, List.set_cons_zero, List.set_cons_succ]; done) | (simp only [putAll, Act.put, List.setIfInBounds_toArray, List.set_cons_zero, List.set_cons_succ]; rfl)) (hP1_28_29 (gA, v123, v126) _ ⟨GA.out, HA_.out, HO124.out, HO127.out, BK117.out, BK118.out, HB.out⟩)
                      ·skip
                       rintro ⟨gA, v123⟩ wq220 ⟨h0_, h1_, h2_, h3_, h4_, h5_⟩
                       have n0_ : Aside0 (w.heap.size ≤ gA) := ⟨h0_⟩
                       have n1_ : Aside0 (wq220.heap[gA]? = some (.cells #[.int .u8 83, .int .u8 76] 5 (0, 0))) := ⟨h1_⟩
                       have n2_ : Aside0 (Kd.R (Kd.int .u64) 48 wq220 w.heap.size (fun _ => True) v123 y122) := ⟨h2_⟩
                       have n3_ : Aside0 (wq220.heap[gb117]? = some (.cells #[.int .i64 a0_0, .int .i64 a0_1, .bool a0_2, .int .i64 a0_3, .int .i64 a0_4, .int .i64 a0_5, .int .i64 a0_6, .int .i64 a0_7, .string a0_8] 25 (0, 0))) := ⟨h3_⟩
                       have n4_ : Aside0 (wq220.heap[gb118]? = some (.cells #[.int .i64 a0_3, .int .i64 a0_4, .int .i64 a0_5, .int .i64 a0_6, .int .i64 a0_7, .string a0_8] 23 (0, 0))) := ⟨h4_⟩
                       have n5_ : Aside0 (Below w.heap.size w wq220) := ⟨h5_⟩
                       (try clear hHeld)
                       clear BK117 BK118 HB h0_ h1_ h2_ h3_ h4_ h5_
                       have GA := n0_
                       have HA_ := n1_
                       have HO124 := n2_
                       have BK117 := n3_
                       have BK118 := n4_
                       have HB := n5_
                       clear n0_ n1_ n2_ n3_ n4_ n5_
                       refine norm_ (a' := ?_) ?_ ?_
                       rotate_left
                       ·simp only [putAll, Act.put, List.setIfInBounds_toArray, List.set_cons_zero, List.set_cons_succ]
                        rfl
                       refine two_ (i := 1) (j := 29) (Ni := some 63) (Nj := some 91) #[true, true, true, true, true, true, true, true, true, true, true, true, true, true, true, true, true, true, true, true, true, true, true, true, true, true, true, true, true, false, false, false, false] #[true, false, true, true, true, true, true, true, true, true, true, true, true, true, true, true, true, true, true, true, true, true, true, true, true, true, true, true, true, true, false, false, false] rfl rfl rfl rfl (two_of HT_.out (by kernel_rfl)) (by decide) (by decide) (fun K hK => ?_) (fun K hK => ?_)
                       ·skip
                        refine Fz.conv_step (by rfl) (T := 26) (e := 5) (s := .tmp 62) (g := gA) (n := 2) (c := 2) (cs := #[.int .u8 83, .int .u8 76]) (by rfl) (by rfl) HA_.out Try.underlying26 Try.underlying5 ?_
                        intro wq221 hA_ hg hbl
                        have n0_ := Aside0.mk GA.out
                        have n1_ := Aside0.mk hA_
                        have n2_ := Aside0.mk (Kd.R_over' (v := (.slice (some ⟨gA, 0, none⟩) 2 2)) HO124.out (Fz.typedA HA_.out) (by decide) hg)
                        have n3_ := Aside0.mk (blk_grown BK117.out hg (fun h_ => blk_ne BK117.out HA_.out (by decide) (Option.some.inj h_)))
                        have n4_ := Aside0.mk (blk_grown BK118.out hg (fun h_ => blk_ne BK118.out HA_.out (by decide) (Option.some.inj h_)))
                        have n5_ := Aside0.mk (hbl _ _ HB.out GA.out)
                        clear GA
                        clear HA_
                        clear HO124
                        clear BK117
                        clear BK118
                        clear HB
                        have GA := n0_
                        have HA_ := n1_
                        have HO124 := n2_
                        have BK117 := n3_
                        have BK118 := n4_
                        have HB := n5_
                        clear n0_ n1_ n2_ n3_ n4_ n5_
                        (try clear hA_)
                        (try clear hg)
                        (try clear hbl)
                        (try clear hHeld)
                        refine hK.out _ _ ⟨(blk_cell BK117.out 0).trans rfl, (blk_cell BK117.out 1).trans rfl, (blk_cell BK117.out 2).trans rfl, (blk_cell BK117.out 3).trans rfl, (blk_cell BK117.out 4).trans rfl, (blk_cell BK117.out 5).trans rfl, (blk_cell BK117.out 6).trans rfl, (blk_cell BK117.out 7).trans rfl, (blk_cell BK117.out 8).trans rfl, (blk_cell BK118.out 0).trans rfl, (blk_cell BK118.out 1).trans rfl, (blk_cell BK118.out 2).trans rfl, (blk_cell BK118.out 3).trans rfl, (blk_cell BK118.out 4).trans rfl, (blk_cell BK118.out 5).trans rfl⟩ (fun _ => ?_)
                        clear hK K
                        refine norm_ (a' := ?_) ?_ ?_
                        rotate_left
                        ·show Act.put _ (some 63) _ = _
                         simp only [Act.put, List.setIfInBounds_toArray, List.set_cons_zero, List.set_cons_succ, i64_w, i32_w]
                         rfl
                        exact norm_ (by first | (simp only [putAll, Act.put, List.setIfInBounds_toArray, List.set_cons_zero, List.set_cons_succ]; done) | (simp only [putAll, Act.put, List.setIfInBounds_toArray, List.set_cons_zero, List.set_cons_succ]; rfl)) (hP2_28 (gA, v123) _ ⟨GA.out, HA_.out, HO124.out, BK117.out, BK118.out, HB.out⟩)
                       ·skip
                        refine goes_ Try.func19 (by kernel_rfl) rfl #[] (by rfl) rfl rfl (by (try simp only [List.map_toArray, List.map_cons, List.map_nil]); first | done | rfl | (simp only [List.length_drop, List.length_take]; rfl)) ?_
                        with_reducible refine (line_sizes.calls  t125 _ A45.out).mono ?_
                        rintro e wq222 ⟨v126, rfl, ho0, hb⟩
                        refine ⟨_, rfl, ?_⟩
                        have n0_ := Aside0.mk GA.out
                        have n1_ := Aside0.mk (blk_below HA_.out hb)
                        have n2_ := Aside0.mk (Kd.R_below HO124.out hb)
                        have n3_ := Aside0.mk (Kd.R_lower ho0 (below_size HB.out))
                        have n4_ := Aside0.mk (blk_below BK117.out hb)
                        have n5_ := Aside0.mk (blk_below BK118.out hb)
                        have n6_ := Aside0.mk (below_step HB.out hb)
                        clear GA
                        clear HA_
                        clear HO124
                        clear BK117
                        clear BK118
                        clear HB
                        have GA := n0_
                        have HA_ := n1_
                        have HO124 := n2_
                        have HO127 := n3_
                        have BK117 := n4_
                        have BK118 := n5_
                        have HB := n6_
                        clear n0_ n1_ n2_ n3_ n4_ n5_ n6_
                        (try clear hb)
                        (try clear ho0)
                        (try clear hHeld)
                        refine hK.out _ _ ⟨(blk_cell BK117.out 0).trans rfl, (blk_cell BK117.out 1).trans rfl, (blk_cell BK117.out 2).trans rfl, (blk_cell BK117.out 3).trans rfl, (blk_cell BK117.out 4).trans rfl, (blk_cell BK117.out 5).trans rfl, (blk_cell BK117.out 6).trans rfl, (blk_cell BK117.out 7).trans rfl, (blk_cell BK117.out 8).trans rfl, (blk_cell BK118.out 0).trans rfl, (blk_cell BK118.out 1).trans rfl, (blk_cell BK118.out 2).trans rfl, (blk_cell BK118.out 3).trans rfl, (blk_cell BK118.out 4).trans rfl, (blk_cell BK118.out 5).trans rfl⟩ (fun _ => ?_)
                        clear hK K
                        refine norm_ (a' := ?_) ?_ ?_
                        rotate_left
                        ·show Act.put _ (some 91) _ = _
                         simp only [Act.put, List.setIfInBounds_toArray, List.set_cons_zero, List.set_cons_succ, i64_w, i32_w]
                         rfl
                        exact norm_ (by first | (simp only [putAll, Act.put, List.setIfInBounds_toArray, List.set_cons_zero, List.set_cons_succ]; done) | (simp only [putAll, Act.put, List.setIfInBounds_toArray, List.set_cons_zero, List.set_cons_succ]; rfl)) (hP1_28_29 (gA, v123, v126) _ ⟨GA.out, HA_.out, HO124.out, HO127.out, BK117.out, BK118.out, HB.out⟩)
                     ·skip
                      rintro ⟨v123, v126⟩ wq223 ⟨h0_, h1_, h2_, h3_, h4_⟩
                      have n0_ : Aside0 (Kd.R (Kd.int .u64) 48 wq223 w.heap.size (fun _ => True) v123 y122) := ⟨h0_⟩
                      have n1_ : Aside0 (Kd.R (Kd.int .i64) 3 wq223 w.heap.size (fun _ => True) v126 t125) := ⟨h1_⟩
                      have n2_ : Aside0 (wq223.heap[gb117]? = some (.cells #[.int .i64 a0_0, .int .i64 a0_1, .bool a0_2, .int .i64 a0_3, .int .i64 a0_4, .int .i64 a0_5, .int .i64 a0_6, .int .i64 a0_7, .string a0_8] 25 (0, 0))) := ⟨h2_⟩
                      have n3_ : Aside0 (wq223.heap[gb118]? = some (.cells #[.int .i64 a0_3, .int .i64 a0_4, .int .i64 a0_5, .int .i64 a0_6, .int .i64 a0_7, .string a0_8] 23 (0, 0))) := ⟨h3_⟩
                      have n4_ : Aside0 (Below w.heap.size w wq223) := ⟨h4_⟩
                      (try clear hHeld)
                      clear BK117 BK118 HB h0_ h1_ h2_ h3_ h4_
                      have HO124 := n0_
                      have HO127 := n1_
                      have BK117 := n2_
                      have BK118 := n3_
                      have HB := n4_
                      clear n0_ n1_ n2_ n3_ n4_
                      obtain ⟨Ao62, co62, eo62⟩ := Kd.R_slice HO124.out
                      (first | subst eo62 | (injection eo62 with f1_ f2_ f3_; have f4_ := f1_.symm; have f5_ := f3_.symm; clear f1_ f2_ f3_; subst f4_; subst f5_))
                      obtain ⟨Ao63, co63, eo63⟩ := Kd.R_slice HO127.out
                      (first | subst eo63 | (injection eo63 with f1_ f2_ f3_; have f4_ := f1_.symm; have f5_ := f3_.symm; clear f1_ f2_ f3_; subst f4_; subst f5_))
                      refine norm_ (a' := ?_) ?_ ?_
                      rotate_left
                      ·simp only [putAll, Act.put, List.setIfInBounds_toArray, List.set_cons_zero, List.set_cons_succ]
                       rfl
                      refine two_ (i := 0) (j := 30) (Ni := some 62) (Nj := some 92) #[true, false, true, true, true, true, true, true, true, true, true, true, true, true, true, true, true, true, true, true, true, true, true, true, true, true, true, true, true, true, false, false, false] #[false, false, true, true, true, true, true, true, true, true, true, true, true, true, true, true, true, true, true, true, true, true, true, true, true, true, true, true, true, true, true, false, false] rfl rfl rfl rfl (two_of HT_.out (by kernel_rfl)) (by decide) (by decide) (fun K hK => ?_) (fun K hK => ?_)
                      ·skip
                       refine Fz.lit_step ?hg (N := 62) ?hd (cs := #[.int .u8 83, .int .u8 76]) (t := 5) (n := 2) ?hr ?_; (case hd => rfl); (case hg => rfl); (case hr => first | (go_simp; done) | (go_simp; rfl))
                       intro gA hgA wq224 hA_ hb
                       have n0_ := Aside0.mk (show w.heap.size ≤ gA by rw [hgA]; exact (below_size HB.out))
                       have n1_ := Aside0.mk hA_
                       have n2_ := Aside0.mk (Kd.R_below HO124.out hb)
                       have n3_ := Aside0.mk (Kd.R_below HO127.out hb)
                       have n4_ := Aside0.mk (blk_below BK117.out hb)
                       have n5_ := Aside0.mk (blk_below BK118.out hb)
                       have n6_ := Aside0.mk (below_step HB.out hb)
                       clear HO124
                       clear HO127
                       clear BK117
                       clear BK118
                       clear HB
                       have GA := n0_
                       have HA_ := n1_
                       have HO124 := n2_
                       have HO127 := n3_
                       have BK117 := n4_
                       have BK118 := n5_
                       have HB := n6_
                       clear n0_ n1_ n2_ n3_ n4_ n5_ n6_
                       (try clear hA_)
                       (try clear hb)
                       (try clear hgA)
                       (try clear hHeld)
                       refine hK.out _ _ ⟨(blk_cell BK117.out 0).trans rfl, (blk_cell BK117.out 1).trans rfl, (blk_cell BK117.out 2).trans rfl, (blk_cell BK117.out 3).trans rfl, (blk_cell BK117.out 4).trans rfl, (blk_cell BK117.out 5).trans rfl, (blk_cell BK117.out 6).trans rfl, (blk_cell BK117.out 7).trans rfl, (blk_cell BK117.out 8).trans rfl, (blk_cell BK118.out 0).trans rfl, (blk_cell BK118.out 1).trans rfl, (blk_cell BK118.out 2).trans rfl, (blk_cell BK118.out 3).trans rfl, (blk_cell BK118.out 4).trans rfl, (blk_cell BK118.out 5).trans rfl⟩ (fun _ => ?_)
                       clear hK K
                       refine norm_ (a' := ?_) ?_ ?_
                       rotate_left
                       ·show Act.put _ (some 62) _ = _
                        simp only [Act.put, List.setIfInBounds_toArray, List.set_cons_zero, List.set_cons_succ, i64_w, i32_w]
                        rfl
                       exact norm_ (by first | (simp only [putAll, Act.put, List.setIfInBounds_toArray, List.set_cons_zero, List.set_cons_succ]; done) | (simp only [putAll, Act.put, List.setIfInBounds_toArray, List.set_cons_zero, List.set_cons_succ]; rfl)) (hP1_28_29 (gA, (.slice Ao62 y122.length co62), (.slice Ao63 t125.length co63)) _ ⟨GA.out, HA_.out, HO124.out, HO127.out, BK117.out, BK118.out, HB.out⟩)
                      ·skip
                       refine goes_ Try.func18 (by kernel_rfl) rfl #[.slice Ao62 y122.length co62, .slice Ao63 t125.length co63] (by rfl) rfl rfl (by (try simp only [List.map_toArray, List.map_cons, List.map_nil]); first | done | rfl | (simp only [List.length_drop, List.length_take]; rfl)) ?_
                       with_reducible refine (pack_Must.calls kj40 _ _ y122 _ _ t125 t128 _ ?side1 ?side2 ?side3 ?side4 A46.out).mono ?_
                       (case side1 => repeat (first | exact (Kd.R_reads' HO124.out).2.2 | (with_reducible refine Kd.C_alloc ?_ _) | (with_reducible refine Kd.C_drewN ?_ _) | (with_reducible refine Kd.C_drew ?_)))
                       (case side2 => exact (Kd.R_reads' HO124.out).2.1)
                       (case side3 => repeat (first | exact (Kd.R_reads' HO127.out).2.2 | (with_reducible refine Kd.C_alloc ?_ _) | (with_reducible refine Kd.C_drewN ?_ _) | (with_reducible refine Kd.C_drew ?_)))
                       (case side4 => exact (Kd.R_reads' HO127.out).2.1)
                       rintro e wq225 ⟨v129, rfl, ho0, hb⟩
                       refine ⟨_, rfl, ?_⟩
                       have n0_ := Aside0.mk (Kd.R_below HO124.out hb)
                       have n1_ := Aside0.mk (Kd.R_below HO127.out hb)
                       have n2_ := Aside0.mk (Kd.R_lower ho0 (below_size HB.out))
                       have n3_ := Aside0.mk (blk_below BK117.out hb)
                       have n4_ := Aside0.mk (blk_below BK118.out hb)
                       have n5_ := Aside0.mk (below_step HB.out hb)
                       clear HO124
                       clear HO127
                       clear BK117
                       clear BK118
                       clear HB
                       have HO124 := n0_
                       have HO127 := n1_
                       have HO130 := n2_
                       have BK117 := n3_
                       have BK118 := n4_
                       have HB := n5_
                       clear n0_ n1_ n2_ n3_ n4_ n5_
                       (try clear hb)
                       (try clear ho0)
                       (try clear hHeld)
                       refine hK.out _ _ ⟨(blk_cell BK117.out 0).trans rfl, (blk_cell BK117.out 1).trans rfl, (blk_cell BK117.out 2).trans rfl, (blk_cell BK117.out 3).trans rfl, (blk_cell BK117.out 4).trans rfl, (blk_cell BK117.out 5).trans rfl, (blk_cell BK117.out 6).trans rfl, (blk_cell BK117.out 7).trans rfl, (blk_cell BK117.out 8).trans rfl, (blk_cell BK118.out 0).trans rfl, (blk_cell BK118.out 1).trans rfl, (blk_cell BK118.out 2).trans rfl, (blk_cell BK118.out 3).trans rfl, (blk_cell BK118.out 4).trans rfl, (blk_cell BK118.out 5).trans rfl⟩ (fun _ => ?_)
                       clear hK K
                       refine norm_ (a' := ?_) ?_ ?_
                       rotate_left
                       ·show Act.put _ (some 92) _ = _
                        simp only [Act.put, List.setIfInBounds_toArray, List.set_cons_zero, List.set_cons_succ, i64_w, i32_w]
                        rfl
                       exact norm_ (by first | (simp only [putAll, Act.put, List.setIfInBounds_toArray, List.set_cons_zero, List.set_cons_succ]; done) | (simp only [putAll, Act.put, List.setIfInBounds_toArray, List.set_cons_zero, List.set_cons_succ]; rfl)) (hP0_28_29_30 ((.slice Ao62 y122.length co62), (.slice Ao63 t125.length co63), v129) _ ⟨HO124.out, HO127.out, HO130.out, BK117.out, BK118.out, HB.out⟩)
                    ·skip
                     rintro ⟨gA, v126⟩ wq226 ⟨h0_, h1_, h2_, h3_, h4_, h5_⟩
                     have n0_ : Aside0 (w.heap.size ≤ gA) := ⟨h0_⟩
                     have n1_ : Aside0 (wq226.heap[gA]? = some (.cells #[.int .u8 83, .int .u8 76] 5 (2, 3))) := ⟨h1_⟩
                     have n2_ : Aside0 (Kd.R (Kd.int .i64) 3 wq226 w.heap.size (fun _ => True) v126 t125) := ⟨h2_⟩
                     have n3_ : Aside0 (wq226.heap[gb117]? = some (.cells #[.int .i64 a0_0, .int .i64 a0_1, .bool a0_2, .int .i64 a0_3, .int .i64 a0_4, .int .i64 a0_5, .int .i64 a0_6, .int .i64 a0_7, .string a0_8] 25 (0, 0))) := ⟨h3_⟩
                     have n4_ : Aside0 (wq226.heap[gb118]? = some (.cells #[.int .i64 a0_3, .int .i64 a0_4, .int .i64 a0_5, .int .i64 a0_6, .int .i64 a0_7, .string a0_8] 23 (0, 0))) := ⟨h4_⟩
                     have n5_ : Aside0 (Below w.heap.size w wq226) := ⟨h5_⟩
                     (try clear hHeld)
                     clear BK117 BK118 HB h0_ h1_ h2_ h3_ h4_ h5_
                     have GA := n0_
                     have HA_ := n1_
                     have HO127 := n2_
                     have BK117 := n3_
                     have BK118 := n4_
                     have HB := n5_
                     clear n0_ n1_ n2_ n3_ n4_ n5_
                     refine norm_ (a' := ?_) ?_ ?_
                     rotate_left
                     ·simp only [putAll, Act.put, List.setIfInBounds_toArray, List.set_cons_zero, List.set_cons_succ]
                      rfl
                     refine one_ (i := 28) (N := some 90) #[true, true, true, true, true, true, true, true, true, true, true, true, true, true, true, true, true, true, true, true, true, true, true, true, true, true, true, true, true, true, false, false, false] rfl rfl (one_of HT_.out (by kernel_rfl)) (by decide) (fun K hK => ?_)
                     refine Kd.R_lit_step (Kd.int .u64) _ 48 ?hg (N := 90) ?hd (xs := ([IntKind.u64.wrap (a0_0), IntKind.u64.wrap (a0_1), x5_40, IntKind.u64.wrap (a0_3), IntKind.u64.wrap (a0_4), IntKind.u64.wrap (a0_5), IntKind.u64.wrap (a0_6), IntKind.u64.wrap (a0_7), IntKind.u64.wrap ((a0_8.size : Int))] : List Int)) (inner := [.int .u64 (IntKind.u64.wrap (a0_0)), .int .u64 (IntKind.u64.wrap (a0_1)), .int .u64 x5_40, .int .u64 (IntKind.u64.wrap (a0_3)), .int .u64 (IntKind.u64.wrap (a0_4)), .int .u64 (IntKind.u64.wrap (a0_5)), .int .u64 (IntKind.u64.wrap (a0_6)), .int .u64 (IntKind.u64.wrap (a0_7)), .int .u64 (IntKind.u64.wrap ((a0_8.size : Int)))]) (ok := fun _ => True) (okp := fun _ => True) ?hr ?hp (fun _ hk => hk) trivial (Below.refl _ _) (Nat.le_refl _) (by simp) ?_; (case hd => rfl); (case hg => rfl); (case hr => first | (go_simp; done) | (go_simp; rfl)); (case hp => exact (Reps.one (show Kd.M (Kd.int .u64) _ _ _ (IntKind.u64.wrap (a0_0)) [.int .u64 (IntKind.u64.wrap (a0_0))] from rfl) (Reps.one (show Kd.M (Kd.int .u64) _ _ _ (IntKind.u64.wrap (a0_1)) [.int .u64 (IntKind.u64.wrap (a0_1))] from rfl) (Reps.one (show Kd.M (Kd.int .u64) _ _ _ x5_40 [.int .u64 x5_40] from rfl) (Reps.one (show Kd.M (Kd.int .u64) _ _ _ (IntKind.u64.wrap (a0_3)) [.int .u64 (IntKind.u64.wrap (a0_3))] from rfl) (Reps.one (show Kd.M (Kd.int .u64) _ _ _ (IntKind.u64.wrap (a0_4)) [.int .u64 (IntKind.u64.wrap (a0_4))] from rfl) (Reps.one (show Kd.M (Kd.int .u64) _ _ _ (IntKind.u64.wrap (a0_5)) [.int .u64 (IntKind.u64.wrap (a0_5))] from rfl) (Reps.one (show Kd.M (Kd.int .u64) _ _ _ (IntKind.u64.wrap (a0_6)) [.int .u64 (IntKind.u64.wrap (a0_6))] from rfl) (Reps.one (show Kd.M (Kd.int .u64) _ _ _ (IntKind.u64.wrap (a0_7)) [.int .u64 (IntKind.u64.wrap (a0_7))] from rfl) (Reps.one (show Kd.M (Kd.int .u64) _ _ _ (IntKind.u64.wrap ((a0_8.size : Int))) [.int .u64 (IntKind.u64.wrap ((a0_8.size : Int)))] from rfl) (Reps.none _ _)))))))))))
                     intro v123 wq227 ho57 hb hg_ hnew_
                     clear hg_ hnew_
                     (first | rw [← Ny122.out] at ho57 | (simp only [Int.reduceToNat] at ho57; rw [← Ny122.out] at ho57))
                     have n0_ := Aside0.mk GA.out
                     have n1_ := Aside0.mk (blk_below HA_.out hb)
                     have n2_ := Aside0.mk (Kd.R_lower ho57 (below_size HB.out))
                     have n3_ := Aside0.mk (Kd.R_below HO127.out hb)
                     have n4_ := Aside0.mk (blk_below BK117.out hb)
                     have n5_ := Aside0.mk (blk_below BK118.out hb)
                     have n6_ := Aside0.mk (below_step HB.out hb)
                     clear GA
                     clear HA_
                     clear HO127
                     clear BK117
                     clear BK118
                     clear HB
                     have GA := n0_
                     have HA_ := n1_
                     have HO124 := n2_
                     have HO127 := n3_
                     have BK117 := n4_
                     have BK118 := n5_
                     have HB := n6_
                     clear n0_ n1_ n2_ n3_ n4_ n5_ n6_
                     (try clear hb)
                     (try clear ho57)
                     (try clear hHeld)
                     refine hK.out _ _ ⟨(blk_cell BK117.out 0).trans rfl, (blk_cell BK117.out 1).trans rfl, (blk_cell BK117.out 2).trans rfl, (blk_cell BK117.out 3).trans rfl, (blk_cell BK117.out 4).trans rfl, (blk_cell BK117.out 5).trans rfl, (blk_cell BK117.out 6).trans rfl, (blk_cell BK117.out 7).trans rfl, (blk_cell BK117.out 8).trans rfl, (blk_cell BK118.out 0).trans rfl, (blk_cell BK118.out 1).trans rfl, (blk_cell BK118.out 2).trans rfl, (blk_cell BK118.out 3).trans rfl, (blk_cell BK118.out 4).trans rfl, (blk_cell BK118.out 5).trans rfl⟩ (fun _ => ?_)
                     clear hK K
                     refine norm_ (a' := ?_) ?_ ?_
                     rotate_left
                     ·show Act.put _ (some 90) _ = _
                      simp only [Act.put, List.setIfInBounds_toArray, List.set_cons_zero, List.set_cons_succ, i64_w, i32_w]
                      rfl
                     exact norm_ (by first | (simp only [putAll, Act.put, List.setIfInBounds_toArray, List.set_cons_zero, List.set_cons_succ]; done) | (simp only [putAll, Act.put, List.setIfInBounds_toArray, List.set_cons_zero, List.set_cons_succ]; rfl)) (hP2_28_29 (gA, v123, v126) _ ⟨GA.out, HA_.out, HO124.out, HO127.out, BK117.out, BK118.out, HB.out⟩)
                   ·skip
                    rintro ⟨gA, v123⟩ wq228 ⟨h0_, h1_, h2_, h3_, h4_, h5_⟩
                    have n0_ : Aside0 (w.heap.size ≤ gA) := ⟨h0_⟩
                    have n1_ : Aside0 (wq228.heap[gA]? = some (.cells #[.int .u8 83, .int .u8 76] 5 (2, 3))) := ⟨h1_⟩
                    have n2_ : Aside0 (Kd.R (Kd.int .u64) 48 wq228 w.heap.size (fun _ => True) v123 y122) := ⟨h2_⟩
                    have n3_ : Aside0 (wq228.heap[gb117]? = some (.cells #[.int .i64 a0_0, .int .i64 a0_1, .bool a0_2, .int .i64 a0_3, .int .i64 a0_4, .int .i64 a0_5, .int .i64 a0_6, .int .i64 a0_7, .string a0_8] 25 (0, 0))) := ⟨h3_⟩
                    have n4_ : Aside0 (wq228.heap[gb118]? = some (.cells #[.int .i64 a0_3, .int .i64 a0_4, .int .i64 a0_5, .int .i64 a0_6, .int .i64 a0_7, .string a0_8] 23 (0, 0))) := ⟨h4_⟩
                    have n5_ : Aside0 (Below w.heap.size w wq228) := ⟨h5_⟩
                    (try clear hHeld)
                    clear BK117 BK118 HB h0_ h1_ h2_ h3_ h4_ h5_
                    have GA := n0_
                    have HA_ := n1_
                    have HO124 := n2_
                    have BK117 := n3_
                    have BK118 := n4_
                    have HB := n5_
                    clear n0_ n1_ n2_ n3_ n4_ n5_
                    refine norm_ (a' := ?_) ?_ ?_
                    rotate_left
                    ·simp only [putAll, Act.put, List.setIfInBounds_toArray, List.set_cons_zero, List.set_cons_succ]
                     rfl
                    refine one_ (i := 29) (N := some 91) #[true, true, true, true, true, true, true, true, true, true, true, true, true, true, true, true, true, true, true, true, true, true, true, true, true, true, true, true, true, true, false, false, false] rfl rfl (one_of HT_.out (by kernel_rfl)) (by decide) (fun K hK => ?_)
                    refine goes_ Try.func19 (by kernel_rfl) rfl #[] (by rfl) rfl rfl (by (try simp only [List.map_toArray, List.map_cons, List.map_nil]); first | done | rfl | (simp only [List.length_drop, List.length_take]; rfl)) ?_
                    with_reducible refine (line_sizes.calls  t125 _ A45.out).mono ?_
                    rintro e wq229 ⟨v126, rfl, ho0, hb⟩
                    refine ⟨_, rfl, ?_⟩
                    have n0_ := Aside0.mk GA.out
                    have n1_ := Aside0.mk (blk_below HA_.out hb)
                    have n2_ := Aside0.mk (Kd.R_below HO124.out hb)
                    have n3_ := Aside0.mk (Kd.R_lower ho0 (below_size HB.out))
                    have n4_ := Aside0.mk (blk_below BK117.out hb)
                    have n5_ := Aside0.mk (blk_below BK118.out hb)
                    have n6_ := Aside0.mk (below_step HB.out hb)
                    clear GA
                    clear HA_
                    clear HO124
                    clear BK117
                    clear BK118
                    clear HB
                    have GA := n0_
                    have HA_ := n1_
                    have HO124 := n2_
                    have HO127 := n3_
                    have BK117 := n4_
                    have BK118 := n5_
                    have HB := n6_
                    clear n0_ n1_ n2_ n3_ n4_ n5_ n6_
                    (try clear hb)
                    (try clear ho0)
                    (try clear hHeld)
                    refine hK.out _ _ ⟨(blk_cell BK117.out 0).trans rfl, (blk_cell BK117.out 1).trans rfl, (blk_cell BK117.out 2).trans rfl, (blk_cell BK117.out 3).trans rfl, (blk_cell BK117.out 4).trans rfl, (blk_cell BK117.out 5).trans rfl, (blk_cell BK117.out 6).trans rfl, (blk_cell BK117.out 7).trans rfl, (blk_cell BK117.out 8).trans rfl, (blk_cell BK118.out 0).trans rfl, (blk_cell BK118.out 1).trans rfl, (blk_cell BK118.out 2).trans rfl, (blk_cell BK118.out 3).trans rfl, (blk_cell BK118.out 4).trans rfl, (blk_cell BK118.out 5).trans rfl⟩ (fun _ => ?_)
                    clear hK K
                    refine norm_ (a' := ?_) ?_ ?_
                    rotate_left
                    ·show Act.put _ (some 91) _ = _
                     simp only [Act.put, List.setIfInBounds_toArray, List.set_cons_zero, List.set_cons_succ, i64_w, i32_w]
                     rfl
                    exact norm_ (by first | (simp only [putAll, Act.put, List.setIfInBounds_toArray, List.set_cons_zero, List.set_cons_succ]; done) | (simp only [putAll, Act.put, List.setIfInBounds_toArray, List.set_cons_zero, List.set_cons_succ]; rfl)) (hP2_28_29 (gA, v123, v126) _ ⟨GA.out, HA_.out, HO124.out, HO127.out, BK117.out, BK118.out, HB.out⟩)
                  ·skip
                   rintro ⟨gA, v123, v126⟩ wq230 ⟨h0_, h1_, h2_, h3_, h4_, h5_, h6_⟩
                   have n0_ : Aside0 (w.heap.size ≤ gA) := ⟨h0_⟩
                   have n1_ : Aside0 (wq230.heap[gA]? = some (.cells #[.int .u8 83, .int .u8 76] 5 (0, 0))) := ⟨h1_⟩
                   have n2_ : Aside0 (Kd.R (Kd.int .u64) 48 wq230 w.heap.size (fun _ => True) v123 y122) := ⟨h2_⟩
                   have n3_ : Aside0 (Kd.R (Kd.int .i64) 3 wq230 w.heap.size (fun _ => True) v126 t125) := ⟨h3_⟩
                   have n4_ : Aside0 (wq230.heap[gb117]? = some (.cells #[.int .i64 a0_0, .int .i64 a0_1, .bool a0_2, .int .i64 a0_3, .int .i64 a0_4, .int .i64 a0_5, .int .i64 a0_6, .int .i64 a0_7, .string a0_8] 25 (0, 0))) := ⟨h4_⟩
                   have n5_ : Aside0 (wq230.heap[gb118]? = some (.cells #[.int .i64 a0_3, .int .i64 a0_4, .int .i64 a0_5, .int .i64 a0_6, .int .i64 a0_7, .string a0_8] 23 (0, 0))) := ⟨h5_⟩
                   have n6_ : Aside0 (Below w.heap.size w wq230) := ⟨h6_⟩
                   (try clear hHeld)
                   clear BK117 BK118 HB h0_ h1_ h2_ h3_ h4_ h5_ h6_
                   have GA := n0_
                   have HA_ := n1_
                   have HO124 := n2_
                   have HO127 := n3_
                   have BK117 := n4_
                   have BK118 := n5_
                   have HB := n6_
                   clear n0_ n1_ n2_ n3_ n4_ n5_ n6_
                   obtain ⟨Ao62, co62, eo62⟩ := Kd.R_slice HO124.out
                   (first | subst eo62 | (injection eo62 with f1_ f2_ f3_; have f4_ := f1_.symm; have f5_ := f3_.symm; clear f1_ f2_ f3_; subst f4_; subst f5_))
                   obtain ⟨Ao63, co63, eo63⟩ := Kd.R_slice HO127.out
                   (first | subst eo63 | (injection eo63 with f1_ f2_ f3_; have f4_ := f1_.symm; have f5_ := f3_.symm; clear f1_ f2_ f3_; subst f4_; subst f5_))
                   refine norm_ (a' := ?_) ?_ ?_
                   rotate_left
                   ·simp only [putAll, Act.put, List.setIfInBounds_toArray, List.set_cons_zero, List.set_cons_succ]
                    rfl
                   refine two_ (i := 1) (j := 30) (Ni := some 63) (Nj := some 92) #[true, true, true, true, true, true, true, true, true, true, true, true, true, true, true, true, true, true, true, true, true, true, true, true, true, true, true, true, true, true, false, false, false] #[true, false, true, true, true, true, true, true, true, true, true, true, true, true, true, true, true, true, true, true, true, true, true, true, true, true, true, true, true, true, true, false, false] rfl rfl rfl rfl (two_of HT_.out (by kernel_rfl)) (by decide) (by decide) (fun K hK => ?_) (fun K hK => ?_)
                   ·skip
                    refine Fz.conv_step (by rfl) (T := 26) (e := 5) (s := .tmp 62) (g := gA) (n := 2) (c := 2) (cs := #[.int .u8 83, .int .u8 76]) (by rfl) (by rfl) HA_.out Try.underlying26 Try.underlying5 ?_
                    intro wq231 hA_ hg hbl
                    have n0_ := Aside0.mk GA.out
                    have n1_ := Aside0.mk hA_
                    have n2_ := Aside0.mk (Kd.R_over' (v := (.slice (some ⟨gA, 0, none⟩) 2 2)) HO124.out (Fz.typedA HA_.out) (by decide) hg)
                    have n3_ := Aside0.mk (Kd.R_over' (v := (.slice (some ⟨gA, 0, none⟩) 2 2)) HO127.out (Fz.typedA HA_.out) (by decide) hg)
                    have n4_ := Aside0.mk (blk_grown BK117.out hg (fun h_ => blk_ne BK117.out HA_.out (by decide) (Option.some.inj h_)))
                    have n5_ := Aside0.mk (blk_grown BK118.out hg (fun h_ => blk_ne BK118.out HA_.out (by decide) (Option.some.inj h_)))
                    have n6_ := Aside0.mk (hbl _ _ HB.out GA.out)
                    clear GA
                    clear HA_
                    clear HO124
                    clear HO127
                    clear BK117
                    clear BK118
                    clear HB
                    have GA := n0_
                    have HA_ := n1_
                    have HO124 := n2_
                    have HO127 := n3_
                    have BK117 := n4_
                    have BK118 := n5_
                    have HB := n6_
                    clear n0_ n1_ n2_ n3_ n4_ n5_ n6_
                    (try clear hA_)
                    (try clear hg)
                    (try clear hbl)
                    (try clear hHeld)
                    refine hK.out _ _ ⟨(blk_cell BK117.out 0).trans rfl, (blk_cell BK117.out 1).trans rfl, (blk_cell BK117.out 2).trans rfl, (blk_cell BK117.out 3).trans rfl, (blk_cell BK117.out 4).trans rfl, (blk_cell BK117.out 5).trans rfl, (blk_cell BK117.out 6).trans rfl, (blk_cell BK117.out 7).trans rfl, (blk_cell BK117.out 8).trans rfl, (blk_cell BK118.out 0).trans rfl, (blk_cell BK118.out 1).trans rfl, (blk_cell BK118.out 2).trans rfl, (blk_cell BK118.out 3).trans rfl, (blk_cell BK118.out 4).trans rfl, (blk_cell BK118.out 5).trans rfl⟩ (fun _ => ?_)
                    clear hK K
                    refine norm_ (a' := ?_) ?_ ?_
                    rotate_left
                    ·show Act.put _ (some 63) _ = _
                     simp only [Act.put, List.setIfInBounds_toArray, List.set_cons_zero, List.set_cons_succ, i64_w, i32_w]
                     rfl
                    exact norm_ (by first | (simp only [putAll, Act.put, List.setIfInBounds_toArray, List.set_cons_zero, List.set_cons_succ]; done) | (simp only [putAll, Act.put, List.setIfInBounds_toArray, List.set_cons_zero, List.set_cons_succ]; rfl)) (hP2_28_29 (gA, (.slice Ao62 y122.length co62), (.slice Ao63 t125.length co63)) _ ⟨GA.out, HA_.out, HO124.out, HO127.out, BK117.out, BK118.out, HB.out⟩)
                   ·skip
                    refine goes_ Try.func18 (by kernel_rfl) rfl #[.slice Ao62 y122.length co62, .slice Ao63 t125.length co63] (by rfl) rfl rfl (by (try simp only [List.map_toArray, List.map_cons, List.map_nil]); first | done | rfl | (simp only [List.length_drop, List.length_take]; rfl)) ?_
                    with_reducible refine (pack_Must.calls kj40 _ _ y122 _ _ t125 t128 _ ?side1 ?side2 ?side3 ?side4 A46.out).mono ?_
                    (case side1 => repeat (first | exact (Kd.R_reads' HO124.out).2.2 | (with_reducible refine Kd.C_alloc ?_ _) | (with_reducible refine Kd.C_drewN ?_ _) | (with_reducible refine Kd.C_drew ?_)))
                    (case side2 => exact (Kd.R_reads' HO124.out).2.1)
                    (case side3 => repeat (first | exact (Kd.R_reads' HO127.out).2.2 | (with_reducible refine Kd.C_alloc ?_ _) | (with_reducible refine Kd.C_drewN ?_ _) | (with_reducible refine Kd.C_drew ?_)))
                    (case side4 => exact (Kd.R_reads' HO127.out).2.1)
                    rintro e wq232 ⟨v129, rfl, ho0, hb⟩
                    refine ⟨_, rfl, ?_⟩
                    have n0_ := Aside0.mk GA.out
                    have n1_ := Aside0.mk (blk_below HA_.out hb)
                    have n2_ := Aside0.mk (Kd.R_below HO124.out hb)
                    have n3_ := Aside0.mk (Kd.R_below HO127.out hb)
                    have n4_ := Aside0.mk (Kd.R_lower (Kd.R_mono (ok' := fun k_ => k_ ≠ gA) (Kd.R_bound ho0) (fun k_ hk => by have := hk.2.1; have := blk_lt HA_.out; omega)) (below_size HB.out))
                    have n5_ := Aside0.mk (blk_below BK117.out hb)
                    have n6_ := Aside0.mk (blk_below BK118.out hb)
                    have n7_ := Aside0.mk (below_step HB.out hb)
                    clear GA
                    clear HA_
                    clear HO124
                    clear HO127
                    clear BK117
                    clear BK118
                    clear HB
                    have GA := n0_
                    have HA_ := n1_
                    have HO124 := n2_
                    have HO127 := n3_
                    have HO130 := n4_
                    have BK117 := n5_
                    have BK118 := n6_
                    have HB := n7_
                    clear n0_ n1_ n2_ n3_ n4_ n5_ n6_ n7_
                    (try clear hb)
                    (try clear ho0)
                    (try clear hHeld)
                    refine hK.out _ _ ⟨(blk_cell BK117.out 0).trans rfl, (blk_cell BK117.out 1).trans rfl, (blk_cell BK117.out 2).trans rfl, (blk_cell BK117.out 3).trans rfl, (blk_cell BK117.out 4).trans rfl, (blk_cell BK117.out 5).trans rfl, (blk_cell BK117.out 6).trans rfl, (blk_cell BK117.out 7).trans rfl, (blk_cell BK117.out 8).trans rfl, (blk_cell BK118.out 0).trans rfl, (blk_cell BK118.out 1).trans rfl, (blk_cell BK118.out 2).trans rfl, (blk_cell BK118.out 3).trans rfl, (blk_cell BK118.out 4).trans rfl, (blk_cell BK118.out 5).trans rfl⟩ (fun _ => ?_)
                    clear hK K
                    refine norm_ (a' := ?_) ?_ ?_
                    rotate_left
                    ·show Act.put _ (some 92) _ = _
                     simp only [Act.put, List.setIfInBounds_toArray, List.set_cons_zero, List.set_cons_succ, i64_w, i32_w]
                     rfl
                    exact norm_ (by first | (simp only [putAll, Act.put, List.setIfInBounds_toArray, List.set_cons_zero, List.set_cons_succ]; done) | (simp only [putAll, Act.put, List.setIfInBounds_toArray, List.set_cons_zero, List.set_cons_succ]; rfl)) (hP1_28_29_30 (gA, (.slice Ao62 y122.length co62), (.slice Ao63 t125.length co63), v129) _ ⟨GA.out, HA_.out, HO124.out, HO127.out, HO130.out, BK117.out, BK118.out, HB.out⟩)
                 ·skip
                  rintro ⟨v123, v126, v129⟩ wq233 ⟨h0_, h1_, h2_, h3_, h4_, h5_⟩
                  have n0_ : Aside0 (Kd.R (Kd.int .u64) 48 wq233 w.heap.size (fun _ => True) v123 y122) := ⟨h0_⟩
                  have n1_ : Aside0 (Kd.R (Kd.int .i64) 3 wq233 w.heap.size (fun _ => True) v126 t125) := ⟨h1_⟩
                  have n2_ : Aside0 (Kd.R (Kd.int .u8) 5 wq233 w.heap.size (fun _ => True) v129 t128) := ⟨h2_⟩
                  have n3_ : Aside0 (wq233.heap[gb117]? = some (.cells #[.int .i64 a0_0, .int .i64 a0_1, .bool a0_2, .int .i64 a0_3, .int .i64 a0_4, .int .i64 a0_5, .int .i64 a0_6, .int .i64 a0_7, .string a0_8] 25 (0, 0))) := ⟨h3_⟩
                  have n4_ : Aside0 (wq233.heap[gb118]? = some (.cells #[.int .i64 a0_3, .int .i64 a0_4, .int .i64 a0_5, .int .i64 a0_6, .int .i64 a0_7, .string a0_8] 23 (0, 0))) := ⟨h4_⟩
                  have n5_ : Aside0 (Below w.heap.size w wq233) := ⟨h5_⟩
                  (try clear hHeld)
                  clear BK117 BK118 HB h0_ h1_ h2_ h3_ h4_ h5_
                  have HO124 := n0_
                  have HO127 := n1_
                  have HO130 := n2_
                  have BK117 := n3_
                  have BK118 := n4_
                  have HB := n5_
                  clear n0_ n1_ n2_ n3_ n4_ n5_
                  refine norm_ (a' := ?_) ?_ ?_
                  rotate_left
                  ·simp only [putAll, Act.put, List.setIfInBounds_toArray, List.set_cons_zero, List.set_cons_succ]
                   rfl
                  refine one_ (i := 0) (N := some 62) #[true, false, true, true, true, true, true, true, true, true, true, true, true, true, true, true, true, true, true, true, true, true, true, true, true, true, true, true, true, true, true, false, false] rfl rfl (one_of HT_.out (by kernel_rfl)) (by decide) (fun K hK => ?_)
                  refine Fz.lit_step ?hg (N := 62) ?hd (cs := #[.int .u8 83, .int .u8 76]) (t := 5) (n := 2) ?hr ?_; (case hd => rfl); (case hg => rfl); (case hr => first | (go_simp; done) | (go_simp; rfl))
                  intro gA hgA wq234 hA_ hb
                  have n0_ := Aside0.mk (show w.heap.size ≤ gA by rw [hgA]; exact (below_size HB.out))
                  have n1_ := Aside0.mk hA_
                  have n2_ := Aside0.mk (Kd.R_below HO124.out hb)
                  have n3_ := Aside0.mk (Kd.R_below HO127.out hb)
                  have n4_ := Aside0.mk (Kd.R_mono (ok' := fun k_ => k_ ≠ gA) (Kd.R_below (Kd.R_bound HO130.out) hb) (fun k_ hk => by have := hk.2.2.1; omega))
                  have n5_ := Aside0.mk (blk_below BK117.out hb)
                  have n6_ := Aside0.mk (blk_below BK118.out hb)
                  have n7_ := Aside0.mk (below_step HB.out hb)
                  clear HO124
                  clear HO127
                  clear HO130
                  clear BK117
                  clear BK118
                  clear HB
                  have GA := n0_
                  have HA_ := n1_
                  have HO124 := n2_
                  have HO127 := n3_
                  have HO130 := n4_
                  have BK117 := n5_
                  have BK118 := n6_
                  have HB := n7_
                  clear n0_ n1_ n2_ n3_ n4_ n5_ n6_ n7_
                  (try clear hA_)
                  (try clear hb)
                  (try clear hgA)
                  (try clear hHeld)
                  refine hK.out _ _ ⟨(blk_cell BK117.out 0).trans rfl, (blk_cell BK117.out 1).trans rfl, (blk_cell BK117.out 2).trans rfl, (blk_cell BK117.out 3).trans rfl, (blk_cell BK117.out 4).trans rfl, (blk_cell BK117.out 5).trans rfl, (blk_cell BK117.out 6).trans rfl, (blk_cell BK117.out 7).trans rfl, (blk_cell BK117.out 8).trans rfl, (blk_cell BK118.out 0).trans rfl, (blk_cell BK118.out 1).trans rfl, (blk_cell BK118.out 2).trans rfl, (blk_cell BK118.out 3).trans rfl, (blk_cell BK118.out 4).trans rfl, (blk_cell BK118.out 5).trans rfl⟩ (fun _ => ?_)
                  clear hK K
                  refine norm_ (a' := ?_) ?_ ?_
                  rotate_left
                  ·show Act.put _ (some 62) _ = _
                   simp only [Act.put, List.setIfInBounds_toArray, List.set_cons_zero, List.set_cons_succ, i64_w, i32_w]
                   rfl
                  exact norm_ (by first | (simp only [putAll, Act.put, List.setIfInBounds_toArray, List.set_cons_zero, List.set_cons_succ]; done) | (simp only [putAll, Act.put, List.setIfInBounds_toArray, List.set_cons_zero, List.set_cons_succ]; rfl)) (hP1_28_29_30 (gA, v123, v126, v129) _ ⟨GA.out, HA_.out, HO124.out, HO127.out, HO130.out, BK117.out, BK118.out, HB.out⟩)
                ·skip
                 rintro ⟨gA, v123, v126⟩ wq235 ⟨h0_, h1_, h2_, h3_, h4_, h5_, h6_⟩
                 have n0_ : Aside0 (w.heap.size ≤ gA) := ⟨h0_⟩
                 have n1_ : Aside0 (wq235.heap[gA]? = some (.cells #[.int .u8 83, .int .u8 76] 5 (2, 3))) := ⟨h1_⟩
                 have n2_ : Aside0 (Kd.R (Kd.int .u64) 48 wq235 w.heap.size (fun _ => True) v123 y122) := ⟨h2_⟩
                 have n3_ : Aside0 (Kd.R (Kd.int .i64) 3 wq235 w.heap.size (fun _ => True) v126 t125) := ⟨h3_⟩
                 have n4_ : Aside0 (wq235.heap[gb117]? = some (.cells #[.int .i64 a0_0, .int .i64 a0_1, .bool a0_2, .int .i64 a0_3, .int .i64 a0_4, .int .i64 a0_5, .int .i64 a0_6, .int .i64 a0_7, .string a0_8] 25 (0, 0))) := ⟨h4_⟩
                 have n5_ : Aside0 (wq235.heap[gb118]? = some (.cells #[.int .i64 a0_3, .int .i64 a0_4, .int .i64 a0_5, .int .i64 a0_6, .int .i64 a0_7, .string a0_8] 23 (0, 0))) := ⟨h5_⟩
                 have n6_ : Aside0 (Below w.heap.size w wq235) := ⟨h6_⟩
                 (try clear hHeld)
                 clear BK117 BK118 HB h0_ h1_ h2_ h3_ h4_ h5_ h6_
                 have GA := n0_
                 have HA_ := n1_
                 have HO124 := n2_
                 have HO127 := n3_
                 have BK117 := n4_
                 have BK118 := n5_
                 have HB := n6_
                 clear n0_ n1_ n2_ n3_ n4_ n5_ n6_
                 obtain ⟨Ao62, co62, eo62⟩ := Kd.R_slice HO124.out
                 (first | subst eo62 | (injection eo62 with f1_ f2_ f3_; have f4_ := f1_.symm; have f5_ := f3_.symm; clear f1_ f2_ f3_; subst f4_; subst f5_))
                 obtain ⟨Ao63, co63, eo63⟩ := Kd.R_slice HO127.out
                 (first | subst eo63 | (injection eo63 with f1_ f2_ f3_; have f4_ := f1_.symm; have f5_ := f3_.symm; clear f1_ f2_ f3_; subst f4_; subst f5_))
                 refine norm_ (a' := ?_) ?_ ?_
                 rotate_left
                 ·simp only [putAll, Act.put, List.setIfInBounds_toArray, List.set_cons_zero, List.set_cons_succ]
                  rfl
                 refine one_ (i := 30) (N := some 92) #[true, true, true, true, true, true, true, true, true, true, true, true, true, true, true, true, true, true, true, true, true, true, true, true, true, true, true, true, true, true, true, false, false] rfl rfl (one_of HT_.out (by kernel_rfl)) (by decide) (fun K hK => ?_)
                 refine goes_ Try.func18 (by kernel_rfl) rfl #[.slice Ao62 y122.length co62, .slice Ao63 t125.length co63] (by rfl) rfl rfl (by (try simp only [List.map_toArray, List.map_cons, List.map_nil]); first | done | rfl | (simp only [List.length_drop, List.length_take]; rfl)) ?_
                 with_reducible refine (pack_Must.calls kj40 _ _ y122 _ _ t125 t128 _ ?side1 ?side2 ?side3 ?side4 A46.out).mono ?_
                 (case side1 => repeat (first | exact (Kd.R_reads' HO124.out).2.2 | (with_reducible refine Kd.C_alloc ?_ _) | (with_reducible refine Kd.C_drewN ?_ _) | (with_reducible refine Kd.C_drew ?_)))
                 (case side2 => exact (Kd.R_reads' HO124.out).2.1)
                 (case side3 => repeat (first | exact (Kd.R_reads' HO127.out).2.2 | (with_reducible refine Kd.C_alloc ?_ _) | (with_reducible refine Kd.C_drewN ?_ _) | (with_reducible refine Kd.C_drew ?_)))
                 (case side4 => exact (Kd.R_reads' HO127.out).2.1)
                 rintro e wq236 ⟨v129, rfl, ho0, hb⟩
                 refine ⟨_, rfl, ?_⟩
                 have n0_ := Aside0.mk GA.out
                 have n1_ := Aside0.mk (blk_below HA_.out hb)
                 have n2_ := Aside0.mk (Kd.R_below HO124.out hb)
                 have n3_ := Aside0.mk (Kd.R_below HO127.out hb)
                 have n4_ := Aside0.mk (Kd.R_lower ho0 (below_size HB.out))
                 have n5_ := Aside0.mk (blk_below BK117.out hb)
                 have n6_ := Aside0.mk (blk_below BK118.out hb)
                 have n7_ := Aside0.mk (below_step HB.out hb)
                 clear GA
                 clear HA_
                 clear HO124
                 clear HO127
                 clear BK117
                 clear BK118
                 clear HB
                 have GA := n0_
                 have HA_ := n1_
                 have HO124 := n2_
                 have HO127 := n3_
                 have HO130 := n4_
                 have BK117 := n5_
                 have BK118 := n6_
                 have HB := n7_
                 clear n0_ n1_ n2_ n3_ n4_ n5_ n6_ n7_
                 (try clear hb)
                 (try clear ho0)
                 (try clear hHeld)
                 refine hK.out _ _ ⟨(blk_cell BK117.out 0).trans rfl, (blk_cell BK117.out 1).trans rfl, (blk_cell BK117.out 2).trans rfl, (blk_cell BK117.out 3).trans rfl, (blk_cell BK117.out 4).trans rfl, (blk_cell BK117.out 5).trans rfl, (blk_cell BK117.out 6).trans rfl, (blk_cell BK117.out 7).trans rfl, (blk_cell BK117.out 8).trans rfl, (blk_cell BK118.out 0).trans rfl, (blk_cell BK118.out 1).trans rfl, (blk_cell BK118.out 2).trans rfl, (blk_cell BK118.out 3).trans rfl, (blk_cell BK118.out 4).trans rfl, (blk_cell BK118.out 5).trans rfl⟩ (fun _ => ?_)
                 clear hK K
                 refine norm_ (a' := ?_) ?_ ?_
                 rotate_left
                 ·show Act.put _ (some 92) _ = _
                  simp only [Act.put, List.setIfInBounds_toArray, List.set_cons_zero, List.set_cons_succ, i64_w, i32_w]
                  rfl
                 exact norm_ (by first | (simp only [putAll, Act.put, List.setIfInBounds_toArray, List.set_cons_zero, List.set_cons_succ]; done) | (simp only [putAll, Act.put, List.setIfInBounds_toArray, List.set_cons_zero, List.set_cons_succ]; rfl)) (hP2_28_29_30 (gA, (.slice Ao62 y122.length co62), (.slice Ao63 t125.length co63), v129) _ ⟨GA.out, HA_.out, HO124.out, HO127.out, HO130.out, BK117.out, BK118.out, HB.out⟩)
               ·skip
                rintro ⟨gA, v123, v126, v129⟩ wq237 ⟨h0_, h1_, h2_, h3_, h4_, h5_, h6_, h7_⟩
                have n0_ : Aside0 (w.heap.size ≤ gA) := ⟨h0_⟩
                have n1_ : Aside0 (wq237.heap[gA]? = some (.cells #[.int .u8 83, .int .u8 76] 5 (0, 0))) := ⟨h1_⟩
                have n2_ : Aside0 (Kd.R (Kd.int .u64) 48 wq237 w.heap.size (fun _ => True) v123 y122) := ⟨h2_⟩
                have n3_ : Aside0 (Kd.R (Kd.int .i64) 3 wq237 w.heap.size (fun _ => True) v126 t125) := ⟨h3_⟩
                have n4_ : Aside0 (Kd.R (Kd.int .u8) 5 wq237 w.heap.size (fun k_ => k_ ≠ gA) v129 t128) := ⟨h4_⟩
                have n5_ : Aside0 (wq237.heap[gb117]? = some (.cells #[.int .i64 a0_0, .int .i64 a0_1, .bool a0_2, .int .i64 a0_3, .int .i64 a0_4, .int .i64 a0_5, .int .i64 a0_6, .int .i64 a0_7, .string a0_8] 25 (0, 0))) := ⟨h5_⟩
                have n6_ : Aside0 (wq237.heap[gb118]? = some (.cells #[.int .i64 a0_3, .int .i64 a0_4, .int .i64 a0_5, .int .i64 a0_6, .int .i64 a0_7, .string a0_8] 23 (0, 0))) := ⟨h6_⟩
                have n7_ : Aside0 (Below w.heap.size w wq237) := ⟨h7_⟩
                (try clear hHeld)
                clear BK117 BK118 HB h0_ h1_ h2_ h3_ h4_ h5_ h6_ h7_
                have GA := n0_
                have HA_ := n1_
                have HO124 := n2_
                have HO127 := n3_
                have HO130 := n4_
                have BK117 := n5_
                have BK118 := n6_
                have HB := n7_
                clear n0_ n1_ n2_ n3_ n4_ n5_ n6_ n7_
                refine norm_ (a' := ?_) ?_ ?_
                rotate_left
                ·simp only [putAll, Act.put, List.setIfInBounds_toArray, List.set_cons_zero, List.set_cons_succ]
                 rfl
                refine one_ (i := 1) (N := some 63) #[true, true, true, true, true, true, true, true, true, true, true, true, true, true, true, true, true, true, true, true, true, true, true, true, true, true, true, true, true, true, true, false, false] rfl rfl (one_of HT_.out (by kernel_rfl)) (by decide) (fun K hK => ?_)
                refine Fz.conv_step (by rfl) (T := 26) (e := 5) (s := .tmp 62) (g := gA) (n := 2) (c := 2) (cs := #[.int .u8 83, .int .u8 76]) (by rfl) (by rfl) HA_.out Try.underlying26 Try.underlying5 ?_
                intro wq238 hA_ hg hbl
                have n0_ := Aside0.mk GA.out
                have n1_ := Aside0.mk hA_
                have n2_ := Aside0.mk (Kd.R_over' (v := (.slice (some ⟨gA, 0, none⟩) 2 2)) HO124.out (Fz.typedA HA_.out) (by decide) hg)
                have n3_ := Aside0.mk (Kd.R_over' (v := (.slice (some ⟨gA, 0, none⟩) 2 2)) HO127.out (Fz.typedA HA_.out) (by decide) hg)
                have n4_ := Aside0.mk (Kd.R_mono (ok' := fun _ => True) (Kd.R_grown HO130.out hg (fun k hk h_ => hk (Option.some.inj h_))) (fun _ _ => trivial))
                have n5_ := Aside0.mk (blk_grown BK117.out hg (fun h_ => blk_ne BK117.out HA_.out (by decide) (Option.some.inj h_)))
                have n6_ := Aside0.mk (blk_grown BK118.out hg (fun h_ => blk_ne BK118.out HA_.out (by decide) (Option.some.inj h_)))
                have n7_ := Aside0.mk (hbl _ _ HB.out GA.out)
                clear GA
                clear HA_
                clear HO124
                clear HO127
                clear HO130
                clear BK117
                clear BK118
                clear HB
                have GA := n0_
                have HA_ := n1_
                have HO124 := n2_
                have HO127 := n3_
                have HO130 := n4_
                have BK117 := n5_
                have BK118 := n6_
                have HB := n7_
                clear n0_ n1_ n2_ n3_ n4_ n5_ n6_ n7_
                (try clear hA_)
                (try clear hg)
                (try clear hbl)
                (try clear hHeld)
                refine hK.out _ _ ⟨(blk_cell BK117.out 0).trans rfl, (blk_cell BK117.out 1).trans rfl, (blk_cell BK117.out 2).trans rfl, (blk_cell BK117.out 3).trans rfl, (blk_cell BK117.out 4).trans rfl, (blk_cell BK117.out 5).trans rfl, (blk_cell BK117.out 6).trans rfl, (blk_cell BK117.out 7).trans rfl, (blk_cell BK117.out 8).trans rfl, (blk_cell BK118.out 0).trans rfl, (blk_cell BK118.out 1).trans rfl, (blk_cell BK118.out 2).trans rfl, (blk_cell BK118.out 3).trans rfl, (blk_cell BK118.out 4).trans rfl, (blk_cell BK118.out 5).trans rfl⟩ (fun _ => ?_)
                clear hK K
                refine norm_ (a' := ?_) ?_ ?_
                rotate_left
                ·show Act.put _ (some 63) _ = _
                 simp only [Act.put, List.setIfInBounds_toArray, List.set_cons_zero, List.set_cons_succ, i64_w, i32_w]
                 rfl
                exact norm_ (by first | (simp only [putAll, Act.put, List.setIfInBounds_toArray, List.set_cons_zero, List.set_cons_succ]; done) | (simp only [putAll, Act.put, List.setIfInBounds_toArray, List.set_cons_zero, List.set_cons_succ]; rfl)) (hP2_28_29_30 (gA, v123, v126, v129) _ ⟨GA.out, HA_.out, HO124.out, HO127.out, HO130.out, BK117.out, BK118.out, HB.out⟩)
              rintro ⟨gA, v123, v126, v129⟩ wq239 ⟨h0_, h1_, h2_, h3_, h4_, h5_, h6_, h7_⟩
              have n0_ : Aside0 (w.heap.size ≤ gA) := ⟨h0_⟩
              have n1_ : Aside0 (wq239.heap[gA]? = some (.cells #[.int .u8 83, .int .u8 76] 5 (2, 3))) := ⟨h1_⟩
              have n2_ : Aside0 (Kd.R (Kd.int .u64) 48 wq239 w.heap.size (fun _ => True) v123 y122) := ⟨h2_⟩
              have n3_ : Aside0 (Kd.R (Kd.int .i64) 3 wq239 w.heap.size (fun _ => True) v126 t125) := ⟨h3_⟩
              have n4_ : Aside0 (Kd.R (Kd.int .u8) 5 wq239 w.heap.size (fun _ => True) v129 t128) := ⟨h4_⟩
              have n5_ : Aside0 (wq239.heap[gb117]? = some (.cells #[.int .i64 a0_0, .int .i64 a0_1, .bool a0_2, .int .i64 a0_3, .int .i64 a0_4, .int .i64 a0_5, .int .i64 a0_6, .int .i64 a0_7, .string a0_8] 25 (0, 0))) := ⟨h5_⟩
              have n6_ : Aside0 (wq239.heap[gb118]? = some (.cells #[.int .i64 a0_3, .int .i64 a0_4, .int .i64 a0_5, .int .i64 a0_6, .int .i64 a0_7, .string a0_8] 23 (0, 0))) := ⟨h6_⟩
              have n7_ : Aside0 (Below w.heap.size w wq239) := ⟨h7_⟩
              (try clear hHeld)
              clear BK117 BK118 HB h0_ h1_ h2_ h3_ h4_ h5_ h6_ h7_
              have GA := n0_
              have HA_ := n1_
              have HO124 := n2_
              have HO127 := n3_
              have HO130 := n4_
              have BK117 := n5_
              have BK118 := n6_
              have HB := n7_
              clear n0_ n1_ n2_ n3_ n4_ n5_ n6_ n7_
              obtain ⟨Ao66, co66, eo66⟩ := Kd.R_slice HO130.out
              (first | subst eo66 | (injection eo66 with f1_ f2_ f3_; have f4_ := f1_.symm; have f5_ := f3_.symm; clear f1_ f2_ f3_; subst f4_; subst f5_))
              refine norm_ (a' := ?_) ?_ ?_
              rotate_left
              ·simp only [putAll, Act.put, List.setIfInBounds_toArray, List.set_cons_zero, List.set_cons_succ]
               rfl
              refine one_ (i := 31) (N := some 93) #[true, true, true, true, true, true, true, true, true, true, true, true, true, true, true, true, true, true, true, true, true, true, true, true, true, true, true, true, true, true, true, true, false] rfl rfl (one_of HT_.out (by kernel_rfl)) (by decide) (fun K hK => ?_)
              refine Fz.app_step (w0 := w) w.heap.size (by rfl) (.tmp 63) (.tmp 92) 26 5 rfl Try.underlying26 info5 gA ([83, 76] : List Int) t128 (2, 3) Ao66 t128.length co66 rfl rfl ?aA ?aR ?a0 ?aB ?aS ?aL ?_
              (case aA => exact HA_.out)
              (case aR => exact (Kd.R_reads' HO130.out).2.2)
              (case a0 => exact pack_Must.pos A46.out)
              (case aB => exact HB.out)
              (case aS => exact (below_size HB.out))
              (case aL => have h_ := LMc47.out; rw [Ny119.out] at h_; simp only [List.length_cons, List.length_nil] at h_ ⊢; omega)
              intro v132 w65 ho hb hg
              rw [← Ny119.out, ← Ny131.out] at ho
              have n0_ := Aside0.mk (blk_below BK117.out hg)
              have n1_ := Aside0.mk (blk_below BK118.out hg)
              have n2_ := Aside0.mk (Kd.R_below HO124.out hg)
              have n3_ := Aside0.mk (Kd.R_below HO127.out hg)
              have n4_ := Aside0.mk (Kd.R_mono (ok' := fun k_ => True ∧ some k_ ≠ (v132 : Value).ownBlock) (Kd.R_below (Kd.R_bound HO130.out) hg) (fun k_ hk => ⟨trivial, fun h_ => by have := ho.1 _ h_.symm; have := hk.2.2.1; omega⟩))
              have n5_ := Aside0.mk hb
              have n6_ := Aside0.mk (Kd.R_mono (ok' := fun _ => True) ho (fun _ _ => trivial))
              clear GA
              clear HA_
              clear HO124
              clear HO127
              clear HO130
              clear BK117
              clear BK118
              clear HB
              have BK117 := n0_
              have BK118 := n1_
              have HO124 := n2_
              have HO127 := n3_
              have HO130 := n4_
              have HB := n5_
              have HO133 := n6_
              clear n0_ n1_ n2_ n3_ n4_ n5_ n6_
              clear ho hb hg
              refine hK.out _ _ ⟨(blk_cell BK117.out 0).trans rfl, (blk_cell BK117.out 1).trans rfl, (blk_cell BK117.out 2).trans rfl, (blk_cell BK117.out 3).trans rfl, (blk_cell BK117.out 4).trans rfl, (blk_cell BK117.out 5).trans rfl, (blk_cell BK117.out 6).trans rfl, (blk_cell BK117.out 7).trans rfl, (blk_cell BK117.out 8).trans rfl, (blk_cell BK118.out 0).trans rfl, (blk_cell BK118.out 1).trans rfl, (blk_cell BK118.out 2).trans rfl, (blk_cell BK118.out 3).trans rfl, (blk_cell BK118.out 4).trans rfl, (blk_cell BK118.out 5).trans rfl⟩ (fun hHeld => ?_)
              clear hK K
              refine norm_ (a' := ?_) ?_ ?_
              rotate_left
              ·show Act.put _ (some 93) _ = _
               simp only [Act.put, List.setIfInBounds_toArray, List.set_cons_zero, List.set_cons_succ, i64_w, i32_w]
               rfl
              refine pure_ (i := 32) (N := some 6) (v := ?_) (a' := ?_) #[true, true, true, true, true, true, true, true, true, true, true, true, true, true, true, true, true, true, true, true, true, true, true, true, true, true, true, true, true, true, true, true, true] rfl rfl (any_of HT_.out (by kernel_rfl)) (fun _ _ _ h => h) (Or.inl ⟨by rfl, ?_⟩) ?_ ?_
              rotate_left
              ·intro w'
               go_simp
               with_reducible rfl
              rotate_left
              ·simp only [Act.put, List.setIfInBounds_toArray, List.set_cons_zero, List.set_cons_succ, i64_w, i32_w]
               rfl
              refine done_ (done_of HT_.out (by kernel_rfl)) ?_
              have hnb67 := NB118_117.out
              have hnc67 := NB117_118.out
              have hcz68_0 : w65.cell? ⟨gb118, 0, none⟩ = some (.int .i64 a0_3) := (blk_cell BK118.out 0).trans rfl
              have hcz68_1 : w65.cell? ⟨gb118, 1, none⟩ = some (.int .i64 a0_4) := (blk_cell BK118.out 1).trans rfl
              have hcz68_2 : w65.cell? ⟨gb118, 2, none⟩ = some (.int .i64 a0_5) := (blk_cell BK118.out 2).trans rfl
              have hcz68_3 : w65.cell? ⟨gb118, 3, none⟩ = some (.int .i64 a0_6) := (blk_cell BK118.out 3).trans rfl
              have hcz68_4 : w65.cell? ⟨gb118, 4, none⟩ = some (.int .i64 a0_7) := (blk_cell BK118.out 4).trans rfl
              have hcz68_5 : w65.cell? ⟨gb118, 5, none⟩ = some (.string a0_8) := (blk_cell BK118.out 5).trans rfl
              have hfz68_0 := blk_frozen BK118.out 0
              have hfz68_1 := blk_frozen BK118.out 1
              have hfz68_2 := blk_frozen BK118.out 2
              have hfz68_3 := blk_frozen BK118.out 3
              have hfz68_4 := blk_frozen BK118.out 4
              have hfz68_5 := blk_frozen BK118.out 5
              try go_wp2_with (first | (at_builtin; refine print_append_str (w0 := w) w.heap.size rfl (.tmp 94) _ 26 9 5 rfl Try.underlying26 Try.underlying9 info5 v132 y131 a0_8 rfl rfl ?aO ?aB ?aS ?aL ?_; (case aB => exact (by repeat (first | (with_reducible first | exact HB.out | apply below_alloc | apply pw_below_drewN | apply below_drew1 | refine below_set ?_ GE117.out | refine below_set ?_ GE118.out) | exact HB.out))); (case aO => exact (Kd.own_of_R (by (with_reducible repeat (first | apply Kd.R_alloc | apply Kd.R_drewN | apply Kd.R_drew)); exact Kd.R_mono HO133.out (fun _ hk => trivial)))); (case aS => exact (below_size (by repeat (first | (with_reducible first | exact HB.out | apply below_alloc | apply pw_below_drewN | apply below_drew1 | refine below_set ?_ GE117.out | refine below_set ?_ GE118.out) | exact HB.out)))); (case aL => have := LMc48.out; omega); intro v135 w69 ho0 hb hg; have ho := Kd.R_of_own (h1 := fun _ => rfl) (ok := fun _ => True) ho0 (fun _ _ => trivial); clear ho0; have hat := True.intro; rw [← Ny134.out] at ho; change Kd.R (Kd.int .u8) 5 w69 w.heap.size (fun _ => True) v135 y134 at ho; have n0_ := Aside0.mk (blk_grown (g := gb117) (o := .cells #[.int .i64 a0_0, .int .i64 a0_1, .bool a0_2, .int .i64 a0_3, .int .i64 a0_4, .int .i64 a0_5, .int .i64 a0_6, .int .i64 a0_7, .string a0_8] 25 (0, 0)) (by (with_reducible repeat (first | refine blk_drewN ?_ _ | refine blk_drew ?_ | refine blk_alloc ?_ _)); exact BK117.out) hg (Kd.R_ne HO133.out BK117.out (by decide))); have n1_ := Aside0.mk (blk_grown (g := gb118) (o := .cells #[.int .i64 a0_3, .int .i64 a0_4, .int .i64 a0_5, .int .i64 a0_6, .int .i64 a0_7, .string a0_8] 23 (0, 0)) (by (with_reducible repeat (first | refine blk_drewN ?_ _ | refine blk_drew ?_ | refine blk_alloc ?_ _)); exact BK118.out) hg (Kd.R_ne HO133.out BK118.out (by decide))); have n2_ := Aside0.mk (Kd.R_over' (by (with_reducible repeat (first | apply Kd.R_alloc | apply Kd.R_drewN | apply Kd.R_drew)); exact HO124.out) (Kd.R_typed (by (with_reducible repeat (first | apply Kd.R_alloc | apply Kd.R_drewN | apply Kd.R_drew)); exact HO133.out)) (by decide) hg); have n3_ := Aside0.mk (Kd.R_over' (by (with_reducible repeat (first | apply Kd.R_alloc | apply Kd.R_drewN | apply Kd.R_drew)); exact HO127.out) (Kd.R_typed (by (with_reducible repeat (first | apply Kd.R_alloc | apply Kd.R_drewN | apply Kd.R_drew)); exact HO133.out)) (by decide) hg); have n4_ := Aside0.mk (hb); have n5_ := Aside0.mk (ho); clear BK117; clear BK118; clear HO124; clear HO127; clear HB; clear HO133; have BK117 := n0_; have BK118 := n1_; have HO124 := n2_; have HO127 := n3_; have HB := n4_; have HO136 := n5_; clear n0_ n1_ n2_ n3_ n4_ n5_; clear ho hb hg hat; obtain ⟨Ao70, co70, eo70⟩ := Kd.R_slice HO136.out; subst eo70) | (at_builtin; refine Kd.R_append_zeros (Kd.int .u8) (w0 := w) w.heap.size rfl (.tmp 98) (.tmp 101) 26 3 5 (.int .u8 0) 1 rfl Try.underlying26 Try.underlying3 info5 rfl (by decide) (by omega) (.slice Ao70 y134.length co70) y134 0 (ji49 : Int) (fun _ => True) rfl rfl rfl ?aF ?aO (of_decide_eq_true (by first | (with_reducible assumption) | assumption)) ?aB ?aS ?aL ?_; (case aB => exact (by repeat (first | (with_reducible first | exact HB.out | apply below_alloc | apply pw_below_drewN | apply below_drew1 | refine below_set ?_ GE117.out | refine below_set ?_ GE118.out) | exact HB.out))); (case aF => exact (fun _ _ => trivial)); (case aO => exact (by (with_reducible repeat (first | apply Kd.R_alloc | apply Kd.R_drewN | apply Kd.R_drew)); exact HO136.out)); (case aS => exact (below_size (by repeat (first | (with_reducible first | exact HB.out | apply below_alloc | apply pw_below_drewN | apply below_drew1 | refine below_set ?_ GE117.out | refine below_set ?_ GE118.out) | exact HB.out)))); (case aL => have := LMc51.out; omega); intro v138 w71 ho hb hg hat; rw [← Ny137.out] at ho; have n0_ := Aside0.mk (blk_grown (g := gb117) (o := .cells #[.int .i64 a0_0, .int .i64 a0_1, .bool a0_2, .int .i64 a0_3, .int .i64 a0_4, .int .i64 a0_5, .int .i64 a0_6, .int .i64 a0_7, .string a0_8] 25 (0, 0)) (by (with_reducible repeat (first | refine blk_drewN ?_ _ | refine blk_drew ?_ | refine blk_alloc ?_ _)); exact BK117.out) hg (Kd.R_ne HO136.out BK117.out (by decide))); have n1_ := Aside0.mk (blk_grown (g := gb118) (o := .cells #[.int .i64 a0_3, .int .i64 a0_4, .int .i64 a0_5, .int .i64 a0_6, .int .i64 a0_7, .string a0_8] 23 (0, 0)) (by (with_reducible repeat (first | refine blk_drewN ?_ _ | refine blk_drew ?_ | refine blk_alloc ?_ _)); exact BK118.out) hg (Kd.R_ne HO136.out BK118.out (by decide))); have n2_ := Aside0.mk (Kd.R_over' (by (with_reducible repeat (first | apply Kd.R_alloc | apply Kd.R_drewN | apply Kd.R_drew)); exact HO124.out) (Kd.R_typed (by (with_reducible repeat (first | apply Kd.R_alloc | apply Kd.R_drewN | apply Kd.R_drew)); exact HO136.out)) (by decide) hg); have n3_ := Aside0.mk (Kd.R_over' (by (with_reducible repeat (first | apply Kd.R_alloc | apply Kd.R_drewN | apply Kd.R_drew)); exact HO127.out) (Kd.R_typed (by (with_reducible repeat (first | apply Kd.R_alloc | apply Kd.R_drewN | apply Kd.R_drew)); exact HO136.out)) (by decide) hg); have n4_ := Aside0.mk (hb); have n5_ := Aside0.mk (ho); clear BK117; clear BK118; clear HO124; clear HO127; clear HB; clear HO136; have BK117 := n0_; have BK118 := n1_; have HO124 := n2_; have HO127 := n3_; have HB := n4_; have HO139 := n5_; clear n0_ n1_ n2_ n3_ n4_ n5_; clear ho hb hg hat; obtain ⟨Ao72, co72, eo72⟩ := Kd.R_slice HO139.out; subst eo72) | ((with_reducible refine gate_callee (f := 20) rfl ?_); refine goesL_ (some 105) rfl rfl Try.func20 (by kernel_rfl) rfl #[.slice Ao72 y137.length co72] rfl (by (try simp only [List.map_toArray, List.map_cons, List.map_nil]); first | done | rfl | (simp only [List.length_drop, List.length_take]; rfl)) ?_; (with_reducible refine (crc_Sum.calls _ _ y137 t140 _ ?side1 ?side2 A52.out).mono ?_); (case side1 => repeat (first | exact (Kd.R_reads' HO139.out).2.2 | (with_reducible refine Kd.C_alloc ?_ _) | (with_reducible refine Kd.C_drewN ?_ _) | (with_reducible refine Kd.C_drew ?_))); (case side2 => exact (Kd.R_reads' HO139.out).2.1); rintro e w73 ⟨rfl, hb⟩; refine ⟨_, rfl, ?_⟩; have n0_ := Aside0.mk (Kd.R_below (by (with_reducible repeat (first | apply Kd.R_alloc | apply Kd.R_drewN | apply Kd.R_drew)); exact HO124.out) hb); have n1_ := Aside0.mk (Kd.R_below (by (with_reducible repeat (first | apply Kd.R_alloc | apply Kd.R_drewN | apply Kd.R_drew)); exact HO127.out) hb); have n2_ := Aside0.mk (Kd.R_below (by (with_reducible repeat (first | apply Kd.R_alloc | apply Kd.R_drewN | apply Kd.R_drew)); exact HO139.out) hb); have n3_ := Aside0.mk (blk_below (g := gb117) (o := .cells #[.int .i64 a0_0, .int .i64 a0_1, .bool a0_2, .int .i64 a0_3, .int .i64 a0_4, .int .i64 a0_5, .int .i64 a0_6, .int .i64 a0_7, .string a0_8] 25 (0, 0)) (by (with_reducible repeat (first | refine blk_drewN ?_ _ | refine blk_drew ?_ | refine blk_alloc ?_ _)); exact BK117.out) hb); have n4_ := Aside0.mk (blk_below (g := gb118) (o := .cells #[.int .i64 a0_3, .int .i64 a0_4, .int .i64 a0_5, .int .i64 a0_6, .int .i64 a0_7, .string a0_8] 23 (0, 0)) (by (with_reducible repeat (first | refine blk_drewN ?_ _ | refine blk_drew ?_ | refine blk_alloc ?_ _)); exact BK118.out) hb); have n5_ := Aside0.mk (below_step (by repeat (first | (with_reducible first | exact HB.out | apply below_alloc | apply pw_below_drewN | apply below_drew1 | refine below_set ?_ GE117.out | refine below_set ?_ GE118.out) | exact HB.out)) hb); clear HO124; clear HO127; clear HO139; clear BK117; clear BK118; clear HB; have HO124 := n0_; have HO127 := n1_; have HO139 := n2_; have BK117 := n3_; have BK118 := n4_; have HB := n5_; clear n0_ n1_ n2_ n3_ n4_ n5_; (try clear hb); (try clear hb2); (try clear hk); (try clear hi)) | ((with_reducible refine gate_dst (N := 107) rfl ?_); (try (refine gate_guard (by rfl) ?_; dsimp only)); refine Kd.R_lit (Kd.int .u64) _ 48 ?hg (N := 107) ?hd (xs := ([IntKind.u64.wrap (t140)] : List Int)) (inner := [.int .u64 (IntKind.u64.wrap (t140))]) (ok := fun _ => True) (okp := fun _ => True) ?hr ?hp (fun _ hk => hk) trivial (Below.refl _ _) (Nat.le_refl _) (by simp) ?_; (case hd => rfl); (case hg => rfl); (case hr => first | (go_simp; done) | (go_simp; rfl)); (case hp => exact (Reps.one (show Kd.M (Kd.int .u64) _ _ _ (IntKind.u64.wrap (t140)) [.int .u64 (IntKind.u64.wrap (t140))] from rfl) (Reps.none _ _))); intro v142 w74 ho75 hb hg_ hnew_; clear hg_ hnew_; (first | rw [← Ny141.out] at ho75 | (simp only [Int.reduceToNat] at ho75; rw [← Ny141.out] at ho75)); have n0_ := Aside0.mk (Kd.R_elder' (by (with_reducible repeat (first | apply Kd.R_alloc | apply Kd.R_drewN | apply Kd.R_drew)); exact HO124.out) (Kd.R_base ho75) hb); have n1_ := Aside0.mk (Kd.R_below (by (with_reducible repeat (first | apply Kd.R_alloc | apply Kd.R_drewN | apply Kd.R_drew)); exact HO127.out) hb); have n2_ := Aside0.mk (Kd.R_below (by (with_reducible repeat (first | apply Kd.R_alloc | apply Kd.R_drewN | apply Kd.R_drew)); exact HO139.out) hb); have n3_ := Aside0.mk (Kd.R_lower (Kd.R_new' ho75 (Kd.R_lt (by (with_reducible repeat (first | apply Kd.R_alloc | apply Kd.R_drewN | apply Kd.R_drew)); exact HO124.out))) (below_size (by repeat (first | (with_reducible first | exact HB.out | apply below_alloc | apply pw_below_drewN | apply below_drew1 | refine below_set ?_ GE117.out | refine below_set ?_ GE118.out) | exact HB.out)))); have n4_ := Aside0.mk (blk_below (g := gb117) (o := .cells #[.int .i64 a0_0, .int .i64 a0_1, .bool a0_2, .int .i64 a0_3, .int .i64 a0_4, .int .i64 a0_5, .int .i64 a0_6, .int .i64 a0_7, .string a0_8] 25 (0, 0)) (by (with_reducible repeat (first | refine blk_drewN ?_ _ | refine blk_drew ?_ | refine blk_alloc ?_ _)); exact BK117.out) hb); have n5_ := Aside0.mk (blk_below (g := gb118) (o := .cells #[.int .i64 a0_3, .int .i64 a0_4, .int .i64 a0_5, .int .i64 a0_6, .int .i64 a0_7, .string a0_8] 23 (0, 0)) (by (with_reducible repeat (first | refine blk_drewN ?_ _ | refine blk_drew ?_ | refine blk_alloc ?_ _)); exact BK118.out) hb); have n6_ := Aside0.mk (below_step (by repeat (first | (with_reducible first | exact HB.out | apply below_alloc | apply pw_below_drewN | apply below_drew1 | refine below_set ?_ GE117.out | refine below_set ?_ GE118.out) | exact HB.out)) hb); clear HO124; clear HO127; clear HO139; clear BK117; clear BK118; clear HB; have HO124 := n0_; have HO127 := n1_; have HO139 := n2_; have HO143 := n3_; have BK117 := n4_; have BK118 := n5_; have HB := n6_; clear n0_ n1_ n2_ n3_ n4_ n5_ n6_; clear hb ho75) | ((with_reducible refine gate_dst (N := 108) rfl ?_); (try (refine gate_guard (by rfl) ?_; dsimp only)); refine Kd.R_lit (Kd.int .i64) _ 3 ?hg (N := 108) ?hd (xs := ([4] : List Int)) (inner := [.int .i64 4]) (ok := fun _ => True) (okp := fun _ => True) ?hr ?hp (fun _ hk => hk) trivial (Below.refl _ _) (Nat.le_refl _) (by simp) ?_; (case hd => rfl); (case hg => rfl); (case hr => first | (go_simp; done) | (go_simp; rfl)); (case hp => exact (Reps.one (show Kd.M (Kd.int .i64) _ _ _ 4 [.int .i64 4] from rfl) (Reps.none _ _))); intro v145 w76 ho77 hb hg_ hnew_; clear hg_ hnew_; (first | rw [← Ny144.out] at ho77 | (simp only [Int.reduceToNat] at ho77; rw [← Ny144.out] at ho77)); have n0_ := Aside0.mk (Kd.R_below (by (with_reducible repeat (first | apply Kd.R_alloc | apply Kd.R_drewN | apply Kd.R_drew)); exact HO124.out) hb); have n1_ := Aside0.mk (Kd.R_elder' (by (with_reducible repeat (first | apply Kd.R_alloc | apply Kd.R_drewN | apply Kd.R_drew)); exact HO127.out) (Kd.R_base ho77) hb); have n2_ := Aside0.mk (Kd.R_below (by (with_reducible repeat (first | apply Kd.R_alloc | apply Kd.R_drewN | apply Kd.R_drew)); exact HO139.out) hb); have n3_ := Aside0.mk (Kd.R_below (by (with_reducible repeat (first | apply Kd.R_alloc | apply Kd.R_drewN | apply Kd.R_drew)); exact HO143.out) hb); have n4_ := Aside0.mk (Kd.R_lower (Kd.R_new' ho77 (Kd.R_lt (by (with_reducible repeat (first | apply Kd.R_alloc | apply Kd.R_drewN | apply Kd.R_drew)); exact HO127.out))) (below_size (by repeat (first | (with_reducible first | exact HB.out | apply below_alloc | apply pw_below_drewN | apply below_drew1 | refine below_set ?_ GE117.out | refine below_set ?_ GE118.out) | exact HB.out)))); have n5_ := Aside0.mk (blk_below (g := gb117) (o := .cells #[.int .i64 a0_0, .int .i64 a0_1, .bool a0_2, .int .i64 a0_3, .int .i64 a0_4, .int .i64 a0_5, .int .i64 a0_6, .int .i64 a0_7, .string a0_8] 25 (0, 0)) (by (with_reducible repeat (first | refine blk_drewN ?_ _ | refine blk_drew ?_ | refine blk_alloc ?_ _)); exact BK117.out) hb); have n6_ := Aside0.mk (blk_below (g := gb118) (o := .cells #[.int .i64 a0_3, .int .i64 a0_4, .int .i64 a0_5, .int .i64 a0_6, .int .i64 a0_7, .string a0_8] 23 (0, 0)) (by (with_reducible repeat (first | refine blk_drewN ?_ _ | refine blk_drew ?_ | refine blk_alloc ?_ _)); exact BK118.out) hb); have n7_ := Aside0.mk (below_step (by repeat (first | (with_reducible first | exact HB.out | apply below_alloc | apply pw_below_drewN | apply below_drew1 | refine below_set ?_ GE117.out | refine below_set ?_ GE118.out) | exact HB.out)) hb); clear HO124; clear HO127; clear HO139; clear HO143; clear BK117; clear BK118; clear HB; have HO124 := n0_; have HO127 := n1_; have HO139 := n2_; have HO143 := n3_; have HO146 := n4_; have BK117 := n5_; have BK118 := n6_; have HB := n7_; clear n0_ n1_ n2_ n3_ n4_ n5_ n6_ n7_; clear hb ho77; obtain ⟨Ao78, co78, eo78⟩ := Kd.R_slice HO143.out; subst eo78; obtain ⟨Ao79, co79, eo79⟩ := Kd.R_slice HO146.out; subst eo79) | ((with_reducible refine gate_callee (f := 18) rfl ?_); refine goesL_ (some 109) rfl rfl Try.func18 (by kernel_rfl) rfl #[.slice Ao78 y141.length co78, .slice Ao79 y144.length co79] rfl (by (try simp only [List.map_toArray, List.map_cons, List.map_nil]); first | done | rfl | (simp only [List.length_drop, List.length_take]; rfl)) ?_; (with_reducible refine (pack_Must.calls kj40 _ _ y141 _ _ y144 t147 _ ?side1 ?side2 ?side3 ?side4 A53.out).mono ?_); (case side1 => repeat (first | exact (Kd.R_reads' HO143.out).2.2 | (with_reducible refine Kd.C_alloc ?_ _) | (with_reducible refine Kd.C_drewN ?_ _) | (with_reducible refine Kd.C_drew ?_))); (case side2 => exact (Kd.R_reads' HO143.out).2.1); (case side3 => repeat (first | exact (Kd.R_reads' HO146.out).2.2 | (with_reducible refine Kd.C_alloc ?_ _) | (with_reducible refine Kd.C_drewN ?_ _) | (with_reducible refine Kd.C_drew ?_))); (case side4 => exact (Kd.R_reads' HO146.out).2.1); rintro e w80 ⟨v148, rfl, ho0, hb⟩; refine ⟨_, rfl, ?_⟩; have n0_ := Aside0.mk (Kd.R_below (by (with_reducible repeat (first | apply Kd.R_alloc | apply Kd.R_drewN | apply Kd.R_drew)); exact HO124.out) hb); have n1_ := Aside0.mk (Kd.R_below (by (with_reducible repeat (first | apply Kd.R_alloc | apply Kd.R_drewN | apply Kd.R_drew)); exact HO127.out) hb); have n2_ := Aside0.mk (Kd.R_elder' (by (with_reducible repeat (first | apply Kd.R_alloc | apply Kd.R_drewN | apply Kd.R_drew)); exact HO139.out) (Kd.R_base ho0) hb); have n3_ := Aside0.mk (Kd.R_below (by (with_reducible repeat (first | apply Kd.R_alloc | apply Kd.R_drewN | apply Kd.R_drew)); exact HO143.out) hb); have n4_ := Aside0.mk (Kd.R_below (by (with_reducible repeat (first | apply Kd.R_alloc | apply Kd.R_drewN | apply Kd.R_drew)); exact HO146.out) hb); have n5_ := Aside0.mk (Kd.R_lower (Kd.R_new' ho0 (Kd.R_lt (by (with_reducible repeat (first | apply Kd.R_alloc | apply Kd.R_drewN | apply Kd.R_drew)); exact HO139.out))) (below_size (by repeat (first | (with_reducible first | exact HB.out | apply below_alloc | apply pw_below_drewN | apply below_drew1 | refine below_set ?_ GE117.out | refine below_set ?_ GE118.out) | exact HB.out)))); have n6_ := Aside0.mk (blk_below (g := gb117) (o := .cells #[.int .i64 a0_0, .int .i64 a0_1, .bool a0_2, .int .i64 a0_3, .int .i64 a0_4, .int .i64 a0_5, .int .i64 a0_6, .int .i64 a0_7, .string a0_8] 25 (0, 0)) (by (with_reducible repeat (first | refine blk_drewN ?_ _ | refine blk_drew ?_ | refine blk_alloc ?_ _)); exact BK117.out) hb); have n7_ := Aside0.mk (blk_below (g := gb118) (o := .cells #[.int .i64 a0_3, .int .i64 a0_4, .int .i64 a0_5, .int .i64 a0_6, .int .i64 a0_7, .string a0_8] 23 (0, 0)) (by (with_reducible repeat (first | refine blk_drewN ?_ _ | refine blk_drew ?_ | refine blk_alloc ?_ _)); exact BK118.out) hb); have n8_ := Aside0.mk (below_step (by repeat (first | (with_reducible first | exact HB.out | apply below_alloc | apply pw_below_drewN | apply below_drew1 | refine below_set ?_ GE117.out | refine below_set ?_ GE118.out) | exact HB.out)) hb); clear HO124; clear HO127; clear HO139; clear HO143; clear HO146; clear BK117; clear BK118; clear HB; have HO124 := n0_; have HO127 := n1_; have HO139 := n2_; have HO143 := n3_; have HO146 := n4_; have HO149 := n5_; have BK117 := n6_; have BK118 := n7_; have HB := n8_; clear n0_ n1_ n2_ n3_ n4_ n5_ n6_ n7_ n8_; (try clear hb); (try clear hb2); (try clear hk); (try clear hi); (try clear ho0); obtain ⟨Ao82, co82, eo82⟩ := Kd.R_slice HO149.out; subst eo82) | ((with_reducible refine gate_builtin (b := .append) (xs := #[.tmp 103, .tmp 109]) rfl ?_); (try (refine gate_guard (by rfl) ?_; dsimp only)); at_builtin; refine Kd.R_append_rows (Kd.int .u8) (w0 := w) w.heap.size rfl (.tmp 103) (.tmp 109) 26 5 (.int .u8 0) 1 rfl Try.underlying26 info5 rfl (by decide) (by omega) (.slice Ao72 y137.length co72) y137 t147 _ _ _ (fun k_ => some k_ ≠ (.slice Ao82 t147.length co82 : Value).ownBlock) (fun _ => False) rfl rfl ?aO ?aR (fun _ _ h => h) (fun _ h => h.elim) ?aF ?aB ?aS ?aL ?_; (case aR => repeat (first | exact (Kd.R_reads' HO149.out).2.2 | (with_reducible refine Kd.C_alloc ?_ _) | (with_reducible refine Kd.C_drewN ?_ _) | (with_reducible refine Kd.C_drew ?_))); (case aB => exact (by repeat (first | (with_reducible first | exact HB.out | apply below_alloc | apply pw_below_drewN | apply below_drew1 | refine below_set ?_ GE117.out | refine below_set ?_ GE118.out) | exact HB.out))); (case aF => exact (fun k_ hk => Kd.fresh' (Kd.R_lt (by (with_reducible repeat (first | apply Kd.R_alloc | apply Kd.R_drewN | apply Kd.R_drew)); exact HO149.out)) k_ hk)); (case aO => exact (by (with_reducible repeat (first | apply Kd.R_alloc | apply Kd.R_drewN | apply Kd.R_drew)); exact Kd.R_mono HO139.out (fun _ hk => hk.2))); (case aS => exact (below_size (by repeat (first | (with_reducible first | exact HB.out | apply below_alloc | apply pw_below_drewN | apply below_drew1 | refine below_set ?_ GE117.out | refine below_set ?_ GE118.out) | exact HB.out)))); (case aL => have := LMc54.out; omega); intro v151 w81 ho hb hg hat; rw [← Ny150.out] at ho; have n0_ := Aside0.mk (blk_grown (g := gb117) (o := .cells #[.int .i64 a0_0, .int .i64 a0_1, .bool a0_2, .int .i64 a0_3, .int .i64 a0_4, .int .i64 a0_5, .int .i64 a0_6, .int .i64 a0_7, .string a0_8] 25 (0, 0)) (by (with_reducible repeat (first | refine blk_drewN ?_ _ | refine blk_drew ?_ | refine blk_alloc ?_ _)); exact BK117.out) hg (Kd.R_ne HO139.out BK117.out (by decide))); have n1_ := Aside0.mk (blk_grown (g := gb118) (o := .cells #[.int .i64 a0_3, .int .i64 a0_4, .int .i64 a0_5, .int .i64 a0_6, .int .i64 a0_7, .string a0_8] 23 (0, 0)) (by (with_reducible repeat (first | refine blk_drewN ?_ _ | refine blk_drew ?_ | refine blk_alloc ?_ _)); exact BK118.out) hg (Kd.R_ne HO139.out BK118.out (by decide))); have n2_ := Aside0.mk (Kd.R_over' (by (with_reducible repeat (first | apply Kd.R_alloc | apply Kd.R_drewN | apply Kd.R_drew)); exact HO124.out) (Kd.R_typed (by (with_reducible repeat (first | apply Kd.R_alloc | apply Kd.R_drewN | apply Kd.R_drew)); exact HO139.out)) (by decide) hg); have n3_ := Aside0.mk (Kd.R_over' (by (with_reducible repeat (first | apply Kd.R_alloc | apply Kd.R_drewN | apply Kd.R_drew)); exact HO127.out) (Kd.R_typed (by (with_reducible repeat (first | apply Kd.R_alloc | apply Kd.R_drewN | apply Kd.R_drew)); exact HO139.out)) (by decide) hg); have n4_ := Aside0.mk (Kd.R_over' (by (with_reducible repeat (first | apply Kd.R_alloc | apply Kd.R_drewN | apply Kd.R_drew)); exact HO143.out) (Kd.R_typed (by (with_reducible repeat (first | apply Kd.R_alloc | apply Kd.R_drewN | apply Kd.R_drew)); exact HO139.out)) (by decide) hg); have n5_ := Aside0.mk (Kd.R_over' (by (with_reducible repeat (first | apply Kd.R_alloc | apply Kd.R_drewN | apply Kd.R_drew)); exact HO146.out) (Kd.R_typed (by (with_reducible repeat (first | apply Kd.R_alloc | apply Kd.R_drewN | apply Kd.R_drew)); exact HO139.out)) (by decide) hg); have n6_ := Aside0.mk (Kd.R_after (ok := (fun _ => True)) (by (with_reducible repeat (first | apply Kd.R_alloc | apply Kd.R_drewN | apply Kd.R_drew)); exact HO149.out) hg hat); have n7_ := Aside0.mk (hb); have n8_ := Aside0.mk (ho); clear BK117; clear BK118; clear HO124; clear HO127; clear HO143; clear HO146; clear HO149; clear HB; clear HO139; have BK117 := n0_; have BK118 := n1_; have HO124 := n2_; have HO127 := n3_; have HO143 := n4_; have HO146 := n5_; have HO149 := n6_; have HB := n7_; have HO152 := n8_; clear n0_ n1_ n2_ n3_ n4_ n5_ n6_ n7_ n8_; clear ho hb hg hat))
              go_ret2
              exact ⟨_, by first | rfl | (simp [errW_none, errW_some] <;> rfl) | (simp only [← hji49]; first | rfl | (simp [errW_none, errW_some] <;> rfl)) | (simp [*, errW_none, errW_some] <;> rfl), by (with_reducible repeat (first | apply Kd.R_alloc | apply Kd.R_drewN | apply Kd.R_drew)); exact Kd.R_mono HO152.out (fun _ hk => trivial), by repeat (first | (with_reducible first | exact HB.out | apply below_alloc | apply pw_below_drewN | apply below_drew1 | refine below_set ?_ GE117.out | refine below_set ?_ GE118.out) | exact HB.out)⟩
             ·rw [if_neg c54] at H
              exact absurd H (by simp)
            ·rw [if_neg c51] at H
             exact absurd H (by simp)
           ·rw [if_neg c50] at H
            exact absurd H (by simp)
          ·rw [if_neg c48] at H
           exact absurd H (by simp)
         ·rw [if_neg c47] at H
          exact absurd H (by simp)

end Go.Proofs.Ytjfdjbmahahllaa.QLine
