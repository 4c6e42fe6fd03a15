/- Written by a program of this session (wip/tools/mk.py) out of the kit's printing programs and of texts of our own: the contracts of the Go functions that the law goes through, and the row of the law. No condition is added. -/
import Derived.Test.YtjfdjbmahahllaaQLinex0
import Derived.Test.YtjfdjbmahahllaaQLinex3
import Derived.Test.YtjfdjbmahahllaaQLinex4
import Derived.Test.YtjfdjbmahahllaaQLinex7
/- tight -/
namespace Go.Proofs.Ytjfdjbmahahllaa.QLine
open Go.RowKit Go.Proofs.YtjfdjbmahahllaaW.PrintWords Go.Proofs.YtjfdjbmahahllaaW.PrintLast Go.Proofs.YtjfdjbmahahllaaW.PrintMore
attribute [local go_sem] max2_int min2_int max_two min_two max_three min_three max_four min_four   -- for this text's walks alone
set_option linter.unusedVariables false
set_option linter.unusedSimpArgs false

attribute [local go_sem] min_seven
/-! ### line_Decode: function 13 -/
def line_Decode.j0 : Nat → List Int → Int → Int → Bool → Int → Int → Int → Int → Int → ByteArray → Option (Int × Int × Bool × Int × Int × Int × Int × Int × ByteArray × Int)
 | 0, _, _, _, _, _, _, _, _, _, _ => none
 | k + 1, x0, x243000, x243001, x243002, x243003, x243004, x243005, x243006, x243007, x243008 => (line_Encode.f k x243000 x243001 x243002 x243003 x243004 x243005 x243006 x243007 x243008).bind fun bt245 => (if bt245.2 = 0 then ((bytes_Equal.f bt245.1 x0).bind fun t249 => (if t249 = true then (some (x243000, x243001, x243002, x243003, x243004, x243005, x243006, x243007, x243008, 0)) else (some (0, 0, false, 0, 0, 0, 0, 0, (⟨#[]⟩ : ByteArray), 2)))) else (some (0, 0, false, 0, 0, 0, 0, 0, (⟨#[]⟩ : ByteArray), 2)))
def line_Decode.f (k : Nat) (l0 : List Int) : Option (Int × Int × Bool × Int × Int × Int × Int × Int × ByteArray × Int) := if (l0.length : Int) = 64 then (if 2 ≤ 41 then (if 41 ≤ (l0.length : Int) then ((line_sizes.f).bind fun t227 => ((pack_Split.f k ((l0.take 41).drop 2) t227).bind fun bt230 => (if 0 < (bt230.1.length : Int) then (if 1 < (bt230.1.length : Int) then (if 2 < (bt230.1.length : Int) then (if 3 < (bt230.1.length : Int) then (if 4 < (bt230.1.length : Int) then (if 5 < (bt230.1.length : Int) then (if 6 < (bt230.1.length : Int) then (if 7 < (bt230.1.length : Int) then (if 8 < (bt230.1.length : Int) then (if (rd bt230.1 8) = 16 then (if 41 ≤ 57 then (if 57 ≤ (l0.length : Int) then (line_Decode.j0 k l0 (wrap64 (rd bt230.1 0)) (wrap64 (rd bt230.1 1)) ((rd bt230.1 2) == 1) (wrap64 (rd bt230.1 3)) (wrap64 (rd bt230.1 4)) (wrap64 (rd bt230.1 5)) (wrap64 (rd bt230.1 6)) (wrap64 (rd bt230.1 7)) (strOfNums ((l0.take 57).drop 41))) else (none)) else (none)) else (line_Decode.j0 k l0 (wrap64 (rd bt230.1 0)) (wrap64 (rd bt230.1 1)) ((rd bt230.1 2) == 1) (wrap64 (rd bt230.1 3)) (wrap64 (rd bt230.1 4)) (wrap64 (rd bt230.1 5)) (wrap64 (rd bt230.1 6)) (wrap64 (rd bt230.1 7)) (⟨#[]⟩ : ByteArray))) else (none)) else (none)) else (none)) else (none)) else (none)) else (none)) else (none)) else (none)) else (none)))) else (none)) else (none)) else (some (0, 0, false, 0, 0, 0, 0, 0, (⟨#[]⟩ : ByteArray), 2))
theorem line_Decode.mono_l : ∀ k, (∀ y0 y1 y2 y3 y4 y5 y6 y7 y8 y9, LeO (line_Decode.j0 k y0 y1 y2 y3 y4 y5 y6 y7 y8 y9) (line_Decode.j0 (k + 1) y0 y1 y2 y3 y4 y5 y6 y7 y8 y9))
 | 0 => fun _ _ _ _ _ _ _ _ _ _ r h => by simp [line_Decode.j0] at h
 | k + 1 => by
  have ih0 := line_Decode.mono_l k
  ·intro y0 y1 y2 y3 y4 y5 y6 y7 y8 y9
   unfold line_Decode.j0
   repeat' first
   | (with_reducible exact ih0 _ _ _ _ _ _ _ _ _ _)
   | (with_reducible exact line_Encode.mono _ _ _ _ _ _ _ _ _ _)
   | (with_reducible exact pack_Split.mono _ _ _)
   | (with_reducible exact LeO.refl _)
   | (with_reducible exact LeO.none _)
   | (with_reducible refine LeO.ite ?_ ?_)
   | (with_reducible refine LeO.bind ?_ (fun _ => ?_))
   | exact ih0 _ _ _ _ _ _ _ _ _ _
   | exact line_Encode.mono _ _ _ _ _ _ _ _ _ _
   | exact pack_Split.mono _ _ _
   | exact LeO.none _
   | refine LeO.ite ?_ ?_
   | refine LeO.bind ?_ (fun _ => ?_)
theorem line_Decode.mono : ∀ a0 k, LeO (line_Decode.f k a0) (line_Decode.f (k + 1) a0) := by
 intro a0 k
 have ih0 := line_Decode.mono_l k
 unfold line_Decode.f
 repeat' first
   | (with_reducible exact ih0 _ _ _ _ _ _ _ _ _ _)
   | (with_reducible exact line_Encode.mono _ _ _ _ _ _ _ _ _ _)
   | (with_reducible exact pack_Split.mono _ _ _)
   | (with_reducible exact LeO.refl _)
   | (with_reducible exact LeO.none _)
   | (with_reducible refine LeO.ite ?_ ?_)
   | (with_reducible refine LeO.bind ?_ (fun _ => ?_))
   | exact ih0 _ _ _ _ _ _ _ _ _ _
   | exact line_Encode.mono _ _ _ _ _ _ _ _ _ _
   | exact pack_Split.mono _ _ _
   | exact LeO.none _
   | refine LeO.ite ?_ ?_
   | refine LeO.bind ?_ (fun _ => ?_)
def line_Decode.T3 : Bool × List (List Nat × List Nat) := (true, [([], []), ([0], [0]), ([], []), ([1, 2, 2], [1, 2]), ([3], [3]), ([4], [4]), ([4], [4]), ([5, 3, 0, 1, 2, 3, 4, 5], [5]), ([6, 7, 0, 1, 2, 3, 4, 5, 6, 7], [6])])
def line_Decode.B3 : List Nat := [0, 1, 0, 7, 15, 31, 31, 63, 255]
theorem line_Decode.tab3 : rtab .any (opsOf Try.f13 3) = line_Decode.T3 := by kernel_rfl
theorem line_Decode.bits3 : waitsOk line_Decode.T3.2 line_Decode.B3 = true := by kernel_rfl
def line_Decode.T4 : Bool × List (List Nat × List Nat) := (true, [([], []), ([0], [0]), ([1], [1]), ([2], [2]), ([], []), ([4], [4]), ([5], [5]), ([6], [6]), ([], []), ([8], [8]), ([9], [9]), ([10], [10]), ([], []), ([12], [12]), ([13], [13]), ([14], [14]), ([], []), ([16], [16]), ([17], [17]), ([18], [18]), ([], []), ([20], [20]), ([21], [21]), ([22], [22]), ([], []), ([24], [24]), ([25], [25]), ([26], [26]), ([], []), ([28], [28]), ([29], [29]), ([30], [30]), ([15, 19, 23, 27, 31], [15, 19, 23, 27, 31]), ([3, 7, 11, 32], [3, 7, 11, 32]), ([], []), ([34, 33, 0, 1, 2, 3, 4, 5, 6, 7, 8, 9, 10, 11, 12, 13, 14, 15, 16, 17, 18, 19, 20, 21, 22, 23, 24, 25, 26, 27, 28, 29, 30, 31, 32, 33, 34], [33, 34])])
def line_Decode.B4 : List Nat := [0, 1, 3, 7, 0, 16, 48, 112, 0, 256, 768, 1792, 0, 4096, 12288, 28672, 0, 65536, 196608, 458752, 0, 1048576, 3145728, 7340032, 0, 16777216, 50331648, 117440512, 0, 268435456, 805306368, 1879048192, 4294963200, 8589934591, 0, 34359738367]
theorem line_Decode.tab4 : rtab .any (opsOf Try.f13 4) = line_Decode.T4 := by kernel_rfl
theorem line_Decode.bits4 : waitsOk line_Decode.T4.2 line_Decode.B4 = true := by kernel_rfl
set_option maxHeartbeats 8000000 in
set_option maxRecDepth 100000 in
theorem line_Decode.calls (k : Nat) (A0 : Option Addr) (c0 : Nat) (l0 : List Int) (r1 : Int) (r2 : Int) (r3 : Bool) (r4 : Int) (r5 : Int) (r6 : Int) (r7 : Int) (r8 : Int) (r9 : ByteArray) (r10 : Int) (w : World) (hr0 : Kd.C (Kd.int .u8) w A0 l0.length l0) (hc0 : l0.length ≤ c0) (h : line_Decode.f k l0 = some (r1, r2, r3, r4, r5, r6, r7, r8, r9, r10)) :
  Calls Try.prog 13 #[.slice A0 l0.length c0] w fun e w' => e = .returned (.tuple #[.agg #[.int .i64 r1, .int .i64 r2, .bool r3, .int .i64 r4, .int .i64 r5, .int .i64 r6, .int .i64 r7, .int .i64 r8, .string r9], .int .i64 r10]) ∧ Below w.heap.size w w' := by
 have hu25 := Try.underlying25
 have hu23 := Try.underlying23
 have HR0 := Aside0.mk hr0
 have HC0 := Aside0.mk hc0
 clear hr0 hc0
 have HB := Aside0.mk (Below.refl w.heap.size w)
 have H : (if (l0.length : Int) = 64 then (if 2 ≤ 41 then (if 41 ≤ (l0.length : Int) then ((line_sizes.f).bind fun t227 => ((pack_Split.f k ((l0.take 41).drop 2) t227).bind fun bt230 => (if 0 < (bt230.1.length : Int) then (if 1 < (bt230.1.length : Int) then (if 2 < (bt230.1.length : Int) then (if 3 < (bt230.1.length : Int) then (if 4 < (bt230.1.length : Int) then (if 5 < (bt230.1.length : Int) then (if 6 < (bt230.1.length : Int) then (if 7 < (bt230.1.length : Int) then (if 8 < (bt230.1.length : Int) then (if (rd bt230.1 8) = 16 then (if 41 ≤ 57 then (if 57 ≤ (l0.length : Int) then (line_Decode.j0 k l0 (wrap64 (rd bt230.1 0)) (wrap64 (rd bt230.1 1)) ((rd bt230.1 2) == 1) (wrap64 (rd bt230.1 3)) (wrap64 (rd bt230.1 4)) (wrap64 (rd bt230.1 5)) (wrap64 (rd bt230.1 6)) (wrap64 (rd bt230.1 7)) (strOfNums ((l0.take 57).drop 41))) else (none)) else (none)) else (line_Decode.j0 k l0 (wrap64 (rd bt230.1 0)) (wrap64 (rd bt230.1 1)) ((rd bt230.1 2) == 1) (wrap64 (rd bt230.1 3)) (wrap64 (rd bt230.1 4)) (wrap64 (rd bt230.1 5)) (wrap64 (rd bt230.1 6)) (wrap64 (rd bt230.1 7)) (⟨#[]⟩ : ByteArray))) else (none)) else (none)) else (none)) else (none)) else (none)) else (none)) else (none)) else (none)) else (none)))) else (none)) else (none)) else (some (0, 0, false, 0, 0, 0, 0, 0, (⟨#[]⟩ : ByteArray), 2))) = some (r1, r2, r3, r4, r5, r6, r7, r8, r9, r10) := h
 clear h
 by_cases c2 : (l0.length : Int) = 64
 ·rw [if_pos c2] at H
  have c2b0 : ((l0.length : Int) == 64) = true := beq_iff_eq.mpr c2
  have c2b1 : ((l0.length : Int) != 64) = false := bne_eq_false_iff_eq.mpr c2
  clear c2
  by_cases c3 : 2 ≤ 41
  ·rw [if_pos c3] at H
   have c3b0 := eq_true c3
   have c3b1 : decide (2 ≤ 41) = true := decide_eq_true c3
   clear c3
   by_cases c4 : 41 ≤ (l0.length : Int)
   ·rw [if_pos c4] at H
    have c4b0 := eq_true c4
    have c4b1 : decide (41 ≤ (l0.length : Int)) = true := decide_eq_true c4
    clear c4
    replace H := Option.bind_eq_some_iff.mp H
    obtain ⟨t227, A50, H⟩ := H
    replace H : ((pack_Split.f k ((l0.take 41).drop 2) t227).bind fun bt230 => (if 0 < (bt230.1.length : Int) then (if 1 < (bt230.1.length : Int) then (if 2 < (bt230.1.length : Int) then (if 3 < (bt230.1.length : Int) then (if 4 < (bt230.1.length : Int) then (if 5 < (bt230.1.length : Int) then (if 6 < (bt230.1.length : Int) then (if 7 < (bt230.1.length : Int) then (if 8 < (bt230.1.length : Int) then (if (rd bt230.1 8) = 16 then (if 41 ≤ 57 then (if 57 ≤ (l0.length : Int) then (line_Decode.j0 k l0 (wrap64 (rd bt230.1 0)) (wrap64 (rd bt230.1 1)) ((rd bt230.1 2) == 1) (wrap64 (rd bt230.1 3)) (wrap64 (rd bt230.1 4)) (wrap64 (rd bt230.1 5)) (wrap64 (rd bt230.1 6)) (wrap64 (rd bt230.1 7)) (strOfNums ((l0.take 57).drop 41))) else (none)) else (none)) else (line_Decode.j0 k l0 (wrap64 (rd bt230.1 0)) (wrap64 (rd bt230.1 1)) ((rd bt230.1 2) == 1) (wrap64 (rd bt230.1 3)) (wrap64 (rd bt230.1 4)) (wrap64 (rd bt230.1 5)) (wrap64 (rd bt230.1 6)) (wrap64 (rd bt230.1 7)) (⟨#[]⟩ : ByteArray))) else (none)) else (none)) else (none)) else (none)) else (none)) else (none)) else (none)) else (none)) else (none))) = some (r1, r2, r3, r4, r5, r6, r7, r8, r9, r10) := H
    have A5 := Aside0.mk A50
    clear A50
    replace H := Option.bind_eq_some_iff.mp H
    obtain ⟨⟨t230, t233⟩, A60, H⟩ := H
    replace H : (if 0 < (t230.length : Int) then (if 1 < (t230.length : Int) then (if 2 < (t230.length : Int) then (if 3 < (t230.length : Int) then (if 4 < (t230.length : Int) then (if 5 < (t230.length : Int) then (if 6 < (t230.length : Int) then (if 7 < (t230.length : Int) then (if 8 < (t230.length : Int) then (if (rd t230 8) = 16 then (if 41 ≤ 57 then (if 57 ≤ (l0.length : Int) then (line_Decode.j0 k l0 (wrap64 (rd t230 0)) (wrap64 (rd t230 1)) ((rd t230 2) == 1) (wrap64 (rd t230 3)) (wrap64 (rd t230 4)) (wrap64 (rd t230 5)) (wrap64 (rd t230 6)) (wrap64 (rd t230 7)) (strOfNums ((l0.take 57).drop 41))) else (none)) else (none)) else (line_Decode.j0 k l0 (wrap64 (rd t230 0)) (wrap64 (rd t230 1)) ((rd t230 2) == 1) (wrap64 (rd t230 3)) (wrap64 (rd t230 4)) (wrap64 (rd t230 5)) (wrap64 (rd t230 6)) (wrap64 (rd t230 7)) (⟨#[]⟩ : ByteArray))) else (none)) else (none)) else (none)) else (none)) else (none)) else (none)) else (none)) else (none)) else (none)) = some (r1, r2, r3, r4, r5, r6, r7, r8, r9, r10) := H
    have A6 := Aside0.mk A60
    clear A60
    by_cases c7 : 0 < (t230.length : Int)
    ·rw [if_pos c7] at H
     have c7b0 : decide (0 < (t230.length : Int)) = true := decide_eq_true c7
     have c7b1 : decide (0 < t230.length) = true := decide_eq_true (by omega)
     clear c7
     by_cases c8 : 1 < (t230.length : Int)
     ·rw [if_pos c8] at H
      have c8b0 : decide (1 < (t230.length : Int)) = true := decide_eq_true c8
      have c8b1 : decide (1 < t230.length) = true := decide_eq_true (by omega)
      clear c8
      by_cases c9 : 2 < (t230.length : Int)
      ·rw [if_pos c9] at H
       have c9b0 : decide (2 < (t230.length : Int)) = true := decide_eq_true c9
       have c9b1 : decide (2 < t230.length) = true := decide_eq_true (by omega)
       clear c9
       by_cases c10 : 3 < (t230.length : Int)
       ·rw [if_pos c10] at H
        have c10b0 : decide (3 < (t230.length : Int)) = true := decide_eq_true c10
        have c10b1 : decide (3 < t230.length) = true := decide_eq_true (by omega)
        clear c10
        by_cases c11 : 4 < (t230.length : Int)
        ·rw [if_pos c11] at H
         have c11b0 : decide (4 < (t230.length : Int)) = true := decide_eq_true c11
         have c11b1 : decide (4 < t230.length) = true := decide_eq_true (by omega)
         clear c11
         by_cases c12 : 5 < (t230.length : Int)
         ·rw [if_pos c12] at H
          have c12b0 : decide (5 < (t230.length : Int)) = true := decide_eq_true c12
          have c12b1 : decide (5 < t230.length) = true := decide_eq_true (by omega)
          clear c12
          by_cases c13 : 6 < (t230.length : Int)
          ·rw [if_pos c13] at H
           have c13b0 : decide (6 < (t230.length : Int)) = true := decide_eq_true c13
           have c13b1 : decide (6 < t230.length) = true := decide_eq_true (by omega)
           clear c13
           by_cases c14 : 7 < (t230.length : Int)
           ·rw [if_pos c14] at H
            have c14b0 : decide (7 < (t230.length : Int)) = true := decide_eq_true c14
            have c14b1 : decide (7 < t230.length) = true := decide_eq_true (by omega)
            clear c14
            by_cases c15 : 8 < (t230.length : Int)
            ·rw [if_pos c15] at H
             have c15b0 : decide (8 < (t230.length : Int)) = true := decide_eq_true c15
             have c15b1 : decide (8 < t230.length) = true := decide_eq_true (by omega)
             clear c15
             have HC16 := Aside0.mk H
             clear H
             go_enter Try.func13, Try.ntmps13
             try go_wp2_with (first | ((with_reducible refine gate_dst (N := 2) rfl ?_); refine box_event ?hg (N := 2) ?hd (cs := #[.int .i64 0, .int .i64 0, .bool false, .int .i64 0, .int .i64 0, .int .i64 0, .int .i64 0, .int .i64 0, .string (⟨#[]⟩ : ByteArray)]) (t := 25) ?hr ?_; (case hd => rfl); (case hg => rfl); (case hr => first | (go_simp; done) | (go_simp; rfl)); intro gb225 hg w17 hbox hb; have n0_ := Aside0.mk (below_step (by repeat (first | (with_reducible first | exact HB.out | apply below_alloc | apply pw_below_drewN | apply below_drew1) | exact HB.out)) hb); have n1_ := Aside0.mk (hbox); have n2_ := Aside0.mk ((by rw [hg]; exact (below_size (by repeat (first | (with_reducible first | exact HB.out | apply below_alloc | apply pw_below_drewN | apply below_drew1) | exact HB.out))) : w.heap.size ≤ gb225)); have n3_ := Aside0.mk ((by rw [hg]; exact (below_size (by repeat (first | (with_reducible first | exact HB.out | apply below_alloc | apply pw_below_drewN | apply below_drew1) | exact HB.out))) : w.heap.size ≤ gb225)); clear HB; have HB := n0_; have BK225 := n1_; have GW225 := n2_; have GE225 := n3_; clear n0_ n1_ n2_ n3_; clear hb hbox hg))
             have n0_ := Aside0.mk (blk_drew BK225.out)
             have n1_ := Aside0.mk (below_drew1 HB.out)
             clear BK225
             clear HB
             have BK225 := n0_
             have HB := n1_
             clear n0_ n1_
             obtain ⟨i019, hi019, _, hsz19, _⟩ := info_parts info5
             obtain ⟨A19, hcut19, hA19, hC19⟩ := print_mid_of (P := Try.prog) (Value.int .u8) 0 26 5 .i64 .i64 Try.underlying26 hi019 hsz19 A0 c0 l0 2 41 (by omega) (by first | omega | exact of_decide_eq_true (by first | (with_reducible assumption) | assumption)) (of_decide_eq_true (by first | (with_reducible assumption) | assumption)) HC0.out
             have HR226 := Aside0.mk (Kd.C_of_reads (h1 := fun _ => rfl) (hA19 _ (Kd.reads_of_C HR0.out)))
             have HC226 := Aside0.mk hC19
             clear hA19 hC19 hi019 hsz19
             refine start_ (n := 9) (S := fun w' => True) (ds := []) #[false, false, false, false, false, false, false, false, false] (by kernel_rfl) rfl rfl trivial (fun hHeld => ?_); refine with_tabW line_Decode.tab3 line_Decode.bits3 (fun HT_ HW_ => ?_)
             generalize w17.drew = w18 at BK225 HB HR226 hHeld ⊢
             refine pure_ (i := 0) (N := some 14) (v := ?_) (a' := ?_) #[true, false, false, false, false, false, false, false, false] rfl rfl (any_of HT_.out (by kernel_rfl)) (fun _ _ _ h => h) (Or.inl ⟨by rfl, ?_⟩) ?_ ?_
             rotate_left
             ·intro w'
              go_simp
              with_reducible rfl
             rotate_left
             ·simp only [Act.put, List.setIfInBounds_toArray, List.set_cons_zero, List.set_cons_succ, i64_w, i32_w]
              rfl
             refine pure_ (i := 1) (N := some 15) (v := ?_) (a' := ?_) #[true, true, false, false, false, false, false, false, false] rfl rfl (any_of HT_.out (by kernel_rfl)) (fun _ _ _ h => h) (Or.inl ⟨by rfl, ?_⟩) ?_ ?_
             rotate_left
             ·intro w'
              go_simp
              with_reducible rfl
             rotate_left
             ·simp only [Act.put, List.setIfInBounds_toArray, List.set_cons_zero, List.set_cons_succ, i64_w, i32_w]
              rfl
             refine one_ (i := 2) (N := some 16) #[true, true, true, false, false, false, false, false, false] rfl rfl (one_of HT_.out (by kernel_rfl)) (by decide) (fun K hK => ?_)
             refine goes_ Try.func19 (by kernel_rfl) rfl #[] (by rfl) rfl rfl (by (try simp only [List.map_toArray, List.map_cons, List.map_nil]); first | done | rfl | (simp only [List.length_drop, List.length_take]; rfl)) ?_
             with_reducible refine (line_sizes.calls  t227 _ A5.out).mono ?_
             rintro e w20 ⟨v228, rfl, ho0, hb⟩
             refine ⟨_, rfl, ?_⟩
             have n0_ := Aside0.mk (Kd.R_lower ho0 (below_size (by repeat (first | (with_reducible first | exact HB.out | apply below_alloc | apply pw_below_drewN | apply below_drew1 | refine below_set ?_ GE225.out) | exact HB.out))))
             have n1_ := Aside0.mk (blk_below (g := gb225) (o := .cells #[.int .i64 0, .int .i64 0, .bool false, .int .i64 0, .int .i64 0, .int .i64 0, .int .i64 0, .int .i64 0, .string (⟨#[]⟩ : ByteArray)] 25 (0, 0)) (by (with_reducible repeat (first | refine blk_drewN ?_ _ | refine blk_drew ?_ | refine blk_alloc ?_ _)); exact BK225.out) hb)
             have n2_ := Aside0.mk (below_step (by repeat (first | (with_reducible first | exact HB.out | apply below_alloc | apply pw_below_drewN | apply below_drew1 | refine below_set ?_ GE225.out) | exact HB.out)) hb)
             clear BK225
             clear HB
             have HO229 := n0_
             have BK225 := n1_
             have HB := n2_
             clear n0_ n1_ n2_
             (try clear hb)
             (try clear hb2)
             (try clear hk)
             (try clear hi)
             (try clear ho0)
             obtain ⟨Ao21, co21, eo21⟩ := Kd.R_slice HO229.out
             (first | subst eo21 | (injection eo21 with f1_ f2_ f3_; have f4_ := f1_.symm; have f5_ := f3_.symm; clear f1_ f2_ f3_; subst f4_; subst f5_))
             refine hK.out _ _ trivial (fun hHeld => ?_)
             clear hK K
             refine norm_ (a' := ?_) ?_ ?_
             rotate_left
             ·show Act.put _ (some 16) _ = _
              simp only [Act.put, List.setIfInBounds_toArray, List.set_cons_zero, List.set_cons_succ, i64_w, i32_w]
              rfl
             refine one_ (i := 3) (N := some 17) #[true, true, true, true, false, false, false, false, false] rfl rfl (one_of HT_.out (by kernel_rfl)) (by decide) (fun K hK => ?_)
             refine goes_ Try.func24 (by kernel_rfl) rfl #[.slice A19 ((l0.take 41).drop 2).length (c0 - 2), .slice Ao21 t227.length co21] (by rfl) rfl rfl (by (try simp only [List.map_toArray, List.map_cons, List.map_nil]); first | done | (rw [show ((l0.take 41).drop 2).length = (41 - 2) from (by rw [List.length_drop, List.length_take]; have h_ : (41 : Int) ≤ (l0.length : Int) := of_decide_eq_true (by first | (with_reducible assumption) | assumption); omega)] <;> rfl) | rfl | (simp only [List.length_drop, List.length_take]; rfl)) ?_
             with_reducible refine (pack_Split.calls k (fun k_ => k_ < w.heap.size) _ _ ((l0.take 41).drop 2) _ _ t227 t230 t233 _ ?side1 ?side2 ?side3 A6.out).mono ?_
             (case side1 => exact Kd.V_mk HC226.out (Kd.F_below (Kd.C_F (Kd.heap_int .u8) HR226.out) (by repeat (first | (with_reducible first | exact HB.out | apply below_alloc | apply pw_below_drewN | apply below_drew1 | refine below_set ?_ GE225.out) | exact HB.out))))
             (case side2 => repeat (first | exact (Kd.R_reads' HO229.out).2.2 | (with_reducible refine Kd.C_alloc ?_ _) | (with_reducible refine Kd.C_drewN ?_ _) | (with_reducible refine Kd.C_drew ?_)))
             (case side3 => exact (Kd.R_reads' HO229.out).2.1)
             rintro e w22 ⟨v231, rfl, ho0, hb⟩
             refine ⟨_, rfl, ?_⟩
             have n0_ := Aside0.mk (Kd.R_below (by (with_reducible repeat (first | apply Kd.R_alloc | apply Kd.R_drewN | apply Kd.R_drew)); exact HO229.out) hb)
             have n1_ := Aside0.mk (Kd.R_lower (Kd.R_mono (ok' := fun k_ => True) ho0 (fun _ hk_ => trivial)) (below_size (by repeat (first | (with_reducible first | exact HB.out | apply below_alloc | apply pw_below_drewN | apply below_drew1 | refine below_set ?_ GE225.out) | exact HB.out))))
             have n2_ := Aside0.mk (blk_below (g := gb225) (o := .cells #[.int .i64 0, .int .i64 0, .bool false, .int .i64 0, .int .i64 0, .int .i64 0, .int .i64 0, .int .i64 0, .string (⟨#[]⟩ : ByteArray)] 25 (0, 0)) (by (with_reducible repeat (first | refine blk_drewN ?_ _ | refine blk_drew ?_ | refine blk_alloc ?_ _)); exact BK225.out) hb)
             have n3_ := Aside0.mk (below_step (by repeat (first | (with_reducible first | exact HB.out | apply below_alloc | apply pw_below_drewN | apply below_drew1 | refine below_set ?_ GE225.out) | exact HB.out)) hb)
             clear HO229
             clear BK225
             clear HB
             have HO229 := n0_
             have HO232 := n1_
             have BK225 := n2_
             have HB := n3_
             clear n0_ n1_ n2_ n3_
             (try clear hb)
             (try clear hb2)
             (try clear hk)
             (try clear hi)
             (try clear ho0)
             refine hK.out _ _ trivial (fun hHeld => ?_)
             clear hK K
             refine norm_ (a' := ?_) ?_ ?_
             rotate_left
             ·show Act.put _ (some 17) _ = _
              simp only [Act.put, List.setIfInBounds_toArray, List.set_cons_zero, List.set_cons_succ, i64_w, i32_w]
              rfl
             refine pure_ (i := 4) (N := some 13) (v := ?_) (a' := ?_) #[true, true, true, true, true, false, false, false, false] rfl rfl (any_of HT_.out (by kernel_rfl)) (fun _ _ _ h => h) (Or.inl ⟨by rfl, ?_⟩) ?_ ?_
             rotate_left
             ·intro w'
              go_simp
              with_reducible rfl
             rotate_left
             ·simp only [Act.put, List.setIfInBounds_toArray, List.set_cons_zero, List.set_cons_succ, i64_w, i32_w]
              rfl
             refine pure_ (i := 5) (N := some 18) (v := ?_) (a' := ?_) #[true, true, true, true, true, true, false, false, false] rfl rfl (any_of HT_.out (by kernel_rfl)) (fun _ _ _ h => h) (Or.inl ⟨by rfl, ?_⟩) ?_ ?_
             rotate_left
             ·intro w'
              go_simp
              with_reducible rfl
             rotate_left
             ·simp only [Act.put, List.setIfInBounds_toArray, List.set_cons_zero, List.set_cons_succ, i64_w, i32_w]
              rfl
             refine pure_ (i := 6) (N := some 19) (v := ?_) (a' := ?_) #[true, true, true, true, true, true, true, false, false] rfl rfl (any_of HT_.out (by kernel_rfl)) (fun _ _ _ h => h) (Or.inl ⟨by rfl, ?_⟩) ?_ ?_
             rotate_left
             ·intro w'
              go_simp
              with_reducible rfl
             rotate_left
             ·simp only [Act.put, List.setIfInBounds_toArray, List.set_cons_zero, List.set_cons_succ, i64_w, i32_w]
              rfl
             refine pure_ (i := 7) (N := some 4) (v := ?_) (a' := ?_) #[true, true, true, true, true, true, true, true, false] rfl rfl (any_of HT_.out (by kernel_rfl)) (fun _ _ _ h => h) (Or.inl ⟨by rfl, ?_⟩) ?_ ?_
             rotate_left
             ·intro w'
              go_simp
              with_reducible rfl
             rotate_left
             ·simp only [Act.put, List.setIfInBounds_toArray, List.set_cons_zero, List.set_cons_succ, i64_w, i32_w]
              rfl
             refine pure_ (i := 8) (N := some 5) (v := ?_) (a' := ?_) #[true, true, true, true, true, true, true, true, true] rfl rfl (any_of HT_.out (by kernel_rfl)) (fun _ _ _ h => h) (Or.inl ⟨by rfl, ?_⟩) ?_ ?_
             rotate_left
             ·intro w'
              go_simp
              with_reducible rfl
             rotate_left
             ·simp only [Act.put, List.setIfInBounds_toArray, List.set_cons_zero, List.set_cons_succ, i64_w, i32_w]
              rfl
             refine done_ (done_of HT_.out (by kernel_rfl)) ?_
             try go_wp2
             have n0_ := Aside0.mk (Kd.R_drew HO229.out)
             have n1_ := Aside0.mk (Kd.R_drew HO232.out)
             have n2_ := Aside0.mk (blk_drew BK225.out)
             have n3_ := Aside0.mk (below_drew1 HB.out)
             clear HO229
             clear HO232
             clear BK225
             clear HB
             have HO229 := n0_
             have HO232 := n1_
             have BK225 := n2_
             have HB := n3_
             clear n0_ n1_ n2_ n3_
             obtain ⟨Ao24, co24, eo24⟩ := Kd.R_slice HO232.out
             (first | subst eo24 | (injection eo24 with f1_ f2_ f3_; have f4_ := f1_.symm; have f5_ := f3_.symm; clear f1_ f2_ f3_; subst f4_; subst f5_))
             have p234 : 0 ≤ (0 : Int) := (by omega)
             have q234 : 0 < (t230.length : Int) := of_decide_eq_true (by first | (with_reducible assumption) | assumption)
             obtain ⟨ad234, e234, hx234_0⟩ := Kd.at_int (Kd.R_reads' HO232.out).2.2 0 p234 q234
             cases e234
             have qi234 : (0 < t230.length) = True := eq_true (by omega)
             (try rw [show ((0 : Int)).toNat = 0 from rfl] at hx234_0)
             (try rw [Addr.add_zero'] at hx234_0)
             replace p234 := eq_true p234
             replace q234 := eq_true q234
             have p235 : 0 ≤ (1 : Int) := (by omega)
             have q235 : 1 < (t230.length : Int) := of_decide_eq_true (by first | (with_reducible assumption) | assumption)
             obtain ⟨ad235, e235, hx235_0⟩ := Kd.at_int (Kd.R_reads' HO232.out).2.2 1 p235 q235
             obtain rfl : ad234 = ad235 := (by injection e235)
             (try simp only [show (1 : Int).toNat = 1 from rfl, Nat.reduceMul, Nat.reduceEqDiff, Go.Addr.add, ↓reduceIte] at hx235_0)
             have qi235 : (1 < t230.length) = True := eq_true (by omega)
             (try rw [show ((1 : Int)).toNat = 1 from rfl] at hx235_0)
             replace p235 := eq_true p235
             replace q235 := eq_true q235
             have p236 : 0 ≤ (2 : Int) := (by omega)
             have q236 : 2 < (t230.length : Int) := of_decide_eq_true (by first | (with_reducible assumption) | assumption)
             obtain ⟨ad236, e236, hx236_0⟩ := Kd.at_int (Kd.R_reads' HO232.out).2.2 2 p236 q236
             obtain rfl : ad234 = ad236 := (by injection e236)
             (try simp only [show (2 : Int).toNat = 2 from rfl, Nat.reduceMul, Nat.reduceEqDiff, Go.Addr.add, ↓reduceIte] at hx236_0)
             have qi236 : (2 < t230.length) = True := eq_true (by omega)
             (try rw [show ((2 : Int)).toNat = 2 from rfl] at hx236_0)
             replace p236 := eq_true p236
             replace q236 := eq_true q236
             have p237 : 0 ≤ (3 : Int) := (by omega)
             have q237 : 3 < (t230.length : Int) := of_decide_eq_true (by first | (with_reducible assumption) | assumption)
             obtain ⟨ad237, e237, hx237_0⟩ := Kd.at_int (Kd.R_reads' HO232.out).2.2 3 p237 q237
             obtain rfl : ad234 = ad237 := (by injection e237)
             (try simp only [show (3 : Int).toNat = 3 from rfl, Nat.reduceMul, Nat.reduceEqDiff, Go.Addr.add, ↓reduceIte] at hx237_0)
             have qi237 : (3 < t230.length) = True := eq_true (by omega)
             (try rw [show ((3 : Int)).toNat = 3 from rfl] at hx237_0)
             replace p237 := eq_true p237
             replace q237 := eq_true q237
             have p238 : 0 ≤ (4 : Int) := (by omega)
             have q238 : 4 < (t230.length : Int) := of_decide_eq_true (by first | (with_reducible assumption) | assumption)
             obtain ⟨ad238, e238, hx238_0⟩ := Kd.at_int (Kd.R_reads' HO232.out).2.2 4 p238 q238
             obtain rfl : ad234 = ad238 := (by injection e238)
             (try simp only [show (4 : Int).toNat = 4 from rfl, Nat.reduceMul, Nat.reduceEqDiff, Go.Addr.add, ↓reduceIte] at hx238_0)
             have qi238 : (4 < t230.length) = True := eq_true (by omega)
             (try rw [show ((4 : Int)).toNat = 4 from rfl] at hx238_0)
             replace p238 := eq_true p238
             replace q238 := eq_true q238
             have p239 : 0 ≤ (5 : Int) := (by omega)
             have q239 : 5 < (t230.length : Int) := of_decide_eq_true (by first | (with_reducible assumption) | assumption)
             obtain ⟨ad239, e239, hx239_0⟩ := Kd.at_int (Kd.R_reads' HO232.out).2.2 5 p239 q239
             obtain rfl : ad234 = ad239 := (by injection e239)
             (try simp only [show (5 : Int).toNat = 5 from rfl, Nat.reduceMul, Nat.reduceEqDiff, Go.Addr.add, ↓reduceIte] at hx239_0)
             have qi239 : (5 < t230.length) = True := eq_true (by omega)
             (try rw [show ((5 : Int)).toNat = 5 from rfl] at hx239_0)
             replace p239 := eq_true p239
             replace q239 := eq_true q239
             have p240 : 0 ≤ (6 : Int) := (by omega)
             have q240 : 6 < (t230.length : Int) := of_decide_eq_true (by first | (with_reducible assumption) | assumption)
             obtain ⟨ad240, e240, hx240_0⟩ := Kd.at_int (Kd.R_reads' HO232.out).2.2 6 p240 q240
             obtain rfl : ad234 = ad240 := (by injection e240)
             (try simp only [show (6 : Int).toNat = 6 from rfl, Nat.reduceMul, Nat.reduceEqDiff, Go.Addr.add, ↓reduceIte] at hx240_0)
             have qi240 : (6 < t230.length) = True := eq_true (by omega)
             (try rw [show ((6 : Int)).toNat = 6 from rfl] at hx240_0)
             replace p240 := eq_true p240
             replace q240 := eq_true q240
             have p241 : 0 ≤ (7 : Int) := (by omega)
             have q241 : 7 < (t230.length : Int) := of_decide_eq_true (by first | (with_reducible assumption) | assumption)
             obtain ⟨ad241, e241, hx241_0⟩ := Kd.at_int (Kd.R_reads' HO232.out).2.2 7 p241 q241
             obtain rfl : ad234 = ad241 := (by injection e241)
             (try simp only [show (7 : Int).toNat = 7 from rfl, Nat.reduceMul, Nat.reduceEqDiff, Go.Addr.add, ↓reduceIte] at hx241_0)
             have qi241 : (7 < t230.length) = True := eq_true (by omega)
             (try rw [show ((7 : Int)).toNat = 7 from rfl] at hx241_0)
             replace p241 := eq_true p241
             replace q241 := eq_true q241
             refine start_ (n := 36) (S := fun w' => w'.cell? ad234 = some (.int .u64 (rd t230 0)) ∧ w'.cell? ⟨ad234.block, ad234.off + 1, none⟩ = some (.int .u64 (rd t230 1)) ∧ w'.cell? ⟨ad234.block, ad234.off + 2, none⟩ = some (.int .u64 (rd t230 2)) ∧ w'.cell? ⟨ad234.block, ad234.off + 3, none⟩ = some (.int .u64 (rd t230 3)) ∧ w'.cell? ⟨ad234.block, ad234.off + 4, none⟩ = some (.int .u64 (rd t230 4)) ∧ w'.cell? ⟨ad234.block, ad234.off + 5, none⟩ = some (.int .u64 (rd t230 5)) ∧ w'.cell? ⟨ad234.block, ad234.off + 6, none⟩ = some (.int .u64 (rd t230 6)) ∧ w'.cell? ⟨ad234.block, ad234.off + 7, none⟩ = some (.int .u64 (rd t230 7))) (ds := []) #[false, false, false, false, false, false, false, false, false, false, false, false, false, false, false, false, false, false, false, false, false, false, false, false, false, false, false, false, false, false, false, false, false, false, false, false] (by kernel_rfl) rfl rfl ⟨hx234_0, hx235_0, hx236_0, hx237_0, hx238_0, hx239_0, hx240_0, hx241_0⟩ (fun hHeld => ?_); refine with_tabW line_Decode.tab4 line_Decode.bits4 (fun HT_ HW_ => ?_)
             generalize w22.drew = w23 at HO229 HO232 BK225 HB hx234_0 hx235_0 hx236_0 hx237_0 hx238_0 hx239_0 hx240_0 hx241_0 hHeld ⊢
             refine pure_ (i := 0) (N := some 20) (v := ?_) (a' := ?_) #[true, false, false, false, false, false, false, false, false, false, false, false, false, false, false, false, false, false, false, false, false, false, false, false, false, false, false, false, false, false, false, false, false, false, false, false] rfl rfl (any_of HT_.out (by kernel_rfl)) (fun _ _ _ h => h) (Or.inl ⟨by rfl, ?_⟩) ?_ ?_
             rotate_left
             ·intro w'
              go_simp
              with_reducible rfl
             rotate_left
             ·simp only [Act.put, List.setIfInBounds_toArray, List.set_cons_zero, List.set_cons_succ, i64_w, i32_w]
              rfl
             refine pure_ (i := 1) (N := some 21) (v := ?_) (a' := ?_) #[true, true, false, false, false, false, false, false, false, false, false, false, false, false, false, false, false, false, false, false, false, false, false, false, false, false, false, false, false, false, false, false, false, false, false, false] rfl rfl (any_of HT_.out (by kernel_rfl)) (fun _ _ _ h => h) (Or.inl ⟨by rfl, ?_⟩) ?_ ?_
             rotate_left
             ·intro w'
              go_simp
              with_reducible rfl
             rotate_left
             ·simp only [Act.put, List.setIfInBounds_toArray, List.set_cons_zero, List.set_cons_succ, i64_w, i32_w]
              rfl
             refine pure_ (i := 4) (N := some 24) (v := ?_) (a' := ?_) #[true, true, false, false, true, false, false, false, false, false, false, false, false, false, false, false, false, false, false, false, false, false, false, false, false, false, false, false, false, false, false, false, false, false, false, false] rfl rfl (any_of HT_.out (by kernel_rfl)) (fun _ _ _ h => h) (Or.inl ⟨by rfl, ?_⟩) ?_ ?_
             rotate_left
             ·intro w'
              go_simp
              with_reducible rfl
             rotate_left
             ·simp only [Act.put, List.setIfInBounds_toArray, List.set_cons_zero, List.set_cons_succ, i64_w, i32_w]
              rfl
             refine pure_ (i := 5) (N := some 25) (v := ?_) (a' := ?_) #[true, true, false, false, true, true, false, false, false, false, false, false, false, false, false, false, false, false, false, false, false, false, false, false, false, false, false, false, false, false, false, false, false, false, false, false] rfl rfl (any_of HT_.out (by kernel_rfl)) (fun _ _ _ h => h) (Or.inl ⟨by rfl, ?_⟩) ?_ ?_
             rotate_left
             ·intro w'
              go_simp
              with_reducible rfl
             rotate_left
             ·simp only [Act.put, List.setIfInBounds_toArray, List.set_cons_zero, List.set_cons_succ, i64_w, i32_w]
              rfl
             refine pure_ (i := 8) (N := some 28) (v := ?_) (a' := ?_) #[true, true, false, false, true, true, false, false, true, false, false, false, false, false, false, false, false, false, false, false, false, false, false, false, false, false, false, false, false, false, false, false, false, false, false, false] rfl rfl (any_of HT_.out (by kernel_rfl)) (fun _ _ _ h => h) (Or.inl ⟨by rfl, ?_⟩) ?_ ?_
             rotate_left
             ·intro w'
              go_simp
              with_reducible rfl
             rotate_left
             ·simp only [Act.put, List.setIfInBounds_toArray, List.set_cons_zero, List.set_cons_succ, i64_w, i32_w]
              rfl
             refine pure_ (i := 9) (N := some 29) (v := ?_) (a' := ?_) #[true, true, false, false, true, true, false, false, true, true, false, false, false, false, false, false, false, false, false, false, false, false, false, false, false, false, false, false, false, false, false, false, false, false, false, false] rfl rfl (any_of HT_.out (by kernel_rfl)) (fun _ _ _ h => h) (Or.inl ⟨by rfl, ?_⟩) ?_ ?_
             rotate_left
             ·intro w'
              go_simp
              with_reducible rfl
             rotate_left
             ·simp only [Act.put, List.setIfInBounds_toArray, List.set_cons_zero, List.set_cons_succ, i64_w, i32_w]
              rfl
             refine pure_ (i := 12) (N := some 32) (v := ?_) (a' := ?_) #[true, true, false, false, true, true, false, false, true, true, false, false, true, false, false, false, false, false, false, false, false, false, false, false, false, false, false, false, false, false, false, false, false, false, false, false] rfl rfl (any_of HT_.out (by kernel_rfl)) (fun _ _ _ h => h) (Or.inl ⟨by rfl, ?_⟩) ?_ ?_
             rotate_left
             ·intro w'
              go_simp
              with_reducible rfl
             rotate_left
             ·simp only [Act.put, List.setIfInBounds_toArray, List.set_cons_zero, List.set_cons_succ, i64_w, i32_w]
              rfl
             refine pure_ (i := 13) (N := some 33) (v := ?_) (a' := ?_) #[true, true, false, false, true, true, false, false, true, true, false, false, true, true, false, false, false, false, false, false, false, false, false, false, false, false, false, false, false, false, false, false, false, false, false, false] rfl rfl (any_of HT_.out (by kernel_rfl)) (fun _ _ _ h => h) (Or.inl ⟨by rfl, ?_⟩) ?_ ?_
             rotate_left
             ·intro w'
              go_simp
              with_reducible rfl
             rotate_left
             ·simp only [Act.put, List.setIfInBounds_toArray, List.set_cons_zero, List.set_cons_succ, i64_w, i32_w]
              rfl
             refine pure_ (i := 16) (N := some 36) (v := ?_) (a' := ?_) #[true, true, false, false, true, true, false, false, true, true, false, false, true, true, false, false, true, false, false, false, false, false, false, false, false, false, false, false, false, false, false, false, false, false, false, false] rfl rfl (any_of HT_.out (by kernel_rfl)) (fun _ _ _ h => h) (Or.inl ⟨by rfl, ?_⟩) ?_ ?_
             rotate_left
             ·intro w'
              go_simp
              with_reducible rfl
             rotate_left
             ·simp only [Act.put, List.setIfInBounds_toArray, List.set_cons_zero, List.set_cons_succ, i64_w, i32_w]
              rfl
             refine pure_ (i := 17) (N := some 37) (v := ?_) (a' := ?_) #[true, true, false, false, true, true, false, false, true, true, false, false, true, true, false, false, true, true, false, false, false, false, false, false, false, false, false, false, false, false, false, false, false, false, false, false] rfl rfl (any_of HT_.out (by kernel_rfl)) (fun _ _ _ h => h) (Or.inl ⟨by rfl, ?_⟩) ?_ ?_
             rotate_left
             ·intro w'
              go_simp
              with_reducible rfl
             rotate_left
             ·simp only [Act.put, List.setIfInBounds_toArray, List.set_cons_zero, List.set_cons_succ, i64_w, i32_w]
              rfl
             refine pure_ (i := 20) (N := some 40) (v := ?_) (a' := ?_) #[true, true, false, false, true, true, false, false, true, true, false, false, true, true, false, false, true, true, false, false, true, false, false, false, false, false, false, false, false, false, false, false, false, false, false, false] rfl rfl (any_of HT_.out (by kernel_rfl)) (fun _ _ _ h => h) (Or.inl ⟨by rfl, ?_⟩) ?_ ?_
             rotate_left
             ·intro w'
              go_simp
              with_reducible rfl
             rotate_left
             ·simp only [Act.put, List.setIfInBounds_toArray, List.set_cons_zero, List.set_cons_succ, i64_w, i32_w]
              rfl
             refine pure_ (i := 21) (N := some 41) (v := ?_) (a' := ?_) #[true, true, false, false, true, true, false, false, true, true, false, false, true, true, false, false, true, true, false, false, true, true, false, false, false, false, false, false, false, false, false, false, false, false, false, false] rfl rfl (any_of HT_.out (by kernel_rfl)) (fun _ _ _ h => h) (Or.inl ⟨by rfl, ?_⟩) ?_ ?_
             rotate_left
             ·intro w'
              go_simp
              with_reducible rfl
             rotate_left
             ·simp only [Act.put, List.setIfInBounds_toArray, List.set_cons_zero, List.set_cons_succ, i64_w, i32_w]
              rfl
             refine pure_ (i := 24) (N := some 44) (v := ?_) (a' := ?_) #[true, true, false, false, true, true, false, false, true, true, false, false, true, true, false, false, true, true, false, false, true, true, false, false, true, false, false, false, false, false, false, false, false, false, false, false] rfl rfl (any_of HT_.out (by kernel_rfl)) (fun _ _ _ h => h) (Or.inl ⟨by rfl, ?_⟩) ?_ ?_
             rotate_left
             ·intro w'
              go_simp
              with_reducible rfl
             rotate_left
             ·simp only [Act.put, List.setIfInBounds_toArray, List.set_cons_zero, List.set_cons_succ, i64_w, i32_w]
              rfl
             refine pure_ (i := 25) (N := some 45) (v := ?_) (a' := ?_) #[true, true, false, false, true, true, false, false, true, true, false, false, true, true, false, false, true, true, false, false, true, true, false, false, true, true, false, false, false, false, false, false, false, false, false, false] rfl rfl (any_of HT_.out (by kernel_rfl)) (fun _ _ _ h => h) (Or.inl ⟨by rfl, ?_⟩) ?_ ?_
             rotate_left
             ·intro w'
              go_simp
              with_reducible rfl
             rotate_left
             ·simp only [Act.put, List.setIfInBounds_toArray, List.set_cons_zero, List.set_cons_succ, i64_w, i32_w]
              rfl
             refine pure_ (i := 28) (N := some 48) (v := ?_) (a' := ?_) #[true, true, false, false, true, true, false, false, true, true, false, false, true, true, false, false, true, true, false, false, true, true, false, false, true, true, false, false, true, false, false, false, false, false, false, false] rfl rfl (any_of HT_.out (by kernel_rfl)) (fun _ _ _ h => h) (Or.inl ⟨by rfl, ?_⟩) ?_ ?_
             rotate_left
             ·intro w'
              go_simp
              with_reducible rfl
             rotate_left
             ·simp only [Act.put, List.setIfInBounds_toArray, List.set_cons_zero, List.set_cons_succ, i64_w, i32_w]
              rfl
             refine pure_ (i := 29) (N := some 49) (v := ?_) (a' := ?_) #[true, true, false, false, true, true, false, false, true, true, false, false, true, true, false, false, true, true, false, false, true, true, false, false, true, true, false, false, true, true, false, false, false, false, false, false] rfl rfl (any_of HT_.out (by kernel_rfl)) (fun _ _ _ h => h) (Or.inl ⟨by rfl, ?_⟩) ?_ ?_
             rotate_left
             ·intro w'
              go_simp
              with_reducible rfl
             rotate_left
             ·simp only [Act.put, List.setIfInBounds_toArray, List.set_cons_zero, List.set_cons_succ, i64_w, i32_w]
              rfl
             refine take_ (i := 2) (N := some 22) (v := ?_) (a' := ?_) #[true, true, true, false, true, true, false, false, true, true, false, false, true, true, false, false, true, true, false, false, true, true, false, false, true, true, false, false, true, true, false, false, false, false, false, false] rfl rfl (take_ofW HT_.out HW_.out (by kernel_rfl)) (fun _ _ _ h => h) (Or.inl ⟨by rfl, ?_⟩) hHeld ?_ ?_
             rotate_left
             ·rintro w' ⟨s0, s1, s2, s3, s4, s5, s6, s7⟩
              go_simp
              with_reducible rfl
             rotate_left
             ·simp only [Act.put, List.setIfInBounds_toArray, List.set_cons_zero, List.set_cons_succ, i64_w, i32_w]
              rfl
             refine pure_ (i := 3) (N := some 23) (v := ?_) (a' := ?_) #[true, true, true, true, true, true, false, false, true, true, false, false, true, true, false, false, true, true, false, false, true, true, false, false, true, true, false, false, true, true, false, false, false, false, false, false] rfl rfl (any_of HT_.out (by kernel_rfl)) (fun _ _ _ h => h) (Or.inl ⟨by rfl, ?_⟩) ?_ ?_
             rotate_left
             ·intro w'
              go_simp
              with_reducible rfl
             rotate_left
             ·simp only [Act.put, List.setIfInBounds_toArray, List.set_cons_zero, List.set_cons_succ, i64_w, i32_w]
              rfl
             refine take_ (i := 6) (N := some 26) (v := ?_) (a' := ?_) #[true, true, true, true, true, true, true, false, true, true, false, false, true, true, false, false, true, true, false, false, true, true, false, false, true, true, false, false, true, true, false, false, false, false, false, false] rfl rfl (take_ofW HT_.out HW_.out (by kernel_rfl)) (fun _ _ _ h => h) (Or.inl ⟨by rfl, ?_⟩) hHeld ?_ ?_
             rotate_left
             ·rintro w' ⟨s0, s1, s2, s3, s4, s5, s6, s7⟩
              go_simp
              with_reducible rfl
             rotate_left
             ·simp only [Act.put, List.setIfInBounds_toArray, List.set_cons_zero, List.set_cons_succ, i64_w, i32_w]
              rfl
             refine pure_ (i := 7) (N := some 27) (v := ?_) (a' := ?_) #[true, true, true, true, true, true, true, true, true, true, false, false, true, true, false, false, true, true, false, false, true, true, false, false, true, true, false, false, true, true, false, false, false, false, false, false] rfl rfl (any_of HT_.out (by kernel_rfl)) (fun _ _ _ h => h) (Or.inl ⟨by rfl, ?_⟩) ?_ ?_
             rotate_left
             ·intro w'
              go_simp
              with_reducible rfl
             rotate_left
             ·simp only [Act.put, List.setIfInBounds_toArray, List.set_cons_zero, List.set_cons_succ, i64_w, i32_w]
              rfl
             refine take_ (i := 10) (N := some 30) (v := ?_) (a' := ?_) #[true, true, true, true, true, true, true, true, true, true, true, false, true, true, false, false, true, true, false, false, true, true, false, false, true, true, false, false, true, true, false, false, false, false, false, false] rfl rfl (take_ofW HT_.out HW_.out (by kernel_rfl)) (fun _ _ _ h => h) (Or.inl ⟨by rfl, ?_⟩) hHeld ?_ ?_
             rotate_left
             ·rintro w' ⟨s0, s1, s2, s3, s4, s5, s6, s7⟩
              go_simp
              with_reducible rfl
             rotate_left
             ·simp only [Act.put, List.setIfInBounds_toArray, List.set_cons_zero, List.set_cons_succ, i64_w, i32_w]
              rfl
             refine pure_ (i := 11) (N := some 31) (v := ?_) (a' := ?_) #[true, true, true, true, true, true, true, true, true, true, true, true, true, true, false, false, true, true, false, false, true, true, false, false, true, true, false, false, true, true, false, false, false, false, false, false] rfl rfl (any_of HT_.out (by kernel_rfl)) (fun _ _ _ h => h) (Or.inl ⟨by rfl, ?_⟩) ?_ ?_
             rotate_left
             ·intro w'
              go_simp
              with_reducible rfl
             rotate_left
             ·simp only [Act.put, List.setIfInBounds_toArray, List.set_cons_zero, List.set_cons_succ, i64_w, i32_w]
              rfl
             refine take_ (i := 14) (N := some 34) (v := ?_) (a' := ?_) #[true, true, true, true, true, true, true, true, true, true, true, true, true, true, true, false, true, true, false, false, true, true, false, false, true, true, false, false, true, true, false, false, false, false, false, false] rfl rfl (take_ofW HT_.out HW_.out (by kernel_rfl)) (fun _ _ _ h => h) (Or.inl ⟨by rfl, ?_⟩) hHeld ?_ ?_
             rotate_left
             ·rintro w' ⟨s0, s1, s2, s3, s4, s5, s6, s7⟩
              go_simp
              with_reducible rfl
             rotate_left
             ·simp only [Act.put, List.setIfInBounds_toArray, List.set_cons_zero, List.set_cons_succ, i64_w, i32_w]
              rfl
             refine pure_ (i := 15) (N := some 35) (v := ?_) (a' := ?_) #[true, true, true, true, true, true, true, true, true, true, true, true, true, true, true, true, true, true, false, false, true, true, false, false, true, true, false, false, true, true, false, false, false, false, false, false] rfl rfl (any_of HT_.out (by kernel_rfl)) (fun _ _ _ h => h) (Or.inl ⟨by rfl, ?_⟩) ?_ ?_
             rotate_left
             ·intro w'
              go_simp
              with_reducible rfl
             rotate_left
             ·simp only [Act.put, List.setIfInBounds_toArray, List.set_cons_zero, List.set_cons_succ, i64_w, i32_w]
              rfl
             refine take_ (i := 18) (N := some 38) (v := ?_) (a' := ?_) #[true, true, true, true, true, true, true, true, true, true, true, true, true, true, true, true, true, true, true, false, true, true, false, false, true, true, false, false, true, true, false, false, false, false, false, false] rfl rfl (take_ofW HT_.out HW_.out (by kernel_rfl)) (fun _ _ _ h => h) (Or.inl ⟨by rfl, ?_⟩) hHeld ?_ ?_
             rotate_left
             ·rintro w' ⟨s0, s1, s2, s3, s4, s5, s6, s7⟩
              go_simp
              with_reducible rfl
             rotate_left
             ·simp only [Act.put, List.setIfInBounds_toArray, List.set_cons_zero, List.set_cons_succ, i64_w, i32_w]
              rfl
             refine pure_ (i := 19) (N := some 39) (v := ?_) (a' := ?_) #[true, true, true, true, true, true, true, true, true, true, true, true, true, true, true, true, true, true, true, true, true, true, false, false, true, true, false, false, true, true, false, false, false, false, false, false] rfl rfl (any_of HT_.out (by kernel_rfl)) (fun _ _ _ h => h) (Or.inl ⟨by rfl, ?_⟩) ?_ ?_
             rotate_left
             ·intro w'
              go_simp
              with_reducible rfl
             rotate_left
             ·simp only [Act.put, List.setIfInBounds_toArray, List.set_cons_zero, List.set_cons_succ, i64_w, i32_w]
              rfl
             refine take_ (i := 22) (N := some 42) (v := ?_) (a' := ?_) #[true, true, true, true, true, true, true, true, true, true, true, true, true, true, true, true, true, true, true, true, true, true, true, false, true, true, false, false, true, true, false, false, false, false, false, false] rfl rfl (take_ofW HT_.out HW_.out (by kernel_rfl)) (fun _ _ _ h => h) (Or.inl ⟨by rfl, ?_⟩) hHeld ?_ ?_
             rotate_left
             ·rintro w' ⟨s0, s1, s2, s3, s4, s5, s6, s7⟩
              go_simp
              with_reducible rfl
             rotate_left
             ·simp only [Act.put, List.setIfInBounds_toArray, List.set_cons_zero, List.set_cons_succ, i64_w, i32_w]
              rfl
             refine pure_ (i := 23) (N := some 43) (v := ?_) (a' := ?_) #[true, true, true, true, true, true, true, true, true, true, true, true, true, true, true, true, true, true, true, true, true, true, true, true, true, true, false, false, true, true, false, false, false, false, false, false] rfl rfl (any_of HT_.out (by kernel_rfl)) (fun _ _ _ h => h) (Or.inl ⟨by rfl, ?_⟩) ?_ ?_
             rotate_left
             ·intro w'
              go_simp
              with_reducible rfl
             rotate_left
             ·simp only [Act.put, List.setIfInBounds_toArray, List.set_cons_zero, List.set_cons_succ, i64_w, i32_w]
              rfl
             refine take_ (i := 26) (N := some 46) (v := ?_) (a' := ?_) #[true, true, true, true, true, true, true, true, true, true, true, true, true, true, true, true, true, true, true, true, true, true, true, true, true, true, true, false, true, true, false, false, false, false, false, false] rfl rfl (take_ofW HT_.out HW_.out (by kernel_rfl)) (fun _ _ _ h => h) (Or.inl ⟨by rfl, ?_⟩) hHeld ?_ ?_
             rotate_left
             ·rintro w' ⟨s0, s1, s2, s3, s4, s5, s6, s7⟩
              go_simp
              with_reducible rfl
             rotate_left
             ·simp only [Act.put, List.setIfInBounds_toArray, List.set_cons_zero, List.set_cons_succ, i64_w, i32_w]
              rfl
             refine pure_ (i := 27) (N := some 47) (v := ?_) (a' := ?_) #[true, true, true, true, true, true, true, true, true, true, true, true, true, true, true, true, true, true, true, true, true, true, true, true, true, true, true, true, true, true, false, false, false, false, false, false] rfl rfl (any_of HT_.out (by kernel_rfl)) (fun _ _ _ h => h) (Or.inl ⟨by rfl, ?_⟩) ?_ ?_
             rotate_left
             ·intro w'
              go_simp
              with_reducible rfl
             rotate_left
             ·simp only [Act.put, List.setIfInBounds_toArray, List.set_cons_zero, List.set_cons_succ, i64_w, i32_w]
              rfl
             refine take_ (i := 30) (N := some 50) (v := ?_) (a' := ?_) #[true, true, true, true, true, true, true, true, true, true, true, true, true, true, true, true, true, true, true, true, true, true, true, true, true, true, true, true, true, true, true, false, false, false, false, false] rfl rfl (take_ofW HT_.out HW_.out (by kernel_rfl)) (fun _ _ _ h => h) (Or.inl ⟨by rfl, ?_⟩) hHeld ?_ ?_
             rotate_left
             ·rintro w' ⟨s0, s1, s2, s3, s4, s5, s6, s7⟩
              go_simp
              with_reducible rfl
             rotate_left
             ·simp only [Act.put, List.setIfInBounds_toArray, List.set_cons_zero, List.set_cons_succ, i64_w, i32_w]
              rfl
             refine pure_ (i := 31) (N := some 51) (v := ?_) (a' := ?_) #[true, true, true, true, true, true, true, true, true, true, true, true, true, true, true, true, true, true, true, true, true, true, true, true, true, true, true, true, true, true, true, true, false, false, false, false] rfl rfl (any_of HT_.out (by kernel_rfl)) (fun _ _ _ h => h) (Or.inl ⟨by rfl, ?_⟩) ?_ ?_
             rotate_left
             ·intro w'
              go_simp
              with_reducible rfl
             rotate_left
             ·simp only [Act.put, List.setIfInBounds_toArray, List.set_cons_zero, List.set_cons_succ, i64_w, i32_w]
              rfl
             refine pure_ (i := 32) (N := some 52) (v := ?_) (a' := ?_) #[true, true, true, true, true, true, true, true, true, true, true, true, true, true, true, true, true, true, true, true, true, true, true, true, true, true, true, true, true, true, true, true, true, false, false, false] rfl rfl (any_of HT_.out (by kernel_rfl)) (fun _ _ _ h => h) (Or.inl ⟨by rfl, ?_⟩) ?_ ?_
             rotate_left
             ·intro w'
              go_simp
              with_reducible rfl
             rotate_left
             ·simp only [Act.put, List.setIfInBounds_toArray, List.set_cons_zero, List.set_cons_succ, i64_w, i32_w]
              rfl
             refine pure_ (i := 33) (N := some 53) (v := ?_) (a' := ?_) #[true, true, true, true, true, true, true, true, true, true, true, true, true, true, true, true, true, true, true, true, true, true, true, true, true, true, true, true, true, true, true, true, true, true, false, false] rfl rfl (any_of HT_.out (by kernel_rfl)) (fun _ _ _ h => h) (Or.inl ⟨by rfl, ?_⟩) ?_ ?_
             rotate_left
             ·intro w'
              go_simp
              with_reducible rfl
             rotate_left
             ·simp only [Act.put, List.setIfInBounds_toArray, List.set_cons_zero, List.set_cons_succ, i64_w, i32_w]
              rfl
             refine one_ (i := 34) (N := some 6) #[true, true, true, true, true, true, true, true, true, true, true, true, true, true, true, true, true, true, true, true, true, true, true, true, true, true, true, true, true, true, true, true, true, true, true, false] rfl rfl (one_of HT_.out (by kernel_rfl)) (by decide) (fun K hK => ?_)
             refine box_step ?hg (N := 6) ?hd (cs := #[.int .i64 0, .int .i64 0, .bool false, .int .i64 0, .int .i64 0, .int .i64 0, .int .i64 0, .int .i64 0, .string (⟨#[]⟩ : ByteArray)]) (t := 25) ?hr ?_; (case hd => rfl); (case hg => rfl); (case hr => first | (go_simp; done) | (go_simp; rfl))
             intro gb242 hg w25 hbox hb
             have HS0_ := (hb.cell (World.block_lt_of_cell? _ _ (hHeld.1))).trans (hHeld.1)
             have HS1_ := (hb.cell (World.block_lt_of_cell? _ _ (hHeld.2.1))).trans (hHeld.2.1)
             have HS2_ := (hb.cell (World.block_lt_of_cell? _ _ (hHeld.2.2.1))).trans (hHeld.2.2.1)
             have HS3_ := (hb.cell (World.block_lt_of_cell? _ _ (hHeld.2.2.2.1))).trans (hHeld.2.2.2.1)
             have HS4_ := (hb.cell (World.block_lt_of_cell? _ _ (hHeld.2.2.2.2.1))).trans (hHeld.2.2.2.2.1)
             have HS5_ := (hb.cell (World.block_lt_of_cell? _ _ (hHeld.2.2.2.2.2.1))).trans (hHeld.2.2.2.2.2.1)
             have HS6_ := (hb.cell (World.block_lt_of_cell? _ _ (hHeld.2.2.2.2.2.2.1))).trans (hHeld.2.2.2.2.2.2.1)
             have HS7_ := (hb.cell (World.block_lt_of_cell? _ _ (hHeld.2.2.2.2.2.2.2))).trans (hHeld.2.2.2.2.2.2.2)
             have n0_ := Aside0.mk (Kd.R_below (by (with_reducible repeat (first | apply Kd.R_alloc | apply Kd.R_drewN | apply Kd.R_drew)); exact HO229.out) hb)
             have n1_ := Aside0.mk (Kd.R_below (by (with_reducible repeat (first | apply Kd.R_alloc | apply Kd.R_drewN | apply Kd.R_drew)); exact HO232.out) hb)
             have n2_ := Aside0.mk (blk_below (g := gb225) (o := .cells #[.int .i64 0, .int .i64 0, .bool false, .int .i64 0, .int .i64 0, .int .i64 0, .int .i64 0, .int .i64 0, .string (⟨#[]⟩ : ByteArray)] 25 (0, 0)) (by (with_reducible repeat (first | refine blk_drewN ?_ _ | refine blk_drew ?_ | refine blk_alloc ?_ _)); exact BK225.out) hb)
             have n3_ := Aside0.mk (below_step (by repeat (first | (with_reducible first | exact HB.out | apply below_alloc | apply pw_below_drewN | apply below_drew1 | refine below_set ?_ GE225.out) | exact HB.out)) hb)
             have n4_ := Aside0.mk (hbox)
             have n5_ := Aside0.mk ((by rw [hg]; exact (below_size (by repeat (first | (with_reducible first | exact HB.out | apply below_alloc | apply pw_below_drewN | apply below_drew1 | refine below_set ?_ GE225.out) | exact HB.out))) : w.heap.size ≤ gb242))
             have n6_ := Aside0.mk ((by rw [hg]; exact (below_size (by repeat (first | (with_reducible first | exact HB.out | apply below_alloc | apply pw_below_drewN | apply below_drew1 | refine below_set ?_ GE225.out) | exact HB.out))) : w.heap.size ≤ gb242))
             have n7_ := Aside0.mk ((by rw [hg]; exact Nat.ne_of_lt (blk_lt (g := gb225) (o := .cells #[.int .i64 0, .int .i64 0, .bool false, .int .i64 0, .int .i64 0, .int .i64 0, .int .i64 0, .int .i64 0, .string (⟨#[]⟩ : ByteArray)] 25 (0, 0)) (by (with_reducible repeat (first | refine blk_drewN ?_ _ | refine blk_drew ?_ | refine blk_alloc ?_ _)); exact BK225.out)) : gb225 ≠ gb242))
             have n8_ := Aside0.mk ((by rw [hg]; exact Nat.ne_of_gt (blk_lt (g := gb225) (o := .cells #[.int .i64 0, .int .i64 0, .bool false, .int .i64 0, .int .i64 0, .int .i64 0, .int .i64 0, .int .i64 0, .string (⟨#[]⟩ : ByteArray)] 25 (0, 0)) (by (with_reducible repeat (first | refine blk_drewN ?_ _ | refine blk_drew ?_ | refine blk_alloc ?_ _)); exact BK225.out)) : gb242 ≠ gb225))
             clear HO229
             clear HO232
             clear BK225
             clear HB
             have HO229 := n0_
             have HO232 := n1_
             have BK225 := n2_
             have HB := n3_
             have BK242 := n4_
             have GW242 := n5_
             have GE242 := n6_
             have NB225_242 := n7_
             have NB242_225 := n8_
             clear n0_ n1_ n2_ n3_ n4_ n5_ n6_ n7_ n8_
             clear hb hbox hg
             refine hK.out _ _ ⟨HS0_, HS1_, HS2_, HS3_, HS4_, HS5_, HS6_, HS7_⟩ (fun hHeld => ?_)
             clear hK K
             refine norm_ (a' := ?_) ?_ ?_
             rotate_left
             ·show Act.put _ (some 6) _ = _
              simp only [Act.put, List.setIfInBounds_toArray, List.set_cons_zero, List.set_cons_succ, i64_w, i32_w]
              rfl
             refine one_ (i := 35) (N := none) #[true, true, true, true, true, true, true, true, true, true, true, true, true, true, true, true, true, true, true, true, true, true, true, true, true, true, true, true, true, true, true, true, true, true, true, true] rfl rfl (one_of HT_.out (by kernel_rfl)) (by decide) (fun K hK => ?_)
             have hs26 : w25.cell? ⟨gb242, 0, none⟩ = some (.int .i64 0) := (blk_cell BK242.out 0).trans rfl
             have hfs26 := blk_frozen BK242.out 0
             have hns26_0 := NB225_242.out
             have hms26_0 := NB242_225.out
             have hs27 : w25.cell? ⟨gb242, 1, none⟩ = some (.int .i64 0) := (blk_cell BK242.out 1).trans rfl
             have hfs27 := blk_frozen BK242.out 1
             have hns27_0 := NB225_242.out
             have hms27_0 := NB242_225.out
             have hs28 : w25.cell? ⟨gb242, 2, none⟩ = some (.bool false) := (blk_cell BK242.out 2).trans rfl
             have hfs28 := blk_frozen BK242.out 2
             have hns28_0 := NB225_242.out
             have hms28_0 := NB242_225.out
             have hs29 : w25.cell? ⟨gb242, 3, none⟩ = some (.int .i64 0) := (blk_cell BK242.out 3).trans rfl
             have hfs29 := blk_frozen BK242.out 3
             have hns29_0 := NB225_242.out
             have hms29_0 := NB242_225.out
             have hs30 : w25.cell? ⟨gb242, 4, none⟩ = some (.int .i64 0) := (blk_cell BK242.out 4).trans rfl
             have hfs30 := blk_frozen BK242.out 4
             have hns30_0 := NB225_242.out
             have hms30_0 := NB242_225.out
             have hs31 : w25.cell? ⟨gb242, 5, none⟩ = some (.int .i64 0) := (blk_cell BK242.out 5).trans rfl
             have hfs31 := blk_frozen BK242.out 5
             have hns31_0 := NB225_242.out
             have hms31_0 := NB242_225.out
             have hs32 : w25.cell? ⟨gb242, 6, none⟩ = some (.int .i64 0) := (blk_cell BK242.out 6).trans rfl
             have hfs32 := blk_frozen BK242.out 6
             have hns32_0 := NB225_242.out
             have hms32_0 := NB242_225.out
             have hs33 : w25.cell? ⟨gb242, 7, none⟩ = some (.int .i64 0) := (blk_cell BK242.out 7).trans rfl
             have hfs33 := blk_frozen BK242.out 7
             have hns33_0 := NB225_242.out
             have hms33_0 := NB242_225.out
             have hs34 : w25.cell? ⟨gb242, 8, none⟩ = some (.string (⟨#[]⟩ : ByteArray)) := (blk_cell BK242.out 8).trans rfl
             have hfs34 := blk_frozen BK242.out 8
             have hns34_0 := NB225_242.out
             have hms34_0 := NB242_225.out
             refine skip_ (w1 := ?_) (by rfl) rfl ?_ ?_
             rotate_left
             ·go_simp
              rfl
             have hfar1_ := Kd.own_blk (Kd.R_ne HO232.out BK242.out (by decide))
             refine hK.out _ _ ⟨(Fz.far (by first | exact hfar1_ | (rw [add_block]; exact hfar1_) | (show (Addr.add _ _).block ≠ _; rw [add_block]; exact hfar1_) | (dsimp only; exact hfar1_)) ((Fz.far (by first | exact hfar1_ | (rw [add_block]; exact hfar1_) | (show (Addr.add _ _).block ≠ _; rw [add_block]; exact hfar1_) | (dsimp only; exact hfar1_)) ((Fz.far (by first | exact hfar1_ | (rw [add_block]; exact hfar1_) | (show (Addr.add _ _).block ≠ _; rw [add_block]; exact hfar1_) | (dsimp only; exact hfar1_)) ((Fz.far (by first | exact hfar1_ | (rw [add_block]; exact hfar1_) | (show (Addr.add _ _).block ≠ _; rw [add_block]; exact hfar1_) | (dsimp only; exact hfar1_)) ((Fz.far (by first | exact hfar1_ | (rw [add_block]; exact hfar1_) | (show (Addr.add _ _).block ≠ _; rw [add_block]; exact hfar1_) | (dsimp only; exact hfar1_)) ((Fz.far (by first | exact hfar1_ | (rw [add_block]; exact hfar1_) | (show (Addr.add _ _).block ≠ _; rw [add_block]; exact hfar1_) | (dsimp only; exact hfar1_)) ((Fz.far (by first | exact hfar1_ | (rw [add_block]; exact hfar1_) | (show (Addr.add _ _).block ≠ _; rw [add_block]; exact hfar1_) | (dsimp only; exact hfar1_)) ((Fz.far (by first | exact hfar1_ | (rw [add_block]; exact hfar1_) | (show (Addr.add _ _).block ≠ _; rw [add_block]; exact hfar1_) | (dsimp only; exact hfar1_)) ((Fz.far (by first | exact hfar1_ | (rw [add_block]; exact hfar1_) | (show (Addr.add _ _).block ≠ _; rw [add_block]; exact hfar1_) | (dsimp only; exact hfar1_)) (hHeld.1)))))))))))))))))), (Fz.far (by first | exact hfar1_ | (rw [add_block]; exact hfar1_) | (show (Addr.add _ _).block ≠ _; rw [add_block]; exact hfar1_) | (dsimp only; exact hfar1_)) ((Fz.far (by first | exact hfar1_ | (rw [add_block]; exact hfar1_) | (show (Addr.add _ _).block ≠ _; rw [add_block]; exact hfar1_) | (dsimp only; exact hfar1_)) ((Fz.far (by first | exact hfar1_ | (rw [add_block]; exact hfar1_) | (show (Addr.add _ _).block ≠ _; rw [add_block]; exact hfar1_) | (dsimp only; exact hfar1_)) ((Fz.far (by first | exact hfar1_ | (rw [add_block]; exact hfar1_) | (show (Addr.add _ _).block ≠ _; rw [add_block]; exact hfar1_) | (dsimp only; exact hfar1_)) ((Fz.far (by first | exact hfar1_ | (rw [add_block]; exact hfar1_) | (show (Addr.add _ _).block ≠ _; rw [add_block]; exact hfar1_) | (dsimp only; exact hfar1_)) ((Fz.far (by first | exact hfar1_ | (rw [add_block]; exact hfar1_) | (show (Addr.add _ _).block ≠ _; rw [add_block]; exact hfar1_) | (dsimp only; exact hfar1_)) ((Fz.far (by first | exact hfar1_ | (rw [add_block]; exact hfar1_) | (show (Addr.add _ _).block ≠ _; rw [add_block]; exact hfar1_) | (dsimp only; exact hfar1_)) ((Fz.far (by first | exact hfar1_ | (rw [add_block]; exact hfar1_) | (show (Addr.add _ _).block ≠ _; rw [add_block]; exact hfar1_) | (dsimp only; exact hfar1_)) ((Fz.far (by first | exact hfar1_ | (rw [add_block]; exact hfar1_) | (show (Addr.add _ _).block ≠ _; rw [add_block]; exact hfar1_) | (dsimp only; exact hfar1_)) (hHeld.2.1)))))))))))))))))), (Fz.far (by first | exact hfar1_ | (rw [add_block]; exact hfar1_) | (show (Addr.add _ _).block ≠ _; rw [add_block]; exact hfar1_) | (dsimp only; exact hfar1_)) ((Fz.far (by first | exact hfar1_ | (rw [add_block]; exact hfar1_) | (show (Addr.add _ _).block ≠ _; rw [add_block]; exact hfar1_) | (dsimp only; exact hfar1_)) ((Fz.far (by first | exact hfar1_ | (rw [add_block]; exact hfar1_) | (show (Addr.add _ _).block ≠ _; rw [add_block]; exact hfar1_) | (dsimp only; exact hfar1_)) ((Fz.far (by first | exact hfar1_ | (rw [add_block]; exact hfar1_) | (show (Addr.add _ _).block ≠ _; rw [add_block]; exact hfar1_) | (dsimp only; exact hfar1_)) ((Fz.far (by first | exact hfar1_ | (rw [add_block]; exact hfar1_) | (show (Addr.add _ _).block ≠ _; rw [add_block]; exact hfar1_) | (dsimp only; exact hfar1_)) ((Fz.far (by first | exact hfar1_ | (rw [add_block]; exact hfar1_) | (show (Addr.add _ _).block ≠ _; rw [add_block]; exact hfar1_) | (dsimp only; exact hfar1_)) ((Fz.far (by first | exact hfar1_ | (rw [add_block]; exact hfar1_) | (show (Addr.add _ _).block ≠ _; rw [add_block]; exact hfar1_) | (dsimp only; exact hfar1_)) ((Fz.far (by first | exact hfar1_ | (rw [add_block]; exact hfar1_) | (show (Addr.add _ _).block ≠ _; rw [add_block]; exact hfar1_) | (dsimp only; exact hfar1_)) ((Fz.far (by first | exact hfar1_ | (rw [add_block]; exact hfar1_) | (show (Addr.add _ _).block ≠ _; rw [add_block]; exact hfar1_) | (dsimp only; exact hfar1_)) (hHeld.2.2.1)))))))))))))))))), (Fz.far (by first | exact hfar1_ | (rw [add_block]; exact hfar1_) | (show (Addr.add _ _).block ≠ _; rw [add_block]; exact hfar1_) | (dsimp only; exact hfar1_)) ((Fz.far (by first | exact hfar1_ | (rw [add_block]; exact hfar1_) | (show (Addr.add _ _).block ≠ _; rw [add_block]; exact hfar1_) | (dsimp only; exact hfar1_)) ((Fz.far (by first | exact hfar1_ | (rw [add_block]; exact hfar1_) | (show (Addr.add _ _).block ≠ _; rw [add_block]; exact hfar1_) | (dsimp only; exact hfar1_)) ((Fz.far (by first | exact hfar1_ | (rw [add_block]; exact hfar1_) | (show (Addr.add _ _).block ≠ _; rw [add_block]; exact hfar1_) | (dsimp only; exact hfar1_)) ((Fz.far (by first | exact hfar1_ | (rw [add_block]; exact hfar1_) | (show (Addr.add _ _).block ≠ _; rw [add_block]; exact hfar1_) | (dsimp only; exact hfar1_)) ((Fz.far (by first | exact hfar1_ | (rw [add_block]; exact hfar1_) | (show (Addr.add _ _).block ≠ _; rw [add_block]; exact hfar1_) | (dsimp only; exact hfar1_)) ((Fz.far (by first | exact hfar1_ | (rw [add_block]; exact hfar1_) | (show (Addr.add _ _).block ≠ _; rw [add_block]; exact hfar1_) | (dsimp only; exact hfar1_)) ((Fz.far (by first | exact hfar1_ | (rw [add_block]; exact hfar1_) | (show (Addr.add _ _).block ≠ _; rw [add_block]; exact hfar1_) | (dsimp only; exact hfar1_)) ((Fz.far (by first | exact hfar1_ | (rw [add_block]; exact hfar1_) | (show (Addr.add _ _).block ≠ _; rw [add_block]; exact hfar1_) | (dsimp only; exact hfar1_)) (hHeld.2.2.2.1)))))))))))))))))), (Fz.far (by first | exact hfar1_ | (rw [add_block]; exact hfar1_) | (show (Addr.add _ _).block ≠ _; rw [add_block]; exact hfar1_) | (dsimp only; exact hfar1_)) ((Fz.far (by first | exact hfar1_ | (rw [add_block]; exact hfar1_) | (show (Addr.add _ _).block ≠ _; rw [add_block]; exact hfar1_) | (dsimp only; exact hfar1_)) ((Fz.far (by first | exact hfar1_ | (rw [add_block]; exact hfar1_) | (show (Addr.add _ _).block ≠ _; rw [add_block]; exact hfar1_) | (dsimp only; exact hfar1_)) ((Fz.far (by first | exact hfar1_ | (rw [add_block]; exact hfar1_) | (show (Addr.add _ _).block ≠ _; rw [add_block]; exact hfar1_) | (dsimp only; exact hfar1_)) ((Fz.far (by first | exact hfar1_ | (rw [add_block]; exact hfar1_) | (show (Addr.add _ _).block ≠ _; rw [add_block]; exact hfar1_) | (dsimp only; exact hfar1_)) ((Fz.far (by first | exact hfar1_ | (rw [add_block]; exact hfar1_) | (show (Addr.add _ _).block ≠ _; rw [add_block]; exact hfar1_) | (dsimp only; exact hfar1_)) ((Fz.far (by first | exact hfar1_ | (rw [add_block]; exact hfar1_) | (show (Addr.add _ _).block ≠ _; rw [add_block]; exact hfar1_) | (dsimp only; exact hfar1_)) ((Fz.far (by first | exact hfar1_ | (rw [add_block]; exact hfar1_) | (show (Addr.add _ _).block ≠ _; rw [add_block]; exact hfar1_) | (dsimp only; exact hfar1_)) ((Fz.far (by first | exact hfar1_ | (rw [add_block]; exact hfar1_) | (show (Addr.add _ _).block ≠ _; rw [add_block]; exact hfar1_) | (dsimp only; exact hfar1_)) (hHeld.2.2.2.2.1)))))))))))))))))), (Fz.far (by first | exact hfar1_ | (rw [add_block]; exact hfar1_) | (show (Addr.add _ _).block ≠ _; rw [add_block]; exact hfar1_) | (dsimp only; exact hfar1_)) ((Fz.far (by first | exact hfar1_ | (rw [add_block]; exact hfar1_) | (show (Addr.add _ _).block ≠ _; rw [add_block]; exact hfar1_) | (dsimp only; exact hfar1_)) ((Fz.far (by first | exact hfar1_ | (rw [add_block]; exact hfar1_) | (show (Addr.add _ _).block ≠ _; rw [add_block]; exact hfar1_) | (dsimp only; exact hfar1_)) ((Fz.far (by first | exact hfar1_ | (rw [add_block]; exact hfar1_) | (show (Addr.add _ _).block ≠ _; rw [add_block]; exact hfar1_) | (dsimp only; exact hfar1_)) ((Fz.far (by first | exact hfar1_ | (rw [add_block]; exact hfar1_) | (show (Addr.add _ _).block ≠ _; rw [add_block]; exact hfar1_) | (dsimp only; exact hfar1_)) ((Fz.far (by first | exact hfar1_ | (rw [add_block]; exact hfar1_) | (show (Addr.add _ _).block ≠ _; rw [add_block]; exact hfar1_) | (dsimp only; exact hfar1_)) ((Fz.far (by first | exact hfar1_ | (rw [add_block]; exact hfar1_) | (show (Addr.add _ _).block ≠ _; rw [add_block]; exact hfar1_) | (dsimp only; exact hfar1_)) ((Fz.far (by first | exact hfar1_ | (rw [add_block]; exact hfar1_) | (show (Addr.add _ _).block ≠ _; rw [add_block]; exact hfar1_) | (dsimp only; exact hfar1_)) ((Fz.far (by first | exact hfar1_ | (rw [add_block]; exact hfar1_) | (show (Addr.add _ _).block ≠ _; rw [add_block]; exact hfar1_) | (dsimp only; exact hfar1_)) (hHeld.2.2.2.2.2.1)))))))))))))))))), (Fz.far (by first | exact hfar1_ | (rw [add_block]; exact hfar1_) | (show (Addr.add _ _).block ≠ _; rw [add_block]; exact hfar1_) | (dsimp only; exact hfar1_)) ((Fz.far (by first | exact hfar1_ | (rw [add_block]; exact hfar1_) | (show (Addr.add _ _).block ≠ _; rw [add_block]; exact hfar1_) | (dsimp only; exact hfar1_)) ((Fz.far (by first | exact hfar1_ | (rw [add_block]; exact hfar1_) | (show (Addr.add _ _).block ≠ _; rw [add_block]; exact hfar1_) | (dsimp only; exact hfar1_)) ((Fz.far (by first | exact hfar1_ | (rw [add_block]; exact hfar1_) | (show (Addr.add _ _).block ≠ _; rw [add_block]; exact hfar1_) | (dsimp only; exact hfar1_)) ((Fz.far (by first | exact hfar1_ | (rw [add_block]; exact hfar1_) | (show (Addr.add _ _).block ≠ _; rw [add_block]; exact hfar1_) | (dsimp only; exact hfar1_)) ((Fz.far (by first | exact hfar1_ | (rw [add_block]; exact hfar1_) | (show (Addr.add _ _).block ≠ _; rw [add_block]; exact hfar1_) | (dsimp only; exact hfar1_)) ((Fz.far (by first | exact hfar1_ | (rw [add_block]; exact hfar1_) | (show (Addr.add _ _).block ≠ _; rw [add_block]; exact hfar1_) | (dsimp only; exact hfar1_)) ((Fz.far (by first | exact hfar1_ | (rw [add_block]; exact hfar1_) | (show (Addr.add _ _).block ≠ _; rw [add_block]; exact hfar1_) | (dsimp only; exact hfar1_)) ((Fz.far (by first | exact hfar1_ | (rw [add_block]; exact hfar1_) | (show (Addr.add _ _).block ≠ _; rw [add_block]; exact hfar1_) | (dsimp only; exact hfar1_)) (hHeld.2.2.2.2.2.2.1)))))))))))))))))), (Fz.far (by first | exact hfar1_ | (rw [add_block]; exact hfar1_) | (show (Addr.add _ _).block ≠ _; rw [add_block]; exact hfar1_) | (dsimp only; exact hfar1_)) ((Fz.far (by first | exact hfar1_ | (rw [add_block]; exact hfar1_) | (show (Addr.add _ _).block ≠ _; rw [add_block]; exact hfar1_) | (dsimp only; exact hfar1_)) ((Fz.far (by first | exact hfar1_ | (rw [add_block]; exact hfar1_) | (show (Addr.add _ _).block ≠ _; rw [add_block]; exact hfar1_) | (dsimp only; exact hfar1_)) ((Fz.far (by first | exact hfar1_ | (rw [add_block]; exact hfar1_) | (show (Addr.add _ _).block ≠ _; rw [add_block]; exact hfar1_) | (dsimp only; exact hfar1_)) ((Fz.far (by first | exact hfar1_ | (rw [add_block]; exact hfar1_) | (show (Addr.add _ _).block ≠ _; rw [add_block]; exact hfar1_) | (dsimp only; exact hfar1_)) ((Fz.far (by first | exact hfar1_ | (rw [add_block]; exact hfar1_) | (show (Addr.add _ _).block ≠ _; rw [add_block]; exact hfar1_) | (dsimp only; exact hfar1_)) ((Fz.far (by first | exact hfar1_ | (rw [add_block]; exact hfar1_) | (show (Addr.add _ _).block ≠ _; rw [add_block]; exact hfar1_) | (dsimp only; exact hfar1_)) ((Fz.far (by first | exact hfar1_ | (rw [add_block]; exact hfar1_) | (show (Addr.add _ _).block ≠ _; rw [add_block]; exact hfar1_) | (dsimp only; exact hfar1_)) ((Fz.far (by first | exact hfar1_ | (rw [add_block]; exact hfar1_) | (show (Addr.add _ _).block ≠ _; rw [add_block]; exact hfar1_) | (dsimp only; exact hfar1_)) (hHeld.2.2.2.2.2.2.2))))))))))))))))))⟩ (fun hHeld => ?_)
             clear hK K
             refine done_ (done_of HT_.out (by kernel_rfl)) ?_
             have p243 : 0 ≤ (8 : Int) := (by omega)
             have q243 : 8 < (t230.length : Int) := of_decide_eq_true (by first | (with_reducible assumption) | assumption)
             obtain ⟨ad243, e243, hx243_0⟩ := Kd.at_int (Kd.R_reads' HO232.out).2.2 8 p243 q243
             obtain rfl : ad234 = ad243 := (by injection e243)
             (try simp only [show (8 : Int).toNat = 8 from rfl, Nat.reduceMul, Nat.reduceEqDiff, Go.Addr.add, ↓reduceIte] at hx243_0)
             have qi243 : (8 < t230.length) = True := eq_true (by omega)
             (try rw [show ((8 : Int)).toNat = 8 from rfl] at hx243_0)
             have hn243_0 : ad234.block ≠ gb242 := Kd.own_blk (Kd.R_ne HO232.out BK242.out (by decide))
             have hn243_1 : ad234.block ≠ gb242 := Kd.own_blk (Kd.R_ne HO232.out BK242.out (by decide))
             have hn243_2 : ad234.block ≠ gb242 := Kd.own_blk (Kd.R_ne HO232.out BK242.out (by decide))
             have hn243_3 : ad234.block ≠ gb242 := Kd.own_blk (Kd.R_ne HO232.out BK242.out (by decide))
             have hn243_4 : ad234.block ≠ gb242 := Kd.own_blk (Kd.R_ne HO232.out BK242.out (by decide))
             have hn243_5 : ad234.block ≠ gb242 := Kd.own_blk (Kd.R_ne HO232.out BK242.out (by decide))
             have hn243_6 : ad234.block ≠ gb242 := Kd.own_blk (Kd.R_ne HO232.out BK242.out (by decide))
             have hn243_7 : ad234.block ≠ gb242 := Kd.own_blk (Kd.R_ne HO232.out BK242.out (by decide))
             have hn243_8 : ad234.block ≠ gb242 := Kd.own_blk (Kd.R_ne HO232.out BK242.out (by decide))
             replace hx243_0 := (cell_far (p := ⟨gb242, 0, none⟩) (by first | (rw [add_block]; exact hn243_0) | (show (Addr.add _ _).block ≠ _; rw [add_block]; exact hn243_0) | exact hn243_0) (.int .i64 (wrap64 (rd t230 0)))).trans hx243_0
             replace hx243_0 := (cell_far (p := ⟨gb242, 1, none⟩) (by first | (rw [add_block]; exact hn243_1) | (show (Addr.add _ _).block ≠ _; rw [add_block]; exact hn243_1) | exact hn243_1) (.int .i64 (wrap64 (rd t230 1)))).trans hx243_0
             replace hx243_0 := (cell_far (p := ⟨gb242, 2, none⟩) (by first | (rw [add_block]; exact hn243_2) | (show (Addr.add _ _).block ≠ _; rw [add_block]; exact hn243_2) | exact hn243_2) (.bool ((rd t230 2) == 1))).trans hx243_0
             replace hx243_0 := (cell_far (p := ⟨gb242, 3, none⟩) (by first | (rw [add_block]; exact hn243_3) | (show (Addr.add _ _).block ≠ _; rw [add_block]; exact hn243_3) | exact hn243_3) (.int .i64 (wrap64 (rd t230 3)))).trans hx243_0
             replace hx243_0 := (cell_far (p := ⟨gb242, 4, none⟩) (by first | (rw [add_block]; exact hn243_4) | (show (Addr.add _ _).block ≠ _; rw [add_block]; exact hn243_4) | exact hn243_4) (.int .i64 (wrap64 (rd t230 4)))).trans hx243_0
             replace hx243_0 := (cell_far (p := ⟨gb242, 5, none⟩) (by first | (rw [add_block]; exact hn243_5) | (show (Addr.add _ _).block ≠ _; rw [add_block]; exact hn243_5) | exact hn243_5) (.int .i64 (wrap64 (rd t230 5)))).trans hx243_0
             replace hx243_0 := (cell_far (p := ⟨gb242, 6, none⟩) (by first | (rw [add_block]; exact hn243_6) | (show (Addr.add _ _).block ≠ _; rw [add_block]; exact hn243_6) | exact hn243_6) (.int .i64 (wrap64 (rd t230 6)))).trans hx243_0
             replace hx243_0 := (cell_far (p := ⟨gb242, 7, none⟩) (by first | (rw [add_block]; exact hn243_7) | (show (Addr.add _ _).block ≠ _; rw [add_block]; exact hn243_7) | exact hn243_7) (.int .i64 (wrap64 (rd t230 7)))).trans hx243_0
             replace hx243_0 := (cell_far (p := ⟨gb242, 8, none⟩) (by first | (rw [add_block]; exact hn243_8) | (show (Addr.add _ _).block ≠ _; rw [add_block]; exact hn243_8) | exact hn243_8) (.string (⟨#[]⟩ : ByteArray))).trans hx243_0
             clear hn243_0
             clear hn243_1
             clear hn243_2
             clear hn243_3
             clear hn243_4
             clear hn243_5
             clear hn243_6
             clear hn243_7
             clear hn243_8
             replace p243 := eq_true p243
             replace q243 := eq_true q243
             go_upto_if 57 with (fail)
             go_cut [] (fun wc => ∃ (kq : Nat) (x243008_15 : ByteArray), Aside0 (line_Decode.j0 kq l0 (wrap64 (rd t230 0)) (wrap64 (rd t230 1)) ((rd t230 2) == 1) (wrap64 (rd t230 3)) (wrap64 (rd t230 4)) (wrap64 (rd t230 5)) (wrap64 (rd t230 6)) (wrap64 (rd t230 7)) x243008_15 = some (r1, r2, r3, r4, r5, r6, r7, r8, r9, r10)) ∧ Aside0 (kq ≤ k) ∧ Aside0 (wc.heap[gb225]? = some (.cells #[.int .i64 0, .int .i64 0, .bool false, .int .i64 0, .int .i64 0, .int .i64 0, .int .i64 0, .int .i64 0, .string (⟨#[]⟩ : ByteArray)] 25 (0, 0))) ∧ Aside0 (wc.heap[gb242]? = some (.cells #[.int .i64 (wrap64 (rd t230 0)), .int .i64 (wrap64 (rd t230 1)), .bool ((rd t230 2) == 1), .int .i64 (wrap64 (rd t230 3)), .int .i64 (wrap64 (rd t230 4)), .int .i64 (wrap64 (rd t230 5)), .int .i64 (wrap64 (rd t230 6)), .int .i64 (wrap64 (rd t230 7)), .string x243008_15] 25 (0, 0))) ∧ Aside0 (Below w.heap.size w wc))
             case first =>
              have H := HC16.out
              clear HC16
              by_cases c35 : (rd t230 8) = 16
              ·rw [if_pos c35] at H
               have c35b0 : ((rd t230 8) == 16) = true := beq_iff_eq.mpr c35
               have c35b1 : ((rd t230 8) != 16) = false := bne_eq_false_iff_eq.mpr c35
               clear c35
               (first | rw [c35b0] | (simp only [i64_w, i32_w]; rw [c35b0]) | rw [c35b1] | skip)
               by_cases c36 : 41 ≤ 57
               ·rw [if_pos c36] at H
                have c36b0 := eq_true c36
                have c36b1 : decide (41 ≤ 57) = true := decide_eq_true c36
                clear c36
                by_cases c37 : 57 ≤ (l0.length : Int)
                ·rw [if_pos c37] at H
                 have c37b0 := eq_true c37
                 have c37b1 : decide (57 ≤ (l0.length : Int)) = true := decide_eq_true c37
                 clear c37
                 have H' := Aside0.mk H
                 clear H
                 obtain ⟨i038, hi038, _, hsz38, _⟩ := info_parts info5
                 obtain ⟨A38, hcut38, hA38, hC38⟩ := print_mid_of (P := Try.prog) (Value.int .u8) 0 26 5 .i64 .i64 Try.underlying26 hi038 hsz38 A0 c0 l0 41 57 (by omega) (by first | omega | exact of_decide_eq_true (by first | (with_reducible assumption) | assumption)) (of_decide_eq_true (by first | (with_reducible assumption) | assumption)) HC0.out
                 have HR244 := Aside0.mk (Kd.C_of_reads (h1 := fun _ => rfl) (hA38 _ (Kd.reads_of_C HR0.out)))
                 have HC244 := Aside0.mk hC38
                 clear hA38 hC38 hi038 hsz38
                 have hcv39 := Kd.C_string (P := Try.prog) (A := A38) (c := (c0 - 41)) Try.underlying26 Try.underlying5 Try.underlying9 (Kd.C_below (w1 := (((((((((w25.setCell ⟨gb242, 0, none⟩ (.int .i64 (wrap64 (rd t230 0)))).setCell ⟨gb242, 1, none⟩ (.int .i64 (wrap64 (rd t230 1)))).setCell ⟨gb242, 2, none⟩ (.bool ((rd t230 2) == 1))).setCell ⟨gb242, 3, none⟩ (.int .i64 (wrap64 (rd t230 3)))).setCell ⟨gb242, 4, none⟩ (.int .i64 (wrap64 (rd t230 4)))).setCell ⟨gb242, 5, none⟩ (.int .i64 (wrap64 (rd t230 5)))).setCell ⟨gb242, 6, none⟩ (.int .i64 (wrap64 (rd t230 6)))).setCell ⟨gb242, 7, none⟩ (.int .i64 (wrap64 (rd t230 7)))).setCell ⟨gb242, 8, none⟩ (.string (⟨#[]⟩ : ByteArray)))) HR244.out (by repeat (first | (with_reducible first | exact HB.out | apply below_alloc | apply pw_below_drewN | apply below_drew1 | refine below_set ?_ GE225.out | refine below_set ?_ GE242.out) | exact HB.out)))
                 have hcx39 := hcv39
                 (try simp only [Int.reduceToNat, List.length_drop, List.length_take] at hcx39)
                 have hnb40 := NB242_225.out
                 have hnc40 := NB225_242.out
                 have hcz41_0 : w25.cell? ⟨gb242, 0, none⟩ = some (.int .i64 0) := (blk_cell BK242.out 0).trans rfl
                 have hcz41_1 : w25.cell? ⟨gb242, 1, none⟩ = some (.int .i64 0) := (blk_cell BK242.out 1).trans rfl
                 have hcz41_2 : w25.cell? ⟨gb242, 2, none⟩ = some (.bool false) := (blk_cell BK242.out 2).trans rfl
                 have hcz41_3 : w25.cell? ⟨gb242, 3, none⟩ = some (.int .i64 0) := (blk_cell BK242.out 3).trans rfl
                 have hcz41_4 : w25.cell? ⟨gb242, 4, none⟩ = some (.int .i64 0) := (blk_cell BK242.out 4).trans rfl
                 have hcz41_5 : w25.cell? ⟨gb242, 5, none⟩ = some (.int .i64 0) := (blk_cell BK242.out 5).trans rfl
                 have hcz41_6 : w25.cell? ⟨gb242, 6, none⟩ = some (.int .i64 0) := (blk_cell BK242.out 6).trans rfl
                 have hcz41_7 : w25.cell? ⟨gb242, 7, none⟩ = some (.int .i64 0) := (blk_cell BK242.out 7).trans rfl
                 have hcz41_8 : w25.cell? ⟨gb242, 8, none⟩ = some (.string (⟨#[]⟩ : ByteArray)) := (blk_cell BK242.out 8).trans rfl
                 have hfz41_0 := blk_frozen BK242.out 0
                 have hfz41_1 := blk_frozen BK242.out 1
                 have hfz41_2 := blk_frozen BK242.out 2
                 have hfz41_3 := blk_frozen BK242.out 3
                 have hfz41_4 := blk_frozen BK242.out 4
                 have hfz41_5 := blk_frozen BK242.out 5
                 have hfz41_6 := blk_frozen BK242.out 6
                 have hfz41_7 := blk_frozen BK242.out 7
                 have hfz41_8 := blk_frozen BK242.out 8
                 go_wp2
                 go_meet
                 case rel => exact ⟨_, (strOfNums ((l0.take 57).drop 41)), H', ⟨by first | omega | exact Nat.le_refl _⟩, ⟨by (with_reducible repeat (first | refine blk_drewN ?_ _ | refine blk_drew ?_ | refine blk_alloc ?_ _)); refine blk_far ?_ NB225_242.out _; (with_reducible repeat (first | refine blk_drewN ?_ _ | refine blk_drew ?_ | refine blk_alloc ?_ _)); refine blk_far ?_ NB225_242.out _; (with_reducible repeat (first | refine blk_drewN ?_ _ | refine blk_drew ?_ | refine blk_alloc ?_ _)); refine blk_far ?_ NB225_242.out _; (with_reducible repeat (first | refine blk_drewN ?_ _ | refine blk_drew ?_ | refine blk_alloc ?_ _)); refine blk_far ?_ NB225_242.out _; (with_reducible repeat (first | refine blk_drewN ?_ _ | refine blk_drew ?_ | refine blk_alloc ?_ _)); refine blk_far ?_ NB225_242.out _; (with_reducible repeat (first | refine blk_drewN ?_ _ | refine blk_drew ?_ | refine blk_alloc ?_ _)); refine blk_far ?_ NB225_242.out _; (with_reducible repeat (first | refine blk_drewN ?_ _ | refine blk_drew ?_ | refine blk_alloc ?_ _)); refine blk_far ?_ NB225_242.out _; (with_reducible repeat (first | refine blk_drewN ?_ _ | refine blk_drew ?_ | refine blk_alloc ?_ _)); refine blk_far ?_ NB225_242.out _; (with_reducible repeat (first | refine blk_drewN ?_ _ | refine blk_drew ?_ | refine blk_alloc ?_ _)); refine blk_far ?_ NB225_242.out _; (with_reducible repeat (first | refine blk_drewN ?_ _ | refine blk_drew ?_ | refine blk_alloc ?_ _)); refine blk_far ?_ NB225_242.out _; (with_reducible repeat (first | refine blk_drewN ?_ _ | refine blk_drew ?_ | refine blk_alloc ?_ _)); exact BK225.out⟩, ⟨by (with_reducible repeat (first | refine blk_drewN ?_ _ | refine blk_drew ?_ | refine blk_alloc ?_ _)); refine blk_put (cs := #[.int .i64 (wrap64 (rd t230 0)), .int .i64 (wrap64 (rd t230 1)), .bool ((rd t230 2) == 1), .int .i64 (wrap64 (rd t230 3)), .int .i64 (wrap64 (rd t230 4)), .int .i64 (wrap64 (rd t230 5)), .int .i64 (wrap64 (rd t230 6)), .int .i64 (wrap64 (rd t230 7)), .string (⟨#[]⟩ : ByteArray)]) ?_ 8 _ rfl; (with_reducible repeat (first | refine blk_drewN ?_ _ | refine blk_drew ?_ | refine blk_alloc ?_ _)); refine blk_put (cs := #[.int .i64 (wrap64 (rd t230 0)), .int .i64 (wrap64 (rd t230 1)), .bool ((rd t230 2) == 1), .int .i64 (wrap64 (rd t230 3)), .int .i64 (wrap64 (rd t230 4)), .int .i64 (wrap64 (rd t230 5)), .int .i64 (wrap64 (rd t230 6)), .int .i64 (wrap64 (rd t230 7)), .string (⟨#[]⟩ : ByteArray)]) ?_ 8 _ rfl; (with_reducible repeat (first | refine blk_drewN ?_ _ | refine blk_drew ?_ | refine blk_alloc ?_ _)); refine blk_put (cs := #[.int .i64 (wrap64 (rd t230 0)), .int .i64 (wrap64 (rd t230 1)), .bool ((rd t230 2) == 1), .int .i64 (wrap64 (rd t230 3)), .int .i64 (wrap64 (rd t230 4)), .int .i64 (wrap64 (rd t230 5)), .int .i64 (wrap64 (rd t230 6)), .int .i64 0, .string (⟨#[]⟩ : ByteArray)]) ?_ 7 _ rfl; (with_reducible repeat (first | refine blk_drewN ?_ _ | refine blk_drew ?_ | refine blk_alloc ?_ _)); refine blk_put (cs := #[.int .i64 (wrap64 (rd t230 0)), .int .i64 (wrap64 (rd t230 1)), .bool ((rd t230 2) == 1), .int .i64 (wrap64 (rd t230 3)), .int .i64 (wrap64 (rd t230 4)), .int .i64 (wrap64 (rd t230 5)), .int .i64 0, .int .i64 0, .string (⟨#[]⟩ : ByteArray)]) ?_ 6 _ rfl; (with_reducible repeat (first | refine blk_drewN ?_ _ | refine blk_drew ?_ | refine blk_alloc ?_ _)); refine blk_put (cs := #[.int .i64 (wrap64 (rd t230 0)), .int .i64 (wrap64 (rd t230 1)), .bool ((rd t230 2) == 1), .int .i64 (wrap64 (rd t230 3)), .int .i64 (wrap64 (rd t230 4)), .int .i64 0, .int .i64 0, .int .i64 0, .string (⟨#[]⟩ : ByteArray)]) ?_ 5 _ rfl; (with_reducible repeat (first | refine blk_drewN ?_ _ | refine blk_drew ?_ | refine blk_alloc ?_ _)); refine blk_put (cs := #[.int .i64 (wrap64 (rd t230 0)), .int .i64 (wrap64 (rd t230 1)), .bool ((rd t230 2) == 1), .int .i64 (wrap64 (rd t230 3)), .int .i64 0, .int .i64 0, .int .i64 0, .int .i64 0, .string (⟨#[]⟩ : ByteArray)]) ?_ 4 _ rfl; (with_reducible repeat (first | refine blk_drewN ?_ _ | refine blk_drew ?_ | refine blk_alloc ?_ _)); refine blk_put (cs := #[.int .i64 (wrap64 (rd t230 0)), .int .i64 (wrap64 (rd t230 1)), .bool ((rd t230 2) == 1), .int .i64 0, .int .i64 0, .int .i64 0, .int .i64 0, .int .i64 0, .string (⟨#[]⟩ : ByteArray)]) ?_ 3 _ rfl; (with_reducible repeat (first | refine blk_drewN ?_ _ | refine blk_drew ?_ | refine blk_alloc ?_ _)); refine blk_put (cs := #[.int .i64 (wrap64 (rd t230 0)), .int .i64 (wrap64 (rd t230 1)), .bool false, .int .i64 0, .int .i64 0, .int .i64 0, .int .i64 0, .int .i64 0, .string (⟨#[]⟩ : ByteArray)]) ?_ 2 _ rfl; (with_reducible repeat (first | refine blk_drewN ?_ _ | refine blk_drew ?_ | refine blk_alloc ?_ _)); refine blk_put (cs := #[.int .i64 (wrap64 (rd t230 0)), .int .i64 0, .bool false, .int .i64 0, .int .i64 0, .int .i64 0, .int .i64 0, .int .i64 0, .string (⟨#[]⟩ : ByteArray)]) ?_ 1 _ rfl; (with_reducible repeat (first | refine blk_drewN ?_ _ | refine blk_drew ?_ | refine blk_alloc ?_ _)); refine blk_put (cs := #[.int .i64 0, .int .i64 0, .bool false, .int .i64 0, .int .i64 0, .int .i64 0, .int .i64 0, .int .i64 0, .string (⟨#[]⟩ : ByteArray)]) ?_ 0 _ rfl; (with_reducible repeat (first | refine blk_drewN ?_ _ | refine blk_drew ?_ | refine blk_alloc ?_ _)); exact BK242.out⟩, ⟨by repeat (first | (with_reducible first | exact HB.out | apply below_alloc | apply pw_below_drewN | apply below_drew1 | refine below_set ?_ GE225.out | refine below_set ?_ GE242.out) | exact HB.out)⟩⟩
                ·rw [if_neg c37] at H
                 exact absurd H (by simp)
               ·rw [if_neg c36] at H
                exact absurd H (by simp)
              ·rw [if_neg c35] at H
               have c35b0 : ((rd t230 8) == 16) = false := beq_eq_false_iff_ne.mpr c35
               have c35b1 : ((rd t230 8) != 16) = true := bne_iff_ne.mpr c35
               (first | rw [c35b0] | (simp only [i64_w, i32_w]; rw [c35b0]) | rw [c35b1] | skip)
               have H' := Aside0.mk H
               clear H
               go_wp2
               go_meet
               case rel => exact ⟨_, ((⟨#[]⟩ : ByteArray)), H', ⟨by first | omega | exact Nat.le_refl _⟩, ⟨by (with_reducible repeat (first | refine blk_drewN ?_ _ | refine blk_drew ?_ | refine blk_alloc ?_ _)); refine blk_far ?_ NB225_242.out _; (with_reducible repeat (first | refine blk_drewN ?_ _ | refine blk_drew ?_ | refine blk_alloc ?_ _)); refine blk_far ?_ NB225_242.out _; (with_reducible repeat (first | refine blk_drewN ?_ _ | refine blk_drew ?_ | refine blk_alloc ?_ _)); refine blk_far ?_ NB225_242.out _; (with_reducible repeat (first | refine blk_drewN ?_ _ | refine blk_drew ?_ | refine blk_alloc ?_ _)); refine blk_far ?_ NB225_242.out _; (with_reducible repeat (first | refine blk_drewN ?_ _ | refine blk_drew ?_ | refine blk_alloc ?_ _)); refine blk_far ?_ NB225_242.out _; (with_reducible repeat (first | refine blk_drewN ?_ _ | refine blk_drew ?_ | refine blk_alloc ?_ _)); refine blk_far ?_ NB225_242.out _; (with_reducible repeat (first | refine blk_drewN ?_ _ | refine blk_drew ?_ | refine blk_alloc ?_ _)); refine blk_far ?_ NB225_242.out _; (with_reducible repeat (first | refine blk_drewN ?_ _ | refine blk_drew ?_ | refine blk_alloc ?_ _)); refine blk_far ?_ NB225_242.out _; (with_reducible repeat (first | refine blk_drewN ?_ _ | refine blk_drew ?_ | refine blk_alloc ?_ _)); refine blk_far ?_ NB225_242.out _; (with_reducible repeat (first | refine blk_drewN ?_ _ | refine blk_drew ?_ | refine blk_alloc ?_ _)); exact BK225.out⟩, ⟨by (with_reducible repeat (first | refine blk_drewN ?_ _ | refine blk_drew ?_ | refine blk_alloc ?_ _)); refine blk_put (cs := #[.int .i64 (wrap64 (rd t230 0)), .int .i64 (wrap64 (rd t230 1)), .bool ((rd t230 2) == 1), .int .i64 (wrap64 (rd t230 3)), .int .i64 (wrap64 (rd t230 4)), .int .i64 (wrap64 (rd t230 5)), .int .i64 (wrap64 (rd t230 6)), .int .i64 (wrap64 (rd t230 7)), .string (⟨#[]⟩ : ByteArray)]) ?_ 8 _ rfl; (with_reducible repeat (first | refine blk_drewN ?_ _ | refine blk_drew ?_ | refine blk_alloc ?_ _)); refine blk_put (cs := #[.int .i64 (wrap64 (rd t230 0)), .int .i64 (wrap64 (rd t230 1)), .bool ((rd t230 2) == 1), .int .i64 (wrap64 (rd t230 3)), .int .i64 (wrap64 (rd t230 4)), .int .i64 (wrap64 (rd t230 5)), .int .i64 (wrap64 (rd t230 6)), .int .i64 0, .string (⟨#[]⟩ : ByteArray)]) ?_ 7 _ rfl; (with_reducible repeat (first | refine blk_drewN ?_ _ | refine blk_drew ?_ | refine blk_alloc ?_ _)); refine blk_put (cs := #[.int .i64 (wrap64 (rd t230 0)), .int .i64 (wrap64 (rd t230 1)), .bool ((rd t230 2) == 1), .int .i64 (wrap64 (rd t230 3)), .int .i64 (wrap64 (rd t230 4)), .int .i64 (wrap64 (rd t230 5)), .int .i64 0, .int .i64 0, .string (⟨#[]⟩ : ByteArray)]) ?_ 6 _ rfl; (with_reducible repeat (first | refine blk_drewN ?_ _ | refine blk_drew ?_ | refine blk_alloc ?_ _)); refine blk_put (cs := #[.int .i64 (wrap64 (rd t230 0)), .int .i64 (wrap64 (rd t230 1)), .bool ((rd t230 2) == 1), .int .i64 (wrap64 (rd t230 3)), .int .i64 (wrap64 (rd t230 4)), .int .i64 0, .int .i64 0, .int .i64 0, .string (⟨#[]⟩ : ByteArray)]) ?_ 5 _ rfl; (with_reducible repeat (first | refine blk_drewN ?_ _ | refine blk_drew ?_ | refine blk_alloc ?_ _)); refine blk_put (cs := #[.int .i64 (wrap64 (rd t230 0)), .int .i64 (wrap64 (rd t230 1)), .bool ((rd t230 2) == 1), .int .i64 (wrap64 (rd t230 3)), .int .i64 0, .int .i64 0, .int .i64 0, .int .i64 0, .string (⟨#[]⟩ : ByteArray)]) ?_ 4 _ rfl; (with_reducible repeat (first | refine blk_drewN ?_ _ | refine blk_drew ?_ | refine blk_alloc ?_ _)); refine blk_put (cs := #[.int .i64 (wrap64 (rd t230 0)), .int .i64 (wrap64 (rd t230 1)), .bool ((rd t230 2) == 1), .int .i64 0, .int .i64 0, .int .i64 0, .int .i64 0, .int .i64 0, .string (⟨#[]⟩ : ByteArray)]) ?_ 3 _ rfl; (with_reducible repeat (first | refine blk_drewN ?_ _ | refine blk_drew ?_ | refine blk_alloc ?_ _)); refine blk_put (cs := #[.int .i64 (wrap64 (rd t230 0)), .int .i64 (wrap64 (rd t230 1)), .bool false, .int .i64 0, .int .i64 0, .int .i64 0, .int .i64 0, .int .i64 0, .string (⟨#[]⟩ : ByteArray)]) ?_ 2 _ rfl; (with_reducible repeat (first | refine blk_drewN ?_ _ | refine blk_drew ?_ | refine blk_alloc ?_ _)); refine blk_put (cs := #[.int .i64 (wrap64 (rd t230 0)), .int .i64 0, .bool false, .int .i64 0, .int .i64 0, .int .i64 0, .int .i64 0, .int .i64 0, .string (⟨#[]⟩ : ByteArray)]) ?_ 1 _ rfl; (with_reducible repeat (first | refine blk_drewN ?_ _ | refine blk_drew ?_ | refine blk_alloc ?_ _)); refine blk_put (cs := #[.int .i64 0, .int .i64 0, .bool false, .int .i64 0, .int .i64 0, .int .i64 0, .int .i64 0, .int .i64 0, .string (⟨#[]⟩ : ByteArray)]) ?_ 0 _ rfl; (with_reducible repeat (first | refine blk_drewN ?_ _ | refine blk_drew ?_ | refine blk_alloc ?_ _)); exact BK242.out⟩, ⟨by repeat (first | (with_reducible first | exact HB.out | apply below_alloc | apply pw_below_drewN | apply below_drew1 | refine below_set ?_ GE225.out | refine below_set ?_ GE242.out) | exact HB.out)⟩⟩
             case rest =>
              clear HC16
              try clear p2
              try clear q2
              try clear hx2
              try clear qi2
              try clear c3
              try clear hcv3
              try clear c4
              try clear p6
              try clear p23
              try clear q23
              try clear hx23
              try clear qi23
              try clear p24
              try clear q24
              try clear hx24
              try clear qi24
              try clear c35
              try clear c35b0
              try clear c35b1
              try clear c36
              try clear c36b0
              try clear c36b1
              try clear c37
              try clear c37b0
              try clear c37b1
              try clear hcv39
              try clear c40
              try clear hcz41_0
              try clear hcz41_1
              try clear hcz41_2
              try clear hcz41_3
              try clear hcz41_4
              try clear hcz41_5
              try clear hcz41_6
              try clear hcz41_7
              try clear hcz41_8
              try clear hfz41_0
              try clear hfz41_1
              try clear hfz41_2
              try clear hfz41_3
              try clear hfz41_4
              try clear hfz41_5
              try clear hfz41_6
              try clear hfz41_7
              try clear hfz41_8
              try clear hx234_0
              try clear hx235_0
              try clear hx236_0
              try clear hx237_0
              try clear hx238_0
              try clear hx239_0
              try clear hx240_0
              try clear hx241_0
              try clear hx243_0
              try clear p234
              try clear p235
              try clear p236
              try clear p237
              try clear p238
              try clear p239
              try clear p240
              try clear p241
              try clear p243
              try clear q234
              try clear q235
              try clear q236
              try clear q237
              try clear q238
              try clear q239
              try clear q240
              try clear q241
              try clear q243
              obtain ⟨kq, x243008_15, HA, HJ15, BK225, BK242, HB⟩ := hcut
              cases kq with
              | zero => exact absurd HA.out (by simp [line_Decode.j0])
              | succ kj15 =>
               have H := HA.out
               clear HA
               simp only [line_Decode.j0] at H
               replace H := Option.bind_eq_some_iff.mp H
               obtain ⟨⟨t245, t248⟩, A420, H⟩ := H
               replace H : (if t248 = 0 then ((bytes_Equal.f t245 l0).bind fun t249 => (if t249 = true then (some ((wrap64 (rd t230 0)), (wrap64 (rd t230 1)), ((rd t230 2) == 1), (wrap64 (rd t230 3)), (wrap64 (rd t230 4)), (wrap64 (rd t230 5)), (wrap64 (rd t230 6)), (wrap64 (rd t230 7)), x243008_15, 0)) else (some (0, 0, false, 0, 0, 0, 0, 0, (⟨#[]⟩ : ByteArray), 2)))) else (some (0, 0, false, 0, 0, 0, 0, 0, (⟨#[]⟩ : ByteArray), 2))) = some (r1, r2, r3, r4, r5, r6, r7, r8, r9, r10) := H
               have A42 := Aside0.mk A420
               clear A420
               by_cases c43 : t248 = 0
               ·rw [if_pos c43] at H
                have c43b0 : (t248 == 0) = true := beq_iff_eq.mpr c43
                have c43b1 : (t248 != 0) = false := bne_eq_false_iff_eq.mpr c43
                clear c43
                replace H := Option.bind_eq_some_iff.mp H
                obtain ⟨t249, A440, H⟩ := H
                replace H : (if t249 = true then (some ((wrap64 (rd t230 0)), (wrap64 (rd t230 1)), ((rd t230 2) == 1), (wrap64 (rd t230 3)), (wrap64 (rd t230 4)), (wrap64 (rd t230 5)), (wrap64 (rd t230 6)), (wrap64 (rd t230 7)), x243008_15, 0)) else (some (0, 0, false, 0, 0, 0, 0, 0, (⟨#[]⟩ : ByteArray), 2))) = some (r1, r2, r3, r4, r5, r6, r7, r8, r9, r10) := H
                have A44 := Aside0.mk A440
                clear A440
                by_cases c45 : t249 = true
                ·subst c45
                 have H1 : (some ((wrap64 (rd t230 0)), (wrap64 (rd t230 1)), ((rd t230 2) == 1), (wrap64 (rd t230 3)), (wrap64 (rd t230 4)), (wrap64 (rd t230 5)), (wrap64 (rd t230 6)), (wrap64 (rd t230 7)), x243008_15, 0)) = some (r1, r2, r3, r4, r5, r6, r7, r8, r9, r10) := by rw [if_pos rfl] at H; exact H
                 clear H
                 have H := H1
                 clear H1
                 simp only [Option.some.injEq, Prod.mk.injEq] at H
                 obtain ⟨rfl, rfl, rfl, rfl, rfl, rfl, rfl, rfl, rfl, rfl⟩ := H
                 have hnb46 := NB242_225.out
                 have hnc46 := NB225_242.out
                 have hcz47_0 : wc.cell? ⟨gb242, 0, none⟩ = some (.int .i64 (wrap64 (rd t230 0))) := (blk_cell BK242.out 0).trans rfl
                 have hcz47_1 : wc.cell? ⟨gb242, 1, none⟩ = some (.int .i64 (wrap64 (rd t230 1))) := (blk_cell BK242.out 1).trans rfl
                 have hcz47_2 : wc.cell? ⟨gb242, 2, none⟩ = some (.bool ((rd t230 2) == 1)) := (blk_cell BK242.out 2).trans rfl
                 have hcz47_3 : wc.cell? ⟨gb242, 3, none⟩ = some (.int .i64 (wrap64 (rd t230 3))) := (blk_cell BK242.out 3).trans rfl
                 have hcz47_4 : wc.cell? ⟨gb242, 4, none⟩ = some (.int .i64 (wrap64 (rd t230 4))) := (blk_cell BK242.out 4).trans rfl
                 have hcz47_5 : wc.cell? ⟨gb242, 5, none⟩ = some (.int .i64 (wrap64 (rd t230 5))) := (blk_cell BK242.out 5).trans rfl
                 have hcz47_6 : wc.cell? ⟨gb242, 6, none⟩ = some (.int .i64 (wrap64 (rd t230 6))) := (blk_cell BK242.out 6).trans rfl
                 have hcz47_7 : wc.cell? ⟨gb242, 7, none⟩ = some (.int .i64 (wrap64 (rd t230 7))) := (blk_cell BK242.out 7).trans rfl
                 have hcz47_8 : wc.cell? ⟨gb242, 8, none⟩ = some (.string x243008_15) := (blk_cell BK242.out 8).trans rfl
                 have hfz47_0 := blk_frozen BK242.out 0
                 have hfz47_1 := blk_frozen BK242.out 1
                 have hfz47_2 := blk_frozen BK242.out 2
                 have hfz47_3 := blk_frozen BK242.out 3
                 have hfz47_4 := blk_frozen BK242.out 4
                 have hfz47_5 := blk_frozen BK242.out 5
                 have hfz47_6 := blk_frozen BK242.out 6
                 have hfz47_7 := blk_frozen BK242.out 7
                 have hfz47_8 := blk_frozen BK242.out 8
                 go_wp2_with (first | ((with_reducible refine gate_callee (f := 10) rfl ?_); refine goesL_ (some 65) rfl rfl Try.func10 (by kernel_rfl) rfl #[.agg #[.int .i64 (wrap64 (rd t230 0)), .int .i64 (wrap64 (rd t230 1)), .bool ((rd t230 2) == 1), .int .i64 (wrap64 (rd t230 3)), .int .i64 (wrap64 (rd t230 4)), .int .i64 (wrap64 (rd t230 5)), .int .i64 (wrap64 (rd t230 6)), .int .i64 (wrap64 (rd t230 7)), .string x243008_15]] rfl (by (try simp only [List.map_toArray, List.map_cons, List.map_nil]); first | done | rfl | (simp only [List.length_drop, List.length_take]; rfl)) ?_; (with_reducible refine (line_Encode.calls kj15 (wrap64 (rd t230 0)) (wrap64 (rd t230 1)) ((rd t230 2) == 1) (wrap64 (rd t230 3)) (wrap64 (rd t230 4)) (wrap64 (rd t230 5)) (wrap64 (rd t230 6)) (wrap64 (rd t230 7)) x243008_15 t245 t248 _ A42.out).mono ?_); rintro e w48 ⟨v246, rfl, ho0, hb⟩; refine ⟨_, rfl, ?_⟩; have n0_ := Aside0.mk (Kd.R_lower ho0 (below_size (by repeat (first | (with_reducible first | exact HB.out | apply below_alloc | apply pw_below_drewN | apply below_drew1 | refine below_set ?_ GE225.out | refine below_set ?_ GE242.out) | exact HB.out)))); have n1_ := Aside0.mk (blk_below (g := gb225) (o := .cells #[.int .i64 0, .int .i64 0, .bool false, .int .i64 0, .int .i64 0, .int .i64 0, .int .i64 0, .int .i64 0, .string (⟨#[]⟩ : ByteArray)] 25 (0, 0)) (by (with_reducible repeat (first | refine blk_drewN ?_ _ | refine blk_drew ?_ | refine blk_alloc ?_ _)); exact BK225.out) hb); have n2_ := Aside0.mk (blk_below (g := gb242) (o := .cells #[.int .i64 (wrap64 (rd t230 0)), .int .i64 (wrap64 (rd t230 1)), .bool ((rd t230 2) == 1), .int .i64 (wrap64 (rd t230 3)), .int .i64 (wrap64 (rd t230 4)), .int .i64 (wrap64 (rd t230 5)), .int .i64 (wrap64 (rd t230 6)), .int .i64 (wrap64 (rd t230 7)), .string x243008_15] 25 (0, 0)) (by (with_reducible repeat (first | refine blk_drewN ?_ _ | refine blk_drew ?_ | refine blk_alloc ?_ _)); exact BK242.out) hb); have n3_ := Aside0.mk (below_step (by repeat (first | (with_reducible first | exact HB.out | apply below_alloc | apply pw_below_drewN | apply below_drew1 | refine below_set ?_ GE225.out | refine below_set ?_ GE242.out) | exact HB.out)) hb); clear BK225; clear BK242; clear HB; have HO247 := n0_; have BK225 := n1_; have BK242 := n2_; have HB := n3_; clear n0_ n1_ n2_ n3_; (try clear hb); (try clear hb2); (try clear hk); (try clear hi); (try clear ho0); obtain ⟨Ao49, co49, eo49⟩ := Kd.R_slice HO247.out; subst eo49) | (go_at_call 25; (with_reducible refine (bytes_Equal.calls _ _ t245 _ _ l0 true _ ?side1 ?side2 ?side3 ?side4 A44.out).mono ?_); (case side1 => repeat (first | exact (Kd.R_reads' HO247.out).2.2 | (with_reducible refine Kd.C_alloc ?_ _) | (with_reducible refine Kd.C_drewN ?_ _) | (with_reducible refine Kd.C_drew ?_))); (case side2 => exact (Kd.R_reads' HO247.out).2.1); (case side3 => repeat (first | exact (Kd.C_below HR0.out HB.out) | (with_reducible refine Kd.C_alloc ?_ _) | (with_reducible refine Kd.C_drewN ?_ _) | (with_reducible refine Kd.C_drew ?_))); (case side4 => exact HC0.out); rintro e w' ⟨rfl, ⟨nd, rfl⟩⟩; (try (rw [drewN_self w48]; generalize hq_ : World.drewN w48 _ = w48; have n0_ : Aside0 (Kd.R (Kd.int .u8) 5 w48 w.heap.size (fun _ => True) (.slice Ao49 t245.length co49) t245) := ⟨by rw [← hq_]; exact (by (with_reducible repeat (first | apply Kd.R_alloc | apply Kd.R_drewN | apply Kd.R_drew)); exact HO247.out)⟩; have n1_ : Aside0 (w48.heap[gb225]? = some (.cells #[.int .i64 0, .int .i64 0, .bool false, .int .i64 0, .int .i64 0, .int .i64 0, .int .i64 0, .int .i64 0, .string (⟨#[]⟩ : ByteArray)] 25 (0, 0))) := ⟨by rw [← hq_]; exact (by (with_reducible repeat (first | refine blk_drewN ?_ _ | refine blk_drew ?_ | refine blk_alloc ?_ _)); exact BK225.out)⟩; have n2_ : Aside0 (w48.heap[gb242]? = some (.cells #[.int .i64 (wrap64 (rd t230 0)), .int .i64 (wrap64 (rd t230 1)), .bool ((rd t230 2) == 1), .int .i64 (wrap64 (rd t230 3)), .int .i64 (wrap64 (rd t230 4)), .int .i64 (wrap64 (rd t230 5)), .int .i64 (wrap64 (rd t230 6)), .int .i64 (wrap64 (rd t230 7)), .string x243008_15] 25 (0, 0))) := ⟨by rw [← hq_]; exact (by (with_reducible repeat (first | refine blk_drewN ?_ _ | refine blk_drew ?_ | refine blk_alloc ?_ _)); exact BK242.out)⟩; have n3_ : Aside0 (Below w.heap.size w w48) := ⟨by rw [← hq_]; exact (by repeat (first | (with_reducible first | exact HB.out | apply below_alloc | apply pw_below_drewN | apply below_drew1 | refine below_set ?_ GE225.out | refine below_set ?_ GE242.out) | exact HB.out))⟩; clear HO247 BK225 BK242 HB hq_; have HO247 := n0_; have BK225 := n1_; have BK242 := n2_; have HB := n3_; clear n0_ n1_ n2_ n3_)); have hcz50_0 : w48.cell? ⟨gb242, 0, none⟩ = some (.int .i64 (wrap64 (rd t230 0))) := (blk_cell BK242.out 0).trans rfl; have hcz50_1 : w48.cell? ⟨gb242, 1, none⟩ = some (.int .i64 (wrap64 (rd t230 1))) := (blk_cell BK242.out 1).trans rfl; have hcz50_2 : w48.cell? ⟨gb242, 2, none⟩ = some (.bool ((rd t230 2) == 1)) := (blk_cell BK242.out 2).trans rfl; have hcz50_3 : w48.cell? ⟨gb242, 3, none⟩ = some (.int .i64 (wrap64 (rd t230 3))) := (blk_cell BK242.out 3).trans rfl; have hcz50_4 : w48.cell? ⟨gb242, 4, none⟩ = some (.int .i64 (wrap64 (rd t230 4))) := (blk_cell BK242.out 4).trans rfl; have hcz50_5 : w48.cell? ⟨gb242, 5, none⟩ = some (.int .i64 (wrap64 (rd t230 5))) := (blk_cell BK242.out 5).trans rfl; have hcz50_6 : w48.cell? ⟨gb242, 6, none⟩ = some (.int .i64 (wrap64 (rd t230 6))) := (blk_cell BK242.out 6).trans rfl; have hcz50_7 : w48.cell? ⟨gb242, 7, none⟩ = some (.int .i64 (wrap64 (rd t230 7))) := (blk_cell BK242.out 7).trans rfl; have hcz50_8 : w48.cell? ⟨gb242, 8, none⟩ = some (.string x243008_15) := (blk_cell BK242.out 8).trans rfl; have hfz50_0 := blk_frozen BK242.out 0; have hfz50_1 := blk_frozen BK242.out 1; have hfz50_2 := blk_frozen BK242.out 2; have hfz50_3 := blk_frozen BK242.out 3; have hfz50_4 := blk_frozen BK242.out 4; have hfz50_5 := blk_frozen BK242.out 5; have hfz50_6 := blk_frozen BK242.out 6; have hfz50_7 := blk_frozen BK242.out 7; have hfz50_8 := blk_frozen BK242.out 8; have hcz51_0 : w48.cell? ⟨gb225, 0, none⟩ = some (.int .i64 0) := (blk_cell BK225.out 0).trans rfl; have hcz51_1 : w48.cell? ⟨gb225, 1, none⟩ = some (.int .i64 0) := (blk_cell BK225.out 1).trans rfl; have hcz51_2 : w48.cell? ⟨gb225, 2, none⟩ = some (.bool false) := (blk_cell BK225.out 2).trans rfl; have hcz51_3 : w48.cell? ⟨gb225, 3, none⟩ = some (.int .i64 0) := (blk_cell BK225.out 3).trans rfl; have hcz51_4 : w48.cell? ⟨gb225, 4, none⟩ = some (.int .i64 0) := (blk_cell BK225.out 4).trans rfl; have hcz51_5 : w48.cell? ⟨gb225, 5, none⟩ = some (.int .i64 0) := (blk_cell BK225.out 5).trans rfl; have hcz51_6 : w48.cell? ⟨gb225, 6, none⟩ = some (.int .i64 0) := (blk_cell BK225.out 6).trans rfl; have hcz51_7 : w48.cell? ⟨gb225, 7, none⟩ = some (.int .i64 0) := (blk_cell BK225.out 7).trans rfl; have hcz51_8 : w48.cell? ⟨gb225, 8, none⟩ = some (.string (⟨#[]⟩ : ByteArray)) := (blk_cell BK225.out 8).trans rfl; have hfz51_0 := blk_frozen BK225.out 0; have hfz51_1 := blk_frozen BK225.out 1; have hfz51_2 := blk_frozen BK225.out 2; have hfz51_3 := blk_frozen BK225.out 3; have hfz51_4 := blk_frozen BK225.out 4; have hfz51_5 := blk_frozen BK225.out 5; have hfz51_6 := blk_frozen BK225.out 6; have hfz51_7 := blk_frozen BK225.out 7; have hfz51_8 := blk_frozen BK225.out 8))
                 refine bodyPost_ret (results_ct rfl _ _ gb225 25 #[.int .i64 (wrap64 (rd t230 0)), .int .i64 (wrap64 (rd t230 1)), .bool ((rd t230 2) == 1), .int .i64 (wrap64 (rd t230 3)), .int .i64 (wrap64 (rd t230 4)), .int .i64 (wrap64 (rd t230 5)), .int .i64 (wrap64 (rd t230 6)), .int .i64 (wrap64 (rd t230 7)), .string x243008_15] (0, 0) _ rfl (by (with_reducible repeat (first | refine blk_drewN ?_ _ | refine blk_drew ?_ | refine blk_alloc ?_ _)); refine blk_put (cs := #[.int .i64 (wrap64 (rd t230 0)), .int .i64 (wrap64 (rd t230 1)), .bool ((rd t230 2) == 1), .int .i64 (wrap64 (rd t230 3)), .int .i64 (wrap64 (rd t230 4)), .int .i64 (wrap64 (rd t230 5)), .int .i64 (wrap64 (rd t230 6)), .int .i64 (wrap64 (rd t230 7)), .string (⟨#[]⟩ : ByteArray)]) ?_ 8 _ rfl; (with_reducible repeat (first | refine blk_drewN ?_ _ | refine blk_drew ?_ | refine blk_alloc ?_ _)); refine blk_put (cs := #[.int .i64 (wrap64 (rd t230 0)), .int .i64 (wrap64 (rd t230 1)), .bool ((rd t230 2) == 1), .int .i64 (wrap64 (rd t230 3)), .int .i64 (wrap64 (rd t230 4)), .int .i64 (wrap64 (rd t230 5)), .int .i64 (wrap64 (rd t230 6)), .int .i64 0, .string (⟨#[]⟩ : ByteArray)]) ?_ 7 _ rfl; (with_reducible repeat (first | refine blk_drewN ?_ _ | refine blk_drew ?_ | refine blk_alloc ?_ _)); refine blk_put (cs := #[.int .i64 (wrap64 (rd t230 0)), .int .i64 (wrap64 (rd t230 1)), .bool ((rd t230 2) == 1), .int .i64 (wrap64 (rd t230 3)), .int .i64 (wrap64 (rd t230 4)), .int .i64 (wrap64 (rd t230 5)), .int .i64 0, .int .i64 0, .string (⟨#[]⟩ : ByteArray)]) ?_ 6 _ rfl; (with_reducible repeat (first | refine blk_drewN ?_ _ | refine blk_drew ?_ | refine blk_alloc ?_ _)); refine blk_put (cs := #[.int .i64 (wrap64 (rd t230 0)), .int .i64 (wrap64 (rd t230 1)), .bool ((rd t230 2) == 1), .int .i64 (wrap64 (rd t230 3)), .int .i64 (wrap64 (rd t230 4)), .int .i64 0, .int .i64 0, .int .i64 0, .string (⟨#[]⟩ : ByteArray)]) ?_ 5 _ rfl; (with_reducible repeat (first | refine blk_drewN ?_ _ | refine blk_drew ?_ | refine blk_alloc ?_ _)); refine blk_put (cs := #[.int .i64 (wrap64 (rd t230 0)), .int .i64 (wrap64 (rd t230 1)), .bool ((rd t230 2) == 1), .int .i64 (wrap64 (rd t230 3)), .int .i64 0, .int .i64 0, .int .i64 0, .int .i64 0, .string (⟨#[]⟩ : ByteArray)]) ?_ 4 _ rfl; (with_reducible repeat (first | refine blk_drewN ?_ _ | refine blk_drew ?_ | refine blk_alloc ?_ _)); refine blk_put (cs := #[.int .i64 (wrap64 (rd t230 0)), .int .i64 (wrap64 (rd t230 1)), .bool ((rd t230 2) == 1), .int .i64 0, .int .i64 0, .int .i64 0, .int .i64 0, .int .i64 0, .string (⟨#[]⟩ : ByteArray)]) ?_ 3 _ rfl; (with_reducible repeat (first | refine blk_drewN ?_ _ | refine blk_drew ?_ | refine blk_alloc ?_ _)); refine blk_put (cs := #[.int .i64 (wrap64 (rd t230 0)), .int .i64 (wrap64 (rd t230 1)), .bool false, .int .i64 0, .int .i64 0, .int .i64 0, .int .i64 0, .int .i64 0, .string (⟨#[]⟩ : ByteArray)]) ?_ 2 _ rfl; (with_reducible repeat (first | refine blk_drewN ?_ _ | refine blk_drew ?_ | refine blk_alloc ?_ _)); refine blk_put (cs := #[.int .i64 (wrap64 (rd t230 0)), .int .i64 0, .bool false, .int .i64 0, .int .i64 0, .int .i64 0, .int .i64 0, .int .i64 0, .string (⟨#[]⟩ : ByteArray)]) ?_ 1 _ rfl; (with_reducible repeat (first | refine blk_drewN ?_ _ | refine blk_drew ?_ | refine blk_alloc ?_ _)); refine blk_put (cs := #[.int .i64 0, .int .i64 0, .bool false, .int .i64 0, .int .i64 0, .int .i64 0, .int .i64 0, .int .i64 0, .string (⟨#[]⟩ : ByteArray)]) ?_ 0 _ rfl; (with_reducible repeat (first | refine blk_drewN ?_ _ | refine blk_drew ?_ | refine blk_alloc ?_ _)); exact BK225.out) Try.underlying25 rfl (by kernel_rfl)) rfl ?_
                 exact ⟨by first | rfl | (simp [errW_none, errW_some] <;> rfl) | (simp [*, errW_none, errW_some] <;> rfl), by repeat (first | (with_reducible first | exact HB.out | apply below_alloc | apply pw_below_drewN | apply below_drew1 | refine below_set ?_ GE225.out | refine below_set ?_ GE242.out) | exact HB.out)⟩
                ·replace c45 := Bool.eq_false_iff.mpr c45
                 subst c45
                 have H1 : (some (0, 0, false, 0, 0, 0, 0, 0, (⟨#[]⟩ : ByteArray), 2)) = some (r1, r2, r3, r4, r5, r6, r7, r8, r9, r10) := by rw [if_neg (show ¬ (false = true) by decide)] at H; exact H
                 clear H
                 have H := H1
                 clear H1
                 simp only [Option.some.injEq, Prod.mk.injEq] at H
                 obtain ⟨rfl, rfl, rfl, rfl, rfl, rfl, rfl, rfl, rfl, rfl⟩ := H
                 have hnb52 := NB242_225.out
                 have hnc52 := NB225_242.out
                 have hcz53_0 : wc.cell? ⟨gb242, 0, none⟩ = some (.int .i64 (wrap64 (rd t230 0))) := (blk_cell BK242.out 0).trans rfl
                 have hcz53_1 : wc.cell? ⟨gb242, 1, none⟩ = some (.int .i64 (wrap64 (rd t230 1))) := (blk_cell BK242.out 1).trans rfl
                 have hcz53_2 : wc.cell? ⟨gb242, 2, none⟩ = some (.bool ((rd t230 2) == 1)) := (blk_cell BK242.out 2).trans rfl
                 have hcz53_3 : wc.cell? ⟨gb242, 3, none⟩ = some (.int .i64 (wrap64 (rd t230 3))) := (blk_cell BK242.out 3).trans rfl
                 have hcz53_4 : wc.cell? ⟨gb242, 4, none⟩ = some (.int .i64 (wrap64 (rd t230 4))) := (blk_cell BK242.out 4).trans rfl
                 have hcz53_5 : wc.cell? ⟨gb242, 5, none⟩ = some (.int .i64 (wrap64 (rd t230 5))) := (blk_cell BK242.out 5).trans rfl
                 have hcz53_6 : wc.cell? ⟨gb242, 6, none⟩ = some (.int .i64 (wrap64 (rd t230 6))) := (blk_cell BK242.out 6).trans rfl
                 have hcz53_7 : wc.cell? ⟨gb242, 7, none⟩ = some (.int .i64 (wrap64 (rd t230 7))) := (blk_cell BK242.out 7).trans rfl
                 have hcz53_8 : wc.cell? ⟨gb242, 8, none⟩ = some (.string x243008_15) := (blk_cell BK242.out 8).trans rfl
                 have hfz53_0 := blk_frozen BK242.out 0
                 have hfz53_1 := blk_frozen BK242.out 1
                 have hfz53_2 := blk_frozen BK242.out 2
                 have hfz53_3 := blk_frozen BK242.out 3
                 have hfz53_4 := blk_frozen BK242.out 4
                 have hfz53_5 := blk_frozen BK242.out 5
                 have hfz53_6 := blk_frozen BK242.out 6
                 have hfz53_7 := blk_frozen BK242.out 7
                 have hfz53_8 := blk_frozen BK242.out 8
                 go_wp2_with (first | ((with_reducible refine gate_callee (f := 10) rfl ?_); refine goesL_ (some 65) rfl rfl Try.func10 (by kernel_rfl) rfl #[.agg #[.int .i64 (wrap64 (rd t230 0)), .int .i64 (wrap64 (rd t230 1)), .bool ((rd t230 2) == 1), .int .i64 (wrap64 (rd t230 3)), .int .i64 (wrap64 (rd t230 4)), .int .i64 (wrap64 (rd t230 5)), .int .i64 (wrap64 (rd t230 6)), .int .i64 (wrap64 (rd t230 7)), .string x243008_15]] rfl (by (try simp only [List.map_toArray, List.map_cons, List.map_nil]); first | done | rfl | (simp only [List.length_drop, List.length_take]; rfl)) ?_; (with_reducible refine (line_Encode.calls kj15 (wrap64 (rd t230 0)) (wrap64 (rd t230 1)) ((rd t230 2) == 1) (wrap64 (rd t230 3)) (wrap64 (rd t230 4)) (wrap64 (rd t230 5)) (wrap64 (rd t230 6)) (wrap64 (rd t230 7)) x243008_15 t245 t248 _ A42.out).mono ?_); rintro e w54 ⟨v246, rfl, ho0, hb⟩; refine ⟨_, rfl, ?_⟩; have n0_ := Aside0.mk (Kd.R_lower ho0 (below_size (by repeat (first | (with_reducible first | exact HB.out | apply below_alloc | apply pw_below_drewN | apply below_drew1 | refine below_set ?_ GE225.out | refine below_set ?_ GE242.out) | exact HB.out)))); have n1_ := Aside0.mk (blk_below (g := gb225) (o := .cells #[.int .i64 0, .int .i64 0, .bool false, .int .i64 0, .int .i64 0, .int .i64 0, .int .i64 0, .int .i64 0, .string (⟨#[]⟩ : ByteArray)] 25 (0, 0)) (by (with_reducible repeat (first | refine blk_drewN ?_ _ | refine blk_drew ?_ | refine blk_alloc ?_ _)); exact BK225.out) hb); have n2_ := Aside0.mk (blk_below (g := gb242) (o := .cells #[.int .i64 (wrap64 (rd t230 0)), .int .i64 (wrap64 (rd t230 1)), .bool ((rd t230 2) == 1), .int .i64 (wrap64 (rd t230 3)), .int .i64 (wrap64 (rd t230 4)), .int .i64 (wrap64 (rd t230 5)), .int .i64 (wrap64 (rd t230 6)), .int .i64 (wrap64 (rd t230 7)), .string x243008_15] 25 (0, 0)) (by (with_reducible repeat (first | refine blk_drewN ?_ _ | refine blk_drew ?_ | refine blk_alloc ?_ _)); exact BK242.out) hb); have n3_ := Aside0.mk (below_step (by repeat (first | (with_reducible first | exact HB.out | apply below_alloc | apply pw_below_drewN | apply below_drew1 | refine below_set ?_ GE225.out | refine below_set ?_ GE242.out) | exact HB.out)) hb); clear BK225; clear BK242; clear HB; have HO247 := n0_; have BK225 := n1_; have BK242 := n2_; have HB := n3_; clear n0_ n1_ n2_ n3_; (try clear hb); (try clear hb2); (try clear hk); (try clear hi); (try clear ho0); obtain ⟨Ao55, co55, eo55⟩ := Kd.R_slice HO247.out; subst eo55) | (go_at_call 25; (with_reducible refine (bytes_Equal.calls _ _ t245 _ _ l0 false _ ?side1 ?side2 ?side3 ?side4 A44.out).mono ?_); (case side1 => repeat (first | exact (Kd.R_reads' HO247.out).2.2 | (with_reducible refine Kd.C_alloc ?_ _) | (with_reducible refine Kd.C_drewN ?_ _) | (with_reducible refine Kd.C_drew ?_))); (case side2 => exact (Kd.R_reads' HO247.out).2.1); (case side3 => repeat (first | exact (Kd.C_below HR0.out HB.out) | (with_reducible refine Kd.C_alloc ?_ _) | (with_reducible refine Kd.C_drewN ?_ _) | (with_reducible refine Kd.C_drew ?_))); (case side4 => exact HC0.out); rintro e w' ⟨rfl, ⟨nd, rfl⟩⟩; (try (rw [drewN_self w54]; generalize hq_ : World.drewN w54 _ = w54; have n0_ : Aside0 (Kd.R (Kd.int .u8) 5 w54 w.heap.size (fun _ => True) (.slice Ao55 t245.length co55) t245) := ⟨by rw [← hq_]; exact (by (with_reducible repeat (first | apply Kd.R_alloc | apply Kd.R_drewN | apply Kd.R_drew)); exact HO247.out)⟩; have n1_ : Aside0 (w54.heap[gb225]? = some (.cells #[.int .i64 0, .int .i64 0, .bool false, .int .i64 0, .int .i64 0, .int .i64 0, .int .i64 0, .int .i64 0, .string (⟨#[]⟩ : ByteArray)] 25 (0, 0))) := ⟨by rw [← hq_]; exact (by (with_reducible repeat (first | refine blk_drewN ?_ _ | refine blk_drew ?_ | refine blk_alloc ?_ _)); exact BK225.out)⟩; have n2_ : Aside0 (w54.heap[gb242]? = some (.cells #[.int .i64 (wrap64 (rd t230 0)), .int .i64 (wrap64 (rd t230 1)), .bool ((rd t230 2) == 1), .int .i64 (wrap64 (rd t230 3)), .int .i64 (wrap64 (rd t230 4)), .int .i64 (wrap64 (rd t230 5)), .int .i64 (wrap64 (rd t230 6)), .int .i64 (wrap64 (rd t230 7)), .string x243008_15] 25 (0, 0))) := ⟨by rw [← hq_]; exact (by (with_reducible repeat (first | refine blk_drewN ?_ _ | refine blk_drew ?_ | refine blk_alloc ?_ _)); exact BK242.out)⟩; have n3_ : Aside0 (Below w.heap.size w w54) := ⟨by rw [← hq_]; exact (by repeat (first | (with_reducible first | exact HB.out | apply below_alloc | apply pw_below_drewN | apply below_drew1 | refine below_set ?_ GE225.out | refine below_set ?_ GE242.out) | exact HB.out))⟩; clear HO247 BK225 BK242 HB hq_; have HO247 := n0_; have BK225 := n1_; have BK242 := n2_; have HB := n3_; clear n0_ n1_ n2_ n3_)); have hcz56_0 : w54.cell? ⟨gb225, 0, none⟩ = some (.int .i64 0) := (blk_cell BK225.out 0).trans rfl; have hcz56_1 : w54.cell? ⟨gb225, 1, none⟩ = some (.int .i64 0) := (blk_cell BK225.out 1).trans rfl; have hcz56_2 : w54.cell? ⟨gb225, 2, none⟩ = some (.bool false) := (blk_cell BK225.out 2).trans rfl; have hcz56_3 : w54.cell? ⟨gb225, 3, none⟩ = some (.int .i64 0) := (blk_cell BK225.out 3).trans rfl; have hcz56_4 : w54.cell? ⟨gb225, 4, none⟩ = some (.int .i64 0) := (blk_cell BK225.out 4).trans rfl; have hcz56_5 : w54.cell? ⟨gb225, 5, none⟩ = some (.int .i64 0) := (blk_cell BK225.out 5).trans rfl; have hcz56_6 : w54.cell? ⟨gb225, 6, none⟩ = some (.int .i64 0) := (blk_cell BK225.out 6).trans rfl; have hcz56_7 : w54.cell? ⟨gb225, 7, none⟩ = some (.int .i64 0) := (blk_cell BK225.out 7).trans rfl; have hcz56_8 : w54.cell? ⟨gb225, 8, none⟩ = some (.string (⟨#[]⟩ : ByteArray)) := (blk_cell BK225.out 8).trans rfl; have hfz56_0 := blk_frozen BK225.out 0; have hfz56_1 := blk_frozen BK225.out 1; have hfz56_2 := blk_frozen BK225.out 2; have hfz56_3 := blk_frozen BK225.out 3; have hfz56_4 := blk_frozen BK225.out 4; have hfz56_5 := blk_frozen BK225.out 5; have hfz56_6 := blk_frozen BK225.out 6; have hfz56_7 := blk_frozen BK225.out 7; have hfz56_8 := blk_frozen BK225.out 8))
                 refine bodyPost_ret (results_ct rfl _ _ gb225 25 #[.int .i64 0, .int .i64 0, .bool false, .int .i64 0, .int .i64 0, .int .i64 0, .int .i64 0, .int .i64 0, .string (⟨#[]⟩ : ByteArray)] (0, 0) _ rfl (by (with_reducible repeat (first | refine blk_drewN ?_ _ | refine blk_drew ?_ | refine blk_alloc ?_ _)); refine blk_put (cs := #[.int .i64 0, .int .i64 0, .bool false, .int .i64 0, .int .i64 0, .int .i64 0, .int .i64 0, .int .i64 0, .string (⟨#[]⟩ : ByteArray)]) ?_ 8 _ rfl; (with_reducible repeat (first | refine blk_drewN ?_ _ | refine blk_drew ?_ | refine blk_alloc ?_ _)); refine blk_put (cs := #[.int .i64 0, .int .i64 0, .bool false, .int .i64 0, .int .i64 0, .int .i64 0, .int .i64 0, .int .i64 0, .string (⟨#[]⟩ : ByteArray)]) ?_ 7 _ rfl; (with_reducible repeat (first | refine blk_drewN ?_ _ | refine blk_drew ?_ | refine blk_alloc ?_ _)); refine blk_put (cs := #[.int .i64 0, .int .i64 0, .bool false, .int .i64 0, .int .i64 0, .int .i64 0, .int .i64 0, .int .i64 0, .string (⟨#[]⟩ : ByteArray)]) ?_ 6 _ rfl; (with_reducible repeat (first | refine blk_drewN ?_ _ | refine blk_drew ?_ | refine blk_alloc ?_ _)); refine blk_put (cs := #[.int .i64 0, .int .i64 0, .bool false, .int .i64 0, .int .i64 0, .int .i64 0, .int .i64 0, .int .i64 0, .string (⟨#[]⟩ : ByteArray)]) ?_ 5 _ rfl; (with_reducible repeat (first | refine blk_drewN ?_ _ | refine blk_drew ?_ | refine blk_alloc ?_ _)); refine blk_put (cs := #[.int .i64 0, .int .i64 0, .bool false, .int .i64 0, .int .i64 0, .int .i64 0, .int .i64 0, .int .i64 0, .string (⟨#[]⟩ : ByteArray)]) ?_ 4 _ rfl; (with_reducible repeat (first | refine blk_drewN ?_ _ | refine blk_drew ?_ | refine blk_alloc ?_ _)); refine blk_put (cs := #[.int .i64 0, .int .i64 0, .bool false, .int .i64 0, .int .i64 0, .int .i64 0, .int .i64 0, .int .i64 0, .string (⟨#[]⟩ : ByteArray)]) ?_ 3 _ rfl; (with_reducible repeat (first | refine blk_drewN ?_ _ | refine blk_drew ?_ | refine blk_alloc ?_ _)); refine blk_put (cs := #[.int .i64 0, .int .i64 0, .bool false, .int .i64 0, .int .i64 0, .int .i64 0, .int .i64 0, .int .i64 0, .string (⟨#[]⟩ : ByteArray)]) ?_ 2 _ rfl; (with_reducible repeat (first | refine blk_drewN ?_ _ | refine blk_drew ?_ | refine blk_alloc ?_ _)); refine blk_put (cs := #[.int .i64 0, .int .i64 0, .bool false, .int .i64 0, .int .i64 0, .int .i64 0, .int .i64 0, .int .i64 0, .string (⟨#[]⟩ : ByteArray)]) ?_ 1 _ rfl; (with_reducible repeat (first | refine blk_drewN ?_ _ | refine blk_drew ?_ | refine blk_alloc ?_ _)); refine blk_put (cs := #[.int .i64 0, .int .i64 0, .bool false, .int .i64 0, .int .i64 0, .int .i64 0, .int .i64 0, .int .i64 0, .string (⟨#[]⟩ : ByteArray)]) ?_ 0 _ rfl; (with_reducible repeat (first | refine blk_drewN ?_ _ | refine blk_drew ?_ | refine blk_alloc ?_ _)); exact BK225.out) Try.underlying25 rfl (by kernel_rfl)) rfl ?_
                 exact ⟨by first | rfl | (simp [errW_none, errW_some] <;> rfl) | (simp [*, errW_none, errW_some] <;> rfl), by repeat (first | (with_reducible first | exact HB.out | apply below_alloc | apply pw_below_drewN | apply below_drew1 | refine below_set ?_ GE225.out | refine below_set ?_ GE242.out) | exact HB.out)⟩
               ·rw [if_neg c43] at H
                have c43b0 : (t248 == 0) = false := beq_eq_false_iff_ne.mpr c43
                have c43b1 : (t248 != 0) = true := bne_iff_ne.mpr c43
                simp only [Option.some.injEq, Prod.mk.injEq] at H
                obtain ⟨rfl, rfl, rfl, rfl, rfl, rfl, rfl, rfl, rfl, rfl⟩ := H
                have hnb57 := NB242_225.out
                have hnc57 := NB225_242.out
                have hcz58_0 : wc.cell? ⟨gb242, 0, none⟩ = some (.int .i64 (wrap64 (rd t230 0))) := (blk_cell BK242.out 0).trans rfl
                have hcz58_1 : wc.cell? ⟨gb242, 1, none⟩ = some (.int .i64 (wrap64 (rd t230 1))) := (blk_cell BK242.out 1).trans rfl
                have hcz58_2 : wc.cell? ⟨gb242, 2, none⟩ = some (.bool ((rd t230 2) == 1)) := (blk_cell BK242.out 2).trans rfl
                have hcz58_3 : wc.cell? ⟨gb242, 3, none⟩ = some (.int .i64 (wrap64 (rd t230 3))) := (blk_cell BK242.out 3).trans rfl
                have hcz58_4 : wc.cell? ⟨gb242, 4, none⟩ = some (.int .i64 (wrap64 (rd t230 4))) := (blk_cell BK242.out 4).trans rfl
                have hcz58_5 : wc.cell? ⟨gb242, 5, none⟩ = some (.int .i64 (wrap64 (rd t230 5))) := (blk_cell BK242.out 5).trans rfl
                have hcz58_6 : wc.cell? ⟨gb242, 6, none⟩ = some (.int .i64 (wrap64 (rd t230 6))) := (blk_cell BK242.out 6).trans rfl
                have hcz58_7 : wc.cell? ⟨gb242, 7, none⟩ = some (.int .i64 (wrap64 (rd t230 7))) := (blk_cell BK242.out 7).trans rfl
                have hcz58_8 : wc.cell? ⟨gb242, 8, none⟩ = some (.string x243008_15) := (blk_cell BK242.out 8).trans rfl
                have hfz58_0 := blk_frozen BK242.out 0
                have hfz58_1 := blk_frozen BK242.out 1
                have hfz58_2 := blk_frozen BK242.out 2
                have hfz58_3 := blk_frozen BK242.out 3
                have hfz58_4 := blk_frozen BK242.out 4
                have hfz58_5 := blk_frozen BK242.out 5
                have hfz58_6 := blk_frozen BK242.out 6
                have hfz58_7 := blk_frozen BK242.out 7
                have hfz58_8 := blk_frozen BK242.out 8
                go_wp2_with (first | ((with_reducible refine gate_callee (f := 10) rfl ?_); refine goesL_ (some 65) rfl rfl Try.func10 (by kernel_rfl) rfl #[.agg #[.int .i64 (wrap64 (rd t230 0)), .int .i64 (wrap64 (rd t230 1)), .bool ((rd t230 2) == 1), .int .i64 (wrap64 (rd t230 3)), .int .i64 (wrap64 (rd t230 4)), .int .i64 (wrap64 (rd t230 5)), .int .i64 (wrap64 (rd t230 6)), .int .i64 (wrap64 (rd t230 7)), .string x243008_15]] rfl (by (try simp only [List.map_toArray, List.map_cons, List.map_nil]); first | done | rfl | (simp only [List.length_drop, List.length_take]; rfl)) ?_; (with_reducible refine (line_Encode.calls kj15 (wrap64 (rd t230 0)) (wrap64 (rd t230 1)) ((rd t230 2) == 1) (wrap64 (rd t230 3)) (wrap64 (rd t230 4)) (wrap64 (rd t230 5)) (wrap64 (rd t230 6)) (wrap64 (rd t230 7)) x243008_15 t245 t248 _ A42.out).mono ?_); rintro e w59 ⟨v246, rfl, ho0, hb⟩; refine ⟨_, rfl, ?_⟩; have n0_ := Aside0.mk (Kd.R_lower ho0 (below_size (by repeat (first | (with_reducible first | exact HB.out | apply below_alloc | apply pw_below_drewN | apply below_drew1 | refine below_set ?_ GE225.out | refine below_set ?_ GE242.out) | exact HB.out)))); have n1_ := Aside0.mk (blk_below (g := gb225) (o := .cells #[.int .i64 0, .int .i64 0, .bool false, .int .i64 0, .int .i64 0, .int .i64 0, .int .i64 0, .int .i64 0, .string (⟨#[]⟩ : ByteArray)] 25 (0, 0)) (by (with_reducible repeat (first | refine blk_drewN ?_ _ | refine blk_drew ?_ | refine blk_alloc ?_ _)); exact BK225.out) hb); have n2_ := Aside0.mk (blk_below (g := gb242) (o := .cells #[.int .i64 (wrap64 (rd t230 0)), .int .i64 (wrap64 (rd t230 1)), .bool ((rd t230 2) == 1), .int .i64 (wrap64 (rd t230 3)), .int .i64 (wrap64 (rd t230 4)), .int .i64 (wrap64 (rd t230 5)), .int .i64 (wrap64 (rd t230 6)), .int .i64 (wrap64 (rd t230 7)), .string x243008_15] 25 (0, 0)) (by (with_reducible repeat (first | refine blk_drewN ?_ _ | refine blk_drew ?_ | refine blk_alloc ?_ _)); exact BK242.out) hb); have n3_ := Aside0.mk (below_step (by repeat (first | (with_reducible first | exact HB.out | apply below_alloc | apply pw_below_drewN | apply below_drew1 | refine below_set ?_ GE225.out | refine below_set ?_ GE242.out) | exact HB.out)) hb); clear BK225; clear BK242; clear HB; have HO247 := n0_; have BK225 := n1_; have BK242 := n2_; have HB := n3_; clear n0_ n1_ n2_ n3_; (try clear hb); (try clear hb2); (try clear hk); (try clear hi); (try clear ho0); have hcz60_0 : w59.cell? ⟨gb225, 0, none⟩ = some (.int .i64 0) := (blk_cell BK225.out 0).trans rfl; have hcz60_1 : w59.cell? ⟨gb225, 1, none⟩ = some (.int .i64 0) := (blk_cell BK225.out 1).trans rfl; have hcz60_2 : w59.cell? ⟨gb225, 2, none⟩ = some (.bool false) := (blk_cell BK225.out 2).trans rfl; have hcz60_3 : w59.cell? ⟨gb225, 3, none⟩ = some (.int .i64 0) := (blk_cell BK225.out 3).trans rfl; have hcz60_4 : w59.cell? ⟨gb225, 4, none⟩ = some (.int .i64 0) := (blk_cell BK225.out 4).trans rfl; have hcz60_5 : w59.cell? ⟨gb225, 5, none⟩ = some (.int .i64 0) := (blk_cell BK225.out 5).trans rfl; have hcz60_6 : w59.cell? ⟨gb225, 6, none⟩ = some (.int .i64 0) := (blk_cell BK225.out 6).trans rfl; have hcz60_7 : w59.cell? ⟨gb225, 7, none⟩ = some (.int .i64 0) := (blk_cell BK225.out 7).trans rfl; have hcz60_8 : w59.cell? ⟨gb225, 8, none⟩ = some (.string (⟨#[]⟩ : ByteArray)) := (blk_cell BK225.out 8).trans rfl; have hfz60_0 := blk_frozen BK225.out 0; have hfz60_1 := blk_frozen BK225.out 1; have hfz60_2 := blk_frozen BK225.out 2; have hfz60_3 := blk_frozen BK225.out 3; have hfz60_4 := blk_frozen BK225.out 4; have hfz60_5 := blk_frozen BK225.out 5; have hfz60_6 := blk_frozen BK225.out 6; have hfz60_7 := blk_frozen BK225.out 7; have hfz60_8 := blk_frozen BK225.out 8))
                refine bodyPost_ret (results_ct rfl _ _ gb225 25 #[.int .i64 0, .int .i64 0, .bool false, .int .i64 0, .int .i64 0, .int .i64 0, .int .i64 0, .int .i64 0, .string (⟨#[]⟩ : ByteArray)] (0, 0) _ rfl (by (with_reducible repeat (first | refine blk_drewN ?_ _ | refine blk_drew ?_ | refine blk_alloc ?_ _)); refine blk_put (cs := #[.int .i64 0, .int .i64 0, .bool false, .int .i64 0, .int .i64 0, .int .i64 0, .int .i64 0, .int .i64 0, .string (⟨#[]⟩ : ByteArray)]) ?_ 8 _ rfl; (with_reducible repeat (first | refine blk_drewN ?_ _ | refine blk_drew ?_ | refine blk_alloc ?_ _)); refine blk_put (cs := #[.int .i64 0, .int .i64 0, .bool false, .int .i64 0, .int .i64 0, .int .i64 0, .int .i64 0, .int .i64 0, .string (⟨#[]⟩ : ByteArray)]) ?_ 7 _ rfl; (with_reducible repeat (first | refine blk_drewN ?_ _ | refine blk_drew ?_ | refine blk_alloc ?_ _)); refine blk_put (cs := #[.int .i64 0, .int .i64 0, .bool false, .int .i64 0, .int .i64 0, .int .i64 0, .int .i64 0, .int .i64 0, .string (⟨#[]⟩ : ByteArray)]) ?_ 6 _ rfl; (with_reducible repeat (first | refine blk_drewN ?_ _ | refine blk_drew ?_ | refine blk_alloc ?_ _)); refine blk_put (cs := #[.int .i64 0, .int .i64 0, .bool false, .int .i64 0, .int .i64 0, .int .i64 0, .int .i64 0, .int .i64 0, .string (⟨#[]⟩ : ByteArray)]) ?_ 5 _ rfl; (with_reducible repeat (first | refine blk_drewN ?_ _ | refine blk_drew ?_ | refine blk_alloc ?_ _)); refine blk_put (cs := #[.int .i64 0, .int .i64 0, .bool false, .int .i64 0, .int .i64 0, .int .i64 0, .int .i64 0, .int .i64 0, .string (⟨#[]⟩ : ByteArray)]) ?_ 4 _ rfl; (with_reducible repeat (first | refine blk_drewN ?_ _ | refine blk_drew ?_ | refine blk_alloc ?_ _)); refine blk_put (cs := #[.int .i64 0, .int .i64 0, .bool false, .int .i64 0, .int .i64 0, .int .i64 0, .int .i64 0, .int .i64 0, .string (⟨#[]⟩ : ByteArray)]) ?_ 3 _ rfl; (with_reducible repeat (first | refine blk_drewN ?_ _ | refine blk_drew ?_ | refine blk_alloc ?_ _)); refine blk_put (cs := #[.int .i64 0, .int .i64 0, .bool false, .int .i64 0, .int .i64 0, .int .i64 0, .int .i64 0, .int .i64 0, .string (⟨#[]⟩ : ByteArray)]) ?_ 2 _ rfl; (with_reducible repeat (first | refine blk_drewN ?_ _ | refine blk_drew ?_ | refine blk_alloc ?_ _)); refine blk_put (cs := #[.int .i64 0, .int .i64 0, .bool false, .int .i64 0, .int .i64 0, .int .i64 0, .int .i64 0, .int .i64 0, .string (⟨#[]⟩ : ByteArray)]) ?_ 1 _ rfl; (with_reducible repeat (first | refine blk_drewN ?_ _ | refine blk_drew ?_ | refine blk_alloc ?_ _)); refine blk_put (cs := #[.int .i64 0, .int .i64 0, .bool false, .int .i64 0, .int .i64 0, .int .i64 0, .int .i64 0, .int .i64 0, .string (⟨#[]⟩ : ByteArray)]) ?_ 0 _ rfl; (with_reducible repeat (first | refine blk_drewN ?_ _ | refine blk_drew ?_ | refine blk_alloc ?_ _)); exact BK225.out) Try.underlying25 rfl (by kernel_rfl)) rfl ?_
                exact ⟨by first | rfl | (simp [errW_none, errW_some] <;> rfl) | (simp [*, errW_none, errW_some] <;> rfl), by repeat (first | (with_reducible first | exact HB.out | apply below_alloc | apply pw_below_drewN | apply below_drew1 | refine below_set ?_ GE225.out | refine below_set ?_ GE242.out) | exact HB.out)⟩
            ·rw [if_neg c15] at H
             exact absurd H (by simp)
           ·rw [if_neg c14] at H
            exact absurd H (by simp)
          ·rw [if_neg c13] at H
           exact absurd H (by simp)
         ·rw [if_neg c12] at H
          exact absurd H (by simp)
        ·rw [if_neg c11] at H
         exact absurd H (by simp)
       ·rw [if_neg c10] at H
        exact absurd H (by simp)
      ·rw [if_neg c9] at H
       exact absurd H (by simp)
     ·rw [if_neg c8] at H
      exact absurd H (by simp)
    ·rw [if_neg c7] at H
     exact absurd H (by simp)
   ·rw [if_neg c4] at H
    exact absurd H (by simp)
  ·rw [if_neg c3] at H
   exact absurd H (by simp)
 ·rw [if_neg c2] at H
  have c2b0 : ((l0.length : Int) == 64) = false := beq_eq_false_iff_ne.mpr c2
  have c2b1 : ((l0.length : Int) != 64) = true := bne_iff_ne.mpr c2
  simp only [Option.some.injEq, Prod.mk.injEq] at H
  obtain ⟨rfl, rfl, rfl, rfl, rfl, rfl, rfl, rfl, rfl, rfl⟩ := H
  go_enter Try.func13, Try.ntmps13
  go_wp2_with (first | ((with_reducible refine gate_dst (N := 2) rfl ?_); refine box_event ?hg (N := 2) ?hd (cs := #[.int .i64 0, .int .i64 0, .bool false, .int .i64 0, .int .i64 0, .int .i64 0, .int .i64 0, .int .i64 0, .string (⟨#[]⟩ : ByteArray)]) (t := 25) ?hr ?_; (case hd => rfl); (case hg => rfl); (case hr => first | (go_simp; done) | (go_simp; rfl)); intro gb225 hg w61 hbox hb; have n0_ := Aside0.mk (below_step (by repeat (first | (with_reducible first | exact HB.out | apply below_alloc | apply pw_below_drewN | apply below_drew1) | exact HB.out)) hb); have n1_ := Aside0.mk (hbox); have n2_ := Aside0.mk ((by rw [hg]; exact (below_size (by repeat (first | (with_reducible first | exact HB.out | apply below_alloc | apply pw_below_drewN | apply below_drew1) | exact HB.out))) : w.heap.size ≤ gb225)); have n3_ := Aside0.mk ((by rw [hg]; exact (below_size (by repeat (first | (with_reducible first | exact HB.out | apply below_alloc | apply pw_below_drewN | apply below_drew1) | exact HB.out))) : w.heap.size ≤ gb225)); clear HB; have HB := n0_; have BK225 := n1_; have GW225 := n2_; have GE225 := n3_; clear n0_ n1_ n2_ n3_; clear hb hbox hg; have hcz62_0 : w61.cell? ⟨gb225, 0, none⟩ = some (.int .i64 0) := (blk_cell BK225.out 0).trans rfl; have hcz62_1 : w61.cell? ⟨gb225, 1, none⟩ = some (.int .i64 0) := (blk_cell BK225.out 1).trans rfl; have hcz62_2 : w61.cell? ⟨gb225, 2, none⟩ = some (.bool false) := (blk_cell BK225.out 2).trans rfl; have hcz62_3 : w61.cell? ⟨gb225, 3, none⟩ = some (.int .i64 0) := (blk_cell BK225.out 3).trans rfl; have hcz62_4 : w61.cell? ⟨gb225, 4, none⟩ = some (.int .i64 0) := (blk_cell BK225.out 4).trans rfl; have hcz62_5 : w61.cell? ⟨gb225, 5, none⟩ = some (.int .i64 0) := (blk_cell BK225.out 5).trans rfl; have hcz62_6 : w61.cell? ⟨gb225, 6, none⟩ = some (.int .i64 0) := (blk_cell BK225.out 6).trans rfl; have hcz62_7 : w61.cell? ⟨gb225, 7, none⟩ = some (.int .i64 0) := (blk_cell BK225.out 7).trans rfl; have hcz62_8 : w61.cell? ⟨gb225, 8, none⟩ = some (.string (⟨#[]⟩ : ByteArray)) := (blk_cell BK225.out 8).trans rfl; have hfz62_0 := blk_frozen BK225.out 0; have hfz62_1 := blk_frozen BK225.out 1; have hfz62_2 := blk_frozen BK225.out 2; have hfz62_3 := blk_frozen BK225.out 3; have hfz62_4 := blk_frozen BK225.out 4; have hfz62_5 := blk_frozen BK225.out 5; have hfz62_6 := blk_frozen BK225.out 6; have hfz62_7 := blk_frozen BK225.out 7; have hfz62_8 := blk_frozen BK225.out 8))
  refine bodyPost_ret (results_ct rfl _ _ gb225 25 #[.int .i64 0, .int .i64 0, .bool false, .int .i64 0, .int .i64 0, .int .i64 0, .int .i64 0, .int .i64 0, .string (⟨#[]⟩ : ByteArray)] (0, 0) _ rfl (by (with_reducible repeat (first | refine blk_drewN ?_ _ | refine blk_drew ?_ | refine blk_alloc ?_ _)); refine blk_put (cs := #[.int .i64 0, .int .i64 0, .bool false, .int .i64 0, .int .i64 0, .int .i64 0, .int .i64 0, .int .i64 0, .string (⟨#[]⟩ : ByteArray)]) ?_ 8 _ rfl; (with_reducible repeat (first | refine blk_drewN ?_ _ | refine blk_drew ?_ | refine blk_alloc ?_ _)); refine blk_put (cs := #[.int .i64 0, .int .i64 0, .bool false, .int .i64 0, .int .i64 0, .int .i64 0, .int .i64 0, .int .i64 0, .string (⟨#[]⟩ : ByteArray)]) ?_ 7 _ rfl; (with_reducible repeat (first | refine blk_drewN ?_ _ | refine blk_drew ?_ | refine blk_alloc ?_ _)); refine blk_put (cs := #[.int .i64 0, .int .i64 0, .bool false, .int .i64 0, .int .i64 0, .int .i64 0, .int .i64 0, .int .i64 0, .string (⟨#[]⟩ : ByteArray)]) ?_ 6 _ rfl; (with_reducible repeat (first | refine blk_drewN ?_ _ | refine blk_drew ?_ | refine blk_alloc ?_ _)); refine blk_put (cs := #[.int .i64 0, .int .i64 0, .bool false, .int .i64 0, .int .i64 0, .int .i64 0, .int .i64 0, .int .i64 0, .string (⟨#[]⟩ : ByteArray)]) ?_ 5 _ rfl; (with_reducible repeat (first | refine blk_drewN ?_ _ | refine blk_drew ?_ | refine blk_alloc ?_ _)); refine blk_put (cs := #[.int .i64 0, .int .i64 0, .bool false, .int .i64 0, .int .i64 0, .int .i64 0, .int .i64 0, .int .i64 0, .string (⟨#[]⟩ : ByteArray)]) ?_ 4 _ rfl; (with_reducible repeat (first | refine blk_drewN ?_ _ | refine blk_drew ?_ | refine blk_alloc ?_ _)); refine blk_put (cs := #[.int .i64 0, .int .i64 0, .bool false, .int .i64 0, .int .i64 0, .int .i64 0, .int .i64 0, .int .i64 0, .string (⟨#[]⟩ : ByteArray)]) ?_ 3 _ rfl; (with_reducible repeat (first | refine blk_drewN ?_ _ | refine blk_drew ?_ | refine blk_alloc ?_ _)); refine blk_put (cs := #[.int .i64 0, .int .i64 0, .bool false, .int .i64 0, .int .i64 0, .int .i64 0, .int .i64 0, .int .i64 0, .string (⟨#[]⟩ : ByteArray)]) ?_ 2 _ rfl; (with_reducible repeat (first | refine blk_drewN ?_ _ | refine blk_drew ?_ | refine blk_alloc ?_ _)); refine blk_put (cs := #[.int .i64 0, .int .i64 0, .bool false, .int .i64 0, .int .i64 0, .int .i64 0, .int .i64 0, .int .i64 0, .string (⟨#[]⟩ : ByteArray)]) ?_ 1 _ rfl; (with_reducible repeat (first | refine blk_drewN ?_ _ | refine blk_drew ?_ | refine blk_alloc ?_ _)); refine blk_put (cs := #[.int .i64 0, .int .i64 0, .bool false, .int .i64 0, .int .i64 0, .int .i64 0, .int .i64 0, .int .i64 0, .string (⟨#[]⟩ : ByteArray)]) ?_ 0 _ rfl; (with_reducible repeat (first | refine blk_drewN ?_ _ | refine blk_drew ?_ | refine blk_alloc ?_ _)); exact BK225.out) Try.underlying25 rfl (by kernel_rfl)) rfl ?_
  exact ⟨by first | rfl | (simp [errW_none, errW_some] <;> rfl) | (simp [*, errW_none, errW_some] <;> rfl), by repeat (first | (with_reducible first | exact HB.out | apply below_alloc | apply pw_below_drewN | apply below_drew1 | refine below_set ?_ GE225.out) | exact HB.out)⟩

end Go.Proofs.Ytjfdjbmahahllaa.QLine
