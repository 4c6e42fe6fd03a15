/- Written by a program of this session (wip/tools/mk.py) out of the kit's printing programs and of texts of our own: the contracts of the Go functions that the law goes through, and the row of the law. No condition is added. -/
import Derived.Test.YtjfdjbmahahllaaQLinex0
import Derived.Test.YtjfdjbmahahllaaQLinex6
import Derived.Test.YtjfdjbmahahllaaQLinex9
/- tight -/
namespace Go.Proofs.Ytjfdjbmahahllaa.QLine
open Go.RowKit Go.Proofs.YtjfdjbmahahllaaW.PrintWords Go.Proofs.YtjfdjbmahahllaaW.PrintLast Go.Proofs.YtjfdjbmahahllaaW.PrintMore
attribute [local go_sem] max2_int min2_int max_two min_two max_three min_three max_four min_four   -- for this text's walks alone
set_option linter.unusedVariables false
set_option linter.unusedSimpArgs false

attribute [local go_sem] min_seven
/-! ### stowageref15_Decode: function 14 -/
def stowageref15_Decode.j0 : Nat → List Int → Int → Int → Bool → Int → Int → Int → Int → Int → ByteArray → Option (Int × Int × Bool × Int × Int × Int × Int × Int × ByteArray × Int)
 | 0, _, _, _, _, _, _, _, _, _, _ => none
 | k + 1, x0, x296000, x296001, x296002, x296003, x296004, x296005, x296006, x296007, x296008 => (stowageref15_Encode.f k x296000 x296001 x296002 x296003 x296004 x296005 x296006 x296007 x296008).bind fun bt298 => (if bt298.2 = 0 then (if (strOfNums bt298.1).toList = (strOfNums x0).toList then (some (x296000, x296001, x296002, x296003, x296004, x296005, x296006, x296007, x296008, 0)) else (some (0, 0, false, 0, 0, 0, 0, 0, (⟨#[]⟩ : ByteArray), 2))) else (some (0, 0, false, 0, 0, 0, 0, 0, (⟨#[]⟩ : ByteArray), 2)))
def stowageref15_Decode.f (k : Nat) (l0 : List Int) : Option (Int × Int × Bool × Int × Int × Int × Int × Int × ByteArray × Int) := if (l0.length : Int) = 64 then (if 2 ≤ 6 then (if 6 ≤ (l0.length : Int) then ((stowageref15_get.f k ((l0.take 6).drop 2)).bind fun t281 => (if 6 ≤ 10 then (if 10 ≤ (l0.length : Int) then ((stowageref15_get.f k ((l0.take 10).drop 6)).bind fun t283 => (if 10 < (l0.length : Int) then (if 11 ≤ 12 then (if 12 ≤ (l0.length : Int) then ((stowageref15_get.f k ((l0.take 12).drop 11)).bind fun t286 => (if 12 ≤ 19 then (if 19 ≤ (l0.length : Int) then ((stowageref15_get.f k ((l0.take 19).drop 12)).bind fun t288 => (if 19 ≤ 26 then (if 26 ≤ (l0.length : Int) then ((stowageref15_get.f k ((l0.take 26).drop 19)).bind fun t290 => (if 26 ≤ 33 then (if 33 ≤ (l0.length : Int) then ((stowageref15_get.f k ((l0.take 33).drop 26)).bind fun t292 => (if 33 ≤ 40 then (if 40 ≤ (l0.length : Int) then ((stowageref15_get.f k ((l0.take 40).drop 33)).bind fun t294 => (if 40 < (l0.length : Int) then (if (rd l0 40) = 16 then (if 41 ≤ 57 then (if 57 ≤ (l0.length : Int) then (stowageref15_Decode.j0 k l0 t281 t283 ((rd l0 10) == 1) t286 t288 t290 t292 t294 (strOfNums ((l0.take 57).drop 41))) else (none)) else (none)) else (stowageref15_Decode.j0 k l0 t281 t283 ((rd l0 10) == 1) t286 t288 t290 t292 t294 (⟨#[]⟩ : ByteArray))) else (none))) else (none)) else (none))) else (none)) else (none))) else (none)) else (none))) else (none)) else (none))) else (none)) else (none)) else (none))) else (none)) else (none))) else (none)) else (none)) else (some (0, 0, false, 0, 0, 0, 0, 0, (⟨#[]⟩ : ByteArray), 2))
theorem stowageref15_Decode.mono_l : ∀ k, (∀ y0 y1 y2 y3 y4 y5 y6 y7 y8 y9, LeO (stowageref15_Decode.j0 k y0 y1 y2 y3 y4 y5 y6 y7 y8 y9) (stowageref15_Decode.j0 (k + 1) y0 y1 y2 y3 y4 y5 y6 y7 y8 y9))
 | 0 => fun _ _ _ _ _ _ _ _ _ _ r h => by simp [stowageref15_Decode.j0] at h
 | k + 1 => by
  have ih0 := stowageref15_Decode.mono_l k
  ·intro y0 y1 y2 y3 y4 y5 y6 y7 y8 y9
   unfold stowageref15_Decode.j0
   repeat' first
   | (with_reducible exact ih0 _ _ _ _ _ _ _ _ _ _)
   | (with_reducible exact stowageref15_Encode.mono _ _ _ _ _ _ _ _ _ _)
   | (with_reducible exact stowageref15_get.mono _ _)
   | (with_reducible exact LeO.refl _)
   | (with_reducible exact LeO.none _)
   | (with_reducible refine LeO.ite ?_ ?_)
   | (with_reducible refine LeO.bind ?_ (fun _ => ?_))
   | exact ih0 _ _ _ _ _ _ _ _ _ _
   | exact stowageref15_Encode.mono _ _ _ _ _ _ _ _ _ _
   | exact stowageref15_get.mono _ _
   | exact LeO.none _
   | refine LeO.ite ?_ ?_
   | refine LeO.bind ?_ (fun _ => ?_)
theorem stowageref15_Decode.mono : ∀ a0 k, LeO (stowageref15_Decode.f k a0) (stowageref15_Decode.f (k + 1) a0) := by
 intro a0 k
 have ih0 := stowageref15_Decode.mono_l k
 unfold stowageref15_Decode.f
 repeat' first
   | (with_reducible exact ih0 _ _ _ _ _ _ _ _ _ _)
   | (with_reducible exact stowageref15_Encode.mono _ _ _ _ _ _ _ _ _ _)
   | (with_reducible exact stowageref15_get.mono _ _)
   | (with_reducible exact LeO.refl _)
   | (with_reducible exact LeO.none _)
   | (with_reducible refine LeO.ite ?_ ?_)
   | (with_reducible refine LeO.bind ?_ (fun _ => ?_))
   | exact ih0 _ _ _ _ _ _ _ _ _ _
   | exact stowageref15_Encode.mono _ _ _ _ _ _ _ _ _ _
   | exact stowageref15_get.mono _ _
   | exact LeO.none _
   | refine LeO.ite ?_ ?_
   | refine LeO.bind ?_ (fun _ => ?_)
def stowageref15_Decode.T3 : Bool × List (List Nat × List Nat) := (true, [([], []), ([0], [0]), ([1], [1]), ([], []), ([3], [3]), ([4, 2], [4]), ([], []), ([6], [6]), ([7], [7]), ([8], [8]), ([], []), ([10], [10]), ([11, 5], [11]), ([], []), ([13], [13]), ([14, 12], [14]), ([], []), ([16], [16]), ([17, 15], [17]), ([], []), ([19], [19]), ([20, 18], [20]), ([], []), ([22], [22]), ([23, 21], [23]), ([12, 15, 18, 21, 24], [12, 15, 18, 21, 24]), ([2, 5, 9, 25], [2, 5, 9, 25]), ([], []), ([27, 26, 24, 0, 1, 2, 3, 4, 5, 6, 7, 8, 9, 10, 11, 12, 13, 14, 15, 16, 17, 18, 19, 20, 21, 22, 23, 24, 25, 26, 27], [26, 27])])
def stowageref15_Decode.B3 : List Nat := [0, 1, 3, 0, 8, 31, 0, 64, 192, 448, 0, 1024, 3135, 0, 8192, 31807, 0, 65536, 261183, 0, 524288, 2096191, 0, 4194304, 16776255, 33553471, 67108863, 0, 268435455]
theorem stowageref15_Decode.tab3 : rtab .any (opsOf Try.f14 3) = stowageref15_Decode.T3 := by kernel_rfl
theorem stowageref15_Decode.bits3 : waitsOk stowageref15_Decode.T3.2 stowageref15_Decode.B3 = true := by kernel_rfl
set_option maxHeartbeats 8000000 in
set_option maxRecDepth 100000 in
theorem stowageref15_Decode.calls (k : Nat) (A0 : Option Addr) (c0 : Nat) (l0 : List Int) (r1 : Int) (r2 : Int) (r3 : Bool) (r4 : Int) (r5 : Int) (r6 : Int) (r7 : Int) (r8 : Int) (r9 : ByteArray) (r10 : Int) (w : World) (hr0 : Kd.C (Kd.int .u8) w A0 l0.length l0) (hc0 : l0.length ≤ c0) (h : stowageref15_Decode.f k l0 = some (r1, r2, r3, r4, r5, r6, r7, r8, r9, r10)) :
  Calls Try.prog 14 #[.slice A0 l0.length c0] w fun e w' => e = .returned (.tuple #[.agg #[.int .i64 r1, .int .i64 r2, .bool r3, .int .i64 r4, .int .i64 r5, .int .i64 r6, .int .i64 r7, .int .i64 r8, .string r9], .int .i64 r10]) ∧ Below w.heap.size w w' := by
 have hu25 := Try.underlying25
 have hu23 := Try.underlying23
 have HR0 := Aside0.mk hr0
 have HC0 := Aside0.mk hc0
 clear hr0 hc0
 have HB := Aside0.mk (Below.refl w.heap.size w)
 have H : (if (l0.length : Int) = 64 then (if 2 ≤ 6 then (if 6 ≤ (l0.length : Int) then ((stowageref15_get.f k ((l0.take 6).drop 2)).bind fun t281 => (if 6 ≤ 10 then (if 10 ≤ (l0.length : Int) then ((stowageref15_get.f k ((l0.take 10).drop 6)).bind fun t283 => (if 10 < (l0.length : Int) then (if 11 ≤ 12 then (if 12 ≤ (l0.length : Int) then ((stowageref15_get.f k ((l0.take 12).drop 11)).bind fun t286 => (if 12 ≤ 19 then (if 19 ≤ (l0.length : Int) then ((stowageref15_get.f k ((l0.take 19).drop 12)).bind fun t288 => (if 19 ≤ 26 then (if 26 ≤ (l0.length : Int) then ((stowageref15_get.f k ((l0.take 26).drop 19)).bind fun t290 => (if 26 ≤ 33 then (if 33 ≤ (l0.length : Int) then ((stowageref15_get.f k ((l0.take 33).drop 26)).bind fun t292 => (if 33 ≤ 40 then (if 40 ≤ (l0.length : Int) then ((stowageref15_get.f k ((l0.take 40).drop 33)).bind fun t294 => (if 40 < (l0.length : Int) then (if (rd l0 40) = 16 then (if 41 ≤ 57 then (if 57 ≤ (l0.length : Int) then (stowageref15_Decode.j0 k l0 t281 t283 ((rd l0 10) == 1) t286 t288 t290 t292 t294 (strOfNums ((l0.take 57).drop 41))) else (none)) else (none)) else (stowageref15_Decode.j0 k l0 t281 t283 ((rd l0 10) == 1) t286 t288 t290 t292 t294 (⟨#[]⟩ : ByteArray))) else (none))) else (none)) else (none))) else (none)) else (none))) else (none)) else (none))) else (none)) else (none))) else (none)) else (none)) else (none))) else (none)) else (none))) else (none)) else (none)) else (some (0, 0, false, 0, 0, 0, 0, 0, (⟨#[]⟩ : ByteArray), 2))) = some (r1, r2, r3, r4, r5, r6, r7, r8, r9, r10) := h
 clear h
 by_cases c2 : (l0.length : Int) = 64
 ·rw [if_pos c2] at H
  have c2b0 : ((l0.length : Int) == 64) = true := beq_iff_eq.mpr c2
  have c2b1 : ((l0.length : Int) != 64) = false := bne_eq_false_iff_eq.mpr c2
  clear c2
  by_cases c3 : 2 ≤ 6
  ·rw [if_pos c3] at H
   have c3b0 := eq_true c3
   have c3b1 : decide (2 ≤ 6) = true := decide_eq_true c3
   clear c3
   by_cases c4 : 6 ≤ (l0.length : Int)
   ·rw [if_pos c4] at H
    have c4b0 := eq_true c4
    have c4b1 : decide (6 ≤ (l0.length : Int)) = true := decide_eq_true c4
    clear c4
    replace H := Option.bind_eq_some_iff.mp H
    obtain ⟨t281, A50, H⟩ := H
    replace H : (if 6 ≤ 10 then (if 10 ≤ (l0.length : Int) then ((stowageref15_get.f k ((l0.take 10).drop 6)).bind fun t283 => (if 10 < (l0.length : Int) then (if 11 ≤ 12 then (if 12 ≤ (l0.length : Int) then ((stowageref15_get.f k ((l0.take 12).drop 11)).bind fun t286 => (if 12 ≤ 19 then (if 19 ≤ (l0.length : Int) then ((stowageref15_get.f k ((l0.take 19).drop 12)).bind fun t288 => (if 19 ≤ 26 then (if 26 ≤ (l0.length : Int) then ((stowageref15_get.f k ((l0.take 26).drop 19)).bind fun t290 => (if 26 ≤ 33 then (if 33 ≤ (l0.length : Int) then ((stowageref15_get.f k ((l0.take 33).drop 26)).bind fun t292 => (if 33 ≤ 40 then (if 40 ≤ (l0.length : Int) then ((stowageref15_get.f k ((l0.take 40).drop 33)).bind fun t294 => (if 40 < (l0.length : Int) then (if (rd l0 40) = 16 then (if 41 ≤ 57 then (if 57 ≤ (l0.length : Int) then (stowageref15_Decode.j0 k l0 t281 t283 ((rd l0 10) == 1) t286 t288 t290 t292 t294 (strOfNums ((l0.take 57).drop 41))) else (none)) else (none)) else (stowageref15_Decode.j0 k l0 t281 t283 ((rd l0 10) == 1) t286 t288 t290 t292 t294 (⟨#[]⟩ : ByteArray))) else (none))) else (none)) else (none))) else (none)) else (none))) else (none)) else (none))) else (none)) else (none))) else (none)) else (none)) else (none))) else (none)) else (none)) = some (r1, r2, r3, r4, r5, r6, r7, r8, r9, r10) := H
    have A5 := Aside0.mk A50
    clear A50
    by_cases c6 : 6 ≤ 10
    ·rw [if_pos c6] at H
     have c6b0 := eq_true c6
     have c6b1 : decide (6 ≤ 10) = true := decide_eq_true c6
     clear c6
     by_cases c7 : 10 ≤ (l0.length : Int)
     ·rw [if_pos c7] at H
      have c7b0 := eq_true c7
      have c7b1 : decide (10 ≤ (l0.length : Int)) = true := decide_eq_true c7
      clear c7
      replace H := Option.bind_eq_some_iff.mp H
      obtain ⟨t283, A80, H⟩ := H
      replace H : (if 10 < (l0.length : Int) then (if 11 ≤ 12 then (if 12 ≤ (l0.length : Int) then ((stowageref15_get.f k ((l0.take 12).drop 11)).bind fun t286 => (if 12 ≤ 19 then (if 19 ≤ (l0.length : Int) then ((stowageref15_get.f k ((l0.take 19).drop 12)).bind fun t288 => (if 19 ≤ 26 then (if 26 ≤ (l0.length : Int) then ((stowageref15_get.f k ((l0.take 26).drop 19)).bind fun t290 => (if 26 ≤ 33 then (if 33 ≤ (l0.length : Int) then ((stowageref15_get.f k ((l0.take 33).drop 26)).bind fun t292 => (if 33 ≤ 40 then (if 40 ≤ (l0.length : Int) then ((stowageref15_get.f k ((l0.take 40).drop 33)).bind fun t294 => (if 40 < (l0.length : Int) then (if (rd l0 40) = 16 then (if 41 ≤ 57 then (if 57 ≤ (l0.length : Int) then (stowageref15_Decode.j0 k l0 t281 t283 ((rd l0 10) == 1) t286 t288 t290 t292 t294 (strOfNums ((l0.take 57).drop 41))) else (none)) else (none)) else (stowageref15_Decode.j0 k l0 t281 t283 ((rd l0 10) == 1) t286 t288 t290 t292 t294 (⟨#[]⟩ : ByteArray))) else (none))) else (none)) else (none))) else (none)) else (none))) else (none)) else (none))) else (none)) else (none))) else (none)) else (none)) else (none)) = some (r1, r2, r3, r4, r5, r6, r7, r8, r9, r10) := H
      have A8 := Aside0.mk A80
      clear A80
      by_cases c9 : 10 < (l0.length : Int)
      ·rw [if_pos c9] at H
       have c9b0 : decide (10 < (l0.length : Int)) = true := decide_eq_true c9
       have c9b1 : decide (10 < l0.length) = true := decide_eq_true (by omega)
       clear c9
       by_cases c10 : 11 ≤ 12
       ·rw [if_pos c10] at H
        have c10b0 := eq_true c10
        have c10b1 : decide (11 ≤ 12) = true := decide_eq_true c10
        clear c10
        by_cases c11 : 12 ≤ (l0.length : Int)
        ·rw [if_pos c11] at H
         have c11b0 := eq_true c11
         have c11b1 : decide (12 ≤ (l0.length : Int)) = true := decide_eq_true c11
         clear c11
         replace H := Option.bind_eq_some_iff.mp H
         obtain ⟨t286, A120, H⟩ := H
         replace H : (if 12 ≤ 19 then (if 19 ≤ (l0.length : Int) then ((stowageref15_get.f k ((l0.take 19).drop 12)).bind fun t288 => (if 19 ≤ 26 then (if 26 ≤ (l0.length : Int) then ((stowageref15_get.f k ((l0.take 26).drop 19)).bind fun t290 => (if 26 ≤ 33 then (if 33 ≤ (l0.length : Int) then ((stowageref15_get.f k ((l0.take 33).drop 26)).bind fun t292 => (if 33 ≤ 40 then (if 40 ≤ (l0.length : Int) then ((stowageref15_get.f k ((l0.take 40).drop 33)).bind fun t294 => (if 40 < (l0.length : Int) then (if (rd l0 40) = 16 then (if 41 ≤ 57 then (if 57 ≤ (l0.length : Int) then (stowageref15_Decode.j0 k l0 t281 t283 ((rd l0 10) == 1) t286 t288 t290 t292 t294 (strOfNums ((l0.take 57).drop 41))) else (none)) else (none)) else (stowageref15_Decode.j0 k l0 t281 t283 ((rd l0 10) == 1) t286 t288 t290 t292 t294 (⟨#[]⟩ : ByteArray))) else (none))) else (none)) else (none))) else (none)) else (none))) else (none)) else (none))) else (none)) else (none)) = some (r1, r2, r3, r4, r5, r6, r7, r8, r9, r10) := H
         have A12 := Aside0.mk A120
         clear A120
         by_cases c13 : 12 ≤ 19
         ·rw [if_pos c13] at H
          have c13b0 := eq_true c13
          have c13b1 : decide (12 ≤ 19) = true := decide_eq_true c13
          clear c13
          by_cases c14 : 19 ≤ (l0.length : Int)
          ·rw [if_pos c14] at H
           have c14b0 := eq_true c14
           have c14b1 : decide (19 ≤ (l0.length : Int)) = true := decide_eq_true c14
           clear c14
           replace H := Option.bind_eq_some_iff.mp H
           obtain ⟨t288, A150, H⟩ := H
           replace H : (if 19 ≤ 26 then (if 26 ≤ (l0.length : Int) then ((stowageref15_get.f k ((l0.take 26).drop 19)).bind fun t290 => (if 26 ≤ 33 then (if 33 ≤ (l0.length : Int) then ((stowageref15_get.f k ((l0.take 33).drop 26)).bind fun t292 => (if 33 ≤ 40 then (if 40 ≤ (l0.length : Int) then ((stowageref15_get.f k ((l0.take 40).drop 33)).bind fun t294 => (if 40 < (l0.length : Int) then (if (rd l0 40) = 16 then (if 41 ≤ 57 then (if 57 ≤ (l0.length : Int) then (stowageref15_Decode.j0 k l0 t281 t283 ((rd l0 10) == 1) t286 t288 t290 t292 t294 (strOfNums ((l0.take 57).drop 41))) else (none)) else (none)) else (stowageref15_Decode.j0 k l0 t281 t283 ((rd l0 10) == 1) t286 t288 t290 t292 t294 (⟨#[]⟩ : ByteArray))) else (none))) else (none)) else (none))) else (none)) else (none))) else (none)) else (none)) = some (r1, r2, r3, r4, r5, r6, r7, r8, r9, r10) := H
           have A15 := Aside0.mk A150
           clear A150
           by_cases c16 : 19 ≤ 26
           ·rw [if_pos c16] at H
            have c16b0 := eq_true c16
            have c16b1 : decide (19 ≤ 26) = true := decide_eq_true c16
            clear c16
            by_cases c17 : 26 ≤ (l0.length : Int)
            ·rw [if_pos c17] at H
             have c17b0 := eq_true c17
             have c17b1 : decide (26 ≤ (l0.length : Int)) = true := decide_eq_true c17
             clear c17
             replace H := Option.bind_eq_some_iff.mp H
             obtain ⟨t290, A180, H⟩ := H
             replace H : (if 26 ≤ 33 then (if 33 ≤ (l0.length : Int) then ((stowageref15_get.f k ((l0.take 33).drop 26)).bind fun t292 => (if 33 ≤ 40 then (if 40 ≤ (l0.length : Int) then ((stowageref15_get.f k ((l0.take 40).drop 33)).bind fun t294 => (if 40 < (l0.length : Int) then (if (rd l0 40) = 16 then (if 41 ≤ 57 then (if 57 ≤ (l0.length : Int) then (stowageref15_Decode.j0 k l0 t281 t283 ((rd l0 10) == 1) t286 t288 t290 t292 t294 (strOfNums ((l0.take 57).drop 41))) else (none)) else (none)) else (stowageref15_Decode.j0 k l0 t281 t283 ((rd l0 10) == 1) t286 t288 t290 t292 t294 (⟨#[]⟩ : ByteArray))) else (none))) else (none)) else (none))) else (none)) else (none)) = some (r1, r2, r3, r4, r5, r6, r7, r8, r9, r10) := H
             have A18 := Aside0.mk A180
             clear A180
             by_cases c19 : 26 ≤ 33
             ·rw [if_pos c19] at H
              have c19b0 := eq_true c19
              have c19b1 : decide (26 ≤ 33) = true := decide_eq_true c19
              clear c19
              by_cases c20 : 33 ≤ (l0.length : Int)
              ·rw [if_pos c20] at H
               have c20b0 := eq_true c20
               have c20b1 : decide (33 ≤ (l0.length : Int)) = true := decide_eq_true c20
               clear c20
               replace H := Option.bind_eq_some_iff.mp H
               obtain ⟨t292, A210, H⟩ := H
               replace H : (if 33 ≤ 40 then (if 40 ≤ (l0.length : Int) then ((stowageref15_get.f k ((l0.take 40).drop 33)).bind fun t294 => (if 40 < (l0.length : Int) then (if (rd l0 40) = 16 then (if 41 ≤ 57 then (if 57 ≤ (l0.length : Int) then (stowageref15_Decode.j0 k l0 t281 t283 ((rd l0 10) == 1) t286 t288 t290 t292 t294 (strOfNums ((l0.take 57).drop 41))) else (none)) else (none)) else (stowageref15_Decode.j0 k l0 t281 t283 ((rd l0 10) == 1) t286 t288 t290 t292 t294 (⟨#[]⟩ : ByteArray))) else (none))) else (none)) else (none)) = some (r1, r2, r3, r4, r5, r6, r7, r8, r9, r10) := H
               have A21 := Aside0.mk A210
               clear A210
               by_cases c22 : 33 ≤ 40
               ·rw [if_pos c22] at H
                have c22b0 := eq_true c22
                have c22b1 : decide (33 ≤ 40) = true := decide_eq_true c22
                clear c22
                by_cases c23 : 40 ≤ (l0.length : Int)
                ·rw [if_pos c23] at H
                 have c23b0 := eq_true c23
                 have c23b1 : decide (40 ≤ (l0.length : Int)) = true := decide_eq_true c23
                 clear c23
                 replace H := Option.bind_eq_some_iff.mp H
                 obtain ⟨t294, A240, H⟩ := H
                 replace H : (if 40 < (l0.length : Int) then (if (rd l0 40) = 16 then (if 41 ≤ 57 then (if 57 ≤ (l0.length : Int) then (stowageref15_Decode.j0 k l0 t281 t283 ((rd l0 10) == 1) t286 t288 t290 t292 t294 (strOfNums ((l0.take 57).drop 41))) else (none)) else (none)) else (stowageref15_Decode.j0 k l0 t281 t283 ((rd l0 10) == 1) t286 t288 t290 t292 t294 (⟨#[]⟩ : ByteArray))) else (none)) = some (r1, r2, r3, r4, r5, r6, r7, r8, r9, r10) := H
                 have A24 := Aside0.mk A240
                 clear A240
                 by_cases c25 : 40 < (l0.length : Int)
                 ·rw [if_pos c25] at H
                  have c25b0 : decide (40 < (l0.length : Int)) = true := decide_eq_true c25
                  have c25b1 : decide (40 < l0.length) = true := decide_eq_true (by omega)
                  clear c25
                  have HC26 := Aside0.mk H
                  clear H
                  go_enter Try.func14, Try.ntmps14
                  try go_wp2_with (first | ((with_reducible refine gate_dst (N := 2) rfl ?_); refine box_event ?hg (N := 2) ?hd (cs := #[.int .i64 0, .int .i64 0, .bool false, .int .i64 0, .int .i64 0, .int .i64 0, .int .i64 0, .int .i64 0, .string (⟨#[]⟩ : ByteArray)]) (t := 25) ?hr ?_; (case hd => rfl); (case hg => rfl); (case hr => first | (go_simp; done) | (go_simp; rfl)); intro gb279 hg w27 hbox hb; have n0_ := Aside0.mk (below_step (by repeat (first | (with_reducible first | exact HB.out | apply below_alloc | apply pw_below_drewN | apply below_drew1) | exact HB.out)) hb); have n1_ := Aside0.mk (hbox); have n2_ := Aside0.mk ((by rw [hg]; exact (below_size (by repeat (first | (with_reducible first | exact HB.out | apply below_alloc | apply pw_below_drewN | apply below_drew1) | exact HB.out))) : w.heap.size ≤ gb279)); have n3_ := Aside0.mk ((by rw [hg]; exact (below_size (by repeat (first | (with_reducible first | exact HB.out | apply below_alloc | apply pw_below_drewN | apply below_drew1) | exact HB.out))) : w.heap.size ≤ gb279)); clear HB; have HB := n0_; have BK279 := n1_; have GW279 := n2_; have GE279 := n3_; clear n0_ n1_ n2_ n3_; clear hb hbox hg))
                  have n0_ := Aside0.mk (blk_drew BK279.out)
                  have n1_ := Aside0.mk (below_drew1 HB.out)
                  clear BK279
                  clear HB
                  have BK279 := n0_
                  have HB := n1_
                  clear n0_ n1_
                  obtain ⟨i029, hi029, _, hsz29, _⟩ := info_parts info5
                  obtain ⟨A29, hcut29, hA29, hC29⟩ := print_mid_of (P := Try.prog) (Value.int .u8) 0 26 5 .i64 .i64 Try.underlying26 hi029 hsz29 A0 c0 l0 2 6 (by omega) (by first | omega | exact of_decide_eq_true (by first | (with_reducible assumption) | assumption)) (of_decide_eq_true (by first | (with_reducible assumption) | assumption)) HC0.out
                  have HR280 := Aside0.mk (Kd.C_of_reads (h1 := fun _ => rfl) (hA29 _ (Kd.reads_of_C HR0.out)))
                  have HC280 := Aside0.mk hC29
                  clear hA29 hC29 hi029 hsz29
                  obtain ⟨i030, hi030, _, hsz30, _⟩ := info_parts info5
                  obtain ⟨A30, hcut30, hA30, hC30⟩ := print_mid_of (P := Try.prog) (Value.int .u8) 0 26 5 .i64 .i64 Try.underlying26 hi030 hsz30 A0 c0 l0 6 10 (by omega) (by first | omega | exact of_decide_eq_true (by first | (with_reducible assumption) | assumption)) (of_decide_eq_true (by first | (with_reducible assumption) | assumption)) HC0.out
                  have HR282 := Aside0.mk (Kd.C_of_reads (h1 := fun _ => rfl) (hA30 _ (Kd.reads_of_C HR0.out)))
                  have HC282 := Aside0.mk hC30
                  clear hA30 hC30 hi030 hsz30
                  have p284 : 0 ≤ (10 : Int) := (by omega)
                  have q284 : 10 < (l0.length : Int) := of_decide_eq_true (by first | (with_reducible assumption) | assumption)
                  obtain ⟨ad284, e284, hx284_0⟩ := Kd.at_int HR0.out 10 p284 q284
                  have hw284_0 := hx284_0
                  (try rw [show ((10 : Int)).toNat = 10 from rfl] at hw284_0)
                  (try rw [show 10 * 1 = 10 from rfl] at hw284_0)
                  (try simp only [Nat.reduceMul, Nat.reduceEqDiff, Go.Addr.add, ↓reduceIte] at hw284_0)
                  cases e284
                  (try simp only [show (10 : Int).toNat = 10 from rfl, Nat.reduceMul, Nat.reduceEqDiff, Go.Addr.add, ↓reduceIte] at hx284_0)
                  have qi284 : (10 < l0.length) = True := eq_true (by omega)
                  (try rw [show ((10 : Int)).toNat = 10 from rfl] at hx284_0)
                  replace hx284_0 := (HB.out.cell (World.block_lt_of_cell? w _ hx284_0)).trans hx284_0
                  replace p284 := eq_true p284
                  replace q284 := eq_true q284
                  obtain ⟨i031, hi031, _, hsz31, _⟩ := info_parts info5
                  obtain ⟨A31, hcut31, hA31, hC31⟩ := print_mid_of (P := Try.prog) (Value.int .u8) 0 26 5 .i64 .i64 Try.underlying26 hi031 hsz31 (some ad284) c0 l0 11 12 (by omega) (by first | omega | exact of_decide_eq_true (by first | (with_reducible assumption) | assumption)) (of_decide_eq_true (by first | (with_reducible assumption) | assumption)) HC0.out
                  have HR285 := Aside0.mk (Kd.C_of_reads (h1 := fun _ => rfl) (hA31 _ (Kd.reads_of_C HR0.out)))
                  have HC285 := Aside0.mk hC31
                  clear hA31 hC31 hi031 hsz31
                  obtain ⟨i032, hi032, _, hsz32, _⟩ := info_parts info5
                  obtain ⟨A32, hcut32, hA32, hC32⟩ := print_mid_of (P := Try.prog) (Value.int .u8) 0 26 5 .i64 .i64 Try.underlying26 hi032 hsz32 (some ad284) c0 l0 12 19 (by omega) (by first | omega | exact of_decide_eq_true (by first | (with_reducible assumption) | assumption)) (of_decide_eq_true (by first | (with_reducible assumption) | assumption)) HC0.out
                  have HR287 := Aside0.mk (Kd.C_of_reads (h1 := fun _ => rfl) (hA32 _ (Kd.reads_of_C HR0.out)))
                  have HC287 := Aside0.mk hC32
                  clear hA32 hC32 hi032 hsz32
                  obtain ⟨i033, hi033, _, hsz33, _⟩ := info_parts info5
                  obtain ⟨A33, hcut33, hA33, hC33⟩ := print_mid_of (P := Try.prog) (Value.int .u8) 0 26 5 .i64 .i64 Try.underlying26 hi033 hsz33 (some ad284) c0 l0 19 26 (by omega) (by first | omega | exact of_decide_eq_true (by first | (with_reducible assumption) | assumption)) (of_decide_eq_true (by first | (with_reducible assumption) | assumption)) HC0.out
                  have HR289 := Aside0.mk (Kd.C_of_reads (h1 := fun _ => rfl) (hA33 _ (Kd.reads_of_C HR0.out)))
                  have HC289 := Aside0.mk hC33
                  clear hA33 hC33 hi033 hsz33
                  obtain ⟨i034, hi034, _, hsz34, _⟩ := info_parts info5
                  obtain ⟨A34, hcut34, hA34, hC34⟩ := print_mid_of (P := Try.prog) (Value.int .u8) 0 26 5 .i64 .i64 Try.underlying26 hi034 hsz34 (some ad284) c0 l0 26 33 (by omega) (by first | omega | exact of_decide_eq_true (by first | (with_reducible assumption) | assumption)) (of_decide_eq_true (by first | (with_reducible assumption) | assumption)) HC0.out
                  have HR291 := Aside0.mk (Kd.C_of_reads (h1 := fun _ => rfl) (hA34 _ (Kd.reads_of_C HR0.out)))
                  have HC291 := Aside0.mk hC34
                  clear hA34 hC34 hi034 hsz34
                  obtain ⟨i035, hi035, _, hsz35, _⟩ := info_parts info5
                  obtain ⟨A35, hcut35, hA35, hC35⟩ := print_mid_of (P := Try.prog) (Value.int .u8) 0 26 5 .i64 .i64 Try.underlying26 hi035 hsz35 (some ad284) c0 l0 33 40 (by omega) (by first | omega | exact of_decide_eq_true (by first | (with_reducible assumption) | assumption)) (of_decide_eq_true (by first | (with_reducible assumption) | assumption)) HC0.out
                  have HR293 := Aside0.mk (Kd.C_of_reads (h1 := fun _ => rfl) (hA35 _ (Kd.reads_of_C HR0.out)))
                  have HC293 := Aside0.mk hC35
                  clear hA35 hC35 hi035 hsz35
                  refine start_ (n := 29) (S := fun w' => w'.cell? ⟨ad284.block, ad284.off + 10, none⟩ = some (.int .u8 (rd l0 10))) (ds := []) #[false, false, false, false, false, false, false, false, false, false, false, false, false, false, false, false, false, false, false, false, false, false, false, false, false, false, false, false, false] (by kernel_rfl) rfl rfl (((HB.out.cell (World.block_lt_of_cell? w _ hw284_0)).trans hw284_0)) (fun hHeld => ?_); refine with_tabW stowageref15_Decode.tab3 stowageref15_Decode.bits3 (fun HT_ HW_ => ?_)
                  generalize w27.drew = w28 at BK279 HB HR280 HR282 HR285 HR287 HR289 HR291 HR293 hx284_0 hHeld ⊢
                  refine pure_ (i := 0) (N := some 11) (v := ?_) (a' := ?_) #[true, false, false, false, false, false, false, false, false, false, false, false, false, false, false, false, false, false, false, false, false, false, false, false, false, false, false, false, false] rfl rfl (any_of HT_.out (by kernel_rfl)) (fun _ _ _ h => h) (Or.inl ⟨by rfl, ?_⟩) ?_ ?_
                  rotate_left
                  ·intro w'
                   go_simp
                   with_reducible rfl
                  rotate_left
                  ·simp only [Act.put, List.setIfInBounds_toArray, List.set_cons_zero, List.set_cons_succ, i64_w, i32_w]
                   rfl
                  refine pure_ (i := 1) (N := some 12) (v := ?_) (a' := ?_) #[true, true, false, false, false, false, false, false, false, false, false, false, false, false, false, false, false, false, false, false, false, false, false, false, false, false, false, false, false] rfl rfl (any_of HT_.out (by kernel_rfl)) (fun _ _ _ h => h) (Or.inl ⟨by rfl, ?_⟩) ?_ ?_
                  rotate_left
                  ·intro w'
                   go_simp
                   with_reducible rfl
                  rotate_left
                  ·simp only [Act.put, List.setIfInBounds_toArray, List.set_cons_zero, List.set_cons_succ, i64_w, i32_w]
                   rfl
                  refine pure_ (i := 3) (N := some 14) (v := ?_) (a' := ?_) #[true, true, false, true, false, false, false, false, false, false, false, false, false, false, false, false, false, false, false, false, false, false, false, false, false, false, false, false, false] rfl rfl (any_of HT_.out (by kernel_rfl)) (fun _ _ _ h => h) (Or.inl ⟨by rfl, ?_⟩) ?_ ?_
                  rotate_left
                  ·intro w'
                   go_simp
                   with_reducible rfl
                  rotate_left
                  ·simp only [Act.put, List.setIfInBounds_toArray, List.set_cons_zero, List.set_cons_succ, i64_w, i32_w]
                   rfl
                  refine pure_ (i := 4) (N := some 15) (v := ?_) (a' := ?_) #[true, true, false, true, true, false, false, false, false, false, false, false, false, false, false, false, false, false, false, false, false, false, false, false, false, false, false, false, false] rfl rfl (any_of HT_.out (by kernel_rfl)) (fun _ _ _ h => h) (Or.inl ⟨by rfl, ?_⟩) ?_ ?_
                  rotate_left
                  ·intro w'
                   go_simp
                   with_reducible rfl
                  rotate_left
                  ·simp only [Act.put, List.setIfInBounds_toArray, List.set_cons_zero, List.set_cons_succ, i64_w, i32_w]
                   rfl
                  refine pure_ (i := 6) (N := some 17) (v := ?_) (a' := ?_) #[true, true, false, true, true, false, true, false, false, false, false, false, false, false, false, false, false, false, false, false, false, false, false, false, false, false, false, false, false] rfl rfl (any_of HT_.out (by kernel_rfl)) (fun _ _ _ h => h) (Or.inl ⟨by rfl, ?_⟩) ?_ ?_
                  rotate_left
                  ·intro w'
                   go_simp
                   with_reducible rfl
                  rotate_left
                  ·simp only [Act.put, List.setIfInBounds_toArray, List.set_cons_zero, List.set_cons_succ, i64_w, i32_w]
                   rfl
                  refine pure_ (i := 7) (N := some 18) (v := ?_) (a' := ?_) #[true, true, false, true, true, false, true, true, false, false, false, false, false, false, false, false, false, false, false, false, false, false, false, false, false, false, false, false, false] rfl rfl (any_of HT_.out (by kernel_rfl)) (fun _ _ _ h => h) (Or.inl ⟨by rfl, ?_⟩) ?_ ?_
                  rotate_left
                  ·intro w'
                   go_simp
                   with_reducible rfl
                  rotate_left
                  ·simp only [Act.put, List.setIfInBounds_toArray, List.set_cons_zero, List.set_cons_succ, i64_w, i32_w]
                   rfl
                  refine pure_ (i := 10) (N := some 21) (v := ?_) (a' := ?_) #[true, true, false, true, true, false, true, true, false, false, true, false, false, false, false, false, false, false, false, false, false, false, false, false, false, false, false, false, false] rfl rfl (any_of HT_.out (by kernel_rfl)) (fun _ _ _ h => h) (Or.inl ⟨by rfl, ?_⟩) ?_ ?_
                  rotate_left
                  ·intro w'
                   go_simp
                   with_reducible rfl
                  rotate_left
                  ·simp only [Act.put, List.setIfInBounds_toArray, List.set_cons_zero, List.set_cons_succ, i64_w, i32_w]
                   rfl
                  refine pure_ (i := 11) (N := some 22) (v := ?_) (a' := ?_) #[true, true, false, true, true, false, true, true, false, false, true, true, false, false, false, false, false, false, false, false, false, false, false, false, false, false, false, false, false] rfl rfl (any_of HT_.out (by kernel_rfl)) (fun _ _ _ h => h) (Or.inl ⟨by rfl, ?_⟩) ?_ ?_
                  rotate_left
                  ·intro w'
                   go_simp
                   with_reducible rfl
                  rotate_left
                  ·simp only [Act.put, List.setIfInBounds_toArray, List.set_cons_zero, List.set_cons_succ, i64_w, i32_w]
                   rfl
                  refine pure_ (i := 13) (N := some 24) (v := ?_) (a' := ?_) #[true, true, false, true, true, false, true, true, false, false, true, true, false, true, false, false, false, false, false, false, false, false, false, false, false, false, false, false, false] rfl rfl (any_of HT_.out (by kernel_rfl)) (fun _ _ _ h => h) (Or.inl ⟨by rfl, ?_⟩) ?_ ?_
                  rotate_left
                  ·intro w'
                   go_simp
                   with_reducible rfl
                  rotate_left
                  ·simp only [Act.put, List.setIfInBounds_toArray, List.set_cons_zero, List.set_cons_succ, i64_w, i32_w]
                   rfl
                  refine pure_ (i := 14) (N := some 25) (v := ?_) (a' := ?_) #[true, true, false, true, true, false, true, true, false, false, true, true, false, true, true, false, false, false, false, false, false, false, false, false, false, false, false, false, false] rfl rfl (any_of HT_.out (by kernel_rfl)) (fun _ _ _ h => h) (Or.inl ⟨by rfl, ?_⟩) ?_ ?_
                  rotate_left
                  ·intro w'
                   go_simp
                   with_reducible rfl
                  rotate_left
                  ·simp only [Act.put, List.setIfInBounds_toArray, List.set_cons_zero, List.set_cons_succ, i64_w, i32_w]
                   rfl
                  refine pure_ (i := 16) (N := some 27) (v := ?_) (a' := ?_) #[true, true, false, true, true, false, true, true, false, false, true, true, false, true, true, false, true, false, false, false, false, false, false, false, false, false, false, false, false] rfl rfl (any_of HT_.out (by kernel_rfl)) (fun _ _ _ h => h) (Or.inl ⟨by rfl, ?_⟩) ?_ ?_
                  rotate_left
                  ·intro w'
                   go_simp
                   with_reducible rfl
                  rotate_left
                  ·simp only [Act.put, List.setIfInBounds_toArray, List.set_cons_zero, List.set_cons_succ, i64_w, i32_w]
                   rfl
                  refine pure_ (i := 17) (N := some 28) (v := ?_) (a' := ?_) #[true, true, false, true, true, false, true, true, false, false, true, true, false, true, true, false, true, true, false, false, false, false, false, false, false, false, false, false, false] rfl rfl (any_of HT_.out (by kernel_rfl)) (fun _ _ _ h => h) (Or.inl ⟨by rfl, ?_⟩) ?_ ?_
                  rotate_left
                  ·intro w'
                   go_simp
                   with_reducible rfl
                  rotate_left
                  ·simp only [Act.put, List.setIfInBounds_toArray, List.set_cons_zero, List.set_cons_succ, i64_w, i32_w]
                   rfl
                  refine pure_ (i := 19) (N := some 30) (v := ?_) (a' := ?_) #[true, true, false, true, true, false, true, true, false, false, true, true, false, true, true, false, true, true, false, true, false, false, false, false, false, false, false, false, false] rfl rfl (any_of HT_.out (by kernel_rfl)) (fun _ _ _ h => h) (Or.inl ⟨by rfl, ?_⟩) ?_ ?_
                  rotate_left
                  ·intro w'
                   go_simp
                   with_reducible rfl
                  rotate_left
                  ·simp only [Act.put, List.setIfInBounds_toArray, List.set_cons_zero, List.set_cons_succ, i64_w, i32_w]
                   rfl
                  refine pure_ (i := 20) (N := some 31) (v := ?_) (a' := ?_) #[true, true, false, true, true, false, true, true, false, false, true, true, false, true, true, false, true, true, false, true, true, false, false, false, false, false, false, false, false] rfl rfl (any_of HT_.out (by kernel_rfl)) (fun _ _ _ h => h) (Or.inl ⟨by rfl, ?_⟩) ?_ ?_
                  rotate_left
                  ·intro w'
                   go_simp
                   with_reducible rfl
                  rotate_left
                  ·simp only [Act.put, List.setIfInBounds_toArray, List.set_cons_zero, List.set_cons_succ, i64_w, i32_w]
                   rfl
                  refine pure_ (i := 22) (N := some 33) (v := ?_) (a' := ?_) #[true, true, false, true, true, false, true, true, false, false, true, true, false, true, true, false, true, true, false, true, true, false, true, false, false, false, false, false, false] rfl rfl (any_of HT_.out (by kernel_rfl)) (fun _ _ _ h => h) (Or.inl ⟨by rfl, ?_⟩) ?_ ?_
                  rotate_left
                  ·intro w'
                   go_simp
                   with_reducible rfl
                  rotate_left
                  ·simp only [Act.put, List.setIfInBounds_toArray, List.set_cons_zero, List.set_cons_succ, i64_w, i32_w]
                   rfl
                  refine pure_ (i := 23) (N := some 34) (v := ?_) (a' := ?_) #[true, true, false, true, true, false, true, true, false, false, true, true, false, true, true, false, true, true, false, true, true, false, true, true, false, false, false, false, false] rfl rfl (any_of HT_.out (by kernel_rfl)) (fun _ _ _ h => h) (Or.inl ⟨by rfl, ?_⟩) ?_ ?_
                  rotate_left
                  ·intro w'
                   go_simp
                   with_reducible rfl
                  rotate_left
                  ·simp only [Act.put, List.setIfInBounds_toArray, List.set_cons_zero, List.set_cons_succ, i64_w, i32_w]
                   rfl
                  refine take_ (i := 8) (N := some 19) (v := ?_) (a' := ?_) #[true, true, false, true, true, false, true, true, true, false, true, true, false, true, true, false, true, true, false, true, true, false, true, true, false, false, false, false, false] rfl rfl (take_ofW HT_.out HW_.out (by kernel_rfl)) (fun _ _ _ h => h) (Or.inl ⟨by rfl, ?_⟩) hHeld ?_ ?_
                  rotate_left
                  ·intro w' s0
                   go_simp
                   with_reducible rfl
                  rotate_left
                  ·simp only [Act.put, List.setIfInBounds_toArray, List.set_cons_zero, List.set_cons_succ, i64_w, i32_w]
                   rfl
                  refine pure_ (i := 9) (N := some 20) (v := ?_) (a' := ?_) #[true, true, false, true, true, false, true, true, true, true, true, true, false, true, true, false, true, true, false, true, true, false, true, true, false, false, false, false, false] rfl rfl (any_of HT_.out (by kernel_rfl)) (fun _ _ _ h => h) (Or.inl ⟨by rfl, ?_⟩) ?_ ?_
                  rotate_left
                  ·intro w'
                   go_simp
                   with_reducible rfl
                  rotate_left
                  ·simp only [Act.put, List.setIfInBounds_toArray, List.set_cons_zero, List.set_cons_succ, i64_w, i32_w]
                   rfl
                  refine join_ (σ := Nat) 1 #[true, true, true, true, true, true, true, true, true, true, true, true, true, true, true, true, true, true, true, true, true, true, true, true, true, true, true, true, false] (fun s_ => [(13, .int .i64 t281), (16, .int .i64 t283), (23, .int .i64 t286), (26, .int .i64 t288), (29, .int .i64 t290), (32, .int .i64 t292), (35, .int .i64 t294), (4, .pointer (some ⟨s_, 0, none⟩)), (36, .agg #[.int .i64 t286, .int .i64 t288, .int .i64 t290, .int .i64 t292, .int .i64 t294, .string (⟨#[]⟩ : ByteArray)]), (37, .agg #[.int .i64 t281, .int .i64 t283, .bool ((rd l0 10) == 1), .int .i64 t286, .int .i64 t288, .int .i64 t290, .int .i64 t292, .int .i64 t294, .string (⟨#[]⟩ : ByteArray)])]) (fun s_ w' => (w'.cell? ⟨ad284.block, ad284.off + 10, none⟩ = some (.int .u8 (rd l0 10))) ∧ (w'.heap[gb279]? = some (.cells #[.int .i64 0, .int .i64 0, .bool false, .int .i64 0, .int .i64 0, .int .i64 0, .int .i64 0, .int .i64 0, .string (⟨#[]⟩ : ByteArray)] 25 (0, 0))) ∧ (w'.heap[s_]? = some (.cells #[.int .i64 0, .int .i64 0, .bool false, .int .i64 0, .int .i64 0, .int .i64 0, .int .i64 0, .int .i64 0, .string (⟨#[]⟩ : ByteArray)] 25 (0, 0))) ∧ (w.heap.size ≤ s_) ∧ (w.heap.size ≤ s_) ∧ (gb279 ≠ s_) ∧ (s_ ≠ gb279) ∧ (Below w.heap.size w w')) ?_ ?_
                  rotate_left
                  ·intro hJ2_5_12_15_18_21_24_27
                   refine join_ (σ := Unit) 2 #[true, true, true, true, true, true, true, true, true, true, true, true, true, true, true, true, true, true, true, true, true, true, true, true, true, true, true, false, false] (fun s_ => [(13, .int .i64 t281), (16, .int .i64 t283), (23, .int .i64 t286), (26, .int .i64 t288), (29, .int .i64 t290), (32, .int .i64 t292), (35, .int .i64 t294), (36, .agg #[.int .i64 t286, .int .i64 t288, .int .i64 t290, .int .i64 t292, .int .i64 t294, .string (⟨#[]⟩ : ByteArray)]), (37, .agg #[.int .i64 t281, .int .i64 t283, .bool ((rd l0 10) == 1), .int .i64 t286, .int .i64 t288, .int .i64 t290, .int .i64 t292, .int .i64 t294, .string (⟨#[]⟩ : ByteArray)])]) (fun s_ w' => (w'.cell? ⟨ad284.block, ad284.off + 10, none⟩ = some (.int .u8 (rd l0 10))) ∧ (w'.heap[gb279]? = some (.cells #[.int .i64 0, .int .i64 0, .bool false, .int .i64 0, .int .i64 0, .int .i64 0, .int .i64 0, .int .i64 0, .string (⟨#[]⟩ : ByteArray)] 25 (0, 0))) ∧ (Below w.heap.size w w')) ?_ ?_
                   rotate_left
                   ·intro hJ2_5_12_15_18_21_24
                    refine join_ (σ := Nat) 4 #[true, true, true, true, true, true, true, true, true, true, true, true, true, true, true, true, true, true, true, true, true, true, true, true, false, false, false, true, false] (fun s_ => [(13, .int .i64 t281), (16, .int .i64 t283), (23, .int .i64 t286), (26, .int .i64 t288), (29, .int .i64 t290), (32, .int .i64 t292), (4, .pointer (some ⟨s_, 0, none⟩))]) (fun s_ w' => (w'.cell? ⟨ad284.block, ad284.off + 10, none⟩ = some (.int .u8 (rd l0 10))) ∧ (w'.heap[gb279]? = some (.cells #[.int .i64 0, .int .i64 0, .bool false, .int .i64 0, .int .i64 0, .int .i64 0, .int .i64 0, .int .i64 0, .string (⟨#[]⟩ : ByteArray)] 25 (0, 0))) ∧ (w'.heap[s_]? = some (.cells #[.int .i64 0, .int .i64 0, .bool false, .int .i64 0, .int .i64 0, .int .i64 0, .int .i64 0, .int .i64 0, .string (⟨#[]⟩ : ByteArray)] 25 (0, 0))) ∧ (w.heap.size ≤ s_) ∧ (w.heap.size ≤ s_) ∧ (gb279 ≠ s_) ∧ (s_ ≠ gb279) ∧ (Below w.heap.size w w')) ?_ ?_
                    rotate_left
                    ·intro hJ2_5_12_15_18_21_27
                     refine join_ (σ := Unit) 5 #[true, true, true, true, true, true, true, true, true, true, true, true, true, true, true, true, true, true, true, true, true, true, true, true, false, false, false, false, false] (fun s_ => [(13, .int .i64 t281), (16, .int .i64 t283), (23, .int .i64 t286), (26, .int .i64 t288), (29, .int .i64 t290), (32, .int .i64 t292)]) (fun s_ w' => (w'.cell? ⟨ad284.block, ad284.off + 10, none⟩ = some (.int .u8 (rd l0 10))) ∧ (w'.heap[gb279]? = some (.cells #[.int .i64 0, .int .i64 0, .bool false, .int .i64 0, .int .i64 0, .int .i64 0, .int .i64 0, .int .i64 0, .string (⟨#[]⟩ : ByteArray)] 25 (0, 0))) ∧ (Below w.heap.size w w')) ?_ ?_
                     rotate_left
                     ·intro hJ2_5_12_15_18_21
                      refine join_ (σ := Nat) 5 #[true, true, true, true, true, true, true, true, true, true, true, true, true, true, true, true, true, true, true, true, true, false, true, true, false, false, false, true, false] (fun s_ => [(13, .int .i64 t281), (16, .int .i64 t283), (23, .int .i64 t286), (26, .int .i64 t288), (29, .int .i64 t290), (4, .pointer (some ⟨s_, 0, none⟩))]) (fun s_ w' => (w'.cell? ⟨ad284.block, ad284.off + 10, none⟩ = some (.int .u8 (rd l0 10))) ∧ (w'.heap[gb279]? = some (.cells #[.int .i64 0, .int .i64 0, .bool false, .int .i64 0, .int .i64 0, .int .i64 0, .int .i64 0, .int .i64 0, .string (⟨#[]⟩ : ByteArray)] 25 (0, 0))) ∧ (w'.heap[s_]? = some (.cells #[.int .i64 0, .int .i64 0, .bool false, .int .i64 0, .int .i64 0, .int .i64 0, .int .i64 0, .int .i64 0, .string (⟨#[]⟩ : ByteArray)] 25 (0, 0))) ∧ (w.heap.size ≤ s_) ∧ (w.heap.size ≤ s_) ∧ (gb279 ≠ s_) ∧ (s_ ≠ gb279) ∧ (Below w.heap.size w w')) ?_ ?_
                      rotate_left
                      ·intro hJ2_5_12_15_18_27
                       refine join_ (σ := Unit) 6 #[true, true, true, true, true, true, true, true, true, true, true, true, true, true, true, true, true, true, true, true, true, false, true, true, false, false, false, false, false] (fun s_ => [(13, .int .i64 t281), (16, .int .i64 t283), (23, .int .i64 t286), (26, .int .i64 t288), (29, .int .i64 t290)]) (fun s_ w' => (w'.cell? ⟨ad284.block, ad284.off + 10, none⟩ = some (.int .u8 (rd l0 10))) ∧ (w'.heap[gb279]? = some (.cells #[.int .i64 0, .int .i64 0, .bool false, .int .i64 0, .int .i64 0, .int .i64 0, .int .i64 0, .int .i64 0, .string (⟨#[]⟩ : ByteArray)] 25 (0, 0))) ∧ (Below w.heap.size w w')) ?_ ?_
                       rotate_left
                       ·intro hJ2_5_12_15_18
                        refine join_ (σ := Nat) 6 #[true, true, true, true, true, true, true, true, true, true, true, true, true, true, true, true, true, true, false, true, true, false, true, true, false, false, false, true, false] (fun s_ => [(13, .int .i64 t281), (16, .int .i64 t283), (23, .int .i64 t286), (26, .int .i64 t288), (4, .pointer (some ⟨s_, 0, none⟩))]) (fun s_ w' => (w'.cell? ⟨ad284.block, ad284.off + 10, none⟩ = some (.int .u8 (rd l0 10))) ∧ (w'.heap[gb279]? = some (.cells #[.int .i64 0, .int .i64 0, .bool false, .int .i64 0, .int .i64 0, .int .i64 0, .int .i64 0, .int .i64 0, .string (⟨#[]⟩ : ByteArray)] 25 (0, 0))) ∧ (w'.heap[s_]? = some (.cells #[.int .i64 0, .int .i64 0, .bool false, .int .i64 0, .int .i64 0, .int .i64 0, .int .i64 0, .int .i64 0, .string (⟨#[]⟩ : ByteArray)] 25 (0, 0))) ∧ (w.heap.size ≤ s_) ∧ (w.heap.size ≤ s_) ∧ (gb279 ≠ s_) ∧ (s_ ≠ gb279) ∧ (Below w.heap.size w w')) ?_ ?_
                        rotate_left
                        ·intro hJ2_5_12_15_27
                         refine join_ (σ := Unit) 7 #[true, true, true, true, true, true, true, true, true, true, true, true, true, true, true, true, true, true, false, true, true, false, true, true, false, false, false, false, false] (fun s_ => [(13, .int .i64 t281), (16, .int .i64 t283), (23, .int .i64 t286), (26, .int .i64 t288)]) (fun s_ w' => (w'.cell? ⟨ad284.block, ad284.off + 10, none⟩ = some (.int .u8 (rd l0 10))) ∧ (w'.heap[gb279]? = some (.cells #[.int .i64 0, .int .i64 0, .bool false, .int .i64 0, .int .i64 0, .int .i64 0, .int .i64 0, .int .i64 0, .string (⟨#[]⟩ : ByteArray)] 25 (0, 0))) ∧ (Below w.heap.size w w')) ?_ ?_
                         rotate_left
                         ·intro hJ2_5_12_15
                          refine join_ (σ := Nat) 7 #[true, true, true, true, true, true, true, true, true, true, true, true, true, true, true, false, true, true, false, true, true, false, true, true, false, false, false, true, false] (fun s_ => [(13, .int .i64 t281), (16, .int .i64 t283), (23, .int .i64 t286), (4, .pointer (some ⟨s_, 0, none⟩))]) (fun s_ w' => (w'.cell? ⟨ad284.block, ad284.off + 10, none⟩ = some (.int .u8 (rd l0 10))) ∧ (w'.heap[gb279]? = some (.cells #[.int .i64 0, .int .i64 0, .bool false, .int .i64 0, .int .i64 0, .int .i64 0, .int .i64 0, .int .i64 0, .string (⟨#[]⟩ : ByteArray)] 25 (0, 0))) ∧ (w'.heap[s_]? = some (.cells #[.int .i64 0, .int .i64 0, .bool false, .int .i64 0, .int .i64 0, .int .i64 0, .int .i64 0, .int .i64 0, .string (⟨#[]⟩ : ByteArray)] 25 (0, 0))) ∧ (w.heap.size ≤ s_) ∧ (w.heap.size ≤ s_) ∧ (gb279 ≠ s_) ∧ (s_ ≠ gb279) ∧ (Below w.heap.size w w')) ?_ ?_
                          rotate_left
                          ·intro hJ2_5_12_27
                           refine join_ (σ := Unit) 8 #[true, true, true, true, true, true, true, true, true, true, true, true, true, true, true, false, true, true, false, true, true, false, true, true, false, false, false, false, false] (fun s_ => [(13, .int .i64 t281), (16, .int .i64 t283), (23, .int .i64 t286)]) (fun s_ w' => (w'.cell? ⟨ad284.block, ad284.off + 10, none⟩ = some (.int .u8 (rd l0 10))) ∧ (w'.heap[gb279]? = some (.cells #[.int .i64 0, .int .i64 0, .bool false, .int .i64 0, .int .i64 0, .int .i64 0, .int .i64 0, .int .i64 0, .string (⟨#[]⟩ : ByteArray)] 25 (0, 0))) ∧ (Below w.heap.size w w')) ?_ ?_
                           rotate_left
                           ·intro hJ2_5_12
                            refine join_ (σ := Nat) 8 #[true, true, true, true, true, true, true, true, true, true, true, true, false, true, true, false, true, true, false, true, true, false, true, true, false, false, false, true, false] (fun s_ => [(13, .int .i64 t281), (16, .int .i64 t283), (4, .pointer (some ⟨s_, 0, none⟩))]) (fun s_ w' => (w'.cell? ⟨ad284.block, ad284.off + 10, none⟩ = some (.int .u8 (rd l0 10))) ∧ (w'.heap[gb279]? = some (.cells #[.int .i64 0, .int .i64 0, .bool false, .int .i64 0, .int .i64 0, .int .i64 0, .int .i64 0, .int .i64 0, .string (⟨#[]⟩ : ByteArray)] 25 (0, 0))) ∧ (w'.heap[s_]? = some (.cells #[.int .i64 0, .int .i64 0, .bool false, .int .i64 0, .int .i64 0, .int .i64 0, .int .i64 0, .int .i64 0, .string (⟨#[]⟩ : ByteArray)] 25 (0, 0))) ∧ (w.heap.size ≤ s_) ∧ (w.heap.size ≤ s_) ∧ (gb279 ≠ s_) ∧ (s_ ≠ gb279) ∧ (Below w.heap.size w w')) ?_ ?_
                            rotate_left
                            ·intro hJ2_5_27
                             refine join_ (σ := Unit) 9 #[true, true, true, true, true, true, true, true, true, true, true, true, false, true, true, false, true, true, false, true, true, false, true, true, false, false, false, false, false] (fun s_ => [(13, .int .i64 t281), (16, .int .i64 t283)]) (fun s_ w' => (w'.cell? ⟨ad284.block, ad284.off + 10, none⟩ = some (.int .u8 (rd l0 10))) ∧ (w'.heap[gb279]? = some (.cells #[.int .i64 0, .int .i64 0, .bool false, .int .i64 0, .int .i64 0, .int .i64 0, .int .i64 0, .int .i64 0, .string (⟨#[]⟩ : ByteArray)] 25 (0, 0))) ∧ (Below w.heap.size w w')) ?_ ?_
                             rotate_left
                             ·intro hJ2_5
                              refine join_ (σ := Nat) 9 #[true, true, true, true, true, false, true, true, true, true, true, true, false, true, true, false, true, true, false, true, true, false, true, true, false, false, false, true, false] (fun s_ => [(13, .int .i64 t281), (4, .pointer (some ⟨s_, 0, none⟩))]) (fun s_ w' => (w'.cell? ⟨ad284.block, ad284.off + 10, none⟩ = some (.int .u8 (rd l0 10))) ∧ (w'.heap[gb279]? = some (.cells #[.int .i64 0, .int .i64 0, .bool false, .int .i64 0, .int .i64 0, .int .i64 0, .int .i64 0, .int .i64 0, .string (⟨#[]⟩ : ByteArray)] 25 (0, 0))) ∧ (w'.heap[s_]? = some (.cells #[.int .i64 0, .int .i64 0, .bool false, .int .i64 0, .int .i64 0, .int .i64 0, .int .i64 0, .int .i64 0, .string (⟨#[]⟩ : ByteArray)] 25 (0, 0))) ∧ (w.heap.size ≤ s_) ∧ (w.heap.size ≤ s_) ∧ (gb279 ≠ s_) ∧ (s_ ≠ gb279) ∧ (Below w.heap.size w w')) ?_ ?_
                              rotate_left
                              ·intro hJ2_27
                               refine join_ (σ := Unit) 10 #[true, true, true, true, true, false, true, true, true, true, true, true, false, true, true, false, true, true, false, true, true, false, true, true, false, false, false, false, false] (fun s_ => [(13, .int .i64 t281)]) (fun s_ w' => (w'.cell? ⟨ad284.block, ad284.off + 10, none⟩ = some (.int .u8 (rd l0 10))) ∧ (w'.heap[gb279]? = some (.cells #[.int .i64 0, .int .i64 0, .bool false, .int .i64 0, .int .i64 0, .int .i64 0, .int .i64 0, .int .i64 0, .string (⟨#[]⟩ : ByteArray)] 25 (0, 0))) ∧ (Below w.heap.size w w')) ?_ ?_
                               rotate_left
                               ·intro hJ2
                                refine join_ (σ := Nat) 10 #[true, true, false, true, true, false, true, true, true, true, true, true, false, true, true, false, true, true, false, true, true, false, true, true, false, false, false, true, false] (fun s_ => [(4, .pointer (some ⟨s_, 0, none⟩))]) (fun s_ w' => (w'.cell? ⟨ad284.block, ad284.off + 10, none⟩ = some (.int .u8 (rd l0 10))) ∧ (w'.heap[gb279]? = some (.cells #[.int .i64 0, .int .i64 0, .bool false, .int .i64 0, .int .i64 0, .int .i64 0, .int .i64 0, .int .i64 0, .string (⟨#[]⟩ : ByteArray)] 25 (0, 0))) ∧ (w'.heap[s_]? = some (.cells #[.int .i64 0, .int .i64 0, .bool false, .int .i64 0, .int .i64 0, .int .i64 0, .int .i64 0, .int .i64 0, .string (⟨#[]⟩ : ByteArray)] 25 (0, 0))) ∧ (w.heap.size ≤ s_) ∧ (w.heap.size ≤ s_) ∧ (gb279 ≠ s_) ∧ (s_ ≠ gb279) ∧ (Below w.heap.size w w')) ?_ ?_
                                rotate_left
                                ·intro hJ27
                                 refine two_ (i := 2) (j := 27) (Ni := some 13) (Nj := some 4) #[true, true, true, true, true, false, true, true, true, true, true, true, false, true, true, false, true, true, false, true, true, false, true, true, false, false, false, false, false] #[true, true, false, true, true, false, true, true, true, true, true, true, false, true, true, false, true, true, false, true, true, false, true, true, false, false, false, true, false] rfl rfl rfl rfl (two_of HT_.out (by kernel_rfl)) (by decide) (by decide) (fun K hK => ?_) (fun K hK => ?_)
                                 ·skip
                                  refine goes_ Try.func26 (by kernel_rfl) rfl #[.slice A29 ((l0.take 6).drop 2).length (c0 - 2)] (by rfl) rfl rfl (by (try simp only [List.map_toArray, List.map_cons, List.map_nil]); first | done | (rw [show ((l0.take 6).drop 2).length = (6 - 2) from (by rw [List.length_drop, List.length_take]; have h_ : (6 : Int) ≤ (l0.length : Int) := of_decide_eq_true (by first | (with_reducible assumption) | assumption); omega)] <;> rfl) | rfl | (simp only [List.length_drop, List.length_take]; rfl)) ?_
                                  with_reducible refine (stowageref15_get.calls k _ _ ((l0.take 6).drop 2) t281 _ ?side1 ?side2 A5.out).mono ?_
                                  (case side1 => repeat (first | exact (Kd.C_below HR280.out HB.out) | (with_reducible refine Kd.C_alloc ?_ _) | (with_reducible refine Kd.C_drewN ?_ _) | (with_reducible refine Kd.C_drew ?_)))
                                  (case side2 => exact HC280.out)
                                  rintro e w' ⟨rfl, ⟨nd, rfl⟩⟩
                                  refine ⟨_, rfl, ?_⟩
                                  refine hK.out _ _ (((HB.out.cell (World.block_lt_of_cell? w _ hw284_0)).trans hw284_0)) (fun hHeld => ?_)
                                  clear hK K
                                  refine norm_ (a' := ?_) ?_ ?_
                                  rotate_left
                                  ·show Act.put _ (some 13) _ = _
                                   simp only [Act.put, List.setIfInBounds_toArray, List.set_cons_zero, List.set_cons_succ, i64_w, i32_w]
                                   rfl
                                  exact norm_ (by first | (simp only [putAll, Act.put, List.setIfInBounds_toArray, List.set_cons_zero, List.set_cons_succ]; done) | (simp only [putAll, Act.put, List.setIfInBounds_toArray, List.set_cons_zero, List.set_cons_succ]; rfl)) (hJ2 () _ ⟨hHeld, (by (with_reducible repeat (first | refine blk_drewN ?_ _ | refine blk_drew ?_ | refine blk_alloc ?_ _)); exact BK279.out), (by repeat (first | (with_reducible first | exact HB.out | apply below_alloc | apply pw_below_drewN | apply below_drew1 | refine below_set ?_ GE279.out) | exact HB.out))⟩)
                                 ·skip
                                  refine box_step ?hg (N := 4) ?hd (cs := #[.int .i64 0, .int .i64 0, .bool false, .int .i64 0, .int .i64 0, .int .i64 0, .int .i64 0, .int .i64 0, .string (⟨#[]⟩ : ByteArray)]) (t := 25) ?hr ?_; (case hd => rfl); (case hg => rfl); (case hr => first | (go_simp; done) | (go_simp; rfl))
                                  intro gb295 hg w36 hbox hb
                                  have n0_ := Aside0.mk (blk_below (g := gb279) (o := .cells #[.int .i64 0, .int .i64 0, .bool false, .int .i64 0, .int .i64 0, .int .i64 0, .int .i64 0, .int .i64 0, .string (⟨#[]⟩ : ByteArray)] 25 (0, 0)) (by (with_reducible repeat (first | refine blk_drewN ?_ _ | refine blk_drew ?_ | refine blk_alloc ?_ _)); exact BK279.out) hb)
                                  have n1_ := Aside0.mk (below_step (by repeat (first | (with_reducible first | exact HB.out | apply below_alloc | apply pw_below_drewN | apply below_drew1 | refine below_set ?_ GE279.out) | exact HB.out)) hb)
                                  have n2_ := Aside0.mk (hbox)
                                  have n3_ := Aside0.mk ((by rw [hg]; exact (below_size (by repeat (first | (with_reducible first | exact HB.out | apply below_alloc | apply pw_below_drewN | apply below_drew1 | refine below_set ?_ GE279.out) | exact HB.out))) : w.heap.size ≤ gb295))
                                  have n4_ := Aside0.mk ((by rw [hg]; exact (below_size (by repeat (first | (with_reducible first | exact HB.out | apply below_alloc | apply pw_below_drewN | apply below_drew1 | refine below_set ?_ GE279.out) | exact HB.out))) : w.heap.size ≤ gb295))
                                  have n5_ := Aside0.mk ((by rw [hg]; exact Nat.ne_of_lt (blk_lt (g := gb279) (o := .cells #[.int .i64 0, .int .i64 0, .bool false, .int .i64 0, .int .i64 0, .int .i64 0, .int .i64 0, .int .i64 0, .string (⟨#[]⟩ : ByteArray)] 25 (0, 0)) (by (with_reducible repeat (first | refine blk_drewN ?_ _ | refine blk_drew ?_ | refine blk_alloc ?_ _)); exact BK279.out)) : gb279 ≠ gb295))
                                  have n6_ := Aside0.mk ((by rw [hg]; exact Nat.ne_of_gt (blk_lt (g := gb279) (o := .cells #[.int .i64 0, .int .i64 0, .bool false, .int .i64 0, .int .i64 0, .int .i64 0, .int .i64 0, .int .i64 0, .string (⟨#[]⟩ : ByteArray)] 25 (0, 0)) (by (with_reducible repeat (first | refine blk_drewN ?_ _ | refine blk_drew ?_ | refine blk_alloc ?_ _)); exact BK279.out)) : gb295 ≠ gb279))
                                  clear BK279
                                  clear HB
                                  have BK279 := n0_
                                  have HB := n1_
                                  have BK295 := n2_
                                  have GW295 := n3_
                                  have GE295 := n4_
                                  have NB279_295 := n5_
                                  have NB295_279 := n6_
                                  clear n0_ n1_ n2_ n3_ n4_ n5_ n6_
                                  clear hb hbox hg
                                  refine hK.out _ _ (((HB.out.cell (World.block_lt_of_cell? w _ hw284_0)).trans hw284_0)) (fun hHeld => ?_)
                                  clear hK K
                                  refine norm_ (a' := ?_) ?_ ?_
                                  rotate_left
                                  ·show Act.put _ (some 4) _ = _
                                   simp only [Act.put, List.setIfInBounds_toArray, List.set_cons_zero, List.set_cons_succ, i64_w, i32_w]
                                   rfl
                                  exact norm_ (by first | (simp only [putAll, Act.put, List.setIfInBounds_toArray, List.set_cons_zero, List.set_cons_succ]; done) | (simp only [putAll, Act.put, List.setIfInBounds_toArray, List.set_cons_zero, List.set_cons_succ]; rfl)) (hJ27 (gb295) _ ⟨hHeld, (by (with_reducible repeat (first | refine blk_drewN ?_ _ | refine blk_drew ?_ | refine blk_alloc ?_ _)); exact BK279.out), (by (with_reducible repeat (first | refine blk_drewN ?_ _ | refine blk_drew ?_ | refine blk_alloc ?_ _)); exact BK295.out), GW295.out, GE295.out, NB279_295.out, NB295_279.out, (by repeat (first | (with_reducible first | exact HB.out | apply below_alloc | apply pw_below_drewN | apply below_drew1 | refine below_set ?_ GE279.out | refine below_set ?_ GE295.out) | exact HB.out))⟩)
                                ·skip
                                 rintro gb295 w37 ⟨hS_, h0_, h1_, h2_, h3_, h4_, h5_, h6_⟩
                                 have n0_ : Aside0 (w37.heap[gb279]? = some (.cells #[.int .i64 0, .int .i64 0, .bool false, .int .i64 0, .int .i64 0, .int .i64 0, .int .i64 0, .int .i64 0, .string (⟨#[]⟩ : ByteArray)] 25 (0, 0))) := ⟨h0_⟩
                                 have n1_ : Aside0 (w37.heap[gb295]? = some (.cells #[.int .i64 0, .int .i64 0, .bool false, .int .i64 0, .int .i64 0, .int .i64 0, .int .i64 0, .int .i64 0, .string (⟨#[]⟩ : ByteArray)] 25 (0, 0))) := ⟨h1_⟩
                                 have n2_ : Aside0 (w.heap.size ≤ gb295) := ⟨h2_⟩
                                 have n3_ : Aside0 (w.heap.size ≤ gb295) := ⟨h3_⟩
                                 have n4_ : Aside0 (gb279 ≠ gb295) := ⟨h4_⟩
                                 have n5_ : Aside0 (gb295 ≠ gb279) := ⟨h5_⟩
                                 have n6_ : Aside0 (Below w.heap.size w w37) := ⟨h6_⟩
                                 clear BK279
                                 clear HB
                                 clear h0_ h1_ h2_ h3_ h4_ h5_ h6_
                                 have BK279 := n0_
                                 have BK295 := n1_
                                 have GW295 := n2_
                                 have GE295 := n3_
                                 have NB279_295 := n4_
                                 have NB295_279 := n5_
                                 have HB := n6_
                                 clear n0_ n1_ n2_ n3_ n4_ n5_ n6_
                                 have hHeld : w37.cell? ⟨ad284.block, ad284.off + 10, none⟩ = some (.int .u8 (rd l0 10)) := hS_
                                 refine norm_ (a' := ?_) ?_ ?_
                                 rotate_left
                                 ·simp only [putAll, Act.put, List.setIfInBounds_toArray, List.set_cons_zero, List.set_cons_succ]
                                  rfl
                                 refine one_ (i := 2) (N := some 13) #[true, true, true, true, true, false, true, true, true, true, true, true, false, true, true, false, true, true, false, true, true, false, true, true, false, false, false, true, false] rfl rfl (one_of HT_.out (by kernel_rfl)) (by decide) (fun K hK => ?_)
                                 refine goes_ Try.func26 (by kernel_rfl) rfl #[.slice A29 ((l0.take 6).drop 2).length (c0 - 2)] (by rfl) rfl rfl (by (try simp only [List.map_toArray, List.map_cons, List.map_nil]); first | done | (rw [show ((l0.take 6).drop 2).length = (6 - 2) from (by rw [List.length_drop, List.length_take]; have h_ : (6 : Int) ≤ (l0.length : Int) := of_decide_eq_true (by first | (with_reducible assumption) | assumption); omega)] <;> rfl) | rfl | (simp only [List.length_drop, List.length_take]; rfl)) ?_
                                 with_reducible refine (stowageref15_get.calls k _ _ ((l0.take 6).drop 2) t281 _ ?side1 ?side2 A5.out).mono ?_
                                 (case side1 => repeat (first | exact (Kd.C_below HR280.out HB.out) | (with_reducible refine Kd.C_alloc ?_ _) | (with_reducible refine Kd.C_drewN ?_ _) | (with_reducible refine Kd.C_drew ?_)))
                                 (case side2 => exact HC280.out)
                                 rintro e w' ⟨rfl, ⟨nd, rfl⟩⟩
                                 refine ⟨_, rfl, ?_⟩
                                 refine hK.out _ _ (((HB.out.cell (World.block_lt_of_cell? w _ hw284_0)).trans hw284_0)) (fun hHeld => ?_)
                                 clear hK K
                                 refine norm_ (a' := ?_) ?_ ?_
                                 rotate_left
                                 ·show Act.put _ (some 13) _ = _
                                  simp only [Act.put, List.setIfInBounds_toArray, List.set_cons_zero, List.set_cons_succ, i64_w, i32_w]
                                  rfl
                                 exact norm_ (by first | (simp only [putAll, Act.put, List.setIfInBounds_toArray, List.set_cons_zero, List.set_cons_succ]; done) | (simp only [putAll, Act.put, List.setIfInBounds_toArray, List.set_cons_zero, List.set_cons_succ]; rfl)) (hJ2_27 (gb295) _ ⟨hHeld, (by (with_reducible repeat (first | refine blk_drewN ?_ _ | refine blk_drew ?_ | refine blk_alloc ?_ _)); exact BK279.out), (by (with_reducible repeat (first | refine blk_drewN ?_ _ | refine blk_drew ?_ | refine blk_alloc ?_ _)); exact BK295.out), GW295.out, GE295.out, NB279_295.out, NB295_279.out, (by repeat (first | (with_reducible first | exact HB.out | apply below_alloc | apply pw_below_drewN | apply below_drew1 | refine below_set ?_ GE279.out | refine below_set ?_ GE295.out) | exact HB.out))⟩)
                               ·skip
                                rintro _ w36 ⟨hS_, h0_, h1_⟩
                                have n0_ : Aside0 (w36.heap[gb279]? = some (.cells #[.int .i64 0, .int .i64 0, .bool false, .int .i64 0, .int .i64 0, .int .i64 0, .int .i64 0, .int .i64 0, .string (⟨#[]⟩ : ByteArray)] 25 (0, 0))) := ⟨h0_⟩
                                have n1_ : Aside0 (Below w.heap.size w w36) := ⟨h1_⟩
                                clear BK279
                                clear HB
                                clear h0_ h1_
                                have BK279 := n0_
                                have HB := n1_
                                clear n0_ n1_
                                have hHeld : w36.cell? ⟨ad284.block, ad284.off + 10, none⟩ = some (.int .u8 (rd l0 10)) := hS_
                                refine norm_ (a' := ?_) ?_ ?_
                                rotate_left
                                ·simp only [putAll, Act.put, List.setIfInBounds_toArray, List.set_cons_zero, List.set_cons_succ]
                                 rfl
                                refine two_ (i := 5) (j := 27) (Ni := some 16) (Nj := some 4) #[true, true, true, true, true, true, true, true, true, true, true, true, false, true, true, false, true, true, false, true, true, false, true, true, false, false, false, false, false] #[true, true, true, true, true, false, true, true, true, true, true, true, false, true, true, false, true, true, false, true, true, false, true, true, false, false, false, true, false] rfl rfl rfl rfl (two_of HT_.out (by kernel_rfl)) (by decide) (by decide) (fun K hK => ?_) (fun K hK => ?_)
                                ·skip
                                 refine goes_ Try.func26 (by kernel_rfl) rfl #[.slice A30 ((l0.take 10).drop 6).length (c0 - 6)] (by rfl) rfl rfl (by (try simp only [List.map_toArray, List.map_cons, List.map_nil]); first | done | (rw [show ((l0.take 10).drop 6).length = (10 - 6) from (by rw [List.length_drop, List.length_take]; have h_ : (10 : Int) ≤ (l0.length : Int) := of_decide_eq_true (by first | (with_reducible assumption) | assumption); omega)] <;> rfl) | rfl | (simp only [List.length_drop, List.length_take]; rfl)) ?_
                                 with_reducible refine (stowageref15_get.calls k _ _ ((l0.take 10).drop 6) t283 _ ?side1 ?side2 A8.out).mono ?_
                                 (case side1 => repeat (first | exact (Kd.C_below HR282.out HB.out) | (with_reducible refine Kd.C_alloc ?_ _) | (with_reducible refine Kd.C_drewN ?_ _) | (with_reducible refine Kd.C_drew ?_)))
                                 (case side2 => exact HC282.out)
                                 rintro e w' ⟨rfl, ⟨nd, rfl⟩⟩
                                 refine ⟨_, rfl, ?_⟩
                                 refine hK.out _ _ (((HB.out.cell (World.block_lt_of_cell? w _ hw284_0)).trans hw284_0)) (fun hHeld => ?_)
                                 clear hK K
                                 refine norm_ (a' := ?_) ?_ ?_
                                 rotate_left
                                 ·show Act.put _ (some 16) _ = _
                                  simp only [Act.put, List.setIfInBounds_toArray, List.set_cons_zero, List.set_cons_succ, i64_w, i32_w]
                                  rfl
                                 exact norm_ (by first | (simp only [putAll, Act.put, List.setIfInBounds_toArray, List.set_cons_zero, List.set_cons_succ]; done) | (simp only [putAll, Act.put, List.setIfInBounds_toArray, List.set_cons_zero, List.set_cons_succ]; rfl)) (hJ2_5 () _ ⟨hHeld, (by (with_reducible repeat (first | refine blk_drewN ?_ _ | refine blk_drew ?_ | refine blk_alloc ?_ _)); exact BK279.out), (by repeat (first | (with_reducible first | exact HB.out | apply below_alloc | apply pw_below_drewN | apply below_drew1 | refine below_set ?_ GE279.out) | exact HB.out))⟩)
                                ·skip
                                 refine box_step ?hg (N := 4) ?hd (cs := #[.int .i64 0, .int .i64 0, .bool false, .int .i64 0, .int .i64 0, .int .i64 0, .int .i64 0, .int .i64 0, .string (⟨#[]⟩ : ByteArray)]) (t := 25) ?hr ?_; (case hd => rfl); (case hg => rfl); (case hr => first | (go_simp; done) | (go_simp; rfl))
                                 intro gb295 hg w37 hbox hb
                                 have n0_ := Aside0.mk (blk_below (g := gb279) (o := .cells #[.int .i64 0, .int .i64 0, .bool false, .int .i64 0, .int .i64 0, .int .i64 0, .int .i64 0, .int .i64 0, .string (⟨#[]⟩ : ByteArray)] 25 (0, 0)) (by (with_reducible repeat (first | refine blk_drewN ?_ _ | refine blk_drew ?_ | refine blk_alloc ?_ _)); exact BK279.out) hb)
                                 have n1_ := Aside0.mk (below_step (by repeat (first | (with_reducible first | exact HB.out | apply below_alloc | apply pw_below_drewN | apply below_drew1 | refine below_set ?_ GE279.out) | exact HB.out)) hb)
                                 have n2_ := Aside0.mk (hbox)
                                 have n3_ := Aside0.mk ((by rw [hg]; exact (below_size (by repeat (first | (with_reducible first | exact HB.out | apply below_alloc | apply pw_below_drewN | apply below_drew1 | refine below_set ?_ GE279.out) | exact HB.out))) : w.heap.size ≤ gb295))
                                 have n4_ := Aside0.mk ((by rw [hg]; exact (below_size (by repeat (first | (with_reducible first | exact HB.out | apply below_alloc | apply pw_below_drewN | apply below_drew1 | refine below_set ?_ GE279.out) | exact HB.out))) : w.heap.size ≤ gb295))
                                 have n5_ := Aside0.mk ((by rw [hg]; exact Nat.ne_of_lt (blk_lt (g := gb279) (o := .cells #[.int .i64 0, .int .i64 0, .bool false, .int .i64 0, .int .i64 0, .int .i64 0, .int .i64 0, .int .i64 0, .string (⟨#[]⟩ : ByteArray)] 25 (0, 0)) (by (with_reducible repeat (first | refine blk_drewN ?_ _ | refine blk_drew ?_ | refine blk_alloc ?_ _)); exact BK279.out)) : gb279 ≠ gb295))
                                 have n6_ := Aside0.mk ((by rw [hg]; exact Nat.ne_of_gt (blk_lt (g := gb279) (o := .cells #[.int .i64 0, .int .i64 0, .bool false, .int .i64 0, .int .i64 0, .int .i64 0, .int .i64 0, .int .i64 0, .string (⟨#[]⟩ : ByteArray)] 25 (0, 0)) (by (with_reducible repeat (first | refine blk_drewN ?_ _ | refine blk_drew ?_ | refine blk_alloc ?_ _)); exact BK279.out)) : gb295 ≠ gb279))
                                 clear BK279
                                 clear HB
                                 have BK279 := n0_
                                 have HB := n1_
                                 have BK295 := n2_
                                 have GW295 := n3_
                                 have GE295 := n4_
                                 have NB279_295 := n5_
                                 have NB295_279 := n6_
                                 clear n0_ n1_ n2_ n3_ n4_ n5_ n6_
                                 clear hb hbox hg
                                 refine hK.out _ _ (((HB.out.cell (World.block_lt_of_cell? w _ hw284_0)).trans hw284_0)) (fun hHeld => ?_)
                                 clear hK K
                                 refine norm_ (a' := ?_) ?_ ?_
                                 rotate_left
                                 ·show Act.put _ (some 4) _ = _
                                  simp only [Act.put, List.setIfInBounds_toArray, List.set_cons_zero, List.set_cons_succ, i64_w, i32_w]
                                  rfl
                                 exact norm_ (by first | (simp only [putAll, Act.put, List.setIfInBounds_toArray, List.set_cons_zero, List.set_cons_succ]; done) | (simp only [putAll, Act.put, List.setIfInBounds_toArray, List.set_cons_zero, List.set_cons_succ]; rfl)) (hJ2_27 (gb295) _ ⟨hHeld, (by (with_reducible repeat (first | refine blk_drewN ?_ _ | refine blk_drew ?_ | refine blk_alloc ?_ _)); exact BK279.out), (by (with_reducible repeat (first | refine blk_drewN ?_ _ | refine blk_drew ?_ | refine blk_alloc ?_ _)); exact BK295.out), GW295.out, GE295.out, NB279_295.out, NB295_279.out, (by repeat (first | (with_reducible first | exact HB.out | apply below_alloc | apply pw_below_drewN | apply below_drew1 | refine below_set ?_ GE279.out | refine below_set ?_ GE295.out) | exact HB.out))⟩)
                              ·skip
                               rintro gb295 w37 ⟨hS_, h0_, h1_, h2_, h3_, h4_, h5_, h6_⟩
                               have n0_ : Aside0 (w37.heap[gb279]? = some (.cells #[.int .i64 0, .int .i64 0, .bool false, .int .i64 0, .int .i64 0, .int .i64 0, .int .i64 0, .int .i64 0, .string (⟨#[]⟩ : ByteArray)] 25 (0, 0))) := ⟨h0_⟩
                               have n1_ : Aside0 (w37.heap[gb295]? = some (.cells #[.int .i64 0, .int .i64 0, .bool false, .int .i64 0, .int .i64 0, .int .i64 0, .int .i64 0, .int .i64 0, .string (⟨#[]⟩ : ByteArray)] 25 (0, 0))) := ⟨h1_⟩
                               have n2_ : Aside0 (w.heap.size ≤ gb295) := ⟨h2_⟩
                               have n3_ : Aside0 (w.heap.size ≤ gb295) := ⟨h3_⟩
                               have n4_ : Aside0 (gb279 ≠ gb295) := ⟨h4_⟩
                               have n5_ : Aside0 (gb295 ≠ gb279) := ⟨h5_⟩
                               have n6_ : Aside0 (Below w.heap.size w w37) := ⟨h6_⟩
                               clear BK279
                               clear HB
                               clear h0_ h1_ h2_ h3_ h4_ h5_ h6_
                               have BK279 := n0_
                               have BK295 := n1_
                               have GW295 := n2_
                               have GE295 := n3_
                               have NB279_295 := n4_
                               have NB295_279 := n5_
                               have HB := n6_
                               clear n0_ n1_ n2_ n3_ n4_ n5_ n6_
                               have hHeld : w37.cell? ⟨ad284.block, ad284.off + 10, none⟩ = some (.int .u8 (rd l0 10)) := hS_
                               refine norm_ (a' := ?_) ?_ ?_
                               rotate_left
                               ·simp only [putAll, Act.put, List.setIfInBounds_toArray, List.set_cons_zero, List.set_cons_succ]
                                rfl
                               refine one_ (i := 5) (N := some 16) #[true, true, true, true, true, true, true, true, true, true, true, true, false, true, true, false, true, true, false, true, true, false, true, true, false, false, false, true, false] rfl rfl (one_of HT_.out (by kernel_rfl)) (by decide) (fun K hK => ?_)
                               refine goes_ Try.func26 (by kernel_rfl) rfl #[.slice A30 ((l0.take 10).drop 6).length (c0 - 6)] (by rfl) rfl rfl (by (try simp only [List.map_toArray, List.map_cons, List.map_nil]); first | done | (rw [show ((l0.take 10).drop 6).length = (10 - 6) from (by rw [List.length_drop, List.length_take]; have h_ : (10 : Int) ≤ (l0.length : Int) := of_decide_eq_true (by first | (with_reducible assumption) | assumption); omega)] <;> rfl) | rfl | (simp only [List.length_drop, List.length_take]; rfl)) ?_
                               with_reducible refine (stowageref15_get.calls k _ _ ((l0.take 10).drop 6) t283 _ ?side1 ?side2 A8.out).mono ?_
                               (case side1 => repeat (first | exact (Kd.C_below HR282.out HB.out) | (with_reducible refine Kd.C_alloc ?_ _) | (with_reducible refine Kd.C_drewN ?_ _) | (with_reducible refine Kd.C_drew ?_)))
                               (case side2 => exact HC282.out)
                               rintro e w' ⟨rfl, ⟨nd, rfl⟩⟩
                               refine ⟨_, rfl, ?_⟩
                               refine hK.out _ _ (((HB.out.cell (World.block_lt_of_cell? w _ hw284_0)).trans hw284_0)) (fun hHeld => ?_)
                               clear hK K
                               refine norm_ (a' := ?_) ?_ ?_
                               rotate_left
                               ·show Act.put _ (some 16) _ = _
                                simp only [Act.put, List.setIfInBounds_toArray, List.set_cons_zero, List.set_cons_succ, i64_w, i32_w]
                                rfl
                               exact norm_ (by first | (simp only [putAll, Act.put, List.setIfInBounds_toArray, List.set_cons_zero, List.set_cons_succ]; done) | (simp only [putAll, Act.put, List.setIfInBounds_toArray, List.set_cons_zero, List.set_cons_succ]; rfl)) (hJ2_5_27 (gb295) _ ⟨hHeld, (by (with_reducible repeat (first | refine blk_drewN ?_ _ | refine blk_drew ?_ | refine blk_alloc ?_ _)); exact BK279.out), (by (with_reducible repeat (first | refine blk_drewN ?_ _ | refine blk_drew ?_ | refine blk_alloc ?_ _)); exact BK295.out), GW295.out, GE295.out, NB279_295.out, NB295_279.out, (by repeat (first | (with_reducible first | exact HB.out | apply below_alloc | apply pw_below_drewN | apply below_drew1 | refine below_set ?_ GE279.out | refine below_set ?_ GE295.out) | exact HB.out))⟩)
                             ·skip
                              rintro _ w36 ⟨hS_, h0_, h1_⟩
                              have n0_ : Aside0 (w36.heap[gb279]? = some (.cells #[.int .i64 0, .int .i64 0, .bool false, .int .i64 0, .int .i64 0, .int .i64 0, .int .i64 0, .int .i64 0, .string (⟨#[]⟩ : ByteArray)] 25 (0, 0))) := ⟨h0_⟩
                              have n1_ : Aside0 (Below w.heap.size w w36) := ⟨h1_⟩
                              clear BK279
                              clear HB
                              clear h0_ h1_
                              have BK279 := n0_
                              have HB := n1_
                              clear n0_ n1_
                              have hHeld : w36.cell? ⟨ad284.block, ad284.off + 10, none⟩ = some (.int .u8 (rd l0 10)) := hS_
                              refine norm_ (a' := ?_) ?_ ?_
                              rotate_left
                              ·simp only [putAll, Act.put, List.setIfInBounds_toArray, List.set_cons_zero, List.set_cons_succ]
                               rfl
                              refine two_ (i := 12) (j := 27) (Ni := some 23) (Nj := some 4) #[true, true, true, true, true, true, true, true, true, true, true, true, true, true, true, false, true, true, false, true, true, false, true, true, false, false, false, false, false] #[true, true, true, true, true, true, true, true, true, true, true, true, false, true, true, false, true, true, false, true, true, false, true, true, false, false, false, true, false] rfl rfl rfl rfl (two_of HT_.out (by kernel_rfl)) (by decide) (by decide) (fun K hK => ?_) (fun K hK => ?_)
                              ·skip
                               refine goes_ Try.func26 (by kernel_rfl) rfl #[.slice A31 ((l0.take 12).drop 11).length (c0 - 11)] (by rfl) rfl rfl (by (try simp only [List.map_toArray, List.map_cons, List.map_nil]); first | done | (rw [show ((l0.take 12).drop 11).length = (12 - 11) from (by rw [List.length_drop, List.length_take]; have h_ : (12 : Int) ≤ (l0.length : Int) := of_decide_eq_true (by first | (with_reducible assumption) | assumption); omega)] <;> rfl) | rfl | (simp only [List.length_drop, List.length_take]; rfl)) ?_
                               with_reducible refine (stowageref15_get.calls k _ _ ((l0.take 12).drop 11) t286 _ ?side1 ?side2 A12.out).mono ?_
                               (case side1 => repeat (first | exact (Kd.C_below HR285.out HB.out) | (with_reducible refine Kd.C_alloc ?_ _) | (with_reducible refine Kd.C_drewN ?_ _) | (with_reducible refine Kd.C_drew ?_)))
                               (case side2 => exact HC285.out)
                               rintro e w' ⟨rfl, ⟨nd, rfl⟩⟩
                               refine ⟨_, rfl, ?_⟩
                               refine hK.out _ _ (((HB.out.cell (World.block_lt_of_cell? w _ hw284_0)).trans hw284_0)) (fun hHeld => ?_)
                               clear hK K
                               refine norm_ (a' := ?_) ?_ ?_
                               rotate_left
                               ·show Act.put _ (some 23) _ = _
                                simp only [Act.put, List.setIfInBounds_toArray, List.set_cons_zero, List.set_cons_succ, i64_w, i32_w]
                                rfl
                               exact norm_ (by first | (simp only [putAll, Act.put, List.setIfInBounds_toArray, List.set_cons_zero, List.set_cons_succ]; done) | (simp only [putAll, Act.put, List.setIfInBounds_toArray, List.set_cons_zero, List.set_cons_succ]; rfl)) (hJ2_5_12 () _ ⟨hHeld, (by (with_reducible repeat (first | refine blk_drewN ?_ _ | refine blk_drew ?_ | refine blk_alloc ?_ _)); exact BK279.out), (by repeat (first | (with_reducible first | exact HB.out | apply below_alloc | apply pw_below_drewN | apply below_drew1 | refine below_set ?_ GE279.out) | exact HB.out))⟩)
                              ·skip
                               refine box_step ?hg (N := 4) ?hd (cs := #[.int .i64 0, .int .i64 0, .bool false, .int .i64 0, .int .i64 0, .int .i64 0, .int .i64 0, .int .i64 0, .string (⟨#[]⟩ : ByteArray)]) (t := 25) ?hr ?_; (case hd => rfl); (case hg => rfl); (case hr => first | (go_simp; done) | (go_simp; rfl))
                               intro gb295 hg w37 hbox hb
                               have n0_ := Aside0.mk (blk_below (g := gb279) (o := .cells #[.int .i64 0, .int .i64 0, .bool false, .int .i64 0, .int .i64 0, .int .i64 0, .int .i64 0, .int .i64 0, .string (⟨#[]⟩ : ByteArray)] 25 (0, 0)) (by (with_reducible repeat (first | refine blk_drewN ?_ _ | refine blk_drew ?_ | refine blk_alloc ?_ _)); exact BK279.out) hb)
                               have n1_ := Aside0.mk (below_step (by repeat (first | (with_reducible first | exact HB.out | apply below_alloc | apply pw_below_drewN | apply below_drew1 | refine below_set ?_ GE279.out) | exact HB.out)) hb)
                               have n2_ := Aside0.mk (hbox)
                               have n3_ := Aside0.mk ((by rw [hg]; exact (below_size (by repeat (first | (with_reducible first | exact HB.out | apply below_alloc | apply pw_below_drewN | apply below_drew1 | refine below_set ?_ GE279.out) | exact HB.out))) : w.heap.size ≤ gb295))
                               have n4_ := Aside0.mk ((by rw [hg]; exact (below_size (by repeat (first | (with_reducible first | exact HB.out | apply below_alloc | apply pw_below_drewN | apply below_drew1 | refine below_set ?_ GE279.out) | exact HB.out))) : w.heap.size ≤ gb295))
                               have n5_ := Aside0.mk ((by rw [hg]; exact Nat.ne_of_lt (blk_lt (g := gb279) (o := .cells #[.int .i64 0, .int .i64 0, .bool false, .int .i64 0, .int .i64 0, .int .i64 0, .int .i64 0, .int .i64 0, .string (⟨#[]⟩ : ByteArray)] 25 (0, 0)) (by (with_reducible repeat (first | refine blk_drewN ?_ _ | refine blk_drew ?_ | refine blk_alloc ?_ _)); exact BK279.out)) : gb279 ≠ gb295))
                               have n6_ := Aside0.mk ((by rw [hg]; exact Nat.ne_of_gt (blk_lt (g := gb279) (o := .cells #[.int .i64 0, .int .i64 0, .bool false, .int .i64 0, .int .i64 0, .int .i64 0, .int .i64 0, .int .i64 0, .string (⟨#[]⟩ : ByteArray)] 25 (0, 0)) (by (with_reducible repeat (first | refine blk_drewN ?_ _ | refine blk_drew ?_ | refine blk_alloc ?_ _)); exact BK279.out)) : gb295 ≠ gb279))
                               clear BK279
                               clear HB
                               have BK279 := n0_
                               have HB := n1_
                               have BK295 := n2_
                               have GW295 := n3_
                               have GE295 := n4_
                               have NB279_295 := n5_
                               have NB295_279 := n6_
                               clear n0_ n1_ n2_ n3_ n4_ n5_ n6_
                               clear hb hbox hg
                               refine hK.out _ _ (((HB.out.cell (World.block_lt_of_cell? w _ hw284_0)).trans hw284_0)) (fun hHeld => ?_)
                               clear hK K
                               refine norm_ (a' := ?_) ?_ ?_
                               rotate_left
                               ·show Act.put _ (some 4) _ = _
                                simp only [Act.put, List.setIfInBounds_toArray, List.set_cons_zero, List.set_cons_succ, i64_w, i32_w]
                                rfl
                               exact norm_ (by first | (simp only [putAll, Act.put, List.setIfInBounds_toArray, List.set_cons_zero, List.set_cons_succ]; done) | (simp only [putAll, Act.put, List.setIfInBounds_toArray, List.set_cons_zero, List.set_cons_succ]; rfl)) (hJ2_5_27 (gb295) _ ⟨hHeld, (by (with_reducible repeat (first | refine blk_drewN ?_ _ | refine blk_drew ?_ | refine blk_alloc ?_ _)); exact BK279.out), (by (with_reducible repeat (first | refine blk_drewN ?_ _ | refine blk_drew ?_ | refine blk_alloc ?_ _)); exact BK295.out), GW295.out, GE295.out, NB279_295.out, NB295_279.out, (by repeat (first | (with_reducible first | exact HB.out | apply below_alloc | apply pw_below_drewN | apply below_drew1 | refine below_set ?_ GE279.out | refine below_set ?_ GE295.out) | exact HB.out))⟩)
                            ·skip
                             rintro gb295 w37 ⟨hS_, h0_, h1_, h2_, h3_, h4_, h5_, h6_⟩
                             have n0_ : Aside0 (w37.heap[gb279]? = some (.cells #[.int .i64 0, .int .i64 0, .bool false, .int .i64 0, .int .i64 0, .int .i64 0, .int .i64 0, .int .i64 0, .string (⟨#[]⟩ : ByteArray)] 25 (0, 0))) := ⟨h0_⟩
                             have n1_ : Aside0 (w37.heap[gb295]? = some (.cells #[.int .i64 0, .int .i64 0, .bool false, .int .i64 0, .int .i64 0, .int .i64 0, .int .i64 0, .int .i64 0, .string (⟨#[]⟩ : ByteArray)] 25 (0, 0))) := ⟨h1_⟩
                             have n2_ : Aside0 (w.heap.size ≤ gb295) := ⟨h2_⟩
                             have n3_ : Aside0 (w.heap.size ≤ gb295) := ⟨h3_⟩
                             have n4_ : Aside0 (gb279 ≠ gb295) := ⟨h4_⟩
                             have n5_ : Aside0 (gb295 ≠ gb279) := ⟨h5_⟩
                             have n6_ : Aside0 (Below w.heap.size w w37) := ⟨h6_⟩
                             clear BK279
                             clear HB
                             clear h0_ h1_ h2_ h3_ h4_ h5_ h6_
                             have BK279 := n0_
                             have BK295 := n1_
                             have GW295 := n2_
                             have GE295 := n3_
                             have NB279_295 := n4_
                             have NB295_279 := n5_
                             have HB := n6_
                             clear n0_ n1_ n2_ n3_ n4_ n5_ n6_
                             have hHeld : w37.cell? ⟨ad284.block, ad284.off + 10, none⟩ = some (.int .u8 (rd l0 10)) := hS_
                             refine norm_ (a' := ?_) ?_ ?_
                             rotate_left
                             ·simp only [putAll, Act.put, List.setIfInBounds_toArray, List.set_cons_zero, List.set_cons_succ]
                              rfl
                             refine one_ (i := 12) (N := some 23) #[true, true, true, true, true, true, true, true, true, true, true, true, true, true, true, false, true, true, false, true, true, false, true, true, false, false, false, true, false] rfl rfl (one_of HT_.out (by kernel_rfl)) (by decide) (fun K hK => ?_)
                             refine goes_ Try.func26 (by kernel_rfl) rfl #[.slice A31 ((l0.take 12).drop 11).length (c0 - 11)] (by rfl) rfl rfl (by (try simp only [List.map_toArray, List.map_cons, List.map_nil]); first | done | (rw [show ((l0.take 12).drop 11).length = (12 - 11) from (by rw [List.length_drop, List.length_take]; have h_ : (12 : Int) ≤ (l0.length : Int) := of_decide_eq_true (by first | (with_reducible assumption) | assumption); omega)] <;> rfl) | rfl | (simp only [List.length_drop, List.length_take]; rfl)) ?_
                             with_reducible refine (stowageref15_get.calls k _ _ ((l0.take 12).drop 11) t286 _ ?side1 ?side2 A12.out).mono ?_
                             (case side1 => repeat (first | exact (Kd.C_below HR285.out HB.out) | (with_reducible refine Kd.C_alloc ?_ _) | (with_reducible refine Kd.C_drewN ?_ _) | (with_reducible refine Kd.C_drew ?_)))
                             (case side2 => exact HC285.out)
                             rintro e w' ⟨rfl, ⟨nd, rfl⟩⟩
                             refine ⟨_, rfl, ?_⟩
                             refine hK.out _ _ (((HB.out.cell (World.block_lt_of_cell? w _ hw284_0)).trans hw284_0)) (fun hHeld => ?_)
                             clear hK K
                             refine norm_ (a' := ?_) ?_ ?_
                             rotate_left
                             ·show Act.put _ (some 23) _ = _
                              simp only [Act.put, List.setIfInBounds_toArray, List.set_cons_zero, List.set_cons_succ, i64_w, i32_w]
                              rfl
                             exact norm_ (by first | (simp only [putAll, Act.put, List.setIfInBounds_toArray, List.set_cons_zero, List.set_cons_succ]; done) | (simp only [putAll, Act.put, List.setIfInBounds_toArray, List.set_cons_zero, List.set_cons_succ]; rfl)) (hJ2_5_12_27 (gb295) _ ⟨hHeld, (by (with_reducible repeat (first | refine blk_drewN ?_ _ | refine blk_drew ?_ | refine blk_alloc ?_ _)); exact BK279.out), (by (with_reducible repeat (first | refine blk_drewN ?_ _ | refine blk_drew ?_ | refine blk_alloc ?_ _)); exact BK295.out), GW295.out, GE295.out, NB279_295.out, NB295_279.out, (by repeat (first | (with_reducible first | exact HB.out | apply below_alloc | apply pw_below_drewN | apply below_drew1 | refine below_set ?_ GE279.out | refine below_set ?_ GE295.out) | exact HB.out))⟩)
                           ·skip
                            rintro _ w36 ⟨hS_, h0_, h1_⟩
                            have n0_ : Aside0 (w36.heap[gb279]? = some (.cells #[.int .i64 0, .int .i64 0, .bool false, .int .i64 0, .int .i64 0, .int .i64 0, .int .i64 0, .int .i64 0, .string (⟨#[]⟩ : ByteArray)] 25 (0, 0))) := ⟨h0_⟩
                            have n1_ : Aside0 (Below w.heap.size w w36) := ⟨h1_⟩
                            clear BK279
                            clear HB
                            clear h0_ h1_
                            have BK279 := n0_
                            have HB := n1_
                            clear n0_ n1_
                            have hHeld : w36.cell? ⟨ad284.block, ad284.off + 10, none⟩ = some (.int .u8 (rd l0 10)) := hS_
                            refine norm_ (a' := ?_) ?_ ?_
                            rotate_left
                            ·simp only [putAll, Act.put, List.setIfInBounds_toArray, List.set_cons_zero, List.set_cons_succ]
                             rfl
                            refine two_ (i := 15) (j := 27) (Ni := some 26) (Nj := some 4) #[true, true, true, true, true, true, true, true, true, true, true, true, true, true, true, true, true, true, false, true, true, false, true, true, false, false, false, false, false] #[true, true, true, true, true, true, true, true, true, true, true, true, true, true, true, false, true, true, false, true, true, false, true, true, false, false, false, true, false] rfl rfl rfl rfl (two_of HT_.out (by kernel_rfl)) (by decide) (by decide) (fun K hK => ?_) (fun K hK => ?_)
                            ·skip
                             refine goes_ Try.func26 (by kernel_rfl) rfl #[.slice A32 ((l0.take 19).drop 12).length (c0 - 12)] (by rfl) rfl rfl (by (try simp only [List.map_toArray, List.map_cons, List.map_nil]); first | done | (rw [show ((l0.take 19).drop 12).length = (19 - 12) from (by rw [List.length_drop, List.length_take]; have h_ : (19 : Int) ≤ (l0.length : Int) := of_decide_eq_true (by first | (with_reducible assumption) | assumption); omega)] <;> rfl) | rfl | (simp only [List.length_drop, List.length_take]; rfl)) ?_
                             with_reducible refine (stowageref15_get.calls k _ _ ((l0.take 19).drop 12) t288 _ ?side1 ?side2 A15.out).mono ?_
                             (case side1 => repeat (first | exact (Kd.C_below HR287.out HB.out) | (with_reducible refine Kd.C_alloc ?_ _) | (with_reducible refine Kd.C_drewN ?_ _) | (with_reducible refine Kd.C_drew ?_)))
                             (case side2 => exact HC287.out)
                             rintro e w' ⟨rfl, ⟨nd, rfl⟩⟩
                             refine ⟨_, rfl, ?_⟩
                             refine hK.out _ _ (((HB.out.cell (World.block_lt_of_cell? w _ hw284_0)).trans hw284_0)) (fun hHeld => ?_)
                             clear hK K
                             refine norm_ (a' := ?_) ?_ ?_
                             rotate_left
                             ·show Act.put _ (some 26) _ = _
                              simp only [Act.put, List.setIfInBounds_toArray, List.set_cons_zero, List.set_cons_succ, i64_w, i32_w]
                              rfl
                             exact norm_ (by first | (simp only [putAll, Act.put, List.setIfInBounds_toArray, List.set_cons_zero, List.set_cons_succ]; done) | (simp only [putAll, Act.put, List.setIfInBounds_toArray, List.set_cons_zero, List.set_cons_succ]; rfl)) (hJ2_5_12_15 () _ ⟨hHeld, (by (with_reducible repeat (first | refine blk_drewN ?_ _ | refine blk_drew ?_ | refine blk_alloc ?_ _)); exact BK279.out), (by repeat (first | (with_reducible first | exact HB.out | apply below_alloc | apply pw_below_drewN | apply below_drew1 | refine below_set ?_ GE279.out) | exact HB.out))⟩)
                            ·skip
                             refine box_step ?hg (N := 4) ?hd (cs := #[.int .i64 0, .int .i64 0, .bool false, .int .i64 0, .int .i64 0, .int .i64 0, .int .i64 0, .int .i64 0, .string (⟨#[]⟩ : ByteArray)]) (t := 25) ?hr ?_; (case hd => rfl); (case hg => rfl); (case hr => first | (go_simp; done) | (go_simp; rfl))
                             intro gb295 hg w37 hbox hb
                             have n0_ := Aside0.mk (blk_below (g := gb279) (o := .cells #[.int .i64 0, .int .i64 0, .bool false, .int .i64 0, .int .i64 0, .int .i64 0, .int .i64 0, .int .i64 0, .string (⟨#[]⟩ : ByteArray)] 25 (0, 0)) (by (with_reducible repeat (first | refine blk_drewN ?_ _ | refine blk_drew ?_ | refine blk_alloc ?_ _)); exact BK279.out) hb)
                             have n1_ := Aside0.mk (below_step (by repeat (first | (with_reducible first | exact HB.out | apply below_alloc | apply pw_below_drewN | apply below_drew1 | refine below_set ?_ GE279.out) | exact HB.out)) hb)
                             have n2_ := Aside0.mk (hbox)
                             have n3_ := Aside0.mk ((by rw [hg]; exact (below_size (by repeat (first | (with_reducible first | exact HB.out | apply below_alloc | apply pw_below_drewN | apply below_drew1 | refine below_set ?_ GE279.out) | exact HB.out))) : w.heap.size ≤ gb295))
                             have n4_ := Aside0.mk ((by rw [hg]; exact (below_size (by repeat (first | (with_reducible first | exact HB.out | apply below_alloc | apply pw_below_drewN | apply below_drew1 | refine below_set ?_ GE279.out) | exact HB.out))) : w.heap.size ≤ gb295))
                             have n5_ := Aside0.mk ((by rw [hg]; exact Nat.ne_of_lt (blk_lt (g := gb279) (o := .cells #[.int .i64 0, .int .i64 0, .bool false, .int .i64 0, .int .i64 0, .int .i64 0, .int .i64 0, .int .i64 0, .string (⟨#[]⟩ : ByteArray)] 25 (0, 0)) (by (with_reducible repeat (first | refine blk_drewN ?_ _ | refine blk_drew ?_ | refine blk_alloc ?_ _)); exact BK279.out)) : gb279 ≠ gb295))
                             have n6_ := Aside0.mk ((by rw [hg]; exact Nat.ne_of_gt (blk_lt (g := gb279) (o := .cells #[.int .i64 0, .int .i64 0, .bool false, .int .i64 0, .int .i64 0, .int .i64 0, .int .i64 0, .int .i64 0, .string (⟨#[]⟩ : ByteArray)] 25 (0, 0)) (by (with_reducible repeat (first | refine blk_drewN ?_ _ | refine blk_drew ?_ | refine blk_alloc ?_ _)); exact BK279.out)) : gb295 ≠ gb279))
                             clear BK279
                             clear HB
                             have BK279 := n0_
                             have HB := n1_
                             have BK295 := n2_
                             have GW295 := n3_
                             have GE295 := n4_
                             have NB279_295 := n5_
                             have NB295_279 := n6_
                             clear n0_ n1_ n2_ n3_ n4_ n5_ n6_
                             clear hb hbox hg
                             refine hK.out _ _ (((HB.out.cell (World.block_lt_of_cell? w _ hw284_0)).trans hw284_0)) (fun hHeld => ?_)
                             clear hK K
                             refine norm_ (a' := ?_) ?_ ?_
                             rotate_left
                             ·show Act.put _ (some 4) _ = _
                              simp only [Act.put, List.setIfInBounds_toArray, List.set_cons_zero, List.set_cons_succ, i64_w, i32_w]
                              rfl
                             exact norm_ (by first | (simp only [putAll, Act.put, List.setIfInBounds_toArray, List.set_cons_zero, List.set_cons_succ]; done) | (simp only [putAll, Act.put, List.setIfInBounds_toArray, List.set_cons_zero, List.set_cons_succ]; rfl)) (hJ2_5_12_27 (gb295) _ ⟨hHeld, (by (with_reducible repeat (first | refine blk_drewN ?_ _ | refine blk_drew ?_ | refine blk_alloc ?_ _)); exact BK279.out), (by (with_reducible repeat (first | refine blk_drewN ?_ _ | refine blk_drew ?_ | refine blk_alloc ?_ _)); exact BK295.out), GW295.out, GE295.out, NB279_295.out, NB295_279.out, (by repeat (first | (with_reducible first | exact HB.out | apply below_alloc | apply pw_below_drewN | apply below_drew1 | refine below_set ?_ GE279.out | refine below_set ?_ GE295.out) | exact HB.out))⟩)
                          ·skip
                           rintro gb295 w37 ⟨hS_, h0_, h1_, h2_, h3_, h4_, h5_, h6_⟩
                           have n0_ : Aside0 (w37.heap[gb279]? = some (.cells #[.int .i64 0, .int .i64 0, .bool false, .int .i64 0, .int .i64 0, .int .i64 0, .int .i64 0, .int .i64 0, .string (⟨#[]⟩ : ByteArray)] 25 (0, 0))) := ⟨h0_⟩
                           have n1_ : Aside0 (w37.heap[gb295]? = some (.cells #[.int .i64 0, .int .i64 0, .bool false, .int .i64 0, .int .i64 0, .int .i64 0, .int .i64 0, .int .i64 0, .string (⟨#[]⟩ : ByteArray)] 25 (0, 0))) := ⟨h1_⟩
                           have n2_ : Aside0 (w.heap.size ≤ gb295) := ⟨h2_⟩
                           have n3_ : Aside0 (w.heap.size ≤ gb295) := ⟨h3_⟩
                           have n4_ : Aside0 (gb279 ≠ gb295) := ⟨h4_⟩
                           have n5_ : Aside0 (gb295 ≠ gb279) := ⟨h5_⟩
                           have n6_ : Aside0 (Below w.heap.size w w37) := ⟨h6_⟩
                           clear BK279
                           clear HB
                           clear h0_ h1_ h2_ h3_ h4_ h5_ h6_
                           have BK279 := n0_
                           have BK295 := n1_
                           have GW295 := n2_
                           have GE295 := n3_
                           have NB279_295 := n4_
                           have NB295_279 := n5_
                           have HB := n6_
                           clear n0_ n1_ n2_ n3_ n4_ n5_ n6_
                           have hHeld : w37.cell? ⟨ad284.block, ad284.off + 10, none⟩ = some (.int .u8 (rd l0 10)) := hS_
                           refine norm_ (a' := ?_) ?_ ?_
                           rotate_left
                           ·simp only [putAll, Act.put, List.setIfInBounds_toArray, List.set_cons_zero, List.set_cons_succ]
                            rfl
                           refine one_ (i := 15) (N := some 26) #[true, true, true, true, true, true, true, true, true, true, true, true, true, true, true, true, true, true, false, true, true, false, true, true, false, false, false, true, false] rfl rfl (one_of HT_.out (by kernel_rfl)) (by decide) (fun K hK => ?_)
                           refine goes_ Try.func26 (by kernel_rfl) rfl #[.slice A32 ((l0.take 19).drop 12).length (c0 - 12)] (by rfl) rfl rfl (by (try simp only [List.map_toArray, List.map_cons, List.map_nil]); first | done | (rw [show ((l0.take 19).drop 12).length = (19 - 12) from (by rw [List.length_drop, List.length_take]; have h_ : (19 : Int) ≤ (l0.length : Int) := of_decide_eq_true (by first | (with_reducible assumption) | assumption); omega)] <;> rfl) | rfl | (simp only [List.length_drop, List.length_take]; rfl)) ?_
                           with_reducible refine (stowageref15_get.calls k _ _ ((l0.take 19).drop 12) t288 _ ?side1 ?side2 A15.out).mono ?_
                           (case side1 => repeat (first | exact (Kd.C_below HR287.out HB.out) | (with_reducible refine Kd.C_alloc ?_ _) | (with_reducible refine Kd.C_drewN ?_ _) | (with_reducible refine Kd.C_drew ?_)))
                           (case side2 => exact HC287.out)
                           rintro e w' ⟨rfl, ⟨nd, rfl⟩⟩
                           refine ⟨_, rfl, ?_⟩
                           refine hK.out _ _ (((HB.out.cell (World.block_lt_of_cell? w _ hw284_0)).trans hw284_0)) (fun hHeld => ?_)
                           clear hK K
                           refine norm_ (a' := ?_) ?_ ?_
                           rotate_left
                           ·show Act.put _ (some 26) _ = _
                            simp only [Act.put, List.setIfInBounds_toArray, List.set_cons_zero, List.set_cons_succ, i64_w, i32_w]
                            rfl
                           exact norm_ (by first | (simp only [putAll, Act.put, List.setIfInBounds_toArray, List.set_cons_zero, List.set_cons_succ]; done) | (simp only [putAll, Act.put, List.setIfInBounds_toArray, List.set_cons_zero, List.set_cons_succ]; rfl)) (hJ2_5_12_15_27 (gb295) _ ⟨hHeld, (by (with_reducible repeat (first | refine blk_drewN ?_ _ | refine blk_drew ?_ | refine blk_alloc ?_ _)); exact BK279.out), (by (with_reducible repeat (first | refine blk_drewN ?_ _ | refine blk_drew ?_ | refine blk_alloc ?_ _)); exact BK295.out), GW295.out, GE295.out, NB279_295.out, NB295_279.out, (by repeat (first | (with_reducible first | exact HB.out | apply below_alloc | apply pw_below_drewN | apply below_drew1 | refine below_set ?_ GE279.out | refine below_set ?_ GE295.out) | exact HB.out))⟩)
                         ·skip
                          rintro _ w36 ⟨hS_, h0_, h1_⟩
                          have n0_ : Aside0 (w36.heap[gb279]? = some (.cells #[.int .i64 0, .int .i64 0, .bool false, .int .i64 0, .int .i64 0, .int .i64 0, .int .i64 0, .int .i64 0, .string (⟨#[]⟩ : ByteArray)] 25 (0, 0))) := ⟨h0_⟩
                          have n1_ : Aside0 (Below w.heap.size w w36) := ⟨h1_⟩
                          clear BK279
                          clear HB
                          clear h0_ h1_
                          have BK279 := n0_
                          have HB := n1_
                          clear n0_ n1_
                          have hHeld : w36.cell? ⟨ad284.block, ad284.off + 10, none⟩ = some (.int .u8 (rd l0 10)) := hS_
                          refine norm_ (a' := ?_) ?_ ?_
                          rotate_left
                          ·simp only [putAll, Act.put, List.setIfInBounds_toArray, List.set_cons_zero, List.set_cons_succ]
                           rfl
                          refine two_ (i := 18) (j := 27) (Ni := some 29) (Nj := some 4) #[true, true, true, true, true, true, true, true, true, true, true, true, true, true, true, true, true, true, true, true, true, false, true, true, false, false, false, false, false] #[true, true, true, true, true, true, true, true, true, true, true, true, true, true, true, true, true, true, false, true, true, false, true, true, false, false, false, true, false] rfl rfl rfl rfl (two_of HT_.out (by kernel_rfl)) (by decide) (by decide) (fun K hK => ?_) (fun K hK => ?_)
                          ·skip
                           refine goes_ Try.func26 (by kernel_rfl) rfl #[.slice A33 ((l0.take 26).drop 19).length (c0 - 19)] (by rfl) rfl rfl (by (try simp only [List.map_toArray, List.map_cons, List.map_nil]); first | done | (rw [show ((l0.take 26).drop 19).length = (26 - 19) from (by rw [List.length_drop, List.length_take]; have h_ : (26 : Int) ≤ (l0.length : Int) := of_decide_eq_true (by first | (with_reducible assumption) | assumption); omega)] <;> rfl) | rfl | (simp only [List.length_drop, List.length_take]; rfl)) ?_
                           with_reducible refine (stowageref15_get.calls k _ _ ((l0.take 26).drop 19) t290 _ ?side1 ?side2 A18.out).mono ?_
                           (case side1 => repeat (first | exact (Kd.C_below HR289.out HB.out) | (with_reducible refine Kd.C_alloc ?_ _) | (with_reducible refine Kd.C_drewN ?_ _) | (with_reducible refine Kd.C_drew ?_)))
                           (case side2 => exact HC289.out)
                           rintro e w' ⟨rfl, ⟨nd, rfl⟩⟩
                           refine ⟨_, rfl, ?_⟩
                           refine hK.out _ _ (((HB.out.cell (World.block_lt_of_cell? w _ hw284_0)).trans hw284_0)) (fun hHeld => ?_)
                           clear hK K
                           refine norm_ (a' := ?_) ?_ ?_
                           rotate_left
                           ·show Act.put _ (some 29) _ = _
                            simp only [Act.put, List.setIfInBounds_toArray, List.set_cons_zero, List.set_cons_succ, i64_w, i32_w]
                            rfl
                           exact norm_ (by first | (simp only [putAll, Act.put, List.setIfInBounds_toArray, List.set_cons_zero, List.set_cons_succ]; done) | (simp only [putAll, Act.put, List.setIfInBounds_toArray, List.set_cons_zero, List.set_cons_succ]; rfl)) (hJ2_5_12_15_18 () _ ⟨hHeld, (by (with_reducible repeat (first | refine blk_drewN ?_ _ | refine blk_drew ?_ | refine blk_alloc ?_ _)); exact BK279.out), (by repeat (first | (with_reducible first | exact HB.out | apply below_alloc | apply pw_below_drewN | apply below_drew1 | refine below_set ?_ GE279.out) | exact HB.out))⟩)
                          ·skip
                           refine box_step ?hg (N := 4) ?hd (cs := #[.int .i64 0, .int .i64 0, .bool false, .int .i64 0, .int .i64 0, .int .i64 0, .int .i64 0, .int .i64 0, .string (⟨#[]⟩ : ByteArray)]) (t := 25) ?hr ?_; (case hd => rfl); (case hg => rfl); (case hr => first | (go_simp; done) | (go_simp; rfl))
                           intro gb295 hg w37 hbox hb
                           have n0_ := Aside0.mk (blk_below (g := gb279) (o := .cells #[.int .i64 0, .int .i64 0, .bool false, .int .i64 0, .int .i64 0, .int .i64 0, .int .i64 0, .int .i64 0, .string (⟨#[]⟩ : ByteArray)] 25 (0, 0)) (by (with_reducible repeat (first | refine blk_drewN ?_ _ | refine blk_drew ?_ | refine blk_alloc ?_ _)); exact BK279.out) hb)
                           have n1_ := Aside0.mk (below_step (by repeat (first | (with_reducible first | exact HB.out | apply below_alloc | apply pw_below_drewN | apply below_drew1 | refine below_set ?_ GE279.out) | exact HB.out)) hb)
                           have n2_ := Aside0.mk (hbox)
                           have n3_ := Aside0.mk ((by rw [hg]; exact (below_size (by repeat (first | (with_reducible first | exact HB.out | apply below_alloc | apply pw_below_drewN | apply below_drew1 | refine below_set ?_ GE279.out) | exact HB.out))) : w.heap.size ≤ gb295))
                           have n4_ := Aside0.mk ((by rw [hg]; exact (below_size (by repeat (first | (with_reducible first | exact HB.out | apply below_alloc | apply pw_below_drewN | apply below_drew1 | refine below_set ?_ GE279.out) | exact HB.out))) : w.heap.size ≤ gb295))
                           have n5_ := Aside0.mk ((by rw [hg]; exact Nat.ne_of_lt (blk_lt (g := gb279) (o := .cells #[.int .i64 0, .int .i64 0, .bool false, .int .i64 0, .int .i64 0, .int .i64 0, .int .i64 0, .int .i64 0, .string (⟨#[]⟩ : ByteArray)] 25 (0, 0)) (by (with_reducible repeat (first | refine blk_drewN ?_ _ | refine blk_drew ?_ | refine blk_alloc ?_ _)); exact BK279.out)) : gb279 ≠ gb295))
                           have n6_ := Aside0.mk ((by rw [hg]; exact Nat.ne_of_gt (blk_lt (g := gb279) (o := .cells #[.int .i64 0, .int .i64 0, .bool false, .int .i64 0, .int .i64 0, .int .i64 0, .int .i64 0, .int .i64 0, .string (⟨#[]⟩ : ByteArray)] 25 (0, 0)) (by (with_reducible repeat (first | refine blk_drewN ?_ _ | refine blk_drew ?_ | refine blk_alloc ?_ _)); exact BK279.out)) : gb295 ≠ gb279))
                           clear BK279
                           clear HB
                           have BK279 := n0_
                           have HB := n1_
                           have BK295 := n2_
                           have GW295 := n3_
                           have GE295 := n4_
                           have NB279_295 := n5_
                           have NB295_279 := n6_
                           clear n0_ n1_ n2_ n3_ n4_ n5_ n6_
                           clear hb hbox hg
                           refine hK.out _ _ (((HB.out.cell (World.block_lt_of_cell? w _ hw284_0)).trans hw284_0)) (fun hHeld => ?_)
                           clear hK K
                           refine norm_ (a' := ?_) ?_ ?_
                           rotate_left
                           ·show Act.put _ (some 4) _ = _
                            simp only [Act.put, List.setIfInBounds_toArray, List.set_cons_zero, List.set_cons_succ, i64_w, i32_w]
                            rfl
                           exact norm_ (by first | (simp only [putAll, Act.put, List.setIfInBounds_toArray, List.set_cons_zero, List.set_cons_succ]; done) | (simp only [putAll, Act.put, List.setIfInBounds_toArray, List.set_cons_zero, List.set_cons_succ]; rfl)) (hJ2_5_12_15_27 (gb295) _ ⟨hHeld, (by (with_reducible repeat (first | refine blk_drewN ?_ _ | refine blk_drew ?_ | refine blk_alloc ?_ _)); exact BK279.out), (by (with_reducible repeat (first | refine blk_drewN ?_ _ | refine blk_drew ?_ | refine blk_alloc ?_ _)); exact BK295.out), GW295.out, GE295.out, NB279_295.out, NB295_279.out, (by repeat (first | (with_reducible first | exact HB.out | apply below_alloc | apply pw_below_drewN | apply below_drew1 | refine below_set ?_ GE279.out | refine below_set ?_ GE295.out) | exact HB.out))⟩)
                        ·skip
                         rintro gb295 w37 ⟨hS_, h0_, h1_, h2_, h3_, h4_, h5_, h6_⟩
                         have n0_ : Aside0 (w37.heap[gb279]? = some (.cells #[.int .i64 0, .int .i64 0, .bool false, .int .i64 0, .int .i64 0, .int .i64 0, .int .i64 0, .int .i64 0, .string (⟨#[]⟩ : ByteArray)] 25 (0, 0))) := ⟨h0_⟩
                         have n1_ : Aside0 (w37.heap[gb295]? = some (.cells #[.int .i64 0, .int .i64 0, .bool false, .int .i64 0, .int .i64 0, .int .i64 0, .int .i64 0, .int .i64 0, .string (⟨#[]⟩ : ByteArray)] 25 (0, 0))) := ⟨h1_⟩
                         have n2_ : Aside0 (w.heap.size ≤ gb295) := ⟨h2_⟩
                         have n3_ : Aside0 (w.heap.size ≤ gb295) := ⟨h3_⟩
                         have n4_ : Aside0 (gb279 ≠ gb295) := ⟨h4_⟩
                         have n5_ : Aside0 (gb295 ≠ gb279) := ⟨h5_⟩
                         have n6_ : Aside0 (Below w.heap.size w w37) := ⟨h6_⟩
                         clear BK279
                         clear HB
                         clear h0_ h1_ h2_ h3_ h4_ h5_ h6_
                         have BK279 := n0_
                         have BK295 := n1_
                         have GW295 := n2_
                         have GE295 := n3_
                         have NB279_295 := n4_
                         have NB295_279 := n5_
                         have HB := n6_
                         clear n0_ n1_ n2_ n3_ n4_ n5_ n6_
                         have hHeld : w37.cell? ⟨ad284.block, ad284.off + 10, none⟩ = some (.int .u8 (rd l0 10)) := hS_
                         refine norm_ (a' := ?_) ?_ ?_
                         rotate_left
                         ·simp only [putAll, Act.put, List.setIfInBounds_toArray, List.set_cons_zero, List.set_cons_succ]
                          rfl
                         refine one_ (i := 18) (N := some 29) #[true, true, true, true, true, true, true, true, true, true, true, true, true, true, true, true, true, true, true, true, true, false, true, true, false, false, false, true, false] rfl rfl (one_of HT_.out (by kernel_rfl)) (by decide) (fun K hK => ?_)
                         refine goes_ Try.func26 (by kernel_rfl) rfl #[.slice A33 ((l0.take 26).drop 19).length (c0 - 19)] (by rfl) rfl rfl (by (try simp only [List.map_toArray, List.map_cons, List.map_nil]); first | done | (rw [show ((l0.take 26).drop 19).length = (26 - 19) from (by rw [List.length_drop, List.length_take]; have h_ : (26 : Int) ≤ (l0.length : Int) := of_decide_eq_true (by first | (with_reducible assumption) | assumption); omega)] <;> rfl) | rfl | (simp only [List.length_drop, List.length_take]; rfl)) ?_
                         with_reducible refine (stowageref15_get.calls k _ _ ((l0.take 26).drop 19) t290 _ ?side1 ?side2 A18.out).mono ?_
                         (case side1 => repeat (first | exact (Kd.C_below HR289.out HB.out) | (with_reducible refine Kd.C_alloc ?_ _) | (with_reducible refine Kd.C_drewN ?_ _) | (with_reducible refine Kd.C_drew ?_)))
                         (case side2 => exact HC289.out)
                         rintro e w' ⟨rfl, ⟨nd, rfl⟩⟩
                         refine ⟨_, rfl, ?_⟩
                         refine hK.out _ _ (((HB.out.cell (World.block_lt_of_cell? w _ hw284_0)).trans hw284_0)) (fun hHeld => ?_)
                         clear hK K
                         refine norm_ (a' := ?_) ?_ ?_
                         rotate_left
                         ·show Act.put _ (some 29) _ = _
                          simp only [Act.put, List.setIfInBounds_toArray, List.set_cons_zero, List.set_cons_succ, i64_w, i32_w]
                          rfl
                         exact norm_ (by first | (simp only [putAll, Act.put, List.setIfInBounds_toArray, List.set_cons_zero, List.set_cons_succ]; done) | (simp only [putAll, Act.put, List.setIfInBounds_toArray, List.set_cons_zero, List.set_cons_succ]; rfl)) (hJ2_5_12_15_18_27 (gb295) _ ⟨hHeld, (by (with_reducible repeat (first | refine blk_drewN ?_ _ | refine blk_drew ?_ | refine blk_alloc ?_ _)); exact BK279.out), (by (with_reducible repeat (first | refine blk_drewN ?_ _ | refine blk_drew ?_ | refine blk_alloc ?_ _)); exact BK295.out), GW295.out, GE295.out, NB279_295.out, NB295_279.out, (by repeat (first | (with_reducible first | exact HB.out | apply below_alloc | apply pw_below_drewN | apply below_drew1 | refine below_set ?_ GE279.out | refine below_set ?_ GE295.out) | exact HB.out))⟩)
                       ·skip
                        rintro _ w36 ⟨hS_, h0_, h1_⟩
                        have n0_ : Aside0 (w36.heap[gb279]? = some (.cells #[.int .i64 0, .int .i64 0, .bool false, .int .i64 0, .int .i64 0, .int .i64 0, .int .i64 0, .int .i64 0, .string (⟨#[]⟩ : ByteArray)] 25 (0, 0))) := ⟨h0_⟩
                        have n1_ : Aside0 (Below w.heap.size w w36) := ⟨h1_⟩
                        clear BK279
                        clear HB
                        clear h0_ h1_
                        have BK279 := n0_
                        have HB := n1_
                        clear n0_ n1_
                        have hHeld : w36.cell? ⟨ad284.block, ad284.off + 10, none⟩ = some (.int .u8 (rd l0 10)) := hS_
                        refine norm_ (a' := ?_) ?_ ?_
                        rotate_left
                        ·simp only [putAll, Act.put, List.setIfInBounds_toArray, List.set_cons_zero, List.set_cons_succ]
                         rfl
                        refine two_ (i := 21) (j := 27) (Ni := some 32) (Nj := some 4) #[true, true, true, true, true, true, true, true, true, true, true, true, true, true, true, true, true, true, true, true, true, true, true, true, false, false, false, false, false] #[true, true, true, true, true, true, true, true, true, true, true, true, true, true, true, true, true, true, true, true, true, false, true, true, false, false, false, true, false] rfl rfl rfl rfl (two_of HT_.out (by kernel_rfl)) (by decide) (by decide) (fun K hK => ?_) (fun K hK => ?_)
                        ·skip
                         refine goes_ Try.func26 (by kernel_rfl) rfl #[.slice A34 ((l0.take 33).drop 26).length (c0 - 26)] (by rfl) rfl rfl (by (try simp only [List.map_toArray, List.map_cons, List.map_nil]); first | done | (rw [show ((l0.take 33).drop 26).length = (33 - 26) from (by rw [List.length_drop, List.length_take]; have h_ : (33 : Int) ≤ (l0.length : Int) := of_decide_eq_true (by first | (with_reducible assumption) | assumption); omega)] <;> rfl) | rfl | (simp only [List.length_drop, List.length_take]; rfl)) ?_
                         with_reducible refine (stowageref15_get.calls k _ _ ((l0.take 33).drop 26) t292 _ ?side1 ?side2 A21.out).mono ?_
                         (case side1 => repeat (first | exact (Kd.C_below HR291.out HB.out) | (with_reducible refine Kd.C_alloc ?_ _) | (with_reducible refine Kd.C_drewN ?_ _) | (with_reducible refine Kd.C_drew ?_)))
                         (case side2 => exact HC291.out)
                         rintro e w' ⟨rfl, ⟨nd, rfl⟩⟩
                         refine ⟨_, rfl, ?_⟩
                         refine hK.out _ _ (((HB.out.cell (World.block_lt_of_cell? w _ hw284_0)).trans hw284_0)) (fun hHeld => ?_)
                         clear hK K
                         refine norm_ (a' := ?_) ?_ ?_
                         rotate_left
                         ·show Act.put _ (some 32) _ = _
                          simp only [Act.put, List.setIfInBounds_toArray, List.set_cons_zero, List.set_cons_succ, i64_w, i32_w]
                          rfl
                         exact norm_ (by first | (simp only [putAll, Act.put, List.setIfInBounds_toArray, List.set_cons_zero, List.set_cons_succ]; done) | (simp only [putAll, Act.put, List.setIfInBounds_toArray, List.set_cons_zero, List.set_cons_succ]; rfl)) (hJ2_5_12_15_18_21 () _ ⟨hHeld, (by (with_reducible repeat (first | refine blk_drewN ?_ _ | refine blk_drew ?_ | refine blk_alloc ?_ _)); exact BK279.out), (by repeat (first | (with_reducible first | exact HB.out | apply below_alloc | apply pw_below_drewN | apply below_drew1 | refine below_set ?_ GE279.out) | exact HB.out))⟩)
                        ·skip
                         refine box_step ?hg (N := 4) ?hd (cs := #[.int .i64 0, .int .i64 0, .bool false, .int .i64 0, .int .i64 0, .int .i64 0, .int .i64 0, .int .i64 0, .string (⟨#[]⟩ : ByteArray)]) (t := 25) ?hr ?_; (case hd => rfl); (case hg => rfl); (case hr => first | (go_simp; done) | (go_simp; rfl))
                         intro gb295 hg w37 hbox hb
                         have n0_ := Aside0.mk (blk_below (g := gb279) (o := .cells #[.int .i64 0, .int .i64 0, .bool false, .int .i64 0, .int .i64 0, .int .i64 0, .int .i64 0, .int .i64 0, .string (⟨#[]⟩ : ByteArray)] 25 (0, 0)) (by (with_reducible repeat (first | refine blk_drewN ?_ _ | refine blk_drew ?_ | refine blk_alloc ?_ _)); exact BK279.out) hb)
                         have n1_ := Aside0.mk (below_step (by repeat (first | (with_reducible first | exact HB.out | apply below_alloc | apply pw_below_drewN | apply below_drew1 | refine below_set ?_ GE279.out) | exact HB.out)) hb)
                         have n2_ := Aside0.mk (hbox)
                         have n3_ := Aside0.mk ((by rw [hg]; exact (below_size (by repeat (first | (with_reducible first | exact HB.out | apply below_alloc | apply pw_below_drewN | apply below_drew1 | refine below_set ?_ GE279.out) | exact HB.out))) : w.heap.size ≤ gb295))
                         have n4_ := Aside0.mk ((by rw [hg]; exact (below_size (by repeat (first | (with_reducible first | exact HB.out | apply below_alloc | apply pw_below_drewN | apply below_drew1 | refine below_set ?_ GE279.out) | exact HB.out))) : w.heap.size ≤ gb295))
                         have n5_ := Aside0.mk ((by rw [hg]; exact Nat.ne_of_lt (blk_lt (g := gb279) (o := .cells #[.int .i64 0, .int .i64 0, .bool false, .int .i64 0, .int .i64 0, .int .i64 0, .int .i64 0, .int .i64 0, .string (⟨#[]⟩ : ByteArray)] 25 (0, 0)) (by (with_reducible repeat (first | refine blk_drewN ?_ _ | refine blk_drew ?_ | refine blk_alloc ?_ _)); exact BK279.out)) : gb279 ≠ gb295))
                         have n6_ := Aside0.mk ((by rw [hg]; exact Nat.ne_of_gt (blk_lt (g := gb279) (o := .cells #[.int .i64 0, .int .i64 0, .bool false, .int .i64 0, .int .i64 0, .int .i64 0, .int .i64 0, .int .i64 0, .string (⟨#[]⟩ : ByteArray)] 25 (0, 0)) (by (with_reducible repeat (first | refine blk_drewN ?_ _ | refine blk_drew ?_ | refine blk_alloc ?_ _)); exact BK279.out)) : gb295 ≠ gb279))
                         clear BK279
                         clear HB
                         have BK279 := n0_
                         have HB := n1_
                         have BK295 := n2_
                         have GW295 := n3_
                         have GE295 := n4_
                         have NB279_295 := n5_
                         have NB295_279 := n6_
                         clear n0_ n1_ n2_ n3_ n4_ n5_ n6_
                         clear hb hbox hg
                         refine hK.out _ _ (((HB.out.cell (World.block_lt_of_cell? w _ hw284_0)).trans hw284_0)) (fun hHeld => ?_)
                         clear hK K
                         refine norm_ (a' := ?_) ?_ ?_
                         rotate_left
                         ·show Act.put _ (some 4) _ = _
                          simp only [Act.put, List.setIfInBounds_toArray, List.set_cons_zero, List.set_cons_succ, i64_w, i32_w]
                          rfl
                         exact norm_ (by first | (simp only [putAll, Act.put, List.setIfInBounds_toArray, List.set_cons_zero, List.set_cons_succ]; done) | (simp only [putAll, Act.put, List.setIfInBounds_toArray, List.set_cons_zero, List.set_cons_succ]; rfl)) (hJ2_5_12_15_18_27 (gb295) _ ⟨hHeld, (by (with_reducible repeat (first | refine blk_drewN ?_ _ | refine blk_drew ?_ | refine blk_alloc ?_ _)); exact BK279.out), (by (with_reducible repeat (first | refine blk_drewN ?_ _ | refine blk_drew ?_ | refine blk_alloc ?_ _)); exact BK295.out), GW295.out, GE295.out, NB279_295.out, NB295_279.out, (by repeat (first | (with_reducible first | exact HB.out | apply below_alloc | apply pw_below_drewN | apply below_drew1 | refine below_set ?_ GE279.out | refine below_set ?_ GE295.out) | exact HB.out))⟩)
                      ·skip
                       rintro gb295 w37 ⟨hS_, h0_, h1_, h2_, h3_, h4_, h5_, h6_⟩
                       have n0_ : Aside0 (w37.heap[gb279]? = some (.cells #[.int .i64 0, .int .i64 0, .bool false, .int .i64 0, .int .i64 0, .int .i64 0, .int .i64 0, .int .i64 0, .string (⟨#[]⟩ : ByteArray)] 25 (0, 0))) := ⟨h0_⟩
                       have n1_ : Aside0 (w37.heap[gb295]? = some (.cells #[.int .i64 0, .int .i64 0, .bool false, .int .i64 0, .int .i64 0, .int .i64 0, .int .i64 0, .int .i64 0, .string (⟨#[]⟩ : ByteArray)] 25 (0, 0))) := ⟨h1_⟩
                       have n2_ : Aside0 (w.heap.size ≤ gb295) := ⟨h2_⟩
                       have n3_ : Aside0 (w.heap.size ≤ gb295) := ⟨h3_⟩
                       have n4_ : Aside0 (gb279 ≠ gb295) := ⟨h4_⟩
                       have n5_ : Aside0 (gb295 ≠ gb279) := ⟨h5_⟩
                       have n6_ : Aside0 (Below w.heap.size w w37) := ⟨h6_⟩
                       clear BK279
                       clear HB
                       clear h0_ h1_ h2_ h3_ h4_ h5_ h6_
                       have BK279 := n0_
                       have BK295 := n1_
                       have GW295 := n2_
                       have GE295 := n3_
                       have NB279_295 := n4_
                       have NB295_279 := n5_
                       have HB := n6_
                       clear n0_ n1_ n2_ n3_ n4_ n5_ n6_
                       have hHeld : w37.cell? ⟨ad284.block, ad284.off + 10, none⟩ = some (.int .u8 (rd l0 10)) := hS_
                       refine norm_ (a' := ?_) ?_ ?_
                       rotate_left
                       ·simp only [putAll, Act.put, List.setIfInBounds_toArray, List.set_cons_zero, List.set_cons_succ]
                        rfl
                       refine one_ (i := 21) (N := some 32) #[true, true, true, true, true, true, true, true, true, true, true, true, true, true, true, true, true, true, true, true, true, true, true, true, false, false, false, true, false] rfl rfl (one_of HT_.out (by kernel_rfl)) (by decide) (fun K hK => ?_)
                       refine goes_ Try.func26 (by kernel_rfl) rfl #[.slice A34 ((l0.take 33).drop 26).length (c0 - 26)] (by rfl) rfl rfl (by (try simp only [List.map_toArray, List.map_cons, List.map_nil]); first | done | (rw [show ((l0.take 33).drop 26).length = (33 - 26) from (by rw [List.length_drop, List.length_take]; have h_ : (33 : Int) ≤ (l0.length : Int) := of_decide_eq_true (by first | (with_reducible assumption) | assumption); omega)] <;> rfl) | rfl | (simp only [List.length_drop, List.length_take]; rfl)) ?_
                       with_reducible refine (stowageref15_get.calls k _ _ ((l0.take 33).drop 26) t292 _ ?side1 ?side2 A21.out).mono ?_
                       (case side1 => repeat (first | exact (Kd.C_below HR291.out HB.out) | (with_reducible refine Kd.C_alloc ?_ _) | (with_reducible refine Kd.C_drewN ?_ _) | (with_reducible refine Kd.C_drew ?_)))
                       (case side2 => exact HC291.out)
                       rintro e w' ⟨rfl, ⟨nd, rfl⟩⟩
                       refine ⟨_, rfl, ?_⟩
                       refine hK.out _ _ (((HB.out.cell (World.block_lt_of_cell? w _ hw284_0)).trans hw284_0)) (fun hHeld => ?_)
                       clear hK K
                       refine norm_ (a' := ?_) ?_ ?_
                       rotate_left
                       ·show Act.put _ (some 32) _ = _
                        simp only [Act.put, List.setIfInBounds_toArray, List.set_cons_zero, List.set_cons_succ, i64_w, i32_w]
                        rfl
                       exact norm_ (by first | (simp only [putAll, Act.put, List.setIfInBounds_toArray, List.set_cons_zero, List.set_cons_succ]; done) | (simp only [putAll, Act.put, List.setIfInBounds_toArray, List.set_cons_zero, List.set_cons_succ]; rfl)) (hJ2_5_12_15_18_21_27 (gb295) _ ⟨hHeld, (by (with_reducible repeat (first | refine blk_drewN ?_ _ | refine blk_drew ?_ | refine blk_alloc ?_ _)); exact BK279.out), (by (with_reducible repeat (first | refine blk_drewN ?_ _ | refine blk_drew ?_ | refine blk_alloc ?_ _)); exact BK295.out), GW295.out, GE295.out, NB279_295.out, NB295_279.out, (by repeat (first | (with_reducible first | exact HB.out | apply below_alloc | apply pw_below_drewN | apply below_drew1 | refine below_set ?_ GE279.out | refine below_set ?_ GE295.out) | exact HB.out))⟩)
                     ·skip
                      rintro _ w36 ⟨hS_, h0_, h1_⟩
                      have n0_ : Aside0 (w36.heap[gb279]? = some (.cells #[.int .i64 0, .int .i64 0, .bool false, .int .i64 0, .int .i64 0, .int .i64 0, .int .i64 0, .int .i64 0, .string (⟨#[]⟩ : ByteArray)] 25 (0, 0))) := ⟨h0_⟩
                      have n1_ : Aside0 (Below w.heap.size w w36) := ⟨h1_⟩
                      clear BK279
                      clear HB
                      clear h0_ h1_
                      have BK279 := n0_
                      have HB := n1_
                      clear n0_ n1_
                      have hHeld : w36.cell? ⟨ad284.block, ad284.off + 10, none⟩ = some (.int .u8 (rd l0 10)) := hS_
                      refine norm_ (a' := ?_) ?_ ?_
                      rotate_left
                      ·simp only [putAll, Act.put, List.setIfInBounds_toArray, List.set_cons_zero, List.set_cons_succ]
                       rfl
                      refine two_ (i := 24) (j := 27) (Ni := some 35) (Nj := some 4) #[true, true, true, true, true, true, true, true, true, true, true, true, true, true, true, true, true, true, true, true, true, true, true, true, true, false, false, false, false] #[true, true, true, true, true, true, true, true, true, true, true, true, true, true, true, true, true, true, true, true, true, true, true, true, false, false, false, true, false] rfl rfl rfl rfl (two_of HT_.out (by kernel_rfl)) (by decide) (by decide) (fun K hK => ?_) (fun K hK => ?_)
                      ·skip
                       refine goes_ Try.func26 (by kernel_rfl) rfl #[.slice A35 ((l0.take 40).drop 33).length (c0 - 33)] (by rfl) rfl rfl (by (try simp only [List.map_toArray, List.map_cons, List.map_nil]); first | done | (rw [show ((l0.take 40).drop 33).length = (40 - 33) from (by rw [List.length_drop, List.length_take]; have h_ : (40 : Int) ≤ (l0.length : Int) := of_decide_eq_true (by first | (with_reducible assumption) | assumption); omega)] <;> rfl) | rfl | (simp only [List.length_drop, List.length_take]; rfl)) ?_
                       with_reducible refine (stowageref15_get.calls k _ _ ((l0.take 40).drop 33) t294 _ ?side1 ?side2 A24.out).mono ?_
                       (case side1 => repeat (first | exact (Kd.C_below HR293.out HB.out) | (with_reducible refine Kd.C_alloc ?_ _) | (with_reducible refine Kd.C_drewN ?_ _) | (with_reducible refine Kd.C_drew ?_)))
                       (case side2 => exact HC293.out)
                       rintro e w' ⟨rfl, ⟨nd, rfl⟩⟩
                       refine ⟨_, rfl, ?_⟩
                       refine hK.out _ _ (((HB.out.cell (World.block_lt_of_cell? w _ hw284_0)).trans hw284_0)) (fun hHeld => ?_)
                       clear hK K
                       refine norm_ (a' := ?_) ?_ ?_
                       rotate_left
                       ·show Act.put _ (some 35) _ = _
                        simp only [Act.put, List.setIfInBounds_toArray, List.set_cons_zero, List.set_cons_succ, i64_w, i32_w]
                        rfl
                       refine pure_ (i := 25) (N := some 36) (v := ?_) (a' := ?_) #[true, true, true, true, true, true, true, true, true, true, true, true, true, true, true, true, true, true, true, true, true, true, true, true, true, true, false, false, false] rfl rfl (any_of HT_.out (by kernel_rfl)) (fun _ _ _ h => h) (Or.inl ⟨by rfl, ?_⟩) ?_ ?_
                       rotate_left
                       ·intro w'
                        go_simp
                        with_reducible rfl
                       rotate_left
                       ·simp only [Act.put, List.setIfInBounds_toArray, List.set_cons_zero, List.set_cons_succ, i64_w, i32_w]
                        rfl
                       refine pure_ (i := 26) (N := some 37) (v := ?_) (a' := ?_) #[true, true, true, true, true, true, true, true, true, true, true, true, true, true, true, true, true, true, true, true, true, true, true, true, true, true, true, false, false] rfl rfl (any_of HT_.out (by kernel_rfl)) (fun _ _ _ h => h) (Or.inl ⟨by rfl, ?_⟩) ?_ ?_
                       rotate_left
                       ·intro w'
                        go_simp
                        with_reducible rfl
                       rotate_left
                       ·simp only [Act.put, List.setIfInBounds_toArray, List.set_cons_zero, List.set_cons_succ, i64_w, i32_w]
                        rfl
                       exact norm_ (by first | (simp only [putAll, Act.put, List.setIfInBounds_toArray, List.set_cons_zero, List.set_cons_succ]; done) | (simp only [putAll, Act.put, List.setIfInBounds_toArray, List.set_cons_zero, List.set_cons_succ]; rfl)) (hJ2_5_12_15_18_21_24 () _ ⟨hHeld, (by (with_reducible repeat (first | refine blk_drewN ?_ _ | refine blk_drew ?_ | refine blk_alloc ?_ _)); exact BK279.out), (by repeat (first | (with_reducible first | exact HB.out | apply below_alloc | apply pw_below_drewN | apply below_drew1 | refine below_set ?_ GE279.out) | exact HB.out))⟩)
                      ·skip
                       refine box_step ?hg (N := 4) ?hd (cs := #[.int .i64 0, .int .i64 0, .bool false, .int .i64 0, .int .i64 0, .int .i64 0, .int .i64 0, .int .i64 0, .string (⟨#[]⟩ : ByteArray)]) (t := 25) ?hr ?_; (case hd => rfl); (case hg => rfl); (case hr => first | (go_simp; done) | (go_simp; rfl))
                       intro gb295 hg w37 hbox hb
                       have n0_ := Aside0.mk (blk_below (g := gb279) (o := .cells #[.int .i64 0, .int .i64 0, .bool false, .int .i64 0, .int .i64 0, .int .i64 0, .int .i64 0, .int .i64 0, .string (⟨#[]⟩ : ByteArray)] 25 (0, 0)) (by (with_reducible repeat (first | refine blk_drewN ?_ _ | refine blk_drew ?_ | refine blk_alloc ?_ _)); exact BK279.out) hb)
                       have n1_ := Aside0.mk (below_step (by repeat (first | (with_reducible first | exact HB.out | apply below_alloc | apply pw_below_drewN | apply below_drew1 | refine below_set ?_ GE279.out) | exact HB.out)) hb)
                       have n2_ := Aside0.mk (hbox)
                       have n3_ := Aside0.mk ((by rw [hg]; exact (below_size (by repeat (first | (with_reducible first | exact HB.out | apply below_alloc | apply pw_below_drewN | apply below_drew1 | refine below_set ?_ GE279.out) | exact HB.out))) : w.heap.size ≤ gb295))
                       have n4_ := Aside0.mk ((by rw [hg]; exact (below_size (by repeat (first | (with_reducible first | exact HB.out | apply below_alloc | apply pw_below_drewN | apply below_drew1 | refine below_set ?_ GE279.out) | exact HB.out))) : w.heap.size ≤ gb295))
                       have n5_ := Aside0.mk ((by rw [hg]; exact Nat.ne_of_lt (blk_lt (g := gb279) (o := .cells #[.int .i64 0, .int .i64 0, .bool false, .int .i64 0, .int .i64 0, .int .i64 0, .int .i64 0, .int .i64 0, .string (⟨#[]⟩ : ByteArray)] 25 (0, 0)) (by (with_reducible repeat (first | refine blk_drewN ?_ _ | refine blk_drew ?_ | refine blk_alloc ?_ _)); exact BK279.out)) : gb279 ≠ gb295))
                       have n6_ := Aside0.mk ((by rw [hg]; exact Nat.ne_of_gt (blk_lt (g := gb279) (o := .cells #[.int .i64 0, .int .i64 0, .bool false, .int .i64 0, .int .i64 0, .int .i64 0, .int .i64 0, .int .i64 0, .string (⟨#[]⟩ : ByteArray)] 25 (0, 0)) (by (with_reducible repeat (first | refine blk_drewN ?_ _ | refine blk_drew ?_ | refine blk_alloc ?_ _)); exact BK279.out)) : gb295 ≠ gb279))
                       clear BK279
                       clear HB
                       have BK279 := n0_
                       have HB := n1_
                       have BK295 := n2_
                       have GW295 := n3_
                       have GE295 := n4_
                       have NB279_295 := n5_
                       have NB295_279 := n6_
                       clear n0_ n1_ n2_ n3_ n4_ n5_ n6_
                       clear hb hbox hg
                       refine hK.out _ _ (((HB.out.cell (World.block_lt_of_cell? w _ hw284_0)).trans hw284_0)) (fun hHeld => ?_)
                       clear hK K
                       refine norm_ (a' := ?_) ?_ ?_
                       rotate_left
                       ·show Act.put _ (some 4) _ = _
                        simp only [Act.put, List.setIfInBounds_toArray, List.set_cons_zero, List.set_cons_succ, i64_w, i32_w]
                        rfl
                       exact norm_ (by first | (simp only [putAll, Act.put, List.setIfInBounds_toArray, List.set_cons_zero, List.set_cons_succ]; done) | (simp only [putAll, Act.put, List.setIfInBounds_toArray, List.set_cons_zero, List.set_cons_succ]; rfl)) (hJ2_5_12_15_18_21_27 (gb295) _ ⟨hHeld, (by (with_reducible repeat (first | refine blk_drewN ?_ _ | refine blk_drew ?_ | refine blk_alloc ?_ _)); exact BK279.out), (by (with_reducible repeat (first | refine blk_drewN ?_ _ | refine blk_drew ?_ | refine blk_alloc ?_ _)); exact BK295.out), GW295.out, GE295.out, NB279_295.out, NB295_279.out, (by repeat (first | (with_reducible first | exact HB.out | apply below_alloc | apply pw_below_drewN | apply below_drew1 | refine below_set ?_ GE279.out | refine below_set ?_ GE295.out) | exact HB.out))⟩)
                    ·skip
                     rintro gb295 w37 ⟨hS_, h0_, h1_, h2_, h3_, h4_, h5_, h6_⟩
                     have n0_ : Aside0 (w37.heap[gb279]? = some (.cells #[.int .i64 0, .int .i64 0, .bool false, .int .i64 0, .int .i64 0, .int .i64 0, .int .i64 0, .int .i64 0, .string (⟨#[]⟩ : ByteArray)] 25 (0, 0))) := ⟨h0_⟩
                     have n1_ : Aside0 (w37.heap[gb295]? = some (.cells #[.int .i64 0, .int .i64 0, .bool false, .int .i64 0, .int .i64 0, .int .i64 0, .int .i64 0, .int .i64 0, .string (⟨#[]⟩ : ByteArray)] 25 (0, 0))) := ⟨h1_⟩
                     have n2_ : Aside0 (w.heap.size ≤ gb295) := ⟨h2_⟩
                     have n3_ : Aside0 (w.heap.size ≤ gb295) := ⟨h3_⟩
                     have n4_ : Aside0 (gb279 ≠ gb295) := ⟨h4_⟩
                     have n5_ : Aside0 (gb295 ≠ gb279) := ⟨h5_⟩
                     have n6_ : Aside0 (Below w.heap.size w w37) := ⟨h6_⟩
                     clear BK279
                     clear HB
                     clear h0_ h1_ h2_ h3_ h4_ h5_ h6_
                     have BK279 := n0_
                     have BK295 := n1_
                     have GW295 := n2_
                     have GE295 := n3_
                     have NB279_295 := n4_
                     have NB295_279 := n5_
                     have HB := n6_
                     clear n0_ n1_ n2_ n3_ n4_ n5_ n6_
                     have hHeld : w37.cell? ⟨ad284.block, ad284.off + 10, none⟩ = some (.int .u8 (rd l0 10)) := hS_
                     refine norm_ (a' := ?_) ?_ ?_
                     rotate_left
                     ·simp only [putAll, Act.put, List.setIfInBounds_toArray, List.set_cons_zero, List.set_cons_succ]
                      rfl
                     refine one_ (i := 24) (N := some 35) #[true, true, true, true, true, true, true, true, true, true, true, true, true, true, true, true, true, true, true, true, true, true, true, true, true, false, false, true, false] rfl rfl (one_of HT_.out (by kernel_rfl)) (by decide) (fun K hK => ?_)
                     refine goes_ Try.func26 (by kernel_rfl) rfl #[.slice A35 ((l0.take 40).drop 33).length (c0 - 33)] (by rfl) rfl rfl (by (try simp only [List.map_toArray, List.map_cons, List.map_nil]); first | done | (rw [show ((l0.take 40).drop 33).length = (40 - 33) from (by rw [List.length_drop, List.length_take]; have h_ : (40 : Int) ≤ (l0.length : Int) := of_decide_eq_true (by first | (with_reducible assumption) | assumption); omega)] <;> rfl) | rfl | (simp only [List.length_drop, List.length_take]; rfl)) ?_
                     with_reducible refine (stowageref15_get.calls k _ _ ((l0.take 40).drop 33) t294 _ ?side1 ?side2 A24.out).mono ?_
                     (case side1 => repeat (first | exact (Kd.C_below HR293.out HB.out) | (with_reducible refine Kd.C_alloc ?_ _) | (with_reducible refine Kd.C_drewN ?_ _) | (with_reducible refine Kd.C_drew ?_)))
                     (case side2 => exact HC293.out)
                     rintro e w' ⟨rfl, ⟨nd, rfl⟩⟩
                     refine ⟨_, rfl, ?_⟩
                     refine hK.out _ _ (((HB.out.cell (World.block_lt_of_cell? w _ hw284_0)).trans hw284_0)) (fun hHeld => ?_)
                     clear hK K
                     refine norm_ (a' := ?_) ?_ ?_
                     rotate_left
                     ·show Act.put _ (some 35) _ = _
                      simp only [Act.put, List.setIfInBounds_toArray, List.set_cons_zero, List.set_cons_succ, i64_w, i32_w]
                      rfl
                     refine pure_ (i := 25) (N := some 36) (v := ?_) (a' := ?_) #[true, true, true, true, true, true, true, true, true, true, true, true, true, true, true, true, true, true, true, true, true, true, true, true, true, true, false, true, false] rfl rfl (any_of HT_.out (by kernel_rfl)) (fun _ _ _ h => h) (Or.inl ⟨by rfl, ?_⟩) ?_ ?_
                     rotate_left
                     ·intro w'
                      go_simp
                      with_reducible rfl
                     rotate_left
                     ·simp only [Act.put, List.setIfInBounds_toArray, List.set_cons_zero, List.set_cons_succ, i64_w, i32_w]
                      rfl
                     refine pure_ (i := 26) (N := some 37) (v := ?_) (a' := ?_) #[true, true, true, true, true, true, true, true, true, true, true, true, true, true, true, true, true, true, true, true, true, true, true, true, true, true, true, true, false] rfl rfl (any_of HT_.out (by kernel_rfl)) (fun _ _ _ h => h) (Or.inl ⟨by rfl, ?_⟩) ?_ ?_
                     rotate_left
                     ·intro w'
                      go_simp
                      with_reducible rfl
                     rotate_left
                     ·simp only [Act.put, List.setIfInBounds_toArray, List.set_cons_zero, List.set_cons_succ, i64_w, i32_w]
                      rfl
                     exact norm_ (by first | (simp only [putAll, Act.put, List.setIfInBounds_toArray, List.set_cons_zero, List.set_cons_succ]; done) | (simp only [putAll, Act.put, List.setIfInBounds_toArray, List.set_cons_zero, List.set_cons_succ]; rfl)) (hJ2_5_12_15_18_21_24_27 (gb295) _ ⟨hHeld, (by (with_reducible repeat (first | refine blk_drewN ?_ _ | refine blk_drew ?_ | refine blk_alloc ?_ _)); exact BK279.out), (by (with_reducible repeat (first | refine blk_drewN ?_ _ | refine blk_drew ?_ | refine blk_alloc ?_ _)); exact BK295.out), GW295.out, GE295.out, NB279_295.out, NB295_279.out, (by repeat (first | (with_reducible first | exact HB.out | apply below_alloc | apply pw_below_drewN | apply below_drew1 | refine below_set ?_ GE279.out | refine below_set ?_ GE295.out) | exact HB.out))⟩)
                   ·skip
                    rintro _ w36 ⟨hS_, h0_, h1_⟩
                    have n0_ : Aside0 (w36.heap[gb279]? = some (.cells #[.int .i64 0, .int .i64 0, .bool false, .int .i64 0, .int .i64 0, .int .i64 0, .int .i64 0, .int .i64 0, .string (⟨#[]⟩ : ByteArray)] 25 (0, 0))) := ⟨h0_⟩
                    have n1_ : Aside0 (Below w.heap.size w w36) := ⟨h1_⟩
                    clear BK279
                    clear HB
                    clear h0_ h1_
                    have BK279 := n0_
                    have HB := n1_
                    clear n0_ n1_
                    have hHeld : w36.cell? ⟨ad284.block, ad284.off + 10, none⟩ = some (.int .u8 (rd l0 10)) := hS_
                    refine norm_ (a' := ?_) ?_ ?_
                    rotate_left
                    ·simp only [putAll, Act.put, List.setIfInBounds_toArray, List.set_cons_zero, List.set_cons_succ]
                     rfl
                    refine one_ (i := 27) (N := some 4) #[true, true, true, true, true, true, true, true, true, true, true, true, true, true, true, true, true, true, true, true, true, true, true, true, true, true, true, true, false] rfl rfl (one_of HT_.out (by kernel_rfl)) (by decide) (fun K hK => ?_)
                    refine box_step ?hg (N := 4) ?hd (cs := #[.int .i64 0, .int .i64 0, .bool false, .int .i64 0, .int .i64 0, .int .i64 0, .int .i64 0, .int .i64 0, .string (⟨#[]⟩ : ByteArray)]) (t := 25) ?hr ?_; (case hd => rfl); (case hg => rfl); (case hr => first | (go_simp; done) | (go_simp; rfl))
                    intro gb295 hg w37 hbox hb
                    have n0_ := Aside0.mk (blk_below (g := gb279) (o := .cells #[.int .i64 0, .int .i64 0, .bool false, .int .i64 0, .int .i64 0, .int .i64 0, .int .i64 0, .int .i64 0, .string (⟨#[]⟩ : ByteArray)] 25 (0, 0)) (by (with_reducible repeat (first | refine blk_drewN ?_ _ | refine blk_drew ?_ | refine blk_alloc ?_ _)); exact BK279.out) hb)
                    have n1_ := Aside0.mk (below_step (by repeat (first | (with_reducible first | exact HB.out | apply below_alloc | apply pw_below_drewN | apply below_drew1 | refine below_set ?_ GE279.out) | exact HB.out)) hb)
                    have n2_ := Aside0.mk (hbox)
                    have n3_ := Aside0.mk ((by rw [hg]; exact (below_size (by repeat (first | (with_reducible first | exact HB.out | apply below_alloc | apply pw_below_drewN | apply below_drew1 | refine below_set ?_ GE279.out) | exact HB.out))) : w.heap.size ≤ gb295))
                    have n4_ := Aside0.mk ((by rw [hg]; exact (below_size (by repeat (first | (with_reducible first | exact HB.out | apply below_alloc | apply pw_below_drewN | apply below_drew1 | refine below_set ?_ GE279.out) | exact HB.out))) : w.heap.size ≤ gb295))
                    have n5_ := Aside0.mk ((by rw [hg]; exact Nat.ne_of_lt (blk_lt (g := gb279) (o := .cells #[.int .i64 0, .int .i64 0, .bool false, .int .i64 0, .int .i64 0, .int .i64 0, .int .i64 0, .int .i64 0, .string (⟨#[]⟩ : ByteArray)] 25 (0, 0)) (by (with_reducible repeat (first | refine blk_drewN ?_ _ | refine blk_drew ?_ | refine blk_alloc ?_ _)); exact BK279.out)) : gb279 ≠ gb295))
                    have n6_ := Aside0.mk ((by rw [hg]; exact Nat.ne_of_gt (blk_lt (g := gb279) (o := .cells #[.int .i64 0, .int .i64 0, .bool false, .int .i64 0, .int .i64 0, .int .i64 0, .int .i64 0, .int .i64 0, .string (⟨#[]⟩ : ByteArray)] 25 (0, 0)) (by (with_reducible repeat (first | refine blk_drewN ?_ _ | refine blk_drew ?_ | refine blk_alloc ?_ _)); exact BK279.out)) : gb295 ≠ gb279))
                    clear BK279
                    clear HB
                    have BK279 := n0_
                    have HB := n1_
                    have BK295 := n2_
                    have GW295 := n3_
                    have GE295 := n4_
                    have NB279_295 := n5_
                    have NB295_279 := n6_
                    clear n0_ n1_ n2_ n3_ n4_ n5_ n6_
                    clear hb hbox hg
                    refine hK.out _ _ (((HB.out.cell (World.block_lt_of_cell? w _ hw284_0)).trans hw284_0)) (fun hHeld => ?_)
                    clear hK K
                    refine norm_ (a' := ?_) ?_ ?_
                    rotate_left
                    ·show Act.put _ (some 4) _ = _
                     simp only [Act.put, List.setIfInBounds_toArray, List.set_cons_zero, List.set_cons_succ, i64_w, i32_w]
                     rfl
                    exact norm_ (by first | (simp only [putAll, Act.put, List.setIfInBounds_toArray, List.set_cons_zero, List.set_cons_succ]; done) | (simp only [putAll, Act.put, List.setIfInBounds_toArray, List.set_cons_zero, List.set_cons_succ]; rfl)) (hJ2_5_12_15_18_21_24_27 (gb295) _ ⟨hHeld, (by (with_reducible repeat (first | refine blk_drewN ?_ _ | refine blk_drew ?_ | refine blk_alloc ?_ _)); exact BK279.out), (by (with_reducible repeat (first | refine blk_drewN ?_ _ | refine blk_drew ?_ | refine blk_alloc ?_ _)); exact BK295.out), GW295.out, GE295.out, NB279_295.out, NB295_279.out, (by repeat (first | (with_reducible first | exact HB.out | apply below_alloc | apply pw_below_drewN | apply below_drew1 | refine below_set ?_ GE279.out | refine below_set ?_ GE295.out) | exact HB.out))⟩)
                  rintro gb295 w37 ⟨hS_, h0_, h1_, h2_, h3_, h4_, h5_, h6_⟩
                  have n0_ : Aside0 (w37.heap[gb279]? = some (.cells #[.int .i64 0, .int .i64 0, .bool false, .int .i64 0, .int .i64 0, .int .i64 0, .int .i64 0, .int .i64 0, .string (⟨#[]⟩ : ByteArray)] 25 (0, 0))) := ⟨h0_⟩
                  have n1_ : Aside0 (w37.heap[gb295]? = some (.cells #[.int .i64 0, .int .i64 0, .bool false, .int .i64 0, .int .i64 0, .int .i64 0, .int .i64 0, .int .i64 0, .string (⟨#[]⟩ : ByteArray)] 25 (0, 0))) := ⟨h1_⟩
                  have n2_ : Aside0 (w.heap.size ≤ gb295) := ⟨h2_⟩
                  have n3_ : Aside0 (w.heap.size ≤ gb295) := ⟨h3_⟩
                  have n4_ : Aside0 (gb279 ≠ gb295) := ⟨h4_⟩
                  have n5_ : Aside0 (gb295 ≠ gb279) := ⟨h5_⟩
                  have n6_ : Aside0 (Below w.heap.size w w37) := ⟨h6_⟩
                  clear BK279
                  clear HB
                  clear h0_ h1_ h2_ h3_ h4_ h5_ h6_
                  have BK279 := n0_
                  have BK295 := n1_
                  have GW295 := n2_
                  have GE295 := n3_
                  have NB279_295 := n4_
                  have NB295_279 := n5_
                  have HB := n6_
                  clear n0_ n1_ n2_ n3_ n4_ n5_ n6_
                  have hHeld : w37.cell? ⟨ad284.block, ad284.off + 10, none⟩ = some (.int .u8 (rd l0 10)) := hS_
                  refine norm_ (a' := ?_) ?_ ?_
                  rotate_left
                  ·simp only [putAll, Act.put, List.setIfInBounds_toArray, List.set_cons_zero, List.set_cons_succ]
                   rfl
                  refine one_ (i := 28) (N := none) #[true, true, true, true, true, true, true, true, true, true, true, true, true, true, true, true, true, true, true, true, true, true, true, true, true, true, true, true, true] rfl rfl (one_of HT_.out (by kernel_rfl)) (by decide) (fun K hK => ?_)
                  have hs38 : w37.cell? ⟨gb295, 0, none⟩ = some (.int .i64 0) := (blk_cell BK295.out 0).trans rfl
                  have hfs38 := blk_frozen BK295.out 0
                  have hns38_0 := NB279_295.out
                  have hms38_0 := NB295_279.out
                  have hs39 : w37.cell? ⟨gb295, 1, none⟩ = some (.int .i64 0) := (blk_cell BK295.out 1).trans rfl
                  have hfs39 := blk_frozen BK295.out 1
                  have hns39_0 := NB279_295.out
                  have hms39_0 := NB295_279.out
                  have hs40 : w37.cell? ⟨gb295, 2, none⟩ = some (.bool false) := (blk_cell BK295.out 2).trans rfl
                  have hfs40 := blk_frozen BK295.out 2
                  have hns40_0 := NB279_295.out
                  have hms40_0 := NB295_279.out
                  have hs41 : w37.cell? ⟨gb295, 3, none⟩ = some (.int .i64 0) := (blk_cell BK295.out 3).trans rfl
                  have hfs41 := blk_frozen BK295.out 3
                  have hns41_0 := NB279_295.out
                  have hms41_0 := NB295_279.out
                  have hs42 : w37.cell? ⟨gb295, 4, none⟩ = some (.int .i64 0) := (blk_cell BK295.out 4).trans rfl
                  have hfs42 := blk_frozen BK295.out 4
                  have hns42_0 := NB279_295.out
                  have hms42_0 := NB295_279.out
                  have hs43 : w37.cell? ⟨gb295, 5, none⟩ = some (.int .i64 0) := (blk_cell BK295.out 5).trans rfl
                  have hfs43 := blk_frozen BK295.out 5
                  have hns43_0 := NB279_295.out
                  have hms43_0 := NB295_279.out
                  have hs44 : w37.cell? ⟨gb295, 6, none⟩ = some (.int .i64 0) := (blk_cell BK295.out 6).trans rfl
                  have hfs44 := blk_frozen BK295.out 6
                  have hns44_0 := NB279_295.out
                  have hms44_0 := NB295_279.out
                  have hs45 : w37.cell? ⟨gb295, 7, none⟩ = some (.int .i64 0) := (blk_cell BK295.out 7).trans rfl
                  have hfs45 := blk_frozen BK295.out 7
                  have hns45_0 := NB279_295.out
                  have hms45_0 := NB295_279.out
                  have hs46 : w37.cell? ⟨gb295, 8, none⟩ = some (.string (⟨#[]⟩ : ByteArray)) := (blk_cell BK295.out 8).trans rfl
                  have hfs46 := blk_frozen BK295.out 8
                  have hns46_0 := NB279_295.out
                  have hms46_0 := NB295_279.out
                  refine skip_ (w1 := ?_) (by rfl) rfl ?_ ?_
                  rotate_left
                  ·go_simp
                   rfl
                  refine hK.out _ _ ((Fz.far (by first | exact Nat.ne_of_lt (Nat.lt_of_lt_of_le (by have := World.block_lt_of_cell? _ _ hw284_0; first | rwa [add_block] at this | exact this) GW295.out) | (rw [add_block]; exact Nat.ne_of_lt (Nat.lt_of_lt_of_le (by have := World.block_lt_of_cell? _ _ hw284_0; first | rwa [add_block] at this | exact this) GW295.out)) | (show (Addr.add _ _).block ≠ _; rw [add_block]; exact Nat.ne_of_lt (Nat.lt_of_lt_of_le (by have := World.block_lt_of_cell? _ _ hw284_0; first | rwa [add_block] at this | exact this) GW295.out)) | (dsimp only; exact Nat.ne_of_lt (Nat.lt_of_lt_of_le (by have := World.block_lt_of_cell? _ _ hw284_0; first | rwa [add_block] at this | exact this) GW295.out))) ((Fz.far (by first | exact Nat.ne_of_lt (Nat.lt_of_lt_of_le (by have := World.block_lt_of_cell? _ _ hw284_0; first | rwa [add_block] at this | exact this) GW295.out) | (rw [add_block]; exact Nat.ne_of_lt (Nat.lt_of_lt_of_le (by have := World.block_lt_of_cell? _ _ hw284_0; first | rwa [add_block] at this | exact this) GW295.out)) | (show (Addr.add _ _).block ≠ _; rw [add_block]; exact Nat.ne_of_lt (Nat.lt_of_lt_of_le (by have := World.block_lt_of_cell? _ _ hw284_0; first | rwa [add_block] at this | exact this) GW295.out)) | (dsimp only; exact Nat.ne_of_lt (Nat.lt_of_lt_of_le (by have := World.block_lt_of_cell? _ _ hw284_0; first | rwa [add_block] at this | exact this) GW295.out))) ((Fz.far (by first | exact Nat.ne_of_lt (Nat.lt_of_lt_of_le (by have := World.block_lt_of_cell? _ _ hw284_0; first | rwa [add_block] at this | exact this) GW295.out) | (rw [add_block]; exact Nat.ne_of_lt (Nat.lt_of_lt_of_le (by have := World.block_lt_of_cell? _ _ hw284_0; first | rwa [add_block] at this | exact this) GW295.out)) | (show (Addr.add _ _).block ≠ _; rw [add_block]; exact Nat.ne_of_lt (Nat.lt_of_lt_of_le (by have := World.block_lt_of_cell? _ _ hw284_0; first | rwa [add_block] at this | exact this) GW295.out)) | (dsimp only; exact Nat.ne_of_lt (Nat.lt_of_lt_of_le (by have := World.block_lt_of_cell? _ _ hw284_0; first | rwa [add_block] at this | exact this) GW295.out))) ((Fz.far (by first | exact Nat.ne_of_lt (Nat.lt_of_lt_of_le (by have := World.block_lt_of_cell? _ _ hw284_0; first | rwa [add_block] at this | exact this) GW295.out) | (rw [add_block]; exact Nat.ne_of_lt (Nat.lt_of_lt_of_le (by have := World.block_lt_of_cell? _ _ hw284_0; first | rwa [add_block] at this | exact this) GW295.out)) | (show (Addr.add _ _).block ≠ _; rw [add_block]; exact Nat.ne_of_lt (Nat.lt_of_lt_of_le (by have := World.block_lt_of_cell? _ _ hw284_0; first | rwa [add_block] at this | exact this) GW295.out)) | (dsimp only; exact Nat.ne_of_lt (Nat.lt_of_lt_of_le (by have := World.block_lt_of_cell? _ _ hw284_0; first | rwa [add_block] at this | exact this) GW295.out))) ((Fz.far (by first | exact Nat.ne_of_lt (Nat.lt_of_lt_of_le (by have := World.block_lt_of_cell? _ _ hw284_0; first | rwa [add_block] at this | exact this) GW295.out) | (rw [add_block]; exact Nat.ne_of_lt (Nat.lt_of_lt_of_le (by have := World.block_lt_of_cell? _ _ hw284_0; first | rwa [add_block] at this | exact this) GW295.out)) | (show (Addr.add _ _).block ≠ _; rw [add_block]; exact Nat.ne_of_lt (Nat.lt_of_lt_of_le (by have := World.block_lt_of_cell? _ _ hw284_0; first | rwa [add_block] at this | exact this) GW295.out)) | (dsimp only; exact Nat.ne_of_lt (Nat.lt_of_lt_of_le (by have := World.block_lt_of_cell? _ _ hw284_0; first | rwa [add_block] at this | exact this) GW295.out))) ((Fz.far (by first | exact Nat.ne_of_lt (Nat.lt_of_lt_of_le (by have := World.block_lt_of_cell? _ _ hw284_0; first | rwa [add_block] at this | exact this) GW295.out) | (rw [add_block]; exact Nat.ne_of_lt (Nat.lt_of_lt_of_le (by have := World.block_lt_of_cell? _ _ hw284_0; first | rwa [add_block] at this | exact this) GW295.out)) | (show (Addr.add _ _).block ≠ _; rw [add_block]; exact Nat.ne_of_lt (Nat.lt_of_lt_of_le (by have := World.block_lt_of_cell? _ _ hw284_0; first | rwa [add_block] at this | exact this) GW295.out)) | (dsimp only; exact Nat.ne_of_lt (Nat.lt_of_lt_of_le (by have := World.block_lt_of_cell? _ _ hw284_0; first | rwa [add_block] at this | exact this) GW295.out))) ((Fz.far (by first | exact Nat.ne_of_lt (Nat.lt_of_lt_of_le (by have := World.block_lt_of_cell? _ _ hw284_0; first | rwa [add_block] at this | exact this) GW295.out) | (rw [add_block]; exact Nat.ne_of_lt (Nat.lt_of_lt_of_le (by have := World.block_lt_of_cell? _ _ hw284_0; first | rwa [add_block] at this | exact this) GW295.out)) | (show (Addr.add _ _).block ≠ _; rw [add_block]; exact Nat.ne_of_lt (Nat.lt_of_lt_of_le (by have := World.block_lt_of_cell? _ _ hw284_0; first | rwa [add_block] at this | exact this) GW295.out)) | (dsimp only; exact Nat.ne_of_lt (Nat.lt_of_lt_of_le (by have := World.block_lt_of_cell? _ _ hw284_0; first | rwa [add_block] at this | exact this) GW295.out))) ((Fz.far (by first | exact Nat.ne_of_lt (Nat.lt_of_lt_of_le (by have := World.block_lt_of_cell? _ _ hw284_0; first | rwa [add_block] at this | exact this) GW295.out) | (rw [add_block]; exact Nat.ne_of_lt (Nat.lt_of_lt_of_le (by have := World.block_lt_of_cell? _ _ hw284_0; first | rwa [add_block] at this | exact this) GW295.out)) | (show (Addr.add _ _).block ≠ _; rw [add_block]; exact Nat.ne_of_lt (Nat.lt_of_lt_of_le (by have := World.block_lt_of_cell? _ _ hw284_0; first | rwa [add_block] at this | exact this) GW295.out)) | (dsimp only; exact Nat.ne_of_lt (Nat.lt_of_lt_of_le (by have := World.block_lt_of_cell? _ _ hw284_0; first | rwa [add_block] at this | exact this) GW295.out))) ((Fz.far (by first | exact Nat.ne_of_lt (Nat.lt_of_lt_of_le (by have := World.block_lt_of_cell? _ _ hw284_0; first | rwa [add_block] at this | exact this) GW295.out) | (rw [add_block]; exact Nat.ne_of_lt (Nat.lt_of_lt_of_le (by have := World.block_lt_of_cell? _ _ hw284_0; first | rwa [add_block] at this | exact this) GW295.out)) | (show (Addr.add _ _).block ≠ _; rw [add_block]; exact Nat.ne_of_lt (Nat.lt_of_lt_of_le (by have := World.block_lt_of_cell? _ _ hw284_0; first | rwa [add_block] at this | exact this) GW295.out)) | (dsimp only; exact Nat.ne_of_lt (Nat.lt_of_lt_of_le (by have := World.block_lt_of_cell? _ _ hw284_0; first | rwa [add_block] at this | exact this) GW295.out))) (hHeld))))))))))))))))))) (fun hHeld => ?_)
                  clear hK K
                  refine done_ (done_of HT_.out (by kernel_rfl)) ?_
                  have p296 : 0 ≤ (40 : Int) := (by omega)
                  have q296 : 40 < (l0.length : Int) := of_decide_eq_true (by first | (with_reducible assumption) | assumption)
                  obtain ⟨ad296, e296, hx296_0⟩ := Kd.at_int HR0.out 40 p296 q296
                  obtain rfl : ad284 = ad296 := (by injection e296)
                  (try simp only [show (40 : Int).toNat = 40 from rfl, Nat.reduceMul, Nat.reduceEqDiff, Go.Addr.add, ↓reduceIte] at hx296_0)
                  have qi296 : (40 < l0.length) = True := eq_true (by omega)
                  (try rw [show ((40 : Int)).toNat = 40 from rfl] at hx296_0)
                  have hn296_0 : ad284.block ≠ gb295 := Nat.ne_of_lt (Nat.lt_of_lt_of_le (by have := World.block_lt_of_cell? _ _ hx296_0; first | rwa [add_block] at this | exact this) GW295.out)
                  have hn296_1 : ad284.block ≠ gb295 := Nat.ne_of_lt (Nat.lt_of_lt_of_le (by have := World.block_lt_of_cell? _ _ hx296_0; first | rwa [add_block] at this | exact this) GW295.out)
                  have hn296_2 : ad284.block ≠ gb295 := Nat.ne_of_lt (Nat.lt_of_lt_of_le (by have := World.block_lt_of_cell? _ _ hx296_0; first | rwa [add_block] at this | exact this) GW295.out)
                  have hn296_3 : ad284.block ≠ gb295 := Nat.ne_of_lt (Nat.lt_of_lt_of_le (by have := World.block_lt_of_cell? _ _ hx296_0; first | rwa [add_block] at this | exact this) GW295.out)
                  have hn296_4 : ad284.block ≠ gb295 := Nat.ne_of_lt (Nat.lt_of_lt_of_le (by have := World.block_lt_of_cell? _ _ hx296_0; first | rwa [add_block] at this | exact this) GW295.out)
                  have hn296_5 : ad284.block ≠ gb295 := Nat.ne_of_lt (Nat.lt_of_lt_of_le (by have := World.block_lt_of_cell? _ _ hx296_0; first | rwa [add_block] at this | exact this) GW295.out)
                  have hn296_6 : ad284.block ≠ gb295 := Nat.ne_of_lt (Nat.lt_of_lt_of_le (by have := World.block_lt_of_cell? _ _ hx296_0; first | rwa [add_block] at this | exact this) GW295.out)
                  have hn296_7 : ad284.block ≠ gb295 := Nat.ne_of_lt (Nat.lt_of_lt_of_le (by have := World.block_lt_of_cell? _ _ hx296_0; first | rwa [add_block] at this | exact this) GW295.out)
                  have hn296_8 : ad284.block ≠ gb295 := Nat.ne_of_lt (Nat.lt_of_lt_of_le (by have := World.block_lt_of_cell? _ _ hx296_0; first | rwa [add_block] at this | exact this) GW295.out)
                  replace hx296_0 := (HB.out.cell (World.block_lt_of_cell? w _ hx296_0)).trans hx296_0
                  replace hx296_0 := (cell_far (p := ⟨gb295, 0, none⟩) (by first | (rw [add_block]; exact hn296_0) | (show (Addr.add _ _).block ≠ _; rw [add_block]; exact hn296_0) | exact hn296_0) (.int .i64 t281)).trans hx296_0
                  replace hx296_0 := (cell_far (p := ⟨gb295, 1, none⟩) (by first | (rw [add_block]; exact hn296_1) | (show (Addr.add _ _).block ≠ _; rw [add_block]; exact hn296_1) | exact hn296_1) (.int .i64 t283)).trans hx296_0
                  replace hx296_0 := (cell_far (p := ⟨gb295, 2, none⟩) (by first | (rw [add_block]; exact hn296_2) | (show (Addr.add _ _).block ≠ _; rw [add_block]; exact hn296_2) | exact hn296_2) (.bool ((rd l0 10) == 1))).trans hx296_0
                  replace hx296_0 := (cell_far (p := ⟨gb295, 3, none⟩) (by first | (rw [add_block]; exact hn296_3) | (show (Addr.add _ _).block ≠ _; rw [add_block]; exact hn296_3) | exact hn296_3) (.int .i64 t286)).trans hx296_0
                  replace hx296_0 := (cell_far (p := ⟨gb295, 4, none⟩) (by first | (rw [add_block]; exact hn296_4) | (show (Addr.add _ _).block ≠ _; rw [add_block]; exact hn296_4) | exact hn296_4) (.int .i64 t288)).trans hx296_0
                  replace hx296_0 := (cell_far (p := ⟨gb295, 5, none⟩) (by first | (rw [add_block]; exact hn296_5) | (show (Addr.add _ _).block ≠ _; rw [add_block]; exact hn296_5) | exact hn296_5) (.int .i64 t290)).trans hx296_0
                  replace hx296_0 := (cell_far (p := ⟨gb295, 6, none⟩) (by first | (rw [add_block]; exact hn296_6) | (show (Addr.add _ _).block ≠ _; rw [add_block]; exact hn296_6) | exact hn296_6) (.int .i64 t292)).trans hx296_0
                  replace hx296_0 := (cell_far (p := ⟨gb295, 7, none⟩) (by first | (rw [add_block]; exact hn296_7) | (show (Addr.add _ _).block ≠ _; rw [add_block]; exact hn296_7) | exact hn296_7) (.int .i64 t294)).trans hx296_0
                  replace hx296_0 := (cell_far (p := ⟨gb295, 8, none⟩) (by first | (rw [add_block]; exact hn296_8) | (show (Addr.add _ _).block ≠ _; rw [add_block]; exact hn296_8) | exact hn296_8) (.string (⟨#[]⟩ : ByteArray))).trans hx296_0
                  clear hn296_0
                  clear hn296_1
                  clear hn296_2
                  clear hn296_3
                  clear hn296_4
                  clear hn296_5
                  clear hn296_6
                  clear hn296_7
                  clear hn296_8
                  replace p296 := eq_true p296
                  replace q296 := eq_true q296
                  go_upto_if 41 with (fail)
                  go_cut [] (fun wc => ∃ (kq : Nat) (x296008_25 : ByteArray), Aside0 (stowageref15_Decode.j0 kq l0 t281 t283 ((rd l0 10) == 1) t286 t288 t290 t292 t294 x296008_25 = some (r1, r2, r3, r4, r5, r6, r7, r8, r9, r10)) ∧ Aside0 (kq ≤ k) ∧ Aside0 (wc.heap[gb279]? = some (.cells #[.int .i64 0, .int .i64 0, .bool false, .int .i64 0, .int .i64 0, .int .i64 0, .int .i64 0, .int .i64 0, .string (⟨#[]⟩ : ByteArray)] 25 (0, 0))) ∧ Aside0 (wc.heap[gb295]? = some (.cells #[.int .i64 t281, .int .i64 t283, .bool ((rd l0 10) == 1), .int .i64 t286, .int .i64 t288, .int .i64 t290, .int .i64 t292, .int .i64 t294, .string x296008_25] 25 (0, 0))) ∧ Aside0 (Below w.heap.size w wc))
                  case first =>
                   have H := HC26.out
                   clear HC26
                   by_cases c47 : (rd l0 40) = 16
                   ·rw [if_pos c47] at H
                    have c47b0 : ((rd l0 40) == 16) = true := beq_iff_eq.mpr c47
                    have c47b1 : ((rd l0 40) != 16) = false := bne_eq_false_iff_eq.mpr c47
                    clear c47
                    (first | rw [c47b0] | (simp only [i64_w, i32_w]; rw [c47b0]) | rw [c47b1] | skip)
                    by_cases c48 : 41 ≤ 57
                    ·rw [if_pos c48] at H
                     have c48b0 := eq_true c48
                     have c48b1 : decide (41 ≤ 57) = true := decide_eq_true c48
                     clear c48
                     by_cases c49 : 57 ≤ (l0.length : Int)
                     ·rw [if_pos c49] at H
                      have c49b0 := eq_true c49
                      have c49b1 : decide (57 ≤ (l0.length : Int)) = true := decide_eq_true c49
                      clear c49
                      have H' := Aside0.mk H
                      clear H
                      obtain ⟨i050, hi050, _, hsz50, _⟩ := info_parts info5
                      obtain ⟨A50, hcut50, hA50, hC50⟩ := print_mid_of (P := Try.prog) (Value.int .u8) 0 26 5 .i64 .i64 Try.underlying26 hi050 hsz50 (some ad284) c0 l0 41 57 (by omega) (by first | omega | exact of_decide_eq_true (by first | (with_reducible assumption) | assumption)) (of_decide_eq_true (by first | (with_reducible assumption) | assumption)) HC0.out
                      have HR297 := Aside0.mk (Kd.C_of_reads (h1 := fun _ => rfl) (hA50 _ (Kd.reads_of_C HR0.out)))
                      have HC297 := Aside0.mk hC50
                      clear hA50 hC50 hi050 hsz50
                      have hcv51 := Kd.C_string (P := Try.prog) (A := A50) (c := (c0 - 41)) Try.underlying26 Try.underlying5 Try.underlying9 (Kd.C_below (w1 := (((((((((w37.setCell ⟨gb295, 0, none⟩ (.int .i64 t281)).setCell ⟨gb295, 1, none⟩ (.int .i64 t283)).setCell ⟨gb295, 2, none⟩ (.bool ((rd l0 10) == 1))).setCell ⟨gb295, 3, none⟩ (.int .i64 t286)).setCell ⟨gb295, 4, none⟩ (.int .i64 t288)).setCell ⟨gb295, 5, none⟩ (.int .i64 t290)).setCell ⟨gb295, 6, none⟩ (.int .i64 t292)).setCell ⟨gb295, 7, none⟩ (.int .i64 t294)).setCell ⟨gb295, 8, none⟩ (.string (⟨#[]⟩ : ByteArray)))) HR297.out (by repeat (first | (with_reducible first | exact HB.out | apply below_alloc | apply pw_below_drewN | apply below_drew1 | refine below_set ?_ GE279.out | refine below_set ?_ GE295.out) | exact HB.out)))
                      have hcx51 := hcv51
                      (try simp only [Int.reduceToNat, List.length_drop, List.length_take] at hcx51)
                      have hnb52 := NB295_279.out
                      have hnc52 := NB279_295.out
                      have hcz53_0 : w37.cell? ⟨gb295, 0, none⟩ = some (.int .i64 0) := (blk_cell BK295.out 0).trans rfl
                      have hcz53_1 : w37.cell? ⟨gb295, 1, none⟩ = some (.int .i64 0) := (blk_cell BK295.out 1).trans rfl
                      have hcz53_2 : w37.cell? ⟨gb295, 2, none⟩ = some (.bool false) := (blk_cell BK295.out 2).trans rfl
                      have hcz53_3 : w37.cell? ⟨gb295, 3, none⟩ = some (.int .i64 0) := (blk_cell BK295.out 3).trans rfl
                      have hcz53_4 : w37.cell? ⟨gb295, 4, none⟩ = some (.int .i64 0) := (blk_cell BK295.out 4).trans rfl
                      have hcz53_5 : w37.cell? ⟨gb295, 5, none⟩ = some (.int .i64 0) := (blk_cell BK295.out 5).trans rfl
                      have hcz53_6 : w37.cell? ⟨gb295, 6, none⟩ = some (.int .i64 0) := (blk_cell BK295.out 6).trans rfl
                      have hcz53_7 : w37.cell? ⟨gb295, 7, none⟩ = some (.int .i64 0) := (blk_cell BK295.out 7).trans rfl
                      have hcz53_8 : w37.cell? ⟨gb295, 8, none⟩ = some (.string (⟨#[]⟩ : ByteArray)) := (blk_cell BK295.out 8).trans rfl
                      have hfz53_0 := blk_frozen BK295.out 0
                      have hfz53_1 := blk_frozen BK295.out 1
                      have hfz53_2 := blk_frozen BK295.out 2
                      have hfz53_3 := blk_frozen BK295.out 3
                      have hfz53_4 := blk_frozen BK295.out 4
                      have hfz53_5 := blk_frozen BK295.out 5
                      have hfz53_6 := blk_frozen BK295.out 6
                      have hfz53_7 := blk_frozen BK295.out 7
                      have hfz53_8 := blk_frozen BK295.out 8
                      go_wp2
                      go_meet
                      case rel => exact ⟨_, (strOfNums ((l0.take 57).drop 41)), H', ⟨by first | omega | exact Nat.le_refl _⟩, ⟨by (with_reducible repeat (first | refine blk_drewN ?_ _ | refine blk_drew ?_ | refine blk_alloc ?_ _)); refine blk_far ?_ NB279_295.out _; (with_reducible repeat (first | refine blk_drewN ?_ _ | refine blk_drew ?_ | refine blk_alloc ?_ _)); refine blk_far ?_ NB279_295.out _; (with_reducible repeat (first | refine blk_drewN ?_ _ | refine blk_drew ?_ | refine blk_alloc ?_ _)); refine blk_far ?_ NB279_295.out _; (with_reducible repeat (first | refine blk_drewN ?_ _ | refine blk_drew ?_ | refine blk_alloc ?_ _)); refine blk_far ?_ NB279_295.out _; (with_reducible repeat (first | refine blk_drewN ?_ _ | refine blk_drew ?_ | refine blk_alloc ?_ _)); refine blk_far ?_ NB279_295.out _; (with_reducible repeat (first | refine blk_drewN ?_ _ | refine blk_drew ?_ | refine blk_alloc ?_ _)); refine blk_far ?_ NB279_295.out _; (with_reducible repeat (first | refine blk_drewN ?_ _ | refine blk_drew ?_ | refine blk_alloc ?_ _)); refine blk_far ?_ NB279_295.out _; (with_reducible repeat (first | refine blk_drewN ?_ _ | refine blk_drew ?_ | refine blk_alloc ?_ _)); refine blk_far ?_ NB279_295.out _; (with_reducible repeat (first | refine blk_drewN ?_ _ | refine blk_drew ?_ | refine blk_alloc ?_ _)); refine blk_far ?_ NB279_295.out _; (with_reducible repeat (first | refine blk_drewN ?_ _ | refine blk_drew ?_ | refine blk_alloc ?_ _)); refine blk_far ?_ NB279_295.out _; (with_reducible repeat (first | refine blk_drewN ?_ _ | refine blk_drew ?_ | refine blk_alloc ?_ _)); exact BK279.out⟩, ⟨by (with_reducible repeat (first | refine blk_drewN ?_ _ | refine blk_drew ?_ | refine blk_alloc ?_ _)); refine blk_put (cs := #[.int .i64 t281, .int .i64 t283, .bool ((rd l0 10) == 1), .int .i64 t286, .int .i64 t288, .int .i64 t290, .int .i64 t292, .int .i64 t294, .string (⟨#[]⟩ : ByteArray)]) ?_ 8 _ rfl; (with_reducible repeat (first | refine blk_drewN ?_ _ | refine blk_drew ?_ | refine blk_alloc ?_ _)); refine blk_put (cs := #[.int .i64 t281, .int .i64 t283, .bool ((rd l0 10) == 1), .int .i64 t286, .int .i64 t288, .int .i64 t290, .int .i64 t292, .int .i64 t294, .string (⟨#[]⟩ : ByteArray)]) ?_ 8 _ rfl; (with_reducible repeat (first | refine blk_drewN ?_ _ | refine blk_drew ?_ | refine blk_alloc ?_ _)); refine blk_put (cs := #[.int .i64 t281, .int .i64 t283, .bool ((rd l0 10) == 1), .int .i64 t286, .int .i64 t288, .int .i64 t290, .int .i64 t292, .int .i64 0, .string (⟨#[]⟩ : ByteArray)]) ?_ 7 _ rfl; (with_reducible repeat (first | refine blk_drewN ?_ _ | refine blk_drew ?_ | refine blk_alloc ?_ _)); refine blk_put (cs := #[.int .i64 t281, .int .i64 t283, .bool ((rd l0 10) == 1), .int .i64 t286, .int .i64 t288, .int .i64 t290, .int .i64 0, .int .i64 0, .string (⟨#[]⟩ : ByteArray)]) ?_ 6 _ rfl; (with_reducible repeat (first | refine blk_drewN ?_ _ | refine blk_drew ?_ | refine blk_alloc ?_ _)); refine blk_put (cs := #[.int .i64 t281, .int .i64 t283, .bool ((rd l0 10) == 1), .int .i64 t286, .int .i64 t288, .int .i64 0, .int .i64 0, .int .i64 0, .string (⟨#[]⟩ : ByteArray)]) ?_ 5 _ rfl; (with_reducible repeat (first | refine blk_drewN ?_ _ | refine blk_drew ?_ | refine blk_alloc ?_ _)); refine blk_put (cs := #[.int .i64 t281, .int .i64 t283, .bool ((rd l0 10) == 1), .int .i64 t286, .int .i64 0, .int .i64 0, .int .i64 0, .int .i64 0, .string (⟨#[]⟩ : ByteArray)]) ?_ 4 _ rfl; (with_reducible repeat (first | refine blk_drewN ?_ _ | refine blk_drew ?_ | refine blk_alloc ?_ _)); refine blk_put (cs := #[.int .i64 t281, .int .i64 t283, .bool ((rd l0 10) == 1), .int .i64 0, .int .i64 0, .int .i64 0, .int .i64 0, .int .i64 0, .string (⟨#[]⟩ : ByteArray)]) ?_ 3 _ rfl; (with_reducible repeat (first | refine blk_drewN ?_ _ | refine blk_drew ?_ | refine blk_alloc ?_ _)); refine blk_put (cs := #[.int .i64 t281, .int .i64 t283, .bool false, .int .i64 0, .int .i64 0, .int .i64 0, .int .i64 0, .int .i64 0, .string (⟨#[]⟩ : ByteArray)]) ?_ 2 _ rfl; (with_reducible repeat (first | refine blk_drewN ?_ _ | refine blk_drew ?_ | refine blk_alloc ?_ _)); refine blk_put (cs := #[.int .i64 t281, .int .i64 0, .bool false, .int .i64 0, .int .i64 0, .int .i64 0, .int .i64 0, .int .i64 0, .string (⟨#[]⟩ : ByteArray)]) ?_ 1 _ rfl; (with_reducible repeat (first | refine blk_drewN ?_ _ | refine blk_drew ?_ | refine blk_alloc ?_ _)); refine blk_put (cs := #[.int .i64 0, .int .i64 0, .bool false, .int .i64 0, .int .i64 0, .int .i64 0, .int .i64 0, .int .i64 0, .string (⟨#[]⟩ : ByteArray)]) ?_ 0 _ rfl; (with_reducible repeat (first | refine blk_drewN ?_ _ | refine blk_drew ?_ | refine blk_alloc ?_ _)); exact BK295.out⟩, ⟨by repeat (first | (with_reducible first | exact HB.out | apply below_alloc | apply pw_below_drewN | apply below_drew1 | refine below_set ?_ GE279.out | refine below_set ?_ GE295.out) | exact HB.out)⟩⟩
                     ·rw [if_neg c49] at H
                      exact absurd H (by simp)
                    ·rw [if_neg c48] at H
                     exact absurd H (by simp)
                   ·rw [if_neg c47] at H
                    have c47b0 : ((rd l0 40) == 16) = false := beq_eq_false_iff_ne.mpr c47
                    have c47b1 : ((rd l0 40) != 16) = true := bne_iff_ne.mpr c47
                    (first | rw [c47b0] | (simp only [i64_w, i32_w]; rw [c47b0]) | rw [c47b1] | skip)
                    have H' := Aside0.mk H
                    clear H
                    go_wp2
                    go_meet
                    case rel => exact ⟨_, ((⟨#[]⟩ : ByteArray)), H', ⟨by first | omega | exact Nat.le_refl _⟩, ⟨by (with_reducible repeat (first | refine blk_drewN ?_ _ | refine blk_drew ?_ | refine blk_alloc ?_ _)); refine blk_far ?_ NB279_295.out _; (with_reducible repeat (first | refine blk_drewN ?_ _ | refine blk_drew ?_ | refine blk_alloc ?_ _)); refine blk_far ?_ NB279_295.out _; (with_reducible repeat (first | refine blk_drewN ?_ _ | refine blk_drew ?_ | refine blk_alloc ?_ _)); refine blk_far ?_ NB279_295.out _; (with_reducible repeat (first | refine blk_drewN ?_ _ | refine blk_drew ?_ | refine blk_alloc ?_ _)); refine blk_far ?_ NB279_295.out _; (with_reducible repeat (first | refine blk_drewN ?_ _ | refine blk_drew ?_ | refine blk_alloc ?_ _)); refine blk_far ?_ NB279_295.out _; (with_reducible repeat (first | refine blk_drewN ?_ _ | refine blk_drew ?_ | refine blk_alloc ?_ _)); refine blk_far ?_ NB279_295.out _; (with_reducible repeat (first | refine blk_drewN ?_ _ | refine blk_drew ?_ | refine blk_alloc ?_ _)); refine blk_far ?_ NB279_295.out _; (with_reducible repeat (first | refine blk_drewN ?_ _ | refine blk_drew ?_ | refine blk_alloc ?_ _)); refine blk_far ?_ NB279_295.out _; (with_reducible repeat (first | refine blk_drewN ?_ _ | refine blk_drew ?_ | refine blk_alloc ?_ _)); refine blk_far ?_ NB279_295.out _; (with_reducible repeat (first | refine blk_drewN ?_ _ | refine blk_drew ?_ | refine blk_alloc ?_ _)); exact BK279.out⟩, ⟨by (with_reducible repeat (first | refine blk_drewN ?_ _ | refine blk_drew ?_ | refine blk_alloc ?_ _)); refine blk_put (cs := #[.int .i64 t281, .int .i64 t283, .bool ((rd l0 10) == 1), .int .i64 t286, .int .i64 t288, .int .i64 t290, .int .i64 t292, .int .i64 t294, .string (⟨#[]⟩ : ByteArray)]) ?_ 8 _ rfl; (with_reducible repeat (first | refine blk_drewN ?_ _ | refine blk_drew ?_ | refine blk_alloc ?_ _)); refine blk_put (cs := #[.int .i64 t281, .int .i64 t283, .bool ((rd l0 10) == 1), .int .i64 t286, .int .i64 t288, .int .i64 t290, .int .i64 t292, .int .i64 0, .string (⟨#[]⟩ : ByteArray)]) ?_ 7 _ rfl; (with_reducible repeat (first | refine blk_drewN ?_ _ | refine blk_drew ?_ | refine blk_alloc ?_ _)); refine blk_put (cs := #[.int .i64 t281, .int .i64 t283, .bool ((rd l0 10) == 1), .int .i64 t286, .int .i64 t288, .int .i64 t290, .int .i64 0, .int .i64 0, .string (⟨#[]⟩ : ByteArray)]) ?_ 6 _ rfl; (with_reducible repeat (first | refine blk_drewN ?_ _ | refine blk_drew ?_ | refine blk_alloc ?_ _)); refine blk_put (cs := #[.int .i64 t281, .int .i64 t283, .bool ((rd l0 10) == 1), .int .i64 t286, .int .i64 t288, .int .i64 0, .int .i64 0, .int .i64 0, .string (⟨#[]⟩ : ByteArray)]) ?_ 5 _ rfl; (with_reducible repeat (first | refine blk_drewN ?_ _ | refine blk_drew ?_ | refine blk_alloc ?_ _)); refine blk_put (cs := #[.int .i64 t281, .int .i64 t283, .bool ((rd l0 10) == 1), .int .i64 t286, .int .i64 0, .int .i64 0, .int .i64 0, .int .i64 0, .string (⟨#[]⟩ : ByteArray)]) ?_ 4 _ rfl; (with_reducible repeat (first | refine blk_drewN ?_ _ | refine blk_drew ?_ | refine blk_alloc ?_ _)); refine blk_put (cs := #[.int .i64 t281, .int .i64 t283, .bool ((rd l0 10) == 1), .int .i64 0, .int .i64 0, .int .i64 0, .int .i64 0, .int .i64 0, .string (⟨#[]⟩ : ByteArray)]) ?_ 3 _ rfl; (with_reducible repeat (first | refine blk_drewN ?_ _ | refine blk_drew ?_ | refine blk_alloc ?_ _)); refine blk_put (cs := #[.int .i64 t281, .int .i64 t283, .bool false, .int .i64 0, .int .i64 0, .int .i64 0, .int .i64 0, .int .i64 0, .string (⟨#[]⟩ : ByteArray)]) ?_ 2 _ rfl; (with_reducible repeat (first | refine blk_drewN ?_ _ | refine blk_drew ?_ | refine blk_alloc ?_ _)); refine blk_put (cs := #[.int .i64 t281, .int .i64 0, .bool false, .int .i64 0, .int .i64 0, .int .i64 0, .int .i64 0, .int .i64 0, .string (⟨#[]⟩ : ByteArray)]) ?_ 1 _ rfl; (with_reducible repeat (first | refine blk_drewN ?_ _ | refine blk_drew ?_ | refine blk_alloc ?_ _)); refine blk_put (cs := #[.int .i64 0, .int .i64 0, .bool false, .int .i64 0, .int .i64 0, .int .i64 0, .int .i64 0, .int .i64 0, .string (⟨#[]⟩ : ByteArray)]) ?_ 0 _ rfl; (with_reducible repeat (first | refine blk_drewN ?_ _ | refine blk_drew ?_ | refine blk_alloc ?_ _)); exact BK295.out⟩, ⟨by repeat (first | (with_reducible first | exact HB.out | apply below_alloc | apply pw_below_drewN | apply below_drew1 | refine below_set ?_ GE279.out | refine below_set ?_ GE295.out) | exact HB.out)⟩⟩
                  case rest =>
                   clear HC26
                   try clear c2
                   try clear p2
                   try clear q2
                   try clear hx2
                   try clear qi2
                   try clear c4
                   try clear c5
                   try clear hcv5
                   try clear c26
                   try clear p29
                   try clear q29
                   try clear hx29
                   try clear qi29
                   try clear c47
                   try clear c47b0
                   try clear c47b1
                   try clear c48
                   try clear c48b0
                   try clear c48b1
                   try clear c49
                   try clear c49b0
                   try clear c49b1
                   try clear hcv51
                   try clear c52
                   try clear hcz53_0
                   try clear hcz53_1
                   try clear hcz53_2
                   try clear hcz53_3
                   try clear hcz53_4
                   try clear hcz53_5
                   try clear hcz53_6
                   try clear hcz53_7
                   try clear hcz53_8
                   try clear hfz53_0
                   try clear hfz53_1
                   try clear hfz53_2
                   try clear hfz53_3
                   try clear hfz53_4
                   try clear hfz53_5
                   try clear hfz53_6
                   try clear hfz53_7
                   try clear hfz53_8
                   try clear hx296_0
                   try clear p296
                   try clear q296
                   obtain ⟨kq, x296008_25, HA, HJ25, BK279, BK295, HB⟩ := hcut
                   cases kq with
                   | zero => exact absurd HA.out (by simp [stowageref15_Decode.j0])
                   | succ kj25 =>
                    have H := HA.out
                    clear HA
                    simp only [stowageref15_Decode.j0] at H
                    replace H := Option.bind_eq_some_iff.mp H
                    obtain ⟨⟨t298, t301⟩, A540, H⟩ := H
                    replace H : (if t301 = 0 then (if (strOfNums t298).toList = (strOfNums l0).toList then (some (t281, t283, ((rd l0 10) == 1), t286, t288, t290, t292, t294, x296008_25, 0)) else (some (0, 0, false, 0, 0, 0, 0, 0, (⟨#[]⟩ : ByteArray), 2))) else (some (0, 0, false, 0, 0, 0, 0, 0, (⟨#[]⟩ : ByteArray), 2))) = some (r1, r2, r3, r4, r5, r6, r7, r8, r9, r10) := H
                    have A54 := Aside0.mk A540
                    clear A540
                    by_cases c55 : t301 = 0
                    ·rw [if_pos c55] at H
                     have c55b0 : (t301 == 0) = true := beq_iff_eq.mpr c55
                     have c55b1 : (t301 != 0) = false := bne_eq_false_iff_eq.mpr c55
                     clear c55
                     by_cases c56 : (strOfNums t298).toList = (strOfNums l0).toList
                     ·rw [if_pos c56] at H
                      have c56b0 : ((strOfNums t298).toList == (strOfNums l0).toList) = true := beq_iff_eq.mpr c56
                      have c56b1 : ((strOfNums t298).toList != (strOfNums l0).toList) = false := bne_eq_false_iff_eq.mpr c56
                      clear c56
                      simp only [Option.some.injEq, Prod.mk.injEq] at H
                      obtain ⟨rfl, rfl, rfl, rfl, rfl, rfl, rfl, rfl, rfl, rfl⟩ := H
                      have hnb57 := NB295_279.out
                      have hnc57 := NB279_295.out
                      have hcz58_0 : wc.cell? ⟨gb295, 0, none⟩ = some (.int .i64 t281) := (blk_cell BK295.out 0).trans rfl
                      have hcz58_1 : wc.cell? ⟨gb295, 1, none⟩ = some (.int .i64 t283) := (blk_cell BK295.out 1).trans rfl
                      have hcz58_2 : wc.cell? ⟨gb295, 2, none⟩ = some (.bool ((rd l0 10) == 1)) := (blk_cell BK295.out 2).trans rfl
                      have hcz58_3 : wc.cell? ⟨gb295, 3, none⟩ = some (.int .i64 t286) := (blk_cell BK295.out 3).trans rfl
                      have hcz58_4 : wc.cell? ⟨gb295, 4, none⟩ = some (.int .i64 t288) := (blk_cell BK295.out 4).trans rfl
                      have hcz58_5 : wc.cell? ⟨gb295, 5, none⟩ = some (.int .i64 t290) := (blk_cell BK295.out 5).trans rfl
                      have hcz58_6 : wc.cell? ⟨gb295, 6, none⟩ = some (.int .i64 t292) := (blk_cell BK295.out 6).trans rfl
                      have hcz58_7 : wc.cell? ⟨gb295, 7, none⟩ = some (.int .i64 t294) := (blk_cell BK295.out 7).trans rfl
                      have hcz58_8 : wc.cell? ⟨gb295, 8, none⟩ = some (.string x296008_25) := (blk_cell BK295.out 8).trans rfl
                      have hfz58_0 := blk_frozen BK295.out 0
                      have hfz58_1 := blk_frozen BK295.out 1
                      have hfz58_2 := blk_frozen BK295.out 2
                      have hfz58_3 := blk_frozen BK295.out 3
                      have hfz58_4 := blk_frozen BK295.out 4
                      have hfz58_5 := blk_frozen BK295.out 5
                      have hfz58_6 := blk_frozen BK295.out 6
                      have hfz58_7 := blk_frozen BK295.out 7
                      have hfz58_8 := blk_frozen BK295.out 8
                      go_wp2_with (first | ((with_reducible refine gate_callee (f := 11) rfl ?_); refine goesL_ (some 49) rfl rfl Try.func11 (by kernel_rfl) rfl #[.agg #[.int .i64 t281, .int .i64 t283, .bool ((rd l0 10) == 1), .int .i64 t286, .int .i64 t288, .int .i64 t290, .int .i64 t292, .int .i64 t294, .string x296008_25]] rfl (by (try simp only [List.map_toArray, List.map_cons, List.map_nil]); first | done | rfl | (simp only [List.length_drop, List.length_take]; rfl)) ?_; (with_reducible refine (stowageref15_Encode.calls kj25 t281 t283 ((rd l0 10) == 1) t286 t288 t290 t292 t294 x296008_25 t298 t301 _ A54.out).mono ?_); rintro e w59 ⟨v299, rfl, ho0, hb⟩; refine ⟨_, rfl, ?_⟩; have n0_ := Aside0.mk (Kd.R_lower ho0 (below_size (by repeat (first | (with_reducible first | exact HB.out | apply below_alloc | apply pw_below_drewN | apply below_drew1 | refine below_set ?_ GE279.out | refine below_set ?_ GE295.out) | exact HB.out)))); have n1_ := Aside0.mk (blk_below (g := gb279) (o := .cells #[.int .i64 0, .int .i64 0, .bool false, .int .i64 0, .int .i64 0, .int .i64 0, .int .i64 0, .int .i64 0, .string (⟨#[]⟩ : ByteArray)] 25 (0, 0)) (by (with_reducible repeat (first | refine blk_drewN ?_ _ | refine blk_drew ?_ | refine blk_alloc ?_ _)); exact BK279.out) hb); have n2_ := Aside0.mk (blk_below (g := gb295) (o := .cells #[.int .i64 t281, .int .i64 t283, .bool ((rd l0 10) == 1), .int .i64 t286, .int .i64 t288, .int .i64 t290, .int .i64 t292, .int .i64 t294, .string x296008_25] 25 (0, 0)) (by (with_reducible repeat (first | refine blk_drewN ?_ _ | refine blk_drew ?_ | refine blk_alloc ?_ _)); exact BK295.out) hb); have n3_ := Aside0.mk (below_step (by repeat (first | (with_reducible first | exact HB.out | apply below_alloc | apply pw_below_drewN | apply below_drew1 | refine below_set ?_ GE279.out | refine below_set ?_ GE295.out) | exact HB.out)) hb); clear BK279; clear BK295; clear HB; have HO300 := n0_; have BK279 := n1_; have BK295 := n2_; have HB := n3_; clear n0_ n1_ n2_ n3_; (try clear hb); (try clear hb2); (try clear hk); (try clear hi); (try clear ho0); have hcv60 := fun nq_ : Nat => own_string (P := Try.prog) Try.underlying26 Try.underlying5 Try.underlying9 (Kd.own_of_R (Kd.R_drewN HO300.out nq_)); have hcw61 := own_string (P := Try.prog) Try.underlying26 Try.underlying5 Try.underlying9 (Kd.own_of_R HO300.out); have hcv62 := Kd.C_string (P := Try.prog) (A := (some ad284)) (c := c0) Try.underlying26 Try.underlying5 Try.underlying9 (Kd.C_below HR0.out HB.out); have hcx62 := hcv62; (try simp only [Int.reduceToNat, List.length_drop, List.length_take] at hcx62); have hcz63_0 : w59.cell? ⟨gb295, 0, none⟩ = some (.int .i64 t281) := (blk_cell BK295.out 0).trans rfl; have hcz63_1 : w59.cell? ⟨gb295, 1, none⟩ = some (.int .i64 t283) := (blk_cell BK295.out 1).trans rfl; have hcz63_2 : w59.cell? ⟨gb295, 2, none⟩ = some (.bool ((rd l0 10) == 1)) := (blk_cell BK295.out 2).trans rfl; have hcz63_3 : w59.cell? ⟨gb295, 3, none⟩ = some (.int .i64 t286) := (blk_cell BK295.out 3).trans rfl; have hcz63_4 : w59.cell? ⟨gb295, 4, none⟩ = some (.int .i64 t288) := (blk_cell BK295.out 4).trans rfl; have hcz63_5 : w59.cell? ⟨gb295, 5, none⟩ = some (.int .i64 t290) := (blk_cell BK295.out 5).trans rfl; have hcz63_6 : w59.cell? ⟨gb295, 6, none⟩ = some (.int .i64 t292) := (blk_cell BK295.out 6).trans rfl; have hcz63_7 : w59.cell? ⟨gb295, 7, none⟩ = some (.int .i64 t294) := (blk_cell BK295.out 7).trans rfl; have hcz63_8 : w59.cell? ⟨gb295, 8, none⟩ = some (.string x296008_25) := (blk_cell BK295.out 8).trans rfl; have hfz63_0 := blk_frozen BK295.out 0; have hfz63_1 := blk_frozen BK295.out 1; have hfz63_2 := blk_frozen BK295.out 2; have hfz63_3 := blk_frozen BK295.out 3; have hfz63_4 := blk_frozen BK295.out 4; have hfz63_5 := blk_frozen BK295.out 5; have hfz63_6 := blk_frozen BK295.out 6; have hfz63_7 := blk_frozen BK295.out 7; have hfz63_8 := blk_frozen BK295.out 8; have hcz64_0 : w59.cell? ⟨gb279, 0, none⟩ = some (.int .i64 0) := (blk_cell BK279.out 0).trans rfl; have hcz64_1 : w59.cell? ⟨gb279, 1, none⟩ = some (.int .i64 0) := (blk_cell BK279.out 1).trans rfl; have hcz64_2 : w59.cell? ⟨gb279, 2, none⟩ = some (.bool false) := (blk_cell BK279.out 2).trans rfl; have hcz64_3 : w59.cell? ⟨gb279, 3, none⟩ = some (.int .i64 0) := (blk_cell BK279.out 3).trans rfl; have hcz64_4 : w59.cell? ⟨gb279, 4, none⟩ = some (.int .i64 0) := (blk_cell BK279.out 4).trans rfl; have hcz64_5 : w59.cell? ⟨gb279, 5, none⟩ = some (.int .i64 0) := (blk_cell BK279.out 5).trans rfl; have hcz64_6 : w59.cell? ⟨gb279, 6, none⟩ = some (.int .i64 0) := (blk_cell BK279.out 6).trans rfl; have hcz64_7 : w59.cell? ⟨gb279, 7, none⟩ = some (.int .i64 0) := (blk_cell BK279.out 7).trans rfl; have hcz64_8 : w59.cell? ⟨gb279, 8, none⟩ = some (.string (⟨#[]⟩ : ByteArray)) := (blk_cell BK279.out 8).trans rfl; have hfz64_0 := blk_frozen BK279.out 0; have hfz64_1 := blk_frozen BK279.out 1; have hfz64_2 := blk_frozen BK279.out 2; have hfz64_3 := blk_frozen BK279.out 3; have hfz64_4 := blk_frozen BK279.out 4; have hfz64_5 := blk_frozen BK279.out 5; have hfz64_6 := blk_frozen BK279.out 6; have hfz64_7 := blk_frozen BK279.out 7; have hfz64_8 := blk_frozen BK279.out 8))
                      refine bodyPost_ret (results_ct rfl _ _ gb279 25 #[.int .i64 t281, .int .i64 t283, .bool ((rd l0 10) == 1), .int .i64 t286, .int .i64 t288, .int .i64 t290, .int .i64 t292, .int .i64 t294, .string x296008_25] (0, 0) _ rfl (by (with_reducible repeat (first | refine blk_drewN ?_ _ | refine blk_drew ?_ | refine blk_alloc ?_ _)); refine blk_put (cs := #[.int .i64 t281, .int .i64 t283, .bool ((rd l0 10) == 1), .int .i64 t286, .int .i64 t288, .int .i64 t290, .int .i64 t292, .int .i64 t294, .string (⟨#[]⟩ : ByteArray)]) ?_ 8 _ rfl; (with_reducible repeat (first | refine blk_drewN ?_ _ | refine blk_drew ?_ | refine blk_alloc ?_ _)); refine blk_put (cs := #[.int .i64 t281, .int .i64 t283, .bool ((rd l0 10) == 1), .int .i64 t286, .int .i64 t288, .int .i64 t290, .int .i64 t292, .int .i64 0, .string (⟨#[]⟩ : ByteArray)]) ?_ 7 _ rfl; (with_reducible repeat (first | refine blk_drewN ?_ _ | refine blk_drew ?_ | refine blk_alloc ?_ _)); refine blk_put (cs := #[.int .i64 t281, .int .i64 t283, .bool ((rd l0 10) == 1), .int .i64 t286, .int .i64 t288, .int .i64 t290, .int .i64 0, .int .i64 0, .string (⟨#[]⟩ : ByteArray)]) ?_ 6 _ rfl; (with_reducible repeat (first | refine blk_drewN ?_ _ | refine blk_drew ?_ | refine blk_alloc ?_ _)); refine blk_put (cs := #[.int .i64 t281, .int .i64 t283, .bool ((rd l0 10) == 1), .int .i64 t286, .int .i64 t288, .int .i64 0, .int .i64 0, .int .i64 0, .string (⟨#[]⟩ : ByteArray)]) ?_ 5 _ rfl; (with_reducible repeat (first | refine blk_drewN ?_ _ | refine blk_drew ?_ | refine blk_alloc ?_ _)); refine blk_put (cs := #[.int .i64 t281, .int .i64 t283, .bool ((rd l0 10) == 1), .int .i64 t286, .int .i64 0, .int .i64 0, .int .i64 0, .int .i64 0, .string (⟨#[]⟩ : ByteArray)]) ?_ 4 _ rfl; (with_reducible repeat (first | refine blk_drewN ?_ _ | refine blk_drew ?_ | refine blk_alloc ?_ _)); refine blk_put (cs := #[.int .i64 t281, .int .i64 t283, .bool ((rd l0 10) == 1), .int .i64 0, .int .i64 0, .int .i64 0, .int .i64 0, .int .i64 0, .string (⟨#[]⟩ : ByteArray)]) ?_ 3 _ rfl; (with_reducible repeat (first | refine blk_drewN ?_ _ | refine blk_drew ?_ | refine blk_alloc ?_ _)); refine blk_put (cs := #[.int .i64 t281, .int .i64 t283, .bool false, .int .i64 0, .int .i64 0, .int .i64 0, .int .i64 0, .int .i64 0, .string (⟨#[]⟩ : ByteArray)]) ?_ 2 _ rfl; (with_reducible repeat (first | refine blk_drewN ?_ _ | refine blk_drew ?_ | refine blk_alloc ?_ _)); refine blk_put (cs := #[.int .i64 t281, .int .i64 0, .bool false, .int .i64 0, .int .i64 0, .int .i64 0, .int .i64 0, .int .i64 0, .string (⟨#[]⟩ : ByteArray)]) ?_ 1 _ rfl; (with_reducible repeat (first | refine blk_drewN ?_ _ | refine blk_drew ?_ | refine blk_alloc ?_ _)); refine blk_put (cs := #[.int .i64 0, .int .i64 0, .bool false, .int .i64 0, .int .i64 0, .int .i64 0, .int .i64 0, .int .i64 0, .string (⟨#[]⟩ : ByteArray)]) ?_ 0 _ rfl; (with_reducible repeat (first | refine blk_drewN ?_ _ | refine blk_drew ?_ | refine blk_alloc ?_ _)); exact BK279.out) Try.underlying25 rfl (by kernel_rfl)) rfl ?_
                      exact ⟨by first | rfl | (simp [errW_none, errW_some] <;> rfl) | (simp [*, errW_none, errW_some] <;> rfl), by repeat (first | (with_reducible first | exact HB.out | apply below_alloc | apply pw_below_drewN | apply below_drew1 | refine below_set ?_ GE279.out | refine below_set ?_ GE295.out) | exact HB.out)⟩
                     ·rw [if_neg c56] at H
                      have c56b0 : ((strOfNums t298).toList == (strOfNums l0).toList) = false := beq_eq_false_iff_ne.mpr c56
                      have c56b1 : ((strOfNums t298).toList != (strOfNums l0).toList) = true := bne_iff_ne.mpr c56
                      simp only [Option.some.injEq, Prod.mk.injEq] at H
                      obtain ⟨rfl, rfl, rfl, rfl, rfl, rfl, rfl, rfl, rfl, rfl⟩ := H
                      have hnb65 := NB295_279.out
                      have hnc65 := NB279_295.out
                      have hcz66_0 : wc.cell? ⟨gb295, 0, none⟩ = some (.int .i64 t281) := (blk_cell BK295.out 0).trans rfl
                      have hcz66_1 : wc.cell? ⟨gb295, 1, none⟩ = some (.int .i64 t283) := (blk_cell BK295.out 1).trans rfl
                      have hcz66_2 : wc.cell? ⟨gb295, 2, none⟩ = some (.bool ((rd l0 10) == 1)) := (blk_cell BK295.out 2).trans rfl
                      have hcz66_3 : wc.cell? ⟨gb295, 3, none⟩ = some (.int .i64 t286) := (blk_cell BK295.out 3).trans rfl
                      have hcz66_4 : wc.cell? ⟨gb295, 4, none⟩ = some (.int .i64 t288) := (blk_cell BK295.out 4).trans rfl
                      have hcz66_5 : wc.cell? ⟨gb295, 5, none⟩ = some (.int .i64 t290) := (blk_cell BK295.out 5).trans rfl
                      have hcz66_6 : wc.cell? ⟨gb295, 6, none⟩ = some (.int .i64 t292) := (blk_cell BK295.out 6).trans rfl
                      have hcz66_7 : wc.cell? ⟨gb295, 7, none⟩ = some (.int .i64 t294) := (blk_cell BK295.out 7).trans rfl
                      have hcz66_8 : wc.cell? ⟨gb295, 8, none⟩ = some (.string x296008_25) := (blk_cell BK295.out 8).trans rfl
                      have hfz66_0 := blk_frozen BK295.out 0
                      have hfz66_1 := blk_frozen BK295.out 1
                      have hfz66_2 := blk_frozen BK295.out 2
                      have hfz66_3 := blk_frozen BK295.out 3
                      have hfz66_4 := blk_frozen BK295.out 4
                      have hfz66_5 := blk_frozen BK295.out 5
                      have hfz66_6 := blk_frozen BK295.out 6
                      have hfz66_7 := blk_frozen BK295.out 7
                      have hfz66_8 := blk_frozen BK295.out 8
                      go_wp2_with (first | ((with_reducible refine gate_callee (f := 11) rfl ?_); refine goesL_ (some 49) rfl rfl Try.func11 (by kernel_rfl) rfl #[.agg #[.int .i64 t281, .int .i64 t283, .bool ((rd l0 10) == 1), .int .i64 t286, .int .i64 t288, .int .i64 t290, .int .i64 t292, .int .i64 t294, .string x296008_25]] rfl (by (try simp only [List.map_toArray, List.map_cons, List.map_nil]); first | done | rfl | (simp only [List.length_drop, List.length_take]; rfl)) ?_; (with_reducible refine (stowageref15_Encode.calls kj25 t281 t283 ((rd l0 10) == 1) t286 t288 t290 t292 t294 x296008_25 t298 t301 _ A54.out).mono ?_); rintro e w67 ⟨v299, rfl, ho0, hb⟩; refine ⟨_, rfl, ?_⟩; have n0_ := Aside0.mk (Kd.R_lower ho0 (below_size (by repeat (first | (with_reducible first | exact HB.out | apply below_alloc | apply pw_below_drewN | apply below_drew1 | refine below_set ?_ GE279.out | refine below_set ?_ GE295.out) | exact HB.out)))); have n1_ := Aside0.mk (blk_below (g := gb279) (o := .cells #[.int .i64 0, .int .i64 0, .bool false, .int .i64 0, .int .i64 0, .int .i64 0, .int .i64 0, .int .i64 0, .string (⟨#[]⟩ : ByteArray)] 25 (0, 0)) (by (with_reducible repeat (first | refine blk_drewN ?_ _ | refine blk_drew ?_ | refine blk_alloc ?_ _)); exact BK279.out) hb); have n2_ := Aside0.mk (blk_below (g := gb295) (o := .cells #[.int .i64 t281, .int .i64 t283, .bool ((rd l0 10) == 1), .int .i64 t286, .int .i64 t288, .int .i64 t290, .int .i64 t292, .int .i64 t294, .string x296008_25] 25 (0, 0)) (by (with_reducible repeat (first | refine blk_drewN ?_ _ | refine blk_drew ?_ | refine blk_alloc ?_ _)); exact BK295.out) hb); have n3_ := Aside0.mk (below_step (by repeat (first | (with_reducible first | exact HB.out | apply below_alloc | apply pw_below_drewN | apply below_drew1 | refine below_set ?_ GE279.out | refine below_set ?_ GE295.out) | exact HB.out)) hb); clear BK279; clear BK295; clear HB; have HO300 := n0_; have BK279 := n1_; have BK295 := n2_; have HB := n3_; clear n0_ n1_ n2_ n3_; (try clear hb); (try clear hb2); (try clear hk); (try clear hi); (try clear ho0); have hcv68 := fun nq_ : Nat => own_string (P := Try.prog) Try.underlying26 Try.underlying5 Try.underlying9 (Kd.own_of_R (Kd.R_drewN HO300.out nq_)); have hcw69 := own_string (P := Try.prog) Try.underlying26 Try.underlying5 Try.underlying9 (Kd.own_of_R HO300.out); have hcv70 := Kd.C_string (P := Try.prog) (A := (some ad284)) (c := c0) Try.underlying26 Try.underlying5 Try.underlying9 (Kd.C_below HR0.out HB.out); have hcx70 := hcv70; (try simp only [Int.reduceToNat, List.length_drop, List.length_take] at hcx70); have hcz71_0 : w67.cell? ⟨gb279, 0, none⟩ = some (.int .i64 0) := (blk_cell BK279.out 0).trans rfl; have hcz71_1 : w67.cell? ⟨gb279, 1, none⟩ = some (.int .i64 0) := (blk_cell BK279.out 1).trans rfl; have hcz71_2 : w67.cell? ⟨gb279, 2, none⟩ = some (.bool false) := (blk_cell BK279.out 2).trans rfl; have hcz71_3 : w67.cell? ⟨gb279, 3, none⟩ = some (.int .i64 0) := (blk_cell BK279.out 3).trans rfl; have hcz71_4 : w67.cell? ⟨gb279, 4, none⟩ = some (.int .i64 0) := (blk_cell BK279.out 4).trans rfl; have hcz71_5 : w67.cell? ⟨gb279, 5, none⟩ = some (.int .i64 0) := (blk_cell BK279.out 5).trans rfl; have hcz71_6 : w67.cell? ⟨gb279, 6, none⟩ = some (.int .i64 0) := (blk_cell BK279.out 6).trans rfl; have hcz71_7 : w67.cell? ⟨gb279, 7, none⟩ = some (.int .i64 0) := (blk_cell BK279.out 7).trans rfl; have hcz71_8 : w67.cell? ⟨gb279, 8, none⟩ = some (.string (⟨#[]⟩ : ByteArray)) := (blk_cell BK279.out 8).trans rfl; have hfz71_0 := blk_frozen BK279.out 0; have hfz71_1 := blk_frozen BK279.out 1; have hfz71_2 := blk_frozen BK279.out 2; have hfz71_3 := blk_frozen BK279.out 3; have hfz71_4 := blk_frozen BK279.out 4; have hfz71_5 := blk_frozen BK279.out 5; have hfz71_6 := blk_frozen BK279.out 6; have hfz71_7 := blk_frozen BK279.out 7; have hfz71_8 := blk_frozen BK279.out 8))
                      refine bodyPost_ret (results_ct rfl _ _ gb279 25 #[.int .i64 0, .int .i64 0, .bool false, .int .i64 0, .int .i64 0, .int .i64 0, .int .i64 0, .int .i64 0, .string (⟨#[]⟩ : ByteArray)] (0, 0) _ rfl (by (with_reducible repeat (first | refine blk_drewN ?_ _ | refine blk_drew ?_ | refine blk_alloc ?_ _)); refine blk_put (cs := #[.int .i64 0, .int .i64 0, .bool false, .int .i64 0, .int .i64 0, .int .i64 0, .int .i64 0, .int .i64 0, .string (⟨#[]⟩ : ByteArray)]) ?_ 8 _ rfl; (with_reducible repeat (first | refine blk_drewN ?_ _ | refine blk_drew ?_ | refine blk_alloc ?_ _)); refine blk_put (cs := #[.int .i64 0, .int .i64 0, .bool false, .int .i64 0, .int .i64 0, .int .i64 0, .int .i64 0, .int .i64 0, .string (⟨#[]⟩ : ByteArray)]) ?_ 7 _ rfl; (with_reducible repeat (first | refine blk_drewN ?_ _ | refine blk_drew ?_ | refine blk_alloc ?_ _)); refine blk_put (cs := #[.int .i64 0, .int .i64 0, .bool false, .int .i64 0, .int .i64 0, .int .i64 0, .int .i64 0, .int .i64 0, .string (⟨#[]⟩ : ByteArray)]) ?_ 6 _ rfl; (with_reducible repeat (first | refine blk_drewN ?_ _ | refine blk_drew ?_ | refine blk_alloc ?_ _)); refine blk_put (cs := #[.int .i64 0, .int .i64 0, .bool false, .int .i64 0, .int .i64 0, .int .i64 0, .int .i64 0, .int .i64 0, .string (⟨#[]⟩ : ByteArray)]) ?_ 5 _ rfl; (with_reducible repeat (first | refine blk_drewN ?_ _ | refine blk_drew ?_ | refine blk_alloc ?_ _)); refine blk_put (cs := #[.int .i64 0, .int .i64 0, .bool false, .int .i64 0, .int .i64 0, .int .i64 0, .int .i64 0, .int .i64 0, .string (⟨#[]⟩ : ByteArray)]) ?_ 4 _ rfl; (with_reducible repeat (first | refine blk_drewN ?_ _ | refine blk_drew ?_ | refine blk_alloc ?_ _)); refine blk_put (cs := #[.int .i64 0, .int .i64 0, .bool false, .int .i64 0, .int .i64 0, .int .i64 0, .int .i64 0, .int .i64 0, .string (⟨#[]⟩ : ByteArray)]) ?_ 3 _ rfl; (with_reducible repeat (first | refine blk_drewN ?_ _ | refine blk_drew ?_ | refine blk_alloc ?_ _)); refine blk_put (cs := #[.int .i64 0, .int .i64 0, .bool false, .int .i64 0, .int .i64 0, .int .i64 0, .int .i64 0, .int .i64 0, .string (⟨#[]⟩ : ByteArray)]) ?_ 2 _ rfl; (with_reducible repeat (first | refine blk_drewN ?_ _ | refine blk_drew ?_ | refine blk_alloc ?_ _)); refine blk_put (cs := #[.int .i64 0, .int .i64 0, .bool false, .int .i64 0, .int .i64 0, .int .i64 0, .int .i64 0, .int .i64 0, .string (⟨#[]⟩ : ByteArray)]) ?_ 1 _ rfl; (with_reducible repeat (first | refine blk_drewN ?_ _ | refine blk_drew ?_ | refine blk_alloc ?_ _)); refine blk_put (cs := #[.int .i64 0, .int .i64 0, .bool false, .int .i64 0, .int .i64 0, .int .i64 0, .int .i64 0, .int .i64 0, .string (⟨#[]⟩ : ByteArray)]) ?_ 0 _ rfl; (with_reducible repeat (first | refine blk_drewN ?_ _ | refine blk_drew ?_ | refine blk_alloc ?_ _)); exact BK279.out) Try.underlying25 rfl (by kernel_rfl)) rfl ?_
                      exact ⟨by first | rfl | (simp [errW_none, errW_some] <;> rfl) | (simp [*, errW_none, errW_some] <;> rfl), by repeat (first | (with_reducible first | exact HB.out | apply below_alloc | apply pw_below_drewN | apply below_drew1 | refine below_set ?_ GE279.out | refine below_set ?_ GE295.out) | exact HB.out)⟩
                    ·rw [if_neg c55] at H
                     have c55b0 : (t301 == 0) = false := beq_eq_false_iff_ne.mpr c55
                     have c55b1 : (t301 != 0) = true := bne_iff_ne.mpr c55
                     simp only [Option.some.injEq, Prod.mk.injEq] at H
                     obtain ⟨rfl, rfl, rfl, rfl, rfl, rfl, rfl, rfl, rfl, rfl⟩ := H
                     have hnb72 := NB295_279.out
                     have hnc72 := NB279_295.out
                     have hcz73_0 : wc.cell? ⟨gb295, 0, none⟩ = some (.int .i64 t281) := (blk_cell BK295.out 0).trans rfl
                     have hcz73_1 : wc.cell? ⟨gb295, 1, none⟩ = some (.int .i64 t283) := (blk_cell BK295.out 1).trans rfl
                     have hcz73_2 : wc.cell? ⟨gb295, 2, none⟩ = some (.bool ((rd l0 10) == 1)) := (blk_cell BK295.out 2).trans rfl
                     have hcz73_3 : wc.cell? ⟨gb295, 3, none⟩ = some (.int .i64 t286) := (blk_cell BK295.out 3).trans rfl
                     have hcz73_4 : wc.cell? ⟨gb295, 4, none⟩ = some (.int .i64 t288) := (blk_cell BK295.out 4).trans rfl
                     have hcz73_5 : wc.cell? ⟨gb295, 5, none⟩ = some (.int .i64 t290) := (blk_cell BK295.out 5).trans rfl
                     have hcz73_6 : wc.cell? ⟨gb295, 6, none⟩ = some (.int .i64 t292) := (blk_cell BK295.out 6).trans rfl
                     have hcz73_7 : wc.cell? ⟨gb295, 7, none⟩ = some (.int .i64 t294) := (blk_cell BK295.out 7).trans rfl
                     have hcz73_8 : wc.cell? ⟨gb295, 8, none⟩ = some (.string x296008_25) := (blk_cell BK295.out 8).trans rfl
                     have hfz73_0 := blk_frozen BK295.out 0
                     have hfz73_1 := blk_frozen BK295.out 1
                     have hfz73_2 := blk_frozen BK295.out 2
                     have hfz73_3 := blk_frozen BK295.out 3
                     have hfz73_4 := blk_frozen BK295.out 4
                     have hfz73_5 := blk_frozen BK295.out 5
                     have hfz73_6 := blk_frozen BK295.out 6
                     have hfz73_7 := blk_frozen BK295.out 7
                     have hfz73_8 := blk_frozen BK295.out 8
                     go_wp2_with (first | ((with_reducible refine gate_callee (f := 11) rfl ?_); refine goesL_ (some 49) rfl rfl Try.func11 (by kernel_rfl) rfl #[.agg #[.int .i64 t281, .int .i64 t283, .bool ((rd l0 10) == 1), .int .i64 t286, .int .i64 t288, .int .i64 t290, .int .i64 t292, .int .i64 t294, .string x296008_25]] rfl (by (try simp only [List.map_toArray, List.map_cons, List.map_nil]); first | done | rfl | (simp only [List.length_drop, List.length_take]; rfl)) ?_; (with_reducible refine (stowageref15_Encode.calls kj25 t281 t283 ((rd l0 10) == 1) t286 t288 t290 t292 t294 x296008_25 t298 t301 _ A54.out).mono ?_); rintro e w74 ⟨v299, rfl, ho0, hb⟩; refine ⟨_, rfl, ?_⟩; have n0_ := Aside0.mk (Kd.R_lower ho0 (below_size (by repeat (first | (with_reducible first | exact HB.out | apply below_alloc | apply pw_below_drewN | apply below_drew1 | refine below_set ?_ GE279.out | refine below_set ?_ GE295.out) | exact HB.out)))); have n1_ := Aside0.mk (blk_below (g := gb279) (o := .cells #[.int .i64 0, .int .i64 0, .bool false, .int .i64 0, .int .i64 0, .int .i64 0, .int .i64 0, .int .i64 0, .string (⟨#[]⟩ : ByteArray)] 25 (0, 0)) (by (with_reducible repeat (first | refine blk_drewN ?_ _ | refine blk_drew ?_ | refine blk_alloc ?_ _)); exact BK279.out) hb); have n2_ := Aside0.mk (blk_below (g := gb295) (o := .cells #[.int .i64 t281, .int .i64 t283, .bool ((rd l0 10) == 1), .int .i64 t286, .int .i64 t288, .int .i64 t290, .int .i64 t292, .int .i64 t294, .string x296008_25] 25 (0, 0)) (by (with_reducible repeat (first | refine blk_drewN ?_ _ | refine blk_drew ?_ | refine blk_alloc ?_ _)); exact BK295.out) hb); have n3_ := Aside0.mk (below_step (by repeat (first | (with_reducible first | exact HB.out | apply below_alloc | apply pw_below_drewN | apply below_drew1 | refine below_set ?_ GE279.out | refine below_set ?_ GE295.out) | exact HB.out)) hb); clear BK279; clear BK295; clear HB; have HO300 := n0_; have BK279 := n1_; have BK295 := n2_; have HB := n3_; clear n0_ n1_ n2_ n3_; (try clear hb); (try clear hb2); (try clear hk); (try clear hi); (try clear ho0); have hcz75_0 : w74.cell? ⟨gb279, 0, none⟩ = some (.int .i64 0) := (blk_cell BK279.out 0).trans rfl; have hcz75_1 : w74.cell? ⟨gb279, 1, none⟩ = some (.int .i64 0) := (blk_cell BK279.out 1).trans rfl; have hcz75_2 : w74.cell? ⟨gb279, 2, none⟩ = some (.bool false) := (blk_cell BK279.out 2).trans rfl; have hcz75_3 : w74.cell? ⟨gb279, 3, none⟩ = some (.int .i64 0) := (blk_cell BK279.out 3).trans rfl; have hcz75_4 : w74.cell? ⟨gb279, 4, none⟩ = some (.int .i64 0) := (blk_cell BK279.out 4).trans rfl; have hcz75_5 : w74.cell? ⟨gb279, 5, none⟩ = some (.int .i64 0) := (blk_cell BK279.out 5).trans rfl; have hcz75_6 : w74.cell? ⟨gb279, 6, none⟩ = some (.int .i64 0) := (blk_cell BK279.out 6).trans rfl; have hcz75_7 : w74.cell? ⟨gb279, 7, none⟩ = some (.int .i64 0) := (blk_cell BK279.out 7).trans rfl; have hcz75_8 : w74.cell? ⟨gb279, 8, none⟩ = some (.string (⟨#[]⟩ : ByteArray)) := (blk_cell BK279.out 8).trans rfl; have hfz75_0 := blk_frozen BK279.out 0; have hfz75_1 := blk_frozen BK279.out 1; have hfz75_2 := blk_frozen BK279.out 2; have hfz75_3 := blk_frozen BK279.out 3; have hfz75_4 := blk_frozen BK279.out 4; have hfz75_5 := blk_frozen BK279.out 5; have hfz75_6 := blk_frozen BK279.out 6; have hfz75_7 := blk_frozen BK279.out 7; have hfz75_8 := blk_frozen BK279.out 8))
                     refine bodyPost_ret (results_ct rfl _ _ gb279 25 #[.int .i64 0, .int .i64 0, .bool false, .int .i64 0, .int .i64 0, .int .i64 0, .int .i64 0, .int .i64 0, .string (⟨#[]⟩ : ByteArray)] (0, 0) _ rfl (by (with_reducible repeat (first | refine blk_drewN ?_ _ | refine blk_drew ?_ | refine blk_alloc ?_ _)); refine blk_put (cs := #[.int .i64 0, .int .i64 0, .bool false, .int .i64 0, .int .i64 0, .int .i64 0, .int .i64 0, .int .i64 0, .string (⟨#[]⟩ : ByteArray)]) ?_ 8 _ rfl; (with_reducible repeat (first | refine blk_drewN ?_ _ | refine blk_drew ?_ | refine blk_alloc ?_ _)); refine blk_put (cs := #[.int .i64 0, .int .i64 0, .bool false, .int .i64 0, .int .i64 0, .int .i64 0, .int .i64 0, .int .i64 0, .string (⟨#[]⟩ : ByteArray)]) ?_ 7 _ rfl; (with_reducible repeat (first | refine blk_drewN ?_ _ | refine blk_drew ?_ | refine blk_alloc ?_ _)); refine blk_put (cs := #[.int .i64 0, .int .i64 0, .bool false, .int .i64 0, .int .i64 0, .int .i64 0, .int .i64 0, .int .i64 0, .string (⟨#[]⟩ : ByteArray)]) ?_ 6 _ rfl; (with_reducible repeat (first | refine blk_drewN ?_ _ | refine blk_drew ?_ | refine blk_alloc ?_ _)); refine blk_put (cs := #[.int .i64 0, .int .i64 0, .bool false, .int .i64 0, .int .i64 0, .int .i64 0, .int .i64 0, .int .i64 0, .string (⟨#[]⟩ : ByteArray)]) ?_ 5 _ rfl; (with_reducible repeat (first | refine blk_drewN ?_ _ | refine blk_drew ?_ | refine blk_alloc ?_ _)); refine blk_put (cs := #[.int .i64 0, .int .i64 0, .bool false, .int .i64 0, .int .i64 0, .int .i64 0, .int .i64 0, .int .i64 0, .string (⟨#[]⟩ : ByteArray)]) ?_ 4 _ rfl; (with_reducible repeat (first | refine blk_drewN ?_ _ | refine blk_drew ?_ | refine blk_alloc ?_ _)); refine blk_put (cs := #[.int .i64 0, .int .i64 0, .bool false, .int .i64 0, .int .i64 0, .int .i64 0, .int .i64 0, .int .i64 0, .string (⟨#[]⟩ : ByteArray)]) ?_ 3 _ rfl; (with_reducible repeat (first | refine blk_drewN ?_ _ | refine blk_drew ?_ | refine blk_alloc ?_ _)); refine blk_put (cs := #[.int .i64 0, .int .i64 0, .bool false, .int .i64 0, .int .i64 0, .int .i64 0, .int .i64 0, .int .i64 0, .string (⟨#[]⟩ : ByteArray)]) ?_ 2 _ rfl; (with_reducible repeat (first | refine blk_drewN ?_ _ | refine blk_drew ?_ | refine blk_alloc ?_ _)); refine blk_put (cs := #[.int .i64 0, .int .i64 0, .bool false, .int .i64 0, .int .i64 0, .int .i64 0, .int .i64 0, .int .i64 0, .string (⟨#[]⟩ : ByteArray)]) ?_ 1 _ rfl; (with_reducible repeat (first | refine blk_drewN ?_ _ | refine blk_drew ?_ | refine blk_alloc ?_ _)); refine blk_put (cs := #[.int .i64 0, .int .i64 0, .bool false, .int .i64 0, .int .i64 0, .int .i64 0, .int .i64 0, .int .i64 0, .string (⟨#[]⟩ : ByteArray)]) ?_ 0 _ rfl; (with_reducible repeat (first | refine blk_drewN ?_ _ | refine blk_drew ?_ | refine blk_alloc ?_ _)); exact BK279.out) Try.underlying25 rfl (by kernel_rfl)) rfl ?_
                     exact ⟨by first | rfl | (simp [errW_none, errW_some] <;> rfl) | (simp [*, errW_none, errW_some] <;> rfl), by repeat (first | (with_reducible first | exact HB.out | apply below_alloc | apply pw_below_drewN | apply below_drew1 | refine below_set ?_ GE279.out | refine below_set ?_ GE295.out) | exact HB.out)⟩
                 ·rw [if_neg c25] at H
                  exact absurd H (by simp)
                ·rw [if_neg c23] at H
                 exact absurd H (by simp)
               ·rw [if_neg c22] at H
                exact absurd H (by simp)
              ·rw [if_neg c20] at H
               exact absurd H (by simp)
             ·rw [if_neg c19] at H
              exact absurd H (by simp)
            ·rw [if_neg c17] at H
             exact absurd H (by simp)
           ·rw [if_neg c16] at H
            exact absurd H (by simp)
          ·rw [if_neg c14] at H
           exact absurd H (by simp)
         ·rw [if_neg c13] at H
          exact absurd H (by simp)
        ·rw [if_neg c11] at H
         exact absurd H (by simp)
       ·rw [if_neg c10] at H
        exact absurd H (by simp)
      ·rw [if_neg c9] at H
       exact absurd H (by simp)
     ·rw [if_neg c7] at H
      exact absurd H (by simp)
    ·rw [if_neg c6] at H
     exact absurd H (by simp)
   ·rw [if_neg c4] at H
    exact absurd H (by simp)
  ·rw [if_neg c3] at H
   exact absurd H (by simp)
 ·rw [if_neg c2] at H
  have c2b0 : ((l0.length : Int) == 64) = false := beq_eq_false_iff_ne.mpr c2
  have c2b1 : ((l0.length : Int) != 64) = true := bne_iff_ne.mpr c2
  simp only [Option.some.injEq, Prod.mk.injEq] at H
  obtain ⟨rfl, rfl, rfl, rfl, rfl, rfl, rfl, rfl, rfl, rfl⟩ := H
  go_enter Try.func14, Try.ntmps14
  go_wp2_with (first | ((with_reducible refine gate_dst (N := 2) rfl ?_); refine box_event ?hg (N := 2) ?hd (cs := #[.int .i64 0, .int .i64 0, .bool false, .int .i64 0, .int .i64 0, .int .i64 0, .int .i64 0, .int .i64 0, .string (⟨#[]⟩ : ByteArray)]) (t := 25) ?hr ?_; (case hd => rfl); (case hg => rfl); (case hr => first | (go_simp; done) | (go_simp; rfl)); intro gb279 hg w76 hbox hb; have n0_ := Aside0.mk (below_step (by repeat (first | (with_reducible first | exact HB.out | apply below_alloc | apply pw_below_drewN | apply below_drew1) | exact HB.out)) hb); have n1_ := Aside0.mk (hbox); have n2_ := Aside0.mk ((by rw [hg]; exact (below_size (by repeat (first | (with_reducible first | exact HB.out | apply below_alloc | apply pw_below_drewN | apply below_drew1) | exact HB.out))) : w.heap.size ≤ gb279)); have n3_ := Aside0.mk ((by rw [hg]; exact (below_size (by repeat (first | (with_reducible first | exact HB.out | apply below_alloc | apply pw_below_drewN | apply below_drew1) | exact HB.out))) : w.heap.size ≤ gb279)); clear HB; have HB := n0_; have BK279 := n1_; have GW279 := n2_; have GE279 := n3_; clear n0_ n1_ n2_ n3_; clear hb hbox hg; have hcz77_0 : w76.cell? ⟨gb279, 0, none⟩ = some (.int .i64 0) := (blk_cell BK279.out 0).trans rfl; have hcz77_1 : w76.cell? ⟨gb279, 1, none⟩ = some (.int .i64 0) := (blk_cell BK279.out 1).trans rfl; have hcz77_2 : w76.cell? ⟨gb279, 2, none⟩ = some (.bool false) := (blk_cell BK279.out 2).trans rfl; have hcz77_3 : w76.cell? ⟨gb279, 3, none⟩ = some (.int .i64 0) := (blk_cell BK279.out 3).trans rfl; have hcz77_4 : w76.cell? ⟨gb279, 4, none⟩ = some (.int .i64 0) := (blk_cell BK279.out 4).trans rfl; have hcz77_5 : w76.cell? ⟨gb279, 5, none⟩ = some (.int .i64 0) := (blk_cell BK279.out 5).trans rfl; have hcz77_6 : w76.cell? ⟨gb279, 6, none⟩ = some (.int .i64 0) := (blk_cell BK279.out 6).trans rfl; have hcz77_7 : w76.cell? ⟨gb279, 7, none⟩ = some (.int .i64 0) := (blk_cell BK279.out 7).trans rfl; have hcz77_8 : w76.cell? ⟨gb279, 8, none⟩ = some (.string (⟨#[]⟩ : ByteArray)) := (blk_cell BK279.out 8).trans rfl; have hfz77_0 := blk_frozen BK279.out 0; have hfz77_1 := blk_frozen BK279.out 1; have hfz77_2 := blk_frozen BK279.out 2; have hfz77_3 := blk_frozen BK279.out 3; have hfz77_4 := blk_frozen BK279.out 4; have hfz77_5 := blk_frozen BK279.out 5; have hfz77_6 := blk_frozen BK279.out 6; have hfz77_7 := blk_frozen BK279.out 7; have hfz77_8 := blk_frozen BK279.out 8))
  refine bodyPost_ret (results_ct rfl _ _ gb279 25 #[.int .i64 0, .int .i64 0, .bool false, .int .i64 0, .int .i64 0, .int .i64 0, .int .i64 0, .int .i64 0, .string (⟨#[]⟩ : ByteArray)] (0, 0) _ rfl (by (with_reducible repeat (first | refine blk_drewN ?_ _ | refine blk_drew ?_ | refine blk_alloc ?_ _)); refine blk_put (cs := #[.int .i64 0, .int .i64 0, .bool false, .int .i64 0, .int .i64 0, .int .i64 0, .int .i64 0, .int .i64 0, .string (⟨#[]⟩ : ByteArray)]) ?_ 8 _ rfl; (with_reducible repeat (first | refine blk_drewN ?_ _ | refine blk_drew ?_ | refine blk_alloc ?_ _)); refine blk_put (cs := #[.int .i64 0, .int .i64 0, .bool false, .int .i64 0, .int .i64 0, .int .i64 0, .int .i64 0, .int .i64 0, .string (⟨#[]⟩ : ByteArray)]) ?_ 7 _ rfl; (with_reducible repeat (first | refine blk_drewN ?_ _ | refine blk_drew ?_ | refine blk_alloc ?_ _)); refine blk_put (cs := #[.int .i64 0, .int .i64 0, .bool false, .int .i64 0, .int .i64 0, .int .i64 0, .int .i64 0, .int .i64 0, .string (⟨#[]⟩ : ByteArray)]) ?_ 6 _ rfl; (with_reducible repeat (first | refine blk_drewN ?_ _ | refine blk_drew ?_ | refine blk_alloc ?_ _)); refine blk_put (cs := #[.int .i64 0, .int .i64 0, .bool false, .int .i64 0, .int .i64 0, .int .i64 0, .int .i64 0, .int .i64 0, .string (⟨#[]⟩ : ByteArray)]) ?_ 5 _ rfl; (with_reducible repeat (first | refine blk_drewN ?_ _ | refine blk_drew ?_ | refine blk_alloc ?_ _)); refine blk_put (cs := #[.int .i64 0, .int .i64 0, .bool false, .int .i64 0, .int .i64 0, .int .i64 0, .int .i64 0, .int .i64 0, .string (⟨#[]⟩ : ByteArray)]) ?_ 4 _ rfl; (with_reducible repeat (first | refine blk_drewN ?_ _ | refine blk_drew ?_ | refine blk_alloc ?_ _)); refine blk_put (cs := #[.int .i64 0, .int .i64 0, .bool false, .int .i64 0, .int .i64 0, .int .i64 0, .int .i64 0, .int .i64 0, .string (⟨#[]⟩ : ByteArray)]) ?_ 3 _ rfl; (with_reducible repeat (first | refine blk_drewN ?_ _ | refine blk_drew ?_ | refine blk_alloc ?_ _)); refine blk_put (cs := #[.int .i64 0, .int .i64 0, .bool false, .int .i64 0, .int .i64 0, .int .i64 0, .int .i64 0, .int .i64 0, .string (⟨#[]⟩ : ByteArray)]) ?_ 2 _ rfl; (with_reducible repeat (first | refine blk_drewN ?_ _ | refine blk_drew ?_ | refine blk_alloc ?_ _)); refine blk_put (cs := #[.int .i64 0, .int .i64 0, .bool false, .int .i64 0, .int .i64 0, .int .i64 0, .int .i64 0, .int .i64 0, .string (⟨#[]⟩ : ByteArray)]) ?_ 1 _ rfl; (with_reducible repeat (first | refine blk_drewN ?_ _ | refine blk_drew ?_ | refine blk_alloc ?_ _)); refine blk_put (cs := #[.int .i64 0, .int .i64 0, .bool false, .int .i64 0, .int .i64 0, .int .i64 0, .int .i64 0, .int .i64 0, .string (⟨#[]⟩ : ByteArray)]) ?_ 0 _ rfl; (with_reducible repeat (first | refine blk_drewN ?_ _ | refine blk_drew ?_ | refine blk_alloc ?_ _)); exact BK279.out) Try.underlying25 rfl (by kernel_rfl)) rfl ?_
  exact ⟨by first | rfl | (simp [errW_none, errW_some] <;> rfl) | (simp [*, errW_none, errW_some] <;> rfl), by repeat (first | (with_reducible first | exact HB.out | apply below_alloc | apply pw_below_drewN | apply below_drew1 | refine below_set ?_ GE279.out) | exact HB.out)⟩

end Go.Proofs.Ytjfdjbmahahllaa.QLine
