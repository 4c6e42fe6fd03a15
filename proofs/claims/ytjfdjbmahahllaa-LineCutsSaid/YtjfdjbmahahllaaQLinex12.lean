/- Written by a program of this session (wip/tools/mk.py) out of the kit's printing programs and of texts of our own: the contracts of the Go functions that the law goes through, and the row of the law. No condition is added. -/
import Derived.Test.YtjfdjbmahahllaaQLinex0
import Derived.Test.YtjfdjbmahahllaaQLinex1
import Derived.Test.YtjfdjbmahahllaaQLinex2
/- tight -/
namespace Go.Proofs.Ytjfdjbmahahllaa.QLine
open Go.RowKit Go.Proofs.YtjfdjbmahahllaaW.PrintWords Go.Proofs.YtjfdjbmahahllaaW.PrintLast Go.Proofs.YtjfdjbmahahllaaW.PrintMore
attribute [local go_sem] max2_int min2_int max_two min_two max_three min_three max_four min_four   -- for this text's walks alone
set_option linter.unusedVariables false
set_option linter.unusedSimpArgs false

attribute [local go_sem] min_seven
attribute [local go_sem high] eqA23 eqA25
/-! ### stowageref15_Same: function 15 -/
mutual
def stowageref15_Same.l0 : Nat → List (List (S23)) → List (List (S23)) → Int → Option (Bool)
 | 0, _, _, _ => none
 | k + 1, x0, x1, x5 => if x5 < (x0.length : Int) then (if 0 ≤ x5 then (if x5 < (x1.length : Int) then (if ((rd_L6 x0 x5).length : Int) = ((rd_L6 x1 x5).length : Int) then (stowageref15_Same.l1 k x0 x1 x5 0) else (some false)) else (none)) else (none)) else (some true)
def stowageref15_Same.l1 : Nat → List (List (S23)) → List (List (S23)) → Int → Int → Option (Bool)
 | 0, _, _, _, _ => none
 | k + 1, x0, x1, x5, x6 => if 0 ≤ x5 then (if x5 < (x0.length : Int) then (if x6 < ((rd_L6 x0 x5).length : Int) then (if 0 ≤ x6 then (if x5 < (x1.length : Int) then (if x6 < ((rd_L6 x1 x5).length : Int) then (if (!(((rd_T23 (rd_L6 x0 x5) x6).f0) == ((rd_T23 (rd_L6 x1 x5) x6).f0)) || (!(((rd_T23 (rd_L6 x0 x5) x6).f1) == ((rd_T23 (rd_L6 x1 x5) x6).f1)) || (!(((rd_T23 (rd_L6 x0 x5) x6).f2) == ((rd_T23 (rd_L6 x1 x5) x6).f2)) || (!(((rd_T23 (rd_L6 x0 x5) x6).f3) == ((rd_T23 (rd_L6 x1 x5) x6).f3)) || (!(((rd_T23 (rd_L6 x0 x5) x6).f4) == ((rd_T23 (rd_L6 x1 x5) x6).f4)) || (!((((rd_T23 (rd_L6 x0 x5) x6).f5).toList) == (((rd_T23 (rd_L6 x1 x5) x6).f5).toList)))))))) = true then (some false) else (stowageref15_Same.l1 k x0 x1 x5 (wrap64 (x6 + 1)))) else (none)) else (none)) else (none)) else (stowageref15_Same.l0 k x0 x1 (wrap64 (x5 + 1)))) else (none)) else (none)
end
def stowageref15_Same.f (k : Nat) (l0 : List (List (S23))) (l1 : List (List (S23))) : Option (Bool) := if (l0.length : Int) = (l1.length : Int) then (stowageref15_Same.l0 k l0 l1 0) else (some false)
theorem stowageref15_Same.mono_l : ∀ k, (∀ y0 y1 y2, LeO (stowageref15_Same.l0 k y0 y1 y2) (stowageref15_Same.l0 (k + 1) y0 y1 y2)) ∧ (∀ y0 y1 y2 y3, LeO (stowageref15_Same.l1 k y0 y1 y2 y3) (stowageref15_Same.l1 (k + 1) y0 y1 y2 y3))
 | 0 => ⟨fun _ _ _ r h => by simp [stowageref15_Same.l0] at h, fun _ _ _ _ r h => by simp [stowageref15_Same.l1] at h⟩
 | k + 1 => by
  obtain ⟨ih0, ih1⟩ := stowageref15_Same.mono_l k
  refine ⟨?_, ?_⟩
  ·intro y0 y1 y2
   unfold stowageref15_Same.l0
   repeat' first
   | (with_reducible exact ih0 _ _ _)
   | (with_reducible exact ih1 _ _ _ _)
   | (with_reducible exact LeO.refl _)
   | (with_reducible exact LeO.none _)
   | (with_reducible refine LeO.ite ?_ ?_)
   | (with_reducible refine LeO.bind ?_ (fun _ => ?_))
   | exact ih0 _ _ _
   | exact ih1 _ _ _ _
   | exact LeO.none _
   | refine LeO.ite ?_ ?_
   | refine LeO.bind ?_ (fun _ => ?_)
  ·intro y0 y1 y2 y3
   unfold stowageref15_Same.l1
   repeat' first
   | (with_reducible exact ih0 _ _ _)
   | (with_reducible exact ih1 _ _ _ _)
   | (with_reducible exact LeO.refl _)
   | (with_reducible exact LeO.none _)
   | (with_reducible refine LeO.ite ?_ ?_)
   | (with_reducible refine LeO.bind ?_ (fun _ => ?_))
   | exact ih0 _ _ _
   | exact ih1 _ _ _ _
   | exact LeO.none _
   | refine LeO.ite ?_ ?_
   | refine LeO.bind ?_ (fun _ => ?_)
theorem stowageref15_Same.mono : ∀ a0 a1 k, LeO (stowageref15_Same.f k a0 a1) (stowageref15_Same.f (k + 1) a0 a1) := by
 intro a0 a1 k
 obtain ⟨ih0, ih1⟩ := stowageref15_Same.mono_l k
 unfold stowageref15_Same.f
 repeat' first
   | (with_reducible exact ih0 _ _ _)
   | (with_reducible exact ih1 _ _ _ _)
   | (with_reducible exact LeO.refl _)
   | (with_reducible exact LeO.none _)
   | (with_reducible refine LeO.ite ?_ ?_)
   | (with_reducible refine LeO.bind ?_ (fun _ => ?_))
   | exact ih0 _ _ _
   | exact ih1 _ _ _ _
   | exact LeO.none _
   | refine LeO.ite ?_ ?_
   | refine LeO.bind ?_ (fun _ => ?_)
set_option maxHeartbeats 8000000 in
set_option maxRecDepth 100000 in
theorem stowageref15_Same.calls (k : Nat) (A0 : Option Addr) (c0 : Nat) (l0 : List (List (S23))) (A1 : Option Addr) (c1 : Nat) (l1 : List (List (S23))) (r : Bool) (w : World) (hr0 : Kd.C (Kd.slice 23 k23) w A0 l0.length l0) (hc0 : l0.length ≤ c0) (hr1 : Kd.C (Kd.slice 23 k23) w A1 l1.length l1) (hc1 : l1.length ≤ c1) (h : stowageref15_Same.f k l0 l1 = some r) :
  Calls Try.prog 15 #[.slice A0 l0.length c0, .slice A1 l1.length c1] w fun e w' => e = .returned (.bool r) ∧ Drawn0 w w' := by
 have hu23 := Try.underlying23
 have HR0 := Aside0.mk hr0
 have HC0 := Aside0.mk hc0
 clear hr0 hc0
 have HR1 := Aside0.mk hr1
 have HC1 := Aside0.mk hc1
 clear hr1 hc1
 have H : (if (l0.length : Int) = (l1.length : Int) then (stowageref15_Same.l0 k l0 l1 0) else (some false)) = some r := h
 clear h
 by_cases c3 : (l0.length : Int) = (l1.length : Int)
 ·rw [if_pos c3] at H
  have c3b0 : ((l0.length : Int) == (l1.length : Int)) = true := beq_iff_eq.mpr c3
  have c3b1 : ((l0.length : Int) != (l1.length : Int)) = false := bne_eq_false_iff_eq.mpr c3
  have c3b2 : (l0.length == l1.length) = true := by first | simpa using c3 | (simp at c3 ⊢; omega)
  clear c3
  have H' := Aside0.mk H
  clear H
  go_enter Try.func15, Try.ntmps15
  go_wp2
  repeat (go_quiet (fail); try go_wp2)
  go_loopg [5] k (fun kq v5 w' => ∃ (x5_1 : Int), v5 = .int .i64 x5_1 ∧ Aside0 (stowageref15_Same.l0 kq l0 l1 x5_1 = some r) ∧ Aside0 (kq ≤ k) ∧ Drawn0 w w')
  case atStart => exact ⟨(0), (by first | rfl | (simp; done) | (simp [*]; done)), H', ⟨Nat.le_refl _⟩, by repeat (first | exact Drawn0.refl _ | apply Drawn0.step)⟩
  case round =>
   clear H'
   try clear c1
   try clear p2
   try clear c3
   try clear c3b0
   try clear c3b1
   try clear c3b2
   obtain ⟨x5_1, rfl, HA, HK1, ⟨m1, rfl⟩⟩ := hrel
   cases gk with
   | zero => exact absurd HA.out (by simp [stowageref15_Same.l0])
   | succ k1 =>
    have H := HA.out
    clear HA
    simp only [stowageref15_Same.l0] at H
    by_cases c4 : x5_1 < (l0.length : Int)
    ·rw [if_pos c4] at H
     have c4b0 : decide (x5_1 < (l0.length : Int)) = true := decide_eq_true c4
     clear c4
     by_cases c5 : 0 ≤ x5_1
     ·rw [if_pos c5] at H
      have c5b0 : decide (0 ≤ x5_1) = true := decide_eq_true c5
      clear c5
      by_cases c6 : x5_1 < (l1.length : Int)
      ·rw [if_pos c6] at H
       have c6b0 : decide (x5_1 < (l1.length : Int)) = true := decide_eq_true c6
       clear c6
       by_cases c7 : ((rd_L6 l0 x5_1).length : Int) = ((rd_L6 l1 x5_1).length : Int)
       ·rw [if_pos c7] at H
        have c7b0 : (((rd_L6 l0 x5_1).length : Int) == ((rd_L6 l1 x5_1).length : Int)) = true := beq_iff_eq.mpr c7
        have c7b1 : (((rd_L6 l0 x5_1).length : Int) != ((rd_L6 l1 x5_1).length : Int)) = false := bne_eq_false_iff_eq.mpr c7
        have c7b2 : ((rd_L6 l0 x5_1).length == (rd_L6 l1 x5_1).length) = true := by first | simpa using c7 | (simp at c7 ⊢; omega)
        clear c7
        have H' := Aside0.mk H
        clear H
        have p378 : 0 ≤ (x5_1 : Int) := of_decide_eq_true (by first | (with_reducible assumption) | assumption)
        have q378 : x5_1 < (l0.length : Int) := of_decide_eq_true (by first | (with_reducible assumption) | assumption)
        obtain ⟨ad378, A378_0, c378_0, e378, hx378_0, hl378_0, hi378_0⟩ := at_L6 HR0.out x5_1 p378 q378
        cases e378
        have HR378_0 := Aside0.mk hi378_0
        have HC378_0 := Aside0.mk hl378_0
        clear hi378_0 hl378_0
        replace p378 := eq_true p378
        replace q378 := eq_true q378
        have p379 : 0 ≤ (x5_1 : Int) := of_decide_eq_true (by first | (with_reducible assumption) | assumption)
        have q379 : x5_1 < (l1.length : Int) := of_decide_eq_true (by first | (with_reducible assumption) | assumption)
        obtain ⟨ad379, A379_0, c379_0, e379, hx379_0, hl379_0, hi379_0⟩ := at_L6 HR1.out x5_1 p379 q379
        cases e379
        have HR379_0 := Aside0.mk hi379_0
        have HC379_0 := Aside0.mk hl379_0
        clear hi379_0 hl379_0
        replace p379 := eq_true p379
        replace q379 := eq_true q379
        go_wp2
        repeat (go_quiet (fail); try go_wp2)
        go_loopg [6] k1 (fun kq v6 w' => ∃ (x6_2 : Int), v6 = .int .i64 x6_2 ∧ Aside0 (stowageref15_Same.l1 kq l0 l1 x5_1 x6_2 = some r) ∧ Aside0 (kq ≤ k1) ∧ Drawn0 w w')
        case atStart => exact ⟨(0), (by first | rfl | (simp; done) | (simp [*]; done)), H', ⟨Nat.le_refl _⟩, by repeat (first | exact Drawn0.refl _ | apply Drawn0.step)⟩
        case round =>
         clear H'
         try clear c1
         try clear p2
         try clear c3
         try clear c3b0
         try clear c3b1
         try clear c3b2
         try clear p3
         try clear q3
         try clear hx3
         try clear c4
         try clear c4b0
         try clear c5
         try clear c5b0
         try clear c6
         try clear c6b0
         try clear c7
         try clear c7b0
         try clear c7b1
         try clear c7b2
         try clear hx378_0
         try clear hx379_0
         try clear p2
         try clear p378
         try clear p379
         try clear q378
         try clear q379
         obtain ⟨x6_2, rfl, HA, HK2, ⟨m2, rfl⟩⟩ := hrel
         cases gk with
         | zero => exact absurd HA.out (by simp [stowageref15_Same.l1])
         | succ k2 =>
          have H := HA.out
          clear HA
          simp only [stowageref15_Same.l1] at H
          by_cases c8 : 0 ≤ x5_1
          ·rw [if_pos c8] at H
           have c8b0 : decide (0 ≤ x5_1) = true := decide_eq_true c8
           clear c8
           by_cases c9 : x5_1 < (l0.length : Int)
           ·rw [if_pos c9] at H
            have c9b0 : decide (x5_1 < (l0.length : Int)) = true := decide_eq_true c9
            clear c9
            by_cases c10 : x6_2 < ((rd_L6 l0 x5_1).length : Int)
            ·rw [if_pos c10] at H
             have c10b0 : decide (x6_2 < ((rd_L6 l0 x5_1).length : Int)) = true := decide_eq_true c10
             clear c10
             by_cases c11 : 0 ≤ x6_2
             ·rw [if_pos c11] at H
              have c11b0 : decide (0 ≤ x6_2) = true := decide_eq_true c11
              clear c11
              by_cases c12 : x5_1 < (l1.length : Int)
              ·rw [if_pos c12] at H
               have c12b0 : decide (x5_1 < (l1.length : Int)) = true := decide_eq_true c12
               clear c12
               by_cases c13 : x6_2 < ((rd_L6 l1 x5_1).length : Int)
               ·rw [if_pos c13] at H
                have c13b0 : decide (x6_2 < ((rd_L6 l1 x5_1).length : Int)) = true := decide_eq_true c13
                clear c13
                by_cases c14 : (!(((rd_T23 (rd_L6 l0 x5_1) x6_2).f0) == ((rd_T23 (rd_L6 l1 x5_1) x6_2).f0)) || (!(((rd_T23 (rd_L6 l0 x5_1) x6_2).f1) == ((rd_T23 (rd_L6 l1 x5_1) x6_2).f1)) || (!(((rd_T23 (rd_L6 l0 x5_1) x6_2).f2) == ((rd_T23 (rd_L6 l1 x5_1) x6_2).f2)) || (!(((rd_T23 (rd_L6 l0 x5_1) x6_2).f3) == ((rd_T23 (rd_L6 l1 x5_1) x6_2).f3)) || (!(((rd_T23 (rd_L6 l0 x5_1) x6_2).f4) == ((rd_T23 (rd_L6 l1 x5_1) x6_2).f4)) || (!((((rd_T23 (rd_L6 l0 x5_1) x6_2).f5).toList) == (((rd_T23 (rd_L6 l1 x5_1) x6_2).f5).toList)))))))) = true
                ·rw [if_pos c14] at H
                 have c14b0 : (!(((rd_T23 (rd_L6 l0 x5_1) x6_2).f0) == ((rd_T23 (rd_L6 l1 x5_1) x6_2).f0)) || (!(((rd_T23 (rd_L6 l0 x5_1) x6_2).f1) == ((rd_T23 (rd_L6 l1 x5_1) x6_2).f1)) || (!(((rd_T23 (rd_L6 l0 x5_1) x6_2).f2) == ((rd_T23 (rd_L6 l1 x5_1) x6_2).f2)) || (!(((rd_T23 (rd_L6 l0 x5_1) x6_2).f3) == ((rd_T23 (rd_L6 l1 x5_1) x6_2).f3)) || (!(((rd_T23 (rd_L6 l0 x5_1) x6_2).f4) == ((rd_T23 (rd_L6 l1 x5_1) x6_2).f4)) || (!((((rd_T23 (rd_L6 l0 x5_1) x6_2).f5).toList) == (((rd_T23 (rd_L6 l1 x5_1) x6_2).f5).toList)))))))) = true := c14
                 clear c14
                 obtain rfl := Option.some.inj H
                 have p380 : 0 ≤ (x5_1 : Int) := of_decide_eq_true (by first | (with_reducible assumption) | assumption)
                 have q380 : x5_1 < (l0.length : Int) := of_decide_eq_true (by first | (with_reducible assumption) | assumption)
                 obtain ⟨ad380, A380_0, c380_0, e380, hx380_0, hl380_0, hi380_0⟩ := at_L6 HR0.out x5_1 p380 q380
                 obtain rfl : ad378 = ad380 := (by injection e380)
                 have HR380_0 := Aside0.mk hi380_0
                 have HC380_0 := Aside0.mk hl380_0
                 clear hi380_0 hl380_0
                 replace p380 := eq_true p380
                 replace q380 := eq_true q380
                 have p381 : 0 ≤ (x5_1 : Int) := of_decide_eq_true (by first | (with_reducible assumption) | assumption)
                 have q381 : x5_1 < (l0.length : Int) := of_decide_eq_true (by first | (with_reducible assumption) | assumption)
                 obtain ⟨ad381, A381_0, c381_0, e381, hx381_0, hl381_0, hi381_0⟩ := at_L6 HR0.out x5_1 p381 q381
                 obtain rfl : ad378 = ad381 := (by injection e381)
                 have HR381_0 := Aside0.mk hi381_0
                 have HC381_0 := Aside0.mk hl381_0
                 clear hi381_0 hl381_0
                 replace p381 := eq_true p381
                 replace q381 := eq_true q381
                 have ea_ := Option.some.inj (hx380_0.symm.trans hx381_0)
                 injection ea_ with ea_ en_ ec_
                 subst ea_
                 subst ec_
                 clear en_
                 have p382 : 0 ≤ (x6_2 : Int) := of_decide_eq_true (by first | (with_reducible assumption) | assumption)
                 have q382 : x6_2 < ((rd_L6 l0 x5_1).length : Int) := of_decide_eq_true (by first | (with_reducible assumption) | assumption)
                 obtain ⟨ad382, e382, hx382_0, hx382_1, hx382_2, hx382_3, hx382_4, hx382_5⟩ := at_T23 HR381_0.out x6_2 p382 q382
                 cases e382
                 replace p382 := eq_true p382
                 replace q382 := eq_true q382
                 have p383 : 0 ≤ (x5_1 : Int) := of_decide_eq_true (by first | (with_reducible assumption) | assumption)
                 have q383 : x5_1 < (l1.length : Int) := of_decide_eq_true (by first | (with_reducible assumption) | assumption)
                 obtain ⟨ad383, A383_0, c383_0, e383, hx383_0, hl383_0, hi383_0⟩ := at_L6 HR1.out x5_1 p383 q383
                 obtain rfl : ad379 = ad383 := (by injection e383)
                 have HR383_0 := Aside0.mk hi383_0
                 have HC383_0 := Aside0.mk hl383_0
                 clear hi383_0 hl383_0
                 replace p383 := eq_true p383
                 replace q383 := eq_true q383
                 have p384 : 0 ≤ (x6_2 : Int) := of_decide_eq_true (by first | (with_reducible assumption) | assumption)
                 have q384 : x6_2 < ((rd_L6 l1 x5_1).length : Int) := of_decide_eq_true (by first | (with_reducible assumption) | assumption)
                 obtain ⟨ad384, e384, hx384_0, hx384_1, hx384_2, hx384_3, hx384_4, hx384_5⟩ := at_T23 HR383_0.out x6_2 p384 q384
                 cases e384
                 replace p384 := eq_true p384
                 replace q384 := eq_true q384
                 go_wp2
                 repeat (go_quiet (fail); try go_wp2)
                 go_ret
                 exact ⟨by first | rfl | (simp; done) | (simp [*]; done), by repeat (first | exact Drawn0.refl _ | apply Drawn0.step)⟩
                ·rw [if_neg c14] at H
                 have c14b0 : (!(((rd_T23 (rd_L6 l0 x5_1) x6_2).f0) == ((rd_T23 (rd_L6 l1 x5_1) x6_2).f0)) || (!(((rd_T23 (rd_L6 l0 x5_1) x6_2).f1) == ((rd_T23 (rd_L6 l1 x5_1) x6_2).f1)) || (!(((rd_T23 (rd_L6 l0 x5_1) x6_2).f2) == ((rd_T23 (rd_L6 l1 x5_1) x6_2).f2)) || (!(((rd_T23 (rd_L6 l0 x5_1) x6_2).f3) == ((rd_T23 (rd_L6 l1 x5_1) x6_2).f3)) || (!(((rd_T23 (rd_L6 l0 x5_1) x6_2).f4) == ((rd_T23 (rd_L6 l1 x5_1) x6_2).f4)) || (!((((rd_T23 (rd_L6 l0 x5_1) x6_2).f5).toList) == (((rd_T23 (rd_L6 l1 x5_1) x6_2).f5).toList)))))))) = false := by simpa using c14
                 clear c14
                 have H' := Aside0.mk H
                 clear H
                 have p380 : 0 ≤ (x5_1 : Int) := of_decide_eq_true (by first | (with_reducible assumption) | assumption)
                 have q380 : x5_1 < (l0.length : Int) := of_decide_eq_true (by first | (with_reducible assumption) | assumption)
                 obtain ⟨ad380, A380_0, c380_0, e380, hx380_0, hl380_0, hi380_0⟩ := at_L6 HR0.out x5_1 p380 q380
                 obtain rfl : ad378 = ad380 := (by injection e380)
                 have HR380_0 := Aside0.mk hi380_0
                 have HC380_0 := Aside0.mk hl380_0
                 clear hi380_0 hl380_0
                 replace p380 := eq_true p380
                 replace q380 := eq_true q380
                 have p381 : 0 ≤ (x5_1 : Int) := of_decide_eq_true (by first | (with_reducible assumption) | assumption)
                 have q381 : x5_1 < (l0.length : Int) := of_decide_eq_true (by first | (with_reducible assumption) | assumption)
                 obtain ⟨ad381, A381_0, c381_0, e381, hx381_0, hl381_0, hi381_0⟩ := at_L6 HR0.out x5_1 p381 q381
                 obtain rfl : ad378 = ad381 := (by injection e381)
                 have HR381_0 := Aside0.mk hi381_0
                 have HC381_0 := Aside0.mk hl381_0
                 clear hi381_0 hl381_0
                 replace p381 := eq_true p381
                 replace q381 := eq_true q381
                 have ea_ := Option.some.inj (hx380_0.symm.trans hx381_0)
                 injection ea_ with ea_ en_ ec_
                 subst ea_
                 subst ec_
                 clear en_
                 have p382 : 0 ≤ (x6_2 : Int) := of_decide_eq_true (by first | (with_reducible assumption) | assumption)
                 have q382 : x6_2 < ((rd_L6 l0 x5_1).length : Int) := of_decide_eq_true (by first | (with_reducible assumption) | assumption)
                 obtain ⟨ad382, e382, hx382_0, hx382_1, hx382_2, hx382_3, hx382_4, hx382_5⟩ := at_T23 HR381_0.out x6_2 p382 q382
                 cases e382
                 replace p382 := eq_true p382
                 replace q382 := eq_true q382
                 have p383 : 0 ≤ (x5_1 : Int) := of_decide_eq_true (by first | (with_reducible assumption) | assumption)
                 have q383 : x5_1 < (l1.length : Int) := of_decide_eq_true (by first | (with_reducible assumption) | assumption)
                 obtain ⟨ad383, A383_0, c383_0, e383, hx383_0, hl383_0, hi383_0⟩ := at_L6 HR1.out x5_1 p383 q383
                 obtain rfl : ad379 = ad383 := (by injection e383)
                 have HR383_0 := Aside0.mk hi383_0
                 have HC383_0 := Aside0.mk hl383_0
                 clear hi383_0 hl383_0
                 replace p383 := eq_true p383
                 replace q383 := eq_true q383
                 have p384 : 0 ≤ (x6_2 : Int) := of_decide_eq_true (by first | (with_reducible assumption) | assumption)
                 have q384 : x6_2 < ((rd_L6 l1 x5_1).length : Int) := of_decide_eq_true (by first | (with_reducible assumption) | assumption)
                 obtain ⟨ad384, e384, hx384_0, hx384_1, hx384_2, hx384_3, hx384_4, hx384_5⟩ := at_T23 HR383_0.out x6_2 p384 q384
                 cases e384
                 replace p384 := eq_true p384
                 replace q384 := eq_true q384
                 go_wp2
                 repeat (go_quiet (fail); try go_wp2)
                 go_roundg k2
                 case measure => have := HK1.out; have := HK2.out; omega
                 case rel => exact ⟨(wrap64 (x6_2 + 1)), (by first | rfl | (simp; done) | (simp [*]; done)), H', ⟨by have := HK1.out; have := HK2.out; omega⟩, by repeat (first | exact Drawn0.refl _ | apply Drawn0.step)⟩
               ·rw [if_neg c13] at H
                exact absurd H (by simp)
              ·rw [if_neg c12] at H
               exact absurd H (by simp)
             ·rw [if_neg c11] at H
              exact absurd H (by simp)
            ·rw [if_neg c10] at H
             have c10b0 : decide (x6_2 < ((rd_L6 l0 x5_1).length : Int)) = false := decide_eq_false c10
             clear c10
             have H' := Aside0.mk H
             clear H
             have p380 : 0 ≤ (x5_1 : Int) := of_decide_eq_true (by first | (with_reducible assumption) | assumption)
             have q380 : x5_1 < (l0.length : Int) := of_decide_eq_true (by first | (with_reducible assumption) | assumption)
             obtain ⟨ad380, A380_0, c380_0, e380, hx380_0, hl380_0, hi380_0⟩ := at_L6 HR0.out x5_1 p380 q380
             obtain rfl : ad378 = ad380 := (by injection e380)
             have HR380_0 := Aside0.mk hi380_0
             have HC380_0 := Aside0.mk hl380_0
             clear hi380_0 hl380_0
             replace p380 := eq_true p380
             replace q380 := eq_true q380
             go_wp2
             repeat (go_quiet (fail); try go_wp2)
             go_roundg k2
             case measure => have := HK1.out; have := HK2.out; omega
             case rel => exact ⟨(wrap64 (x5_1 + 1)), (by first | rfl | (simp; done) | (simp [*]; done)), H', ⟨by have := HK1.out; have := HK2.out; omega⟩, by repeat (first | exact Drawn0.refl _ | apply Drawn0.step)⟩
           ·rw [if_neg c9] at H
            exact absurd H (by simp)
          ·rw [if_neg c8] at H
           exact absurd H (by simp)
       ·rw [if_neg c7] at H
        have c7b0 : (((rd_L6 l0 x5_1).length : Int) == ((rd_L6 l1 x5_1).length : Int)) = false := beq_eq_false_iff_ne.mpr c7
        have c7b1 : (((rd_L6 l0 x5_1).length : Int) != ((rd_L6 l1 x5_1).length : Int)) = true := bne_iff_ne.mpr c7
        have c7b2 : ((rd_L6 l0 x5_1).length == (rd_L6 l1 x5_1).length) = false := by first | simpa using c7 | (simp at c7 ⊢; omega)
        obtain rfl := Option.some.inj H
        have p378 : 0 ≤ (x5_1 : Int) := of_decide_eq_true (by first | (with_reducible assumption) | assumption)
        have q378 : x5_1 < (l0.length : Int) := of_decide_eq_true (by first | (with_reducible assumption) | assumption)
        obtain ⟨ad378, A378_0, c378_0, e378, hx378_0, hl378_0, hi378_0⟩ := at_L6 HR0.out x5_1 p378 q378
        cases e378
        have HR378_0 := Aside0.mk hi378_0
        have HC378_0 := Aside0.mk hl378_0
        clear hi378_0 hl378_0
        replace p378 := eq_true p378
        replace q378 := eq_true q378
        have p379 : 0 ≤ (x5_1 : Int) := of_decide_eq_true (by first | (with_reducible assumption) | assumption)
        have q379 : x5_1 < (l1.length : Int) := of_decide_eq_true (by first | (with_reducible assumption) | assumption)
        obtain ⟨ad379, A379_0, c379_0, e379, hx379_0, hl379_0, hi379_0⟩ := at_L6 HR1.out x5_1 p379 q379
        cases e379
        have HR379_0 := Aside0.mk hi379_0
        have HC379_0 := Aside0.mk hl379_0
        clear hi379_0 hl379_0
        replace p379 := eq_true p379
        replace q379 := eq_true q379
        go_wp2
        repeat (go_quiet (fail); try go_wp2)
        go_ret
        exact ⟨by first | rfl | (simp; done) | (simp [*]; done), by repeat (first | exact Drawn0.refl _ | apply Drawn0.step)⟩
      ·rw [if_neg c6] at H
       exact absurd H (by simp)
     ·rw [if_neg c5] at H
      exact absurd H (by simp)
    ·rw [if_neg c4] at H
     have c4b0 : decide (x5_1 < (l0.length : Int)) = false := decide_eq_false c4
     clear c4
     obtain rfl := Option.some.inj H
     go_wp2
     repeat (go_quiet (fail); try go_wp2)
     go_ret
     exact ⟨by first | rfl | (simp; done) | (simp [*]; done), by repeat (first | exact Drawn0.refl _ | apply Drawn0.step)⟩
 ·rw [if_neg c3] at H
  have c3b0 : ((l0.length : Int) == (l1.length : Int)) = false := beq_eq_false_iff_ne.mpr c3
  have c3b1 : ((l0.length : Int) != (l1.length : Int)) = true := bne_iff_ne.mpr c3
  have c3b2 : (l0.length == l1.length) = false := by first | simpa using c3 | (simp at c3 ⊢; omega)
  obtain rfl := Option.some.inj H
  go_enter Try.func15, Try.ntmps15
  go_wp2
  repeat (go_quiet (fail); try go_wp2)
  go_ret
  exact ⟨by first | rfl | (simp; done) | (simp [*]; done), by repeat (first | exact Drawn0.refl _ | apply Drawn0.step)⟩

end Go.Proofs.Ytjfdjbmahahllaa.QLine
