/- Written by a program of this session (wip/tools/mk.py) out of the kit's printing programs and of texts of our own: the contracts of the Go functions that the law goes through, and the row of the law. No condition is added. -/
import Derived.Test.YtbidkiacgggpmaaQHeadx0
import Derived.Test.YtbidkiacgggpmaaQHeadx2
namespace Go.Proofs.Ytbidkiacgggpmaa.QHead
open Go.RowKit Go.Proofs.YtbidkiacgggpmaaW.PrintWords Go.Proofs.YtbidkiacgggpmaaW.PrintLast Go.Proofs.YtbidkiacgggpmaaW.PrintMore
attribute [local go_sem] max2_int min2_int max_two min_two max_three min_three max_four min_four   -- for this text's walks alone
set_option linter.unusedVariables false
set_option linter.unusedSimpArgs false

attribute [local go_sem] min_seven
/-! ### header_Encode: function 10 -/
def header_Encode.j0 : Nat → Bool → Int → Int → Int → Int → Int → ByteArray → Option (List Int × Int)
  | 0, _, _, _, _, _, _, _ => none
  | k + 1, x38, x115000, x115001, x115002, x115003, x115004, x115005 => if x38 = true then (some (([] : List Int), 7)) else (if (x115005.size : Int) = 16 then ((some (([83, 72] : List Int) : List Int)).bind fun y120 => ((pack_Must.f k (([IntKind.u64.wrap (x115000), IntKind.u64.wrap (x115001), IntKind.u64.wrap (x115002), IntKind.u64.wrap (x115003), IntKind.u64.wrap (x115004)] : List Int)) (([1, 1, 1, 1, 8] : List Int))).bind fun t129 => (if y120.length + t129.length < 140737488355328 then ((some (y120 ++ t129 : List Int)).bind fun y132 => (if y132.length + x115005.size < 140737488355328 then ((some (y132 ++ bytesOf x115005 : List Int)).bind fun y135 => (if 0 ≤ (wrap64 (60 - (y135.length : Int))) then (if y135.length + (wrap64 (60 - (y135.length : Int)) : Int).toNat < 140737488355328 then ((some (y135 ++ List.replicate (wrap64 (60 - (y135.length : Int)) : Int).toNat 0 : List Int)).bind fun y138 => ((crc_Sum.f y138).bind fun t141 => ((pack_Must.f k (([IntKind.u64.wrap (t141)] : List Int)) (([4] : List Int))).bind fun t148 => (if y138.length + t148.length < 140737488355328 then (some ((y138 ++ t148), 0)) else (none))))) else (none)) else (none))) else (none))) else (none)))) else (some (([] : List Int), 1)))
def header_Encode.f (k : Nat) (a0_0 : Int) (a0_1 : Int) (a0_2 : Int) (a0_3 : Int) (a0_4 : Int) (a0_5 : ByteArray) : Option (List Int × Int) := (header_Encode_1.f a0_0 1 7).bind fun t115 => (if t115 = true then ((header_Encode_1.f a0_1 0 7).bind fun t116 => (if t116 = true then ((header_Encode_1.f a0_2 0 31).bind fun t117 => (if t117 = true then ((header_Encode_1.f a0_3 0 63).bind fun t118 => (if t118 = true then ((header_Encode_1.f a0_4 1 1099511627776).bind fun t119 => (header_Encode.j0 k (!t119) a0_0 a0_1 a0_2 a0_3 a0_4 a0_5)) else (header_Encode.j0 k true a0_0 a0_1 a0_2 a0_3 a0_4 a0_5))) else (header_Encode.j0 k true a0_0 a0_1 a0_2 a0_3 a0_4 a0_5))) else (header_Encode.j0 k true a0_0 a0_1 a0_2 a0_3 a0_4 a0_5))) else (header_Encode.j0 k true a0_0 a0_1 a0_2 a0_3 a0_4 a0_5))
theorem header_Encode.mono_l : ∀ k, (∀ y0 y1 y2 y3 y4 y5 y6, LeO (header_Encode.j0 k y0 y1 y2 y3 y4 y5 y6) (header_Encode.j0 (k + 1) y0 y1 y2 y3 y4 y5 y6))
  | 0 => fun _ _ _ _ _ _ _ r h => by simp [header_Encode.j0] at h
  | k + 1 => by
    have ih0 := header_Encode.mono_l k
    · intro y0 y1 y2 y3 y4 y5 y6
      unfold header_Encode.j0
      repeat' first
      | (with_reducible exact ih0 _ _ _ _ _ _ _)
      | (with_reducible exact pack_Must.mono _ _ _)
      | (with_reducible exact LeO.refl _)
      | (with_reducible exact LeO.none _)
      | (with_reducible refine LeO.ite ?_ ?_)
      | (with_reducible refine LeO.bind ?_ (fun _ => ?_))
      | exact ih0 _ _ _ _ _ _ _
      | exact pack_Must.mono _ _ _
      | exact LeO.none _
      | refine LeO.ite ?_ ?_
      | refine LeO.bind ?_ (fun _ => ?_)
theorem header_Encode.mono : ∀ a0 a1 a2 a3 a4 a5 k, LeO (header_Encode.f k a0 a1 a2 a3 a4 a5) (header_Encode.f (k + 1) a0 a1 a2 a3 a4 a5) := by
  intro a0 a1 a2 a3 a4 a5 k
  have ih0 := header_Encode.mono_l k
  unfold header_Encode.f
  repeat' first
      | (with_reducible exact ih0 _ _ _ _ _ _ _)
      | (with_reducible exact pack_Must.mono _ _ _)
      | (with_reducible exact LeO.refl _)
      | (with_reducible exact LeO.none _)
      | (with_reducible refine LeO.ite ?_ ?_)
      | (with_reducible refine LeO.bind ?_ (fun _ => ?_))
      | exact ih0 _ _ _ _ _ _ _
      | exact pack_Must.mono _ _ _
      | exact LeO.none _
      | refine LeO.ite ?_ ?_
      | refine LeO.bind ?_ (fun _ => ?_)
set_option maxHeartbeats 8000000 in
set_option maxRecDepth 100000 in
theorem header_Encode.calls (k : Nat) (a0_0 : Int) (a0_1 : Int) (a0_2 : Int) (a0_3 : Int) (a0_4 : Int) (a0_5 : ByteArray) (r1 : List Int) (r2 : Int) (w : World) (h : header_Encode.f k a0_0 a0_1 a0_2 a0_3 a0_4 a0_5 = some (r1, r2)) :
    Calls Try.prog 10 #[.agg #[.int .i64 a0_0, .int .i64 a0_1, .int .i64 a0_2, .int .i64 a0_3, .int .i64 a0_4, .string a0_5]] w fun e w' => ∃ v0_ : Value, e = .returned (.tuple #[v0_, .int .i64 r2]) ∧ Kd.R (Kd.int .u8) 5 w' w.heap.size (fun _ => True) v0_ r1 ∧ Below w.heap.size w w' := by
  have hu23 := Try.underlying23
  have HB := Aside0.mk (Below.refl w.heap.size w)
  have H : ((header_Encode_1.f a0_0 1 7).bind fun t115 => (if t115 = true then ((header_Encode_1.f a0_1 0 7).bind fun t116 => (if t116 = true then ((header_Encode_1.f a0_2 0 31).bind fun t117 => (if t117 = true then ((header_Encode_1.f a0_3 0 63).bind fun t118 => (if t118 = true then ((header_Encode_1.f a0_4 1 1099511627776).bind fun t119 => (header_Encode.j0 k (!t119) a0_0 a0_1 a0_2 a0_3 a0_4 a0_5)) else (header_Encode.j0 k true a0_0 a0_1 a0_2 a0_3 a0_4 a0_5))) else (header_Encode.j0 k true a0_0 a0_1 a0_2 a0_3 a0_4 a0_5))) else (header_Encode.j0 k true a0_0 a0_1 a0_2 a0_3 a0_4 a0_5))) else (header_Encode.j0 k true a0_0 a0_1 a0_2 a0_3 a0_4 a0_5))) = some (r1, r2) := h
  clear h
  have HC2 := Aside0.mk H
  clear H
  go_enter Try.func10, Try.ntmps10
  go_upto_region 2 with (first | ((with_reducible refine gate_dst (N := 1) rfl ?_); refine box_event ?hg (N := 1) ?hd (cs := #[.int .i64 a0_0, .int .i64 a0_1, .int .i64 a0_2, .int .i64 a0_3, .int .i64 a0_4, .string a0_5]) (t := 23) ?hr ?_; (case hd => rfl); (case hg => rfl); (case hr => first | (go_simp; done) | (go_simp; rfl)); intro gb114 hg w3 hbox hb; have n0_ := Aside0.mk (below_step (by repeat (first | (with_reducible first | exact HB.out | apply below_alloc | apply pw_below_drewN | apply below_drew1) | exact HB.out)) hb); have n1_ := Aside0.mk (hbox); have n2_ := Aside0.mk ((by rw [hg]; exact (below_size (by repeat (first | (with_reducible first | exact HB.out | apply below_alloc | apply pw_below_drewN | apply below_drew1) | exact HB.out))) : w.heap.size ≤ gb114)); have n3_ := Aside0.mk ((by rw [hg]; exact (below_size (by repeat (first | (with_reducible first | exact HB.out | apply below_alloc | apply pw_below_drewN | apply below_drew1) | exact HB.out))) : w.heap.size ≤ gb114)); clear HB; have HB := n0_; have BK114 := n1_; have GW114 := n2_; have GE114 := n3_; clear n0_ n1_ n2_ n3_; clear hb hbox hg))
  (try simp only [Act.put, List.setIfInBounds_toArray, List.set_cons_zero, List.set_cons_succ])
  go_cut [38] (fun v38 wc => ∃ (kq : Nat) (x38_1 : Bool), v38 = .bool x38_1 ∧ Aside0 (header_Encode.j0 kq x38_1 a0_0 a0_1 a0_2 a0_3 a0_4 a0_5 = some (r1, r2)) ∧ Aside0 (kq ≤ k) ∧ Aside0 (wc.heap[gb114]? = some (.cells #[.int .i64 a0_0, .int .i64 a0_1, .int .i64 a0_2, .int .i64 a0_3, .int .i64 a0_4, .string a0_5] 23 (0, 0))) ∧ Aside0 (Below w.heap.size w wc))
  case first =>
    have H := HC2.out
    clear HC2
    replace H := Option.bind_eq_some_iff.mp H
    obtain ⟨t115, A40, H⟩ := H
    replace H : (if t115 = true then ((header_Encode_1.f a0_1 0 7).bind fun t116 => (if t116 = true then ((header_Encode_1.f a0_2 0 31).bind fun t117 => (if t117 = true then ((header_Encode_1.f a0_3 0 63).bind fun t118 => (if t118 = true then ((header_Encode_1.f a0_4 1 1099511627776).bind fun t119 => (header_Encode.j0 k (!t119) a0_0 a0_1 a0_2 a0_3 a0_4 a0_5)) else (header_Encode.j0 k true a0_0 a0_1 a0_2 a0_3 a0_4 a0_5))) else (header_Encode.j0 k true a0_0 a0_1 a0_2 a0_3 a0_4 a0_5))) else (header_Encode.j0 k true a0_0 a0_1 a0_2 a0_3 a0_4 a0_5))) else (header_Encode.j0 k true a0_0 a0_1 a0_2 a0_3 a0_4 a0_5)) = some (r1, r2) := H
    have A4 := Aside0.mk A40
    clear A40
    by_cases c5 : t115 = true
    · subst c5
      have H1 : ((header_Encode_1.f a0_1 0 7).bind fun t116 => (if t116 = true then ((header_Encode_1.f a0_2 0 31).bind fun t117 => (if t117 = true then ((header_Encode_1.f a0_3 0 63).bind fun t118 => (if t118 = true then ((header_Encode_1.f a0_4 1 1099511627776).bind fun t119 => (header_Encode.j0 k (!t119) a0_0 a0_1 a0_2 a0_3 a0_4 a0_5)) else (header_Encode.j0 k true a0_0 a0_1 a0_2 a0_3 a0_4 a0_5))) else (header_Encode.j0 k true a0_0 a0_1 a0_2 a0_3 a0_4 a0_5))) else (header_Encode.j0 k true a0_0 a0_1 a0_2 a0_3 a0_4 a0_5))) = some (r1, r2) := by rw [if_pos rfl] at H; exact H
      clear H
      have H := H1
      clear H1
      replace H := Option.bind_eq_some_iff.mp H
      obtain ⟨t116, A60, H⟩ := H
      replace H : (if t116 = true then ((header_Encode_1.f a0_2 0 31).bind fun t117 => (if t117 = true then ((header_Encode_1.f a0_3 0 63).bind fun t118 => (if t118 = true then ((header_Encode_1.f a0_4 1 1099511627776).bind fun t119 => (header_Encode.j0 k (!t119) a0_0 a0_1 a0_2 a0_3 a0_4 a0_5)) else (header_Encode.j0 k true a0_0 a0_1 a0_2 a0_3 a0_4 a0_5))) else (header_Encode.j0 k true a0_0 a0_1 a0_2 a0_3 a0_4 a0_5))) else (header_Encode.j0 k true a0_0 a0_1 a0_2 a0_3 a0_4 a0_5)) = some (r1, r2) := H
      have A6 := Aside0.mk A60
      clear A60
      by_cases c7 : t116 = true
      · subst c7
        have H1 : ((header_Encode_1.f a0_2 0 31).bind fun t117 => (if t117 = true then ((header_Encode_1.f a0_3 0 63).bind fun t118 => (if t118 = true then ((header_Encode_1.f a0_4 1 1099511627776).bind fun t119 => (header_Encode.j0 k (!t119) a0_0 a0_1 a0_2 a0_3 a0_4 a0_5)) else (header_Encode.j0 k true a0_0 a0_1 a0_2 a0_3 a0_4 a0_5))) else (header_Encode.j0 k true a0_0 a0_1 a0_2 a0_3 a0_4 a0_5))) = some (r1, r2) := by rw [if_pos rfl] at H; exact H
        clear H
        have H := H1
        clear H1
        replace H := Option.bind_eq_some_iff.mp H
        obtain ⟨t117, A80, H⟩ := H
        replace H : (if t117 = true then ((header_Encode_1.f a0_3 0 63).bind fun t118 => (if t118 = true then ((header_Encode_1.f a0_4 1 1099511627776).bind fun t119 => (header_Encode.j0 k (!t119) a0_0 a0_1 a0_2 a0_3 a0_4 a0_5)) else (header_Encode.j0 k true a0_0 a0_1 a0_2 a0_3 a0_4 a0_5))) else (header_Encode.j0 k true a0_0 a0_1 a0_2 a0_3 a0_4 a0_5)) = some (r1, r2) := H
        have A8 := Aside0.mk A80
        clear A80
        by_cases c9 : t117 = true
        · subst c9
          have H1 : ((header_Encode_1.f a0_3 0 63).bind fun t118 => (if t118 = true then ((header_Encode_1.f a0_4 1 1099511627776).bind fun t119 => (header_Encode.j0 k (!t119) a0_0 a0_1 a0_2 a0_3 a0_4 a0_5)) else (header_Encode.j0 k true a0_0 a0_1 a0_2 a0_3 a0_4 a0_5))) = some (r1, r2) := by rw [if_pos rfl] at H; exact H
          clear H
          have H := H1
          clear H1
          replace H := Option.bind_eq_some_iff.mp H
          obtain ⟨t118, A100, H⟩ := H
          replace H : (if t118 = true then ((header_Encode_1.f a0_4 1 1099511627776).bind fun t119 => (header_Encode.j0 k (!t119) a0_0 a0_1 a0_2 a0_3 a0_4 a0_5)) else (header_Encode.j0 k true a0_0 a0_1 a0_2 a0_3 a0_4 a0_5)) = some (r1, r2) := H
          have A10 := Aside0.mk A100
          clear A100
          by_cases c11 : t118 = true
          · subst c11
            have H1 : ((header_Encode_1.f a0_4 1 1099511627776).bind fun t119 => (header_Encode.j0 k (!t119) a0_0 a0_1 a0_2 a0_3 a0_4 a0_5)) = some (r1, r2) := by rw [if_pos rfl] at H; exact H
            clear H
            have H := H1
            clear H1
            replace H := Option.bind_eq_some_iff.mp H
            obtain ⟨t119, A120, H⟩ := H
            replace H : (header_Encode.j0 k (!t119) a0_0 a0_1 a0_2 a0_3 a0_4 a0_5) = some (r1, r2) := H
            have A12 := Aside0.mk A120
            clear A120
            have H' := Aside0.mk H
            clear H
            have hcz13_0 : w3.cell? ⟨gb114, 0, none⟩ = some (.int .i64 a0_0) := (blk_cell BK114.out 0).trans rfl
            have hcz13_1 : w3.cell? ⟨gb114, 1, none⟩ = some (.int .i64 a0_1) := (blk_cell BK114.out 1).trans rfl
            have hcz13_2 : w3.cell? ⟨gb114, 2, none⟩ = some (.int .i64 a0_2) := (blk_cell BK114.out 2).trans rfl
            have hcz13_3 : w3.cell? ⟨gb114, 3, none⟩ = some (.int .i64 a0_3) := (blk_cell BK114.out 3).trans rfl
            have hcz13_4 : w3.cell? ⟨gb114, 4, none⟩ = some (.int .i64 a0_4) := (blk_cell BK114.out 4).trans rfl
            have hcz13_5 : w3.cell? ⟨gb114, 5, none⟩ = some (.string a0_5) := (blk_cell BK114.out 5).trans rfl
            have hfz13_0 := blk_frozen BK114.out 0
            have hfz13_1 := blk_frozen BK114.out 1
            have hfz13_2 := blk_frozen BK114.out 2
            have hfz13_3 := blk_frozen BK114.out 3
            have hfz13_4 := blk_frozen BK114.out 4
            have hfz13_5 := blk_frozen BK114.out 5
            go_wp2_with (first | (go_at_call 22; (with_reducible refine (header_Encode_1.calls a0_0 1 7 true _ A4.out).mono ?_); rintro e w' ⟨rfl, ⟨nd, rfl⟩⟩) | (go_at_call 22; (with_reducible refine (header_Encode_1.calls a0_1 0 7 true _ A6.out).mono ?_); rintro e w' ⟨rfl, ⟨nd, rfl⟩⟩) | (go_at_call 22; (with_reducible refine (header_Encode_1.calls a0_2 0 31 true _ A8.out).mono ?_); rintro e w' ⟨rfl, ⟨nd, rfl⟩⟩) | (go_at_call 22; (with_reducible refine (header_Encode_1.calls a0_3 0 63 true _ A10.out).mono ?_); rintro e w' ⟨rfl, ⟨nd, rfl⟩⟩) | (go_at_call 22; (with_reducible refine (header_Encode_1.calls a0_4 1 1099511627776 t119 _ A12.out).mono ?_); rintro e w' ⟨rfl, ⟨nd, rfl⟩⟩))
            go_meet
            case rel => exact ⟨_, (!t119), (by first | rfl | (simp; done) | (simp [*]; done)), H', ⟨by first | omega | exact Nat.le_refl _⟩, ⟨by (with_reducible repeat (first | refine blk_drewN ?_ _ | refine blk_drew ?_ | refine blk_alloc ?_ _)); exact BK114.out⟩, ⟨by repeat (first | (with_reducible first | exact HB.out | apply below_alloc | apply pw_below_drewN | apply below_drew1 | refine below_set ?_ GE114.out) | exact HB.out)⟩⟩
          · replace c11 := Bool.eq_false_iff.mpr c11
            subst c11
            have H1 : (header_Encode.j0 k true a0_0 a0_1 a0_2 a0_3 a0_4 a0_5) = some (r1, r2) := by rw [if_neg (show ¬ (false = true) by decide)] at H; exact H
            clear H
            have H := H1
            clear H1
            have H' := Aside0.mk H
            clear H
            have hcz14_0 : w3.cell? ⟨gb114, 0, none⟩ = some (.int .i64 a0_0) := (blk_cell BK114.out 0).trans rfl
            have hcz14_1 : w3.cell? ⟨gb114, 1, none⟩ = some (.int .i64 a0_1) := (blk_cell BK114.out 1).trans rfl
            have hcz14_2 : w3.cell? ⟨gb114, 2, none⟩ = some (.int .i64 a0_2) := (blk_cell BK114.out 2).trans rfl
            have hcz14_3 : w3.cell? ⟨gb114, 3, none⟩ = some (.int .i64 a0_3) := (blk_cell BK114.out 3).trans rfl
            have hcz14_4 : w3.cell? ⟨gb114, 4, none⟩ = some (.int .i64 a0_4) := (blk_cell BK114.out 4).trans rfl
            have hcz14_5 : w3.cell? ⟨gb114, 5, none⟩ = some (.string a0_5) := (blk_cell BK114.out 5).trans rfl
            have hfz14_0 := blk_frozen BK114.out 0
            have hfz14_1 := blk_frozen BK114.out 1
            have hfz14_2 := blk_frozen BK114.out 2
            have hfz14_3 := blk_frozen BK114.out 3
            have hfz14_4 := blk_frozen BK114.out 4
            have hfz14_5 := blk_frozen BK114.out 5
            go_wp2_with (first | (go_at_call 22; (with_reducible refine (header_Encode_1.calls a0_0 1 7 true _ A4.out).mono ?_); rintro e w' ⟨rfl, ⟨nd, rfl⟩⟩) | (go_at_call 22; (with_reducible refine (header_Encode_1.calls a0_1 0 7 true _ A6.out).mono ?_); rintro e w' ⟨rfl, ⟨nd, rfl⟩⟩) | (go_at_call 22; (with_reducible refine (header_Encode_1.calls a0_2 0 31 true _ A8.out).mono ?_); rintro e w' ⟨rfl, ⟨nd, rfl⟩⟩) | (go_at_call 22; (with_reducible refine (header_Encode_1.calls a0_3 0 63 false _ A10.out).mono ?_); rintro e w' ⟨rfl, ⟨nd, rfl⟩⟩))
            go_meet
            case rel => exact ⟨_, (true), (by first | rfl | (simp; done) | (simp [*]; done)), H', ⟨by first | omega | exact Nat.le_refl _⟩, ⟨by (with_reducible repeat (first | refine blk_drewN ?_ _ | refine blk_drew ?_ | refine blk_alloc ?_ _)); exact BK114.out⟩, ⟨by repeat (first | (with_reducible first | exact HB.out | apply below_alloc | apply pw_below_drewN | apply below_drew1 | refine below_set ?_ GE114.out) | exact HB.out)⟩⟩
        · replace c9 := Bool.eq_false_iff.mpr c9
          subst c9
          have H1 : (header_Encode.j0 k true a0_0 a0_1 a0_2 a0_3 a0_4 a0_5) = some (r1, r2) := by rw [if_neg (show ¬ (false = true) by decide)] at H; exact H
          clear H
          have H := H1
          clear H1
          have H' := Aside0.mk H
          clear H
          have hcz15_0 : w3.cell? ⟨gb114, 0, none⟩ = some (.int .i64 a0_0) := (blk_cell BK114.out 0).trans rfl
          have hcz15_1 : w3.cell? ⟨gb114, 1, none⟩ = some (.int .i64 a0_1) := (blk_cell BK114.out 1).trans rfl
          have hcz15_2 : w3.cell? ⟨gb114, 2, none⟩ = some (.int .i64 a0_2) := (blk_cell BK114.out 2).trans rfl
          have hcz15_3 : w3.cell? ⟨gb114, 3, none⟩ = some (.int .i64 a0_3) := (blk_cell BK114.out 3).trans rfl
          have hcz15_4 : w3.cell? ⟨gb114, 4, none⟩ = some (.int .i64 a0_4) := (blk_cell BK114.out 4).trans rfl
          have hcz15_5 : w3.cell? ⟨gb114, 5, none⟩ = some (.string a0_5) := (blk_cell BK114.out 5).trans rfl
          have hfz15_0 := blk_frozen BK114.out 0
          have hfz15_1 := blk_frozen BK114.out 1
          have hfz15_2 := blk_frozen BK114.out 2
          have hfz15_3 := blk_frozen BK114.out 3
          have hfz15_4 := blk_frozen BK114.out 4
          have hfz15_5 := blk_frozen BK114.out 5
          go_wp2_with (first | (go_at_call 22; (with_reducible refine (header_Encode_1.calls a0_0 1 7 true _ A4.out).mono ?_); rintro e w' ⟨rfl, ⟨nd, rfl⟩⟩) | (go_at_call 22; (with_reducible refine (header_Encode_1.calls a0_1 0 7 true _ A6.out).mono ?_); rintro e w' ⟨rfl, ⟨nd, rfl⟩⟩) | (go_at_call 22; (with_reducible refine (header_Encode_1.calls a0_2 0 31 false _ A8.out).mono ?_); rintro e w' ⟨rfl, ⟨nd, rfl⟩⟩))
          go_meet
          case rel => exact ⟨_, (true), (by first | rfl | (simp; done) | (simp [*]; done)), H', ⟨by first | omega | exact Nat.le_refl _⟩, ⟨by (with_reducible repeat (first | refine blk_drewN ?_ _ | refine blk_drew ?_ | refine blk_alloc ?_ _)); exact BK114.out⟩, ⟨by repeat (first | (with_reducible first | exact HB.out | apply below_alloc | apply pw_below_drewN | apply below_drew1 | refine below_set ?_ GE114.out) | exact HB.out)⟩⟩
      · replace c7 := Bool.eq_false_iff.mpr c7
        subst c7
        have H1 : (header_Encode.j0 k true a0_0 a0_1 a0_2 a0_3 a0_4 a0_5) = some (r1, r2) := by rw [if_neg (show ¬ (false = true) by decide)] at H; exact H
        clear H
        have H := H1
        clear H1
        have H' := Aside0.mk H
        clear H
        have hcz16_0 : w3.cell? ⟨gb114, 0, none⟩ = some (.int .i64 a0_0) := (blk_cell BK114.out 0).trans rfl
        have hcz16_1 : w3.cell? ⟨gb114, 1, none⟩ = some (.int .i64 a0_1) := (blk_cell BK114.out 1).trans rfl
        have hcz16_2 : w3.cell? ⟨gb114, 2, none⟩ = some (.int .i64 a0_2) := (blk_cell BK114.out 2).trans rfl
        have hcz16_3 : w3.cell? ⟨gb114, 3, none⟩ = some (.int .i64 a0_3) := (blk_cell BK114.out 3).trans rfl
        have hcz16_4 : w3.cell? ⟨gb114, 4, none⟩ = some (.int .i64 a0_4) := (blk_cell BK114.out 4).trans rfl
        have hcz16_5 : w3.cell? ⟨gb114, 5, none⟩ = some (.string a0_5) := (blk_cell BK114.out 5).trans rfl
        have hfz16_0 := blk_frozen BK114.out 0
        have hfz16_1 := blk_frozen BK114.out 1
        have hfz16_2 := blk_frozen BK114.out 2
        have hfz16_3 := blk_frozen BK114.out 3
        have hfz16_4 := blk_frozen BK114.out 4
        have hfz16_5 := blk_frozen BK114.out 5
        go_wp2_with (first | (go_at_call 22; (with_reducible refine (header_Encode_1.calls a0_0 1 7 true _ A4.out).mono ?_); rintro e w' ⟨rfl, ⟨nd, rfl⟩⟩) | (go_at_call 22; (with_reducible refine (header_Encode_1.calls a0_1 0 7 false _ A6.out).mono ?_); rintro e w' ⟨rfl, ⟨nd, rfl⟩⟩))
        go_meet
        case rel => exact ⟨_, (true), (by first | rfl | (simp; done) | (simp [*]; done)), H', ⟨by first | omega | exact Nat.le_refl _⟩, ⟨by (with_reducible repeat (first | refine blk_drewN ?_ _ | refine blk_drew ?_ | refine blk_alloc ?_ _)); exact BK114.out⟩, ⟨by repeat (first | (with_reducible first | exact HB.out | apply below_alloc | apply pw_below_drewN | apply below_drew1 | refine below_set ?_ GE114.out) | exact HB.out)⟩⟩
    · replace c5 := Bool.eq_false_iff.mpr c5
      subst c5
      have H1 : (header_Encode.j0 k true a0_0 a0_1 a0_2 a0_3 a0_4 a0_5) = some (r1, r2) := by rw [if_neg (show ¬ (false = true) by decide)] at H; exact H
      clear H
      have H := H1
      clear H1
      have H' := Aside0.mk H
      clear H
      have hcz17_0 : w3.cell? ⟨gb114, 0, none⟩ = some (.int .i64 a0_0) := (blk_cell BK114.out 0).trans rfl
      have hcz17_1 : w3.cell? ⟨gb114, 1, none⟩ = some (.int .i64 a0_1) := (blk_cell BK114.out 1).trans rfl
      have hcz17_2 : w3.cell? ⟨gb114, 2, none⟩ = some (.int .i64 a0_2) := (blk_cell BK114.out 2).trans rfl
      have hcz17_3 : w3.cell? ⟨gb114, 3, none⟩ = some (.int .i64 a0_3) := (blk_cell BK114.out 3).trans rfl
      have hcz17_4 : w3.cell? ⟨gb114, 4, none⟩ = some (.int .i64 a0_4) := (blk_cell BK114.out 4).trans rfl
      have hcz17_5 : w3.cell? ⟨gb114, 5, none⟩ = some (.string a0_5) := (blk_cell BK114.out 5).trans rfl
      have hfz17_0 := blk_frozen BK114.out 0
      have hfz17_1 := blk_frozen BK114.out 1
      have hfz17_2 := blk_frozen BK114.out 2
      have hfz17_3 := blk_frozen BK114.out 3
      have hfz17_4 := blk_frozen BK114.out 4
      have hfz17_5 := blk_frozen BK114.out 5
      go_wp2_with (first | (go_at_call 22; (with_reducible refine (header_Encode_1.calls a0_0 1 7 false _ A4.out).mono ?_); rintro e w' ⟨rfl, ⟨nd, rfl⟩⟩))
      go_meet
      case rel => exact ⟨_, (true), (by first | rfl | (simp; done) | (simp [*]; done)), H', ⟨by first | omega | exact Nat.le_refl _⟩, ⟨by (with_reducible repeat (first | refine blk_drewN ?_ _ | refine blk_drew ?_ | refine blk_alloc ?_ _)); exact BK114.out⟩, ⟨by repeat (first | (with_reducible first | exact HB.out | apply below_alloc | apply pw_below_drewN | apply below_drew1 | refine below_set ?_ GE114.out) | exact HB.out)⟩⟩
  case rest =>
    clear HC2
    try clear c1
    try clear c2
    try clear p2
    try clear c5
    try clear c7
    try clear c9
    try clear c10
    try clear c11
    try clear hcz13_0
    try clear hcz13_1
    try clear hcz13_2
    try clear hcz13_3
    try clear hcz13_4
    try clear hcz13_5
    try clear hcz14_0
    try clear hcz14_1
    try clear hcz14_2
    try clear hcz14_3
    try clear hcz14_4
    try clear hcz14_5
    try clear hcz15_0
    try clear hcz15_1
    try clear hcz15_2
    try clear hcz15_3
    try clear hcz15_4
    try clear hcz15_5
    try clear hcz16_0
    try clear hcz16_1
    try clear hcz16_2
    try clear hcz16_3
    try clear hcz16_4
    try clear hcz16_5
    try clear hcz17_0
    try clear hcz17_1
    try clear hcz17_2
    try clear hcz17_3
    try clear hcz17_4
    try clear hcz17_5
    try clear hfz13_0
    try clear hfz13_1
    try clear hfz13_2
    try clear hfz13_3
    try clear hfz13_4
    try clear hfz13_5
    try clear hfz14_0
    try clear hfz14_1
    try clear hfz14_2
    try clear hfz14_3
    try clear hfz14_4
    try clear hfz14_5
    try clear hfz15_0
    try clear hfz15_1
    try clear hfz15_2
    try clear hfz15_3
    try clear hfz15_4
    try clear hfz15_5
    try clear hfz16_0
    try clear hfz16_1
    try clear hfz16_2
    try clear hfz16_3
    try clear hfz16_4
    try clear hfz16_5
    try clear hfz17_0
    try clear hfz17_1
    try clear hfz17_2
    try clear hfz17_3
    try clear hfz17_4
    try clear hfz17_5
    obtain ⟨kq, x38_1, rfl, HA, HJ1, BK114, HB⟩ := hcut
    cases kq with
    | zero => exact absurd HA.out (by simp [header_Encode.j0])
    | succ kj1 =>
      have H := HA.out
      clear HA
      simp only [header_Encode.j0] at H
      by_cases c18 : x38_1 = true
      · subst c18
        have H1 : (some (([] : List Int), 7)) = some (r1, r2) := by rw [if_pos rfl] at H; exact H
        clear H
        have H := H1
        clear H1
        simp only [Option.some.injEq, Prod.mk.injEq] at H
        obtain ⟨rfl, rfl⟩ := H
        go_wp2
        go_ret2
        exact ⟨_, by first | rfl | (simp [errW_none, errW_some] <;> rfl) | (simp [*, errW_none, errW_some] <;> rfl), by first | exact Kd.R_nil _ _ _ _ _ | exact Kd.N_nil _ _ _ _ _ | exact Kd.V_nil _ _ _ _ _ | exact Kd.Q_nil _ _ _ _ _ | exact Kd.S_nil _ _ _ _ _, by repeat (first | (with_reducible first | exact HB.out | apply below_alloc | apply pw_below_drewN | apply below_drew1 | refine below_set ?_ GE114.out) | exact HB.out)⟩
      · replace c18 := Bool.eq_false_iff.mpr c18
        subst c18
        have H1 : (if (a0_5.size : Int) = 16 then ((some (([83, 72] : List Int) : List Int)).bind fun y120 => ((pack_Must.f kj1 (([IntKind.u64.wrap (a0_0), IntKind.u64.wrap (a0_1), IntKind.u64.wrap (a0_2), IntKind.u64.wrap (a0_3), IntKind.u64.wrap (a0_4)] : List Int)) (([1, 1, 1, 1, 8] : List Int))).bind fun t129 => (if y120.length + t129.length < 140737488355328 then ((some (y120 ++ t129 : List Int)).bind fun y132 => (if y132.length + a0_5.size < 140737488355328 then ((some (y132 ++ bytesOf a0_5 : List Int)).bind fun y135 => (if 0 ≤ (wrap64 (60 - (y135.length : Int))) then (if y135.length + (wrap64 (60 - (y135.length : Int)) : Int).toNat < 140737488355328 then ((some (y135 ++ List.replicate (wrap64 (60 - (y135.length : Int)) : Int).toNat 0 : List Int)).bind fun y138 => ((crc_Sum.f y138).bind fun t141 => ((pack_Must.f kj1 (([IntKind.u64.wrap (t141)] : List Int)) (([4] : List Int))).bind fun t148 => (if y138.length + t148.length < 140737488355328 then (some ((y138 ++ t148), 0)) else (none))))) else (none)) else (none))) else (none))) else (none)))) else (some (([] : List Int), 1))) = some (r1, r2) := by rw [if_neg (show ¬ (false = true) by decide)] at H; exact H
        clear H
        have H := H1
        clear H1
        by_cases c19 : (a0_5.size : Int) = 16
        · rw [if_pos c19] at H
          have c19b0 : ((a0_5.size : Int) == 16) = true := beq_iff_eq.mpr c19
          have c19b1 : ((a0_5.size : Int) != 16) = false := bne_eq_false_iff_eq.mpr c19
          clear c19
          obtain ⟨y120, hy120⟩ : ∃ y_ : List Int, y_ = (([83, 72] : List Int)) := ⟨_, rfl⟩
          replace H : ((pack_Must.f kj1 (([IntKind.u64.wrap (a0_0), IntKind.u64.wrap (a0_1), IntKind.u64.wrap (a0_2), IntKind.u64.wrap (a0_3), IntKind.u64.wrap (a0_4)] : List Int)) (([1, 1, 1, 1, 8] : List Int))).bind fun t129 => (if y120.length + t129.length < 140737488355328 then ((some (y120 ++ t129 : List Int)).bind fun y132 => (if y132.length + a0_5.size < 140737488355328 then ((some (y132 ++ bytesOf a0_5 : List Int)).bind fun y135 => (if 0 ≤ (wrap64 (60 - (y135.length : Int))) then (if y135.length + (wrap64 (60 - (y135.length : Int)) : Int).toNat < 140737488355328 then ((some (y135 ++ List.replicate (wrap64 (60 - (y135.length : Int)) : Int).toNat 0 : List Int)).bind fun y138 => ((crc_Sum.f y138).bind fun t141 => ((pack_Must.f kj1 (([IntKind.u64.wrap (t141)] : List Int)) (([4] : List Int))).bind fun t148 => (if y138.length + t148.length < 140737488355328 then (some ((y138 ++ t148), 0)) else (none))))) else (none)) else (none))) else (none))) else (none))) = some (r1, r2) := by first | (rw [hy120]; with_reducible exact H) | (have H2_ := (Option.bind_some _ _).symm.trans H; rw [hy120]; with_reducible exact H2_) | (have H2_ := (Option.bind_some _ _).symm.trans H; with_reducible exact H2_) | with_reducible exact H | (rw [hy120]; exact H) | exact H
          have Ny120 := Aside0.mk hy120
          clear hy120
          obtain ⟨y123, hy123⟩ : ∃ y_ : List Int, y_ = (([IntKind.u64.wrap (a0_0), IntKind.u64.wrap (a0_1), IntKind.u64.wrap (a0_2), IntKind.u64.wrap (a0_3), IntKind.u64.wrap (a0_4)] : List Int)) := ⟨_, rfl⟩
          replace H : ((pack_Must.f kj1 y123 (([1, 1, 1, 1, 8] : List Int))).bind fun t129 => (if y120.length + t129.length < 140737488355328 then ((some (y120 ++ t129 : List Int)).bind fun y132 => (if y132.length + a0_5.size < 140737488355328 then ((some (y132 ++ bytesOf a0_5 : List Int)).bind fun y135 => (if 0 ≤ (wrap64 (60 - (y135.length : Int))) then (if y135.length + (wrap64 (60 - (y135.length : Int)) : Int).toNat < 140737488355328 then ((some (y135 ++ List.replicate (wrap64 (60 - (y135.length : Int)) : Int).toNat 0 : List Int)).bind fun y138 => ((crc_Sum.f y138).bind fun t141 => ((pack_Must.f kj1 (([IntKind.u64.wrap (t141)] : List Int)) (([4] : List Int))).bind fun t148 => (if y138.length + t148.length < 140737488355328 then (some ((y138 ++ t148), 0)) else (none))))) else (none)) else (none))) else (none))) else (none))) = some (r1, r2) := by first | (rw [hy123]; with_reducible exact H) | (have H2_ := (Option.bind_some _ _).symm.trans H; rw [hy123]; with_reducible exact H2_) | (have H2_ := (Option.bind_some _ _).symm.trans H; with_reducible exact H2_) | with_reducible exact H | (rw [hy123]; exact H) | exact H
          have Ny123 := Aside0.mk hy123
          clear hy123
          obtain ⟨y126, hy126⟩ : ∃ y_ : List Int, y_ = (([1, 1, 1, 1, 8] : List Int)) := ⟨_, rfl⟩
          replace H : ((pack_Must.f kj1 y123 y126).bind fun t129 => (if y120.length + t129.length < 140737488355328 then ((some (y120 ++ t129 : List Int)).bind fun y132 => (if y132.length + a0_5.size < 140737488355328 then ((some (y132 ++ bytesOf a0_5 : List Int)).bind fun y135 => (if 0 ≤ (wrap64 (60 - (y135.length : Int))) then (if y135.length + (wrap64 (60 - (y135.length : Int)) : Int).toNat < 140737488355328 then ((some (y135 ++ List.replicate (wrap64 (60 - (y135.length : Int)) : Int).toNat 0 : List Int)).bind fun y138 => ((crc_Sum.f y138).bind fun t141 => ((pack_Must.f kj1 (([IntKind.u64.wrap (t141)] : List Int)) (([4] : List Int))).bind fun t148 => (if y138.length + t148.length < 140737488355328 then (some ((y138 ++ t148), 0)) else (none))))) else (none)) else (none))) else (none))) else (none))) = some (r1, r2) := by first | (rw [hy126]; with_reducible exact H) | (have H2_ := (Option.bind_some _ _).symm.trans H; rw [hy126]; with_reducible exact H2_) | (have H2_ := (Option.bind_some _ _).symm.trans H; with_reducible exact H2_) | with_reducible exact H | (rw [hy126]; exact H) | exact H
          have Ny126 := Aside0.mk hy126
          clear hy126
          replace H := Option.bind_eq_some_iff.mp H
          obtain ⟨t129, A200, H⟩ := H
          replace H : (if y120.length + t129.length < 140737488355328 then ((some (y120 ++ t129 : List Int)).bind fun y132 => (if y132.length + a0_5.size < 140737488355328 then ((some (y132 ++ bytesOf a0_5 : List Int)).bind fun y135 => (if 0 ≤ (wrap64 (60 - (y135.length : Int))) then (if y135.length + (wrap64 (60 - (y135.length : Int)) : Int).toNat < 140737488355328 then ((some (y135 ++ List.replicate (wrap64 (60 - (y135.length : Int)) : Int).toNat 0 : List Int)).bind fun y138 => ((crc_Sum.f y138).bind fun t141 => ((pack_Must.f kj1 (([IntKind.u64.wrap (t141)] : List Int)) (([4] : List Int))).bind fun t148 => (if y138.length + t148.length < 140737488355328 then (some ((y138 ++ t148), 0)) else (none))))) else (none)) else (none))) else (none))) else (none)) = some (r1, r2) := H
          have A20 := Aside0.mk A200
          clear A200
          by_cases c21 : y120.length + t129.length < 140737488355328
          · rw [if_pos c21] at H
            have LMc21 := Aside0.mk c21
            clear c21
            obtain ⟨y132, hy132⟩ : ∃ y_ : List Int, y_ = (y120 ++ t129) := ⟨_, rfl⟩
            replace H : (if y132.length + a0_5.size < 140737488355328 then ((some (y132 ++ bytesOf a0_5 : List Int)).bind fun y135 => (if 0 ≤ (wrap64 (60 - (y135.length : Int))) then (if y135.length + (wrap64 (60 - (y135.length : Int)) : Int).toNat < 140737488355328 then ((some (y135 ++ List.replicate (wrap64 (60 - (y135.length : Int)) : Int).toNat 0 : List Int)).bind fun y138 => ((crc_Sum.f y138).bind fun t141 => ((pack_Must.f kj1 (([IntKind.u64.wrap (t141)] : List Int)) (([4] : List Int))).bind fun t148 => (if y138.length + t148.length < 140737488355328 then (some ((y138 ++ t148), 0)) else (none))))) else (none)) else (none))) else (none)) = some (r1, r2) := by first | (rw [hy132]; with_reducible exact H) | (have H2_ := (Option.bind_some _ _).symm.trans H; rw [hy132]; with_reducible exact H2_) | (have H2_ := (Option.bind_some _ _).symm.trans H; with_reducible exact H2_) | with_reducible exact H | (rw [hy132]; exact H) | exact H
            have Ny132 := Aside0.mk hy132
            clear hy132
            by_cases c22 : y132.length + a0_5.size < 140737488355328
            · rw [if_pos c22] at H
              have LMc22 := Aside0.mk c22
              clear c22
              obtain ⟨y135, hy135⟩ : ∃ y_ : List Int, y_ = (y132 ++ bytesOf a0_5) := ⟨_, rfl⟩
              replace H : (if 0 ≤ (wrap64 (60 - (y135.length : Int))) then (if y135.length + (wrap64 (60 - (y135.length : Int)) : Int).toNat < 140737488355328 then ((some (y135 ++ List.replicate (wrap64 (60 - (y135.length : Int)) : Int).toNat 0 : List Int)).bind fun y138 => ((crc_Sum.f y138).bind fun t141 => ((pack_Must.f kj1 (([IntKind.u64.wrap (t141)] : List Int)) (([4] : List Int))).bind fun t148 => (if y138.length + t148.length < 140737488355328 then (some ((y138 ++ t148), 0)) else (none))))) else (none)) else (none)) = some (r1, r2) := by first | (rw [hy135]; with_reducible exact H) | (have H2_ := (Option.bind_some _ _).symm.trans H; rw [hy135]; with_reducible exact H2_) | (have H2_ := (Option.bind_some _ _).symm.trans H; with_reducible exact H2_) | with_reducible exact H | (rw [hy135]; exact H) | exact H
              have Ny135 := Aside0.mk hy135
              clear hy135
              obtain ⟨ji23, hji23⟩ : ∃ j_ : Int, (wrap64 (60 - (y135.length : Int))) = j_ := ⟨_, rfl⟩
              replace H : (if 0 ≤ (ji23) then (if y135.length + (ji23 : Int).toNat < 140737488355328 then ((some (y135 ++ List.replicate (ji23 : Int).toNat 0 : List Int)).bind fun y138 => ((crc_Sum.f y138).bind fun t141 => ((pack_Must.f kj1 (([IntKind.u64.wrap (t141)] : List Int)) (([4] : List Int))).bind fun t148 => (if y138.length + t148.length < 140737488355328 then (some ((y138 ++ t148), 0)) else (none))))) else (none)) else (none)) = some (r1, r2) := by first | (rw [hji23] at H; exact H) | (simp only [hji23] at H ⊢; exact H)
              (try rw [hji23] at A20)
              have hji23w : (IntKind.i64.wrap (60 - (y135.length : Int))) = ji23 := (i64_w _).trans hji23
              by_cases c24 : 0 ≤ (ji23)
              · rw [if_pos c24] at H
                have c24b0 := eq_true c24
                have c24b1 : decide (0 ≤ (ji23)) = true := decide_eq_true c24
                clear c24
                by_cases c25 : y135.length + (ji23 : Int).toNat < 140737488355328
                · rw [if_pos c25] at H
                  have LMc25 := Aside0.mk c25
                  clear c25
                  obtain ⟨y138, hy138⟩ : ∃ y_ : List Int, y_ = (y135 ++ List.replicate (ji23 : Int).toNat 0) := ⟨_, rfl⟩
                  replace H : ((crc_Sum.f y138).bind fun t141 => ((pack_Must.f kj1 (([IntKind.u64.wrap (t141)] : List Int)) (([4] : List Int))).bind fun t148 => (if y138.length + t148.length < 140737488355328 then (some ((y138 ++ t148), 0)) else (none)))) = some (r1, r2) := by first | (rw [hy138]; with_reducible exact H) | (have H2_ := (Option.bind_some _ _).symm.trans H; rw [hy138]; with_reducible exact H2_) | (have H2_ := (Option.bind_some _ _).symm.trans H; with_reducible exact H2_) | with_reducible exact H | (rw [hy138]; exact H) | exact H
                  have Ny138 := Aside0.mk hy138
                  clear hy138
                  replace H := Option.bind_eq_some_iff.mp H
                  obtain ⟨t141, A260, H⟩ := H
                  replace H : ((pack_Must.f kj1 (([IntKind.u64.wrap (t141)] : List Int)) (([4] : List Int))).bind fun t148 => (if y138.length + t148.length < 140737488355328 then (some ((y138 ++ t148), 0)) else (none))) = some (r1, r2) := H
                  have A26 := Aside0.mk A260
                  clear A260
                  obtain ⟨y142, hy142⟩ : ∃ y_ : List Int, y_ = (([IntKind.u64.wrap (t141)] : List Int)) := ⟨_, rfl⟩
                  replace H : ((pack_Must.f kj1 y142 (([4] : List Int))).bind fun t148 => (if y138.length + t148.length < 140737488355328 then (some ((y138 ++ t148), 0)) else (none))) = some (r1, r2) := by first | (rw [hy142]; with_reducible exact H) | (have H2_ := (Option.bind_some _ _).symm.trans H; rw [hy142]; with_reducible exact H2_) | (have H2_ := (Option.bind_some _ _).symm.trans H; with_reducible exact H2_) | with_reducible exact H | (rw [hy142]; exact H) | exact H
                  have Ny142 := Aside0.mk hy142
                  clear hy142
                  obtain ⟨y145, hy145⟩ : ∃ y_ : List Int, y_ = (([4] : List Int)) := ⟨_, rfl⟩
                  replace H : ((pack_Must.f kj1 y142 y145).bind fun t148 => (if y138.length + t148.length < 140737488355328 then (some ((y138 ++ t148), 0)) else (none))) = some (r1, r2) := by first | (rw [hy145]; with_reducible exact H) | (have H2_ := (Option.bind_some _ _).symm.trans H; rw [hy145]; with_reducible exact H2_) | (have H2_ := (Option.bind_some _ _).symm.trans H; with_reducible exact H2_) | with_reducible exact H | (rw [hy145]; exact H) | exact H
                  have Ny145 := Aside0.mk hy145
                  clear hy145
                  replace H := Option.bind_eq_some_iff.mp H
                  obtain ⟨t148, A270, H⟩ := H
                  replace H : (if y138.length + t148.length < 140737488355328 then (some ((y138 ++ t148), 0)) else (none)) = some (r1, r2) := H
                  have A27 := Aside0.mk A270
                  clear A270
                  by_cases c28 : y138.length + t148.length < 140737488355328
                  · rw [if_pos c28] at H
                    have LMc28 := Aside0.mk c28
                    clear c28
                    obtain ⟨y151, hy151⟩ : ∃ y_ : List Int, y_ = (y138 ++ t148) := ⟨_, rfl⟩
                    replace H : (some (y151, 0)) = some (r1, r2) := by first | (rw [hy151]; with_reducible exact H) | (have H2_ := (Option.bind_some _ _).symm.trans H; rw [hy151]; with_reducible exact H2_) | (have H2_ := (Option.bind_some _ _).symm.trans H; with_reducible exact H2_) | with_reducible exact H | (rw [hy151]; exact H) | exact H
                    have Ny151 := Aside0.mk hy151
                    clear hy151
                    simp only [Option.some.injEq, Prod.mk.injEq] at H
                    obtain ⟨rfl, rfl⟩ := H
                    have hcz29_0 : wc.cell? ⟨gb114, 0, none⟩ = some (.int .i64 a0_0) := (blk_cell BK114.out 0).trans rfl
                    have hcz29_1 : wc.cell? ⟨gb114, 1, none⟩ = some (.int .i64 a0_1) := (blk_cell BK114.out 1).trans rfl
                    have hcz29_2 : wc.cell? ⟨gb114, 2, none⟩ = some (.int .i64 a0_2) := (blk_cell BK114.out 2).trans rfl
                    have hcz29_3 : wc.cell? ⟨gb114, 3, none⟩ = some (.int .i64 a0_3) := (blk_cell BK114.out 3).trans rfl
                    have hcz29_4 : wc.cell? ⟨gb114, 4, none⟩ = some (.int .i64 a0_4) := (blk_cell BK114.out 4).trans rfl
                    have hcz29_5 : wc.cell? ⟨gb114, 5, none⟩ = some (.string a0_5) := (blk_cell BK114.out 5).trans rfl
                    have hfz29_0 := blk_frozen BK114.out 0
                    have hfz29_1 := blk_frozen BK114.out 1
                    have hfz29_2 := blk_frozen BK114.out 2
                    have hfz29_3 := blk_frozen BK114.out 3
                    have hfz29_4 := blk_frozen BK114.out 4
                    have hfz29_5 := blk_frozen BK114.out 5
                    go_wp2_with (first | ((with_reducible refine gate_dst (N := 43) rfl ?_); refine Fz.lit_run (N := 43) ?hg ?hd (cs := #[.int .u8 83, .int .u8 72]) (t := 5) (n := 2) ?hr ?_; (case hd => rfl); (case hg => rfl); (case hr => first | (go_simp; done) | (go_simp; rfl)); intro gA hgA w30 hnA hb; have GA := Aside0.mk (Nat.le_trans (below_size (by repeat (first | (with_reducible first | exact HB.out | apply below_alloc | apply pw_below_drewN | apply below_drew1 | refine below_set ?_ GE114.out) | exact HB.out))) (Nat.le_of_eq hgA.symm)); have n0_ := Aside0.mk hnA; have n1_ := Aside0.mk (blk_below (g := gb114) (o := .cells #[.int .i64 a0_0, .int .i64 a0_1, .int .i64 a0_2, .int .i64 a0_3, .int .i64 a0_4, .string a0_5] 23 (0, 0)) (by (with_reducible repeat (first | refine blk_drewN ?_ _ | refine blk_drew ?_ | refine blk_alloc ?_ _)); exact BK114.out) hb); have n2_ := Aside0.mk (below_step (by repeat (first | (with_reducible first | exact HB.out | apply below_alloc | apply pw_below_drewN | apply below_drew1 | refine below_set ?_ GE114.out) | exact HB.out)) hb); clear hgA hnA; clear BK114; clear HB; have HO122 := n0_; have BK114 := n1_; have HB := n2_; clear n0_ n1_ n2_; clear hb; have hcz32_0 : w30.cell? ⟨gb114, 0, none⟩ = some (.int .i64 a0_0) := (blk_cell BK114.out 0).trans rfl; have hcz32_1 : w30.cell? ⟨gb114, 1, none⟩ = some (.int .i64 a0_1) := (blk_cell BK114.out 1).trans rfl; have hcz32_2 : w30.cell? ⟨gb114, 2, none⟩ = some (.int .i64 a0_2) := (blk_cell BK114.out 2).trans rfl; have hcz32_3 : w30.cell? ⟨gb114, 3, none⟩ = some (.int .i64 a0_3) := (blk_cell BK114.out 3).trans rfl; have hcz32_4 : w30.cell? ⟨gb114, 4, none⟩ = some (.int .i64 a0_4) := (blk_cell BK114.out 4).trans rfl; have hcz32_5 : w30.cell? ⟨gb114, 5, none⟩ = some (.string a0_5) := (blk_cell BK114.out 5).trans rfl; have hfz32_0 := blk_frozen BK114.out 0; have hfz32_1 := blk_frozen BK114.out 1; have hfz32_2 := blk_frozen BK114.out 2; have hfz32_3 := blk_frozen BK114.out 3; have hfz32_4 := blk_frozen BK114.out 4; have hfz32_5 := blk_frozen BK114.out 5) | ((with_reducible refine gate_dst (N := 44) rfl ?_); refine Fz.conv_run ?hg (T := 24) (e := 5) (g := gA) (n := 2) (c := 2) (cs := #[.int .u8 83, .int .u8 72]) rfl rfl HO122.out Try.underlying24 Try.underlying5 ?_; (case hg => rfl); intro w30c hnA hgr hbl; have n0_ := Aside0.mk (show w30c.heap[gA]? = some (.cells #[.int .u8 83, .int .u8 72] 5 (2, 3)) from hnA); have n1_ := Aside0.mk (blk_grown (g := gb114) (o := .cells #[.int .i64 a0_0, .int .i64 a0_1, .int .i64 a0_2, .int .i64 a0_3, .int .i64 a0_4, .string a0_5] 23 (0, 0)) (by (with_reducible repeat (first | refine blk_drewN ?_ _ | refine blk_drew ?_ | refine blk_alloc ?_ _)); exact BK114.out) hgr (Fz.ne_blk BK114.out HO122.out (by decide))); have n2_ := Aside0.mk (hbl _ _ (by repeat (first | (with_reducible first | exact HB.out | apply below_alloc | apply pw_below_drewN | apply below_drew1 | refine below_set ?_ GE114.out) | exact HB.out)) GA.out); clear hnA hgr hbl; clear HO122; clear BK114; clear HB; have HO122 := n0_; have BK114 := n1_; have HB := n2_; clear n0_ n1_ n2_; have hczc32_0 : w30c.cell? ⟨gb114, 0, none⟩ = some (.int .i64 a0_0) := (blk_cell BK114.out 0).trans rfl; have hczc32_1 : w30c.cell? ⟨gb114, 1, none⟩ = some (.int .i64 a0_1) := (blk_cell BK114.out 1).trans rfl; have hczc32_2 : w30c.cell? ⟨gb114, 2, none⟩ = some (.int .i64 a0_2) := (blk_cell BK114.out 2).trans rfl; have hczc32_3 : w30c.cell? ⟨gb114, 3, none⟩ = some (.int .i64 a0_3) := (blk_cell BK114.out 3).trans rfl; have hczc32_4 : w30c.cell? ⟨gb114, 4, none⟩ = some (.int .i64 a0_4) := (blk_cell BK114.out 4).trans rfl; have hczc32_5 : w30c.cell? ⟨gb114, 5, none⟩ = some (.string a0_5) := (blk_cell BK114.out 5).trans rfl; have hfzc32_0 := blk_frozen BK114.out 0; have hfzc32_1 := blk_frozen BK114.out 1; have hfzc32_2 := blk_frozen BK114.out 2; have hfzc32_3 := blk_frozen BK114.out 3; have hfzc32_4 := blk_frozen BK114.out 4; have hfzc32_5 := blk_frozen BK114.out 5) | ((with_reducible refine gate_dst (N := 60) rfl ?_); refine Kd.R_lit (Kd.int .u64) _ 54 ?hg (N := 60) ?hd (xs := ([IntKind.u64.wrap (a0_0), IntKind.u64.wrap (a0_1), IntKind.u64.wrap (a0_2), IntKind.u64.wrap (a0_3), IntKind.u64.wrap (a0_4)] : List Int)) (inner := [.int .u64 (IntKind.u64.wrap (a0_0)), .int .u64 (IntKind.u64.wrap (a0_1)), .int .u64 (IntKind.u64.wrap (a0_2)), .int .u64 (IntKind.u64.wrap (a0_3)), .int .u64 (IntKind.u64.wrap (a0_4))]) (ok := fun _ => True) (okp := fun _ => True) ?hr ?hp (fun _ hk => hk) trivial (Below.refl _ _) (Nat.le_refl _) (by simp) ?_; (case hd => rfl); (case hg => rfl); (case hr => first | (go_simp; done) | (go_simp; rfl)); (case hp => exact (Reps.one (show Kd.M (Kd.int .u64) _ _ _ (IntKind.u64.wrap (a0_0)) [.int .u64 (IntKind.u64.wrap (a0_0))] from rfl) (Reps.one (show Kd.M (Kd.int .u64) _ _ _ (IntKind.u64.wrap (a0_1)) [.int .u64 (IntKind.u64.wrap (a0_1))] from rfl) (Reps.one (show Kd.M (Kd.int .u64) _ _ _ (IntKind.u64.wrap (a0_2)) [.int .u64 (IntKind.u64.wrap (a0_2))] from rfl) (Reps.one (show Kd.M (Kd.int .u64) _ _ _ (IntKind.u64.wrap (a0_3)) [.int .u64 (IntKind.u64.wrap (a0_3))] from rfl) (Reps.one (show Kd.M (Kd.int .u64) _ _ _ (IntKind.u64.wrap (a0_4)) [.int .u64 (IntKind.u64.wrap (a0_4))] from rfl) (Reps.none _ _))))))); intro v124 w33 ho34 hb hg_ hnew_; clear hg_ hnew_; (first | rw [← Ny123.out] at ho34 | (simp only [Int.reduceToNat] at ho34; rw [← Ny123.out] at ho34)); have n0_ := Aside0.mk (blk_below (g := gA) (o := .cells #[.int .u8 83, .int .u8 72] 5 (2, 3)) (by (with_reducible repeat (first | refine blk_drewN ?_ _ | refine blk_drew ?_ | refine blk_alloc ?_ _)); exact HO122.out) hb); have n1_ := Aside0.mk (Kd.R_lower ho34 (below_size (by repeat (first | (with_reducible first | exact HB.out | apply below_alloc | apply pw_below_drewN | apply below_drew1 | refine below_set ?_ GE114.out) | exact HB.out)))); have n2_ := Aside0.mk (blk_below (g := gb114) (o := .cells #[.int .i64 a0_0, .int .i64 a0_1, .int .i64 a0_2, .int .i64 a0_3, .int .i64 a0_4, .string a0_5] 23 (0, 0)) (by (with_reducible repeat (first | refine blk_drewN ?_ _ | refine blk_drew ?_ | refine blk_alloc ?_ _)); exact BK114.out) hb); have n3_ := Aside0.mk (below_step (by repeat (first | (with_reducible first | exact HB.out | apply below_alloc | apply pw_below_drewN | apply below_drew1 | refine below_set ?_ GE114.out) | exact HB.out)) hb); clear HO122; clear BK114; clear HB; have HO122 := n0_; have HO125 := n1_; have BK114 := n2_; have HB := n3_; clear n0_ n1_ n2_ n3_; clear hb ho34) | ((with_reducible refine gate_dst (N := 61) rfl ?_); refine Kd.R_lit (Kd.int .i64) _ 3 ?hg (N := 61) ?hd (xs := ([1, 1, 1, 1, 8] : List Int)) (inner := [.int .i64 1, .int .i64 1, .int .i64 1, .int .i64 1, .int .i64 8]) (ok := fun _ => True) (okp := fun _ => True) ?hr ?hp (fun _ hk => hk) trivial (Below.refl _ _) (Nat.le_refl _) (by simp) ?_; (case hd => rfl); (case hg => rfl); (case hr => first | (go_simp; done) | (go_simp; rfl)); (case hp => exact (Reps.one (show Kd.M (Kd.int .i64) _ _ _ 1 [.int .i64 1] from rfl) (Reps.one (show Kd.M (Kd.int .i64) _ _ _ 1 [.int .i64 1] from rfl) (Reps.one (show Kd.M (Kd.int .i64) _ _ _ 1 [.int .i64 1] from rfl) (Reps.one (show Kd.M (Kd.int .i64) _ _ _ 1 [.int .i64 1] from rfl) (Reps.one (show Kd.M (Kd.int .i64) _ _ _ 8 [.int .i64 8] from rfl) (Reps.none _ _))))))); intro v127 w35 ho36 hb hg_ hnew_; clear hg_ hnew_; (first | rw [← Ny126.out] at ho36 | (simp only [Int.reduceToNat] at ho36; rw [← Ny126.out] at ho36)); have n0_ := Aside0.mk (blk_below (g := gA) (o := .cells #[.int .u8 83, .int .u8 72] 5 (2, 3)) (by (with_reducible repeat (first | refine blk_drewN ?_ _ | refine blk_drew ?_ | refine blk_alloc ?_ _)); exact HO122.out) hb); have n1_ := Aside0.mk (Kd.R_below (by (with_reducible repeat (first | apply Kd.R_alloc | apply Kd.R_drewN | apply Kd.R_drew)); exact HO125.out) hb); have n2_ := Aside0.mk (Kd.R_lower ho36 (below_size (by repeat (first | (with_reducible first | exact HB.out | apply below_alloc | apply pw_below_drewN | apply below_drew1 | refine below_set ?_ GE114.out) | exact HB.out)))); have n3_ := Aside0.mk (blk_below (g := gb114) (o := .cells #[.int .i64 a0_0, .int .i64 a0_1, .int .i64 a0_2, .int .i64 a0_3, .int .i64 a0_4, .string a0_5] 23 (0, 0)) (by (with_reducible repeat (first | refine blk_drewN ?_ _ | refine blk_drew ?_ | refine blk_alloc ?_ _)); exact BK114.out) hb); have n4_ := Aside0.mk (below_step (by repeat (first | (with_reducible first | exact HB.out | apply below_alloc | apply pw_below_drewN | apply below_drew1 | refine below_set ?_ GE114.out) | exact HB.out)) hb); clear HO122; clear HO125; clear BK114; clear HB; have HO122 := n0_; have HO125 := n1_; have HO128 := n2_; have BK114 := n3_; have HB := n4_; clear n0_ n1_ n2_ n3_ n4_; clear hb ho36; obtain ⟨Ao37, co37, eo37⟩ := Kd.R_slice HO125.out; subst eo37; obtain ⟨Ao38, co38, eo38⟩ := Kd.R_slice HO128.out; subst eo38) | ((with_reducible refine gate_callee (f := 23) rfl ?_); refine goesL_ (some 62) rfl rfl Try.func23 (by kernel_rfl) rfl #[.slice Ao37 y123.length co37, .slice Ao38 y126.length co38] rfl (by (try simp only [List.map_toArray, List.map_cons, List.map_nil]); first | done | rfl | (simp only [List.length_drop, List.length_take]; rfl)) ?_; (with_reducible refine (pack_Must.calls kj1 _ _ y123 _ _ y126 t129 _ ?side1 ?side2 ?side3 ?side4 A20.out).mono ?_); (case side1 => repeat (first | exact (Kd.R_reads' HO125.out).2.2 | (with_reducible refine Kd.C_alloc ?_ _) | (with_reducible refine Kd.C_drewN ?_ _) | (with_reducible refine Kd.C_drew ?_))); (case side2 => exact (Kd.R_reads' HO125.out).2.1); (case side3 => repeat (first | exact (Kd.R_reads' HO128.out).2.2 | (with_reducible refine Kd.C_alloc ?_ _) | (with_reducible refine Kd.C_drewN ?_ _) | (with_reducible refine Kd.C_drew ?_))); (case side4 => exact (Kd.R_reads' HO128.out).2.1); rintro e w39 ⟨v130, rfl, ho0, hb⟩; refine ⟨_, rfl, ?_⟩; have n0_ := Aside0.mk (blk_below (g := gA) (o := .cells #[.int .u8 83, .int .u8 72] 5 (2, 3)) (by (with_reducible repeat (first | refine blk_drewN ?_ _ | refine blk_drew ?_ | refine blk_alloc ?_ _)); exact HO122.out) hb); have n1_ := Aside0.mk (Kd.R_below (by (with_reducible repeat (first | apply Kd.R_alloc | apply Kd.R_drewN | apply Kd.R_drew)); exact HO125.out) hb); have n2_ := Aside0.mk (Kd.R_below (by (with_reducible repeat (first | apply Kd.R_alloc | apply Kd.R_drewN | apply Kd.R_drew)); exact HO128.out) hb); have n3_ := Aside0.mk (Kd.R_lower ho0 (below_size (by repeat (first | (with_reducible first | exact HB.out | apply below_alloc | apply pw_below_drewN | apply below_drew1 | refine below_set ?_ GE114.out) | exact HB.out)))); have n4_ := Aside0.mk (blk_below (g := gb114) (o := .cells #[.int .i64 a0_0, .int .i64 a0_1, .int .i64 a0_2, .int .i64 a0_3, .int .i64 a0_4, .string a0_5] 23 (0, 0)) (by (with_reducible repeat (first | refine blk_drewN ?_ _ | refine blk_drew ?_ | refine blk_alloc ?_ _)); exact BK114.out) hb); have n5_ := Aside0.mk (below_step (by repeat (first | (with_reducible first | exact HB.out | apply below_alloc | apply pw_below_drewN | apply below_drew1 | refine below_set ?_ GE114.out) | exact HB.out)) hb); clear HO122; clear HO125; clear HO128; clear BK114; clear HB; have HO122 := n0_; have HO125 := n1_; have HO128 := n2_; have HO131 := n3_; have BK114 := n4_; have HB := n5_; clear n0_ n1_ n2_ n3_ n4_ n5_; (try clear hb); (try clear hb2); (try clear hk); (try clear hi); (try clear ho0); obtain ⟨Ao41, co41, eo41⟩ := Kd.R_slice HO131.out; subst eo41) | ((with_reducible refine gate_builtin (b := .append) (xs := #[.tmp 44, .tmp 62]) rfl ?_); at_builtin; refine Fz.app_run (w0 := w) w.heap.size rfl (.tmp 44) (.tmp 62) 24 5 rfl Try.underlying24 info5 gA ([83, 72] : List Int) t129 (2, 3) _ _ _ rfl rfl (by (with_reducible repeat (first | refine blk_drewN ?_ _ | refine blk_drew ?_ | refine blk_alloc ?_ _)); exact HO122.out) ?aR (pack_Must.pos A20.out) ?aB ?aS ?aL ?_; (case aR => repeat (first | exact (Kd.R_reads' HO131.out).2.2 | (with_reducible refine Kd.C_alloc ?_ _) | (with_reducible refine Kd.C_drewN ?_ _) | (with_reducible refine Kd.C_drew ?_))); (case aB => exact (by repeat (first | (with_reducible first | exact HB.out | apply below_alloc | apply pw_below_drewN | apply below_drew1 | refine below_set ?_ GE114.out) | exact HB.out))); (case aS => exact (below_size (by repeat (first | (with_reducible first | exact HB.out | apply below_alloc | apply pw_below_drewN | apply below_drew1 | refine below_set ?_ GE114.out) | exact HB.out)))); (case aL => (have h1_ := LMc21.out; rw [Ny120.out] at h1_; exact Nat.le_of_lt h1_)); intro v133 w40 ho hb hbw; rw [← Ny120.out, ← Ny132.out] at ho; have n0_ := Aside0.mk (blk_below (g := gb114) (o := .cells #[.int .i64 a0_0, .int .i64 a0_1, .int .i64 a0_2, .int .i64 a0_3, .int .i64 a0_4, .string a0_5] 23 (0, 0)) (by (with_reducible repeat (first | refine blk_drewN ?_ _ | refine blk_drew ?_ | refine blk_alloc ?_ _)); exact BK114.out) hbw); have n1_ := Aside0.mk (Kd.R_below (by (with_reducible repeat (first | apply Kd.R_alloc | apply Kd.R_drewN | apply Kd.R_drew)); exact HO125.out) hbw); have n2_ := Aside0.mk (Kd.R_below (by (with_reducible repeat (first | apply Kd.R_alloc | apply Kd.R_drewN | apply Kd.R_drew)); exact HO128.out) hbw); have n3_ := Aside0.mk (Kd.R_below (by (with_reducible repeat (first | apply Kd.R_alloc | apply Kd.R_drewN | apply Kd.R_drew)); exact HO131.out) hbw); have n4_ := Aside0.mk (hb); have n5_ := Aside0.mk (ho); clear BK114; clear HO125; clear HO128; clear HO131; clear HB; clear HO122; have BK114 := n0_; have HO125 := n1_; have HO128 := n2_; have HO131 := n3_; have HB := n4_; have HO134 := n5_; clear n0_ n1_ n2_ n3_ n4_ n5_; clear ho hb hbw; have hcz42_0 : w40.cell? ⟨gb114, 0, none⟩ = some (.int .i64 a0_0) := (blk_cell BK114.out 0).trans rfl; have hcz42_1 : w40.cell? ⟨gb114, 1, none⟩ = some (.int .i64 a0_1) := (blk_cell BK114.out 1).trans rfl; have hcz42_2 : w40.cell? ⟨gb114, 2, none⟩ = some (.int .i64 a0_2) := (blk_cell BK114.out 2).trans rfl; have hcz42_3 : w40.cell? ⟨gb114, 3, none⟩ = some (.int .i64 a0_3) := (blk_cell BK114.out 3).trans rfl; have hcz42_4 : w40.cell? ⟨gb114, 4, none⟩ = some (.int .i64 a0_4) := (blk_cell BK114.out 4).trans rfl; have hcz42_5 : w40.cell? ⟨gb114, 5, none⟩ = some (.string a0_5) := (blk_cell BK114.out 5).trans rfl; have hfz42_0 := blk_frozen BK114.out 0; have hfz42_1 := blk_frozen BK114.out 1; have hfz42_2 := blk_frozen BK114.out 2; have hfz42_3 := blk_frozen BK114.out 3; have hfz42_4 := blk_frozen BK114.out 4; have hfz42_5 := blk_frozen BK114.out 5) | (at_builtin; refine print_append_str (w0 := w) w.heap.size rfl (.tmp 64) _ 24 9 5 rfl Try.underlying24 Try.underlying9 info5 v133 y132 a0_5 rfl rfl ?aO ?aB ?aS ?aL ?_; (case aB => exact (by repeat (first | (with_reducible first | exact HB.out | apply below_alloc | apply pw_below_drewN | apply below_drew1 | refine below_set ?_ GE114.out) | exact HB.out))); (case aO => exact (Kd.own_of_R (by (with_reducible repeat (first | apply Kd.R_alloc | apply Kd.R_drewN | apply Kd.R_drew)); exact Kd.R_mono HO134.out (fun _ hk => trivial)))); (case aS => exact (below_size (by repeat (first | (with_reducible first | exact HB.out | apply below_alloc | apply pw_below_drewN | apply below_drew1 | refine below_set ?_ GE114.out) | exact HB.out)))); (case aL => have := LMc22.out; omega); intro v136 w43 ho0 hb hg; have ho := Kd.R_of_own (h1 := fun _ => rfl) (ok := fun _ => True) ho0 (fun _ _ => trivial); clear ho0; have hat := True.intro; rw [← Ny135.out] at ho; change Kd.R (Kd.int .u8) 5 w43 w.heap.size (fun _ => True) v136 y135 at ho; have n0_ := Aside0.mk (blk_grown (g := gb114) (o := .cells #[.int .i64 a0_0, .int .i64 a0_1, .int .i64 a0_2, .int .i64 a0_3, .int .i64 a0_4, .string a0_5] 23 (0, 0)) (by (with_reducible repeat (first | refine blk_drewN ?_ _ | refine blk_drew ?_ | refine blk_alloc ?_ _)); exact BK114.out) hg (Kd.R_ne HO134.out BK114.out (by decide))); have n1_ := Aside0.mk (Kd.R_over' (by (with_reducible repeat (first | apply Kd.R_alloc | apply Kd.R_drewN | apply Kd.R_drew)); exact HO125.out) (Kd.R_typed (by (with_reducible repeat (first | apply Kd.R_alloc | apply Kd.R_drewN | apply Kd.R_drew)); exact HO134.out)) (by decide) hg); have n2_ := Aside0.mk (Kd.R_over' (by (with_reducible repeat (first | apply Kd.R_alloc | apply Kd.R_drewN | apply Kd.R_drew)); exact HO128.out) (Kd.R_typed (by (with_reducible repeat (first | apply Kd.R_alloc | apply Kd.R_drewN | apply Kd.R_drew)); exact HO134.out)) (by decide) hg); have n3_ := Aside0.mk (hb); have n4_ := Aside0.mk (ho); clear BK114; clear HO125; clear HO128; clear HB; clear HO134; have BK114 := n0_; have HO125 := n1_; have HO128 := n2_; have HB := n3_; have HO137 := n4_; clear n0_ n1_ n2_ n3_ n4_; clear ho hb hg hat; obtain ⟨Ao44, co44, eo44⟩ := Kd.R_slice HO137.out; subst eo44) | (at_builtin; refine Kd.R_append_zeros (Kd.int .u8) (w0 := w) w.heap.size rfl (.tmp 68) (.tmp 71) 24 3 5 (.int .u8 0) 1 rfl Try.underlying24 Try.underlying3 info5 rfl (by decide) (by omega) (.slice Ao44 y135.length co44) y135 0 (ji23 : Int) (fun _ => True) rfl rfl rfl ?aF ?aO (of_decide_eq_true (by first | (with_reducible assumption) | assumption)) ?aB ?aS ?aL ?_; (case aB => exact (by repeat (first | (with_reducible first | exact HB.out | apply below_alloc | apply pw_below_drewN | apply below_drew1 | refine below_set ?_ GE114.out) | exact HB.out))); (case aF => exact (fun _ _ => trivial)); (case aO => exact (by (with_reducible repeat (first | apply Kd.R_alloc | apply Kd.R_drewN | apply Kd.R_drew)); exact HO137.out)); (case aS => exact (below_size (by repeat (first | (with_reducible first | exact HB.out | apply below_alloc | apply pw_below_drewN | apply below_drew1 | refine below_set ?_ GE114.out) | exact HB.out)))); (case aL => have := LMc25.out; omega); intro v139 w45 ho hb hg hat; rw [← Ny138.out] at ho; have n0_ := Aside0.mk (blk_grown (g := gb114) (o := .cells #[.int .i64 a0_0, .int .i64 a0_1, .int .i64 a0_2, .int .i64 a0_3, .int .i64 a0_4, .string a0_5] 23 (0, 0)) (by (with_reducible repeat (first | refine blk_drewN ?_ _ | refine blk_drew ?_ | refine blk_alloc ?_ _)); exact BK114.out) hg (Kd.R_ne HO137.out BK114.out (by decide))); have n1_ := Aside0.mk (Kd.R_over' (by (with_reducible repeat (first | apply Kd.R_alloc | apply Kd.R_drewN | apply Kd.R_drew)); exact HO125.out) (Kd.R_typed (by (with_reducible repeat (first | apply Kd.R_alloc | apply Kd.R_drewN | apply Kd.R_drew)); exact HO137.out)) (by decide) hg); have n2_ := Aside0.mk (Kd.R_over' (by (with_reducible repeat (first | apply Kd.R_alloc | apply Kd.R_drewN | apply Kd.R_drew)); exact HO128.out) (Kd.R_typed (by (with_reducible repeat (first | apply Kd.R_alloc | apply Kd.R_drewN | apply Kd.R_drew)); exact HO137.out)) (by decide) hg); have n3_ := Aside0.mk (hb); have n4_ := Aside0.mk (ho); clear BK114; clear HO125; clear HO128; clear HB; clear HO137; have BK114 := n0_; have HO125 := n1_; have HO128 := n2_; have HB := n3_; have HO140 := n4_; clear n0_ n1_ n2_ n3_ n4_; clear ho hb hg hat; obtain ⟨Ao46, co46, eo46⟩ := Kd.R_slice HO140.out; subst eo46) | ((with_reducible refine gate_callee (f := 24) rfl ?_); refine goesL_ (some 75) rfl rfl Try.func24 (by kernel_rfl) rfl #[.slice Ao46 y138.length co46] rfl (by (try simp only [List.map_toArray, List.map_cons, List.map_nil]); first | done | rfl | (simp only [List.length_drop, List.length_take]; rfl)) ?_; (with_reducible refine (crc_Sum.calls _ _ y138 t141 _ ?side1 ?side2 A26.out).mono ?_); (case side1 => repeat (first | exact (Kd.R_reads' HO140.out).2.2 | (with_reducible refine Kd.C_alloc ?_ _) | (with_reducible refine Kd.C_drewN ?_ _) | (with_reducible refine Kd.C_drew ?_))); (case side2 => exact (Kd.R_reads' HO140.out).2.1); rintro e w47 ⟨rfl, hb⟩; refine ⟨_, rfl, ?_⟩; have n0_ := Aside0.mk (Kd.R_below (by (with_reducible repeat (first | apply Kd.R_alloc | apply Kd.R_drewN | apply Kd.R_drew)); exact HO125.out) hb); have n1_ := Aside0.mk (Kd.R_below (by (with_reducible repeat (first | apply Kd.R_alloc | apply Kd.R_drewN | apply Kd.R_drew)); exact HO128.out) hb); have n2_ := Aside0.mk (Kd.R_below (by (with_reducible repeat (first | apply Kd.R_alloc | apply Kd.R_drewN | apply Kd.R_drew)); exact HO140.out) hb); have n3_ := Aside0.mk (blk_below (g := gb114) (o := .cells #[.int .i64 a0_0, .int .i64 a0_1, .int .i64 a0_2, .int .i64 a0_3, .int .i64 a0_4, .string a0_5] 23 (0, 0)) (by (with_reducible repeat (first | refine blk_drewN ?_ _ | refine blk_drew ?_ | refine blk_alloc ?_ _)); exact BK114.out) hb); have n4_ := Aside0.mk (below_step (by repeat (first | (with_reducible first | exact HB.out | apply below_alloc | apply pw_below_drewN | apply below_drew1 | refine below_set ?_ GE114.out) | exact HB.out)) hb); clear HO125; clear HO128; clear HO140; clear BK114; clear HB; have HO125 := n0_; have HO128 := n1_; have HO140 := n2_; have BK114 := n3_; have HB := n4_; clear n0_ n1_ n2_ n3_ n4_; (try clear hb); (try clear hb2); (try clear hk); (try clear hi)) | ((with_reducible refine gate_dst (N := 77) rfl ?_); refine Kd.R_lit (Kd.int .u64) _ 54 ?hg (N := 77) ?hd (xs := ([IntKind.u64.wrap (t141)] : List Int)) (inner := [.int .u64 (IntKind.u64.wrap (t141))]) (ok := fun _ => True) (okp := fun _ => True) ?hr ?hp (fun _ hk => hk) trivial (Below.refl _ _) (Nat.le_refl _) (by simp) ?_; (case hd => rfl); (case hg => rfl); (case hr => first | (go_simp; done) | (go_simp; rfl)); (case hp => exact (Reps.one (show Kd.M (Kd.int .u64) _ _ _ (IntKind.u64.wrap (t141)) [.int .u64 (IntKind.u64.wrap (t141))] from rfl) (Reps.none _ _))); intro v143 w48 ho49 hb hg_ hnew_; clear hg_ hnew_; (first | rw [← Ny142.out] at ho49 | (simp only [Int.reduceToNat] at ho49; rw [← Ny142.out] at ho49)); have n0_ := Aside0.mk (Kd.R_elder' (by (with_reducible repeat (first | apply Kd.R_alloc | apply Kd.R_drewN | apply Kd.R_drew)); exact HO125.out) (Kd.R_base ho49) hb); have n1_ := Aside0.mk (Kd.R_below (by (with_reducible repeat (first | apply Kd.R_alloc | apply Kd.R_drewN | apply Kd.R_drew)); exact HO128.out) hb); have n2_ := Aside0.mk (Kd.R_below (by (with_reducible repeat (first | apply Kd.R_alloc | apply Kd.R_drewN | apply Kd.R_drew)); exact HO140.out) hb); have n3_ := Aside0.mk (Kd.R_lower (Kd.R_new' ho49 (Kd.R_lt (by (with_reducible repeat (first | apply Kd.R_alloc | apply Kd.R_drewN | apply Kd.R_drew)); exact HO125.out))) (below_size (by repeat (first | (with_reducible first | exact HB.out | apply below_alloc | apply pw_below_drewN | apply below_drew1 | refine below_set ?_ GE114.out) | exact HB.out)))); have n4_ := Aside0.mk (blk_below (g := gb114) (o := .cells #[.int .i64 a0_0, .int .i64 a0_1, .int .i64 a0_2, .int .i64 a0_3, .int .i64 a0_4, .string a0_5] 23 (0, 0)) (by (with_reducible repeat (first | refine blk_drewN ?_ _ | refine blk_drew ?_ | refine blk_alloc ?_ _)); exact BK114.out) hb); have n5_ := Aside0.mk (below_step (by repeat (first | (with_reducible first | exact HB.out | apply below_alloc | apply pw_below_drewN | apply below_drew1 | refine below_set ?_ GE114.out) | exact HB.out)) hb); clear HO125; clear HO128; clear HO140; clear BK114; clear HB; have HO125 := n0_; have HO128 := n1_; have HO140 := n2_; have HO144 := n3_; have BK114 := n4_; have HB := n5_; clear n0_ n1_ n2_ n3_ n4_ n5_; clear hb ho49) | ((with_reducible refine gate_dst (N := 78) rfl ?_); refine Kd.R_lit (Kd.int .i64) _ 3 ?hg (N := 78) ?hd (xs := ([4] : List Int)) (inner := [.int .i64 4]) (ok := fun _ => True) (okp := fun _ => True) ?hr ?hp (fun _ hk => hk) trivial (Below.refl _ _) (Nat.le_refl _) (by simp) ?_; (case hd => rfl); (case hg => rfl); (case hr => first | (go_simp; done) | (go_simp; rfl)); (case hp => exact (Reps.one (show Kd.M (Kd.int .i64) _ _ _ 4 [.int .i64 4] from rfl) (Reps.none _ _))); intro v146 w50 ho51 hb hg_ hnew_; clear hg_ hnew_; (first | rw [← Ny145.out] at ho51 | (simp only [Int.reduceToNat] at ho51; rw [← Ny145.out] at ho51)); have n0_ := Aside0.mk (Kd.R_below (by (with_reducible repeat (first | apply Kd.R_alloc | apply Kd.R_drewN | apply Kd.R_drew)); exact HO125.out) hb); have n1_ := Aside0.mk (Kd.R_elder' (by (with_reducible repeat (first | apply Kd.R_alloc | apply Kd.R_drewN | apply Kd.R_drew)); exact HO128.out) (Kd.R_base ho51) hb); have n2_ := Aside0.mk (Kd.R_below (by (with_reducible repeat (first | apply Kd.R_alloc | apply Kd.R_drewN | apply Kd.R_drew)); exact HO140.out) hb); have n3_ := Aside0.mk (Kd.R_below (by (with_reducible repeat (first | apply Kd.R_alloc | apply Kd.R_drewN | apply Kd.R_drew)); exact HO144.out) hb); have n4_ := Aside0.mk (Kd.R_lower (Kd.R_new' ho51 (Kd.R_lt (by (with_reducible repeat (first | apply Kd.R_alloc | apply Kd.R_drewN | apply Kd.R_drew)); exact HO128.out))) (below_size (by repeat (first | (with_reducible first | exact HB.out | apply below_alloc | apply pw_below_drewN | apply below_drew1 | refine below_set ?_ GE114.out) | exact HB.out)))); have n5_ := Aside0.mk (blk_below (g := gb114) (o := .cells #[.int .i64 a0_0, .int .i64 a0_1, .int .i64 a0_2, .int .i64 a0_3, .int .i64 a0_4, .string a0_5] 23 (0, 0)) (by (with_reducible repeat (first | refine blk_drewN ?_ _ | refine blk_drew ?_ | refine blk_alloc ?_ _)); exact BK114.out) hb); have n6_ := Aside0.mk (below_step (by repeat (first | (with_reducible first | exact HB.out | apply below_alloc | apply pw_below_drewN | apply below_drew1 | refine below_set ?_ GE114.out) | exact HB.out)) hb); clear HO125; clear HO128; clear HO140; clear HO144; clear BK114; clear HB; have HO125 := n0_; have HO128 := n1_; have HO140 := n2_; have HO144 := n3_; have HO147 := n4_; have BK114 := n5_; have HB := n6_; clear n0_ n1_ n2_ n3_ n4_ n5_ n6_; clear hb ho51; obtain ⟨Ao52, co52, eo52⟩ := Kd.R_slice HO144.out; subst eo52; obtain ⟨Ao53, co53, eo53⟩ := Kd.R_slice HO147.out; subst eo53) | ((with_reducible refine gate_callee (f := 23) rfl ?_); refine goesL_ (some 79) rfl rfl Try.func23 (by kernel_rfl) rfl #[.slice Ao52 y142.length co52, .slice Ao53 y145.length co53] rfl (by (try simp only [List.map_toArray, List.map_cons, List.map_nil]); first | done | rfl | (simp only [List.length_drop, List.length_take]; rfl)) ?_; (with_reducible refine (pack_Must.calls kj1 _ _ y142 _ _ y145 t148 _ ?side1 ?side2 ?side3 ?side4 A27.out).mono ?_); (case side1 => repeat (first | exact (Kd.R_reads' HO144.out).2.2 | (with_reducible refine Kd.C_alloc ?_ _) | (with_reducible refine Kd.C_drewN ?_ _) | (with_reducible refine Kd.C_drew ?_))); (case side2 => exact (Kd.R_reads' HO144.out).2.1); (case side3 => repeat (first | exact (Kd.R_reads' HO147.out).2.2 | (with_reducible refine Kd.C_alloc ?_ _) | (with_reducible refine Kd.C_drewN ?_ _) | (with_reducible refine Kd.C_drew ?_))); (case side4 => exact (Kd.R_reads' HO147.out).2.1); rintro e w54 ⟨v149, rfl, ho0, hb⟩; refine ⟨_, rfl, ?_⟩; have n0_ := Aside0.mk (Kd.R_below (by (with_reducible repeat (first | apply Kd.R_alloc | apply Kd.R_drewN | apply Kd.R_drew)); exact HO125.out) hb); have n1_ := Aside0.mk (Kd.R_below (by (with_reducible repeat (first | apply Kd.R_alloc | apply Kd.R_drewN | apply Kd.R_drew)); exact HO128.out) hb); have n2_ := Aside0.mk (Kd.R_elder' (by (with_reducible repeat (first | apply Kd.R_alloc | apply Kd.R_drewN | apply Kd.R_drew)); exact HO140.out) (Kd.R_base ho0) hb); have n3_ := Aside0.mk (Kd.R_below (by (with_reducible repeat (first | apply Kd.R_alloc | apply Kd.R_drewN | apply Kd.R_drew)); exact HO144.out) hb); have n4_ := Aside0.mk (Kd.R_below (by (with_reducible repeat (first | apply Kd.R_alloc | apply Kd.R_drewN | apply Kd.R_drew)); exact HO147.out) hb); have n5_ := Aside0.mk (Kd.R_lower (Kd.R_new' ho0 (Kd.R_lt (by (with_reducible repeat (first | apply Kd.R_alloc | apply Kd.R_drewN | apply Kd.R_drew)); exact HO140.out))) (below_size (by repeat (first | (with_reducible first | exact HB.out | apply below_alloc | apply pw_below_drewN | apply below_drew1 | refine below_set ?_ GE114.out) | exact HB.out)))); have n6_ := Aside0.mk (blk_below (g := gb114) (o := .cells #[.int .i64 a0_0, .int .i64 a0_1, .int .i64 a0_2, .int .i64 a0_3, .int .i64 a0_4, .string a0_5] 23 (0, 0)) (by (with_reducible repeat (first | refine blk_drewN ?_ _ | refine blk_drew ?_ | refine blk_alloc ?_ _)); exact BK114.out) hb); have n7_ := Aside0.mk (below_step (by repeat (first | (with_reducible first | exact HB.out | apply below_alloc | apply pw_below_drewN | apply below_drew1 | refine below_set ?_ GE114.out) | exact HB.out)) hb); clear HO125; clear HO128; clear HO140; clear HO144; clear HO147; clear BK114; clear HB; have HO125 := n0_; have HO128 := n1_; have HO140 := n2_; have HO144 := n3_; have HO147 := n4_; have HO150 := n5_; have BK114 := n6_; have HB := n7_; clear n0_ n1_ n2_ n3_ n4_ n5_ n6_ n7_; (try clear hb); (try clear hb2); (try clear hk); (try clear hi); (try clear ho0); obtain ⟨Ao56, co56, eo56⟩ := Kd.R_slice HO150.out; subst eo56) | ((with_reducible refine gate_builtin (b := .append) (xs := #[.tmp 73, .tmp 79]) rfl ?_); at_builtin; refine Kd.R_append_rows (Kd.int .u8) (w0 := w) w.heap.size rfl (.tmp 73) (.tmp 79) 24 5 (.int .u8 0) 1 rfl Try.underlying24 info5 rfl (by decide) (by omega) (.slice Ao46 y138.length co46) y138 t148 _ _ _ (fun k_ => some k_ ≠ (.slice Ao56 t148.length co56 : Value).ownBlock) (fun _ => False) rfl rfl ?aO ?aR (fun _ _ h => h) (fun _ h => h.elim) ?aF ?aB ?aS ?aL ?_; (case aR => repeat (first | exact (Kd.R_reads' HO150.out).2.2 | (with_reducible refine Kd.C_alloc ?_ _) | (with_reducible refine Kd.C_drewN ?_ _) | (with_reducible refine Kd.C_drew ?_))); (case aB => exact (by repeat (first | (with_reducible first | exact HB.out | apply below_alloc | apply pw_below_drewN | apply below_drew1 | refine below_set ?_ GE114.out) | exact HB.out))); (case aF => exact (fun k_ hk => Kd.fresh' (Kd.R_lt (by (with_reducible repeat (first | apply Kd.R_alloc | apply Kd.R_drewN | apply Kd.R_drew)); exact HO150.out)) k_ hk)); (case aO => exact (by (with_reducible repeat (first | apply Kd.R_alloc | apply Kd.R_drewN | apply Kd.R_drew)); exact Kd.R_mono HO140.out (fun _ hk => hk.2))); (case aS => exact (below_size (by repeat (first | (with_reducible first | exact HB.out | apply below_alloc | apply pw_below_drewN | apply below_drew1 | refine below_set ?_ GE114.out) | exact HB.out)))); (case aL => have := LMc28.out; omega); intro v152 w55 ho hb hg hat; rw [← Ny151.out] at ho; have n0_ := Aside0.mk (blk_grown (g := gb114) (o := .cells #[.int .i64 a0_0, .int .i64 a0_1, .int .i64 a0_2, .int .i64 a0_3, .int .i64 a0_4, .string a0_5] 23 (0, 0)) (by (with_reducible repeat (first | refine blk_drewN ?_ _ | refine blk_drew ?_ | refine blk_alloc ?_ _)); exact BK114.out) hg (Kd.R_ne HO140.out BK114.out (by decide))); have n1_ := Aside0.mk (Kd.R_over' (by (with_reducible repeat (first | apply Kd.R_alloc | apply Kd.R_drewN | apply Kd.R_drew)); exact HO125.out) (Kd.R_typed (by (with_reducible repeat (first | apply Kd.R_alloc | apply Kd.R_drewN | apply Kd.R_drew)); exact HO140.out)) (by decide) hg); have n2_ := Aside0.mk (Kd.R_over' (by (with_reducible repeat (first | apply Kd.R_alloc | apply Kd.R_drewN | apply Kd.R_drew)); exact HO128.out) (Kd.R_typed (by (with_reducible repeat (first | apply Kd.R_alloc | apply Kd.R_drewN | apply Kd.R_drew)); exact HO140.out)) (by decide) hg); have n3_ := Aside0.mk (Kd.R_over' (by (with_reducible repeat (first | apply Kd.R_alloc | apply Kd.R_drewN | apply Kd.R_drew)); exact HO144.out) (Kd.R_typed (by (with_reducible repeat (first | apply Kd.R_alloc | apply Kd.R_drewN | apply Kd.R_drew)); exact HO140.out)) (by decide) hg); have n4_ := Aside0.mk (Kd.R_over' (by (with_reducible repeat (first | apply Kd.R_alloc | apply Kd.R_drewN | apply Kd.R_drew)); exact HO147.out) (Kd.R_typed (by (with_reducible repeat (first | apply Kd.R_alloc | apply Kd.R_drewN | apply Kd.R_drew)); exact HO140.out)) (by decide) hg); have n5_ := Aside0.mk (Kd.R_after (ok := (fun _ => True)) (by (with_reducible repeat (first | apply Kd.R_alloc | apply Kd.R_drewN | apply Kd.R_drew)); exact HO150.out) hg hat); have n6_ := Aside0.mk (hb); have n7_ := Aside0.mk (ho); clear BK114; clear HO125; clear HO128; clear HO144; clear HO147; clear HO150; clear HB; clear HO140; have BK114 := n0_; have HO125 := n1_; have HO128 := n2_; have HO144 := n3_; have HO147 := n4_; have HO150 := n5_; have HB := n6_; have HO153 := n7_; clear n0_ n1_ n2_ n3_ n4_ n5_ n6_ n7_; clear ho hb hg hat))
                    go_ret2
                    exact ⟨_, by first | rfl | (simp [errW_none, errW_some] <;> rfl) | (simp only [← hji23]; first | rfl | (simp [errW_none, errW_some] <;> rfl)) | (simp [*, errW_none, errW_some] <;> rfl), by (with_reducible repeat (first | apply Kd.R_alloc | apply Kd.R_drewN | apply Kd.R_drew)); exact Kd.R_mono HO153.out (fun _ hk => trivial), by repeat (first | (with_reducible first | exact HB.out | apply below_alloc | apply pw_below_drewN | apply below_drew1 | refine below_set ?_ GE114.out) | exact HB.out)⟩
                  · rw [if_neg c28] at H
                    exact absurd H (by simp)
                · rw [if_neg c25] at H
                  exact absurd H (by simp)
              · rw [if_neg c24] at H
                exact absurd H (by simp)
            · rw [if_neg c22] at H
              exact absurd H (by simp)
          · rw [if_neg c21] at H
            exact absurd H (by simp)
        · rw [if_neg c19] at H
          have c19b0 : ((a0_5.size : Int) == 16) = false := beq_eq_false_iff_ne.mpr c19
          have c19b1 : ((a0_5.size : Int) != 16) = true := bne_iff_ne.mpr c19
          simp only [Option.some.injEq, Prod.mk.injEq] at H
          obtain ⟨rfl, rfl⟩ := H
          have hcz57_0 : wc.cell? ⟨gb114, 0, none⟩ = some (.int .i64 a0_0) := (blk_cell BK114.out 0).trans rfl
          have hcz57_1 : wc.cell? ⟨gb114, 1, none⟩ = some (.int .i64 a0_1) := (blk_cell BK114.out 1).trans rfl
          have hcz57_2 : wc.cell? ⟨gb114, 2, none⟩ = some (.int .i64 a0_2) := (blk_cell BK114.out 2).trans rfl
          have hcz57_3 : wc.cell? ⟨gb114, 3, none⟩ = some (.int .i64 a0_3) := (blk_cell BK114.out 3).trans rfl
          have hcz57_4 : wc.cell? ⟨gb114, 4, none⟩ = some (.int .i64 a0_4) := (blk_cell BK114.out 4).trans rfl
          have hcz57_5 : wc.cell? ⟨gb114, 5, none⟩ = some (.string a0_5) := (blk_cell BK114.out 5).trans rfl
          have hfz57_0 := blk_frozen BK114.out 0
          have hfz57_1 := blk_frozen BK114.out 1
          have hfz57_2 := blk_frozen BK114.out 2
          have hfz57_3 := blk_frozen BK114.out 3
          have hfz57_4 := blk_frozen BK114.out 4
          have hfz57_5 := blk_frozen BK114.out 5
          go_wp2
          go_ret2
          exact ⟨_, by first | rfl | (simp [errW_none, errW_some] <;> rfl) | (simp [*, errW_none, errW_some] <;> rfl), by first | exact Kd.R_nil _ _ _ _ _ | exact Kd.N_nil _ _ _ _ _ | exact Kd.V_nil _ _ _ _ _ | exact Kd.Q_nil _ _ _ _ _ | exact Kd.S_nil _ _ _ _ _, by repeat (first | (with_reducible first | exact HB.out | apply below_alloc | apply pw_below_drewN | apply below_drew1 | refine below_set ?_ GE114.out) | exact HB.out)⟩

/-! ### stowageref02_More: function 37 -/
mutual
def stowageref02_More.l0 : Nat → List Int → Int → Int → Option (Int)
  | 0, _, _, _ => none
  | k + 1, x1, x5, x6 => if x6 < (x1.length : Int) then (if 0 ≤ x6 then (stowageref02_More.l1 k x1 (Go.bits .xor .u32 x5 ((rd x1 x6) % 4294967296)) x6 0) else (none)) else (some (Go.bits .xor .u32 IntKind.u32.max x5))
def stowageref02_More.l1 : Nat → List Int → Int → Int → Int → Option (Int)
  | 0, _, _, _, _ => none
  | k + 1, x1, x5, x6, x7 => if x7 < 8 then (if (Int.tmod x5 2) = 1 then (stowageref02_More.l1 k x1 (Go.bits .xor .u32 ((Int.tdiv x5 2) % 4294967296) 3988292384) x6 (wrap64 (x7 + 1))) else (stowageref02_More.l1 k x1 ((Int.tdiv x5 2) % 4294967296) x6 (wrap64 (x7 + 1)))) else (stowageref02_More.l0 k x1 x5 (wrap64 (x6 + 1)))
end
def stowageref02_More.f (k : Nat) (a0 : Int) (l1 : List Int) : Option (Int) := stowageref02_More.l0 k l1 (Go.bits .xor .u32 IntKind.u32.max a0) 0
theorem stowageref02_More.mono_l : ∀ k, (∀ y0 y1 y2, LeO (stowageref02_More.l0 k y0 y1 y2) (stowageref02_More.l0 (k + 1) y0 y1 y2)) ∧ (∀ y0 y1 y2 y3, LeO (stowageref02_More.l1 k y0 y1 y2 y3) (stowageref02_More.l1 (k + 1) y0 y1 y2 y3))
  | 0 => ⟨fun _ _ _ r h => by simp [stowageref02_More.l0] at h, fun _ _ _ _ r h => by simp [stowageref02_More.l1] at h⟩
  | k + 1 => by
    obtain ⟨ih0, ih1⟩ := stowageref02_More.mono_l k
    refine ⟨?_, ?_⟩
    · intro y0 y1 y2
      unfold stowageref02_More.l0
      repeat' first
      | (with_reducible exact ih0 _ _ _)
      | (with_reducible exact ih1 _ _ _ _)
      | (with_reducible exact LeO.refl _)
      | (with_reducible exact LeO.none _)
      | (with_reducible refine LeO.ite ?_ ?_)
      | (with_reducible refine LeO.bind ?_ (fun _ => ?_))
      | exact ih0 _ _ _
      | exact ih1 _ _ _ _
      | exact LeO.none _
      | refine LeO.ite ?_ ?_
      | refine LeO.bind ?_ (fun _ => ?_)
    · intro y0 y1 y2 y3
      unfold stowageref02_More.l1
      repeat' first
      | (with_reducible exact ih0 _ _ _)
      | (with_reducible exact ih1 _ _ _ _)
      | (with_reducible exact LeO.refl _)
      | (with_reducible exact LeO.none _)
      | (with_reducible refine LeO.ite ?_ ?_)
      | (with_reducible refine LeO.bind ?_ (fun _ => ?_))
      | exact ih0 _ _ _
      | exact ih1 _ _ _ _
      | exact LeO.none _
      | refine LeO.ite ?_ ?_
      | refine LeO.bind ?_ (fun _ => ?_)
theorem stowageref02_More.mono : ∀ a0 a1 k, LeO (stowageref02_More.f k a0 a1) (stowageref02_More.f (k + 1) a0 a1) := by
  intro a0 a1 k
  obtain ⟨ih0, ih1⟩ := stowageref02_More.mono_l k
  unfold stowageref02_More.f
  repeat' first
      | (with_reducible exact ih0 _ _ _)
      | (with_reducible exact ih1 _ _ _ _)
      | (with_reducible exact LeO.refl _)
      | (with_reducible exact LeO.none _)
      | (with_reducible refine LeO.ite ?_ ?_)
      | (with_reducible refine LeO.bind ?_ (fun _ => ?_))
      | exact ih0 _ _ _
      | exact ih1 _ _ _ _
      | exact LeO.none _
      | refine LeO.ite ?_ ?_
      | refine LeO.bind ?_ (fun _ => ?_)
set_option maxHeartbeats 8000000 in
set_option maxRecDepth 100000 in
theorem stowageref02_More.calls (k : Nat) (a0 : Int) (A1 : Option Addr) (c1 : Nat) (l1 : List Int) (r : Int) (w : World) (hr1 : Kd.C (Kd.int .u8) w A1 l1.length l1) (hc1 : l1.length ≤ c1) (h : stowageref02_More.f k a0 l1 = some r) :
    Calls Try.prog 37 #[.int .u32 a0, .slice A1 l1.length c1] w fun e w' => e = .returned (.int .u32 r) ∧ Drawn0 w w' := by
  have HR1 := Aside0.mk hr1
  have HC1 := Aside0.mk hc1
  clear hr1 hc1
  have H : (stowageref02_More.l0 k l1 (Go.bits .xor .u32 IntKind.u32.max a0) 0) = some r := h
  clear h
  have H' := Aside0.mk H
  clear H
  go_enter Try.func37, Try.ntmps37
  go_wp2
  go_loopg [5, 6] k (fun kq v5 v6 w' => ∃ (x5_1 : Int) (x6_1 : Int), v5 = .int .u32 x5_1 ∧ v6 = .int .i64 x6_1 ∧ Aside0 (stowageref02_More.l0 kq l1 x5_1 x6_1 = some r) ∧ Aside0 (kq ≤ k) ∧ Drawn0 w w')
  case atStart => exact ⟨(Go.bits .xor .u32 IntKind.u32.max a0), (0), (by first | rfl | (simp; done) | (simp [*]; done)), (by first | rfl | (simp; done) | (simp [*]; done)), H', ⟨Nat.le_refl _⟩, by repeat (first | exact Drawn0.refl _ | apply Drawn0.step)⟩
  case round =>
    clear H'
    try clear c1
    try clear p2
    obtain ⟨x5_1, x6_1, rfl, rfl, HA, HK1, ⟨m1, rfl⟩⟩ := hrel
    cases gk with
    | zero => exact absurd HA.out (by simp [stowageref02_More.l0])
    | succ k1 =>
      have H := HA.out
      clear HA
      simp only [stowageref02_More.l0] at H
      by_cases c3 : x6_1 < (l1.length : Int)
      · rw [if_pos c3] at H
        have c3b0 : decide (x6_1 < (l1.length : Int)) = true := decide_eq_true c3
        clear c3
        by_cases c4 : 0 ≤ x6_1
        · rw [if_pos c4] at H
          have c4b0 : decide (0 ≤ x6_1) = true := decide_eq_true c4
          clear c4
          have H' := Aside0.mk H
          clear H
          have p154 : 0 ≤ (x6_1 : Int) := of_decide_eq_true (by first | (with_reducible assumption) | assumption)
          have q154 : x6_1 < (l1.length : Int) := of_decide_eq_true (by first | (with_reducible assumption) | assumption)
          obtain ⟨ad154, e154, hx154_0⟩ := Kd.at_int HR1.out x6_1 p154 q154
          cases e154
          replace p154 := eq_true p154
          replace q154 := eq_true q154
          go_wp2
          go_loopg [5, 7] k1 (fun kq v5 v7 w' => ∃ (x5_2 : Int) (x7_2 : Int), v5 = .int .u32 x5_2 ∧ v7 = .int .i64 x7_2 ∧ Aside0 (stowageref02_More.l1 kq l1 x5_2 x6_1 x7_2 = some r) ∧ Aside0 (kq ≤ k1) ∧ Drawn0 w w')
          case atStart => exact ⟨(Go.bits .xor .u32 x5_1 ((rd l1 x6_1) % 4294967296)), (0), (by first | rfl | (simp; done) | (simp [*]; done)), (by first | rfl | (simp; done) | (simp [*]; done)), H', ⟨Nat.le_refl _⟩, by repeat (first | exact Drawn0.refl _ | apply Drawn0.step)⟩
          case round =>
            clear H'
            try clear c1
            try clear p1
            try clear q1
            try clear hx1
            try clear p2
            try clear c3
            try clear c3b0
            try clear c4
            try clear c4b0
            try clear hx154_0
            try clear p154
            try clear p2
            try clear q154
            obtain ⟨x5_2, x7_2, rfl, rfl, HA, HK2, ⟨m2, rfl⟩⟩ := hrel
            cases gk with
            | zero => exact absurd HA.out (by simp [stowageref02_More.l1])
            | succ k2 =>
              have H := HA.out
              clear HA
              simp only [stowageref02_More.l1] at H
              by_cases c5 : x7_2 < 8
              · rw [if_pos c5] at H
                have c5b0 : decide (x7_2 < 8) = true := decide_eq_true c5
                clear c5
                by_cases c6 : (Int.tmod x5_2 2) = 1
                · rw [if_pos c6] at H
                  have c6b0 : ((Int.tmod x5_2 2) == 1) = true := beq_iff_eq.mpr c6
                  have c6b1 : ((Int.tmod x5_2 2) != 1) = false := bne_eq_false_iff_eq.mpr c6
                  clear c6
                  have H' := Aside0.mk H
                  clear H
                  go_wp2
                  go_roundg k2
                  case measure => have := HK1.out; have := HK2.out; omega
                  case rel => exact ⟨(Go.bits .xor .u32 ((Int.tdiv x5_2 2) % 4294967296) 3988292384), (wrap64 (x7_2 + 1)), (by first | rfl | (simp; done) | (simp [*]; done)), (by first | rfl | (simp; done) | (simp [*]; done)), H', ⟨by have := HK1.out; have := HK2.out; omega⟩, by repeat (first | exact Drawn0.refl _ | apply Drawn0.step)⟩
                · rw [if_neg c6] at H
                  have c6b0 : ((Int.tmod x5_2 2) == 1) = false := beq_eq_false_iff_ne.mpr c6
                  have c6b1 : ((Int.tmod x5_2 2) != 1) = true := bne_iff_ne.mpr c6
                  have H' := Aside0.mk H
                  clear H
                  go_wp2
                  go_roundg k2
                  case measure => have := HK1.out; have := HK2.out; omega
                  case rel => exact ⟨((Int.tdiv x5_2 2) % 4294967296), (wrap64 (x7_2 + 1)), (by first | rfl | (simp; done) | (simp [*]; done)), (by first | rfl | (simp; done) | (simp [*]; done)), H', ⟨by have := HK1.out; have := HK2.out; omega⟩, by repeat (first | exact Drawn0.refl _ | apply Drawn0.step)⟩
              · rw [if_neg c5] at H
                have c5b0 : decide (x7_2 < 8) = false := decide_eq_false c5
                clear c5
                have H' := Aside0.mk H
                clear H
                go_wp2
                go_roundg k2
                case measure => have := HK1.out; have := HK2.out; omega
                case rel => exact ⟨(x5_2), (wrap64 (x6_1 + 1)), (by first | rfl | (simp; done) | (simp [*]; done)), (by first | rfl | (simp; done) | (simp [*]; done)), H', ⟨by have := HK1.out; have := HK2.out; omega⟩, by repeat (first | exact Drawn0.refl _ | apply Drawn0.step)⟩
        · rw [if_neg c4] at H
          exact absurd H (by simp)
      · rw [if_neg c3] at H
        have c3b0 : decide (x6_1 < (l1.length : Int)) = false := decide_eq_false c3
        clear c3
        obtain rfl := Option.some.inj H
        go_wp2
        go_ret
        exact ⟨by first | rfl | (simp; done) | (simp [*]; done), by repeat (first | exact Drawn0.refl _ | apply Drawn0.step)⟩

/-! ### stowageref02_Sum: function 25 -/
def stowageref02_Sum.f (k : Nat) (l0 : List Int) : Option (Int) := (stowageref02_More.f k 0 l0).bind fun t155 => (some t155)
theorem stowageref02_Sum.mono : ∀ a0 k, LeO (stowageref02_Sum.f k a0) (stowageref02_Sum.f (k + 1) a0) := by
  intro a0 k
  unfold stowageref02_Sum.f
  repeat' first
      | (with_reducible exact stowageref02_More.mono _ _ _)
      | (with_reducible exact LeO.refl _)
      | (with_reducible exact LeO.none _)
      | (with_reducible refine LeO.ite ?_ ?_)
      | (with_reducible refine LeO.bind ?_ (fun _ => ?_))
      | exact stowageref02_More.mono _ _ _
      | exact LeO.none _
      | refine LeO.ite ?_ ?_
      | refine LeO.bind ?_ (fun _ => ?_)
set_option maxHeartbeats 8000000 in
set_option maxRecDepth 100000 in
theorem stowageref02_Sum.calls (k : Nat) (A0 : Option Addr) (c0 : Nat) (l0 : List Int) (r : Int) (w : World) (hr0 : Kd.C (Kd.int .u8) w A0 l0.length l0) (hc0 : l0.length ≤ c0) (h : stowageref02_Sum.f k l0 = some r) :
    Calls Try.prog 25 #[.slice A0 l0.length c0] w fun e w' => e = .returned (.int .u32 r) ∧ Drawn0 w w' := by
  have HR0 := Aside0.mk hr0
  have HC0 := Aside0.mk hc0
  clear hr0 hc0
  have H : ((stowageref02_More.f k 0 l0).bind fun t155 => (some t155)) = some r := h
  clear h
  replace H := Option.bind_eq_some_iff.mp H
  obtain ⟨t155, A20, H⟩ := H
  replace H : (some t155) = some r := H
  have A2 := Aside0.mk A20
  clear A20
  obtain rfl := Option.some.inj H
  go_enter Try.func25, Try.ntmps25
  go_wp2_with (first | ((with_reducible refine gate_callee (f := 37) rfl ?_); refine goesL_ (some 4) rfl rfl Try.func37 (by kernel_rfl) rfl #[.int .u32 0, .slice A0 l0.length c0] rfl (by (try simp only [List.map_toArray, List.map_cons, List.map_nil]); first | done | rfl | (simp only [List.length_drop, List.length_take]; rfl)) ?_; (with_reducible refine (stowageref02_More.calls k 0 _ _ l0 t155 _ ?side1 ?side2 A2.out).mono ?_); (case side1 => repeat (first | exact HR0.out | (with_reducible refine Kd.C_alloc ?_ _) | (with_reducible refine Kd.C_drewN ?_ _) | (with_reducible refine Kd.C_drew ?_))); (case side2 => exact HC0.out); rintro e w' ⟨rfl, ⟨nd, rfl⟩⟩; refine ⟨_, rfl, ?_⟩))
  go_ret
  exact ⟨by first | rfl | (simp; done) | (simp [*]; done), by repeat (first | exact Drawn0.refl _ | apply Drawn0.step)⟩

end Go.Proofs.Ytbidkiacgggpmaa.QHead
