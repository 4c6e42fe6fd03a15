/- Written by a program of this session (wip/tools/mk.py) out of the kit's printing programs and of texts of our own: the contracts of the Go functions that the law goes through, and the row of the law. No condition is added. -/
import Derived.Test.YtjfdjbmahahllaaQLinex0
import Derived.Test.YtjfdjbmahahllaaQLinex5
/- tight -/
namespace Go.Proofs.Ytjfdjbmahahllaa.QLine
open Go.RowKit Go.Proofs.YtjfdjbmahahllaaW.PrintWords Go.Proofs.YtjfdjbmahahllaaW.PrintLast Go.Proofs.YtjfdjbmahahllaaW.PrintMore
attribute [local go_sem] max2_int min2_int max_two min_two max_three min_three max_four min_four   -- for this text's walks alone
set_option linter.unusedVariables false
set_option linter.unusedSimpArgs false

attribute [local go_sem] min_seven
/-! ### stowageref15_Encode: function 11 -/
mutual
def stowageref15_Encode.j0 : Nat → Bool → Int → Int → Bool → Int → Int → Int → Int → Int → ByteArray → Int → Int → Int → Int → Int → ByteArray → Option (List Int × Int)
 | 0, _, _, _, _, _, _, _, _, _, _, _, _, _, _, _, _ => none
 | k + 1, x48, x159000, x159001, x159002, x159003, x159004, x159005, x159006, x159007, x159008, x160000, x160001, x160002, x160003, x160004, x160005 => if x48 = true then (some (([] : List Int), 7)) else (if (x160005.size : Int) = 0 then (stowageref15_Encode.j1 k false x159000 x159001 x159002 x159003 x159004 x159005 x159006 x159007 x159008 x160000 x160001 x160002 x160003 x160004 x160005) else (stowageref15_Encode.j1 k ((x160005.size : Int) != 16) x159000 x159001 x159002 x159003 x159004 x159005 x159006 x159007 x159008 x160000 x160001 x160002 x160003 x160004 x160005))
def stowageref15_Encode.j1 : Nat → Bool → Int → Int → Bool → Int → Int → Int → Int → Int → ByteArray → Int → Int → Int → Int → Int → ByteArray → Option (List Int × Int)
 | 0, _, _, _, _, _, _, _, _, _, _, _, _, _, _, _, _ => none
 | k + 1, x58, x159000, x159001, x159002, x159003, x159004, x159005, x159006, x159007, x159008, x160000, x160001, x160002, x160003, x160004, x160005 => if x58 = true then (some (([] : List Int), 1)) else (if x159002 = true then (stowageref15_Encode.j2 k 1 x159000 x159001 x159002 x159003 x159004 x159005 x159006 x159007 x159008 x160000 x160001 x160002 x160003 x160004 x160005) else (stowageref15_Encode.j2 k 0 x159000 x159001 x159002 x159003 x159004 x159005 x159006 x159007 x159008 x160000 x160001 x160002 x160003 x160004 x160005))
def stowageref15_Encode.j2 : Nat → Int → Int → Int → Bool → Int → Int → Int → Int → Int → ByteArray → Int → Int → Int → Int → Int → ByteArray → Option (List Int × Int)
 | 0, _, _, _, _, _, _, _, _, _, _, _, _, _, _, _, _ => none
 | k + 1, x5, x159000, x159001, x159002, x159003, x159004, x159005, x159006, x159007, x159008, x160000, x160001, x160002, x160003, x160004, x160005 => (stowageref15_put.f k (([83, 76] : List Int)) x159000 4).bind fun t170 => ((stowageref15_put.f k t170 x159001 4).bind fun t173 => ((stowageref15_put.f k t173 x5 1).bind fun t176 => ((stowageref15_put.f k t176 x160000 1).bind fun t179 => ((stowageref15_put.f k t179 x160001 7).bind fun t182 => ((stowageref15_put.f k t182 x160002 7).bind fun t185 => ((stowageref15_put.f k t185 x160003 7).bind fun t188 => ((stowageref15_put.f k t188 x160004 7).bind fun t191 => ((stowageref15_put.f k t191 (x160005.size : Int) 1).bind fun t194 => (if t194.length + x160005.size < 140737488355328 then (stowageref15_Encode.l0 k (t194 ++ bytesOf x160005)) else (none))))))))))
def stowageref15_Encode.l0 : Nat → List Int → Option (List Int × Int)
 | 0, _ => none
 | k + 1, x6 => if (x6.length : Int) < 60 then (if x6.length < 140737488355328 then (stowageref15_Encode.l0 k (x6 ++ [0])) else (none)) else ((stowageref02_Sum.f k x6).bind fun t203 => ((stowageref15_put.f k x6 (wrap64 (t203)) 4).bind fun t204 => (some (t204, 0))))
end
def stowageref15_Encode.f (k : Nat) (a0_0 : Int) (a0_1 : Int) (a0_2 : Bool) (a0_3 : Int) (a0_4 : Int) (a0_5 : Int) (a0_6 : Int) (a0_7 : Int) (a0_8 : ByteArray) : Option (List Int × Int) := (stowageref15_in.f a0_0 2147483647).bind fun t160 => (if t160 = true then ((stowageref15_in.f a0_1 2147483647).bind fun t161 => (if t161 = true then ((stowageref15_in.f a0_3 9).bind fun t162 => (if t162 = true then ((stowageref15_in.f a0_4 1099511627776).bind fun t163 => (if t163 = true then ((stowageref15_in.f a0_5 1099511627776).bind fun t164 => (if t164 = true then ((stowageref15_in.f a0_6 1099511627776).bind fun t165 => (if t165 = true then ((stowageref15_in.f a0_7 1099511627776).bind fun t166 => (stowageref15_Encode.j0 k (!t166) a0_0 a0_1 a0_2 a0_3 a0_4 a0_5 a0_6 a0_7 a0_8 a0_3 a0_4 a0_5 a0_6 a0_7 a0_8)) else (stowageref15_Encode.j0 k true a0_0 a0_1 a0_2 a0_3 a0_4 a0_5 a0_6 a0_7 a0_8 a0_3 a0_4 a0_5 a0_6 a0_7 a0_8))) else (stowageref15_Encode.j0 k true a0_0 a0_1 a0_2 a0_3 a0_4 a0_5 a0_6 a0_7 a0_8 a0_3 a0_4 a0_5 a0_6 a0_7 a0_8))) else (stowageref15_Encode.j0 k true a0_0 a0_1 a0_2 a0_3 a0_4 a0_5 a0_6 a0_7 a0_8 a0_3 a0_4 a0_5 a0_6 a0_7 a0_8))) else (stowageref15_Encode.j0 k true a0_0 a0_1 a0_2 a0_3 a0_4 a0_5 a0_6 a0_7 a0_8 a0_3 a0_4 a0_5 a0_6 a0_7 a0_8))) else (stowageref15_Encode.j0 k true a0_0 a0_1 a0_2 a0_3 a0_4 a0_5 a0_6 a0_7 a0_8 a0_3 a0_4 a0_5 a0_6 a0_7 a0_8))) else (stowageref15_Encode.j0 k true a0_0 a0_1 a0_2 a0_3 a0_4 a0_5 a0_6 a0_7 a0_8 a0_3 a0_4 a0_5 a0_6 a0_7 a0_8))
theorem stowageref15_Encode.mono_l : ∀ k, (∀ y0 y1 y2 y3 y4 y5 y6 y7 y8 y9 y10 y11 y12 y13 y14 y15, LeO (stowageref15_Encode.j0 k y0 y1 y2 y3 y4 y5 y6 y7 y8 y9 y10 y11 y12 y13 y14 y15) (stowageref15_Encode.j0 (k + 1) y0 y1 y2 y3 y4 y5 y6 y7 y8 y9 y10 y11 y12 y13 y14 y15)) ∧ (∀ y0 y1 y2 y3 y4 y5 y6 y7 y8 y9 y10 y11 y12 y13 y14 y15, LeO (stowageref15_Encode.j1 k y0 y1 y2 y3 y4 y5 y6 y7 y8 y9 y10 y11 y12 y13 y14 y15) (stowageref15_Encode.j1 (k + 1) y0 y1 y2 y3 y4 y5 y6 y7 y8 y9 y10 y11 y12 y13 y14 y15)) ∧ (∀ y0 y1 y2 y3 y4 y5 y6 y7 y8 y9 y10 y11 y12 y13 y14 y15, LeO (stowageref15_Encode.j2 k y0 y1 y2 y3 y4 y5 y6 y7 y8 y9 y10 y11 y12 y13 y14 y15) (stowageref15_Encode.j2 (k + 1) y0 y1 y2 y3 y4 y5 y6 y7 y8 y9 y10 y11 y12 y13 y14 y15)) ∧ (∀ y0, LeO (stowageref15_Encode.l0 k y0) (stowageref15_Encode.l0 (k + 1) y0))
 | 0 => ⟨fun _ _ _ _ _ _ _ _ _ _ _ _ _ _ _ _ r h => by simp [stowageref15_Encode.j0] at h, fun _ _ _ _ _ _ _ _ _ _ _ _ _ _ _ _ r h => by simp [stowageref15_Encode.j1] at h, fun _ _ _ _ _ _ _ _ _ _ _ _ _ _ _ _ r h => by simp [stowageref15_Encode.j2] at h, fun _ r h => by simp [stowageref15_Encode.l0] at h⟩
 | k + 1 => by
  obtain ⟨ih0, ih1, ih2, ih3⟩ := stowageref15_Encode.mono_l k
  refine ⟨?_, ?_, ?_, ?_⟩
  ·intro y0 y1 y2 y3 y4 y5 y6 y7 y8 y9 y10 y11 y12 y13 y14 y15
   unfold stowageref15_Encode.j0
   repeat' first
   | (with_reducible exact ih0 _ _ _ _ _ _ _ _ _ _ _ _ _ _ _ _)
   | (with_reducible exact ih1 _ _ _ _ _ _ _ _ _ _ _ _ _ _ _ _)
   | (with_reducible exact ih2 _ _ _ _ _ _ _ _ _ _ _ _ _ _ _ _)
   | (with_reducible exact ih3 _)
   | (with_reducible exact stowageref02_Sum.mono _ _)
   | (with_reducible exact stowageref15_put.mono _ _ _ _)
   | (with_reducible exact LeO.refl _)
   | (with_reducible exact LeO.none _)
   | (with_reducible refine LeO.ite ?_ ?_)
   | (with_reducible refine LeO.bind ?_ (fun _ => ?_))
   | exact ih0 _ _ _ _ _ _ _ _ _ _ _ _ _ _ _ _
   | exact ih1 _ _ _ _ _ _ _ _ _ _ _ _ _ _ _ _
   | exact ih2 _ _ _ _ _ _ _ _ _ _ _ _ _ _ _ _
   | exact ih3 _
   | exact stowageref02_Sum.mono _ _
   | exact stowageref15_put.mono _ _ _ _
   | exact LeO.none _
   | refine LeO.ite ?_ ?_
   | refine LeO.bind ?_ (fun _ => ?_)
  ·intro y0 y1 y2 y3 y4 y5 y6 y7 y8 y9 y10 y11 y12 y13 y14 y15
   unfold stowageref15_Encode.j1
   repeat' first
   | (with_reducible exact ih0 _ _ _ _ _ _ _ _ _ _ _ _ _ _ _ _)
   | (with_reducible exact ih1 _ _ _ _ _ _ _ _ _ _ _ _ _ _ _ _)
   | (with_reducible exact ih2 _ _ _ _ _ _ _ _ _ _ _ _ _ _ _ _)
   | (with_reducible exact ih3 _)
   | (with_reducible exact stowageref02_Sum.mono _ _)
   | (with_reducible exact stowageref15_put.mono _ _ _ _)
   | (with_reducible exact LeO.refl _)
   | (with_reducible exact LeO.none _)
   | (with_reducible refine LeO.ite ?_ ?_)
   | (with_reducible refine LeO.bind ?_ (fun _ => ?_))
   | exact ih0 _ _ _ _ _ _ _ _ _ _ _ _ _ _ _ _
   | exact ih1 _ _ _ _ _ _ _ _ _ _ _ _ _ _ _ _
   | exact ih2 _ _ _ _ _ _ _ _ _ _ _ _ _ _ _ _
   | exact ih3 _
   | exact stowageref02_Sum.mono _ _
   | exact stowageref15_put.mono _ _ _ _
   | exact LeO.none _
   | refine LeO.ite ?_ ?_
   | refine LeO.bind ?_ (fun _ => ?_)
  ·intro y0 y1 y2 y3 y4 y5 y6 y7 y8 y9 y10 y11 y12 y13 y14 y15
   unfold stowageref15_Encode.j2
   repeat' first
   | (with_reducible exact ih0 _ _ _ _ _ _ _ _ _ _ _ _ _ _ _ _)
   | (with_reducible exact ih1 _ _ _ _ _ _ _ _ _ _ _ _ _ _ _ _)
   | (with_reducible exact ih2 _ _ _ _ _ _ _ _ _ _ _ _ _ _ _ _)
   | (with_reducible exact ih3 _)
   | (with_reducible exact stowageref02_Sum.mono _ _)
   | (with_reducible exact stowageref15_put.mono _ _ _ _)
   | (with_reducible exact LeO.refl _)
   | (with_reducible exact LeO.none _)
   | (with_reducible refine LeO.ite ?_ ?_)
   | (with_reducible refine LeO.bind ?_ (fun _ => ?_))
   | exact ih0 _ _ _ _ _ _ _ _ _ _ _ _ _ _ _ _
   | exact ih1 _ _ _ _ _ _ _ _ _ _ _ _ _ _ _ _
   | exact ih2 _ _ _ _ _ _ _ _ _ _ _ _ _ _ _ _
   | exact ih3 _
   | exact stowageref02_Sum.mono _ _
   | exact stowageref15_put.mono _ _ _ _
   | exact LeO.none _
   | refine LeO.ite ?_ ?_
   | refine LeO.bind ?_ (fun _ => ?_)
  ·intro y0
   unfold stowageref15_Encode.l0
   repeat' first
   | (with_reducible exact ih0 _ _ _ _ _ _ _ _ _ _ _ _ _ _ _ _)
   | (with_reducible exact ih1 _ _ _ _ _ _ _ _ _ _ _ _ _ _ _ _)
   | (with_reducible exact ih2 _ _ _ _ _ _ _ _ _ _ _ _ _ _ _ _)
   | (with_reducible exact ih3 _)
   | (with_reducible exact stowageref02_Sum.mono _ _)
   | (with_reducible exact stowageref15_put.mono _ _ _ _)
   | (with_reducible exact LeO.refl _)
   | (with_reducible exact LeO.none _)
   | (with_reducible refine LeO.ite ?_ ?_)
   | (with_reducible refine LeO.bind ?_ (fun _ => ?_))
   | exact ih0 _ _ _ _ _ _ _ _ _ _ _ _ _ _ _ _
   | exact ih1 _ _ _ _ _ _ _ _ _ _ _ _ _ _ _ _
   | exact ih2 _ _ _ _ _ _ _ _ _ _ _ _ _ _ _ _
   | exact ih3 _
   | exact stowageref02_Sum.mono _ _
   | exact stowageref15_put.mono _ _ _ _
   | exact LeO.none _
   | refine LeO.ite ?_ ?_
   | refine LeO.bind ?_ (fun _ => ?_)
theorem stowageref15_Encode.mono : ∀ a0 a1 a2 a3 a4 a5 a6 a7 a8 k, LeO (stowageref15_Encode.f k a0 a1 a2 a3 a4 a5 a6 a7 a8) (stowageref15_Encode.f (k + 1) a0 a1 a2 a3 a4 a5 a6 a7 a8) := by
 intro a0 a1 a2 a3 a4 a5 a6 a7 a8 k
 obtain ⟨ih0, ih1, ih2, ih3⟩ := stowageref15_Encode.mono_l k
 unfold stowageref15_Encode.f
 repeat' first
   | (with_reducible exact ih0 _ _ _ _ _ _ _ _ _ _ _ _ _ _ _ _)
   | (with_reducible exact ih1 _ _ _ _ _ _ _ _ _ _ _ _ _ _ _ _)
   | (with_reducible exact ih2 _ _ _ _ _ _ _ _ _ _ _ _ _ _ _ _)
   | (with_reducible exact ih3 _)
   | (with_reducible exact stowageref02_Sum.mono _ _)
   | (with_reducible exact stowageref15_put.mono _ _ _ _)
   | (with_reducible exact LeO.refl _)
   | (with_reducible exact LeO.none _)
   | (with_reducible refine LeO.ite ?_ ?_)
   | (with_reducible refine LeO.bind ?_ (fun _ => ?_))
   | exact ih0 _ _ _ _ _ _ _ _ _ _ _ _ _ _ _ _
   | exact ih1 _ _ _ _ _ _ _ _ _ _ _ _ _ _ _ _
   | exact ih2 _ _ _ _ _ _ _ _ _ _ _ _ _ _ _ _
   | exact ih3 _
   | exact stowageref02_Sum.mono _ _
   | exact stowageref15_put.mono _ _ _ _
   | exact LeO.none _
   | refine LeO.ite ?_ ?_
   | refine LeO.bind ?_ (fun _ => ?_)
set_option maxHeartbeats 8000000 in
set_option maxRecDepth 100000 in
theorem stowageref15_Encode.calls (k : Nat) (a0_0 : Int) (a0_1 : Int) (a0_2 : Bool) (a0_3 : Int) (a0_4 : Int) (a0_5 : Int) (a0_6 : Int) (a0_7 : Int) (a0_8 : ByteArray) (r1 : List Int) (r2 : Int) (w : World) (h : stowageref15_Encode.f k a0_0 a0_1 a0_2 a0_3 a0_4 a0_5 a0_6 a0_7 a0_8 = some (r1, r2)) :
  Calls Try.prog 11 #[.agg #[.int .i64 a0_0, .int .i64 a0_1, .bool a0_2, .int .i64 a0_3, .int .i64 a0_4, .int .i64 a0_5, .int .i64 a0_6, .int .i64 a0_7, .string a0_8]] w fun e w' => ∃ v0_ : Value, e = .returned (.tuple #[v0_, .int .i64 r2]) ∧ Kd.R (Kd.int .u8) 5 w' w.heap.size (fun _ => True) v0_ r1 ∧ Below w.heap.size w w' := by
 have hu25 := Try.underlying25
 have hu23 := Try.underlying23
 have HB := Aside0.mk (Below.refl w.heap.size w)
 have H : ((stowageref15_in.f a0_0 2147483647).bind fun t160 => (if t160 = true then ((stowageref15_in.f a0_1 2147483647).bind fun t161 => (if t161 = true then ((stowageref15_in.f a0_3 9).bind fun t162 => (if t162 = true then ((stowageref15_in.f a0_4 1099511627776).bind fun t163 => (if t163 = true then ((stowageref15_in.f a0_5 1099511627776).bind fun t164 => (if t164 = true then ((stowageref15_in.f a0_6 1099511627776).bind fun t165 => (if t165 = true then ((stowageref15_in.f a0_7 1099511627776).bind fun t166 => (stowageref15_Encode.j0 k (!t166) a0_0 a0_1 a0_2 a0_3 a0_4 a0_5 a0_6 a0_7 a0_8 a0_3 a0_4 a0_5 a0_6 a0_7 a0_8)) else (stowageref15_Encode.j0 k true a0_0 a0_1 a0_2 a0_3 a0_4 a0_5 a0_6 a0_7 a0_8 a0_3 a0_4 a0_5 a0_6 a0_7 a0_8))) else (stowageref15_Encode.j0 k true a0_0 a0_1 a0_2 a0_3 a0_4 a0_5 a0_6 a0_7 a0_8 a0_3 a0_4 a0_5 a0_6 a0_7 a0_8))) else (stowageref15_Encode.j0 k true a0_0 a0_1 a0_2 a0_3 a0_4 a0_5 a0_6 a0_7 a0_8 a0_3 a0_4 a0_5 a0_6 a0_7 a0_8))) else (stowageref15_Encode.j0 k true a0_0 a0_1 a0_2 a0_3 a0_4 a0_5 a0_6 a0_7 a0_8 a0_3 a0_4 a0_5 a0_6 a0_7 a0_8))) else (stowageref15_Encode.j0 k true a0_0 a0_1 a0_2 a0_3 a0_4 a0_5 a0_6 a0_7 a0_8 a0_3 a0_4 a0_5 a0_6 a0_7 a0_8))) else (stowageref15_Encode.j0 k true a0_0 a0_1 a0_2 a0_3 a0_4 a0_5 a0_6 a0_7 a0_8 a0_3 a0_4 a0_5 a0_6 a0_7 a0_8))) = some (r1, r2) := h
 clear h
 have HC2 := Aside0.mk H
 clear H
 go_enter Try.func11, Try.ntmps11
 go_upto_region 2 with (first | ((with_reducible refine gate_dst (N := 1) rfl ?_); (try (refine gate_guard (by rfl) ?_; dsimp only)); refine box_event ?hg (N := 1) ?hd (cs := #[.int .i64 a0_0, .int .i64 a0_1, .bool a0_2, .int .i64 a0_3, .int .i64 a0_4, .int .i64 a0_5, .int .i64 a0_6, .int .i64 a0_7, .string a0_8]) (t := 25) ?hr ?_; (case hd => rfl); (case hg => rfl); (case hr => first | (go_simp; done) | (go_simp; rfl)); intro gb158 hg w3 hbox hb; have n0_ := Aside0.mk (below_step (by repeat (first | (with_reducible first | exact HB.out | apply below_alloc | apply pw_below_drewN | apply below_drew1) | exact HB.out)) hb); have n1_ := Aside0.mk (hbox); have n2_ := Aside0.mk ((by rw [hg]; exact (below_size (by repeat (first | (with_reducible first | exact HB.out | apply below_alloc | apply pw_below_drewN | apply below_drew1) | exact HB.out))) : w.heap.size ≤ gb158)); have n3_ := Aside0.mk ((by rw [hg]; exact (below_size (by repeat (first | (with_reducible first | exact HB.out | apply below_alloc | apply pw_below_drewN | apply below_drew1) | exact HB.out))) : w.heap.size ≤ gb158)); clear HB; have HB := n0_; have BK158 := n1_; have GW158 := n2_; have GE158 := n3_; clear n0_ n1_ n2_ n3_; clear hb hbox hg; have hcz4_0 : w3.cell? ⟨gb158, 0, none⟩ = some (.int .i64 a0_0) := (blk_cell BK158.out 0).trans rfl; have hcz4_1 : w3.cell? ⟨gb158, 1, none⟩ = some (.int .i64 a0_1) := (blk_cell BK158.out 1).trans rfl; have hcz4_2 : w3.cell? ⟨gb158, 2, none⟩ = some (.bool a0_2) := (blk_cell BK158.out 2).trans rfl; have hcz4_3 : w3.cell? ⟨gb158, 3, none⟩ = some (.int .i64 a0_3) := (blk_cell BK158.out 3).trans rfl; have hcz4_4 : w3.cell? ⟨gb158, 4, none⟩ = some (.int .i64 a0_4) := (blk_cell BK158.out 4).trans rfl; have hcz4_5 : w3.cell? ⟨gb158, 5, none⟩ = some (.int .i64 a0_5) := (blk_cell BK158.out 5).trans rfl; have hcz4_6 : w3.cell? ⟨gb158, 6, none⟩ = some (.int .i64 a0_6) := (blk_cell BK158.out 6).trans rfl; have hcz4_7 : w3.cell? ⟨gb158, 7, none⟩ = some (.int .i64 a0_7) := (blk_cell BK158.out 7).trans rfl; have hcz4_8 : w3.cell? ⟨gb158, 8, none⟩ = some (.string a0_8) := (blk_cell BK158.out 8).trans rfl; have hfz4_0 := blk_frozen BK158.out 0; have hfz4_1 := blk_frozen BK158.out 1; have hfz4_2 := blk_frozen BK158.out 2; have hfz4_3 := blk_frozen BK158.out 3; have hfz4_4 := blk_frozen BK158.out 4; have hfz4_5 := blk_frozen BK158.out 5; have hfz4_6 := blk_frozen BK158.out 6; have hfz4_7 := blk_frozen BK158.out 7; have hfz4_8 := blk_frozen BK158.out 8) | ((with_reducible refine gate_dst (N := 4) rfl ?_); (try (refine gate_guard (by rfl) ?_; dsimp only)); refine box_event ?hg (N := 4) ?hd (cs := #[.int .i64 0, .int .i64 0, .int .i64 0, .int .i64 0, .int .i64 0, .string (⟨#[]⟩ : ByteArray)]) (t := 23) ?hr ?_; (case hd => rfl); (case hg => rfl); (case hr => first | (go_simp; done) | (go_simp; rfl)); intro gb159 hg w5 hbox hb; have n0_ := Aside0.mk (blk_below (g := gb158) (o := .cells #[.int .i64 a0_0, .int .i64 a0_1, .bool a0_2, .int .i64 a0_3, .int .i64 a0_4, .int .i64 a0_5, .int .i64 a0_6, .int .i64 a0_7, .string a0_8] 25 (0, 0)) (by (with_reducible repeat (first | refine blk_drewN ?_ _ | refine blk_drew ?_ | refine blk_alloc ?_ _)); exact BK158.out) hb); have n1_ := Aside0.mk (below_step (by repeat (first | (with_reducible first | exact HB.out | apply below_alloc | apply pw_below_drewN | apply below_drew1 | refine below_set ?_ GE158.out) | exact HB.out)) hb); have n2_ := Aside0.mk (hbox); have n3_ := Aside0.mk ((by rw [hg]; exact (below_size (by repeat (first | (with_reducible first | exact HB.out | apply below_alloc | apply pw_below_drewN | apply below_drew1 | refine below_set ?_ GE158.out) | exact HB.out))) : w.heap.size ≤ gb159)); have n4_ := Aside0.mk ((by rw [hg]; exact (below_size (by repeat (first | (with_reducible first | exact HB.out | apply below_alloc | apply pw_below_drewN | apply below_drew1 | refine below_set ?_ GE158.out) | exact HB.out))) : w.heap.size ≤ gb159)); have n5_ := Aside0.mk ((by rw [hg]; exact Nat.ne_of_lt (blk_lt (g := gb158) (o := .cells #[.int .i64 a0_0, .int .i64 a0_1, .bool a0_2, .int .i64 a0_3, .int .i64 a0_4, .int .i64 a0_5, .int .i64 a0_6, .int .i64 a0_7, .string a0_8] 25 (0, 0)) (by (with_reducible repeat (first | refine blk_drewN ?_ _ | refine blk_drew ?_ | refine blk_alloc ?_ _)); exact BK158.out)) : gb158 ≠ gb159)); have n6_ := Aside0.mk ((by rw [hg]; exact Nat.ne_of_gt (blk_lt (g := gb158) (o := .cells #[.int .i64 a0_0, .int .i64 a0_1, .bool a0_2, .int .i64 a0_3, .int .i64 a0_4, .int .i64 a0_5, .int .i64 a0_6, .int .i64 a0_7, .string a0_8] 25 (0, 0)) (by (with_reducible repeat (first | refine blk_drewN ?_ _ | refine blk_drew ?_ | refine blk_alloc ?_ _)); exact BK158.out)) : gb159 ≠ gb158)); clear BK158; clear HB; have BK158 := n0_; have HB := n1_; have BK159 := n2_; have GW159 := n3_; have GE159 := n4_; have NB158_159 := n5_; have NB159_158 := n6_; clear n0_ n1_ n2_ n3_ n4_ n5_ n6_; clear hb hbox hg; have hnb6 := NB159_158.out; have hnc6 := NB158_159.out; have hcz7_0 : w5.cell? ⟨gb159, 0, none⟩ = some (.int .i64 0) := (blk_cell BK159.out 0).trans rfl; have hcz7_1 : w5.cell? ⟨gb159, 1, none⟩ = some (.int .i64 0) := (blk_cell BK159.out 1).trans rfl; have hcz7_2 : w5.cell? ⟨gb159, 2, none⟩ = some (.int .i64 0) := (blk_cell BK159.out 2).trans rfl; have hcz7_3 : w5.cell? ⟨gb159, 3, none⟩ = some (.int .i64 0) := (blk_cell BK159.out 3).trans rfl; have hcz7_4 : w5.cell? ⟨gb159, 4, none⟩ = some (.int .i64 0) := (blk_cell BK159.out 4).trans rfl; have hcz7_5 : w5.cell? ⟨gb159, 5, none⟩ = some (.string (⟨#[]⟩ : ByteArray)) := (blk_cell BK159.out 5).trans rfl; have hfz7_0 := blk_frozen BK159.out 0; have hfz7_1 := blk_frozen BK159.out 1; have hfz7_2 := blk_frozen BK159.out 2; have hfz7_3 := blk_frozen BK159.out 3; have hfz7_4 := blk_frozen BK159.out 4; have hfz7_5 := blk_frozen BK159.out 5))
 (try simp only [Act.put, List.setIfInBounds_toArray, List.set_cons_zero, List.set_cons_succ])
 go_cut [48] (fun v48 wc => ∃ (kq : Nat) (x48_1 : Bool), v48 = .bool x48_1 ∧ Aside0 (stowageref15_Encode.j0 kq x48_1 a0_0 a0_1 a0_2 a0_3 a0_4 a0_5 a0_6 a0_7 a0_8 a0_3 a0_4 a0_5 a0_6 a0_7 a0_8 = some (r1, r2)) ∧ Aside0 (kq ≤ k) ∧ Aside0 (wc.heap[gb158]? = some (.cells #[.int .i64 a0_0, .int .i64 a0_1, .bool a0_2, .int .i64 a0_3, .int .i64 a0_4, .int .i64 a0_5, .int .i64 a0_6, .int .i64 a0_7, .string a0_8] 25 (0, 0))) ∧ Aside0 (wc.heap[gb159]? = some (.cells #[.int .i64 a0_3, .int .i64 a0_4, .int .i64 a0_5, .int .i64 a0_6, .int .i64 a0_7, .string a0_8] 23 (0, 0))) ∧ Aside0 (Below w.heap.size w wc))
 case first =>
  have H := HC2.out
  clear HC2
  replace H := Option.bind_eq_some_iff.mp H
  obtain ⟨t160, A80, H⟩ := H
  replace H : (if t160 = true then ((stowageref15_in.f a0_1 2147483647).bind fun t161 => (if t161 = true then ((stowageref15_in.f a0_3 9).bind fun t162 => (if t162 = true then ((stowageref15_in.f a0_4 1099511627776).bind fun t163 => (if t163 = true then ((stowageref15_in.f a0_5 1099511627776).bind fun t164 => (if t164 = true then ((stowageref15_in.f a0_6 1099511627776).bind fun t165 => (if t165 = true then ((stowageref15_in.f a0_7 1099511627776).bind fun t166 => (stowageref15_Encode.j0 k (!t166) a0_0 a0_1 a0_2 a0_3 a0_4 a0_5 a0_6 a0_7 a0_8 a0_3 a0_4 a0_5 a0_6 a0_7 a0_8)) else (stowageref15_Encode.j0 k true a0_0 a0_1 a0_2 a0_3 a0_4 a0_5 a0_6 a0_7 a0_8 a0_3 a0_4 a0_5 a0_6 a0_7 a0_8))) else (stowageref15_Encode.j0 k true a0_0 a0_1 a0_2 a0_3 a0_4 a0_5 a0_6 a0_7 a0_8 a0_3 a0_4 a0_5 a0_6 a0_7 a0_8))) else (stowageref15_Encode.j0 k true a0_0 a0_1 a0_2 a0_3 a0_4 a0_5 a0_6 a0_7 a0_8 a0_3 a0_4 a0_5 a0_6 a0_7 a0_8))) else (stowageref15_Encode.j0 k true a0_0 a0_1 a0_2 a0_3 a0_4 a0_5 a0_6 a0_7 a0_8 a0_3 a0_4 a0_5 a0_6 a0_7 a0_8))) else (stowageref15_Encode.j0 k true a0_0 a0_1 a0_2 a0_3 a0_4 a0_5 a0_6 a0_7 a0_8 a0_3 a0_4 a0_5 a0_6 a0_7 a0_8))) else (stowageref15_Encode.j0 k true a0_0 a0_1 a0_2 a0_3 a0_4 a0_5 a0_6 a0_7 a0_8 a0_3 a0_4 a0_5 a0_6 a0_7 a0_8)) = some (r1, r2) := H
  have A8 := Aside0.mk A80
  clear A80
  by_cases c9 : t160 = true
  ·subst c9
   have H1 : ((stowageref15_in.f a0_1 2147483647).bind fun t161 => (if t161 = true then ((stowageref15_in.f a0_3 9).bind fun t162 => (if t162 = true then ((stowageref15_in.f a0_4 1099511627776).bind fun t163 => (if t163 = true then ((stowageref15_in.f a0_5 1099511627776).bind fun t164 => (if t164 = true then ((stowageref15_in.f a0_6 1099511627776).bind fun t165 => (if t165 = true then ((stowageref15_in.f a0_7 1099511627776).bind fun t166 => (stowageref15_Encode.j0 k (!t166) a0_0 a0_1 a0_2 a0_3 a0_4 a0_5 a0_6 a0_7 a0_8 a0_3 a0_4 a0_5 a0_6 a0_7 a0_8)) else (stowageref15_Encode.j0 k true a0_0 a0_1 a0_2 a0_3 a0_4 a0_5 a0_6 a0_7 a0_8 a0_3 a0_4 a0_5 a0_6 a0_7 a0_8))) else (stowageref15_Encode.j0 k true a0_0 a0_1 a0_2 a0_3 a0_4 a0_5 a0_6 a0_7 a0_8 a0_3 a0_4 a0_5 a0_6 a0_7 a0_8))) else (stowageref15_Encode.j0 k true a0_0 a0_1 a0_2 a0_3 a0_4 a0_5 a0_6 a0_7 a0_8 a0_3 a0_4 a0_5 a0_6 a0_7 a0_8))) else (stowageref15_Encode.j0 k true a0_0 a0_1 a0_2 a0_3 a0_4 a0_5 a0_6 a0_7 a0_8 a0_3 a0_4 a0_5 a0_6 a0_7 a0_8))) else (stowageref15_Encode.j0 k true a0_0 a0_1 a0_2 a0_3 a0_4 a0_5 a0_6 a0_7 a0_8 a0_3 a0_4 a0_5 a0_6 a0_7 a0_8))) = some (r1, r2) := by rw [if_pos rfl] at H; exact H
   clear H
   have H := H1
   clear H1
   replace H := Option.bind_eq_some_iff.mp H
   obtain ⟨t161, A100, H⟩ := H
   replace H : (if t161 = true then ((stowageref15_in.f a0_3 9).bind fun t162 => (if t162 = true then ((stowageref15_in.f a0_4 1099511627776).bind fun t163 => (if t163 = true then ((stowageref15_in.f a0_5 1099511627776).bind fun t164 => (if t164 = true then ((stowageref15_in.f a0_6 1099511627776).bind fun t165 => (if t165 = true then ((stowageref15_in.f a0_7 1099511627776).bind fun t166 => (stowageref15_Encode.j0 k (!t166) a0_0 a0_1 a0_2 a0_3 a0_4 a0_5 a0_6 a0_7 a0_8 a0_3 a0_4 a0_5 a0_6 a0_7 a0_8)) else (stowageref15_Encode.j0 k true a0_0 a0_1 a0_2 a0_3 a0_4 a0_5 a0_6 a0_7 a0_8 a0_3 a0_4 a0_5 a0_6 a0_7 a0_8))) else (stowageref15_Encode.j0 k true a0_0 a0_1 a0_2 a0_3 a0_4 a0_5 a0_6 a0_7 a0_8 a0_3 a0_4 a0_5 a0_6 a0_7 a0_8))) else (stowageref15_Encode.j0 k true a0_0 a0_1 a0_2 a0_3 a0_4 a0_5 a0_6 a0_7 a0_8 a0_3 a0_4 a0_5 a0_6 a0_7 a0_8))) else (stowageref15_Encode.j0 k true a0_0 a0_1 a0_2 a0_3 a0_4 a0_5 a0_6 a0_7 a0_8 a0_3 a0_4 a0_5 a0_6 a0_7 a0_8))) else (stowageref15_Encode.j0 k true a0_0 a0_1 a0_2 a0_3 a0_4 a0_5 a0_6 a0_7 a0_8 a0_3 a0_4 a0_5 a0_6 a0_7 a0_8)) = some (r1, r2) := H
   have A10 := Aside0.mk A100
   clear A100
   by_cases c11 : t161 = true
   ·subst c11
    have H1 : ((stowageref15_in.f a0_3 9).bind fun t162 => (if t162 = true then ((stowageref15_in.f a0_4 1099511627776).bind fun t163 => (if t163 = true then ((stowageref15_in.f a0_5 1099511627776).bind fun t164 => (if t164 = true then ((stowageref15_in.f a0_6 1099511627776).bind fun t165 => (if t165 = true then ((stowageref15_in.f a0_7 1099511627776).bind fun t166 => (stowageref15_Encode.j0 k (!t166) a0_0 a0_1 a0_2 a0_3 a0_4 a0_5 a0_6 a0_7 a0_8 a0_3 a0_4 a0_5 a0_6 a0_7 a0_8)) else (stowageref15_Encode.j0 k true a0_0 a0_1 a0_2 a0_3 a0_4 a0_5 a0_6 a0_7 a0_8 a0_3 a0_4 a0_5 a0_6 a0_7 a0_8))) else (stowageref15_Encode.j0 k true a0_0 a0_1 a0_2 a0_3 a0_4 a0_5 a0_6 a0_7 a0_8 a0_3 a0_4 a0_5 a0_6 a0_7 a0_8))) else (stowageref15_Encode.j0 k true a0_0 a0_1 a0_2 a0_3 a0_4 a0_5 a0_6 a0_7 a0_8 a0_3 a0_4 a0_5 a0_6 a0_7 a0_8))) else (stowageref15_Encode.j0 k true a0_0 a0_1 a0_2 a0_3 a0_4 a0_5 a0_6 a0_7 a0_8 a0_3 a0_4 a0_5 a0_6 a0_7 a0_8))) = some (r1, r2) := by rw [if_pos rfl] at H; exact H
    clear H
    have H := H1
    clear H1
    replace H := Option.bind_eq_some_iff.mp H
    obtain ⟨t162, A120, H⟩ := H
    replace H : (if t162 = true then ((stowageref15_in.f a0_4 1099511627776).bind fun t163 => (if t163 = true then ((stowageref15_in.f a0_5 1099511627776).bind fun t164 => (if t164 = true then ((stowageref15_in.f a0_6 1099511627776).bind fun t165 => (if t165 = true then ((stowageref15_in.f a0_7 1099511627776).bind fun t166 => (stowageref15_Encode.j0 k (!t166) a0_0 a0_1 a0_2 a0_3 a0_4 a0_5 a0_6 a0_7 a0_8 a0_3 a0_4 a0_5 a0_6 a0_7 a0_8)) else (stowageref15_Encode.j0 k true a0_0 a0_1 a0_2 a0_3 a0_4 a0_5 a0_6 a0_7 a0_8 a0_3 a0_4 a0_5 a0_6 a0_7 a0_8))) else (stowageref15_Encode.j0 k true a0_0 a0_1 a0_2 a0_3 a0_4 a0_5 a0_6 a0_7 a0_8 a0_3 a0_4 a0_5 a0_6 a0_7 a0_8))) else (stowageref15_Encode.j0 k true a0_0 a0_1 a0_2 a0_3 a0_4 a0_5 a0_6 a0_7 a0_8 a0_3 a0_4 a0_5 a0_6 a0_7 a0_8))) else (stowageref15_Encode.j0 k true a0_0 a0_1 a0_2 a0_3 a0_4 a0_5 a0_6 a0_7 a0_8 a0_3 a0_4 a0_5 a0_6 a0_7 a0_8)) = some (r1, r2) := H
    have A12 := Aside0.mk A120
    clear A120
    by_cases c13 : t162 = true
    ·subst c13
     have H1 : ((stowageref15_in.f a0_4 1099511627776).bind fun t163 => (if t163 = true then ((stowageref15_in.f a0_5 1099511627776).bind fun t164 => (if t164 = true then ((stowageref15_in.f a0_6 1099511627776).bind fun t165 => (if t165 = true then ((stowageref15_in.f a0_7 1099511627776).bind fun t166 => (stowageref15_Encode.j0 k (!t166) a0_0 a0_1 a0_2 a0_3 a0_4 a0_5 a0_6 a0_7 a0_8 a0_3 a0_4 a0_5 a0_6 a0_7 a0_8)) else (stowageref15_Encode.j0 k true a0_0 a0_1 a0_2 a0_3 a0_4 a0_5 a0_6 a0_7 a0_8 a0_3 a0_4 a0_5 a0_6 a0_7 a0_8))) else (stowageref15_Encode.j0 k true a0_0 a0_1 a0_2 a0_3 a0_4 a0_5 a0_6 a0_7 a0_8 a0_3 a0_4 a0_5 a0_6 a0_7 a0_8))) else (stowageref15_Encode.j0 k true a0_0 a0_1 a0_2 a0_3 a0_4 a0_5 a0_6 a0_7 a0_8 a0_3 a0_4 a0_5 a0_6 a0_7 a0_8))) = some (r1, r2) := by rw [if_pos rfl] at H; exact H
     clear H
     have H := H1
     clear H1
     replace H := Option.bind_eq_some_iff.mp H
     obtain ⟨t163, A140, H⟩ := H
     replace H : (if t163 = true then ((stowageref15_in.f a0_5 1099511627776).bind fun t164 => (if t164 = true then ((stowageref15_in.f a0_6 1099511627776).bind fun t165 => (if t165 = true then ((stowageref15_in.f a0_7 1099511627776).bind fun t166 => (stowageref15_Encode.j0 k (!t166) a0_0 a0_1 a0_2 a0_3 a0_4 a0_5 a0_6 a0_7 a0_8 a0_3 a0_4 a0_5 a0_6 a0_7 a0_8)) else (stowageref15_Encode.j0 k true a0_0 a0_1 a0_2 a0_3 a0_4 a0_5 a0_6 a0_7 a0_8 a0_3 a0_4 a0_5 a0_6 a0_7 a0_8))) else (stowageref15_Encode.j0 k true a0_0 a0_1 a0_2 a0_3 a0_4 a0_5 a0_6 a0_7 a0_8 a0_3 a0_4 a0_5 a0_6 a0_7 a0_8))) else (stowageref15_Encode.j0 k true a0_0 a0_1 a0_2 a0_3 a0_4 a0_5 a0_6 a0_7 a0_8 a0_3 a0_4 a0_5 a0_6 a0_7 a0_8)) = some (r1, r2) := H
     have A14 := Aside0.mk A140
     clear A140
     by_cases c15 : t163 = true
     ·subst c15
      have H1 : ((stowageref15_in.f a0_5 1099511627776).bind fun t164 => (if t164 = true then ((stowageref15_in.f a0_6 1099511627776).bind fun t165 => (if t165 = true then ((stowageref15_in.f a0_7 1099511627776).bind fun t166 => (stowageref15_Encode.j0 k (!t166) a0_0 a0_1 a0_2 a0_3 a0_4 a0_5 a0_6 a0_7 a0_8 a0_3 a0_4 a0_5 a0_6 a0_7 a0_8)) else (stowageref15_Encode.j0 k true a0_0 a0_1 a0_2 a0_3 a0_4 a0_5 a0_6 a0_7 a0_8 a0_3 a0_4 a0_5 a0_6 a0_7 a0_8))) else (stowageref15_Encode.j0 k true a0_0 a0_1 a0_2 a0_3 a0_4 a0_5 a0_6 a0_7 a0_8 a0_3 a0_4 a0_5 a0_6 a0_7 a0_8))) = some (r1, r2) := by rw [if_pos rfl] at H; exact H
      clear H
      have H := H1
      clear H1
      replace H := Option.bind_eq_some_iff.mp H
      obtain ⟨t164, A160, H⟩ := H
      replace H : (if t164 = true then ((stowageref15_in.f a0_6 1099511627776).bind fun t165 => (if t165 = true then ((stowageref15_in.f a0_7 1099511627776).bind fun t166 => (stowageref15_Encode.j0 k (!t166) a0_0 a0_1 a0_2 a0_3 a0_4 a0_5 a0_6 a0_7 a0_8 a0_3 a0_4 a0_5 a0_6 a0_7 a0_8)) else (stowageref15_Encode.j0 k true a0_0 a0_1 a0_2 a0_3 a0_4 a0_5 a0_6 a0_7 a0_8 a0_3 a0_4 a0_5 a0_6 a0_7 a0_8))) else (stowageref15_Encode.j0 k true a0_0 a0_1 a0_2 a0_3 a0_4 a0_5 a0_6 a0_7 a0_8 a0_3 a0_4 a0_5 a0_6 a0_7 a0_8)) = some (r1, r2) := H
      have A16 := Aside0.mk A160
      clear A160
      by_cases c17 : t164 = true
      ·subst c17
       have H1 : ((stowageref15_in.f a0_6 1099511627776).bind fun t165 => (if t165 = true then ((stowageref15_in.f a0_7 1099511627776).bind fun t166 => (stowageref15_Encode.j0 k (!t166) a0_0 a0_1 a0_2 a0_3 a0_4 a0_5 a0_6 a0_7 a0_8 a0_3 a0_4 a0_5 a0_6 a0_7 a0_8)) else (stowageref15_Encode.j0 k true a0_0 a0_1 a0_2 a0_3 a0_4 a0_5 a0_6 a0_7 a0_8 a0_3 a0_4 a0_5 a0_6 a0_7 a0_8))) = some (r1, r2) := by rw [if_pos rfl] at H; exact H
       clear H
       have H := H1
       clear H1
       replace H := Option.bind_eq_some_iff.mp H
       obtain ⟨t165, A180, H⟩ := H
       replace H : (if t165 = true then ((stowageref15_in.f a0_7 1099511627776).bind fun t166 => (stowageref15_Encode.j0 k (!t166) a0_0 a0_1 a0_2 a0_3 a0_4 a0_5 a0_6 a0_7 a0_8 a0_3 a0_4 a0_5 a0_6 a0_7 a0_8)) else (stowageref15_Encode.j0 k true a0_0 a0_1 a0_2 a0_3 a0_4 a0_5 a0_6 a0_7 a0_8 a0_3 a0_4 a0_5 a0_6 a0_7 a0_8)) = some (r1, r2) := H
       have A18 := Aside0.mk A180
       clear A180
       by_cases c19 : t165 = true
       ·subst c19
        have H1 : ((stowageref15_in.f a0_7 1099511627776).bind fun t166 => (stowageref15_Encode.j0 k (!t166) a0_0 a0_1 a0_2 a0_3 a0_4 a0_5 a0_6 a0_7 a0_8 a0_3 a0_4 a0_5 a0_6 a0_7 a0_8)) = some (r1, r2) := by rw [if_pos rfl] at H; exact H
        clear H
        have H := H1
        clear H1
        replace H := Option.bind_eq_some_iff.mp H
        obtain ⟨t166, A200, H⟩ := H
        replace H : (stowageref15_Encode.j0 k (!t166) a0_0 a0_1 a0_2 a0_3 a0_4 a0_5 a0_6 a0_7 a0_8 a0_3 a0_4 a0_5 a0_6 a0_7 a0_8) = some (r1, r2) := H
        have A20 := Aside0.mk A200
        clear A200
        have H' := Aside0.mk H
        clear H
        have hnb21 := NB158_159.out
        have hnc21 := NB159_158.out
        have hcz22_0 : w5.cell? ⟨gb158, 0, none⟩ = some (.int .i64 a0_0) := (blk_cell BK158.out 0).trans rfl
        have hcz22_1 : w5.cell? ⟨gb158, 1, none⟩ = some (.int .i64 a0_1) := (blk_cell BK158.out 1).trans rfl
        have hcz22_2 : w5.cell? ⟨gb158, 2, none⟩ = some (.bool a0_2) := (blk_cell BK158.out 2).trans rfl
        have hcz22_3 : w5.cell? ⟨gb158, 3, none⟩ = some (.int .i64 a0_3) := (blk_cell BK158.out 3).trans rfl
        have hcz22_4 : w5.cell? ⟨gb158, 4, none⟩ = some (.int .i64 a0_4) := (blk_cell BK158.out 4).trans rfl
        have hcz22_5 : w5.cell? ⟨gb158, 5, none⟩ = some (.int .i64 a0_5) := (blk_cell BK158.out 5).trans rfl
        have hcz22_6 : w5.cell? ⟨gb158, 6, none⟩ = some (.int .i64 a0_6) := (blk_cell BK158.out 6).trans rfl
        have hcz22_7 : w5.cell? ⟨gb158, 7, none⟩ = some (.int .i64 a0_7) := (blk_cell BK158.out 7).trans rfl
        have hcz22_8 : w5.cell? ⟨gb158, 8, none⟩ = some (.string a0_8) := (blk_cell BK158.out 8).trans rfl
        have hfz22_0 := blk_frozen BK158.out 0
        have hfz22_1 := blk_frozen BK158.out 1
        have hfz22_2 := blk_frozen BK158.out 2
        have hfz22_3 := blk_frozen BK158.out 3
        have hfz22_4 := blk_frozen BK158.out 4
        have hfz22_5 := blk_frozen BK158.out 5
        have hfz22_6 := blk_frozen BK158.out 6
        have hfz22_7 := blk_frozen BK158.out 7
        have hfz22_8 := blk_frozen BK158.out 8
        go_wp2_with (first | ((with_reducible refine gate_callee (f := 21) rfl ?_); refine goesL_ (some 11) rfl rfl Try.func21 (by kernel_rfl) rfl #[.int .i64 a0_0, .int .i64 2147483647] rfl (by (try simp only [List.map_toArray, List.map_cons, List.map_nil]); first | done | rfl | (simp only [List.length_drop, List.length_take]; rfl)) ?_; (with_reducible refine (stowageref15_in.calls a0_0 2147483647 true _ A8.out).mono ?_); rintro e w' ⟨rfl, ⟨nd, rfl⟩⟩; refine ⟨_, rfl, ?_⟩) | (go_at_call 21; (with_reducible refine (stowageref15_in.calls a0_1 2147483647 true _ A10.out).mono ?_); rintro e w' ⟨rfl, ⟨nd, rfl⟩⟩; have hcz23_0 : w5.cell? ⟨gb159, 0, none⟩ = some (.int .i64 0) := (blk_cell BK159.out 0).trans rfl; have hcz23_1 : w5.cell? ⟨gb159, 1, none⟩ = some (.int .i64 0) := (blk_cell BK159.out 1).trans rfl; have hcz23_2 : w5.cell? ⟨gb159, 2, none⟩ = some (.int .i64 0) := (blk_cell BK159.out 2).trans rfl; have hcz23_3 : w5.cell? ⟨gb159, 3, none⟩ = some (.int .i64 0) := (blk_cell BK159.out 3).trans rfl; have hcz23_4 : w5.cell? ⟨gb159, 4, none⟩ = some (.int .i64 0) := (blk_cell BK159.out 4).trans rfl; have hcz23_5 : w5.cell? ⟨gb159, 5, none⟩ = some (.string (⟨#[]⟩ : ByteArray)) := (blk_cell BK159.out 5).trans rfl; have hfz23_0 := blk_frozen BK159.out 0; have hfz23_1 := blk_frozen BK159.out 1; have hfz23_2 := blk_frozen BK159.out 2; have hfz23_3 := blk_frozen BK159.out 3; have hfz23_4 := blk_frozen BK159.out 4; have hfz23_5 := blk_frozen BK159.out 5) | (go_at_call 21; (with_reducible refine (stowageref15_in.calls a0_3 9 true _ A12.out).mono ?_); rintro e w' ⟨rfl, ⟨nd, rfl⟩⟩) | (go_at_call 21; (with_reducible refine (stowageref15_in.calls a0_4 1099511627776 true _ A14.out).mono ?_); rintro e w' ⟨rfl, ⟨nd, rfl⟩⟩) | (go_at_call 21; (with_reducible refine (stowageref15_in.calls a0_5 1099511627776 true _ A16.out).mono ?_); rintro e w' ⟨rfl, ⟨nd, rfl⟩⟩) | (go_at_call 21; (with_reducible refine (stowageref15_in.calls a0_6 1099511627776 true _ A18.out).mono ?_); rintro e w' ⟨rfl, ⟨nd, rfl⟩⟩) | (go_at_call 21; (with_reducible refine (stowageref15_in.calls a0_7 1099511627776 t166 _ A20.out).mono ?_); rintro e w' ⟨rfl, ⟨nd, rfl⟩⟩))
        go_meet
        case rel => exact ⟨_, (!t166), (by first | rfl | (simp; done) | (simp [*]; done)), H', ⟨by first | omega | exact Nat.le_refl _⟩, ⟨by (with_reducible repeat (first | refine blk_drewN ?_ _ | refine blk_drew ?_ | refine blk_alloc ?_ _)); refine blk_far ?_ NB158_159.out _; (with_reducible repeat (first | refine blk_drewN ?_ _ | refine blk_drew ?_ | refine blk_alloc ?_ _)); refine blk_far ?_ NB158_159.out _; (with_reducible repeat (first | refine blk_drewN ?_ _ | refine blk_drew ?_ | refine blk_alloc ?_ _)); refine blk_far ?_ NB158_159.out _; (with_reducible repeat (first | refine blk_drewN ?_ _ | refine blk_drew ?_ | refine blk_alloc ?_ _)); refine blk_far ?_ NB158_159.out _; (with_reducible repeat (first | refine blk_drewN ?_ _ | refine blk_drew ?_ | refine blk_alloc ?_ _)); refine blk_far ?_ NB158_159.out _; (with_reducible repeat (first | refine blk_drewN ?_ _ | refine blk_drew ?_ | refine blk_alloc ?_ _)); refine blk_far ?_ NB158_159.out _; (with_reducible repeat (first | refine blk_drewN ?_ _ | refine blk_drew ?_ | refine blk_alloc ?_ _)); exact BK158.out⟩, ⟨by (with_reducible repeat (first | refine blk_drewN ?_ _ | refine blk_drew ?_ | refine blk_alloc ?_ _)); refine blk_put (cs := #[.int .i64 a0_3, .int .i64 a0_4, .int .i64 a0_5, .int .i64 a0_6, .int .i64 a0_7, .string (⟨#[]⟩ : ByteArray)]) ?_ 5 _ rfl; (with_reducible repeat (first | refine blk_drewN ?_ _ | refine blk_drew ?_ | refine blk_alloc ?_ _)); refine blk_put (cs := #[.int .i64 a0_3, .int .i64 a0_4, .int .i64 a0_5, .int .i64 a0_6, .int .i64 0, .string (⟨#[]⟩ : ByteArray)]) ?_ 4 _ rfl; (with_reducible repeat (first | refine blk_drewN ?_ _ | refine blk_drew ?_ | refine blk_alloc ?_ _)); refine blk_put (cs := #[.int .i64 a0_3, .int .i64 a0_4, .int .i64 a0_5, .int .i64 0, .int .i64 0, .string (⟨#[]⟩ : ByteArray)]) ?_ 3 _ rfl; (with_reducible repeat (first | refine blk_drewN ?_ _ | refine blk_drew ?_ | refine blk_alloc ?_ _)); refine blk_put (cs := #[.int .i64 a0_3, .int .i64 a0_4, .int .i64 0, .int .i64 0, .int .i64 0, .string (⟨#[]⟩ : ByteArray)]) ?_ 2 _ rfl; (with_reducible repeat (first | refine blk_drewN ?_ _ | refine blk_drew ?_ | refine blk_alloc ?_ _)); refine blk_put (cs := #[.int .i64 a0_3, .int .i64 0, .int .i64 0, .int .i64 0, .int .i64 0, .string (⟨#[]⟩ : ByteArray)]) ?_ 1 _ rfl; (with_reducible repeat (first | refine blk_drewN ?_ _ | refine blk_drew ?_ | refine blk_alloc ?_ _)); refine blk_put (cs := #[.int .i64 0, .int .i64 0, .int .i64 0, .int .i64 0, .int .i64 0, .string (⟨#[]⟩ : ByteArray)]) ?_ 0 _ rfl; (with_reducible repeat (first | refine blk_drewN ?_ _ | refine blk_drew ?_ | refine blk_alloc ?_ _)); exact BK159.out⟩, ⟨by repeat (first | (with_reducible first | exact HB.out | apply below_alloc | apply pw_below_drewN | apply below_drew1 | refine below_set ?_ GE158.out | refine below_set ?_ GE159.out) | exact HB.out)⟩⟩
       ·replace c19 := Bool.eq_false_iff.mpr c19
        subst c19
        have H1 : (stowageref15_Encode.j0 k true a0_0 a0_1 a0_2 a0_3 a0_4 a0_5 a0_6 a0_7 a0_8 a0_3 a0_4 a0_5 a0_6 a0_7 a0_8) = some (r1, r2) := by rw [if_neg (show ¬ (false = true) by decide)] at H; exact H
        clear H
        have H := H1
        clear H1
        have H' := Aside0.mk H
        clear H
        have hnb24 := NB158_159.out
        have hnc24 := NB159_158.out
        have hcz25_0 : w5.cell? ⟨gb158, 0, none⟩ = some (.int .i64 a0_0) := (blk_cell BK158.out 0).trans rfl
        have hcz25_1 : w5.cell? ⟨gb158, 1, none⟩ = some (.int .i64 a0_1) := (blk_cell BK158.out 1).trans rfl
        have hcz25_2 : w5.cell? ⟨gb158, 2, none⟩ = some (.bool a0_2) := (blk_cell BK158.out 2).trans rfl
        have hcz25_3 : w5.cell? ⟨gb158, 3, none⟩ = some (.int .i64 a0_3) := (blk_cell BK158.out 3).trans rfl
        have hcz25_4 : w5.cell? ⟨gb158, 4, none⟩ = some (.int .i64 a0_4) := (blk_cell BK158.out 4).trans rfl
        have hcz25_5 : w5.cell? ⟨gb158, 5, none⟩ = some (.int .i64 a0_5) := (blk_cell BK158.out 5).trans rfl
        have hcz25_6 : w5.cell? ⟨gb158, 6, none⟩ = some (.int .i64 a0_6) := (blk_cell BK158.out 6).trans rfl
        have hcz25_7 : w5.cell? ⟨gb158, 7, none⟩ = some (.int .i64 a0_7) := (blk_cell BK158.out 7).trans rfl
        have hcz25_8 : w5.cell? ⟨gb158, 8, none⟩ = some (.string a0_8) := (blk_cell BK158.out 8).trans rfl
        have hfz25_0 := blk_frozen BK158.out 0
        have hfz25_1 := blk_frozen BK158.out 1
        have hfz25_2 := blk_frozen BK158.out 2
        have hfz25_3 := blk_frozen BK158.out 3
        have hfz25_4 := blk_frozen BK158.out 4
        have hfz25_5 := blk_frozen BK158.out 5
        have hfz25_6 := blk_frozen BK158.out 6
        have hfz25_7 := blk_frozen BK158.out 7
        have hfz25_8 := blk_frozen BK158.out 8
        go_wp2_with (first | ((with_reducible refine gate_callee (f := 21) rfl ?_); refine goesL_ (some 11) rfl rfl Try.func21 (by kernel_rfl) rfl #[.int .i64 a0_0, .int .i64 2147483647] rfl (by (try simp only [List.map_toArray, List.map_cons, List.map_nil]); first | done | rfl | (simp only [List.length_drop, List.length_take]; rfl)) ?_; (with_reducible refine (stowageref15_in.calls a0_0 2147483647 true _ A8.out).mono ?_); rintro e w' ⟨rfl, ⟨nd, rfl⟩⟩; refine ⟨_, rfl, ?_⟩) | (go_at_call 21; (with_reducible refine (stowageref15_in.calls a0_1 2147483647 true _ A10.out).mono ?_); rintro e w' ⟨rfl, ⟨nd, rfl⟩⟩; have hcz26_0 : w5.cell? ⟨gb159, 0, none⟩ = some (.int .i64 0) := (blk_cell BK159.out 0).trans rfl; have hcz26_1 : w5.cell? ⟨gb159, 1, none⟩ = some (.int .i64 0) := (blk_cell BK159.out 1).trans rfl; have hcz26_2 : w5.cell? ⟨gb159, 2, none⟩ = some (.int .i64 0) := (blk_cell BK159.out 2).trans rfl; have hcz26_3 : w5.cell? ⟨gb159, 3, none⟩ = some (.int .i64 0) := (blk_cell BK159.out 3).trans rfl; have hcz26_4 : w5.cell? ⟨gb159, 4, none⟩ = some (.int .i64 0) := (blk_cell BK159.out 4).trans rfl; have hcz26_5 : w5.cell? ⟨gb159, 5, none⟩ = some (.string (⟨#[]⟩ : ByteArray)) := (blk_cell BK159.out 5).trans rfl; have hfz26_0 := blk_frozen BK159.out 0; have hfz26_1 := blk_frozen BK159.out 1; have hfz26_2 := blk_frozen BK159.out 2; have hfz26_3 := blk_frozen BK159.out 3; have hfz26_4 := blk_frozen BK159.out 4; have hfz26_5 := blk_frozen BK159.out 5) | (go_at_call 21; (with_reducible refine (stowageref15_in.calls a0_3 9 true _ A12.out).mono ?_); rintro e w' ⟨rfl, ⟨nd, rfl⟩⟩) | (go_at_call 21; (with_reducible refine (stowageref15_in.calls a0_4 1099511627776 true _ A14.out).mono ?_); rintro e w' ⟨rfl, ⟨nd, rfl⟩⟩) | (go_at_call 21; (with_reducible refine (stowageref15_in.calls a0_5 1099511627776 true _ A16.out).mono ?_); rintro e w' ⟨rfl, ⟨nd, rfl⟩⟩) | (go_at_call 21; (with_reducible refine (stowageref15_in.calls a0_6 1099511627776 false _ A18.out).mono ?_); rintro e w' ⟨rfl, ⟨nd, rfl⟩⟩))
        go_meet
        case rel => exact ⟨_, (true), (by first | rfl | (simp; done) | (simp [*]; done)), H', ⟨by first | omega | exact Nat.le_refl _⟩, ⟨by (with_reducible repeat (first | refine blk_drewN ?_ _ | refine blk_drew ?_ | refine blk_alloc ?_ _)); refine blk_far ?_ NB158_159.out _; (with_reducible repeat (first | refine blk_drewN ?_ _ | refine blk_drew ?_ | refine blk_alloc ?_ _)); refine blk_far ?_ NB158_159.out _; (with_reducible repeat (first | refine blk_drewN ?_ _ | refine blk_drew ?_ | refine blk_alloc ?_ _)); refine blk_far ?_ NB158_159.out _; (with_reducible repeat (first | refine blk_drewN ?_ _ | refine blk_drew ?_ | refine blk_alloc ?_ _)); refine blk_far ?_ NB158_159.out _; (with_reducible repeat (first | refine blk_drewN ?_ _ | refine blk_drew ?_ | refine blk_alloc ?_ _)); refine blk_far ?_ NB158_159.out _; (with_reducible repeat (first | refine blk_drewN ?_ _ | refine blk_drew ?_ | refine blk_alloc ?_ _)); refine blk_far ?_ NB158_159.out _; (with_reducible repeat (first | refine blk_drewN ?_ _ | refine blk_drew ?_ | refine blk_alloc ?_ _)); exact BK158.out⟩, ⟨by (with_reducible repeat (first | refine blk_drewN ?_ _ | refine blk_drew ?_ | refine blk_alloc ?_ _)); refine blk_put (cs := #[.int .i64 a0_3, .int .i64 a0_4, .int .i64 a0_5, .int .i64 a0_6, .int .i64 a0_7, .string (⟨#[]⟩ : ByteArray)]) ?_ 5 _ rfl; (with_reducible repeat (first | refine blk_drewN ?_ _ | refine blk_drew ?_ | refine blk_alloc ?_ _)); refine blk_put (cs := #[.int .i64 a0_3, .int .i64 a0_4, .int .i64 a0_5, .int .i64 a0_6, .int .i64 0, .string (⟨#[]⟩ : ByteArray)]) ?_ 4 _ rfl; (with_reducible repeat (first | refine blk_drewN ?_ _ | refine blk_drew ?_ | refine blk_alloc ?_ _)); refine blk_put (cs := #[.int .i64 a0_3, .int .i64 a0_4, .int .i64 a0_5, .int .i64 0, .int .i64 0, .string (⟨#[]⟩ : ByteArray)]) ?_ 3 _ rfl; (with_reducible repeat (first | refine blk_drewN ?_ _ | refine blk_drew ?_ | refine blk_alloc ?_ _)); refine blk_put (cs := #[.int .i64 a0_3, .int .i64 a0_4, .int .i64 0, .int .i64 0, .int .i64 0, .string (⟨#[]⟩ : ByteArray)]) ?_ 2 _ rfl; (with_reducible repeat (first | refine blk_drewN ?_ _ | refine blk_drew ?_ | refine blk_alloc ?_ _)); refine blk_put (cs := #[.int .i64 a0_3, .int .i64 0, .int .i64 0, .int .i64 0, .int .i64 0, .string (⟨#[]⟩ : ByteArray)]) ?_ 1 _ rfl; (with_reducible repeat (first | refine blk_drewN ?_ _ | refine blk_drew ?_ | refine blk_alloc ?_ _)); refine blk_put (cs := #[.int .i64 0, .int .i64 0, .int .i64 0, .int .i64 0, .int .i64 0, .string (⟨#[]⟩ : ByteArray)]) ?_ 0 _ rfl; (with_reducible repeat (first | refine blk_drewN ?_ _ | refine blk_drew ?_ | refine blk_alloc ?_ _)); exact BK159.out⟩, ⟨by repeat (first | (with_reducible first | exact HB.out | apply below_alloc | apply pw_below_drewN | apply below_drew1 | refine below_set ?_ GE158.out | refine below_set ?_ GE159.out) | exact HB.out)⟩⟩
      ·replace c17 := Bool.eq_false_iff.mpr c17
       subst c17
       have H1 : (stowageref15_Encode.j0 k true a0_0 a0_1 a0_2 a0_3 a0_4 a0_5 a0_6 a0_7 a0_8 a0_3 a0_4 a0_5 a0_6 a0_7 a0_8) = some (r1, r2) := by rw [if_neg (show ¬ (false = true) by decide)] at H; exact H
       clear H
       have H := H1
       clear H1
       have H' := Aside0.mk H
       clear H
       have hnb27 := NB158_159.out
       have hnc27 := NB159_158.out
       have hcz28_0 : w5.cell? ⟨gb158, 0, none⟩ = some (.int .i64 a0_0) := (blk_cell BK158.out 0).trans rfl
       have hcz28_1 : w5.cell? ⟨gb158, 1, none⟩ = some (.int .i64 a0_1) := (blk_cell BK158.out 1).trans rfl
       have hcz28_2 : w5.cell? ⟨gb158, 2, none⟩ = some (.bool a0_2) := (blk_cell BK158.out 2).trans rfl
       have hcz28_3 : w5.cell? ⟨gb158, 3, none⟩ = some (.int .i64 a0_3) := (blk_cell BK158.out 3).trans rfl
       have hcz28_4 : w5.cell? ⟨gb158, 4, none⟩ = some (.int .i64 a0_4) := (blk_cell BK158.out 4).trans rfl
       have hcz28_5 : w5.cell? ⟨gb158, 5, none⟩ = some (.int .i64 a0_5) := (blk_cell BK158.out 5).trans rfl
       have hcz28_6 : w5.cell? ⟨gb158, 6, none⟩ = some (.int .i64 a0_6) := (blk_cell BK158.out 6).trans rfl
       have hcz28_7 : w5.cell? ⟨gb158, 7, none⟩ = some (.int .i64 a0_7) := (blk_cell BK158.out 7).trans rfl
       have hcz28_8 : w5.cell? ⟨gb158, 8, none⟩ = some (.string a0_8) := (blk_cell BK158.out 8).trans rfl
       have hfz28_0 := blk_frozen BK158.out 0
       have hfz28_1 := blk_frozen BK158.out 1
       have hfz28_2 := blk_frozen BK158.out 2
       have hfz28_3 := blk_frozen BK158.out 3
       have hfz28_4 := blk_frozen BK158.out 4
       have hfz28_5 := blk_frozen BK158.out 5
       have hfz28_6 := blk_frozen BK158.out 6
       have hfz28_7 := blk_frozen BK158.out 7
       have hfz28_8 := blk_frozen BK158.out 8
       go_wp2_with (first | ((with_reducible refine gate_callee (f := 21) rfl ?_); refine goesL_ (some 11) rfl rfl Try.func21 (by kernel_rfl) rfl #[.int .i64 a0_0, .int .i64 2147483647] rfl (by (try simp only [List.map_toArray, List.map_cons, List.map_nil]); first | done | rfl | (simp only [List.length_drop, List.length_take]; rfl)) ?_; (with_reducible refine (stowageref15_in.calls a0_0 2147483647 true _ A8.out).mono ?_); rintro e w' ⟨rfl, ⟨nd, rfl⟩⟩; refine ⟨_, rfl, ?_⟩) | (go_at_call 21; (with_reducible refine (stowageref15_in.calls a0_1 2147483647 true _ A10.out).mono ?_); rintro e w' ⟨rfl, ⟨nd, rfl⟩⟩; have hcz29_0 : w5.cell? ⟨gb159, 0, none⟩ = some (.int .i64 0) := (blk_cell BK159.out 0).trans rfl; have hcz29_1 : w5.cell? ⟨gb159, 1, none⟩ = some (.int .i64 0) := (blk_cell BK159.out 1).trans rfl; have hcz29_2 : w5.cell? ⟨gb159, 2, none⟩ = some (.int .i64 0) := (blk_cell BK159.out 2).trans rfl; have hcz29_3 : w5.cell? ⟨gb159, 3, none⟩ = some (.int .i64 0) := (blk_cell BK159.out 3).trans rfl; have hcz29_4 : w5.cell? ⟨gb159, 4, none⟩ = some (.int .i64 0) := (blk_cell BK159.out 4).trans rfl; have hcz29_5 : w5.cell? ⟨gb159, 5, none⟩ = some (.string (⟨#[]⟩ : ByteArray)) := (blk_cell BK159.out 5).trans rfl; have hfz29_0 := blk_frozen BK159.out 0; have hfz29_1 := blk_frozen BK159.out 1; have hfz29_2 := blk_frozen BK159.out 2; have hfz29_3 := blk_frozen BK159.out 3; have hfz29_4 := blk_frozen BK159.out 4; have hfz29_5 := blk_frozen BK159.out 5) | (go_at_call 21; (with_reducible refine (stowageref15_in.calls a0_3 9 true _ A12.out).mono ?_); rintro e w' ⟨rfl, ⟨nd, rfl⟩⟩) | (go_at_call 21; (with_reducible refine (stowageref15_in.calls a0_4 1099511627776 true _ A14.out).mono ?_); rintro e w' ⟨rfl, ⟨nd, rfl⟩⟩) | (go_at_call 21; (with_reducible refine (stowageref15_in.calls a0_5 1099511627776 false _ A16.out).mono ?_); rintro e w' ⟨rfl, ⟨nd, rfl⟩⟩))
       go_meet
       case rel => exact ⟨_, (true), (by first | rfl | (simp; done) | (simp [*]; done)), H', ⟨by first | omega | exact Nat.le_refl _⟩, ⟨by (with_reducible repeat (first | refine blk_drewN ?_ _ | refine blk_drew ?_ | refine blk_alloc ?_ _)); refine blk_far ?_ NB158_159.out _; (with_reducible repeat (first | refine blk_drewN ?_ _ | refine blk_drew ?_ | refine blk_alloc ?_ _)); refine blk_far ?_ NB158_159.out _; (with_reducible repeat (first | refine blk_drewN ?_ _ | refine blk_drew ?_ | refine blk_alloc ?_ _)); refine blk_far ?_ NB158_159.out _; (with_reducible repeat (first | refine blk_drewN ?_ _ | refine blk_drew ?_ | refine blk_alloc ?_ _)); refine blk_far ?_ NB158_159.out _; (with_reducible repeat (first | refine blk_drewN ?_ _ | refine blk_drew ?_ | refine blk_alloc ?_ _)); refine blk_far ?_ NB158_159.out _; (with_reducible repeat (first | refine blk_drewN ?_ _ | refine blk_drew ?_ | refine blk_alloc ?_ _)); refine blk_far ?_ NB158_159.out _; (with_reducible repeat (first | refine blk_drewN ?_ _ | refine blk_drew ?_ | refine blk_alloc ?_ _)); exact BK158.out⟩, ⟨by (with_reducible repeat (first | refine blk_drewN ?_ _ | refine blk_drew ?_ | refine blk_alloc ?_ _)); refine blk_put (cs := #[.int .i64 a0_3, .int .i64 a0_4, .int .i64 a0_5, .int .i64 a0_6, .int .i64 a0_7, .string (⟨#[]⟩ : ByteArray)]) ?_ 5 _ rfl; (with_reducible repeat (first | refine blk_drewN ?_ _ | refine blk_drew ?_ | refine blk_alloc ?_ _)); refine blk_put (cs := #[.int .i64 a0_3, .int .i64 a0_4, .int .i64 a0_5, .int .i64 a0_6, .int .i64 0, .string (⟨#[]⟩ : ByteArray)]) ?_ 4 _ rfl; (with_reducible repeat (first | refine blk_drewN ?_ _ | refine blk_drew ?_ | refine blk_alloc ?_ _)); refine blk_put (cs := #[.int .i64 a0_3, .int .i64 a0_4, .int .i64 a0_5, .int .i64 0, .int .i64 0, .string (⟨#[]⟩ : ByteArray)]) ?_ 3 _ rfl; (with_reducible repeat (first | refine blk_drewN ?_ _ | refine blk_drew ?_ | refine blk_alloc ?_ _)); refine blk_put (cs := #[.int .i64 a0_3, .int .i64 a0_4, .int .i64 0, .int .i64 0, .int .i64 0, .string (⟨#[]⟩ : ByteArray)]) ?_ 2 _ rfl; (with_reducible repeat (first | refine blk_drewN ?_ _ | refine blk_drew ?_ | refine blk_alloc ?_ _)); refine blk_put (cs := #[.int .i64 a0_3, .int .i64 0, .int .i64 0, .int .i64 0, .int .i64 0, .string (⟨#[]⟩ : ByteArray)]) ?_ 1 _ rfl; (with_reducible repeat (first | refine blk_drewN ?_ _ | refine blk_drew ?_ | refine blk_alloc ?_ _)); refine blk_put (cs := #[.int .i64 0, .int .i64 0, .int .i64 0, .int .i64 0, .int .i64 0, .string (⟨#[]⟩ : ByteArray)]) ?_ 0 _ rfl; (with_reducible repeat (first | refine blk_drewN ?_ _ | refine blk_drew ?_ | refine blk_alloc ?_ _)); exact BK159.out⟩, ⟨by repeat (first | (with_reducible first | exact HB.out | apply below_alloc | apply pw_below_drewN | apply below_drew1 | refine below_set ?_ GE158.out | refine below_set ?_ GE159.out) | exact HB.out)⟩⟩
     ·replace c15 := Bool.eq_false_iff.mpr c15
      subst c15
      have H1 : (stowageref15_Encode.j0 k true a0_0 a0_1 a0_2 a0_3 a0_4 a0_5 a0_6 a0_7 a0_8 a0_3 a0_4 a0_5 a0_6 a0_7 a0_8) = some (r1, r2) := by rw [if_neg (show ¬ (false = true) by decide)] at H; exact H
      clear H
      have H := H1
      clear H1
      have H' := Aside0.mk H
      clear H
      have hnb30 := NB158_159.out
      have hnc30 := NB159_158.out
      have hcz31_0 : w5.cell? ⟨gb158, 0, none⟩ = some (.int .i64 a0_0) := (blk_cell BK158.out 0).trans rfl
      have hcz31_1 : w5.cell? ⟨gb158, 1, none⟩ = some (.int .i64 a0_1) := (blk_cell BK158.out 1).trans rfl
      have hcz31_2 : w5.cell? ⟨gb158, 2, none⟩ = some (.bool a0_2) := (blk_cell BK158.out 2).trans rfl
      have hcz31_3 : w5.cell? ⟨gb158, 3, none⟩ = some (.int .i64 a0_3) := (blk_cell BK158.out 3).trans rfl
      have hcz31_4 : w5.cell? ⟨gb158, 4, none⟩ = some (.int .i64 a0_4) := (blk_cell BK158.out 4).trans rfl
      have hcz31_5 : w5.cell? ⟨gb158, 5, none⟩ = some (.int .i64 a0_5) := (blk_cell BK158.out 5).trans rfl
      have hcz31_6 : w5.cell? ⟨gb158, 6, none⟩ = some (.int .i64 a0_6) := (blk_cell BK158.out 6).trans rfl
      have hcz31_7 : w5.cell? ⟨gb158, 7, none⟩ = some (.int .i64 a0_7) := (blk_cell BK158.out 7).trans rfl
      have hcz31_8 : w5.cell? ⟨gb158, 8, none⟩ = some (.string a0_8) := (blk_cell BK158.out 8).trans rfl
      have hfz31_0 := blk_frozen BK158.out 0
      have hfz31_1 := blk_frozen BK158.out 1
      have hfz31_2 := blk_frozen BK158.out 2
      have hfz31_3 := blk_frozen BK158.out 3
      have hfz31_4 := blk_frozen BK158.out 4
      have hfz31_5 := blk_frozen BK158.out 5
      have hfz31_6 := blk_frozen BK158.out 6
      have hfz31_7 := blk_frozen BK158.out 7
      have hfz31_8 := blk_frozen BK158.out 8
      go_wp2_with (first | ((with_reducible refine gate_callee (f := 21) rfl ?_); refine goesL_ (some 11) rfl rfl Try.func21 (by kernel_rfl) rfl #[.int .i64 a0_0, .int .i64 2147483647] rfl (by (try simp only [List.map_toArray, List.map_cons, List.map_nil]); first | done | rfl | (simp only [List.length_drop, List.length_take]; rfl)) ?_; (with_reducible refine (stowageref15_in.calls a0_0 2147483647 true _ A8.out).mono ?_); rintro e w' ⟨rfl, ⟨nd, rfl⟩⟩; refine ⟨_, rfl, ?_⟩) | (go_at_call 21; (with_reducible refine (stowageref15_in.calls a0_1 2147483647 true _ A10.out).mono ?_); rintro e w' ⟨rfl, ⟨nd, rfl⟩⟩; have hcz32_0 : w5.cell? ⟨gb159, 0, none⟩ = some (.int .i64 0) := (blk_cell BK159.out 0).trans rfl; have hcz32_1 : w5.cell? ⟨gb159, 1, none⟩ = some (.int .i64 0) := (blk_cell BK159.out 1).trans rfl; have hcz32_2 : w5.cell? ⟨gb159, 2, none⟩ = some (.int .i64 0) := (blk_cell BK159.out 2).trans rfl; have hcz32_3 : w5.cell? ⟨gb159, 3, none⟩ = some (.int .i64 0) := (blk_cell BK159.out 3).trans rfl; have hcz32_4 : w5.cell? ⟨gb159, 4, none⟩ = some (.int .i64 0) := (blk_cell BK159.out 4).trans rfl; have hcz32_5 : w5.cell? ⟨gb159, 5, none⟩ = some (.string (⟨#[]⟩ : ByteArray)) := (blk_cell BK159.out 5).trans rfl; have hfz32_0 := blk_frozen BK159.out 0; have hfz32_1 := blk_frozen BK159.out 1; have hfz32_2 := blk_frozen BK159.out 2; have hfz32_3 := blk_frozen BK159.out 3; have hfz32_4 := blk_frozen BK159.out 4; have hfz32_5 := blk_frozen BK159.out 5) | (go_at_call 21; (with_reducible refine (stowageref15_in.calls a0_3 9 true _ A12.out).mono ?_); rintro e w' ⟨rfl, ⟨nd, rfl⟩⟩) | (go_at_call 21; (with_reducible refine (stowageref15_in.calls a0_4 1099511627776 false _ A14.out).mono ?_); rintro e w' ⟨rfl, ⟨nd, rfl⟩⟩))
      go_meet
      case rel => exact ⟨_, (true), (by first | rfl | (simp; done) | (simp [*]; done)), H', ⟨by first | omega | exact Nat.le_refl _⟩, ⟨by (with_reducible repeat (first | refine blk_drewN ?_ _ | refine blk_drew ?_ | refine blk_alloc ?_ _)); refine blk_far ?_ NB158_159.out _; (with_reducible repeat (first | refine blk_drewN ?_ _ | refine blk_drew ?_ | refine blk_alloc ?_ _)); refine blk_far ?_ NB158_159.out _; (with_reducible repeat (first | refine blk_drewN ?_ _ | refine blk_drew ?_ | refine blk_alloc ?_ _)); refine blk_far ?_ NB158_159.out _; (with_reducible repeat (first | refine blk_drewN ?_ _ | refine blk_drew ?_ | refine blk_alloc ?_ _)); refine blk_far ?_ NB158_159.out _; (with_reducible repeat (first | refine blk_drewN ?_ _ | refine blk_drew ?_ | refine blk_alloc ?_ _)); refine blk_far ?_ NB158_159.out _; (with_reducible repeat (first | refine blk_drewN ?_ _ | refine blk_drew ?_ | refine blk_alloc ?_ _)); refine blk_far ?_ NB158_159.out _; (with_reducible repeat (first | refine blk_drewN ?_ _ | refine blk_drew ?_ | refine blk_alloc ?_ _)); exact BK158.out⟩, ⟨by (with_reducible repeat (first | refine blk_drewN ?_ _ | refine blk_drew ?_ | refine blk_alloc ?_ _)); refine blk_put (cs := #[.int .i64 a0_3, .int .i64 a0_4, .int .i64 a0_5, .int .i64 a0_6, .int .i64 a0_7, .string (⟨#[]⟩ : ByteArray)]) ?_ 5 _ rfl; (with_reducible repeat (first | refine blk_drewN ?_ _ | refine blk_drew ?_ | refine blk_alloc ?_ _)); refine blk_put (cs := #[.int .i64 a0_3, .int .i64 a0_4, .int .i64 a0_5, .int .i64 a0_6, .int .i64 0, .string (⟨#[]⟩ : ByteArray)]) ?_ 4 _ rfl; (with_reducible repeat (first | refine blk_drewN ?_ _ | refine blk_drew ?_ | refine blk_alloc ?_ _)); refine blk_put (cs := #[.int .i64 a0_3, .int .i64 a0_4, .int .i64 a0_5, .int .i64 0, .int .i64 0, .string (⟨#[]⟩ : ByteArray)]) ?_ 3 _ rfl; (with_reducible repeat (first | refine blk_drewN ?_ _ | refine blk_drew ?_ | refine blk_alloc ?_ _)); refine blk_put (cs := #[.int .i64 a0_3, .int .i64 a0_4, .int .i64 0, .int .i64 0, .int .i64 0, .string (⟨#[]⟩ : ByteArray)]) ?_ 2 _ rfl; (with_reducible repeat (first | refine blk_drewN ?_ _ | refine blk_drew ?_ | refine blk_alloc ?_ _)); refine blk_put (cs := #[.int .i64 a0_3, .int .i64 0, .int .i64 0, .int .i64 0, .int .i64 0, .string (⟨#[]⟩ : ByteArray)]) ?_ 1 _ rfl; (with_reducible repeat (first | refine blk_drewN ?_ _ | refine blk_drew ?_ | refine blk_alloc ?_ _)); refine blk_put (cs := #[.int .i64 0, .int .i64 0, .int .i64 0, .int .i64 0, .int .i64 0, .string (⟨#[]⟩ : ByteArray)]) ?_ 0 _ rfl; (with_reducible repeat (first | refine blk_drewN ?_ _ | refine blk_drew ?_ | refine blk_alloc ?_ _)); exact BK159.out⟩, ⟨by repeat (first | (with_reducible first | exact HB.out | apply below_alloc | apply pw_below_drewN | apply below_drew1 | refine below_set ?_ GE158.out | refine below_set ?_ GE159.out) | exact HB.out)⟩⟩
    ·replace c13 := Bool.eq_false_iff.mpr c13
     subst c13
     have H1 : (stowageref15_Encode.j0 k true a0_0 a0_1 a0_2 a0_3 a0_4 a0_5 a0_6 a0_7 a0_8 a0_3 a0_4 a0_5 a0_6 a0_7 a0_8) = some (r1, r2) := by rw [if_neg (show ¬ (false = true) by decide)] at H; exact H
     clear H
     have H := H1
     clear H1
     have H' := Aside0.mk H
     clear H
     have hnb33 := NB158_159.out
     have hnc33 := NB159_158.out
     have hcz34_0 : w5.cell? ⟨gb158, 0, none⟩ = some (.int .i64 a0_0) := (blk_cell BK158.out 0).trans rfl
     have hcz34_1 : w5.cell? ⟨gb158, 1, none⟩ = some (.int .i64 a0_1) := (blk_cell BK158.out 1).trans rfl
     have hcz34_2 : w5.cell? ⟨gb158, 2, none⟩ = some (.bool a0_2) := (blk_cell BK158.out 2).trans rfl
     have hcz34_3 : w5.cell? ⟨gb158, 3, none⟩ = some (.int .i64 a0_3) := (blk_cell BK158.out 3).trans rfl
     have hcz34_4 : w5.cell? ⟨gb158, 4, none⟩ = some (.int .i64 a0_4) := (blk_cell BK158.out 4).trans rfl
     have hcz34_5 : w5.cell? ⟨gb158, 5, none⟩ = some (.int .i64 a0_5) := (blk_cell BK158.out 5).trans rfl
     have hcz34_6 : w5.cell? ⟨gb158, 6, none⟩ = some (.int .i64 a0_6) := (blk_cell BK158.out 6).trans rfl
     have hcz34_7 : w5.cell? ⟨gb158, 7, none⟩ = some (.int .i64 a0_7) := (blk_cell BK158.out 7).trans rfl
     have hcz34_8 : w5.cell? ⟨gb158, 8, none⟩ = some (.string a0_8) := (blk_cell BK158.out 8).trans rfl
     have hfz34_0 := blk_frozen BK158.out 0
     have hfz34_1 := blk_frozen BK158.out 1
     have hfz34_2 := blk_frozen BK158.out 2
     have hfz34_3 := blk_frozen BK158.out 3
     have hfz34_4 := blk_frozen BK158.out 4
     have hfz34_5 := blk_frozen BK158.out 5
     have hfz34_6 := blk_frozen BK158.out 6
     have hfz34_7 := blk_frozen BK158.out 7
     have hfz34_8 := blk_frozen BK158.out 8
     go_wp2_with (first | ((with_reducible refine gate_callee (f := 21) rfl ?_); refine goesL_ (some 11) rfl rfl Try.func21 (by kernel_rfl) rfl #[.int .i64 a0_0, .int .i64 2147483647] rfl (by (try simp only [List.map_toArray, List.map_cons, List.map_nil]); first | done | rfl | (simp only [List.length_drop, List.length_take]; rfl)) ?_; (with_reducible refine (stowageref15_in.calls a0_0 2147483647 true _ A8.out).mono ?_); rintro e w' ⟨rfl, ⟨nd, rfl⟩⟩; refine ⟨_, rfl, ?_⟩) | (go_at_call 21; (with_reducible refine (stowageref15_in.calls a0_1 2147483647 true _ A10.out).mono ?_); rintro e w' ⟨rfl, ⟨nd, rfl⟩⟩; have hcz35_0 : w5.cell? ⟨gb159, 0, none⟩ = some (.int .i64 0) := (blk_cell BK159.out 0).trans rfl; have hcz35_1 : w5.cell? ⟨gb159, 1, none⟩ = some (.int .i64 0) := (blk_cell BK159.out 1).trans rfl; have hcz35_2 : w5.cell? ⟨gb159, 2, none⟩ = some (.int .i64 0) := (blk_cell BK159.out 2).trans rfl; have hcz35_3 : w5.cell? ⟨gb159, 3, none⟩ = some (.int .i64 0) := (blk_cell BK159.out 3).trans rfl; have hcz35_4 : w5.cell? ⟨gb159, 4, none⟩ = some (.int .i64 0) := (blk_cell BK159.out 4).trans rfl; have hcz35_5 : w5.cell? ⟨gb159, 5, none⟩ = some (.string (⟨#[]⟩ : ByteArray)) := (blk_cell BK159.out 5).trans rfl; have hfz35_0 := blk_frozen BK159.out 0; have hfz35_1 := blk_frozen BK159.out 1; have hfz35_2 := blk_frozen BK159.out 2; have hfz35_3 := blk_frozen BK159.out 3; have hfz35_4 := blk_frozen BK159.out 4; have hfz35_5 := blk_frozen BK159.out 5) | (go_at_call 21; (with_reducible refine (stowageref15_in.calls a0_3 9 false _ A12.out).mono ?_); rintro e w' ⟨rfl, ⟨nd, rfl⟩⟩))
     go_meet
     case rel => exact ⟨_, (true), (by first | rfl | (simp; done) | (simp [*]; done)), H', ⟨by first | omega | exact Nat.le_refl _⟩, ⟨by (with_reducible repeat (first | refine blk_drewN ?_ _ | refine blk_drew ?_ | refine blk_alloc ?_ _)); refine blk_far ?_ NB158_159.out _; (with_reducible repeat (first | refine blk_drewN ?_ _ | refine blk_drew ?_ | refine blk_alloc ?_ _)); refine blk_far ?_ NB158_159.out _; (with_reducible repeat (first | refine blk_drewN ?_ _ | refine blk_drew ?_ | refine blk_alloc ?_ _)); refine blk_far ?_ NB158_159.out _; (with_reducible repeat (first | refine blk_drewN ?_ _ | refine blk_drew ?_ | refine blk_alloc ?_ _)); refine blk_far ?_ NB158_159.out _; (with_reducible repeat (first | refine blk_drewN ?_ _ | refine blk_drew ?_ | refine blk_alloc ?_ _)); refine blk_far ?_ NB158_159.out _; (with_reducible repeat (first | refine blk_drewN ?_ _ | refine blk_drew ?_ | refine blk_alloc ?_ _)); refine blk_far ?_ NB158_159.out _; (with_reducible repeat (first | refine blk_drewN ?_ _ | refine blk_drew ?_ | refine blk_alloc ?_ _)); exact BK158.out⟩, ⟨by (with_reducible repeat (first | refine blk_drewN ?_ _ | refine blk_drew ?_ | refine blk_alloc ?_ _)); refine blk_put (cs := #[.int .i64 a0_3, .int .i64 a0_4, .int .i64 a0_5, .int .i64 a0_6, .int .i64 a0_7, .string (⟨#[]⟩ : ByteArray)]) ?_ 5 _ rfl; (with_reducible repeat (first | refine blk_drewN ?_ _ | refine blk_drew ?_ | refine blk_alloc ?_ _)); refine blk_put (cs := #[.int .i64 a0_3, .int .i64 a0_4, .int .i64 a0_5, .int .i64 a0_6, .int .i64 0, .string (⟨#[]⟩ : ByteArray)]) ?_ 4 _ rfl; (with_reducible repeat (first | refine blk_drewN ?_ _ | refine blk_drew ?_ | refine blk_alloc ?_ _)); refine blk_put (cs := #[.int .i64 a0_3, .int .i64 a0_4, .int .i64 a0_5, .int .i64 0, .int .i64 0, .string (⟨#[]⟩ : ByteArray)]) ?_ 3 _ rfl; (with_reducible repeat (first | refine blk_drewN ?_ _ | refine blk_drew ?_ | refine blk_alloc ?_ _)); refine blk_put (cs := #[.int .i64 a0_3, .int .i64 a0_4, .int .i64 0, .int .i64 0, .int .i64 0, .string (⟨#[]⟩ : ByteArray)]) ?_ 2 _ rfl; (with_reducible repeat (first | refine blk_drewN ?_ _ | refine blk_drew ?_ | refine blk_alloc ?_ _)); refine blk_put (cs := #[.int .i64 a0_3, .int .i64 0, .int .i64 0, .int .i64 0, .int .i64 0, .string (⟨#[]⟩ : ByteArray)]) ?_ 1 _ rfl; (with_reducible repeat (first | refine blk_drewN ?_ _ | refine blk_drew ?_ | refine blk_alloc ?_ _)); refine blk_put (cs := #[.int .i64 0, .int .i64 0, .int .i64 0, .int .i64 0, .int .i64 0, .string (⟨#[]⟩ : ByteArray)]) ?_ 0 _ rfl; (with_reducible repeat (first | refine blk_drewN ?_ _ | refine blk_drew ?_ | refine blk_alloc ?_ _)); exact BK159.out⟩, ⟨by repeat (first | (with_reducible first | exact HB.out | apply below_alloc | apply pw_below_drewN | apply below_drew1 | refine below_set ?_ GE158.out | refine below_set ?_ GE159.out) | exact HB.out)⟩⟩
   ·replace c11 := Bool.eq_false_iff.mpr c11
    subst c11
    have H1 : (stowageref15_Encode.j0 k true a0_0 a0_1 a0_2 a0_3 a0_4 a0_5 a0_6 a0_7 a0_8 a0_3 a0_4 a0_5 a0_6 a0_7 a0_8) = some (r1, r2) := by rw [if_neg (show ¬ (false = true) by decide)] at H; exact H
    clear H
    have H := H1
    clear H1
    have H' := Aside0.mk H
    clear H
    have hnb36 := NB158_159.out
    have hnc36 := NB159_158.out
    have hcz37_0 : w5.cell? ⟨gb158, 0, none⟩ = some (.int .i64 a0_0) := (blk_cell BK158.out 0).trans rfl
    have hcz37_1 : w5.cell? ⟨gb158, 1, none⟩ = some (.int .i64 a0_1) := (blk_cell BK158.out 1).trans rfl
    have hcz37_2 : w5.cell? ⟨gb158, 2, none⟩ = some (.bool a0_2) := (blk_cell BK158.out 2).trans rfl
    have hcz37_3 : w5.cell? ⟨gb158, 3, none⟩ = some (.int .i64 a0_3) := (blk_cell BK158.out 3).trans rfl
    have hcz37_4 : w5.cell? ⟨gb158, 4, none⟩ = some (.int .i64 a0_4) := (blk_cell BK158.out 4).trans rfl
    have hcz37_5 : w5.cell? ⟨gb158, 5, none⟩ = some (.int .i64 a0_5) := (blk_cell BK158.out 5).trans rfl
    have hcz37_6 : w5.cell? ⟨gb158, 6, none⟩ = some (.int .i64 a0_6) := (blk_cell BK158.out 6).trans rfl
    have hcz37_7 : w5.cell? ⟨gb158, 7, none⟩ = some (.int .i64 a0_7) := (blk_cell BK158.out 7).trans rfl
    have hcz37_8 : w5.cell? ⟨gb158, 8, none⟩ = some (.string a0_8) := (blk_cell BK158.out 8).trans rfl
    have hfz37_0 := blk_frozen BK158.out 0
    have hfz37_1 := blk_frozen BK158.out 1
    have hfz37_2 := blk_frozen BK158.out 2
    have hfz37_3 := blk_frozen BK158.out 3
    have hfz37_4 := blk_frozen BK158.out 4
    have hfz37_5 := blk_frozen BK158.out 5
    have hfz37_6 := blk_frozen BK158.out 6
    have hfz37_7 := blk_frozen BK158.out 7
    have hfz37_8 := blk_frozen BK158.out 8
    go_wp2_with (first | ((with_reducible refine gate_callee (f := 21) rfl ?_); refine goesL_ (some 11) rfl rfl Try.func21 (by kernel_rfl) rfl #[.int .i64 a0_0, .int .i64 2147483647] rfl (by (try simp only [List.map_toArray, List.map_cons, List.map_nil]); first | done | rfl | (simp only [List.length_drop, List.length_take]; rfl)) ?_; (with_reducible refine (stowageref15_in.calls a0_0 2147483647 true _ A8.out).mono ?_); rintro e w' ⟨rfl, ⟨nd, rfl⟩⟩; refine ⟨_, rfl, ?_⟩) | (go_at_call 21; (with_reducible refine (stowageref15_in.calls a0_1 2147483647 false _ A10.out).mono ?_); rintro e w' ⟨rfl, ⟨nd, rfl⟩⟩))
    go_meet
    case rel => exact ⟨_, (true), (by first | rfl | (simp; done) | (simp [*]; done)), H', ⟨by first | omega | exact Nat.le_refl _⟩, ⟨by (with_reducible repeat (first | refine blk_drewN ?_ _ | refine blk_drew ?_ | refine blk_alloc ?_ _)); refine blk_far ?_ NB158_159.out _; (with_reducible repeat (first | refine blk_drewN ?_ _ | refine blk_drew ?_ | refine blk_alloc ?_ _)); refine blk_far ?_ NB158_159.out _; (with_reducible repeat (first | refine blk_drewN ?_ _ | refine blk_drew ?_ | refine blk_alloc ?_ _)); refine blk_far ?_ NB158_159.out _; (with_reducible repeat (first | refine blk_drewN ?_ _ | refine blk_drew ?_ | refine blk_alloc ?_ _)); refine blk_far ?_ NB158_159.out _; (with_reducible repeat (first | refine blk_drewN ?_ _ | refine blk_drew ?_ | refine blk_alloc ?_ _)); refine blk_far ?_ NB158_159.out _; (with_reducible repeat (first | refine blk_drewN ?_ _ | refine blk_drew ?_ | refine blk_alloc ?_ _)); refine blk_far ?_ NB158_159.out _; (with_reducible repeat (first | refine blk_drewN ?_ _ | refine blk_drew ?_ | refine blk_alloc ?_ _)); exact BK158.out⟩, ⟨by (with_reducible repeat (first | refine blk_drewN ?_ _ | refine blk_drew ?_ | refine blk_alloc ?_ _)); refine blk_put (cs := #[.int .i64 a0_3, .int .i64 a0_4, .int .i64 a0_5, .int .i64 a0_6, .int .i64 a0_7, .string (⟨#[]⟩ : ByteArray)]) ?_ 5 _ rfl; (with_reducible repeat (first | refine blk_drewN ?_ _ | refine blk_drew ?_ | refine blk_alloc ?_ _)); refine blk_put (cs := #[.int .i64 a0_3, .int .i64 a0_4, .int .i64 a0_5, .int .i64 a0_6, .int .i64 0, .string (⟨#[]⟩ : ByteArray)]) ?_ 4 _ rfl; (with_reducible repeat (first | refine blk_drewN ?_ _ | refine blk_drew ?_ | refine blk_alloc ?_ _)); refine blk_put (cs := #[.int .i64 a0_3, .int .i64 a0_4, .int .i64 a0_5, .int .i64 0, .int .i64 0, .string (⟨#[]⟩ : ByteArray)]) ?_ 3 _ rfl; (with_reducible repeat (first | refine blk_drewN ?_ _ | refine blk_drew ?_ | refine blk_alloc ?_ _)); refine blk_put (cs := #[.int .i64 a0_3, .int .i64 a0_4, .int .i64 0, .int .i64 0, .int .i64 0, .string (⟨#[]⟩ : ByteArray)]) ?_ 2 _ rfl; (with_reducible repeat (first | refine blk_drewN ?_ _ | refine blk_drew ?_ | refine blk_alloc ?_ _)); refine blk_put (cs := #[.int .i64 a0_3, .int .i64 0, .int .i64 0, .int .i64 0, .int .i64 0, .string (⟨#[]⟩ : ByteArray)]) ?_ 1 _ rfl; (with_reducible repeat (first | refine blk_drewN ?_ _ | refine blk_drew ?_ | refine blk_alloc ?_ _)); refine blk_put (cs := #[.int .i64 0, .int .i64 0, .int .i64 0, .int .i64 0, .int .i64 0, .string (⟨#[]⟩ : ByteArray)]) ?_ 0 _ rfl; (with_reducible repeat (first | refine blk_drewN ?_ _ | refine blk_drew ?_ | refine blk_alloc ?_ _)); exact BK159.out⟩, ⟨by repeat (first | (with_reducible first | exact HB.out | apply below_alloc | apply pw_below_drewN | apply below_drew1 | refine below_set ?_ GE158.out | refine below_set ?_ GE159.out) | exact HB.out)⟩⟩
  ·replace c9 := Bool.eq_false_iff.mpr c9
   subst c9
   have H1 : (stowageref15_Encode.j0 k true a0_0 a0_1 a0_2 a0_3 a0_4 a0_5 a0_6 a0_7 a0_8 a0_3 a0_4 a0_5 a0_6 a0_7 a0_8) = some (r1, r2) := by rw [if_neg (show ¬ (false = true) by decide)] at H; exact H
   clear H
   have H := H1
   clear H1
   have H' := Aside0.mk H
   clear H
   have hnb38 := NB158_159.out
   have hnc38 := NB159_158.out
   have hcz39_0 : w5.cell? ⟨gb158, 0, none⟩ = some (.int .i64 a0_0) := (blk_cell BK158.out 0).trans rfl
   have hcz39_1 : w5.cell? ⟨gb158, 1, none⟩ = some (.int .i64 a0_1) := (blk_cell BK158.out 1).trans rfl
   have hcz39_2 : w5.cell? ⟨gb158, 2, none⟩ = some (.bool a0_2) := (blk_cell BK158.out 2).trans rfl
   have hcz39_3 : w5.cell? ⟨gb158, 3, none⟩ = some (.int .i64 a0_3) := (blk_cell BK158.out 3).trans rfl
   have hcz39_4 : w5.cell? ⟨gb158, 4, none⟩ = some (.int .i64 a0_4) := (blk_cell BK158.out 4).trans rfl
   have hcz39_5 : w5.cell? ⟨gb158, 5, none⟩ = some (.int .i64 a0_5) := (blk_cell BK158.out 5).trans rfl
   have hcz39_6 : w5.cell? ⟨gb158, 6, none⟩ = some (.int .i64 a0_6) := (blk_cell BK158.out 6).trans rfl
   have hcz39_7 : w5.cell? ⟨gb158, 7, none⟩ = some (.int .i64 a0_7) := (blk_cell BK158.out 7).trans rfl
   have hcz39_8 : w5.cell? ⟨gb158, 8, none⟩ = some (.string a0_8) := (blk_cell BK158.out 8).trans rfl
   have hfz39_0 := blk_frozen BK158.out 0
   have hfz39_1 := blk_frozen BK158.out 1
   have hfz39_2 := blk_frozen BK158.out 2
   have hfz39_3 := blk_frozen BK158.out 3
   have hfz39_4 := blk_frozen BK158.out 4
   have hfz39_5 := blk_frozen BK158.out 5
   have hfz39_6 := blk_frozen BK158.out 6
   have hfz39_7 := blk_frozen BK158.out 7
   have hfz39_8 := blk_frozen BK158.out 8
   go_wp2_with (first | ((with_reducible refine gate_callee (f := 21) rfl ?_); refine goesL_ (some 11) rfl rfl Try.func21 (by kernel_rfl) rfl #[.int .i64 a0_0, .int .i64 2147483647] rfl (by (try simp only [List.map_toArray, List.map_cons, List.map_nil]); first | done | rfl | (simp only [List.length_drop, List.length_take]; rfl)) ?_; (with_reducible refine (stowageref15_in.calls a0_0 2147483647 false _ A8.out).mono ?_); rintro e w' ⟨rfl, ⟨nd, rfl⟩⟩; refine ⟨_, rfl, ?_⟩))
   go_meet
   case rel => exact ⟨_, (true), (by first | rfl | (simp; done) | (simp [*]; done)), H', ⟨by first | omega | exact Nat.le_refl _⟩, ⟨by (with_reducible repeat (first | refine blk_drewN ?_ _ | refine blk_drew ?_ | refine blk_alloc ?_ _)); refine blk_far ?_ NB158_159.out _; (with_reducible repeat (first | refine blk_drewN ?_ _ | refine blk_drew ?_ | refine blk_alloc ?_ _)); refine blk_far ?_ NB158_159.out _; (with_reducible repeat (first | refine blk_drewN ?_ _ | refine blk_drew ?_ | refine blk_alloc ?_ _)); refine blk_far ?_ NB158_159.out _; (with_reducible repeat (first | refine blk_drewN ?_ _ | refine blk_drew ?_ | refine blk_alloc ?_ _)); refine blk_far ?_ NB158_159.out _; (with_reducible repeat (first | refine blk_drewN ?_ _ | refine blk_drew ?_ | refine blk_alloc ?_ _)); refine blk_far ?_ NB158_159.out _; (with_reducible repeat (first | refine blk_drewN ?_ _ | refine blk_drew ?_ | refine blk_alloc ?_ _)); refine blk_far ?_ NB158_159.out _; (with_reducible repeat (first | refine blk_drewN ?_ _ | refine blk_drew ?_ | refine blk_alloc ?_ _)); exact BK158.out⟩, ⟨by (with_reducible repeat (first | refine blk_drewN ?_ _ | refine blk_drew ?_ | refine blk_alloc ?_ _)); refine blk_put (cs := #[.int .i64 a0_3, .int .i64 a0_4, .int .i64 a0_5, .int .i64 a0_6, .int .i64 a0_7, .string (⟨#[]⟩ : ByteArray)]) ?_ 5 _ rfl; (with_reducible repeat (first | refine blk_drewN ?_ _ | refine blk_drew ?_ | refine blk_alloc ?_ _)); refine blk_put (cs := #[.int .i64 a0_3, .int .i64 a0_4, .int .i64 a0_5, .int .i64 a0_6, .int .i64 0, .string (⟨#[]⟩ : ByteArray)]) ?_ 4 _ rfl; (with_reducible repeat (first | refine blk_drewN ?_ _ | refine blk_drew ?_ | refine blk_alloc ?_ _)); refine blk_put (cs := #[.int .i64 a0_3, .int .i64 a0_4, .int .i64 a0_5, .int .i64 0, .int .i64 0, .string (⟨#[]⟩ : ByteArray)]) ?_ 3 _ rfl; (with_reducible repeat (first | refine blk_drewN ?_ _ | refine blk_drew ?_ | refine blk_alloc ?_ _)); refine blk_put (cs := #[.int .i64 a0_3, .int .i64 a0_4, .int .i64 0, .int .i64 0, .int .i64 0, .string (⟨#[]⟩ : ByteArray)]) ?_ 2 _ rfl; (with_reducible repeat (first | refine blk_drewN ?_ _ | refine blk_drew ?_ | refine blk_alloc ?_ _)); refine blk_put (cs := #[.int .i64 a0_3, .int .i64 0, .int .i64 0, .int .i64 0, .int .i64 0, .string (⟨#[]⟩ : ByteArray)]) ?_ 1 _ rfl; (with_reducible repeat (first | refine blk_drewN ?_ _ | refine blk_drew ?_ | refine blk_alloc ?_ _)); refine blk_put (cs := #[.int .i64 0, .int .i64 0, .int .i64 0, .int .i64 0, .int .i64 0, .string (⟨#[]⟩ : ByteArray)]) ?_ 0 _ rfl; (with_reducible repeat (first | refine blk_drewN ?_ _ | refine blk_drew ?_ | refine blk_alloc ?_ _)); exact BK159.out⟩, ⟨by repeat (first | (with_reducible first | exact HB.out | apply below_alloc | apply pw_below_drewN | apply below_drew1 | refine below_set ?_ GE158.out | refine below_set ?_ GE159.out) | exact HB.out)⟩⟩
 case rest =>
  clear HC2
  try clear c1
  try clear c2
  try clear p2
  try clear c3
  try clear c6
  try clear c9
  try clear c11
  try clear c13
  try clear c15
  try clear c17
  try clear c19
  try clear c21
  try clear c24
  try clear c27
  try clear c30
  try clear c33
  try clear c36
  try clear c38
  try clear hcz22_0
  try clear hcz22_1
  try clear hcz22_2
  try clear hcz22_3
  try clear hcz22_4
  try clear hcz22_5
  try clear hcz22_6
  try clear hcz22_7
  try clear hcz22_8
  try clear hcz23_0
  try clear hcz23_1
  try clear hcz23_2
  try clear hcz23_3
  try clear hcz23_4
  try clear hcz23_5
  try clear hcz25_0
  try clear hcz25_1
  try clear hcz25_2
  try clear hcz25_3
  try clear hcz25_4
  try clear hcz25_5
  try clear hcz25_6
  try clear hcz25_7
  try clear hcz25_8
  try clear hcz26_0
  try clear hcz26_1
  try clear hcz26_2
  try clear hcz26_3
  try clear hcz26_4
  try clear hcz26_5
  try clear hcz28_0
  try clear hcz28_1
  try clear hcz28_2
  try clear hcz28_3
  try clear hcz28_4
  try clear hcz28_5
  try clear hcz28_6
  try clear hcz28_7
  try clear hcz28_8
  try clear hcz29_0
  try clear hcz29_1
  try clear hcz29_2
  try clear hcz29_3
  try clear hcz29_4
  try clear hcz29_5
  try clear hcz31_0
  try clear hcz31_1
  try clear hcz31_2
  try clear hcz31_3
  try clear hcz31_4
  try clear hcz31_5
  try clear hcz31_6
  try clear hcz31_7
  try clear hcz31_8
  try clear hcz32_0
  try clear hcz32_1
  try clear hcz32_2
  try clear hcz32_3
  try clear hcz32_4
  try clear hcz32_5
  try clear hcz34_0
  try clear hcz34_1
  try clear hcz34_2
  try clear hcz34_3
  try clear hcz34_4
  try clear hcz34_5
  try clear hcz34_6
  try clear hcz34_7
  try clear hcz34_8
  try clear hcz35_0
  try clear hcz35_1
  try clear hcz35_2
  try clear hcz35_3
  try clear hcz35_4
  try clear hcz35_5
  try clear hcz37_0
  try clear hcz37_1
  try clear hcz37_2
  try clear hcz37_3
  try clear hcz37_4
  try clear hcz37_5
  try clear hcz37_6
  try clear hcz37_7
  try clear hcz37_8
  try clear hcz39_0
  try clear hcz39_1
  try clear hcz39_2
  try clear hcz39_3
  try clear hcz39_4
  try clear hcz39_5
  try clear hcz39_6
  try clear hcz39_7
  try clear hcz39_8
  try clear hcz4_0
  try clear hcz4_1
  try clear hcz4_2
  try clear hcz4_3
  try clear hcz4_4
  try clear hcz4_5
  try clear hcz4_6
  try clear hcz4_7
  try clear hcz4_8
  try clear hcz7_0
  try clear hcz7_1
  try clear hcz7_2
  try clear hcz7_3
  try clear hcz7_4
  try clear hcz7_5
  try clear hfz22_0
  try clear hfz22_1
  try clear hfz22_2
  try clear hfz22_3
  try clear hfz22_4
  try clear hfz22_5
  try clear hfz22_6
  try clear hfz22_7
  try clear hfz22_8
  try clear hfz23_0
  try clear hfz23_1
  try clear hfz23_2
  try clear hfz23_3
  try clear hfz23_4
  try clear hfz23_5
  try clear hfz25_0
  try clear hfz25_1
  try clear hfz25_2
  try clear hfz25_3
  try clear hfz25_4
  try clear hfz25_5
  try clear hfz25_6
  try clear hfz25_7
  try clear hfz25_8
  try clear hfz26_0
  try clear hfz26_1
  try clear hfz26_2
  try clear hfz26_3
  try clear hfz26_4
  try clear hfz26_5
  try clear hfz28_0
  try clear hfz28_1
  try clear hfz28_2
  try clear hfz28_3
  try clear hfz28_4
  try clear hfz28_5
  try clear hfz28_6
  try clear hfz28_7
  try clear hfz28_8
  try clear hfz29_0
  try clear hfz29_1
  try clear hfz29_2
  try clear hfz29_3
  try clear hfz29_4
  try clear hfz29_5
  try clear hfz31_0
  try clear hfz31_1
  try clear hfz31_2
  try clear hfz31_3
  try clear hfz31_4
  try clear hfz31_5
  try clear hfz31_6
  try clear hfz31_7
  try clear hfz31_8
  try clear hfz32_0
  try clear hfz32_1
  try clear hfz32_2
  try clear hfz32_3
  try clear hfz32_4
  try clear hfz32_5
  try clear hfz34_0
  try clear hfz34_1
  try clear hfz34_2
  try clear hfz34_3
  try clear hfz34_4
  try clear hfz34_5
  try clear hfz34_6
  try clear hfz34_7
  try clear hfz34_8
  try clear hfz35_0
  try clear hfz35_1
  try clear hfz35_2
  try clear hfz35_3
  try clear hfz35_4
  try clear hfz35_5
  try clear hfz37_0
  try clear hfz37_1
  try clear hfz37_2
  try clear hfz37_3
  try clear hfz37_4
  try clear hfz37_5
  try clear hfz37_6
  try clear hfz37_7
  try clear hfz37_8
  try clear hfz39_0
  try clear hfz39_1
  try clear hfz39_2
  try clear hfz39_3
  try clear hfz39_4
  try clear hfz39_5
  try clear hfz39_6
  try clear hfz39_7
  try clear hfz39_8
  try clear hfz4_0
  try clear hfz4_1
  try clear hfz4_2
  try clear hfz4_3
  try clear hfz4_4
  try clear hfz4_5
  try clear hfz4_6
  try clear hfz4_7
  try clear hfz4_8
  try clear hfz7_0
  try clear hfz7_1
  try clear hfz7_2
  try clear hfz7_3
  try clear hfz7_4
  try clear hfz7_5
  obtain ⟨kq, x48_1, rfl, HA, HJ1, BK158, BK159, HB⟩ := hcut
  cases kq with
  | zero => exact absurd HA.out (by simp [stowageref15_Encode.j0])
  | succ kj1 =>
   have H := HA.out
   clear HA
   simp only [stowageref15_Encode.j0] at H
   by_cases c40 : x48_1 = true
   ·subst c40
    have H1 : (some (([] : List Int), 7)) = some (r1, r2) := by rw [if_pos rfl] at H; exact H
    clear H
    have H := H1
    clear H1
    simp only [Option.some.injEq, Prod.mk.injEq] at H
    obtain ⟨rfl, rfl⟩ := H
    go_wp2
    go_ret2
    exact ⟨_, by first | rfl | (simp [errW_none, errW_some] <;> rfl) | (simp [*, errW_none, errW_some] <;> rfl), by first | exact Kd.R_nil _ _ _ _ _ | exact Kd.N_nil _ _ _ _ _ | exact Kd.V_nil _ _ _ _ _ | exact Kd.Q_nil _ _ _ _ _ | exact Kd.S_nil _ _ _ _ _, by repeat (first | (with_reducible first | exact HB.out | apply below_alloc | apply pw_below_drewN | apply below_drew1 | refine below_set ?_ GE158.out | refine below_set ?_ GE159.out) | exact HB.out)⟩
   ·replace c40 := Bool.eq_false_iff.mpr c40
    subst c40
    have H1 : (if (a0_8.size : Int) = 0 then (stowageref15_Encode.j1 kj1 false a0_0 a0_1 a0_2 a0_3 a0_4 a0_5 a0_6 a0_7 a0_8 a0_3 a0_4 a0_5 a0_6 a0_7 a0_8) else (stowageref15_Encode.j1 kj1 ((a0_8.size : Int) != 16) a0_0 a0_1 a0_2 a0_3 a0_4 a0_5 a0_6 a0_7 a0_8 a0_3 a0_4 a0_5 a0_6 a0_7 a0_8)) = some (r1, r2) := by rw [if_neg (show ¬ (false = true) by decide)] at H; exact H
    clear H
    have H := H1
    clear H1
    have HC41 := Aside0.mk H
    clear H
    go_upto_region 4 with (fail)
    go_cut [58] (fun v58 wc => ∃ (kq : Nat) (x58_40 : Bool), v58 = .bool x58_40 ∧ Aside0 (stowageref15_Encode.j1 kq x58_40 a0_0 a0_1 a0_2 a0_3 a0_4 a0_5 a0_6 a0_7 a0_8 a0_3 a0_4 a0_5 a0_6 a0_7 a0_8 = some (r1, r2)) ∧ Aside0 (kq ≤ kj1) ∧ Aside0 (wc.heap[gb158]? = some (.cells #[.int .i64 a0_0, .int .i64 a0_1, .bool a0_2, .int .i64 a0_3, .int .i64 a0_4, .int .i64 a0_5, .int .i64 a0_6, .int .i64 a0_7, .string a0_8] 25 (0, 0))) ∧ Aside0 (wc.heap[gb159]? = some (.cells #[.int .i64 a0_3, .int .i64 a0_4, .int .i64 a0_5, .int .i64 a0_6, .int .i64 a0_7, .string a0_8] 23 (0, 0))) ∧ Aside0 (Below w.heap.size w wc))
    case first =>
     have H := HC41.out
     clear HC41
     by_cases c42 : (a0_8.size : Int) = 0
     ·rw [if_pos c42] at H
      have c42b0 : ((a0_8.size : Int) == 0) = true := beq_iff_eq.mpr c42
      have c42b1 : ((a0_8.size : Int) != 0) = false := bne_eq_false_iff_eq.mpr c42
      clear c42
      (first | rw [c42b0] | (simp only [i64_w, i32_w]; rw [c42b0]) | rw [c42b1] | skip)
      have H' := Aside0.mk H
      clear H
      have hnb43 := NB159_158.out
      have hnc43 := NB158_159.out
      have hcz44_0 : wc.cell? ⟨gb159, 0, none⟩ = some (.int .i64 a0_3) := (blk_cell BK159.out 0).trans rfl
      have hcz44_1 : wc.cell? ⟨gb159, 1, none⟩ = some (.int .i64 a0_4) := (blk_cell BK159.out 1).trans rfl
      have hcz44_2 : wc.cell? ⟨gb159, 2, none⟩ = some (.int .i64 a0_5) := (blk_cell BK159.out 2).trans rfl
      have hcz44_3 : wc.cell? ⟨gb159, 3, none⟩ = some (.int .i64 a0_6) := (blk_cell BK159.out 3).trans rfl
      have hcz44_4 : wc.cell? ⟨gb159, 4, none⟩ = some (.int .i64 a0_7) := (blk_cell BK159.out 4).trans rfl
      have hcz44_5 : wc.cell? ⟨gb159, 5, none⟩ = some (.string a0_8) := (blk_cell BK159.out 5).trans rfl
      have hfz44_0 := blk_frozen BK159.out 0
      have hfz44_1 := blk_frozen BK159.out 1
      have hfz44_2 := blk_frozen BK159.out 2
      have hfz44_3 := blk_frozen BK159.out 3
      have hfz44_4 := blk_frozen BK159.out 4
      have hfz44_5 := blk_frozen BK159.out 5
      go_wp2
      go_meet
      case rel => exact ⟨_, (false), (by first | rfl | (simp; done) | (simp [*]; done)), H', ⟨by have := HJ1.out; first | omega | exact Nat.le_refl _⟩, ⟨by (with_reducible repeat (first | refine blk_drewN ?_ _ | refine blk_drew ?_ | refine blk_alloc ?_ _)); exact BK158.out⟩, ⟨by (with_reducible repeat (first | refine blk_drewN ?_ _ | refine blk_drew ?_ | refine blk_alloc ?_ _)); exact BK159.out⟩, ⟨by repeat (first | (with_reducible first | exact HB.out | apply below_alloc | apply pw_below_drewN | apply below_drew1 | refine below_set ?_ GE158.out | refine below_set ?_ GE159.out) | exact HB.out)⟩⟩
     ·rw [if_neg c42] at H
      have c42b0 : ((a0_8.size : Int) == 0) = false := beq_eq_false_iff_ne.mpr c42
      have c42b1 : ((a0_8.size : Int) != 0) = true := bne_iff_ne.mpr c42
      (first | rw [c42b0] | (simp only [i64_w, i32_w]; rw [c42b0]) | rw [c42b1] | skip)
      have H' := Aside0.mk H
      clear H
      have hnb45 := NB159_158.out
      have hnc45 := NB158_159.out
      have hcz46_0 : wc.cell? ⟨gb159, 0, none⟩ = some (.int .i64 a0_3) := (blk_cell BK159.out 0).trans rfl
      have hcz46_1 : wc.cell? ⟨gb159, 1, none⟩ = some (.int .i64 a0_4) := (blk_cell BK159.out 1).trans rfl
      have hcz46_2 : wc.cell? ⟨gb159, 2, none⟩ = some (.int .i64 a0_5) := (blk_cell BK159.out 2).trans rfl
      have hcz46_3 : wc.cell? ⟨gb159, 3, none⟩ = some (.int .i64 a0_6) := (blk_cell BK159.out 3).trans rfl
      have hcz46_4 : wc.cell? ⟨gb159, 4, none⟩ = some (.int .i64 a0_7) := (blk_cell BK159.out 4).trans rfl
      have hcz46_5 : wc.cell? ⟨gb159, 5, none⟩ = some (.string a0_8) := (blk_cell BK159.out 5).trans rfl
      have hfz46_0 := blk_frozen BK159.out 0
      have hfz46_1 := blk_frozen BK159.out 1
      have hfz46_2 := blk_frozen BK159.out 2
      have hfz46_3 := blk_frozen BK159.out 3
      have hfz46_4 := blk_frozen BK159.out 4
      have hfz46_5 := blk_frozen BK159.out 5
      go_wp2
      go_meet
      case rel => exact ⟨_, (((a0_8.size : Int) != 16)), (by first | rfl | (simp; done) | (simp [*]; done)), H', ⟨by have := HJ1.out; first | omega | exact Nat.le_refl _⟩, ⟨by (with_reducible repeat (first | refine blk_drewN ?_ _ | refine blk_drew ?_ | refine blk_alloc ?_ _)); exact BK158.out⟩, ⟨by (with_reducible repeat (first | refine blk_drewN ?_ _ | refine blk_drew ?_ | refine blk_alloc ?_ _)); exact BK159.out⟩, ⟨by repeat (first | (with_reducible first | exact HB.out | apply below_alloc | apply pw_below_drewN | apply below_drew1 | refine below_set ?_ GE158.out | refine below_set ?_ GE159.out) | exact HB.out)⟩⟩
    case rest =>
     clear HC41
     try clear c1
     try clear c2
     try clear p2
     try clear c3
     try clear c4
     try clear c6
     try clear c9
     try clear c11
     try clear c13
     try clear c15
     try clear c17
     try clear c19
     try clear c21
     try clear c24
     try clear c27
     try clear c30
     try clear c33
     try clear c36
     try clear c38
     try clear c40
     try clear c42
     try clear c42b0
     try clear c42b1
     try clear c43
     try clear c45
     try clear hcz22_0
     try clear hcz22_1
     try clear hcz22_2
     try clear hcz22_3
     try clear hcz22_4
     try clear hcz22_5
     try clear hcz22_6
     try clear hcz22_7
     try clear hcz22_8
     try clear hcz23_0
     try clear hcz23_1
     try clear hcz23_2
     try clear hcz23_3
     try clear hcz23_4
     try clear hcz23_5
     try clear hcz25_0
     try clear hcz25_1
     try clear hcz25_2
     try clear hcz25_3
     try clear hcz25_4
     try clear hcz25_5
     try clear hcz25_6
     try clear hcz25_7
     try clear hcz25_8
     try clear hcz26_0
     try clear hcz26_1
     try clear hcz26_2
     try clear hcz26_3
     try clear hcz26_4
     try clear hcz26_5
     try clear hcz28_0
     try clear hcz28_1
     try clear hcz28_2
     try clear hcz28_3
     try clear hcz28_4
     try clear hcz28_5
     try clear hcz28_6
     try clear hcz28_7
     try clear hcz28_8
     try clear hcz29_0
     try clear hcz29_1
     try clear hcz29_2
     try clear hcz29_3
     try clear hcz29_4
     try clear hcz29_5
     try clear hcz31_0
     try clear hcz31_1
     try clear hcz31_2
     try clear hcz31_3
     try clear hcz31_4
     try clear hcz31_5
     try clear hcz31_6
     try clear hcz31_7
     try clear hcz31_8
     try clear hcz32_0
     try clear hcz32_1
     try clear hcz32_2
     try clear hcz32_3
     try clear hcz32_4
     try clear hcz32_5
     try clear hcz34_0
     try clear hcz34_1
     try clear hcz34_2
     try clear hcz34_3
     try clear hcz34_4
     try clear hcz34_5
     try clear hcz34_6
     try clear hcz34_7
     try clear hcz34_8
     try clear hcz35_0
     try clear hcz35_1
     try clear hcz35_2
     try clear hcz35_3
     try clear hcz35_4
     try clear hcz35_5
     try clear hcz37_0
     try clear hcz37_1
     try clear hcz37_2
     try clear hcz37_3
     try clear hcz37_4
     try clear hcz37_5
     try clear hcz37_6
     try clear hcz37_7
     try clear hcz37_8
     try clear hcz39_0
     try clear hcz39_1
     try clear hcz39_2
     try clear hcz39_3
     try clear hcz39_4
     try clear hcz39_5
     try clear hcz39_6
     try clear hcz39_7
     try clear hcz39_8
     try clear hcz44_0
     try clear hcz44_1
     try clear hcz44_2
     try clear hcz44_3
     try clear hcz44_4
     try clear hcz44_5
     try clear hcz46_0
     try clear hcz46_1
     try clear hcz46_2
     try clear hcz46_3
     try clear hcz46_4
     try clear hcz46_5
     try clear hcz4_0
     try clear hcz4_1
     try clear hcz4_2
     try clear hcz4_3
     try clear hcz4_4
     try clear hcz4_5
     try clear hcz4_6
     try clear hcz4_7
     try clear hcz4_8
     try clear hcz7_0
     try clear hcz7_1
     try clear hcz7_2
     try clear hcz7_3
     try clear hcz7_4
     try clear hcz7_5
     try clear hfz22_0
     try clear hfz22_1
     try clear hfz22_2
     try clear hfz22_3
     try clear hfz22_4
     try clear hfz22_5
     try clear hfz22_6
     try clear hfz22_7
     try clear hfz22_8
     try clear hfz23_0
     try clear hfz23_1
     try clear hfz23_2
     try clear hfz23_3
     try clear hfz23_4
     try clear hfz23_5
     try clear hfz25_0
     try clear hfz25_1
     try clear hfz25_2
     try clear hfz25_3
     try clear hfz25_4
     try clear hfz25_5
     try clear hfz25_6
     try clear hfz25_7
     try clear hfz25_8
     try clear hfz26_0
     try clear hfz26_1
     try clear hfz26_2
     try clear hfz26_3
     try clear hfz26_4
     try clear hfz26_5
     try clear hfz28_0
     try clear hfz28_1
     try clear hfz28_2
     try clear hfz28_3
     try clear hfz28_4
     try clear hfz28_5
     try clear hfz28_6
     try clear hfz28_7
     try clear hfz28_8
     try clear hfz29_0
     try clear hfz29_1
     try clear hfz29_2
     try clear hfz29_3
     try clear hfz29_4
     try clear hfz29_5
     try clear hfz31_0
     try clear hfz31_1
     try clear hfz31_2
     try clear hfz31_3
     try clear hfz31_4
     try clear hfz31_5
     try clear hfz31_6
     try clear hfz31_7
     try clear hfz31_8
     try clear hfz32_0
     try clear hfz32_1
     try clear hfz32_2
     try clear hfz32_3
     try clear hfz32_4
     try clear hfz32_5
     try clear hfz34_0
     try clear hfz34_1
     try clear hfz34_2
     try clear hfz34_3
     try clear hfz34_4
     try clear hfz34_5
     try clear hfz34_6
     try clear hfz34_7
     try clear hfz34_8
     try clear hfz35_0
     try clear hfz35_1
     try clear hfz35_2
     try clear hfz35_3
     try clear hfz35_4
     try clear hfz35_5
     try clear hfz37_0
     try clear hfz37_1
     try clear hfz37_2
     try clear hfz37_3
     try clear hfz37_4
     try clear hfz37_5
     try clear hfz37_6
     try clear hfz37_7
     try clear hfz37_8
     try clear hfz39_0
     try clear hfz39_1
     try clear hfz39_2
     try clear hfz39_3
     try clear hfz39_4
     try clear hfz39_5
     try clear hfz39_6
     try clear hfz39_7
     try clear hfz39_8
     try clear hfz44_0
     try clear hfz44_1
     try clear hfz44_2
     try clear hfz44_3
     try clear hfz44_4
     try clear hfz44_5
     try clear hfz46_0
     try clear hfz46_1
     try clear hfz46_2
     try clear hfz46_3
     try clear hfz46_4
     try clear hfz46_5
     try clear hfz4_0
     try clear hfz4_1
     try clear hfz4_2
     try clear hfz4_3
     try clear hfz4_4
     try clear hfz4_5
     try clear hfz4_6
     try clear hfz4_7
     try clear hfz4_8
     try clear hfz7_0
     try clear hfz7_1
     try clear hfz7_2
     try clear hfz7_3
     try clear hfz7_4
     try clear hfz7_5
     try clear p2
     obtain ⟨kq, x58_40, rfl, HA, HJ40, BK158, BK159, HB⟩ := hcut
     cases kq with
     | zero => exact absurd HA.out (by simp [stowageref15_Encode.j1])
     | succ kj40 =>
      have H := HA.out
      clear HA
      simp only [stowageref15_Encode.j1] at H
      by_cases c47 : x58_40 = true
      ·subst c47
       have H1 : (some (([] : List Int), 1)) = some (r1, r2) := by rw [if_pos rfl] at H; exact H
       clear H
       have H := H1
       clear H1
       simp only [Option.some.injEq, Prod.mk.injEq] at H
       obtain ⟨rfl, rfl⟩ := H
       go_wp2
       go_ret2
       exact ⟨_, by first | rfl | (simp [errW_none, errW_some] <;> rfl) | (simp [*, errW_none, errW_some] <;> rfl), by first | exact Kd.R_nil _ _ _ _ _ | exact Kd.N_nil _ _ _ _ _ | exact Kd.V_nil _ _ _ _ _ | exact Kd.Q_nil _ _ _ _ _ | exact Kd.S_nil _ _ _ _ _, by repeat (first | (with_reducible first | exact HB.out | apply below_alloc | apply pw_below_drewN | apply below_drew1 | refine below_set ?_ GE158.out | refine below_set ?_ GE159.out) | exact HB.out)⟩
      ·replace c47 := Bool.eq_false_iff.mpr c47
       subst c47
       have H1 : (if a0_2 = true then (stowageref15_Encode.j2 kj40 1 a0_0 a0_1 a0_2 a0_3 a0_4 a0_5 a0_6 a0_7 a0_8 a0_3 a0_4 a0_5 a0_6 a0_7 a0_8) else (stowageref15_Encode.j2 kj40 0 a0_0 a0_1 a0_2 a0_3 a0_4 a0_5 a0_6 a0_7 a0_8 a0_3 a0_4 a0_5 a0_6 a0_7 a0_8)) = some (r1, r2) := by rw [if_neg (show ¬ (false = true) by decide)] at H; exact H
       clear H
       have H := H1
       clear H1
       have HC48 := Aside0.mk H
       clear H
       have hnb49 := NB158_159.out
       have hnc49 := NB159_158.out
       have hcz50_0 : wc.cell? ⟨gb158, 0, none⟩ = some (.int .i64 a0_0) := (blk_cell BK158.out 0).trans rfl
       have hcz50_1 : wc.cell? ⟨gb158, 1, none⟩ = some (.int .i64 a0_1) := (blk_cell BK158.out 1).trans rfl
       have hcz50_2 : wc.cell? ⟨gb158, 2, none⟩ = some (.bool a0_2) := (blk_cell BK158.out 2).trans rfl
       have hcz50_3 : wc.cell? ⟨gb158, 3, none⟩ = some (.int .i64 a0_3) := (blk_cell BK158.out 3).trans rfl
       have hcz50_4 : wc.cell? ⟨gb158, 4, none⟩ = some (.int .i64 a0_4) := (blk_cell BK158.out 4).trans rfl
       have hcz50_5 : wc.cell? ⟨gb158, 5, none⟩ = some (.int .i64 a0_5) := (blk_cell BK158.out 5).trans rfl
       have hcz50_6 : wc.cell? ⟨gb158, 6, none⟩ = some (.int .i64 a0_6) := (blk_cell BK158.out 6).trans rfl
       have hcz50_7 : wc.cell? ⟨gb158, 7, none⟩ = some (.int .i64 a0_7) := (blk_cell BK158.out 7).trans rfl
       have hcz50_8 : wc.cell? ⟨gb158, 8, none⟩ = some (.string a0_8) := (blk_cell BK158.out 8).trans rfl
       have hfz50_0 := blk_frozen BK158.out 0
       have hfz50_1 := blk_frozen BK158.out 1
       have hfz50_2 := blk_frozen BK158.out 2
       have hfz50_3 := blk_frozen BK158.out 3
       have hfz50_4 := blk_frozen BK158.out 4
       have hfz50_5 := blk_frozen BK158.out 5
       have hfz50_6 := blk_frozen BK158.out 6
       have hfz50_7 := blk_frozen BK158.out 7
       have hfz50_8 := blk_frozen BK158.out 8
       go_upto_if 60 with (fail)
       go_cut [5] (fun v5 wc => ∃ (kq : Nat) (x5_47 : Int), v5 = .int .i64 x5_47 ∧ Aside0 (stowageref15_Encode.j2 kq x5_47 a0_0 a0_1 a0_2 a0_3 a0_4 a0_5 a0_6 a0_7 a0_8 a0_3 a0_4 a0_5 a0_6 a0_7 a0_8 = some (r1, r2)) ∧ Aside0 (kq ≤ kj40) ∧ Aside0 (wc.heap[gb158]? = some (.cells #[.int .i64 a0_0, .int .i64 a0_1, .bool a0_2, .int .i64 a0_3, .int .i64 a0_4, .int .i64 a0_5, .int .i64 a0_6, .int .i64 a0_7, .string a0_8] 25 (0, 0))) ∧ Aside0 (wc.heap[gb159]? = some (.cells #[.int .i64 a0_3, .int .i64 a0_4, .int .i64 a0_5, .int .i64 a0_6, .int .i64 a0_7, .string a0_8] 23 (0, 0))) ∧ Aside0 (Below w.heap.size w wc))
       case first =>
        have H := HC48.out
        clear HC48
        by_cases c51 : a0_2 = true
        ·subst c51
         have H1 : (stowageref15_Encode.j2 kj40 1 a0_0 a0_1 true a0_3 a0_4 a0_5 a0_6 a0_7 a0_8 a0_3 a0_4 a0_5 a0_6 a0_7 a0_8) = some (r1, r2) := by rw [if_pos rfl] at H; exact H
         clear H
         have H := H1
         clear H1
         have H' := Aside0.mk H
         clear H
         go_wp2
         go_meet
         case rel => exact ⟨_, (1), (by first | rfl | (simp; done) | (simp [*]; done)), H', ⟨by have := HJ1.out; have := HJ40.out; first | omega | exact Nat.le_refl _⟩, ⟨by (with_reducible repeat (first | refine blk_drewN ?_ _ | refine blk_drew ?_ | refine blk_alloc ?_ _)); exact BK158.out⟩, ⟨by (with_reducible repeat (first | refine blk_drewN ?_ _ | refine blk_drew ?_ | refine blk_alloc ?_ _)); exact BK159.out⟩, ⟨by repeat (first | (with_reducible first | exact HB.out | apply below_alloc | apply pw_below_drewN | apply below_drew1 | refine below_set ?_ GE158.out | refine below_set ?_ GE159.out) | exact HB.out)⟩⟩
        ·replace c51 := Bool.eq_false_iff.mpr c51
         subst c51
         have H1 : (stowageref15_Encode.j2 kj40 0 a0_0 a0_1 false a0_3 a0_4 a0_5 a0_6 a0_7 a0_8 a0_3 a0_4 a0_5 a0_6 a0_7 a0_8) = some (r1, r2) := by rw [if_neg (show ¬ (false = true) by decide)] at H; exact H
         clear H
         have H := H1
         clear H1
         have H' := Aside0.mk H
         clear H
         go_wp2
         go_meet
         case rel => exact ⟨_, (0), (by first | rfl | (simp; done) | (simp [*]; done)), H', ⟨by have := HJ1.out; have := HJ40.out; first | omega | exact Nat.le_refl _⟩, ⟨by (with_reducible repeat (first | refine blk_drewN ?_ _ | refine blk_drew ?_ | refine blk_alloc ?_ _)); exact BK158.out⟩, ⟨by (with_reducible repeat (first | refine blk_drewN ?_ _ | refine blk_drew ?_ | refine blk_alloc ?_ _)); exact BK159.out⟩, ⟨by repeat (first | (with_reducible first | exact HB.out | apply below_alloc | apply pw_below_drewN | apply below_drew1 | refine below_set ?_ GE158.out | refine below_set ?_ GE159.out) | exact HB.out)⟩⟩
       case rest =>
        clear HC48
        try clear c1
        try clear c2
        try clear p2
        try clear c3
        try clear c4
        try clear c5
        try clear c6
        try clear c9
        try clear c11
        try clear c13
        try clear c15
        try clear c17
        try clear c19
        try clear c21
        try clear c24
        try clear c27
        try clear c30
        try clear c33
        try clear c36
        try clear c38
        try clear c40
        try clear c42
        try clear c42b0
        try clear c42b1
        try clear c43
        try clear c45
        try clear c47
        try clear c49
        try clear c51
        try clear hcz22_0
        try clear hcz22_1
        try clear hcz22_2
        try clear hcz22_3
        try clear hcz22_4
        try clear hcz22_5
        try clear hcz22_6
        try clear hcz22_7
        try clear hcz22_8
        try clear hcz23_0
        try clear hcz23_1
        try clear hcz23_2
        try clear hcz23_3
        try clear hcz23_4
        try clear hcz23_5
        try clear hcz25_0
        try clear hcz25_1
        try clear hcz25_2
        try clear hcz25_3
        try clear hcz25_4
        try clear hcz25_5
        try clear hcz25_6
        try clear hcz25_7
        try clear hcz25_8
        try clear hcz26_0
        try clear hcz26_1
        try clear hcz26_2
        try clear hcz26_3
        try clear hcz26_4
        try clear hcz26_5
        try clear hcz28_0
        try clear hcz28_1
        try clear hcz28_2
        try clear hcz28_3
        try clear hcz28_4
        try clear hcz28_5
        try clear hcz28_6
        try clear hcz28_7
        try clear hcz28_8
        try clear hcz29_0
        try clear hcz29_1
        try clear hcz29_2
        try clear hcz29_3
        try clear hcz29_4
        try clear hcz29_5
        try clear hcz31_0
        try clear hcz31_1
        try clear hcz31_2
        try clear hcz31_3
        try clear hcz31_4
        try clear hcz31_5
        try clear hcz31_6
        try clear hcz31_7
        try clear hcz31_8
        try clear hcz32_0
        try clear hcz32_1
        try clear hcz32_2
        try clear hcz32_3
        try clear hcz32_4
        try clear hcz32_5
        try clear hcz34_0
        try clear hcz34_1
        try clear hcz34_2
        try clear hcz34_3
        try clear hcz34_4
        try clear hcz34_5
        try clear hcz34_6
        try clear hcz34_7
        try clear hcz34_8
        try clear hcz35_0
        try clear hcz35_1
        try clear hcz35_2
        try clear hcz35_3
        try clear hcz35_4
        try clear hcz35_5
        try clear hcz37_0
        try clear hcz37_1
        try clear hcz37_2
        try clear hcz37_3
        try clear hcz37_4
        try clear hcz37_5
        try clear hcz37_6
        try clear hcz37_7
        try clear hcz37_8
        try clear hcz39_0
        try clear hcz39_1
        try clear hcz39_2
        try clear hcz39_3
        try clear hcz39_4
        try clear hcz39_5
        try clear hcz39_6
        try clear hcz39_7
        try clear hcz39_8
        try clear hcz44_0
        try clear hcz44_1
        try clear hcz44_2
        try clear hcz44_3
        try clear hcz44_4
        try clear hcz44_5
        try clear hcz46_0
        try clear hcz46_1
        try clear hcz46_2
        try clear hcz46_3
        try clear hcz46_4
        try clear hcz46_5
        try clear hcz4_0
        try clear hcz4_1
        try clear hcz4_2
        try clear hcz4_3
        try clear hcz4_4
        try clear hcz4_5
        try clear hcz4_6
        try clear hcz4_7
        try clear hcz4_8
        try clear hcz50_0
        try clear hcz50_1
        try clear hcz50_2
        try clear hcz50_3
        try clear hcz50_4
        try clear hcz50_5
        try clear hcz50_6
        try clear hcz50_7
        try clear hcz50_8
        try clear hcz7_0
        try clear hcz7_1
        try clear hcz7_2
        try clear hcz7_3
        try clear hcz7_4
        try clear hcz7_5
        try clear hfz22_0
        try clear hfz22_1
        try clear hfz22_2
        try clear hfz22_3
        try clear hfz22_4
        try clear hfz22_5
        try clear hfz22_6
        try clear hfz22_7
        try clear hfz22_8
        try clear hfz23_0
        try clear hfz23_1
        try clear hfz23_2
        try clear hfz23_3
        try clear hfz23_4
        try clear hfz23_5
        try clear hfz25_0
        try clear hfz25_1
        try clear hfz25_2
        try clear hfz25_3
        try clear hfz25_4
        try clear hfz25_5
        try clear hfz25_6
        try clear hfz25_7
        try clear hfz25_8
        try clear hfz26_0
        try clear hfz26_1
        try clear hfz26_2
        try clear hfz26_3
        try clear hfz26_4
        try clear hfz26_5
        try clear hfz28_0
        try clear hfz28_1
        try clear hfz28_2
        try clear hfz28_3
        try clear hfz28_4
        try clear hfz28_5
        try clear hfz28_6
        try clear hfz28_7
        try clear hfz28_8
        try clear hfz29_0
        try clear hfz29_1
        try clear hfz29_2
        try clear hfz29_3
        try clear hfz29_4
        try clear hfz29_5
        try clear hfz31_0
        try clear hfz31_1
        try clear hfz31_2
        try clear hfz31_3
        try clear hfz31_4
        try clear hfz31_5
        try clear hfz31_6
        try clear hfz31_7
        try clear hfz31_8
        try clear hfz32_0
        try clear hfz32_1
        try clear hfz32_2
        try clear hfz32_3
        try clear hfz32_4
        try clear hfz32_5
        try clear hfz34_0
        try clear hfz34_1
        try clear hfz34_2
        try clear hfz34_3
        try clear hfz34_4
        try clear hfz34_5
        try clear hfz34_6
        try clear hfz34_7
        try clear hfz34_8
        try clear hfz35_0
        try clear hfz35_1
        try clear hfz35_2
        try clear hfz35_3
        try clear hfz35_4
        try clear hfz35_5
        try clear hfz37_0
        try clear hfz37_1
        try clear hfz37_2
        try clear hfz37_3
        try clear hfz37_4
        try clear hfz37_5
        try clear hfz37_6
        try clear hfz37_7
        try clear hfz37_8
        try clear hfz39_0
        try clear hfz39_1
        try clear hfz39_2
        try clear hfz39_3
        try clear hfz39_4
        try clear hfz39_5
        try clear hfz39_6
        try clear hfz39_7
        try clear hfz39_8
        try clear hfz44_0
        try clear hfz44_1
        try clear hfz44_2
        try clear hfz44_3
        try clear hfz44_4
        try clear hfz44_5
        try clear hfz46_0
        try clear hfz46_1
        try clear hfz46_2
        try clear hfz46_3
        try clear hfz46_4
        try clear hfz46_5
        try clear hfz4_0
        try clear hfz4_1
        try clear hfz4_2
        try clear hfz4_3
        try clear hfz4_4
        try clear hfz4_5
        try clear hfz4_6
        try clear hfz4_7
        try clear hfz4_8
        try clear hfz50_0
        try clear hfz50_1
        try clear hfz50_2
        try clear hfz50_3
        try clear hfz50_4
        try clear hfz50_5
        try clear hfz50_6
        try clear hfz50_7
        try clear hfz50_8
        try clear hfz7_0
        try clear hfz7_1
        try clear hfz7_2
        try clear hfz7_3
        try clear hfz7_4
        try clear hfz7_5
        try clear p2
        obtain ⟨kq, x5_47, rfl, HA, HJ47, BK158, BK159, HB⟩ := hcut
        cases kq with
        | zero => exact absurd HA.out (by simp [stowageref15_Encode.j2])
        | succ kj47 =>
         have H := HA.out
         clear HA
         simp only [stowageref15_Encode.j2] at H
         obtain ⟨y167, hy167⟩ : ∃ y_ : List Int, y_ = (([83, 76] : List Int)) := ⟨_, rfl⟩
         replace H : ((stowageref15_put.f kj47 y167 a0_0 4).bind fun t170 => ((stowageref15_put.f kj47 t170 a0_1 4).bind fun t173 => ((stowageref15_put.f kj47 t173 x5_47 1).bind fun t176 => ((stowageref15_put.f kj47 t176 a0_3 1).bind fun t179 => ((stowageref15_put.f kj47 t179 a0_4 7).bind fun t182 => ((stowageref15_put.f kj47 t182 a0_5 7).bind fun t185 => ((stowageref15_put.f kj47 t185 a0_6 7).bind fun t188 => ((stowageref15_put.f kj47 t188 a0_7 7).bind fun t191 => ((stowageref15_put.f kj47 t191 (a0_8.size : Int) 1).bind fun t194 => (if t194.length + a0_8.size < 140737488355328 then (stowageref15_Encode.l0 kj47 (t194 ++ bytesOf a0_8)) else (none))))))))))) = some (r1, r2) := by first | (rw [hy167]; with_reducible exact H) | (have H2_ := (Option.bind_some _ _).symm.trans H; rw [hy167]; with_reducible exact H2_) | (have H2_ := (Option.bind_some _ _).symm.trans H; with_reducible exact H2_) | with_reducible exact H | (rw [hy167]; exact H) | exact H
         have Ny167 := Aside0.mk hy167
         clear hy167
         replace H := Option.bind_eq_some_iff.mp H
         obtain ⟨t170, A520, H⟩ := H
         replace H : ((stowageref15_put.f kj47 t170 a0_1 4).bind fun t173 => ((stowageref15_put.f kj47 t173 x5_47 1).bind fun t176 => ((stowageref15_put.f kj47 t176 a0_3 1).bind fun t179 => ((stowageref15_put.f kj47 t179 a0_4 7).bind fun t182 => ((stowageref15_put.f kj47 t182 a0_5 7).bind fun t185 => ((stowageref15_put.f kj47 t185 a0_6 7).bind fun t188 => ((stowageref15_put.f kj47 t188 a0_7 7).bind fun t191 => ((stowageref15_put.f kj47 t191 (a0_8.size : Int) 1).bind fun t194 => (if t194.length + a0_8.size < 140737488355328 then (stowageref15_Encode.l0 kj47 (t194 ++ bytesOf a0_8)) else (none)))))))))) = some (r1, r2) := H
         have A52 := Aside0.mk A520
         clear A520
         replace H := Option.bind_eq_some_iff.mp H
         obtain ⟨t173, A530, H⟩ := H
         replace H : ((stowageref15_put.f kj47 t173 x5_47 1).bind fun t176 => ((stowageref15_put.f kj47 t176 a0_3 1).bind fun t179 => ((stowageref15_put.f kj47 t179 a0_4 7).bind fun t182 => ((stowageref15_put.f kj47 t182 a0_5 7).bind fun t185 => ((stowageref15_put.f kj47 t185 a0_6 7).bind fun t188 => ((stowageref15_put.f kj47 t188 a0_7 7).bind fun t191 => ((stowageref15_put.f kj47 t191 (a0_8.size : Int) 1).bind fun t194 => (if t194.length + a0_8.size < 140737488355328 then (stowageref15_Encode.l0 kj47 (t194 ++ bytesOf a0_8)) else (none))))))))) = some (r1, r2) := H
         have A53 := Aside0.mk A530
         clear A530
         replace H := Option.bind_eq_some_iff.mp H
         obtain ⟨t176, A540, H⟩ := H
         replace H : ((stowageref15_put.f kj47 t176 a0_3 1).bind fun t179 => ((stowageref15_put.f kj47 t179 a0_4 7).bind fun t182 => ((stowageref15_put.f kj47 t182 a0_5 7).bind fun t185 => ((stowageref15_put.f kj47 t185 a0_6 7).bind fun t188 => ((stowageref15_put.f kj47 t188 a0_7 7).bind fun t191 => ((stowageref15_put.f kj47 t191 (a0_8.size : Int) 1).bind fun t194 => (if t194.length + a0_8.size < 140737488355328 then (stowageref15_Encode.l0 kj47 (t194 ++ bytesOf a0_8)) else (none)))))))) = some (r1, r2) := H
         have A54 := Aside0.mk A540
         clear A540
         replace H := Option.bind_eq_some_iff.mp H
         obtain ⟨t179, A550, H⟩ := H
         replace H : ((stowageref15_put.f kj47 t179 a0_4 7).bind fun t182 => ((stowageref15_put.f kj47 t182 a0_5 7).bind fun t185 => ((stowageref15_put.f kj47 t185 a0_6 7).bind fun t188 => ((stowageref15_put.f kj47 t188 a0_7 7).bind fun t191 => ((stowageref15_put.f kj47 t191 (a0_8.size : Int) 1).bind fun t194 => (if t194.length + a0_8.size < 140737488355328 then (stowageref15_Encode.l0 kj47 (t194 ++ bytesOf a0_8)) else (none))))))) = some (r1, r2) := H
         have A55 := Aside0.mk A550
         clear A550
         replace H := Option.bind_eq_some_iff.mp H
         obtain ⟨t182, A560, H⟩ := H
         replace H : ((stowageref15_put.f kj47 t182 a0_5 7).bind fun t185 => ((stowageref15_put.f kj47 t185 a0_6 7).bind fun t188 => ((stowageref15_put.f kj47 t188 a0_7 7).bind fun t191 => ((stowageref15_put.f kj47 t191 (a0_8.size : Int) 1).bind fun t194 => (if t194.length + a0_8.size < 140737488355328 then (stowageref15_Encode.l0 kj47 (t194 ++ bytesOf a0_8)) else (none)))))) = some (r1, r2) := H
         have A56 := Aside0.mk A560
         clear A560
         replace H := Option.bind_eq_some_iff.mp H
         obtain ⟨t185, A570, H⟩ := H
         replace H : ((stowageref15_put.f kj47 t185 a0_6 7).bind fun t188 => ((stowageref15_put.f kj47 t188 a0_7 7).bind fun t191 => ((stowageref15_put.f kj47 t191 (a0_8.size : Int) 1).bind fun t194 => (if t194.length + a0_8.size < 140737488355328 then (stowageref15_Encode.l0 kj47 (t194 ++ bytesOf a0_8)) else (none))))) = some (r1, r2) := H
         have A57 := Aside0.mk A570
         clear A570
         replace H := Option.bind_eq_some_iff.mp H
         obtain ⟨t188, A580, H⟩ := H
         replace H : ((stowageref15_put.f kj47 t188 a0_7 7).bind fun t191 => ((stowageref15_put.f kj47 t191 (a0_8.size : Int) 1).bind fun t194 => (if t194.length + a0_8.size < 140737488355328 then (stowageref15_Encode.l0 kj47 (t194 ++ bytesOf a0_8)) else (none)))) = some (r1, r2) := H
         have A58 := Aside0.mk A580
         clear A580
         replace H := Option.bind_eq_some_iff.mp H
         obtain ⟨t191, A590, H⟩ := H
         replace H : ((stowageref15_put.f kj47 t191 (a0_8.size : Int) 1).bind fun t194 => (if t194.length + a0_8.size < 140737488355328 then (stowageref15_Encode.l0 kj47 (t194 ++ bytesOf a0_8)) else (none))) = some (r1, r2) := H
         have A59 := Aside0.mk A590
         clear A590
         replace H := Option.bind_eq_some_iff.mp H
         obtain ⟨t194, A600, H⟩ := H
         replace H : (if t194.length + a0_8.size < 140737488355328 then (stowageref15_Encode.l0 kj47 (t194 ++ bytesOf a0_8)) else (none)) = some (r1, r2) := H
         have A60 := Aside0.mk A600
         clear A600
         by_cases c61 : t194.length + a0_8.size < 140737488355328
         ·rw [if_pos c61] at H
          have LMc61 := Aside0.mk c61
          clear c61
          obtain ⟨y197, hy197⟩ : ∃ y_ : List Int, y_ = (t194 ++ bytesOf a0_8) := ⟨_, rfl⟩
          replace H : (stowageref15_Encode.l0 kj47 y197) = some (r1, r2) := by first | (rw [hy197]; with_reducible exact H) | (have H2_ := (Option.bind_some _ _).symm.trans H; rw [hy197]; with_reducible exact H2_) | (have H2_ := (Option.bind_some _ _).symm.trans H; with_reducible exact H2_) | with_reducible exact H | (rw [hy197]; exact H) | exact H
          have Ny197 := Aside0.mk hy197
          clear hy197
          have H' := Aside0.mk H
          clear H
          go_wp2_with (first | ((with_reducible refine gate_dst (N := 61) rfl ?_); (try (refine gate_guard (by rfl) ?_; dsimp only)); refine Kd.R_lit (Kd.int .u8) _ 5 ?hg (N := 61) ?hd (xs := ([83, 76] : List Int)) (inner := [.int .u8 83, .int .u8 76]) (ok := fun _ => True) (okp := fun _ => True) ?hr ?hp (fun _ hk => hk) trivial (Below.refl _ _) (Nat.le_refl _) (by simp) ?_; (case hd => rfl); (case hg => rfl); (case hr => first | (go_simp; done) | (go_simp; rfl)); (case hp => exact (Reps.one (show Kd.M (Kd.int .u8) _ _ _ 83 [.int .u8 83] from rfl) (Reps.one (show Kd.M (Kd.int .u8) _ _ _ 76 [.int .u8 76] from rfl) (Reps.none _ _)))); intro v168 w62 ho63 hb hg_ hnew_; clear hg_ hnew_; (first | rw [← Ny167.out] at ho63 | (simp only [Int.reduceToNat] at ho63; rw [← Ny167.out] at ho63)); have n0_ := Aside0.mk (Kd.R_lower ho63 (below_size (by repeat (first | (with_reducible first | exact HB.out | apply below_alloc | apply pw_below_drewN | apply below_drew1 | refine below_set ?_ GE158.out | refine below_set ?_ GE159.out) | exact HB.out)))); have n1_ := Aside0.mk (blk_below (g := gb158) (o := .cells #[.int .i64 a0_0, .int .i64 a0_1, .bool a0_2, .int .i64 a0_3, .int .i64 a0_4, .int .i64 a0_5, .int .i64 a0_6, .int .i64 a0_7, .string a0_8] 25 (0, 0)) (by (with_reducible repeat (first | refine blk_drewN ?_ _ | refine blk_drew ?_ | refine blk_alloc ?_ _)); exact BK158.out) hb); have n2_ := Aside0.mk (blk_below (g := gb159) (o := .cells #[.int .i64 a0_3, .int .i64 a0_4, .int .i64 a0_5, .int .i64 a0_6, .int .i64 a0_7, .string a0_8] 23 (0, 0)) (by (with_reducible repeat (first | refine blk_drewN ?_ _ | refine blk_drew ?_ | refine blk_alloc ?_ _)); exact BK159.out) hb); have n3_ := Aside0.mk (below_step (by repeat (first | (with_reducible first | exact HB.out | apply below_alloc | apply pw_below_drewN | apply below_drew1 | refine below_set ?_ GE158.out | refine below_set ?_ GE159.out) | exact HB.out)) hb); clear BK158; clear BK159; clear HB; have HO169 := n0_; have BK158 := n1_; have BK159 := n2_; have HB := n3_; clear n0_ n1_ n2_ n3_; clear hb ho63; have hnb64 := NB158_159.out; have hnc64 := NB159_158.out; have hcz65_0 : w62.cell? ⟨gb158, 0, none⟩ = some (.int .i64 a0_0) := (blk_cell BK158.out 0).trans rfl; have hcz65_1 : w62.cell? ⟨gb158, 1, none⟩ = some (.int .i64 a0_1) := (blk_cell BK158.out 1).trans rfl; have hcz65_2 : w62.cell? ⟨gb158, 2, none⟩ = some (.bool a0_2) := (blk_cell BK158.out 2).trans rfl; have hcz65_3 : w62.cell? ⟨gb158, 3, none⟩ = some (.int .i64 a0_3) := (blk_cell BK158.out 3).trans rfl; have hcz65_4 : w62.cell? ⟨gb158, 4, none⟩ = some (.int .i64 a0_4) := (blk_cell BK158.out 4).trans rfl; have hcz65_5 : w62.cell? ⟨gb158, 5, none⟩ = some (.int .i64 a0_5) := (blk_cell BK158.out 5).trans rfl; have hcz65_6 : w62.cell? ⟨gb158, 6, none⟩ = some (.int .i64 a0_6) := (blk_cell BK158.out 6).trans rfl; have hcz65_7 : w62.cell? ⟨gb158, 7, none⟩ = some (.int .i64 a0_7) := (blk_cell BK158.out 7).trans rfl; have hcz65_8 : w62.cell? ⟨gb158, 8, none⟩ = some (.string a0_8) := (blk_cell BK158.out 8).trans rfl; have hfz65_0 := blk_frozen BK158.out 0; have hfz65_1 := blk_frozen BK158.out 1; have hfz65_2 := blk_frozen BK158.out 2; have hfz65_3 := blk_frozen BK158.out 3; have hfz65_4 := blk_frozen BK158.out 4; have hfz65_5 := blk_frozen BK158.out 5; have hfz65_6 := blk_frozen BK158.out 6; have hfz65_7 := blk_frozen BK158.out 7; have hfz65_8 := blk_frozen BK158.out 8; obtain ⟨Ao66, co66, eo66⟩ := Kd.R_slice HO169.out; subst eo66) | ((with_reducible refine gate_callee (f := 22) rfl ?_); refine goesL_ (some 65) rfl rfl Try.func22 (by kernel_rfl) rfl #[.slice Ao66 y167.length co66, .int .i64 a0_0, .int .i64 4] rfl (by (try simp only [List.map_toArray, List.map_cons, List.map_nil]); first | done | rfl | (simp only [List.length_drop, List.length_take]; rfl)) ?_; (with_reducible refine (stowageref15_put.calls kj47 (fun k_ => some k_ = (.slice Ao66 y167.length co66 : Value).ownBlock) (.slice Ao66 y167.length co66) y167 a0_0 4 t170 w _ ?side1 ?side2 A52.out).mono ?_); (case side1 => repeat (first | (with_reducible first | exact HB.out | apply below_alloc | apply pw_below_drewN | apply below_drew1 | refine below_set ?_ GE158.out | refine below_set ?_ GE159.out) | exact HB.out)); (case side2 => exact Kd.R_tight rfl (by (with_reducible repeat (first | apply Kd.R_alloc | apply Kd.R_drewN | apply Kd.R_drew)); exact HO169.out)); rintro e w67 ⟨v171, rfl, ho0, hb, hkp⟩; refine ⟨_, rfl, ?_⟩; have n0_ := Aside0.mk (blk_kept (by (with_reducible repeat (first | refine blk_drewN ?_ _ | refine blk_drew ?_ | refine blk_alloc ?_ _)); exact BK158.out) hkp (fun hs_ => (fun e_ => (Kd.R_ne HO169.out BK158.out (by decide)) e_) hs_)); have n1_ := Aside0.mk (blk_kept (by (with_reducible repeat (first | refine blk_drewN ?_ _ | refine blk_drew ?_ | refine blk_alloc ?_ _)); exact BK159.out) hkp (fun hs_ => (fun e_ => (Kd.R_ne HO169.out BK159.out (by decide)) e_) hs_)); have n2_ := Aside0.mk (Kd.R_mono (ok' := fun k_ => True) ho0 (fun k_ hk_ => trivial)); have n3_ := Aside0.mk (hb); clear BK158; clear BK159; clear HB; clear HO169; have BK158 := n0_; have BK159 := n1_; have HO172 := n2_; have HB := n3_; clear n0_ n1_ n2_ n3_; (try clear hb); (try clear hkp); (try clear ho0); have hcz68_0 : w67.cell? ⟨gb158, 0, none⟩ = some (.int .i64 a0_0) := (blk_cell BK158.out 0).trans rfl; have hcz68_1 : w67.cell? ⟨gb158, 1, none⟩ = some (.int .i64 a0_1) := (blk_cell BK158.out 1).trans rfl; have hcz68_2 : w67.cell? ⟨gb158, 2, none⟩ = some (.bool a0_2) := (blk_cell BK158.out 2).trans rfl; have hcz68_3 : w67.cell? ⟨gb158, 3, none⟩ = some (.int .i64 a0_3) := (blk_cell BK158.out 3).trans rfl; have hcz68_4 : w67.cell? ⟨gb158, 4, none⟩ = some (.int .i64 a0_4) := (blk_cell BK158.out 4).trans rfl; have hcz68_5 : w67.cell? ⟨gb158, 5, none⟩ = some (.int .i64 a0_5) := (blk_cell BK158.out 5).trans rfl; have hcz68_6 : w67.cell? ⟨gb158, 6, none⟩ = some (.int .i64 a0_6) := (blk_cell BK158.out 6).trans rfl; have hcz68_7 : w67.cell? ⟨gb158, 7, none⟩ = some (.int .i64 a0_7) := (blk_cell BK158.out 7).trans rfl; have hcz68_8 : w67.cell? ⟨gb158, 8, none⟩ = some (.string a0_8) := (blk_cell BK158.out 8).trans rfl; have hfz68_0 := blk_frozen BK158.out 0; have hfz68_1 := blk_frozen BK158.out 1; have hfz68_2 := blk_frozen BK158.out 2; have hfz68_3 := blk_frozen BK158.out 3; have hfz68_4 := blk_frozen BK158.out 4; have hfz68_5 := blk_frozen BK158.out 5; have hfz68_6 := blk_frozen BK158.out 6; have hfz68_7 := blk_frozen BK158.out 7; have hfz68_8 := blk_frozen BK158.out 8; obtain ⟨Ao69, co69, eo69⟩ := Kd.R_slice HO172.out; subst eo69) | ((with_reducible refine gate_callee (f := 22) rfl ?_); refine goesL_ (some 69) rfl rfl Try.func22 (by kernel_rfl) rfl #[.slice Ao69 t170.length co69, .int .i64 a0_1, .int .i64 4] rfl (by (try simp only [List.map_toArray, List.map_cons, List.map_nil]); first | done | rfl | (simp only [List.length_drop, List.length_take]; rfl)) ?_; (with_reducible refine (stowageref15_put.calls kj47 (fun k_ => some k_ = (.slice Ao69 t170.length co69 : Value).ownBlock) (.slice Ao69 t170.length co69) t170 a0_1 4 t173 w _ ?side1 ?side2 A53.out).mono ?_); (case side1 => repeat (first | (with_reducible first | exact HB.out | apply below_alloc | apply pw_below_drewN | apply below_drew1 | refine below_set ?_ GE158.out | refine below_set ?_ GE159.out) | exact HB.out)); (case side2 => exact Kd.R_tight rfl (by (with_reducible repeat (first | apply Kd.R_alloc | apply Kd.R_drewN | apply Kd.R_drew)); exact HO172.out)); rintro e w70 ⟨v174, rfl, ho0, hb, hkp⟩; refine ⟨_, rfl, ?_⟩; have n0_ := Aside0.mk (blk_kept (by (with_reducible repeat (first | refine blk_drewN ?_ _ | refine blk_drew ?_ | refine blk_alloc ?_ _)); exact BK158.out) hkp (fun hs_ => (fun e_ => (Kd.R_ne HO172.out BK158.out (by decide)) e_) hs_)); have n1_ := Aside0.mk (blk_kept (by (with_reducible repeat (first | refine blk_drewN ?_ _ | refine blk_drew ?_ | refine blk_alloc ?_ _)); exact BK159.out) hkp (fun hs_ => (fun e_ => (Kd.R_ne HO172.out BK159.out (by decide)) e_) hs_)); have n2_ := Aside0.mk (Kd.R_mono (ok' := fun k_ => True) ho0 (fun k_ hk_ => trivial)); have n3_ := Aside0.mk (hb); clear BK158; clear BK159; clear HB; clear HO172; have BK158 := n0_; have BK159 := n1_; have HO175 := n2_; have HB := n3_; clear n0_ n1_ n2_ n3_; (try clear hb); (try clear hkp); (try clear ho0); obtain ⟨Ao71, co71, eo71⟩ := Kd.R_slice HO175.out; subst eo71) | ((with_reducible refine gate_callee (f := 22) rfl ?_); refine goesL_ (some 72) rfl rfl Try.func22 (by kernel_rfl) rfl #[.slice Ao71 t173.length co71, .int .i64 x5_47, .int .i64 1] rfl (by (try simp only [List.map_toArray, List.map_cons, List.map_nil]); first | done | rfl | (simp only [List.length_drop, List.length_take]; rfl)) ?_; (with_reducible refine (stowageref15_put.calls kj47 (fun k_ => some k_ = (.slice Ao71 t173.length co71 : Value).ownBlock) (.slice Ao71 t173.length co71) t173 x5_47 1 t176 w _ ?side1 ?side2 A54.out).mono ?_); (case side1 => repeat (first | (with_reducible first | exact HB.out | apply below_alloc | apply pw_below_drewN | apply below_drew1 | refine below_set ?_ GE158.out | refine below_set ?_ GE159.out) | exact HB.out)); (case side2 => exact Kd.R_tight rfl (by (with_reducible repeat (first | apply Kd.R_alloc | apply Kd.R_drewN | apply Kd.R_drew)); exact HO175.out)); rintro e w72 ⟨v177, rfl, ho0, hb, hkp⟩; refine ⟨_, rfl, ?_⟩; have n0_ := Aside0.mk (blk_kept (by (with_reducible repeat (first | refine blk_drewN ?_ _ | refine blk_drew ?_ | refine blk_alloc ?_ _)); exact BK158.out) hkp (fun hs_ => (fun e_ => (Kd.R_ne HO175.out BK158.out (by decide)) e_) hs_)); have n1_ := Aside0.mk (blk_kept (by (with_reducible repeat (first | refine blk_drewN ?_ _ | refine blk_drew ?_ | refine blk_alloc ?_ _)); exact BK159.out) hkp (fun hs_ => (fun e_ => (Kd.R_ne HO175.out BK159.out (by decide)) e_) hs_)); have n2_ := Aside0.mk (Kd.R_mono (ok' := fun k_ => True) ho0 (fun k_ hk_ => trivial)); have n3_ := Aside0.mk (hb); clear BK158; clear BK159; clear HB; clear HO175; have BK158 := n0_; have BK159 := n1_; have HO178 := n2_; have HB := n3_; clear n0_ n1_ n2_ n3_; (try clear hb); (try clear hkp); (try clear ho0); have hcz73_0 : w72.cell? ⟨gb159, 0, none⟩ = some (.int .i64 a0_3) := (blk_cell BK159.out 0).trans rfl; have hcz73_1 : w72.cell? ⟨gb159, 1, none⟩ = some (.int .i64 a0_4) := (blk_cell BK159.out 1).trans rfl; have hcz73_2 : w72.cell? ⟨gb159, 2, none⟩ = some (.int .i64 a0_5) := (blk_cell BK159.out 2).trans rfl; have hcz73_3 : w72.cell? ⟨gb159, 3, none⟩ = some (.int .i64 a0_6) := (blk_cell BK159.out 3).trans rfl; have hcz73_4 : w72.cell? ⟨gb159, 4, none⟩ = some (.int .i64 a0_7) := (blk_cell BK159.out 4).trans rfl; have hcz73_5 : w72.cell? ⟨gb159, 5, none⟩ = some (.string a0_8) := (blk_cell BK159.out 5).trans rfl; have hfz73_0 := blk_frozen BK159.out 0; have hfz73_1 := blk_frozen BK159.out 1; have hfz73_2 := blk_frozen BK159.out 2; have hfz73_3 := blk_frozen BK159.out 3; have hfz73_4 := blk_frozen BK159.out 4; have hfz73_5 := blk_frozen BK159.out 5; obtain ⟨Ao74, co74, eo74⟩ := Kd.R_slice HO178.out; subst eo74) | ((with_reducible refine gate_callee (f := 22) rfl ?_); refine goesL_ (some 76) rfl rfl Try.func22 (by kernel_rfl) rfl #[.slice Ao74 t176.length co74, .int .i64 a0_3, .int .i64 1] rfl (by (try simp only [List.map_toArray, List.map_cons, List.map_nil]); first | done | rfl | (simp only [List.length_drop, List.length_take]; rfl)) ?_; (with_reducible refine (stowageref15_put.calls kj47 (fun k_ => some k_ = (.slice Ao74 t176.length co74 : Value).ownBlock) (.slice Ao74 t176.length co74) t176 a0_3 1 t179 w _ ?side1 ?side2 A55.out).mono ?_); (case side1 => repeat (first | (with_reducible first | exact HB.out | apply below_alloc | apply pw_below_drewN | apply below_drew1 | refine below_set ?_ GE158.out | refine below_set ?_ GE159.out) | exact HB.out)); (case side2 => exact Kd.R_tight rfl (by (with_reducible repeat (first | apply Kd.R_alloc | apply Kd.R_drewN | apply Kd.R_drew)); exact HO178.out)); rintro e w75 ⟨v180, rfl, ho0, hb, hkp⟩; refine ⟨_, rfl, ?_⟩; have n0_ := Aside0.mk (blk_kept (by (with_reducible repeat (first | refine blk_drewN ?_ _ | refine blk_drew ?_ | refine blk_alloc ?_ _)); exact BK158.out) hkp (fun hs_ => (fun e_ => (Kd.R_ne HO178.out BK158.out (by decide)) e_) hs_)); have n1_ := Aside0.mk (blk_kept (by (with_reducible repeat (first | refine blk_drewN ?_ _ | refine blk_drew ?_ | refine blk_alloc ?_ _)); exact BK159.out) hkp (fun hs_ => (fun e_ => (Kd.R_ne HO178.out BK159.out (by decide)) e_) hs_)); have n2_ := Aside0.mk (Kd.R_mono (ok' := fun k_ => True) ho0 (fun k_ hk_ => trivial)); have n3_ := Aside0.mk (hb); clear BK158; clear BK159; clear HB; clear HO178; have BK158 := n0_; have BK159 := n1_; have HO181 := n2_; have HB := n3_; clear n0_ n1_ n2_ n3_; (try clear hb); (try clear hkp); (try clear ho0); have hcz76_0 : w75.cell? ⟨gb159, 0, none⟩ = some (.int .i64 a0_3) := (blk_cell BK159.out 0).trans rfl; have hcz76_1 : w75.cell? ⟨gb159, 1, none⟩ = some (.int .i64 a0_4) := (blk_cell BK159.out 1).trans rfl; have hcz76_2 : w75.cell? ⟨gb159, 2, none⟩ = some (.int .i64 a0_5) := (blk_cell BK159.out 2).trans rfl; have hcz76_3 : w75.cell? ⟨gb159, 3, none⟩ = some (.int .i64 a0_6) := (blk_cell BK159.out 3).trans rfl; have hcz76_4 : w75.cell? ⟨gb159, 4, none⟩ = some (.int .i64 a0_7) := (blk_cell BK159.out 4).trans rfl; have hcz76_5 : w75.cell? ⟨gb159, 5, none⟩ = some (.string a0_8) := (blk_cell BK159.out 5).trans rfl; have hfz76_0 := blk_frozen BK159.out 0; have hfz76_1 := blk_frozen BK159.out 1; have hfz76_2 := blk_frozen BK159.out 2; have hfz76_3 := blk_frozen BK159.out 3; have hfz76_4 := blk_frozen BK159.out 4; have hfz76_5 := blk_frozen BK159.out 5; obtain ⟨Ao77, co77, eo77⟩ := Kd.R_slice HO181.out; subst eo77) | ((with_reducible refine gate_callee (f := 22) rfl ?_); refine goesL_ (some 80) rfl rfl Try.func22 (by kernel_rfl) rfl #[.slice Ao77 t179.length co77, .int .i64 a0_4, .int .i64 7] rfl (by (try simp only [List.map_toArray, List.map_cons, List.map_nil]); first | done | rfl | (simp only [List.length_drop, List.length_take]; rfl)) ?_; (with_reducible refine (stowageref15_put.calls kj47 (fun k_ => some k_ = (.slice Ao77 t179.length co77 : Value).ownBlock) (.slice Ao77 t179.length co77) t179 a0_4 7 t182 w _ ?side1 ?side2 A56.out).mono ?_); (case side1 => repeat (first | (with_reducible first | exact HB.out | apply below_alloc | apply pw_below_drewN | apply below_drew1 | refine below_set ?_ GE158.out | refine below_set ?_ GE159.out) | exact HB.out)); (case side2 => exact Kd.R_tight rfl (by (with_reducible repeat (first | apply Kd.R_alloc | apply Kd.R_drewN | apply Kd.R_drew)); exact HO181.out)); rintro e w78 ⟨v183, rfl, ho0, hb, hkp⟩; refine ⟨_, rfl, ?_⟩; have n0_ := Aside0.mk (blk_kept (by (with_reducible repeat (first | refine blk_drewN ?_ _ | refine blk_drew ?_ | refine blk_alloc ?_ _)); exact BK158.out) hkp (fun hs_ => (fun e_ => (Kd.R_ne HO181.out BK158.out (by decide)) e_) hs_)); have n1_ := Aside0.mk (blk_kept (by (with_reducible repeat (first | refine blk_drewN ?_ _ | refine blk_drew ?_ | refine blk_alloc ?_ _)); exact BK159.out) hkp (fun hs_ => (fun e_ => (Kd.R_ne HO181.out BK159.out (by decide)) e_) hs_)); have n2_ := Aside0.mk (Kd.R_mono (ok' := fun k_ => True) ho0 (fun k_ hk_ => trivial)); have n3_ := Aside0.mk (hb); clear BK158; clear BK159; clear HB; clear HO181; have BK158 := n0_; have BK159 := n1_; have HO184 := n2_; have HB := n3_; clear n0_ n1_ n2_ n3_; (try clear hb); (try clear hkp); (try clear ho0); have hcz79_0 : w78.cell? ⟨gb159, 0, none⟩ = some (.int .i64 a0_3) := (blk_cell BK159.out 0).trans rfl; have hcz79_1 : w78.cell? ⟨gb159, 1, none⟩ = some (.int .i64 a0_4) := (blk_cell BK159.out 1).trans rfl; have hcz79_2 : w78.cell? ⟨gb159, 2, none⟩ = some (.int .i64 a0_5) := (blk_cell BK159.out 2).trans rfl; have hcz79_3 : w78.cell? ⟨gb159, 3, none⟩ = some (.int .i64 a0_6) := (blk_cell BK159.out 3).trans rfl; have hcz79_4 : w78.cell? ⟨gb159, 4, none⟩ = some (.int .i64 a0_7) := (blk_cell BK159.out 4).trans rfl; have hcz79_5 : w78.cell? ⟨gb159, 5, none⟩ = some (.string a0_8) := (blk_cell BK159.out 5).trans rfl; have hfz79_0 := blk_frozen BK159.out 0; have hfz79_1 := blk_frozen BK159.out 1; have hfz79_2 := blk_frozen BK159.out 2; have hfz79_3 := blk_frozen BK159.out 3; have hfz79_4 := blk_frozen BK159.out 4; have hfz79_5 := blk_frozen BK159.out 5; obtain ⟨Ao80, co80, eo80⟩ := Kd.R_slice HO184.out; subst eo80) | ((with_reducible refine gate_callee (f := 22) rfl ?_); refine goesL_ (some 84) rfl rfl Try.func22 (by kernel_rfl) rfl #[.slice Ao80 t182.length co80, .int .i64 a0_5, .int .i64 7] rfl (by (try simp only [List.map_toArray, List.map_cons, List.map_nil]); first | done | rfl | (simp only [List.length_drop, List.length_take]; rfl)) ?_; (with_reducible refine (stowageref15_put.calls kj47 (fun k_ => some k_ = (.slice Ao80 t182.length co80 : Value).ownBlock) (.slice Ao80 t182.length co80) t182 a0_5 7 t185 w _ ?side1 ?side2 A57.out).mono ?_); (case side1 => repeat (first | (with_reducible first | exact HB.out | apply below_alloc | apply pw_below_drewN | apply below_drew1 | refine below_set ?_ GE158.out | refine below_set ?_ GE159.out) | exact HB.out)); (case side2 => exact Kd.R_tight rfl (by (with_reducible repeat (first | apply Kd.R_alloc | apply Kd.R_drewN | apply Kd.R_drew)); exact HO184.out)); rintro e w81 ⟨v186, rfl, ho0, hb, hkp⟩; refine ⟨_, rfl, ?_⟩; have n0_ := Aside0.mk (blk_kept (by (with_reducible repeat (first | refine blk_drewN ?_ _ | refine blk_drew ?_ | refine blk_alloc ?_ _)); exact BK158.out) hkp (fun hs_ => (fun e_ => (Kd.R_ne HO184.out BK158.out (by decide)) e_) hs_)); have n1_ := Aside0.mk (blk_kept (by (with_reducible repeat (first | refine blk_drewN ?_ _ | refine blk_drew ?_ | refine blk_alloc ?_ _)); exact BK159.out) hkp (fun hs_ => (fun e_ => (Kd.R_ne HO184.out BK159.out (by decide)) e_) hs_)); have n2_ := Aside0.mk (Kd.R_mono (ok' := fun k_ => True) ho0 (fun k_ hk_ => trivial)); have n3_ := Aside0.mk (hb); clear BK158; clear BK159; clear HB; clear HO184; have BK158 := n0_; have BK159 := n1_; have HO187 := n2_; have HB := n3_; clear n0_ n1_ n2_ n3_; (try clear hb); (try clear hkp); (try clear ho0); have hcz82_0 : w81.cell? ⟨gb159, 0, none⟩ = some (.int .i64 a0_3) := (blk_cell BK159.out 0).trans rfl; have hcz82_1 : w81.cell? ⟨gb159, 1, none⟩ = some (.int .i64 a0_4) := (blk_cell BK159.out 1).trans rfl; have hcz82_2 : w81.cell? ⟨gb159, 2, none⟩ = some (.int .i64 a0_5) := (blk_cell BK159.out 2).trans rfl; have hcz82_3 : w81.cell? ⟨gb159, 3, none⟩ = some (.int .i64 a0_6) := (blk_cell BK159.out 3).trans rfl; have hcz82_4 : w81.cell? ⟨gb159, 4, none⟩ = some (.int .i64 a0_7) := (blk_cell BK159.out 4).trans rfl; have hcz82_5 : w81.cell? ⟨gb159, 5, none⟩ = some (.string a0_8) := (blk_cell BK159.out 5).trans rfl; have hfz82_0 := blk_frozen BK159.out 0; have hfz82_1 := blk_frozen BK159.out 1; have hfz82_2 := blk_frozen BK159.out 2; have hfz82_3 := blk_frozen BK159.out 3; have hfz82_4 := blk_frozen BK159.out 4; have hfz82_5 := blk_frozen BK159.out 5; obtain ⟨Ao83, co83, eo83⟩ := Kd.R_slice HO187.out; subst eo83) | ((with_reducible refine gate_callee (f := 22) rfl ?_); refine goesL_ (some 88) rfl rfl Try.func22 (by kernel_rfl) rfl #[.slice Ao83 t185.length co83, .int .i64 a0_6, .int .i64 7] rfl (by (try simp only [List.map_toArray, List.map_cons, List.map_nil]); first | done | rfl | (simp only [List.length_drop, List.length_take]; rfl)) ?_; (with_reducible refine (stowageref15_put.calls kj47 (fun k_ => some k_ = (.slice Ao83 t185.length co83 : Value).ownBlock) (.slice Ao83 t185.length co83) t185 a0_6 7 t188 w _ ?side1 ?side2 A58.out).mono ?_); (case side1 => repeat (first | (with_reducible first | exact HB.out | apply below_alloc | apply pw_below_drewN | apply below_drew1 | refine below_set ?_ GE158.out | refine below_set ?_ GE159.out) | exact HB.out)); (case side2 => exact Kd.R_tight rfl (by (with_reducible repeat (first | apply Kd.R_alloc | apply Kd.R_drewN | apply Kd.R_drew)); exact HO187.out)); rintro e w84 ⟨v189, rfl, ho0, hb, hkp⟩; refine ⟨_, rfl, ?_⟩; have n0_ := Aside0.mk (blk_kept (by (with_reducible repeat (first | refine blk_drewN ?_ _ | refine blk_drew ?_ | refine blk_alloc ?_ _)); exact BK158.out) hkp (fun hs_ => (fun e_ => (Kd.R_ne HO187.out BK158.out (by decide)) e_) hs_)); have n1_ := Aside0.mk (blk_kept (by (with_reducible repeat (first | refine blk_drewN ?_ _ | refine blk_drew ?_ | refine blk_alloc ?_ _)); exact BK159.out) hkp (fun hs_ => (fun e_ => (Kd.R_ne HO187.out BK159.out (by decide)) e_) hs_)); have n2_ := Aside0.mk (Kd.R_mono (ok' := fun k_ => True) ho0 (fun k_ hk_ => trivial)); have n3_ := Aside0.mk (hb); clear BK158; clear BK159; clear HB; clear HO187; have BK158 := n0_; have BK159 := n1_; have HO190 := n2_; have HB := n3_; clear n0_ n1_ n2_ n3_; (try clear hb); (try clear hkp); (try clear ho0); have hcz85_0 : w84.cell? ⟨gb159, 0, none⟩ = some (.int .i64 a0_3) := (blk_cell BK159.out 0).trans rfl; have hcz85_1 : w84.cell? ⟨gb159, 1, none⟩ = some (.int .i64 a0_4) := (blk_cell BK159.out 1).trans rfl; have hcz85_2 : w84.cell? ⟨gb159, 2, none⟩ = some (.int .i64 a0_5) := (blk_cell BK159.out 2).trans rfl; have hcz85_3 : w84.cell? ⟨gb159, 3, none⟩ = some (.int .i64 a0_6) := (blk_cell BK159.out 3).trans rfl; have hcz85_4 : w84.cell? ⟨gb159, 4, none⟩ = some (.int .i64 a0_7) := (blk_cell BK159.out 4).trans rfl; have hcz85_5 : w84.cell? ⟨gb159, 5, none⟩ = some (.string a0_8) := (blk_cell BK159.out 5).trans rfl; have hfz85_0 := blk_frozen BK159.out 0; have hfz85_1 := blk_frozen BK159.out 1; have hfz85_2 := blk_frozen BK159.out 2; have hfz85_3 := blk_frozen BK159.out 3; have hfz85_4 := blk_frozen BK159.out 4; have hfz85_5 := blk_frozen BK159.out 5; obtain ⟨Ao86, co86, eo86⟩ := Kd.R_slice HO190.out; subst eo86) | ((with_reducible refine gate_callee (f := 22) rfl ?_); refine goesL_ (some 92) rfl rfl Try.func22 (by kernel_rfl) rfl #[.slice Ao86 t188.length co86, .int .i64 a0_7, .int .i64 7] rfl (by (try simp only [List.map_toArray, List.map_cons, List.map_nil]); first | done | rfl | (simp only [List.length_drop, List.length_take]; rfl)) ?_; (with_reducible refine (stowageref15_put.calls kj47 (fun k_ => some k_ = (.slice Ao86 t188.length co86 : Value).ownBlock) (.slice Ao86 t188.length co86) t188 a0_7 7 t191 w _ ?side1 ?side2 A59.out).mono ?_); (case side1 => repeat (first | (with_reducible first | exact HB.out | apply below_alloc | apply pw_below_drewN | apply below_drew1 | refine below_set ?_ GE158.out | refine below_set ?_ GE159.out) | exact HB.out)); (case side2 => exact Kd.R_tight rfl (by (with_reducible repeat (first | apply Kd.R_alloc | apply Kd.R_drewN | apply Kd.R_drew)); exact HO190.out)); rintro e w87 ⟨v192, rfl, ho0, hb, hkp⟩; refine ⟨_, rfl, ?_⟩; have n0_ := Aside0.mk (blk_kept (by (with_reducible repeat (first | refine blk_drewN ?_ _ | refine blk_drew ?_ | refine blk_alloc ?_ _)); exact BK158.out) hkp (fun hs_ => (fun e_ => (Kd.R_ne HO190.out BK158.out (by decide)) e_) hs_)); have n1_ := Aside0.mk (blk_kept (by (with_reducible repeat (first | refine blk_drewN ?_ _ | refine blk_drew ?_ | refine blk_alloc ?_ _)); exact BK159.out) hkp (fun hs_ => (fun e_ => (Kd.R_ne HO190.out BK159.out (by decide)) e_) hs_)); have n2_ := Aside0.mk (Kd.R_mono (ok' := fun k_ => True) ho0 (fun k_ hk_ => trivial)); have n3_ := Aside0.mk (hb); clear BK158; clear BK159; clear HB; clear HO190; have BK158 := n0_; have BK159 := n1_; have HO193 := n2_; have HB := n3_; clear n0_ n1_ n2_ n3_; (try clear hb); (try clear hkp); (try clear ho0); have hcz88_0 : w87.cell? ⟨gb159, 0, none⟩ = some (.int .i64 a0_3) := (blk_cell BK159.out 0).trans rfl; have hcz88_1 : w87.cell? ⟨gb159, 1, none⟩ = some (.int .i64 a0_4) := (blk_cell BK159.out 1).trans rfl; have hcz88_2 : w87.cell? ⟨gb159, 2, none⟩ = some (.int .i64 a0_5) := (blk_cell BK159.out 2).trans rfl; have hcz88_3 : w87.cell? ⟨gb159, 3, none⟩ = some (.int .i64 a0_6) := (blk_cell BK159.out 3).trans rfl; have hcz88_4 : w87.cell? ⟨gb159, 4, none⟩ = some (.int .i64 a0_7) := (blk_cell BK159.out 4).trans rfl; have hcz88_5 : w87.cell? ⟨gb159, 5, none⟩ = some (.string a0_8) := (blk_cell BK159.out 5).trans rfl; have hfz88_0 := blk_frozen BK159.out 0; have hfz88_1 := blk_frozen BK159.out 1; have hfz88_2 := blk_frozen BK159.out 2; have hfz88_3 := blk_frozen BK159.out 3; have hfz88_4 := blk_frozen BK159.out 4; have hfz88_5 := blk_frozen BK159.out 5; obtain ⟨Ao89, co89, eo89⟩ := Kd.R_slice HO193.out; subst eo89) | ((with_reducible refine gate_callee (f := 22) rfl ?_); refine goesL_ (some 97) rfl rfl Try.func22 (by kernel_rfl) rfl #[.slice Ao89 t191.length co89, .int .i64 (a0_8.size : Int), .int .i64 1] rfl (by (try simp only [List.map_toArray, List.map_cons, List.map_nil]); first | done | rfl | (simp only [List.length_drop, List.length_take]; rfl)) ?_; (with_reducible refine (stowageref15_put.calls kj47 (fun k_ => some k_ = (.slice Ao89 t191.length co89 : Value).ownBlock) (.slice Ao89 t191.length co89) t191 (a0_8.size : Int) 1 t194 w _ ?side1 ?side2 A60.out).mono ?_); (case side1 => repeat (first | (with_reducible first | exact HB.out | apply below_alloc | apply pw_below_drewN | apply below_drew1 | refine below_set ?_ GE158.out | refine below_set ?_ GE159.out) | exact HB.out)); (case side2 => exact Kd.R_tight rfl (by (with_reducible repeat (first | apply Kd.R_alloc | apply Kd.R_drewN | apply Kd.R_drew)); exact HO193.out)); rintro e w90 ⟨v195, rfl, ho0, hb, hkp⟩; refine ⟨_, rfl, ?_⟩; have n0_ := Aside0.mk (blk_kept (by (with_reducible repeat (first | refine blk_drewN ?_ _ | refine blk_drew ?_ | refine blk_alloc ?_ _)); exact BK158.out) hkp (fun hs_ => (fun e_ => (Kd.R_ne HO193.out BK158.out (by decide)) e_) hs_)); have n1_ := Aside0.mk (blk_kept (by (with_reducible repeat (first | refine blk_drewN ?_ _ | refine blk_drew ?_ | refine blk_alloc ?_ _)); exact BK159.out) hkp (fun hs_ => (fun e_ => (Kd.R_ne HO193.out BK159.out (by decide)) e_) hs_)); have n2_ := Aside0.mk (Kd.R_mono (ok' := fun k_ => True) ho0 (fun k_ hk_ => trivial)); have n3_ := Aside0.mk (hb); clear BK158; clear BK159; clear HB; clear HO193; have BK158 := n0_; have BK159 := n1_; have HO196 := n2_; have HB := n3_; clear n0_ n1_ n2_ n3_; (try clear hb); (try clear hkp); (try clear ho0); have hcz91_0 : w90.cell? ⟨gb159, 0, none⟩ = some (.int .i64 a0_3) := (blk_cell BK159.out 0).trans rfl; have hcz91_1 : w90.cell? ⟨gb159, 1, none⟩ = some (.int .i64 a0_4) := (blk_cell BK159.out 1).trans rfl; have hcz91_2 : w90.cell? ⟨gb159, 2, none⟩ = some (.int .i64 a0_5) := (blk_cell BK159.out 2).trans rfl; have hcz91_3 : w90.cell? ⟨gb159, 3, none⟩ = some (.int .i64 a0_6) := (blk_cell BK159.out 3).trans rfl; have hcz91_4 : w90.cell? ⟨gb159, 4, none⟩ = some (.int .i64 a0_7) := (blk_cell BK159.out 4).trans rfl; have hcz91_5 : w90.cell? ⟨gb159, 5, none⟩ = some (.string a0_8) := (blk_cell BK159.out 5).trans rfl; have hfz91_0 := blk_frozen BK159.out 0; have hfz91_1 := blk_frozen BK159.out 1; have hfz91_2 := blk_frozen BK159.out 2; have hfz91_3 := blk_frozen BK159.out 3; have hfz91_4 := blk_frozen BK159.out 4; have hfz91_5 := blk_frozen BK159.out 5) | (at_builtin; refine print_append_str (w0 := w) w.heap.size rfl (.tmp 98) _ 26 9 5 rfl Try.underlying26 Try.underlying9 info5 v195 t194 a0_8 rfl rfl ?aO ?aB ?aS ?aL ?_; (case aB => exact (by repeat (first | (with_reducible first | exact HB.out | apply below_alloc | apply pw_below_drewN | apply below_drew1 | refine below_set ?_ GE158.out | refine below_set ?_ GE159.out) | exact HB.out))); (case aO => exact (Kd.own_of_R (by (with_reducible repeat (first | apply Kd.R_alloc | apply Kd.R_drewN | apply Kd.R_drew)); exact HO196.out))); (case aS => exact (below_size (by repeat (first | (with_reducible first | exact HB.out | apply below_alloc | apply pw_below_drewN | apply below_drew1 | refine below_set ?_ GE158.out | refine below_set ?_ GE159.out) | exact HB.out)))); (case aL => have := LMc61.out; omega); intro v198 w92 ho0 hb hg; have ho := Kd.R_of_own (h1 := fun _ => rfl) (ok := fun _ => True) ho0 (fun _ _ => trivial); clear ho0; have hat := True.intro; rw [← Ny197.out] at ho; change Kd.R (Kd.int .u8) 5 w92 w.heap.size (fun _ => True) v198 y197 at ho; have n0_ := Aside0.mk (blk_grown (g := gb158) (o := .cells #[.int .i64 a0_0, .int .i64 a0_1, .bool a0_2, .int .i64 a0_3, .int .i64 a0_4, .int .i64 a0_5, .int .i64 a0_6, .int .i64 a0_7, .string a0_8] 25 (0, 0)) (by (with_reducible repeat (first | refine blk_drewN ?_ _ | refine blk_drew ?_ | refine blk_alloc ?_ _)); exact BK158.out) hg (Kd.R_ne HO196.out BK158.out (by decide))); have n1_ := Aside0.mk (blk_grown (g := gb159) (o := .cells #[.int .i64 a0_3, .int .i64 a0_4, .int .i64 a0_5, .int .i64 a0_6, .int .i64 a0_7, .string a0_8] 23 (0, 0)) (by (with_reducible repeat (first | refine blk_drewN ?_ _ | refine blk_drew ?_ | refine blk_alloc ?_ _)); exact BK159.out) hg (Kd.R_ne HO196.out BK159.out (by decide))); have n2_ := Aside0.mk (hb); have n3_ := Aside0.mk (ho); clear BK158; clear BK159; clear HB; clear HO196; have BK158 := n0_; have BK159 := n1_; have HB := n2_; have HO199 := n3_; clear n0_ n1_ n2_ n3_; clear ho hb hg hat))
          go_loopg [6] kj47 (fun kq v6 w' => ∃ (x6_4 : List Int), Aside0 (stowageref15_Encode.l0 kq x6_4 = some (r1, r2)) ∧ Aside0 (kq ≤ kj47) ∧ Aside0 (Kd.R (Kd.int .u8) 5 w' w.heap.size (fun _ => True) v6 x6_4) ∧ Aside0 (w'.heap[gb158]? = some (.cells #[.int .i64 a0_0, .int .i64 a0_1, .bool a0_2, .int .i64 a0_3, .int .i64 a0_4, .int .i64 a0_5, .int .i64 a0_6, .int .i64 a0_7, .string a0_8] 25 (0, 0))) ∧ Aside0 (w'.heap[gb159]? = some (.cells #[.int .i64 a0_3, .int .i64 a0_4, .int .i64 a0_5, .int .i64 a0_6, .int .i64 a0_7, .string a0_8] 23 (0, 0))) ∧ Aside0 (Below w.heap.size w w'))
          case atStart => exact ⟨(y197), H', ⟨Nat.le_refl _⟩, ⟨by (with_reducible repeat (first | apply Kd.R_alloc | apply Kd.R_drewN | apply Kd.R_drew)); exact HO199.out⟩, ⟨by (with_reducible repeat (first | refine blk_drewN ?_ _ | refine blk_drew ?_ | refine blk_alloc ?_ _)); exact BK158.out⟩, ⟨by (with_reducible repeat (first | refine blk_drewN ?_ _ | refine blk_drew ?_ | refine blk_alloc ?_ _)); exact BK159.out⟩, ⟨by repeat (first | (with_reducible first | exact HB.out | apply below_alloc | apply pw_below_drewN | apply below_drew1 | refine below_set ?_ GE158.out | refine below_set ?_ GE159.out) | exact HB.out)⟩⟩
          case round =>
           clear H'
           try clear c1
           try clear c2
           try clear p2
           try clear c3
           try clear c4
           try clear c5
           try clear c6
           try clear c9
           try clear c11
           try clear c13
           try clear c15
           try clear c17
           try clear c19
           try clear c21
           try clear c22
           try clear c24
           try clear c27
           try clear c30
           try clear c33
           try clear c36
           try clear c38
           try clear c40
           try clear c42
           try clear c42b0
           try clear c42b1
           try clear c43
           try clear c45
           try clear c47
           try clear c49
           try clear c51
           try clear c61
           try clear c64
           try clear hcz22_0
           try clear hcz22_1
           try clear hcz22_2
           try clear hcz22_3
           try clear hcz22_4
           try clear hcz22_5
           try clear hcz22_6
           try clear hcz22_7
           try clear hcz22_8
           try clear hcz23_0
           try clear hcz23_1
           try clear hcz23_2
           try clear hcz23_3
           try clear hcz23_4
           try clear hcz23_5
           try clear hcz25_0
           try clear hcz25_1
           try clear hcz25_2
           try clear hcz25_3
           try clear hcz25_4
           try clear hcz25_5
           try clear hcz25_6
           try clear hcz25_7
           try clear hcz25_8
           try clear hcz26_0
           try clear hcz26_1
           try clear hcz26_2
           try clear hcz26_3
           try clear hcz26_4
           try clear hcz26_5
           try clear hcz28_0
           try clear hcz28_1
           try clear hcz28_2
           try clear hcz28_3
           try clear hcz28_4
           try clear hcz28_5
           try clear hcz28_6
           try clear hcz28_7
           try clear hcz28_8
           try clear hcz29_0
           try clear hcz29_1
           try clear hcz29_2
           try clear hcz29_3
           try clear hcz29_4
           try clear hcz29_5
           try clear hcz31_0
           try clear hcz31_1
           try clear hcz31_2
           try clear hcz31_3
           try clear hcz31_4
           try clear hcz31_5
           try clear hcz31_6
           try clear hcz31_7
           try clear hcz31_8
           try clear hcz32_0
           try clear hcz32_1
           try clear hcz32_2
           try clear hcz32_3
           try clear hcz32_4
           try clear hcz32_5
           try clear hcz34_0
           try clear hcz34_1
           try clear hcz34_2
           try clear hcz34_3
           try clear hcz34_4
           try clear hcz34_5
           try clear hcz34_6
           try clear hcz34_7
           try clear hcz34_8
           try clear hcz35_0
           try clear hcz35_1
           try clear hcz35_2
           try clear hcz35_3
           try clear hcz35_4
           try clear hcz35_5
           try clear hcz37_0
           try clear hcz37_1
           try clear hcz37_2
           try clear hcz37_3
           try clear hcz37_4
           try clear hcz37_5
           try clear hcz37_6
           try clear hcz37_7
           try clear hcz37_8
           try clear hcz39_0
           try clear hcz39_1
           try clear hcz39_2
           try clear hcz39_3
           try clear hcz39_4
           try clear hcz39_5
           try clear hcz39_6
           try clear hcz39_7
           try clear hcz39_8
           try clear hcz44_0
           try clear hcz44_1
           try clear hcz44_2
           try clear hcz44_3
           try clear hcz44_4
           try clear hcz44_5
           try clear hcz46_0
           try clear hcz46_1
           try clear hcz46_2
           try clear hcz46_3
           try clear hcz46_4
           try clear hcz46_5
           try clear hcz4_0
           try clear hcz4_1
           try clear hcz4_2
           try clear hcz4_3
           try clear hcz4_4
           try clear hcz4_5
           try clear hcz4_6
           try clear hcz4_7
           try clear hcz4_8
           try clear hcz50_0
           try clear hcz50_1
           try clear hcz50_2
           try clear hcz50_3
           try clear hcz50_4
           try clear hcz50_5
           try clear hcz50_6
           try clear hcz50_7
           try clear hcz50_8
           try clear hcz65_0
           try clear hcz65_1
           try clear hcz65_2
           try clear hcz65_3
           try clear hcz65_4
           try clear hcz65_5
           try clear hcz65_6
           try clear hcz65_7
           try clear hcz65_8
           try clear hcz68_0
           try clear hcz68_1
           try clear hcz68_2
           try clear hcz68_3
           try clear hcz68_4
           try clear hcz68_5
           try clear hcz68_6
           try clear hcz68_7
           try clear hcz68_8
           try clear hcz73_0
           try clear hcz73_1
           try clear hcz73_2
           try clear hcz73_3
           try clear hcz73_4
           try clear hcz73_5
           try clear hcz76_0
           try clear hcz76_1
           try clear hcz76_2
           try clear hcz76_3
           try clear hcz76_4
           try clear hcz76_5
           try clear hcz79_0
           try clear hcz79_1
           try clear hcz79_2
           try clear hcz79_3
           try clear hcz79_4
           try clear hcz79_5
           try clear hcz7_0
           try clear hcz7_1
           try clear hcz7_2
           try clear hcz7_3
           try clear hcz7_4
           try clear hcz7_5
           try clear hcz82_0
           try clear hcz82_1
           try clear hcz82_2
           try clear hcz82_3
           try clear hcz82_4
           try clear hcz82_5
           try clear hcz85_0
           try clear hcz85_1
           try clear hcz85_2
           try clear hcz85_3
           try clear hcz85_4
           try clear hcz85_5
           try clear hcz88_0
           try clear hcz88_1
           try clear hcz88_2
           try clear hcz88_3
           try clear hcz88_4
           try clear hcz88_5
           try clear hcz91_0
           try clear hcz91_1
           try clear hcz91_2
           try clear hcz91_3
           try clear hcz91_4
           try clear hcz91_5
           try clear hfz22_0
           try clear hfz22_1
           try clear hfz22_2
           try clear hfz22_3
           try clear hfz22_4
           try clear hfz22_5
           try clear hfz22_6
           try clear hfz22_7
           try clear hfz22_8
           try clear hfz23_0
           try clear hfz23_1
           try clear hfz23_2
           try clear hfz23_3
           try clear hfz23_4
           try clear hfz23_5
           try clear hfz25_0
           try clear hfz25_1
           try clear hfz25_2
           try clear hfz25_3
           try clear hfz25_4
           try clear hfz25_5
           try clear hfz25_6
           try clear hfz25_7
           try clear hfz25_8
           try clear hfz26_0
           try clear hfz26_1
           try clear hfz26_2
           try clear hfz26_3
           try clear hfz26_4
           try clear hfz26_5
           try clear hfz28_0
           try clear hfz28_1
           try clear hfz28_2
           try clear hfz28_3
           try clear hfz28_4
           try clear hfz28_5
           try clear hfz28_6
           try clear hfz28_7
           try clear hfz28_8
           try clear hfz29_0
           try clear hfz29_1
           try clear hfz29_2
           try clear hfz29_3
           try clear hfz29_4
           try clear hfz29_5
           try clear hfz31_0
           try clear hfz31_1
           try clear hfz31_2
           try clear hfz31_3
           try clear hfz31_4
           try clear hfz31_5
           try clear hfz31_6
           try clear hfz31_7
           try clear hfz31_8
           try clear hfz32_0
           try clear hfz32_1
           try clear hfz32_2
           try clear hfz32_3
           try clear hfz32_4
           try clear hfz32_5
           try clear hfz34_0
           try clear hfz34_1
           try clear hfz34_2
           try clear hfz34_3
           try clear hfz34_4
           try clear hfz34_5
           try clear hfz34_6
           try clear hfz34_7
           try clear hfz34_8
           try clear hfz35_0
           try clear hfz35_1
           try clear hfz35_2
           try clear hfz35_3
           try clear hfz35_4
           try clear hfz35_5
           try clear hfz37_0
           try clear hfz37_1
           try clear hfz37_2
           try clear hfz37_3
           try clear hfz37_4
           try clear hfz37_5
           try clear hfz37_6
           try clear hfz37_7
           try clear hfz37_8
           try clear hfz39_0
           try clear hfz39_1
           try clear hfz39_2
           try clear hfz39_3
           try clear hfz39_4
           try clear hfz39_5
           try clear hfz39_6
           try clear hfz39_7
           try clear hfz39_8
           try clear hfz44_0
           try clear hfz44_1
           try clear hfz44_2
           try clear hfz44_3
           try clear hfz44_4
           try clear hfz44_5
           try clear hfz46_0
           try clear hfz46_1
           try clear hfz46_2
           try clear hfz46_3
           try clear hfz46_4
           try clear hfz46_5
           try clear hfz4_0
           try clear hfz4_1
           try clear hfz4_2
           try clear hfz4_3
           try clear hfz4_4
           try clear hfz4_5
           try clear hfz4_6
           try clear hfz4_7
           try clear hfz4_8
           try clear hfz50_0
           try clear hfz50_1
           try clear hfz50_2
           try clear hfz50_3
           try clear hfz50_4
           try clear hfz50_5
           try clear hfz50_6
           try clear hfz50_7
           try clear hfz50_8
           try clear hfz65_0
           try clear hfz65_1
           try clear hfz65_2
           try clear hfz65_3
           try clear hfz65_4
           try clear hfz65_5
           try clear hfz65_6
           try clear hfz65_7
           try clear hfz65_8
           try clear hfz68_0
           try clear hfz68_1
           try clear hfz68_2
           try clear hfz68_3
           try clear hfz68_4
           try clear hfz68_5
           try clear hfz68_6
           try clear hfz68_7
           try clear hfz68_8
           try clear hfz73_0
           try clear hfz73_1
           try clear hfz73_2
           try clear hfz73_3
           try clear hfz73_4
           try clear hfz73_5
           try clear hfz76_0
           try clear hfz76_1
           try clear hfz76_2
           try clear hfz76_3
           try clear hfz76_4
           try clear hfz76_5
           try clear hfz79_0
           try clear hfz79_1
           try clear hfz79_2
           try clear hfz79_3
           try clear hfz79_4
           try clear hfz79_5
           try clear hfz7_0
           try clear hfz7_1
           try clear hfz7_2
           try clear hfz7_3
           try clear hfz7_4
           try clear hfz7_5
           try clear hfz82_0
           try clear hfz82_1
           try clear hfz82_2
           try clear hfz82_3
           try clear hfz82_4
           try clear hfz82_5
           try clear hfz85_0
           try clear hfz85_1
           try clear hfz85_2
           try clear hfz85_3
           try clear hfz85_4
           try clear hfz85_5
           try clear hfz88_0
           try clear hfz88_1
           try clear hfz88_2
           try clear hfz88_3
           try clear hfz88_4
           try clear hfz88_5
           try clear hfz91_0
           try clear hfz91_1
           try clear hfz91_2
           try clear hfz91_3
           try clear hfz91_4
           try clear hfz91_5
           try clear p2
           obtain ⟨x6_4, HA, HK4, HO_6, BK158, BK159, HB⟩ := hrel
           cases gk with
           | zero => exact absurd HA.out (by simp [stowageref15_Encode.l0])
           | succ k4 =>
            have H := HA.out
            clear HA
            simp only [stowageref15_Encode.l0] at H
            by_cases c93 : (x6_4.length : Int) < 60
            ·rw [if_pos c93] at H
             have c93b0 : decide ((x6_4.length : Int) < 60) = true := decide_eq_true c93
             have c93b1 : decide (x6_4.length < 60) = true := decide_eq_true (by omega)
             clear c93
             by_cases c94 : x6_4.length < 140737488355328
             ·rw [if_pos c94] at H
              have LMc94 := Aside0.mk c94
              clear c94
              obtain ⟨y200, hy200⟩ : ∃ y_ : List Int, y_ = (x6_4 ++ [0]) := ⟨_, rfl⟩
              replace H : (stowageref15_Encode.l0 k4 y200) = some (r1, r2) := by first | (rw [hy200]; with_reducible exact H) | (have H2_ := (Option.bind_some _ _).symm.trans H; rw [hy200]; with_reducible exact H2_) | (have H2_ := (Option.bind_some _ _).symm.trans H; with_reducible exact H2_) | with_reducible exact H | (rw [hy200]; exact H) | exact H
              have Ny200 := Aside0.mk hy200
              clear hy200
              have H' := Aside0.mk H
              clear H
              obtain ⟨Ao95, co95, eo95⟩ := Kd.R_slice HO_6.out
              subst eo95
              go_wp2_with (first | ((with_reducible refine gate_builtin (b := .append) (xs := #[.tmp 105, .tmp 106]) rfl ?_); (try (refine gate_guard (by rfl) ?_; dsimp only)); at_builtin; refine Kd.R_append (Kd.int .u8) (w0 := w) w.heap.size rfl (.tmp 105) (.tmp 106) 26 5 (.int .u8 0) 1 rfl Try.underlying26 info5 rfl (by decide) (by omega) (.slice Ao95 x6_4.length co95) x6_4 0 [.int .u8 0] (fun _ => True) (fun _ => False) rfl rfl ?aP (fun _ hk => hk.elim) ?aF ?aO ?aB ?aS ?aL ?_; (case aP => exact rfl); (case aB => exact (by repeat (first | (with_reducible first | exact HB.out | apply below_alloc | apply pw_below_drewN | apply below_drew1 | refine below_set ?_ GE158.out | refine below_set ?_ GE159.out) | exact HB.out))); (case aF => exact (fun _ _ => trivial)); (case aO => exact (by (with_reducible repeat (first | apply Kd.R_alloc | apply Kd.R_drewN | apply Kd.R_drew)); exact HO_6.out)); (case aS => exact (below_size (by repeat (first | (with_reducible first | exact HB.out | apply below_alloc | apply pw_below_drewN | apply below_drew1 | refine below_set ?_ GE158.out | refine below_set ?_ GE159.out) | exact HB.out)))); (case aL => have := LMc94.out; omega); intro v201 w96 ho hb hg hat; rw [← Ny200.out] at ho; have n0_ := Aside0.mk (blk_grown (g := gb158) (o := .cells #[.int .i64 a0_0, .int .i64 a0_1, .bool a0_2, .int .i64 a0_3, .int .i64 a0_4, .int .i64 a0_5, .int .i64 a0_6, .int .i64 a0_7, .string a0_8] 25 (0, 0)) (by (with_reducible repeat (first | refine blk_drewN ?_ _ | refine blk_drew ?_ | refine blk_alloc ?_ _)); exact BK158.out) hg (Kd.R_ne HO_6.out BK158.out (by decide))); have n1_ := Aside0.mk (blk_grown (g := gb159) (o := .cells #[.int .i64 a0_3, .int .i64 a0_4, .int .i64 a0_5, .int .i64 a0_6, .int .i64 a0_7, .string a0_8] 23 (0, 0)) (by (with_reducible repeat (first | refine blk_drewN ?_ _ | refine blk_drew ?_ | refine blk_alloc ?_ _)); exact BK159.out) hg (Kd.R_ne HO_6.out BK159.out (by decide))); have n2_ := Aside0.mk (hb); have n3_ := Aside0.mk (ho); clear BK158; clear BK159; clear HB; clear HO_6; have BK158 := n0_; have BK159 := n1_; have HB := n2_; have HO202 := n3_; clear n0_ n1_ n2_ n3_; clear ho hb hg hat))
              go_roundg k4
              case measure => have := HJ1.out; have := HJ40.out; have := HJ47.out; have := HK4.out; omega
              case rel => exact ⟨(y200), H', ⟨by have := HJ1.out; have := HJ40.out; have := HJ47.out; have := HK4.out; omega⟩, ⟨by (with_reducible repeat (first | apply Kd.R_alloc | apply Kd.R_drewN | apply Kd.R_drew)); exact HO202.out⟩, ⟨by (with_reducible repeat (first | refine blk_drewN ?_ _ | refine blk_drew ?_ | refine blk_alloc ?_ _)); exact BK158.out⟩, ⟨by (with_reducible repeat (first | refine blk_drewN ?_ _ | refine blk_drew ?_ | refine blk_alloc ?_ _)); exact BK159.out⟩, ⟨by repeat (first | (with_reducible first | exact HB.out | apply below_alloc | apply pw_below_drewN | apply below_drew1 | refine below_set ?_ GE158.out | refine below_set ?_ GE159.out) | exact HB.out)⟩⟩
             ·rw [if_neg c94] at H
              exact absurd H (by simp)
            ·rw [if_neg c93] at H
             have c93b0 : decide ((x6_4.length : Int) < 60) = false := decide_eq_false c93
             have c93b1 : decide (x6_4.length < 60) = false := decide_eq_false (by omega)
             clear c93
             replace H := Option.bind_eq_some_iff.mp H
             obtain ⟨t203, A970, H⟩ := H
             replace H : ((stowageref15_put.f k4 x6_4 (wrap64 (t203)) 4).bind fun t204 => (some (t204, 0))) = some (r1, r2) := H
             have A97 := Aside0.mk A970
             clear A970
             replace H := Option.bind_eq_some_iff.mp H
             obtain ⟨t204, A980, H⟩ := H
             replace H : (some (t204, 0)) = some (r1, r2) := H
             have A98 := Aside0.mk A980
             clear A980
             simp only [Option.some.injEq, Prod.mk.injEq] at H
             obtain ⟨rfl, rfl⟩ := H
             obtain ⟨Ao99, co99, eo99⟩ := Kd.R_slice HO_6.out
             subst eo99
             go_wp2_with (first | ((with_reducible refine gate_callee (f := 23) rfl ?_); refine goesL_ (some 110) rfl rfl Try.func23 (by kernel_rfl) rfl #[.slice Ao99 x6_4.length co99] rfl (by (try simp only [List.map_toArray, List.map_cons, List.map_nil]); first | done | rfl | (simp only [List.length_drop, List.length_take]; rfl)) ?_; (with_reducible refine (stowageref02_Sum.calls k4 _ _ x6_4 t203 _ ?side1 ?side2 A97.out).mono ?_); (case side1 => repeat (first | exact (Kd.R_reads' HO_6.out).2.2 | (with_reducible refine Kd.C_alloc ?_ _) | (with_reducible refine Kd.C_drewN ?_ _) | (with_reducible refine Kd.C_drew ?_))); (case side2 => exact (Kd.R_reads' HO_6.out).2.1); rintro e w' ⟨rfl, ⟨nd, rfl⟩⟩; refine ⟨_, rfl, ?_⟩))
             go_at_call 22
             with_reducible refine (stowageref15_put.calls k4 (fun k_ => some k_ = (.slice Ao99 x6_4.length co99 : Value).ownBlock) (.slice Ao99 x6_4.length co99) x6_4 (wrap64 (t203)) 4 t204 w _ ?side1 ?side2 A98.out).mono ?_
             case side1 => exact (by repeat (first | exact HB.out | apply pw_below_drewN))
             case side2 => exact Kd.R_tight rfl (by (with_reducible repeat (first | apply Kd.R_alloc | apply Kd.R_drewN | apply Kd.R_drew)); exact HO_6.out)
             rintro e w100 ⟨v266, rfl, ho0, hb, hkp⟩
             have n2_ := Aside0.mk (Kd.R_mono (ok' := fun k_ => True) ho0 (fun k_ hk_ => trivial))
             have n3_ := Aside0.mk (hb)
             clear HB
             clear HO_6
             have HO267 := n2_
             have HB := n3_
             clear n2_ n3_
             clear hb hkp ho0
             go_wp2_with fail
             go_ret2
             exact ⟨_, rfl, Kd.R_mono HO267.out (fun _ hk => trivial), HB.out⟩
         ·rw [if_neg c61] at H
          exact absurd H (by simp)

end Go.Proofs.Ytjfdjbmahahllaa.QLine
