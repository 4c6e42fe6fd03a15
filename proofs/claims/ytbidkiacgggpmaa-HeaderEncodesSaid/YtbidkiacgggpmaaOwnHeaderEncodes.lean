/- Written by a program of this session (wip/tools/rowgen.py): the row of the law HeaderEncodes: its arguments are opened by their types, the law's function is walked by its contract, the plain statement tells the answer; the arguments read behind the call as before. No condition is added. -/
import Derived.Test.YtbidkiacgggpmaaRows
import Derived.Test.YtbidkiacgggpmaaOpenRows
import Derived.Test.YtbidkiacgggpmaaPureHeaderEncodes
import Derived.WalkKit
import Derived.ProofKit
import Derived.OpenShut
import Derived.ShutString
import Derived.ChangeOld
import Derived.Below
import Derived.SizedLaws
namespace Go.Proofs.Ytbidkiacgggpmaa.headerEncodes
open Go.ChangeShapes Go.WideShapes Go.ChangeAt Go.RowKit Go.Proofs.Ytbidkiacgggpmaa.OpenRows Go.Proofs.Ytbidkiacgggpmaa.QHead Go.Proofs.YtbidkiacgggpmaaW.PrintWords
open Go.ChangeMaps (open_string shut_string)
set_option linter.unusedVariables false
theorem own : ownKnob Try.prog.godebug = none := by kernel_rfl
theorem laidOut : laidOutB Try.prog = true := by kernel_rfl
theorem rd3 : Rdz Try.prog 3 (Kd.int .i64) (fun v : Int => (Lit.int .i64 v).wf = true) := rd_int Try.underlying3
theorem rd9 : Rdz Try.prog 9 Kd.string (fun v : ByteArray => v.size ≤ 140737488351232) := rd_string Try.underlying9
theorem rd23 : Rdz Try.prog 23 (Kd.pair (Kd.int .i64) (Kd.pair (Kd.int .i64) (Kd.pair (Kd.int .i64) (Kd.pair (Kd.int .i64) (Kd.pair (Kd.int .i64) Kd.string))))) (fun v : (Int × Int × Int × Int × Int × ByteArray) => ((Lit.int .i64 v.1).wf = true ∧ ((Lit.int .i64 v.2.1).wf = true ∧ ((Lit.int .i64 v.2.2.1).wf = true ∧ ((Lit.int .i64 v.2.2.2.1).wf = true ∧ ((Lit.int .i64 v.2.2.2.2.1).wf = true ∧ (v.2.2.2.2.2.size ≤ 140737488351232))))))) := by
  refine rd_struct Try.underlying23 (by kernel_rfl) ?_
  refine rdf_cons (a := (Kd.int .i64)) (Ga := (fun v : Int => (Lit.int .i64 v).wf = true)) (Gb := (fun v : Int × Int × Int × Int × ByteArray => ((Lit.int .i64 v.1).wf = true ∧ ((Lit.int .i64 v.2.1).wf = true ∧ ((Lit.int .i64 v.2.2.1).wf = true ∧ ((Lit.int .i64 v.2.2.2.1).wf = true ∧ (v.2.2.2.2.size ≤ 140737488351232))))))) (by rfl) (by kernel_rfl) rd3 ?_
  refine rdf_cons (a := (Kd.int .i64)) (Ga := (fun v : Int => (Lit.int .i64 v).wf = true)) (Gb := (fun v : Int × Int × Int × ByteArray => ((Lit.int .i64 v.1).wf = true ∧ ((Lit.int .i64 v.2.1).wf = true ∧ ((Lit.int .i64 v.2.2.1).wf = true ∧ (v.2.2.2.size ≤ 140737488351232)))))) (by rfl) (by kernel_rfl) rd3 ?_
  refine rdf_cons (a := (Kd.int .i64)) (Ga := (fun v : Int => (Lit.int .i64 v).wf = true)) (Gb := (fun v : Int × Int × ByteArray => ((Lit.int .i64 v.1).wf = true ∧ ((Lit.int .i64 v.2.1).wf = true ∧ (v.2.2.size ≤ 140737488351232))))) (by rfl) (by kernel_rfl) rd3 ?_
  refine rdf_cons (a := (Kd.int .i64)) (Ga := (fun v : Int => (Lit.int .i64 v).wf = true)) (Gb := (fun v : Int × ByteArray => ((Lit.int .i64 v.1).wf = true ∧ (v.2.size ≤ 140737488351232)))) (by rfl) (by kernel_rfl) rd3 ?_
  refine rdf_cons (a := (Kd.int .i64)) (Ga := (fun v : Int => (Lit.int .i64 v).wf = true)) (Gb := (fun v : ByteArray => (v.size ≤ 140737488351232))) (by rfl) (by kernel_rfl) rd3 ?_
  exact rdf_last (by rfl) (by kernel_rfl) rd9
set_option maxRecDepth 100000 in
theorem lifted (os : Os) (started : os.Started) (H : Type) (enc : TypeId × Value → H) :
    ReturnsInHanded {} Try.checked os 3 .any (Rows.headerEncodesSpec.pre6 enc Try.prog Try.f3 Rows.headerEncodesRow.domain false) (Rows.headerEncodesSpec.post enc Try.prog Try.f3 false true false false) := by
  refine returnsInHanded_of_change_sized (C := Try.checked) own started (by kernel_rfl) Try.func3
    (ChangeSpec.witness6 (enc := enc) (C := Try.checked) false ⟨#[], #[.agg #[.int .i64 0, .int .i64 0, .int .i64 0, .int .i64 0, .int .i64 0, .string ByteArray.empty]], []⟩ 8 (by kernel_rfl) (by kernel_rfl) (by kernel_rfl) (by kernel_rfl)) ?_
  intro W base args ds gs before hval0 hW hcnd hsz0 _
  have hsz : (DataW.weightsEach Try.prog (Try.f3.params.toList ++ Rows.headerEncodesSpec.plain.varTypes Try.prog) (ds ++ gs)).all (· ≤ reachBytes) = true := hsz0
  have hval : ∀ (j : Nat) t v, Try.f3.params[j]? = some t → args[j]? = some v → Value.okWide Try.prog W .any base t v := hval0
  have hW' := hW
  obtain ⟨p, q, hA0, hV, rfl, hfz, hnd⟩ := hW
  have hA : DataW.TrodAll enc Try.prog W 0 (fun _ => true) true Try.f3.params.toList args.toList ds p := hA0
  rw [Try.params3] at hA hval hsz
  obtain ⟨v0, vs0, d0, ds0, p0, q0, hargs, rfl, rfl, h0, r0⟩ := trodAll_cons hA
  obtain ⟨rfl, rfl, rfl⟩ := trodAll_nil r0
  obtain rfl : args = #[v0] := by cases args; simp_all
  obtain ⟨rfl, rfl⟩ := trodVars_none hV
  have k0 := h0
  have lt0 : ∀ x ∈ p0, x.block < W.heap.size := by obtain ⟨m, hm⟩ := k0; exact DataW.trod_lt m _ _ _ hm
  obtain ⟨⟨a0_0, a0_1, a0_2, a0_3, a0_4, a0_5⟩, hK0, hG0⟩ := rd_arg rd23 hsz (j := 0) rfl rfl h0
  obtain ⟨_, _, hcs0, rfl, ⟨_, _, rfl, rfl, ⟨_, _, rfl, rfl, ⟨_, _, rfl, rfl, ⟨_, _, rfl, rfl, rfl⟩⟩⟩⟩⟩ := hK0
  obtain rfl : v0 = .agg #[.int .i64 a0_0, .int .i64 a0_1, .int .i64 a0_2, .int .i64 a0_3, .int .i64 a0_4, .string a0_5] := arg_struct Try.underlying23 (hval 0 23 v0 rfl rfl) hcs0
  clear hA0 hval0 hsz0 hsz
  have hP : StHeaderEncodes := Pure.HeaderEncodes
  obtain ⟨k, h⟩ := hP a0_0 a0_1 a0_2 a0_3 a0_4 a0_5 hG0
  refine (stowagelaw18_HeaderEncodes.calls k a0_0 a0_1 a0_2 a0_3 a0_4 a0_5 true W  h).mono ?_
  rintro e W' ⟨rfl, bel⟩
  exact ⟨_, rfl, _, _, _, [], _, [], hW', trodAll_mk1 (shut_bool Try.underlying4 _), (trodAll_cons_mk (Below.trod laidOut (by kernel_rfl) (of_decide_eq_true (by kernel_rfl)) k0 bel lt0) trodAll_mk0), rfl, bel.frame _, fun h => by cases h⟩
theorem over : Rows.headerEncodesRow.holds Try.pinned (OpenSpec.ofChange Rows.headerEncodesSpec) :=
  OpenClaim.holds_of_wide 3 Try.f3 rfl rfl rfl rfl rfl rfl rfl ⟨rfl, rfl, rfl, rfl, rfl⟩ rfl rfl rfl rfl rfl (by kernel_rfl) Try.func3 (by kernel_rfl)
    (of_decide_eq_true (by kernel_rfl)) (by unfold Func.isWrapper; first | (rw [if_pos (by decide +kernel)]; kernel_rfl) | (rw [if_neg (by decide +kernel)]; exact ⟨rfl, rfl⟩))
    (fun os started H enc _ => lifted os started H enc)
theorem proved : Rows.HeaderEncodesSaid := over
end Go.Proofs.Ytbidkiacgggpmaa.headerEncodes
namespace Go.Proofs.Ytbidkiacgggpmaa
/-- The row, under a short name, for the claim. -/
theorem headerEncodes_holds : Rows.HeaderEncodesSaid := headerEncodes.proved
#print axioms headerEncodes_holds
end Go.Proofs.Ytbidkiacgggpmaa
