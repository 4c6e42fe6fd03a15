/- Written by a program of this session (wip/tools/rowgen.py): the row of the law LineTurned: its arguments are opened by their types, the law's function is walked by its contract, the plain statement tells the answer; the arguments read behind the call as before. No condition is added. -/
import Derived.Test.YtjfdjbmahahllaaRows
import Derived.Test.YtjfdjbmahahllaaOpenRows
import Derived.Test.YtjfdjbmahahllaaPureLineTurned
import Derived.WalkKit
import Derived.ProofKit
import Derived.OpenShut
import Derived.ShutString
import Derived.ChangeOld
import Derived.Below
import Derived.SizedLaws
namespace Go.Proofs.Ytjfdjbmahahllaa.lineTurned
open Go.ChangeShapes Go.WideShapes Go.ChangeAt Go.RowKit Go.Proofs.Ytjfdjbmahahllaa.OpenRows Go.Proofs.Ytjfdjbmahahllaa.QLine Go.Proofs.YtjfdjbmahahllaaW.PrintWords
open Go.ChangeMaps (open_string shut_string)
set_option linter.unusedVariables false
theorem own : ownKnob Try.prog.godebug = none := by kernel_rfl
theorem laidOut : laidOutB Try.prog = true := by kernel_rfl
theorem rd3 : Rdz Try.prog 3 (Kd.int .i64) (fun v : Int => (Lit.int .i64 v).wf = true) := rd_int Try.underlying3
theorem rd4 : Rdz Try.prog 4 Kd.bool (fun v : Bool => True) := rd_bool Try.underlying4
theorem rd9 : Rdz Try.prog 9 Kd.string (fun v : ByteArray => v.size ≤ 140737488351232) := rd_string Try.underlying9
theorem rd23 : Rdz Try.prog 23 (Kd.pair (Kd.int .i64) (Kd.pair (Kd.int .i64) (Kd.pair (Kd.int .i64) (Kd.pair (Kd.int .i64) (Kd.pair (Kd.int .i64) Kd.string))))) (fun v : (Int × Int × Int × Int × Int × ByteArray) => ((Lit.int .i64 v.1).wf = true ∧ ((Lit.int .i64 v.2.1).wf = true ∧ ((Lit.int .i64 v.2.2.1).wf = true ∧ ((Lit.int .i64 v.2.2.2.1).wf = true ∧ ((Lit.int .i64 v.2.2.2.2.1).wf = true ∧ (v.2.2.2.2.2.size ≤ 140737488351232))))))) := by
  refine rd_struct Try.underlying23 (by kernel_rfl) ?_
  refine rdf_cons (a := (Kd.int .i64)) (Ga := (fun v : Int => (Lit.int .i64 v).wf = true)) (Gb := (fun v : Int × Int × Int × Int × ByteArray => ((Lit.int .i64 v.1).wf = true ∧ ((Lit.int .i64 v.2.1).wf = true ∧ ((Lit.int .i64 v.2.2.1).wf = true ∧ ((Lit.int .i64 v.2.2.2.1).wf = true ∧ (v.2.2.2.2.size ≤ 140737488351232))))))) (by rfl) (by kernel_rfl) rd3 ?_
  refine rdf_cons (a := (Kd.int .i64)) (Ga := (fun v : Int => (Lit.int .i64 v).wf = true)) (Gb := (fun v : Int × Int × Int × ByteArray => ((Lit.int .i64 v.1).wf = true ∧ ((Lit.int .i64 v.2.1).wf = true ∧ ((Lit.int .i64 v.2.2.1).wf = true ∧ (v.2.2.2.size ≤ 140737488351232)))))) (by rfl) (by kernel_rfl) rd3 ?_
  refine rdf_cons (a := (Kd.int .i64)) (Ga := (fun v : Int => (Lit.int .i64 v).wf = true)) (Gb := (fun v : Int × Int × ByteArray => ((Lit.int .i64 v.1).wf = true ∧ ((Lit.int .i64 v.2.1).wf = true ∧ (v.2.2.size ≤ 140737488351232))))) (by rfl) (by kernel_rfl) rd3 ?_
  refine rdf_cons (a := (Kd.int .i64)) (Ga := (fun v : Int => (Lit.int .i64 v).wf = true)) (Gb := (fun v : Int × ByteArray => ((Lit.int .i64 v.1).wf = true ∧ (v.2.size ≤ 140737488351232)))) (by rfl) (by kernel_rfl) rd3 ?_
  refine rdf_cons (a := (Kd.int .i64)) (Ga := (fun v : Int => (Lit.int .i64 v).wf = true)) (Gb := (fun v : ByteArray => (v.size ≤ 140737488351232))) (by rfl) (by kernel_rfl) rd3 ?_
  exact rdf_last (by rfl) (by kernel_rfl) rd9
theorem rd25 : Rdz Try.prog 25 (Kd.pair (Kd.int .i64) (Kd.pair (Kd.int .i64) (Kd.pair Kd.bool (Kd.pair (Kd.int .i64) (Kd.pair (Kd.int .i64) (Kd.pair (Kd.int .i64) (Kd.pair (Kd.int .i64) (Kd.pair (Kd.int .i64) Kd.string)))))))) (fun v : (Int × Int × Bool × (Int × Int × Int × Int × Int × ByteArray)) => ((Lit.int .i64 v.1).wf = true ∧ ((Lit.int .i64 v.2.1).wf = true ∧ (True ∧ (((Lit.int .i64 v.2.2.2.1).wf = true ∧ ((Lit.int .i64 v.2.2.2.2.1).wf = true ∧ ((Lit.int .i64 v.2.2.2.2.2.1).wf = true ∧ ((Lit.int .i64 v.2.2.2.2.2.2.1).wf = true ∧ ((Lit.int .i64 v.2.2.2.2.2.2.2.1).wf = true ∧ (v.2.2.2.2.2.2.2.2.size ≤ 140737488351232))))))))))) := by
  refine rd_struct Try.underlying25 (by kernel_rfl) ?_
  refine rdf_cons (a := (Kd.int .i64)) (Ga := (fun v : Int => (Lit.int .i64 v).wf = true)) (Gb := (fun v : Int × Bool × (Int × Int × Int × Int × Int × ByteArray) => ((Lit.int .i64 v.1).wf = true ∧ (True ∧ (((Lit.int .i64 v.2.2.1).wf = true ∧ ((Lit.int .i64 v.2.2.2.1).wf = true ∧ ((Lit.int .i64 v.2.2.2.2.1).wf = true ∧ ((Lit.int .i64 v.2.2.2.2.2.1).wf = true ∧ ((Lit.int .i64 v.2.2.2.2.2.2.1).wf = true ∧ (v.2.2.2.2.2.2.2.size ≤ 140737488351232))))))))))) (by rfl) (by kernel_rfl) rd3 ?_
  refine rdf_cons (a := (Kd.int .i64)) (Ga := (fun v : Int => (Lit.int .i64 v).wf = true)) (Gb := (fun v : Bool × (Int × Int × Int × Int × Int × ByteArray) => (True ∧ (((Lit.int .i64 v.2.1).wf = true ∧ ((Lit.int .i64 v.2.2.1).wf = true ∧ ((Lit.int .i64 v.2.2.2.1).wf = true ∧ ((Lit.int .i64 v.2.2.2.2.1).wf = true ∧ ((Lit.int .i64 v.2.2.2.2.2.1).wf = true ∧ (v.2.2.2.2.2.2.size ≤ 140737488351232)))))))))) (by rfl) (by kernel_rfl) rd3 ?_
  refine rdf_cons (a := Kd.bool) (Ga := (fun v : Bool => True)) (Gb := (fun v : (Int × Int × Int × Int × Int × ByteArray) => (((Lit.int .i64 v.1).wf = true ∧ ((Lit.int .i64 v.2.1).wf = true ∧ ((Lit.int .i64 v.2.2.1).wf = true ∧ ((Lit.int .i64 v.2.2.2.1).wf = true ∧ ((Lit.int .i64 v.2.2.2.2.1).wf = true ∧ (v.2.2.2.2.2.size ≤ 140737488351232))))))))) (by rfl) (by kernel_rfl) rd4 ?_
  exact rdf_last (by rfl) (by kernel_rfl) rd23
theorem rd36 : Rdz Try.prog 36 (Kd.int .u16) (fun v : Int => (Lit.int .u16 v).wf = true) := rd_int Try.underlying36
theorem rd37 : Rdz Try.prog 37 (Kd.int .u32) (fun v : Int => (Lit.int .u32 v).wf = true) := rd_int Try.underlying37
set_option maxRecDepth 100000 in
theorem lifted (os : Os) (started : os.Started) (H : Type) (enc : TypeId × Value → H) :
    ReturnsInHanded {} Try.checked os 6 .any (Rows.lineTurnedSpec.pre6 enc Try.prog Try.f6 Rows.lineTurnedRow.domain false) (Rows.lineTurnedSpec.post enc Try.prog Try.f6 false true false false) := by
  refine returnsInHanded_of_change_sized (C := Try.checked) own started (by kernel_rfl) Try.func6
    (ChangeSpec.witness6 (enc := enc) (C := Try.checked) false ⟨#[], #[.agg #[.int .i64 0, .int .i64 0, .bool false, .int .i64 0, .int .i64 0, .int .i64 0, .int .i64 0, .int .i64 0, .string ByteArray.empty], .int .u16 0, .int .u32 0], []⟩ 8 (by kernel_rfl) (by kernel_rfl) (by kernel_rfl) (by kernel_rfl)) ?_
  intro W base args ds gs before hval0 hW hcnd hsz0 _
  have hsz : (DataW.weightsEach Try.prog (Try.f6.params.toList ++ Rows.lineTurnedSpec.plain.varTypes Try.prog) (ds ++ gs)).all (· ≤ reachBytes) = true := hsz0
  have hval : ∀ (j : Nat) t v, Try.f6.params[j]? = some t → args[j]? = some v → Value.okWide Try.prog W .any base t v := hval0
  have hW' := hW
  obtain ⟨p, q, hA0, hV, rfl, hfz, hnd⟩ := hW
  have hA : DataW.TrodAll enc Try.prog W 0 (fun _ => true) true Try.f6.params.toList args.toList ds p := hA0
  rw [Try.params6] at hA hval hsz
  obtain ⟨v0, vs0, d0, ds0, p0, q0, hargs, rfl, rfl, h0, r0⟩ := trodAll_cons hA
  obtain ⟨v1, vs1, d1, ds1, p1, q1, rfl, rfl, rfl, h1, r1⟩ := trodAll_cons r0
  obtain ⟨v2, vs2, d2, ds2, p2, q2, rfl, rfl, rfl, h2, r2⟩ := trodAll_cons r1
  obtain ⟨rfl, rfl, rfl⟩ := trodAll_nil r2
  obtain rfl : args = #[v0, v1, v2] := by cases args; simp_all
  obtain ⟨rfl, rfl⟩ := trodVars_none hV
  have k0 := h0
  have lt0 : ∀ x ∈ p0, x.block < W.heap.size := by obtain ⟨m, hm⟩ := k0; exact DataW.trod_lt m _ _ _ hm
  obtain ⟨⟨a0_0, a0_1, a0_2, ⟨a0_3, a0_4, a0_5, a0_6, a0_7, a0_8⟩⟩, hK0, hG0⟩ := rd_arg rd25 hsz (j := 0) rfl rfl h0
  obtain ⟨_, _, hcs0, rfl, ⟨_, _, rfl, rfl, ⟨_, _, rfl, rfl, ⟨_, _, rfl, rfl, ⟨_, _, rfl, rfl, ⟨_, _, rfl, rfl, ⟨_, _, rfl, rfl, ⟨_, _, rfl, rfl, rfl⟩⟩⟩⟩⟩⟩⟩⟩ := hK0
  obtain rfl : v0 = .agg #[.int .i64 a0_0, .int .i64 a0_1, .bool a0_2, .int .i64 a0_3, .int .i64 a0_4, .int .i64 a0_5, .int .i64 a0_6, .int .i64 a0_7, .string a0_8] := arg_struct Try.underlying25 (hval 0 25 v0 rfl rfl) hcs0
  have k1 := h1
  have lt1 : ∀ x ∈ p1, x.block < W.heap.size := by obtain ⟨m, hm⟩ := k1; exact DataW.trod_lt m _ _ _ hm
  obtain ⟨a1, hK1, hG1⟩ := rd_arg rd36 hsz (j := 1) rfl rfl h1
  obtain rfl := arg_int Try.underlying36 (hval 1 36 v1 rfl rfl) hK1
  have k2 := h2
  have lt2 : ∀ x ∈ p2, x.block < W.heap.size := by obtain ⟨m, hm⟩ := k2; exact DataW.trod_lt m _ _ _ hm
  obtain ⟨a2, hK2, hG2⟩ := rd_arg rd37 hsz (j := 2) rfl rfl h2
  obtain rfl := arg_int Try.underlying37 (hval 2 37 v2 rfl rfl) hK2
  clear hA0 hval0 hsz0 hsz
  have hP : StLineTurned := Pure.LineTurned
  obtain ⟨k, h⟩ := hP a0_0 a0_1 a0_2 a0_3 a0_4 a0_5 a0_6 a0_7 a0_8 a1 a2 hG0 hG1 hG2
  refine (stowagelaw15_LineTurned.calls k a0_0 a0_1 a0_2 a0_3 a0_4 a0_5 a0_6 a0_7 a0_8 a1 a2 true W  h).mono ?_
  rintro e W' ⟨rfl, bel⟩
  exact ⟨_, rfl, _, _, _, [], _, [], hW', trodAll_mk1 (shut_bool Try.underlying4 _), (trodAll_cons_mk (Below.trod laidOut (by kernel_rfl) (of_decide_eq_true (by kernel_rfl)) k0 bel lt0) (trodAll_cons_mk (Below.trod laidOut (by kernel_rfl) (of_decide_eq_true (by kernel_rfl)) k1 bel lt1) (trodAll_cons_mk (Below.trod laidOut (by kernel_rfl) (of_decide_eq_true (by kernel_rfl)) k2 bel lt2) trodAll_mk0))), rfl, bel.frame _, fun h => by cases h⟩
theorem over : Rows.lineTurnedRow.holds Try.pinned (OpenSpec.ofChange Rows.lineTurnedSpec) :=
  OpenClaim.holds_of_wide 6 Try.f6 rfl rfl rfl rfl rfl rfl rfl ⟨rfl, rfl, rfl, rfl, rfl⟩ rfl rfl rfl rfl rfl (by kernel_rfl) Try.func6 (by kernel_rfl)
    (of_decide_eq_true (by kernel_rfl)) (by unfold Func.isWrapper; first | (rw [if_pos (by decide +kernel)]; kernel_rfl) | (rw [if_neg (by decide +kernel)]; exact ⟨rfl, rfl⟩))
    (fun os started H enc _ => lifted os started H enc)
theorem proved : Rows.LineTurnedSaid := over
end Go.Proofs.Ytjfdjbmahahllaa.lineTurned
namespace Go.Proofs.Ytjfdjbmahahllaa
/-- The row, under a short name, for the claim. -/
theorem lineTurned_holds : Rows.LineTurnedSaid := lineTurned.proved
#print axioms lineTurned_holds
end Go.Proofs.Ytjfdjbmahahllaa
