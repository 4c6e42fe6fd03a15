/- Written by a program of this session (wip/tools/rowgen.py): the row of the law LineCuts: its arguments are opened by their types, the law's function is walked by its contract, the plain statement tells the answer; the arguments read behind the call as before. No condition is added. -/
import Derived.Test.YtjfdjbmahahllaaRows
import Derived.Test.YtjfdjbmahahllaaOpenRows
import Derived.Test.YtjfdjbmahahllaaPureLineCuts
import Derived.WalkKit
import Derived.ProofKit
import Derived.OpenShut
import Derived.ShutString
import Derived.ChangeOld
import Derived.Below
import Derived.SizedLaws
namespace Go.Proofs.Ytjfdjbmahahllaa.lineCuts
open Go.ChangeShapes Go.WideShapes Go.ChangeAt Go.RowKit Go.Proofs.Ytjfdjbmahahllaa.OpenRows Go.Proofs.Ytjfdjbmahahllaa.QLine Go.Proofs.YtjfdjbmahahllaaW.PrintWords
open Go.ChangeMaps (open_string shut_string)
set_option linter.unusedVariables false
theorem own : ownKnob Try.prog.godebug = none := by kernel_rfl
theorem laidOut : laidOutB Try.prog = true := by kernel_rfl
theorem rd3 : Rdz Try.prog 3 (Kd.int .i64) (fun v : Int => (Lit.int .i64 v).wf = true) := rd_int Try.underlying3
theorem rd9 : Rdz Try.prog 9 Kd.string (fun v : ByteArray => v.size ≤ 140737488351232) := rd_string Try.underlying9
theorem rd23 : Rdz Try.prog 23 (Kd.pair (Kd.int .i64) (Kd.pair (Kd.int .i64) (Kd.pair (Kd.int .i64) (Kd.pair (Kd.int .i64) (Kd.pair (Kd.int .i64) Kd.string))))) (fun v : (Int × Int × Int × Int × Int × ByteArray) => ((Lit.int .i64 v.1).wf = true ∧ ((Lit.int .i64 v.2.1).wf = true ∧ ((Lit.int .i64 v.2.2.1).wf = true ∧ ((Lit.int .i64 v.2.2.2.1).wf = true ∧ ((Lit.int .i64 v.2.2.2.2.1).wf = true ∧ (v.2.2.2.2.2.size ≤ 140737488351232))))))) := by
  refine rd_struct Try.underlying23 (by kernel_rfl) ?_
  refine rdf_cons (a := (Kd.int .i64)) (Ga := (fun v : Int => (Lit.int .i64 v).wf = true)) (Gb := (fun v : Int × Int × Int × Int × ByteArray => ((Lit.int .i64 v.1).wf = true ∧ ((Lit.int .i64 v.2.1).wf = true ∧ ((Lit.int .i64 v.2.2.1).wf = true ∧ ((Lit.int .i64 v.2.2.2.1).wf = true ∧ (v.2.2.2.2.size ≤ 140737488351232))))))) (by rfl) (by kernel_rfl) rd3 ?_
  refine rdf_cons (a := (Kd.int .i64)) (Ga := (fun v : Int => (Lit.int .i64 v).wf = true)) (Gb := (fun v : Int × Int × Int × ByteArray => ((Lit.int .i64 v.1).wf = true ∧ ((Lit.int .i64 v.2.1).wf = true ∧ ((Lit.int .i64 v.2.2.1).wf = true ∧ (v.2.2.2.size ≤ 140737488351232)))))) (by rfl) (by kernel_rfl) rd3 ?_
  refine rdf_cons (a := (Kd.int .i64)) (Ga := (fun v : Int => (Lit.int .i64 v).wf = true)) (Gb := (fun v : Int × Int × ByteArray => ((Lit.int .i64 v.1).wf = true ∧ ((Lit.int .i64 v.2.1).wf = true ∧ (v.2.2.size ≤ 140737488351232))))) (by rfl) (by kernel_rfl) rd3 ?_
  refine rdf_cons (a := (Kd.int .i64)) (Ga := (fun v : Int => (Lit.int .i64 v).wf = true)) (Gb := (fun v : Int × ByteArray => ((Lit.int .i64 v.1).wf = true ∧ (v.2.size ≤ 140737488351232)))) (by rfl) (by kernel_rfl) rd3 ?_
  refine rdf_cons (a := (Kd.int .i64)) (Ga := (fun v : Int => (Lit.int .i64 v).wf = true)) (Gb := (fun v : ByteArray => (v.size ≤ 140737488351232))) (by rfl) (by kernel_rfl) rd3 ?_
  exact rdf_last (by rfl) (by kernel_rfl) rd9
theorem rdE23 : Rdz Try.prog 23 k23 (fun v : S23 => ((Lit.int .i64 v.f0).wf = true ∧ ((Lit.int .i64 v.f1).wf = true ∧ ((Lit.int .i64 v.f2).wf = true ∧ ((Lit.int .i64 v.f3).wf = true ∧ ((Lit.int .i64 v.f4).wf = true ∧ (v.f5.size ≤ 140737488351232))))))) := rd_iso (fun a => ⟨a.1, a.2.1, a.2.2.1, a.2.2.2.1, a.2.2.2.2.1, a.2.2.2.2.2⟩) (fun _ => rfl) rd23
theorem rd45 : Rdz Try.prog 45 (Kd.slice 23 k23) (fun v : (List S23) => (v.length ≤ maxLen ∧ v.length * 56 ≤ 140737488351232 ∧ ∀ x0 ∈ v, ((Lit.int .i64 x0.f0).wf = true ∧ ((Lit.int .i64 x0.f1).wf = true ∧ ((Lit.int .i64 x0.f2).wf = true ∧ ((Lit.int .i64 x0.f3).wf = true ∧ ((Lit.int .i64 x0.f4).wf = true ∧ (x0.f5.size ≤ 140737488351232)))))))) := rd_slice Try.underlying45 (by kernel_rfl) (by kernel_rfl) rdE23
theorem rd41 : Rdz Try.prog 41 (Kd.slice 45 (Kd.slice 23 k23)) (fun v : (List (List S23)) => (v.length ≤ maxLen ∧ v.length * 24 ≤ 140737488351232 ∧ ∀ x0 ∈ v, (x0.length ≤ maxLen ∧ x0.length * 56 ≤ 140737488351232 ∧ ∀ x1 ∈ x0, ((Lit.int .i64 x1.f0).wf = true ∧ ((Lit.int .i64 x1.f1).wf = true ∧ ((Lit.int .i64 x1.f2).wf = true ∧ ((Lit.int .i64 x1.f3).wf = true ∧ ((Lit.int .i64 x1.f4).wf = true ∧ (x1.f5.size ≤ 140737488351232))))))))) := rd_slice Try.underlying41 (by kernel_rfl) (by kernel_rfl) rd45
theorem rd36 : Rdz Try.prog 36 (Kd.int .u16) (fun v : Int => (Lit.int .u16 v).wf = true) := rd_int Try.underlying36
set_option maxRecDepth 100000 in
theorem lifted (os : Os) (started : os.Started) (H : Type) (enc : TypeId × Value → H) :
    ReturnsInHanded {} Try.checked os 8 .any (Rows.lineCutsSpec.pre6 enc Try.prog Try.f8 Rows.lineCutsRow.domain false) (Rows.lineCutsSpec.post enc Try.prog Try.f8 false true false false) := by
  refine returnsInHanded_of_change_sized (C := Try.checked) own started (by kernel_rfl) Try.func8
    (ChangeSpec.witness6 (enc := enc) (C := Try.checked) false ⟨#[], #[.slice none 0 0, .int .u16 0, .int .u16 0], []⟩ 8 (by kernel_rfl) (by kernel_rfl) (by kernel_rfl) (by kernel_rfl)) ?_
  intro W base args ds gs before hval0 hW hcnd hsz0 _
  have hsz : (DataW.weightsEach Try.prog (Try.f8.params.toList ++ Rows.lineCutsSpec.plain.varTypes Try.prog) (ds ++ gs)).all (· ≤ reachBytes) = true := hsz0
  have hval : ∀ (j : Nat) t v, Try.f8.params[j]? = some t → args[j]? = some v → Value.okWide Try.prog W .any base t v := hval0
  have hW' := hW
  obtain ⟨p, q, hA0, hV, rfl, hfz, hnd⟩ := hW
  have hA : DataW.TrodAll enc Try.prog W 0 (fun _ => true) true Try.f8.params.toList args.toList ds p := hA0
  rw [Try.params8] at hA hval hsz
  obtain ⟨v0, vs0, d0, ds0, p0, q0, hargs, rfl, rfl, h0, r0⟩ := trodAll_cons hA
  obtain ⟨v1, vs1, d1, ds1, p1, q1, rfl, rfl, rfl, h1, r1⟩ := trodAll_cons r0
  obtain ⟨v2, vs2, d2, ds2, p2, q2, rfl, rfl, rfl, h2, r2⟩ := trodAll_cons r1
  obtain ⟨rfl, rfl, rfl⟩ := trodAll_nil r2
  obtain rfl : args = #[v0, v1, v2] := by cases args; simp_all
  obtain ⟨rfl, rfl⟩ := trodVars_none hV
  have k0 := h0
  have lt0 : ∀ x ∈ p0, x.block < W.heap.size := by obtain ⟨m, hm⟩ := k0; exact DataW.trod_lt m _ _ _ hm
  obtain ⟨l0, hK0, hG0⟩ := rd_arg rd41 hsz (j := 0) rfl rfl h0
  obtain ⟨Al0, cl0, rfl, hl0, hC0⟩ := arg_slice Try.underlying41 (hval 0 41 v0 rfl rfl) hK0
  have k1 := h1
  have lt1 : ∀ x ∈ p1, x.block < W.heap.size := by obtain ⟨m, hm⟩ := k1; exact DataW.trod_lt m _ _ _ hm
  obtain ⟨a1, hK1, hG1⟩ := rd_arg rd36 hsz (j := 1) rfl rfl h1
  obtain rfl := arg_int Try.underlying36 (hval 1 36 v1 rfl rfl) hK1
  have k2 := h2
  have lt2 : ∀ x ∈ p2, x.block < W.heap.size := by obtain ⟨m, hm⟩ := k2; exact DataW.trod_lt m _ _ _ hm
  obtain ⟨a2, hK2, hG2⟩ := rd_arg rd36 hsz (j := 2) rfl rfl h2
  obtain rfl := arg_int Try.underlying36 (hval 2 36 v2 rfl rfl) hK2
  clear hA0 hval0 hsz0 hsz
  have hP : StLineCuts := Pure.LineCuts
  obtain ⟨k, h⟩ := hP l0 a1 a2 hG0 hG1 hG2
  refine (stowagelaw15_LineCuts.calls k (fun _ => True) _ _ l0 a1 a2 true W ⟨_, _, rfl, hl0, fun W' hW => (heapSlice (heapIso (Kd.heap_pair (Kd.heap_int .i64) (Kd.heap_pair (Kd.heap_int .i64) (Kd.heap_pair (Kd.heap_int .i64) (Kd.heap_pair (Kd.heap_int .i64) (Kd.heap_pair (Kd.heap_int .i64) (Kd.heap_string)))))))).C (fun k hk => hW k trivial hk) hC0⟩ h).mono ?_
  rintro e W' ⟨rfl, bel⟩
  exact ⟨_, rfl, _, _, _, [], _, [], hW', trodAll_mk1 (shut_bool Try.underlying4 _), (trodAll_cons_mk (Below.trod laidOut (by kernel_rfl) (of_decide_eq_true (by kernel_rfl)) k0 bel lt0) (trodAll_cons_mk (Below.trod laidOut (by kernel_rfl) (of_decide_eq_true (by kernel_rfl)) k1 bel lt1) (trodAll_cons_mk (Below.trod laidOut (by kernel_rfl) (of_decide_eq_true (by kernel_rfl)) k2 bel lt2) trodAll_mk0))), rfl, bel.frame _, fun h => by cases h⟩
theorem over : Rows.lineCutsRow.holds Try.pinned (OpenSpec.ofChange Rows.lineCutsSpec) :=
  OpenClaim.holds_of_wide 8 Try.f8 rfl rfl rfl rfl rfl rfl rfl ⟨rfl, rfl, rfl, rfl, rfl⟩ rfl rfl rfl rfl rfl (by kernel_rfl) Try.func8 (by kernel_rfl)
    (of_decide_eq_true (by kernel_rfl)) (by unfold Func.isWrapper; first | (rw [if_pos (by decide +kernel)]; kernel_rfl) | (rw [if_neg (by decide +kernel)]; exact ⟨rfl, rfl⟩))
    (fun os started H enc _ => lifted os started H enc)
theorem proved : Rows.LineCutsSaid := over
end Go.Proofs.Ytjfdjbmahahllaa.lineCuts
namespace Go.Proofs.Ytjfdjbmahahllaa
/-- The row, under a short name, for the claim. -/
theorem lineCuts_holds : Rows.LineCutsSaid := lineCuts.proved
#print axioms lineCuts_holds
end Go.Proofs.Ytjfdjbmahahllaa
