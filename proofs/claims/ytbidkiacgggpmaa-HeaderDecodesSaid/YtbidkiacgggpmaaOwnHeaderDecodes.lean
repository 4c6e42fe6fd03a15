/- Written by a program of this session (wip/tools/rowgen.py): the row of the law HeaderDecodes: its arguments are opened by their types, the law's function is walked by its contract, the plain statement tells the answer; the arguments read behind the call as before. No condition is added. -/
import Derived.Test.YtbidkiacgggpmaaRows
import Derived.Test.YtbidkiacgggpmaaOpenRows
import Derived.Test.YtbidkiacgggpmaaPureHeaderDecodes
import Derived.WalkKit
import Derived.ProofKit
import Derived.OpenShut
import Derived.ShutString
import Derived.ChangeOld
import Derived.Below
import Derived.SizedLaws
namespace Go.Proofs.Ytbidkiacgggpmaa.headerDecodes
open Go.ChangeShapes Go.WideShapes Go.ChangeAt Go.RowKit Go.Proofs.Ytbidkiacgggpmaa.OpenRows Go.Proofs.Ytbidkiacgggpmaa.QHead Go.Proofs.YtbidkiacgggpmaaW.PrintWords
open Go.ChangeMaps (open_string shut_string)
set_option linter.unusedVariables false
theorem own : ownKnob Try.prog.godebug = none := by kernel_rfl
theorem laidOut : laidOutB Try.prog = true := by kernel_rfl
theorem rd5 : Rdz Try.prog 5 (Kd.int .u8) (fun v : Int => (Lit.int .u8 v).wf = true) := rd_int Try.underlying5
theorem rd24 : Rdz Try.prog 24 (Kd.slice 5 (Kd.int .u8)) (fun v : (List Int) => (v.length ≤ maxLen ∧ v.length * 1 ≤ 140737488351232 ∧ ∀ x0 ∈ v, (Lit.int .u8 x0).wf = true)) := rd_slice Try.underlying24 (by kernel_rfl) (by kernel_rfl) rd5
set_option maxRecDepth 100000 in
theorem lifted (os : Os) (started : os.Started) (H : Type) (enc : TypeId × Value → H) :
    ReturnsInHanded {} Try.checked os 4 .any (Rows.headerDecodesSpec.pre6 enc Try.prog Try.f4 Rows.headerDecodesRow.domain false) (Rows.headerDecodesSpec.post enc Try.prog Try.f4 false true false false) := by
  refine returnsInHanded_of_change_sized (C := Try.checked) own started (by kernel_rfl) Try.func4
    (ChangeSpec.witness6 (enc := enc) (C := Try.checked) false ⟨#[], #[.slice none 0 0], []⟩ 8 (by kernel_rfl) (by kernel_rfl) (by kernel_rfl) (by kernel_rfl)) ?_
  intro W base args ds gs before hval0 hW hcnd hsz0 _
  have hsz : (DataW.weightsEach Try.prog (Try.f4.params.toList ++ Rows.headerDecodesSpec.plain.varTypes Try.prog) (ds ++ gs)).all (· ≤ reachBytes) = true := hsz0
  have hval : ∀ (j : Nat) t v, Try.f4.params[j]? = some t → args[j]? = some v → Value.okWide Try.prog W .any base t v := hval0
  have hW' := hW
  obtain ⟨p, q, hA0, hV, rfl, hfz, hnd⟩ := hW
  have hA : DataW.TrodAll enc Try.prog W 0 (fun _ => true) true Try.f4.params.toList args.toList ds p := hA0
  rw [Try.params4] at hA hval hsz
  obtain ⟨v0, vs0, d0, ds0, p0, q0, hargs, rfl, rfl, h0, r0⟩ := trodAll_cons hA
  obtain ⟨rfl, rfl, rfl⟩ := trodAll_nil r0
  obtain rfl : args = #[v0] := by cases args; simp_all
  obtain ⟨rfl, rfl⟩ := trodVars_none hV
  have k0 := h0
  have lt0 : ∀ x ∈ p0, x.block < W.heap.size := by obtain ⟨m, hm⟩ := k0; exact DataW.trod_lt m _ _ _ hm
  obtain ⟨l0, hK0, hG0⟩ := rd_arg rd24 hsz (j := 0) rfl rfl h0
  obtain ⟨Al0, cl0, rfl, hl0, hC0⟩ := arg_slice Try.underlying24 (hval 0 24 v0 rfl rfl) hK0
  clear hA0 hval0 hsz0 hsz
  have hP : StHeaderDecodes := Pure.HeaderDecodes
  obtain ⟨k, h⟩ := hP l0 hG0
  refine (stowagelaw18_HeaderDecodes.calls k _ _ l0 true W hC0 hl0 h).mono ?_
  rintro e W' ⟨rfl, bel⟩
  exact ⟨_, rfl, _, _, _, [], _, [], hW', trodAll_mk1 (shut_bool Try.underlying4 _), (trodAll_cons_mk (Below.trod laidOut (by kernel_rfl) (of_decide_eq_true (by kernel_rfl)) k0 bel lt0) trodAll_mk0), rfl, bel.frame _, fun h => by cases h⟩
theorem over : Rows.headerDecodesRow.holds Try.pinned (OpenSpec.ofChange Rows.headerDecodesSpec) :=
  OpenClaim.holds_of_wide 4 Try.f4 rfl rfl rfl rfl rfl rfl rfl ⟨rfl, rfl, rfl, rfl, rfl⟩ rfl rfl rfl rfl rfl (by kernel_rfl) Try.func4 (by kernel_rfl)
    (of_decide_eq_true (by kernel_rfl)) (by unfold Func.isWrapper; first | (rw [if_pos (by decide +kernel)]; kernel_rfl) | (rw [if_neg (by decide +kernel)]; exact ⟨rfl, rfl⟩))
    (fun os started H enc _ => lifted os started H enc)
theorem proved : Rows.HeaderDecodesSaid := over
end Go.Proofs.Ytbidkiacgggpmaa.headerDecodes
namespace Go.Proofs.Ytbidkiacgggpmaa
/-- The row, under a short name, for the claim. -/
theorem headerDecodes_holds : Rows.HeaderDecodesSaid := headerDecodes.proved
#print axioms headerDecodes_holds
end Go.Proofs.Ytbidkiacgggpmaa
