import Derived.Test.YtfiobfjolkmdpaaDoorQSampx1
namespace Go.Proofs.YtfiobfjolkmdpaaDoor.Pure
open Go.RowKit Go.Proofs.YtfiobfjolkmdpaaDoor.QSamp Go.Proofs.YtfiobfjolkmdpaaDoorW.PrintWords Go.Proofs.YtfiobfjolkmdpaaDoorW.PrintLast
theorem awake_ev : stowagelaw10_awake.f 40 = some true := by decide +kernel
theorem u64_nonneg (op : BinOp) (a b : Int) : 0 ≤ Go.bits op .u64 a b := by
  unfold Go.bits
  rw [IntKind.wrap_u64]
  omega
theorem hash_same (a0 a1 : Int) : stowageref10_Hash.f a0 a1 = sample_Hash.f a0 a1 := by
  unfold stowageref10_Hash.f sample_Hash.f
  rw [Int.mul_comm 11400714819323198485, Int.mul_comm 14029467366897019727]
theorem hash_range (a0 a1 : Int) : ∃ h : Int, sample_Hash.f a0 a1 = some h ∧ 0 ≤ h ∧ h < 16777216 := by
  unfold sample_Hash.f
  refine ⟨_, rfl, ?_⟩
  generalize hx : Go.bits .xor .u64 (IntKind.u64.wrap _) ((IntKind.u64.wrap _) / 4294967296) = x
  have h0 : 0 ≤ x := by rw [← hx]; exact u64_nonneg _ _ _
  have h1 : Int.tmod x 16777216 = x % 16777216 := Int.tmod_eq_emod_of_nonneg h0
  rw [h1]
  unfold wrap64
  omega
theorem SampleHashes : stowagelaw10_SampleHashes.Pure := by
  intro a0 a1 a2 _ _ _
  refine ⟨40, ?_⟩
  obtain ⟨h, hh, h0, h1⟩ := hash_range a0 a1
  unfold stowagelaw10_SampleHashes.f
  rw [hash_same, hh, awake_ev]
  unfold sample_Taken.f
  rw [hh]
  simp only [Option.bind_some, if_true]
  simp [h0, h1]
end Go.Proofs.YtfiobfjolkmdpaaDoor.Pure
