/- The tables of math/bits that the sample rows list: how they lie in every start, and what that gives the walks. -/
import Derived.Test.YtfiobfjolkmdpaaDoorRows
import Derived.Test.YtfiobfjolkmdpaaDoorQSampx1
import Derived.ProofKit
import Derived.LaidMore
import Derived.Lib.LaidTab
import Derived.Stop.LaidErr
import Derived.Stop.Joined
namespace Go.Proofs.YtfiobfjolkmdpaaDoor
open Go.ChangeShapes Go.WideShapes Go.ChangeAt Go.RowKit
def laid2 : List (String × DataW Unit) := [("math/bits.deBruijn32tab", Rows.laid_math_bits_deBruijn32tab), ("math/bits.deBruijn64tab", Rows.laid_math_bits_deBruijn64tab)]
theorem g64 : Tryd.prog.globalNamed "math/bits.deBruijn64tab" = some 1 := by kernel_rfl
theorem door_met (os : Os) (args : Array Value) : laidMetH Tryd.prog laid2 ((World.doorLaid Tryd.prog 400 os).forCall (fun _ _ => 0) ⟨#[], args, []⟩).memory :=
  laidMetH_of_parts3 (fuel := 8) (laidMet_of_run' 8 (by kernel_rfl) (by kernel_rfl)) (by kernel_rfl) (by kernel_rfl)
theorem tabOk_of_laid {W : World} (h : laidMetH Tryd.prog laid2 W) : QSamp.TabOk W := by
  rw [MakeChecks.laidMetH_plain _ _ _ (by kernel_rfl)] at h
  have h64 := laidMet.tail h
  have hT : Lib.TabIs Tryd.prog W "math/bits.deBruijn64tab" .u8 (Lib.deBruijn64tab.map fun n : Nat => (n : Int)) :=
    Lib.tabIs_of_head (t := 54) (e := 5) (n := 64) g64 (by kernel_rfl) (by kernel_rfl) (by kernel_rfl) (by kernel_rfl) (by kernel_rfl) h64
  have hl : (Lib.deBruijn64tab.map fun n : Nat => (n : Int)).length = 64 := by kernel_rfl
  have hc : ∀ j, j < 64 → W.cell? ⟨1, j, none⟩ = some (.int .u8 ((Lib.deBruijn64tab.getD j 0 : Nat) : Int)) := fun j hj => by
    have := hT.cell g64 j (by rw [hl]; exact hj)
    rw [this]
    have hlen : j < Lib.deBruijn64tab.length := by rw [List.length_map] at hl; omega
    simp [List.getD, hlen]
  exact ⟨(World.block_lt_of_cell? W _ (hc 0 (by omega)) : 1 < W.heap.size), hc⟩
end Go.Proofs.YtfiobfjolkmdpaaDoor
