/-
  NARROWER THAN 'FOR EVERY INPUT', by the rows' own cells (each row's printed sentence says how): SampleDistances: laid · SampleNames: laid · SampleTwice: laid · SampleHashes: laid · SampleHistograms: laid · SampleFirst: laid.
  DERIVED. THE GIVEN ROWS OF THIS SEAT. 6 by the template 'for every input the law returns true; each argument reads behind the call as it read before'; 0 by the template 'total and deterministic' (their statements: YtfiobfjolkmdpaaDoorTotals.lean).
  GIVEN WITH THE SEED: the statements are not yours to turn. If you find one false, say at which input.
  Laid BY PROGRAM, IN A SANDBOX (cutbox-rows.mjs): the forced cells as the released guide's own fill.sh prints them over the translation 3e6b5992219de942… (all of the seat's roots in one cut). By AI agents, Wed Nov 11 2026. No macro, syntax, notation, axiom, sorry.
-/
import Derived.Test.YtfiobfjolkmdpaaDoorChecked
import GoSem.Claim
import GoSem.ClaimJoined
import GoSem.ClaimMapViews
import Derived.JoinedTies
import Derived.KernelRfl
namespace Go.Proofs.YtfiobfjolkmdpaaDoor
/- THE CELL 'sum', in the pinned program and in every row, IS THE sha256 OF THE DUMP (.gsa) THAT YtfiobfjolkmdpaaDoorProg.lean LOADS. Nothing in Lean hashes anything: it is a label: what it is worth is what the hold of that sum in a sandbox is worth. -/
noncomputable def Tryd.pinned : Pinned := { name := "ytfiobfjolkmdpaadoor", sum := "3e6b5992219de94219c06538e6b93544bd6e01fc298b8dfc3e60b3519cfe8eeb", checked := Tryd.checked }
namespace Rows
def none {H : Type} : Left H := { results := [], args := [] }

/- WHAT THE LISTED PACKAGE-LEVEL VARIABLES READ AS WHEN THE CALL BEGINS. Each datum BY PROGRAM (the guide's laid-datum.mjs) off the statement by which the dump's own 'gosem.cut.vars' lays the variable. In a bare row this is a premise. The card (YtfiobfjolkmdpaaDoorCards.lean) ties it to the program's text. -/
def laid_math_bits_deBruijn32tab {H : Type} : DataW H := .agg [.lit (.int .u8 0), .lit (.int .u8 1), .lit (.int .u8 28), .lit (.int .u8 2), .lit (.int .u8 29), .lit (.int .u8 14), .lit (.int .u8 24), .lit (.int .u8 3), .lit (.int .u8 30), .lit (.int .u8 22), .lit (.int .u8 20), .lit (.int .u8 15), .lit (.int .u8 25), .lit (.int .u8 17), .lit (.int .u8 4), .lit (.int .u8 8), .lit (.int .u8 31), .lit (.int .u8 27), .lit (.int .u8 13), .lit (.int .u8 23), .lit (.int .u8 21), .lit (.int .u8 19), .lit (.int .u8 16), .lit (.int .u8 7), .lit (.int .u8 26), .lit (.int .u8 12), .lit (.int .u8 18), .lit (.int .u8 6), .lit (.int .u8 11), .lit (.int .u8 5), .lit (.int .u8 10), .lit (.int .u8 9)]
def laid_math_bits_deBruijn64tab {H : Type} : DataW H := .agg [.lit (.int .u8 0), .lit (.int .u8 1), .lit (.int .u8 56), .lit (.int .u8 2), .lit (.int .u8 57), .lit (.int .u8 49), .lit (.int .u8 28), .lit (.int .u8 3), .lit (.int .u8 61), .lit (.int .u8 58), .lit (.int .u8 42), .lit (.int .u8 50), .lit (.int .u8 38), .lit (.int .u8 29), .lit (.int .u8 17), .lit (.int .u8 4), .lit (.int .u8 62), .lit (.int .u8 47), .lit (.int .u8 59), .lit (.int .u8 36), .lit (.int .u8 45), .lit (.int .u8 43), .lit (.int .u8 51), .lit (.int .u8 22), .lit (.int .u8 53), .lit (.int .u8 39), .lit (.int .u8 33), .lit (.int .u8 30), .lit (.int .u8 24), .lit (.int .u8 18), .lit (.int .u8 12), .lit (.int .u8 5), .lit (.int .u8 63), .lit (.int .u8 55), .lit (.int .u8 48), .lit (.int .u8 27), .lit (.int .u8 60), .lit (.int .u8 41), .lit (.int .u8 37), .lit (.int .u8 16), .lit (.int .u8 46), .lit (.int .u8 35), .lit (.int .u8 44), .lit (.int .u8 21), .lit (.int .u8 52), .lit (.int .u8 32), .lit (.int .u8 23), .lit (.int .u8 11), .lit (.int .u8 54), .lit (.int .u8 26), .lit (.int .u8 40), .lit (.int .u8 15), .lit (.int .u8 34), .lit (.int .u8 20), .lit (.int .u8 31), .lit (.int .u8 10), .lit (.int .u8 25), .lit (.int .u8 14), .lit (.int .u8 19), .lit (.int .u8 9), .lit (.int .u8 13), .lit (.int .u8 8), .lit (.int .u8 7), .lit (.int .u8 6)]

/-- 'stowagelaw10.SampleDistances': WHATEVER THE INPUT: true; the input reads as it did. -/
def sampleDistancesSpec : ChangeSpec := { name := "sampleDistances", fn := fun _ => fun
  | [d] => { results := [.lit (.bool true)], args := [d] }
  | _ => none }
def sampleDistancesRow : OpenClaim := { program := "ytfiobfjolkmdpaadoor", sum := "3e6b5992219de94219c06538e6b93544bd6e01fc298b8dfc3e60b3519cfe8eeb", func := "stowage/stowagelaw10.SampleDistances", spec := "sampleDistances", named := ["math/bits.deBruijn32tab", "math/bits.deBruijn64tab"], apart := false, laid := [("math/bits.deBruijn32tab", laid_math_bits_deBruijn32tab), ("math/bits.deBruijn64tab", laid_math_bits_deBruijn64tab)] }
def SampleDistancesSaid : Prop := sampleDistancesRow.holds Tryd.pinned (OpenSpec.ofChange sampleDistancesSpec)

/-- ITS FALSE NEIGHBOUR: 'it returns false'. Refute it at one input. -/
def sampleDistancesWrong : ChangeSpec := { name := "sampleDistances", fn := fun _ => fun
  | [d] => { results := [.lit (.bool false)], args := [d] }
  | _ => none }
def SampleDistancesWrongFalsely : Prop := sampleDistancesRow.holds Tryd.pinned (OpenSpec.ofChange sampleDistancesWrong)

/-- 'stowagelaw10.SampleNames': WHATEVER THE INPUT: true; the input reads as it did. -/
def sampleNamesSpec : ChangeSpec := { name := "sampleNames", fn := fun _ => fun
  | [d1, d2, d3] => { results := [.lit (.bool true)], args := [d1, d2, d3] }
  | _ => none }
def sampleNamesRow : OpenClaim := { program := "ytfiobfjolkmdpaadoor", sum := "3e6b5992219de94219c06538e6b93544bd6e01fc298b8dfc3e60b3519cfe8eeb", func := "stowage/stowagelaw10.SampleNames", spec := "sampleNames", named := ["math/bits.deBruijn32tab", "math/bits.deBruijn64tab"], apart := false, laid := [("math/bits.deBruijn32tab", laid_math_bits_deBruijn32tab), ("math/bits.deBruijn64tab", laid_math_bits_deBruijn64tab)] }
def SampleNamesSaid : Prop := sampleNamesRow.holds Tryd.pinned (OpenSpec.ofChange sampleNamesSpec)

/-- ITS FALSE NEIGHBOUR: 'it returns false'. Refute it at one input. -/
def sampleNamesWrong : ChangeSpec := { name := "sampleNames", fn := fun _ => fun
  | [d1, d2, d3] => { results := [.lit (.bool false)], args := [d1, d2, d3] }
  | _ => none }
def SampleNamesWrongFalsely : Prop := sampleNamesRow.holds Tryd.pinned (OpenSpec.ofChange sampleNamesWrong)

/-- 'stowagelaw10.SampleTwice': WHATEVER THE INPUT: true; the input reads as it did. -/
def sampleTwiceSpec : ChangeSpec := { name := "sampleTwice", fn := fun _ => fun
  | [d] => { results := [.lit (.bool true)], args := [d] }
  | _ => none }
def sampleTwiceRow : OpenClaim := { program := "ytfiobfjolkmdpaadoor", sum := "3e6b5992219de94219c06538e6b93544bd6e01fc298b8dfc3e60b3519cfe8eeb", func := "stowage/stowagelaw10.SampleTwice", spec := "sampleTwice", named := ["math/bits.deBruijn32tab", "math/bits.deBruijn64tab"], apart := false, laid := [("math/bits.deBruijn32tab", laid_math_bits_deBruijn32tab), ("math/bits.deBruijn64tab", laid_math_bits_deBruijn64tab)] }
def SampleTwiceSaid : Prop := sampleTwiceRow.holds Tryd.pinned (OpenSpec.ofChange sampleTwiceSpec)

/-- ITS FALSE NEIGHBOUR: 'it returns false'. Refute it at one input. -/
def sampleTwiceWrong : ChangeSpec := { name := "sampleTwice", fn := fun _ => fun
  | [d] => { results := [.lit (.bool false)], args := [d] }
  | _ => none }
def SampleTwiceWrongFalsely : Prop := sampleTwiceRow.holds Tryd.pinned (OpenSpec.ofChange sampleTwiceWrong)

/-- 'stowagelaw10.SampleHashes': WHATEVER THE INPUT: true; the input reads as it did. -/
def sampleHashesSpec : ChangeSpec := { name := "sampleHashes", fn := fun _ => fun
  | [d1, d2, d3] => { results := [.lit (.bool true)], args := [d1, d2, d3] }
  | _ => none }
def sampleHashesRow : OpenClaim := { program := "ytfiobfjolkmdpaadoor", sum := "3e6b5992219de94219c06538e6b93544bd6e01fc298b8dfc3e60b3519cfe8eeb", func := "stowage/stowagelaw10.SampleHashes", spec := "sampleHashes", named := ["math/bits.deBruijn32tab", "math/bits.deBruijn64tab"], apart := false, laid := [("math/bits.deBruijn32tab", laid_math_bits_deBruijn32tab), ("math/bits.deBruijn64tab", laid_math_bits_deBruijn64tab)] }
def SampleHashesSaid : Prop := sampleHashesRow.holds Tryd.pinned (OpenSpec.ofChange sampleHashesSpec)

/-- ITS FALSE NEIGHBOUR: 'it returns false'. Refute it at one input. -/
def sampleHashesWrong : ChangeSpec := { name := "sampleHashes", fn := fun _ => fun
  | [d1, d2, d3] => { results := [.lit (.bool false)], args := [d1, d2, d3] }
  | _ => none }
def SampleHashesWrongFalsely : Prop := sampleHashesRow.holds Tryd.pinned (OpenSpec.ofChange sampleHashesWrong)

/-- 'stowagelaw10.SampleHistograms': WHATEVER THE INPUT: true; the input reads as it did. -/
def sampleHistogramsSpec : ChangeSpec := { name := "sampleHistograms", fn := fun _ => fun
  | [d1, d2] => { results := [.lit (.bool true)], args := [d1, d2] }
  | _ => none }
def sampleHistogramsRow : OpenClaim := { program := "ytfiobfjolkmdpaadoor", sum := "3e6b5992219de94219c06538e6b93544bd6e01fc298b8dfc3e60b3519cfe8eeb", func := "stowage/stowagelaw10.SampleHistograms", spec := "sampleHistograms", unfollowed := true, recurses := true, named := ["math/bits.deBruijn32tab", "math/bits.deBruijn64tab"], apart := false, laid := [("math/bits.deBruijn32tab", laid_math_bits_deBruijn32tab), ("math/bits.deBruijn64tab", laid_math_bits_deBruijn64tab)] }
def SampleHistogramsSaid : Prop := sampleHistogramsRow.holds Tryd.pinned (OpenSpec.ofChange sampleHistogramsSpec)

/-- ITS FALSE NEIGHBOUR: 'it returns false'. Refute it at one input. -/
def sampleHistogramsWrong : ChangeSpec := { name := "sampleHistograms", fn := fun _ => fun
  | [d1, d2] => { results := [.lit (.bool false)], args := [d1, d2] }
  | _ => none }
def SampleHistogramsWrongFalsely : Prop := sampleHistogramsRow.holds Tryd.pinned (OpenSpec.ofChange sampleHistogramsWrong)

/-- 'stowagelaw10.SampleFirst': WHATEVER THE INPUT: true; the input reads as it did. -/
def sampleFirstSpec : ChangeSpec := { name := "sampleFirst", fn := fun _ => fun
  | [d] => { results := [.lit (.bool true)], args := [d] }
  | _ => none }
def sampleFirstRow : OpenClaim := { program := "ytfiobfjolkmdpaadoor", sum := "3e6b5992219de94219c06538e6b93544bd6e01fc298b8dfc3e60b3519cfe8eeb", func := "stowage/stowagelaw10.SampleFirst", spec := "sampleFirst", unfollowed := true, recurses := true, named := ["math/bits.deBruijn32tab", "math/bits.deBruijn64tab"], apart := false, laid := [("math/bits.deBruijn32tab", laid_math_bits_deBruijn32tab), ("math/bits.deBruijn64tab", laid_math_bits_deBruijn64tab)] }
def SampleFirstSaid : Prop := sampleFirstRow.holds Tryd.pinned (OpenSpec.ofChange sampleFirstSpec)

/-- ITS FALSE NEIGHBOUR: 'it returns false'. Refute it at one input. -/
def sampleFirstWrong : ChangeSpec := { name := "sampleFirst", fn := fun _ => fun
  | [d] => { results := [.lit (.bool false)], args := [d] }
  | _ => none }
def SampleFirstWrongFalsely : Prop := sampleFirstRow.holds Tryd.pinned (OpenSpec.ofChange sampleFirstWrong)

/- THE SECOND FORM. 'bulk': how many values and letters a reading holds, each counted each time it is reached (what is shared counts as often as it is met; a slice's spare places count too). A statement '..UptoSaid' is the law's where the arguments, and the package variables that the reading takes, are together of bulk at most 1048576: NARROWER than '..Said'. Prove '..Said' where nothing that the law and all that it calls make is longer than what came in: it says more and counts as full. Else prove '..UptoSaid'. A law counts once. -/
mutual
def uptoBulk {H : Type} : DataW H → Nat
  | .lit (.string bytes) => bytes.length + 1
  | .lit _ => 1
  | .nil => 1
  | .ptr d => uptoBulk d + 1
  | .slice elems spare => uptoBulkAll elems + uptoBulkAll spare + 1
  | .agg parts => uptoBulkAll parts + 1
  | .iface _ d => uptoBulk d + 1
  | .map entries => uptoBulkEntries entries + 1
  | .held _ => 1
def uptoBulkAll {H : Type} : List (DataW H) → Nat
  | [] => 0
  | d :: r => uptoBulk d + uptoBulkAll r
def uptoBulkEntries {H : Type} : List (Lit × DataW H) → Nat
  | [] => 0
  | x :: r => uptoBulkEntry x + uptoBulkEntries r
def uptoBulkEntry {H : Type} : Lit × DataW H → Nat
  | (.string bytes, d) => bytes.length + uptoBulk d + 1
  | (_, d) => uptoBulk d + 1
 end
def uptoSmall : (H : Type) → List (DataW H) → Bool := fun _ ds => decide (uptoBulkAll ds ≤ 1048576)
def OpenSpec.upto (s : _root_.Go.ChangeSpec) : _root_.Go.OpenSpec := { _root_.Go.OpenSpec.ofChange s with cond := some uptoSmall }

/-- 'stowagelaw10.SampleDistances', WHERE WHAT IT READS IS OF BULK AT MOST 1048576: true; the input reads as it did. -/
def sampleDistancesUptoRow : OpenClaim := { program := "ytfiobfjolkmdpaadoor", sum := "3e6b5992219de94219c06538e6b93544bd6e01fc298b8dfc3e60b3519cfe8eeb", func := "stowage/stowagelaw10.SampleDistances", spec := "sampleDistances", named := ["math/bits.deBruijn32tab", "math/bits.deBruijn64tab"], apart := false, laid := [("math/bits.deBruijn32tab", laid_math_bits_deBruijn32tab), ("math/bits.deBruijn64tab", laid_math_bits_deBruijn64tab)], narrowed := true }
def SampleDistancesUptoSaid : Prop := sampleDistancesUptoRow.holds Tryd.pinned (OpenSpec.upto sampleDistancesSpec)

/-- 'stowagelaw10.SampleNames', WHERE WHAT IT READS IS OF BULK AT MOST 1048576: true; the input reads as it did. -/
def sampleNamesUptoRow : OpenClaim := { program := "ytfiobfjolkmdpaadoor", sum := "3e6b5992219de94219c06538e6b93544bd6e01fc298b8dfc3e60b3519cfe8eeb", func := "stowage/stowagelaw10.SampleNames", spec := "sampleNames", named := ["math/bits.deBruijn32tab", "math/bits.deBruijn64tab"], apart := false, laid := [("math/bits.deBruijn32tab", laid_math_bits_deBruijn32tab), ("math/bits.deBruijn64tab", laid_math_bits_deBruijn64tab)], narrowed := true }
def SampleNamesUptoSaid : Prop := sampleNamesUptoRow.holds Tryd.pinned (OpenSpec.upto sampleNamesSpec)

/-- 'stowagelaw10.SampleTwice', WHERE WHAT IT READS IS OF BULK AT MOST 1048576: true; the input reads as it did. -/
def sampleTwiceUptoRow : OpenClaim := { program := "ytfiobfjolkmdpaadoor", sum := "3e6b5992219de94219c06538e6b93544bd6e01fc298b8dfc3e60b3519cfe8eeb", func := "stowage/stowagelaw10.SampleTwice", spec := "sampleTwice", named := ["math/bits.deBruijn32tab", "math/bits.deBruijn64tab"], apart := false, laid := [("math/bits.deBruijn32tab", laid_math_bits_deBruijn32tab), ("math/bits.deBruijn64tab", laid_math_bits_deBruijn64tab)], narrowed := true }
def SampleTwiceUptoSaid : Prop := sampleTwiceUptoRow.holds Tryd.pinned (OpenSpec.upto sampleTwiceSpec)

/-- 'stowagelaw10.SampleHashes', WHERE WHAT IT READS IS OF BULK AT MOST 1048576: true; the input reads as it did. -/
def sampleHashesUptoRow : OpenClaim := { program := "ytfiobfjolkmdpaadoor", sum := "3e6b5992219de94219c06538e6b93544bd6e01fc298b8dfc3e60b3519cfe8eeb", func := "stowage/stowagelaw10.SampleHashes", spec := "sampleHashes", named := ["math/bits.deBruijn32tab", "math/bits.deBruijn64tab"], apart := false, laid := [("math/bits.deBruijn32tab", laid_math_bits_deBruijn32tab), ("math/bits.deBruijn64tab", laid_math_bits_deBruijn64tab)], narrowed := true }
def SampleHashesUptoSaid : Prop := sampleHashesUptoRow.holds Tryd.pinned (OpenSpec.upto sampleHashesSpec)

/-- 'stowagelaw10.SampleHistograms', WHERE WHAT IT READS IS OF BULK AT MOST 1048576: true; the input reads as it did. -/
def sampleHistogramsUptoRow : OpenClaim := { program := "ytfiobfjolkmdpaadoor", sum := "3e6b5992219de94219c06538e6b93544bd6e01fc298b8dfc3e60b3519cfe8eeb", func := "stowage/stowagelaw10.SampleHistograms", spec := "sampleHistograms", unfollowed := true, recurses := true, named := ["math/bits.deBruijn32tab", "math/bits.deBruijn64tab"], apart := false, laid := [("math/bits.deBruijn32tab", laid_math_bits_deBruijn32tab), ("math/bits.deBruijn64tab", laid_math_bits_deBruijn64tab)], narrowed := true }
def SampleHistogramsUptoSaid : Prop := sampleHistogramsUptoRow.holds Tryd.pinned (OpenSpec.upto sampleHistogramsSpec)

/-- 'stowagelaw10.SampleFirst', WHERE WHAT IT READS IS OF BULK AT MOST 1048576: true; the input reads as it did. -/
def sampleFirstUptoRow : OpenClaim := { program := "ytfiobfjolkmdpaadoor", sum := "3e6b5992219de94219c06538e6b93544bd6e01fc298b8dfc3e60b3519cfe8eeb", func := "stowage/stowagelaw10.SampleFirst", spec := "sampleFirst", unfollowed := true, recurses := true, named := ["math/bits.deBruijn32tab", "math/bits.deBruijn64tab"], apart := false, laid := [("math/bits.deBruijn32tab", laid_math_bits_deBruijn32tab), ("math/bits.deBruijn64tab", laid_math_bits_deBruijn64tab)], narrowed := true }
def SampleFirstUptoSaid : Prop := sampleFirstUptoRow.holds Tryd.pinned (OpenSpec.upto sampleFirstSpec)

end Rows
end Go.Proofs.YtfiobfjolkmdpaaDoor
