/-
  DERIVED. GIVEN WITH THE SEED: THE CARDS: each row of YtfiobfjolkmdpaaDoorRows.lean that lists a variable, with what it lists TIED to the program's text (the seventh form; the later family's looks); each row that meets fmt, with fmt's text TOLD by the authors' own Lean function (tested against real Go, not proved from fmt's source: count such statements apart). THE CARD IS WHAT COUNTS. Prove the row's statement (the work); the ties are given (YtfiobfjolkmdpaaDoorTie.lean); close each card by the builder's one call (the guide's Derived/Test/ToyasCard.lean, 'card_holds'). Laid BY PROGRAM, IN A SANDBOX (cutbox-door.mjs). By AI agents, Wed Nov 11 2026. No macro, syntax, notation, axiom, sorry.
-/
import Derived.Test.YtfiobfjolkmdpaaDoorRows
import GoSem.ClaimSeven
namespace Go.Proofs.YtfiobfjolkmdpaaDoor
namespace Rows

/-- THE TIED CARD OF 'stowagelaw10.SampleDistances'. -/
def sampleDistancesCard : Claim7 := { stood := { row := sampleDistancesRow, standIns := [], harness := (true, "9d0ace820d40b7061c40c5297df1782c1c0014703985275226618ecac156ce6d"), looks := false }, kinds := [], alts := [], laidByText := true, laidKinds := [.data, .data], laidTests := true, laidLooks := .later }
def SampleDistancesCardSaid : Prop := Claim7.holds Tryd.pinned (.plain (OpenSpec.ofChange sampleDistancesSpec)) sampleDistancesCard

/-- THE TIED CARD OF 'stowagelaw10.SampleNames'. -/
def sampleNamesCard : Claim7 := { stood := { row := sampleNamesRow, standIns := [], harness := (true, "9d0ace820d40b7061c40c5297df1782c1c0014703985275226618ecac156ce6d"), looks := false }, kinds := [], alts := [], laidByText := true, laidKinds := [.data, .data], laidTests := true, laidLooks := .later }
def SampleNamesCardSaid : Prop := Claim7.holds Tryd.pinned (.plain (OpenSpec.ofChange sampleNamesSpec)) sampleNamesCard

/-- THE TIED CARD OF 'stowagelaw10.SampleTwice'. -/
def sampleTwiceCard : Claim7 := { stood := { row := sampleTwiceRow, standIns := [], harness := (true, "9d0ace820d40b7061c40c5297df1782c1c0014703985275226618ecac156ce6d"), looks := false }, kinds := [], alts := [], laidByText := true, laidKinds := [.data, .data], laidTests := true, laidLooks := .later }
def SampleTwiceCardSaid : Prop := Claim7.holds Tryd.pinned (.plain (OpenSpec.ofChange sampleTwiceSpec)) sampleTwiceCard

/-- THE TIED CARD OF 'stowagelaw10.SampleHashes'. -/
def sampleHashesCard : Claim7 := { stood := { row := sampleHashesRow, standIns := [], harness := (true, "9d0ace820d40b7061c40c5297df1782c1c0014703985275226618ecac156ce6d"), looks := false }, kinds := [], alts := [], laidByText := true, laidKinds := [.data, .data], laidTests := true, laidLooks := .later }
def SampleHashesCardSaid : Prop := Claim7.holds Tryd.pinned (.plain (OpenSpec.ofChange sampleHashesSpec)) sampleHashesCard

/-- THE TIED CARD OF 'stowagelaw10.SampleHistograms'. -/
def sampleHistogramsCard : Claim7 := { stood := { row := sampleHistogramsRow, standIns := [], harness := (true, "9d0ace820d40b7061c40c5297df1782c1c0014703985275226618ecac156ce6d"), looks := false }, kinds := [], alts := [], laidByText := true, laidKinds := [.data, .data], laidTests := true, laidLooks := .later }
def SampleHistogramsCardSaid : Prop := Claim7.holds Tryd.pinned (.plain (OpenSpec.ofChange sampleHistogramsSpec)) sampleHistogramsCard

/-- THE TIED CARD OF 'stowagelaw10.SampleFirst'. -/
def sampleFirstCard : Claim7 := { stood := { row := sampleFirstRow, standIns := [], harness := (true, "9d0ace820d40b7061c40c5297df1782c1c0014703985275226618ecac156ce6d"), looks := false }, kinds := [], alts := [], laidByText := true, laidKinds := [.data, .data], laidTests := true, laidLooks := .later }
def SampleFirstCardSaid : Prop := Claim7.holds Tryd.pinned (.plain (OpenSpec.ofChange sampleFirstSpec)) sampleFirstCard

/-- THE SECOND FORM's CARD OF 'stowagelaw10.SampleDistances'. -/
def sampleDistancesUptoCard : Claim7 := { stood := { row := sampleDistancesUptoRow, standIns := [], harness := (true, "9d0ace820d40b7061c40c5297df1782c1c0014703985275226618ecac156ce6d"), looks := false }, kinds := [], alts := [], laidByText := true, laidKinds := [.data, .data], laidTests := true, laidLooks := .later }
def SampleDistancesUptoCardSaid : Prop := Claim7.holds Tryd.pinned (.plain (OpenSpec.upto sampleDistancesSpec)) sampleDistancesUptoCard

/-- THE SECOND FORM's CARD OF 'stowagelaw10.SampleNames'. -/
def sampleNamesUptoCard : Claim7 := { stood := { row := sampleNamesUptoRow, standIns := [], harness := (true, "9d0ace820d40b7061c40c5297df1782c1c0014703985275226618ecac156ce6d"), looks := false }, kinds := [], alts := [], laidByText := true, laidKinds := [.data, .data], laidTests := true, laidLooks := .later }
def SampleNamesUptoCardSaid : Prop := Claim7.holds Tryd.pinned (.plain (OpenSpec.upto sampleNamesSpec)) sampleNamesUptoCard

/-- THE SECOND FORM's CARD OF 'stowagelaw10.SampleTwice'. -/
def sampleTwiceUptoCard : Claim7 := { stood := { row := sampleTwiceUptoRow, standIns := [], harness := (true, "9d0ace820d40b7061c40c5297df1782c1c0014703985275226618ecac156ce6d"), looks := false }, kinds := [], alts := [], laidByText := true, laidKinds := [.data, .data], laidTests := true, laidLooks := .later }
def SampleTwiceUptoCardSaid : Prop := Claim7.holds Tryd.pinned (.plain (OpenSpec.upto sampleTwiceSpec)) sampleTwiceUptoCard

/-- THE SECOND FORM's CARD OF 'stowagelaw10.SampleHashes'. -/
def sampleHashesUptoCard : Claim7 := { stood := { row := sampleHashesUptoRow, standIns := [], harness := (true, "9d0ace820d40b7061c40c5297df1782c1c0014703985275226618ecac156ce6d"), looks := false }, kinds := [], alts := [], laidByText := true, laidKinds := [.data, .data], laidTests := true, laidLooks := .later }
def SampleHashesUptoCardSaid : Prop := Claim7.holds Tryd.pinned (.plain (OpenSpec.upto sampleHashesSpec)) sampleHashesUptoCard

/-- THE SECOND FORM's CARD OF 'stowagelaw10.SampleHistograms'. -/
def sampleHistogramsUptoCard : Claim7 := { stood := { row := sampleHistogramsUptoRow, standIns := [], harness := (true, "9d0ace820d40b7061c40c5297df1782c1c0014703985275226618ecac156ce6d"), looks := false }, kinds := [], alts := [], laidByText := true, laidKinds := [.data, .data], laidTests := true, laidLooks := .later }
def SampleHistogramsUptoCardSaid : Prop := Claim7.holds Tryd.pinned (.plain (OpenSpec.upto sampleHistogramsSpec)) sampleHistogramsUptoCard

/-- THE SECOND FORM's CARD OF 'stowagelaw10.SampleFirst'. -/
def sampleFirstUptoCard : Claim7 := { stood := { row := sampleFirstUptoRow, standIns := [], harness := (true, "9d0ace820d40b7061c40c5297df1782c1c0014703985275226618ecac156ce6d"), looks := false }, kinds := [], alts := [], laidByText := true, laidKinds := [.data, .data], laidTests := true, laidLooks := .later }
def SampleFirstUptoCardSaid : Prop := Claim7.holds Tryd.pinned (.plain (OpenSpec.upto sampleFirstSpec)) sampleFirstUptoCard
end Rows
end Go.Proofs.YtfiobfjolkmdpaaDoor
