/-
  DERIVED. GIVEN WITH THE SEED: THE CARDS: each row of YtejlkhhomnoagaaDoorRows.lean that lists a variable, with what it lists TIED to the program's text (the seventh form; the later family's looks); each row that meets fmt, with fmt's text TOLD by the authors' own Lean function (tested against real Go, not proved from fmt's source: count such statements apart). THE CARD IS WHAT COUNTS. Prove the row's statement (the work); the ties are given (YtejlkhhomnoagaaDoorTie.lean); close each card by the builder's one call (the guide's Derived/Test/ToyasCard.lean, 'card_holds'). Laid BY PROGRAM, IN A SANDBOX (cutbox-door.mjs). By AI agents, Wed Nov 11 2026. No macro, syntax, notation, axiom, sorry.
-/
import Derived.Test.YtejlkhhomnoagaaDoorRows
import GoSem.ClaimSeven
namespace Go.Proofs.YtejlkhhomnoagaaDoor
namespace Rows

/-- THE TIED CARD OF 'millpondlaw11.ControlReads'. -/
def controlReadsCard : Claim7 := { stood := { row := controlReadsRow, standIns := [], harness := (true, "60d162a71b7587fef49b1a5e8c43e9004ef89a10a2e784d0e122b5a218a3aed1"), looks := true }, kinds := [], alts := [], laidByText := true, laidKinds := [.data, .data, .data, .sentinel, .sentinel], laidTests := true, laidLooks := .later }
def ControlReadsCardSaid : Prop := Claim7.holds Tryd.pinned (.plain (OpenSpec.ofChange controlReadsSpec)) controlReadsCard

/-- THE TIED CARD OF 'millpondlaw11.ControlStats'. -/
def controlStatsCard : Claim7 := { stood := { row := controlStatsRow, standIns := [], harness := (true, "60d162a71b7587fef49b1a5e8c43e9004ef89a10a2e784d0e122b5a218a3aed1"), looks := true }, kinds := [], alts := [], laidByText := true, laidKinds := [.data, .data, .data, .sentinel, .sentinel], laidTests := true, laidLooks := .later }
def ControlStatsCardSaid : Prop := Claim7.holds Tryd.pinned (.plain (OpenSpec.ofChange controlStatsSpec)) controlStatsCard

/-- THE TIED CARD OF 'millpondlaw11.ControlBack'. -/
def controlBackCard : Claim7 := { stood := { row := controlBackRow, standIns := [], harness := (true, "60d162a71b7587fef49b1a5e8c43e9004ef89a10a2e784d0e122b5a218a3aed1"), looks := true }, kinds := [], alts := [], laidByText := true, laidKinds := [.data, .data, .data, .sentinel, .sentinel], laidTests := true, laidLooks := .later }
def ControlBackCardSaid : Prop := Claim7.holds Tryd.pinned (.plain (OpenSpec.ofChange controlBackSpec)) controlBackCard

/-- THE TIED CARD OF 'millpondlaw11.ControlKilo'. -/
def controlKiloCard : Claim7 := { stood := { row := controlKiloRow, standIns := [], harness := (true, "60d162a71b7587fef49b1a5e8c43e9004ef89a10a2e784d0e122b5a218a3aed1"), looks := true }, kinds := [], alts := [], laidByText := true, laidKinds := [.data, .data, .data, .sentinel, .sentinel], laidTests := true, laidLooks := .later }
def ControlKiloCardSaid : Prop := Claim7.holds Tryd.pinned (.plain (OpenSpec.ofChange controlKiloSpec)) controlKiloCard

/-- THE TIED CARD OF 'millpondlaw11.ControlNames'. -/
def controlNamesCard : Claim7 := { stood := { row := controlNamesRow, standIns := [], harness := (true, "60d162a71b7587fef49b1a5e8c43e9004ef89a10a2e784d0e122b5a218a3aed1"), looks := true }, kinds := [], alts := [], laidByText := true, laidKinds := [.data, .data, .data, .sentinel, .sentinel], laidTests := true, laidLooks := .later }
def ControlNamesCardSaid : Prop := Claim7.holds Tryd.pinned (.plain (OpenSpec.ofChange controlNamesSpec)) controlNamesCard

/-- THE TIED CARD OF 'millpondlaw11.ControlWords'. -/
def controlWordsCard : Claim7 := { stood := { row := controlWordsRow, standIns := [], harness := (true, "60d162a71b7587fef49b1a5e8c43e9004ef89a10a2e784d0e122b5a218a3aed1"), looks := true }, kinds := [], alts := [], laidByText := true, laidKinds := [.data, .data, .data, .sentinel, .sentinel], laidTests := true, laidLooks := .later }
def ControlWordsCardSaid : Prop := Claim7.holds Tryd.pinned (.plain (OpenSpec.ofChange controlWordsSpec)) controlWordsCard

/-- THE SECOND FORM's CARD OF 'millpondlaw11.ControlReads'. -/
def controlReadsUptoCard : Claim7 := { stood := { row := controlReadsUptoRow, standIns := [], harness := (true, "60d162a71b7587fef49b1a5e8c43e9004ef89a10a2e784d0e122b5a218a3aed1"), looks := true }, kinds := [], alts := [], laidByText := true, laidKinds := [.data, .data, .data, .sentinel, .sentinel], laidTests := true, laidLooks := .later }
def ControlReadsUptoCardSaid : Prop := Claim7.holds Tryd.pinned (.plain (OpenSpec.upto controlReadsSpec)) controlReadsUptoCard

/-- THE SECOND FORM's CARD OF 'millpondlaw11.ControlStats'. -/
def controlStatsUptoCard : Claim7 := { stood := { row := controlStatsUptoRow, standIns := [], harness := (true, "60d162a71b7587fef49b1a5e8c43e9004ef89a10a2e784d0e122b5a218a3aed1"), looks := true }, kinds := [], alts := [], laidByText := true, laidKinds := [.data, .data, .data, .sentinel, .sentinel], laidTests := true, laidLooks := .later }
def ControlStatsUptoCardSaid : Prop := Claim7.holds Tryd.pinned (.plain (OpenSpec.upto controlStatsSpec)) controlStatsUptoCard

/-- THE SECOND FORM's CARD OF 'millpondlaw11.ControlBack'. -/
def controlBackUptoCard : Claim7 := { stood := { row := controlBackUptoRow, standIns := [], harness := (true, "60d162a71b7587fef49b1a5e8c43e9004ef89a10a2e784d0e122b5a218a3aed1"), looks := true }, kinds := [], alts := [], laidByText := true, laidKinds := [.data, .data, .data, .sentinel, .sentinel], laidTests := true, laidLooks := .later }
def ControlBackUptoCardSaid : Prop := Claim7.holds Tryd.pinned (.plain (OpenSpec.upto controlBackSpec)) controlBackUptoCard

/-- THE SECOND FORM's CARD OF 'millpondlaw11.ControlKilo'. -/
def controlKiloUptoCard : Claim7 := { stood := { row := controlKiloUptoRow, standIns := [], harness := (true, "60d162a71b7587fef49b1a5e8c43e9004ef89a10a2e784d0e122b5a218a3aed1"), looks := true }, kinds := [], alts := [], laidByText := true, laidKinds := [.data, .data, .data, .sentinel, .sentinel], laidTests := true, laidLooks := .later }
def ControlKiloUptoCardSaid : Prop := Claim7.holds Tryd.pinned (.plain (OpenSpec.upto controlKiloSpec)) controlKiloUptoCard

/-- THE SECOND FORM's CARD OF 'millpondlaw11.ControlNames'. -/
def controlNamesUptoCard : Claim7 := { stood := { row := controlNamesUptoRow, standIns := [], harness := (true, "60d162a71b7587fef49b1a5e8c43e9004ef89a10a2e784d0e122b5a218a3aed1"), looks := true }, kinds := [], alts := [], laidByText := true, laidKinds := [.data, .data, .data, .sentinel, .sentinel], laidTests := true, laidLooks := .later }
def ControlNamesUptoCardSaid : Prop := Claim7.holds Tryd.pinned (.plain (OpenSpec.upto controlNamesSpec)) controlNamesUptoCard

/-- THE SECOND FORM's CARD OF 'millpondlaw11.ControlWords'. -/
def controlWordsUptoCard : Claim7 := { stood := { row := controlWordsUptoRow, standIns := [], harness := (true, "60d162a71b7587fef49b1a5e8c43e9004ef89a10a2e784d0e122b5a218a3aed1"), looks := true }, kinds := [], alts := [], laidByText := true, laidKinds := [.data, .data, .data, .sentinel, .sentinel], laidTests := true, laidLooks := .later }
def ControlWordsUptoCardSaid : Prop := Claim7.holds Tryd.pinned (.plain (OpenSpec.upto controlWordsSpec)) controlWordsUptoCard
end Rows
end Go.Proofs.YtejlkhhomnoagaaDoor
