/-
  DERIVED. GIVEN WITH THE SEED: THE CARDS: each row of YtkjihkmkchcmcaaGreatDoorRows.lean that lists a variable, with what it lists TIED to the program's text (the seventh form; the later family's looks); each row that meets fmt, with fmt's text TOLD by the authors' own Lean function (tested against real Go, not proved from fmt's source: count such statements apart). THE CARD IS WHAT COUNTS. Prove the row's statement (the work); the ties are given (YtkjihkmkchcmcaaGreatDoorTie.lean); close each card by the builder's one call (the guide's Derived/Test/ToyasCard.lean, 'card_holds'). Laid BY PROGRAM, IN A SANDBOX (cutbox-door.mjs). By AI agents, Wed Nov 11 2026. No macro, syntax, notation, axiom, sorry.
-/
import Derived.Test.YtkjihkmkchcmcaaGreatDoorRows
import GoSem.ClaimSeven
namespace Go.Proofs.YtkjihkmkchcmcaaGreatDoor
namespace Rows

/-- THE TIED CARD OF 'millpondlaw20.ScriptPuts'. -/
def scriptPutsCard : Claim7 := { stood := { row := scriptPutsRow, standIns := [], harness := (true, "9d1bfa84baeb23974ba420b5cf0e19ce5018ef84fdb3c880c0f41174af44bc20"), looks := false }, kinds := [], alts := [], laidByText := true, laidKinds := [.data], laidTests := true, laidLooks := .later }
def ScriptPutsCardSaid : Prop := Claim7.holds Tryz.pinned (.plain (OpenSpec.ofChange scriptPutsSpec)) scriptPutsCard

/-- THE TIED CARD OF 'millpondlaw20.ScriptGets'. -/
def scriptGetsCard : Claim7 := { stood := { row := scriptGetsRow, standIns := [], harness := (true, "9d1bfa84baeb23974ba420b5cf0e19ce5018ef84fdb3c880c0f41174af44bc20"), looks := false }, kinds := [], alts := [], laidByText := true, laidKinds := [.data], laidTests := true, laidLooks := .later }
def ScriptGetsCardSaid : Prop := Claim7.holds Tryz.pinned (.plain (OpenSpec.ofChange scriptGetsSpec)) scriptGetsCard

/-- THE TIED CARD OF 'millpondlaw20.ScriptBack'. -/
def scriptBackCard : Claim7 := { stood := { row := scriptBackRow, standIns := [], harness := (true, "9d1bfa84baeb23974ba420b5cf0e19ce5018ef84fdb3c880c0f41174af44bc20"), looks := false }, kinds := [], alts := [], laidByText := true, laidKinds := [.data], laidTests := true, laidLooks := .later }
def ScriptBackCardSaid : Prop := Claim7.holds Tryz.pinned (.plain (OpenSpec.ofChange scriptBackSpec)) scriptBackCard

/-- THE TIED CARD OF 'millpondlaw20.ScriptSizes'. -/
def scriptSizesCard : Claim7 := { stood := { row := scriptSizesRow, standIns := [], harness := (true, "9d1bfa84baeb23974ba420b5cf0e19ce5018ef84fdb3c880c0f41174af44bc20"), looks := false }, kinds := [], alts := [], laidByText := true, laidKinds := [.data], laidTests := true, laidLooks := .later }
def ScriptSizesCardSaid : Prop := Claim7.holds Tryz.pinned (.plain (OpenSpec.ofChange scriptSizesSpec)) scriptSizesCard

/-- THE TIED CARD OF 'millpondlaw20.ScriptBad'. -/
def scriptBadCard : Claim7 := { stood := { row := scriptBadRow, standIns := [], harness := (true, "9d1bfa84baeb23974ba420b5cf0e19ce5018ef84fdb3c880c0f41174af44bc20"), looks := false }, kinds := [], alts := [], laidByText := true, laidKinds := [.data], laidTests := true, laidLooks := .later }
def ScriptBadCardSaid : Prop := Claim7.holds Tryz.pinned (.plain (OpenSpec.ofChange scriptBadSpec)) scriptBadCard

/-- THE SECOND FORM's CARD OF 'millpondlaw20.ScriptPuts'. -/
def scriptPutsUptoCard : Claim7 := { stood := { row := scriptPutsUptoRow, standIns := [], harness := (true, "9d1bfa84baeb23974ba420b5cf0e19ce5018ef84fdb3c880c0f41174af44bc20"), looks := false }, kinds := [], alts := [], laidByText := true, laidKinds := [.data], laidTests := true, laidLooks := .later }
def ScriptPutsUptoCardSaid : Prop := Claim7.holds Tryz.pinned (.plain (OpenSpec.upto scriptPutsSpec)) scriptPutsUptoCard

/-- THE SECOND FORM's CARD OF 'millpondlaw20.ScriptGets'. -/
def scriptGetsUptoCard : Claim7 := { stood := { row := scriptGetsUptoRow, standIns := [], harness := (true, "9d1bfa84baeb23974ba420b5cf0e19ce5018ef84fdb3c880c0f41174af44bc20"), looks := false }, kinds := [], alts := [], laidByText := true, laidKinds := [.data], laidTests := true, laidLooks := .later }
def ScriptGetsUptoCardSaid : Prop := Claim7.holds Tryz.pinned (.plain (OpenSpec.upto scriptGetsSpec)) scriptGetsUptoCard

/-- THE SECOND FORM's CARD OF 'millpondlaw20.ScriptBack'. -/
def scriptBackUptoCard : Claim7 := { stood := { row := scriptBackUptoRow, standIns := [], harness := (true, "9d1bfa84baeb23974ba420b5cf0e19ce5018ef84fdb3c880c0f41174af44bc20"), looks := false }, kinds := [], alts := [], laidByText := true, laidKinds := [.data], laidTests := true, laidLooks := .later }
def ScriptBackUptoCardSaid : Prop := Claim7.holds Tryz.pinned (.plain (OpenSpec.upto scriptBackSpec)) scriptBackUptoCard

/-- THE SECOND FORM's CARD OF 'millpondlaw20.ScriptSizes'. -/
def scriptSizesUptoCard : Claim7 := { stood := { row := scriptSizesUptoRow, standIns := [], harness := (true, "9d1bfa84baeb23974ba420b5cf0e19ce5018ef84fdb3c880c0f41174af44bc20"), looks := false }, kinds := [], alts := [], laidByText := true, laidKinds := [.data], laidTests := true, laidLooks := .later }
def ScriptSizesUptoCardSaid : Prop := Claim7.holds Tryz.pinned (.plain (OpenSpec.upto scriptSizesSpec)) scriptSizesUptoCard

/-- THE SECOND FORM's CARD OF 'millpondlaw20.ScriptBad'. -/
def scriptBadUptoCard : Claim7 := { stood := { row := scriptBadUptoRow, standIns := [], harness := (true, "9d1bfa84baeb23974ba420b5cf0e19ce5018ef84fdb3c880c0f41174af44bc20"), looks := false }, kinds := [], alts := [], laidByText := true, laidKinds := [.data], laidTests := true, laidLooks := .later }
def ScriptBadUptoCardSaid : Prop := Claim7.holds Tryz.pinned (.plain (OpenSpec.upto scriptBadSpec)) scriptBadUptoCard
end Rows
end Go.Proofs.YtkjihkmkchcmcaaGreatDoor
