/-
  DERIVED. GIVEN WITH THE SEED: THE CARDS: each row of YticnchdegmfhlaaDoorRows.lean that lists a variable, with what it lists TIED to the program's text (the seventh form; the later family's looks); each row that meets fmt, with fmt's text TOLD by the authors' own Lean function (tested against real Go, not proved from fmt's source: count such statements apart). THE CARD IS WHAT COUNTS. Prove the row's statement (the work); the ties are given (YticnchdegmfhlaaDoorTie.lean); close each card by the builder's one call (the guide's Derived/Test/ToyasCard.lean, 'card_holds'). Laid BY PROGRAM, IN A SANDBOX (cutbox-door.mjs). By AI agents, Wed Nov 11 2026. No macro, syntax, notation, axiom, sorry.
-/
import Derived.Test.YticnchdegmfhlaaDoorRows
import GoSem.ClaimSeven
namespace Go.Proofs.YticnchdegmfhlaaDoor
namespace Rows

/-- THE TIED CARD OF 'millpondlaw21.LangPrints'. -/
def langPrintsCard : Claim7 := { stood := { row := langPrintsRow, standIns := [], harness := (true, "0c53d64052676ac3945c8dbd91f76d8c6db1033be65675914f72c23632275998"), looks := true }, kinds := [], alts := [], laidByText := true, laidKinds := [.data, .data, .data, .data, .sentinel, .sentinel, .pinned], laidTests := true, laidLooks := .later }
def LangPrintsCardSaid : Prop := Claim7.holds Tryd.pinned (.plain (OpenSpec.ofChange langPrintsSpec)) langPrintsCard

/-- THE TIED CARD OF 'millpondlaw21.LangParses'. -/
def langParsesCard : Claim7 := { stood := { row := langParsesRow, standIns := [], harness := (true, "0c53d64052676ac3945c8dbd91f76d8c6db1033be65675914f72c23632275998"), looks := true }, kinds := [], alts := [], laidByText := true, laidKinds := [.data, .data, .data, .data, .sentinel, .sentinel, .pinned], laidTests := true, laidLooks := .later }
def LangParsesCardSaid : Prop := Claim7.holds Tryd.pinned (.plain (OpenSpec.ofChange langParsesSpec)) langParsesCard

/-- THE TIED CARD OF 'millpondlaw21.LangBack'. -/
def langBackCard : Claim7 := { stood := { row := langBackRow, standIns := [], harness := (true, "0c53d64052676ac3945c8dbd91f76d8c6db1033be65675914f72c23632275998"), looks := true }, kinds := [], alts := [], laidByText := true, laidKinds := [.data, .data, .data, .data, .sentinel, .sentinel, .pinned], laidTests := true, laidLooks := .later }
def LangBackCardSaid : Prop := Claim7.holds Tryd.pinned (.plain (OpenSpec.ofChange langBackSpec)) langBackCard

/-- THE TIED CARD OF 'millpondlaw21.LangOnce'. -/
def langOnceCard : Claim7 := { stood := { row := langOnceRow, standIns := [], harness := (true, "0c53d64052676ac3945c8dbd91f76d8c6db1033be65675914f72c23632275998"), looks := true }, kinds := [], alts := [], laidByText := true, laidKinds := [.data, .data, .data, .data, .sentinel, .sentinel, .pinned], laidTests := true, laidLooks := .later }
def LangOnceCardSaid : Prop := Claim7.holds Tryd.pinned (.plain (OpenSpec.ofChange langOnceSpec)) langOnceCard

/-- THE SECOND FORM's CARD OF 'millpondlaw21.LangPrints'. -/
def langPrintsUptoCard : Claim7 := { stood := { row := langPrintsUptoRow, standIns := [], harness := (true, "0c53d64052676ac3945c8dbd91f76d8c6db1033be65675914f72c23632275998"), looks := true }, kinds := [], alts := [], laidByText := true, laidKinds := [.data, .data, .data, .data, .sentinel, .sentinel, .pinned], laidTests := true, laidLooks := .later }
def LangPrintsUptoCardSaid : Prop := Claim7.holds Tryd.pinned (.plain (OpenSpec.upto langPrintsSpec)) langPrintsUptoCard

/-- THE SECOND FORM's CARD OF 'millpondlaw21.LangParses'. -/
def langParsesUptoCard : Claim7 := { stood := { row := langParsesUptoRow, standIns := [], harness := (true, "0c53d64052676ac3945c8dbd91f76d8c6db1033be65675914f72c23632275998"), looks := true }, kinds := [], alts := [], laidByText := true, laidKinds := [.data, .data, .data, .data, .sentinel, .sentinel, .pinned], laidTests := true, laidLooks := .later }
def LangParsesUptoCardSaid : Prop := Claim7.holds Tryd.pinned (.plain (OpenSpec.upto langParsesSpec)) langParsesUptoCard

/-- THE SECOND FORM's CARD OF 'millpondlaw21.LangBack'. -/
def langBackUptoCard : Claim7 := { stood := { row := langBackUptoRow, standIns := [], harness := (true, "0c53d64052676ac3945c8dbd91f76d8c6db1033be65675914f72c23632275998"), looks := true }, kinds := [], alts := [], laidByText := true, laidKinds := [.data, .data, .data, .data, .sentinel, .sentinel, .pinned], laidTests := true, laidLooks := .later }
def LangBackUptoCardSaid : Prop := Claim7.holds Tryd.pinned (.plain (OpenSpec.upto langBackSpec)) langBackUptoCard

/-- THE SECOND FORM's CARD OF 'millpondlaw21.LangOnce'. -/
def langOnceUptoCard : Claim7 := { stood := { row := langOnceUptoRow, standIns := [], harness := (true, "0c53d64052676ac3945c8dbd91f76d8c6db1033be65675914f72c23632275998"), looks := true }, kinds := [], alts := [], laidByText := true, laidKinds := [.data, .data, .data, .data, .sentinel, .sentinel, .pinned], laidTests := true, laidLooks := .later }
def LangOnceUptoCardSaid : Prop := Claim7.holds Tryd.pinned (.plain (OpenSpec.upto langOnceSpec)) langOnceUptoCard
end Rows
end Go.Proofs.YticnchdegmfhlaaDoor
