/-
  DERIVED. GIVEN WITH THE SEED: THE CARDS: each row of YtkjijachkcmelaaGreatDoorRows.lean that lists a variable, with what it lists TIED to the program's text (the seventh form; the later family's looks); each row that meets fmt, with fmt's text TOLD by the authors' own Lean function (tested against real Go, not proved from fmt's source: count such statements apart). THE CARD IS WHAT COUNTS. Prove the row's statement (the work); the ties are given (YtkjijachkcmelaaGreatDoorTie.lean); close each card by the builder's one call (the guide's Derived/Test/ToyasCard.lean, 'card_holds'). Laid BY PROGRAM, IN A SANDBOX (cutbox-door.mjs). By AI agents, Wed Nov 11 2026. No macro, syntax, notation, axiom, sorry.
-/
import Derived.Test.YtkjijachkcmelaaGreatDoorRows
import GoSem.ClaimSeven
namespace Go.Proofs.YtkjijachkcmelaaGreatDoor
namespace Rows

/-- THE TIED CARD OF 'millpondlaw17.CoreAges'. -/
def coreAgesCard : Claim7 := { stood := { row := coreAgesRow, standIns := [], harness := (true, "3b9054f10c9c5fb82da89a913622f02e1aaecefdee6eb776dafd30a2283a3747"), looks := false }, kinds := [], alts := [], laidByText := true, laidKinds := [.data], laidTests := true, laidLooks := .later }
def CoreAgesCardSaid : Prop := Claim7.holds Tryz.pinned (.plain (OpenSpec.ofChange coreAgesSpec)) coreAgesCard

/-- THE TIED CARD OF 'millpondlaw17.CoreShares'. -/
def coreSharesCard : Claim7 := { stood := { row := coreSharesRow, standIns := [], harness := (true, "3b9054f10c9c5fb82da89a913622f02e1aaecefdee6eb776dafd30a2283a3747"), looks := false }, kinds := [], alts := [], laidByText := true, laidKinds := [.data], laidTests := true, laidLooks := .later }
def CoreSharesCardSaid : Prop := Claim7.holds Tryz.pinned (.plain (OpenSpec.ofChange coreSharesSpec)) coreSharesCard

/-- THE TIED CARD OF 'millpondlaw17.CoreLows'. -/
def coreLowsCard : Claim7 := { stood := { row := coreLowsRow, standIns := [], harness := (true, "3b9054f10c9c5fb82da89a913622f02e1aaecefdee6eb776dafd30a2283a3747"), looks := false }, kinds := [], alts := [], laidByText := true, laidKinds := [.data], laidTests := true, laidLooks := .later }
def CoreLowsCardSaid : Prop := Claim7.holds Tryz.pinned (.plain (OpenSpec.ofChange coreLowsSpec)) coreLowsCard

/-- THE TIED CARD OF 'millpondlaw17.CoreLimits'. -/
def coreLimitsCard : Claim7 := { stood := { row := coreLimitsRow, standIns := [], harness := (true, "3b9054f10c9c5fb82da89a913622f02e1aaecefdee6eb776dafd30a2283a3747"), looks := false }, kinds := [], alts := [], laidByText := true, laidKinds := [.data], laidTests := true, laidLooks := .later }
def CoreLimitsCardSaid : Prop := Claim7.holds Tryz.pinned (.plain (OpenSpec.ofChange coreLimitsSpec)) coreLimitsCard

/-- THE TIED CARD OF 'millpondlaw17.CoreKeeps'. -/
def coreKeepsCard : Claim7 := { stood := { row := coreKeepsRow, standIns := [], harness := (true, "3b9054f10c9c5fb82da89a913622f02e1aaecefdee6eb776dafd30a2283a3747"), looks := false }, kinds := [], alts := [], laidByText := true, laidKinds := [.data], laidTests := true, laidLooks := .later }
def CoreKeepsCardSaid : Prop := Claim7.holds Tryz.pinned (.plain (OpenSpec.ofChange coreKeepsSpec)) coreKeepsCard

/-- THE TIED CARD OF 'millpondlaw17.CoreFresh'. -/
def coreFreshCard : Claim7 := { stood := { row := coreFreshRow, standIns := [], harness := (true, "3b9054f10c9c5fb82da89a913622f02e1aaecefdee6eb776dafd30a2283a3747"), looks := false }, kinds := [], alts := [], laidByText := true, laidKinds := [.data], laidTests := true, laidLooks := .later }
def CoreFreshCardSaid : Prop := Claim7.holds Tryz.pinned (.plain (OpenSpec.ofChange coreFreshSpec)) coreFreshCard

/-- THE TIED CARD OF 'millpondlaw17.CoreShrinks'. -/
def coreShrinksCard : Claim7 := { stood := { row := coreShrinksRow, standIns := [], harness := (true, "3b9054f10c9c5fb82da89a913622f02e1aaecefdee6eb776dafd30a2283a3747"), looks := false }, kinds := [], alts := [], laidByText := true, laidKinds := [.data], laidTests := true, laidLooks := .later }
def CoreShrinksCardSaid : Prop := Claim7.holds Tryz.pinned (.plain (OpenSpec.ofChange coreShrinksSpec)) coreShrinksCard

/-- THE TIED CARD OF 'millpondlaw17.CoreGroups'. -/
def coreGroupsCard : Claim7 := { stood := { row := coreGroupsRow, standIns := [], harness := (true, "3b9054f10c9c5fb82da89a913622f02e1aaecefdee6eb776dafd30a2283a3747"), looks := false }, kinds := [], alts := [], laidByText := true, laidKinds := [.data], laidTests := true, laidLooks := .later }
def CoreGroupsCardSaid : Prop := Claim7.holds Tryz.pinned (.plain (OpenSpec.ofChange coreGroupsSpec)) coreGroupsCard

/-- THE TIED CARD OF 'millpondlaw17.CoreCounts'. -/
def coreCountsCard : Claim7 := { stood := { row := coreCountsRow, standIns := [], harness := (true, "3b9054f10c9c5fb82da89a913622f02e1aaecefdee6eb776dafd30a2283a3747"), looks := false }, kinds := [], alts := [], laidByText := true, laidKinds := [.data], laidTests := true, laidLooks := .later }
def CoreCountsCardSaid : Prop := Claim7.holds Tryz.pinned (.plain (OpenSpec.ofChange coreCountsSpec)) coreCountsCard

/-- THE TIED CARD OF 'millpondlaw17.CoreTarget'. -/
def coreTargetCard : Claim7 := { stood := { row := coreTargetRow, standIns := [], harness := (true, "3b9054f10c9c5fb82da89a913622f02e1aaecefdee6eb776dafd30a2283a3747"), looks := false }, kinds := [], alts := [], laidByText := true, laidKinds := [.data], laidTests := true, laidLooks := .later }
def CoreTargetCardSaid : Prop := Claim7.holds Tryz.pinned (.plain (OpenSpec.ofChange coreTargetSpec)) coreTargetCard

/-- THE TIED CARD OF 'millpondlaw17.CoreRefers'. -/
def coreRefersCard : Claim7 := { stood := { row := coreRefersRow, standIns := [], harness := (true, "3b9054f10c9c5fb82da89a913622f02e1aaecefdee6eb776dafd30a2283a3747"), looks := false }, kinds := [], alts := [], laidByText := true, laidKinds := [.data], laidTests := true, laidLooks := .later }
def CoreRefersCardSaid : Prop := Claim7.holds Tryz.pinned (.plain (OpenSpec.ofChange coreRefersSpec)) coreRefersCard

/-- THE TIED CARD OF 'millpondlaw17.CoreDoes'. -/
def coreDoesCard : Claim7 := { stood := { row := coreDoesRow, standIns := [], harness := (true, "3b9054f10c9c5fb82da89a913622f02e1aaecefdee6eb776dafd30a2283a3747"), looks := false }, kinds := [], alts := [], laidByText := true, laidKinds := [.data], laidTests := true, laidLooks := .later }
def CoreDoesCardSaid : Prop := Claim7.holds Tryz.pinned (.plain (OpenSpec.ofChange coreDoesSpec)) coreDoesCard

/-- THE SECOND FORM's CARD OF 'millpondlaw17.CoreAges'. -/
def coreAgesUptoCard : Claim7 := { stood := { row := coreAgesUptoRow, standIns := [], harness := (true, "3b9054f10c9c5fb82da89a913622f02e1aaecefdee6eb776dafd30a2283a3747"), looks := false }, kinds := [], alts := [], laidByText := true, laidKinds := [.data], laidTests := true, laidLooks := .later }
def CoreAgesUptoCardSaid : Prop := Claim7.holds Tryz.pinned (.plain (OpenSpec.upto coreAgesSpec)) coreAgesUptoCard

/-- THE SECOND FORM's CARD OF 'millpondlaw17.CoreShares'. -/
def coreSharesUptoCard : Claim7 := { stood := { row := coreSharesUptoRow, standIns := [], harness := (true, "3b9054f10c9c5fb82da89a913622f02e1aaecefdee6eb776dafd30a2283a3747"), looks := false }, kinds := [], alts := [], laidByText := true, laidKinds := [.data], laidTests := true, laidLooks := .later }
def CoreSharesUptoCardSaid : Prop := Claim7.holds Tryz.pinned (.plain (OpenSpec.upto coreSharesSpec)) coreSharesUptoCard

/-- THE SECOND FORM's CARD OF 'millpondlaw17.CoreLows'. -/
def coreLowsUptoCard : Claim7 := { stood := { row := coreLowsUptoRow, standIns := [], harness := (true, "3b9054f10c9c5fb82da89a913622f02e1aaecefdee6eb776dafd30a2283a3747"), looks := false }, kinds := [], alts := [], laidByText := true, laidKinds := [.data], laidTests := true, laidLooks := .later }
def CoreLowsUptoCardSaid : Prop := Claim7.holds Tryz.pinned (.plain (OpenSpec.upto coreLowsSpec)) coreLowsUptoCard

/-- THE SECOND FORM's CARD OF 'millpondlaw17.CoreLimits'. -/
def coreLimitsUptoCard : Claim7 := { stood := { row := coreLimitsUptoRow, standIns := [], harness := (true, "3b9054f10c9c5fb82da89a913622f02e1aaecefdee6eb776dafd30a2283a3747"), looks := false }, kinds := [], alts := [], laidByText := true, laidKinds := [.data], laidTests := true, laidLooks := .later }
def CoreLimitsUptoCardSaid : Prop := Claim7.holds Tryz.pinned (.plain (OpenSpec.upto coreLimitsSpec)) coreLimitsUptoCard

/-- THE SECOND FORM's CARD OF 'millpondlaw17.CoreKeeps'. -/
def coreKeepsUptoCard : Claim7 := { stood := { row := coreKeepsUptoRow, standIns := [], harness := (true, "3b9054f10c9c5fb82da89a913622f02e1aaecefdee6eb776dafd30a2283a3747"), looks := false }, kinds := [], alts := [], laidByText := true, laidKinds := [.data], laidTests := true, laidLooks := .later }
def CoreKeepsUptoCardSaid : Prop := Claim7.holds Tryz.pinned (.plain (OpenSpec.upto coreKeepsSpec)) coreKeepsUptoCard

/-- THE SECOND FORM's CARD OF 'millpondlaw17.CoreFresh'. -/
def coreFreshUptoCard : Claim7 := { stood := { row := coreFreshUptoRow, standIns := [], harness := (true, "3b9054f10c9c5fb82da89a913622f02e1aaecefdee6eb776dafd30a2283a3747"), looks := false }, kinds := [], alts := [], laidByText := true, laidKinds := [.data], laidTests := true, laidLooks := .later }
def CoreFreshUptoCardSaid : Prop := Claim7.holds Tryz.pinned (.plain (OpenSpec.upto coreFreshSpec)) coreFreshUptoCard

/-- THE SECOND FORM's CARD OF 'millpondlaw17.CoreShrinks'. -/
def coreShrinksUptoCard : Claim7 := { stood := { row := coreShrinksUptoRow, standIns := [], harness := (true, "3b9054f10c9c5fb82da89a913622f02e1aaecefdee6eb776dafd30a2283a3747"), looks := false }, kinds := [], alts := [], laidByText := true, laidKinds := [.data], laidTests := true, laidLooks := .later }
def CoreShrinksUptoCardSaid : Prop := Claim7.holds Tryz.pinned (.plain (OpenSpec.upto coreShrinksSpec)) coreShrinksUptoCard

/-- THE SECOND FORM's CARD OF 'millpondlaw17.CoreGroups'. -/
def coreGroupsUptoCard : Claim7 := { stood := { row := coreGroupsUptoRow, standIns := [], harness := (true, "3b9054f10c9c5fb82da89a913622f02e1aaecefdee6eb776dafd30a2283a3747"), looks := false }, kinds := [], alts := [], laidByText := true, laidKinds := [.data], laidTests := true, laidLooks := .later }
def CoreGroupsUptoCardSaid : Prop := Claim7.holds Tryz.pinned (.plain (OpenSpec.upto coreGroupsSpec)) coreGroupsUptoCard

/-- THE SECOND FORM's CARD OF 'millpondlaw17.CoreCounts'. -/
def coreCountsUptoCard : Claim7 := { stood := { row := coreCountsUptoRow, standIns := [], harness := (true, "3b9054f10c9c5fb82da89a913622f02e1aaecefdee6eb776dafd30a2283a3747"), looks := false }, kinds := [], alts := [], laidByText := true, laidKinds := [.data], laidTests := true, laidLooks := .later }
def CoreCountsUptoCardSaid : Prop := Claim7.holds Tryz.pinned (.plain (OpenSpec.upto coreCountsSpec)) coreCountsUptoCard

/-- THE SECOND FORM's CARD OF 'millpondlaw17.CoreTarget'. -/
def coreTargetUptoCard : Claim7 := { stood := { row := coreTargetUptoRow, standIns := [], harness := (true, "3b9054f10c9c5fb82da89a913622f02e1aaecefdee6eb776dafd30a2283a3747"), looks := false }, kinds := [], alts := [], laidByText := true, laidKinds := [.data], laidTests := true, laidLooks := .later }
def CoreTargetUptoCardSaid : Prop := Claim7.holds Tryz.pinned (.plain (OpenSpec.upto coreTargetSpec)) coreTargetUptoCard

/-- THE SECOND FORM's CARD OF 'millpondlaw17.CoreRefers'. -/
def coreRefersUptoCard : Claim7 := { stood := { row := coreRefersUptoRow, standIns := [], harness := (true, "3b9054f10c9c5fb82da89a913622f02e1aaecefdee6eb776dafd30a2283a3747"), looks := false }, kinds := [], alts := [], laidByText := true, laidKinds := [.data], laidTests := true, laidLooks := .later }
def CoreRefersUptoCardSaid : Prop := Claim7.holds Tryz.pinned (.plain (OpenSpec.upto coreRefersSpec)) coreRefersUptoCard

/-- THE SECOND FORM's CARD OF 'millpondlaw17.CoreDoes'. -/
def coreDoesUptoCard : Claim7 := { stood := { row := coreDoesUptoRow, standIns := [], harness := (true, "3b9054f10c9c5fb82da89a913622f02e1aaecefdee6eb776dafd30a2283a3747"), looks := false }, kinds := [], alts := [], laidByText := true, laidKinds := [.data], laidTests := true, laidLooks := .later }
def CoreDoesUptoCardSaid : Prop := Claim7.holds Tryz.pinned (.plain (OpenSpec.upto coreDoesSpec)) coreDoesUptoCard
end Rows
end Go.Proofs.YtkjijachkcmelaaGreatDoor
