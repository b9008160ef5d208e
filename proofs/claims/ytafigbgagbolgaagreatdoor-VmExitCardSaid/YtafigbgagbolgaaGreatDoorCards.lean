/-
  DERIVED. GIVEN WITH THE SEED: THE CARDS: each row of YtafigbgagbolgaaGreatDoorRows.lean that lists a variable, with what it lists TIED to the program's text (the seventh form; the later family's looks); each row that meets fmt, with fmt's text TOLD by the authors' own Lean function (tested against real Go, not proved from fmt's source: count such statements apart). THE CARD IS WHAT COUNTS. Prove the row's statement (the work); the ties are given (YtafigbgagbolgaaGreatDoorTie.lean); close each card by the builder's one call (the guide's Derived/Test/ToyasCard.lean, 'card_holds'). Laid BY PROGRAM, IN A SANDBOX (cutbox-door.mjs). By AI agents, Wed Nov 11 2026. No macro, syntax, notation, axiom, sorry.
-/
import Derived.Test.YtafigbgagbolgaaGreatDoorRows
import GoSem.ClaimSeven
namespace Go.Proofs.YtafigbgagbolgaaGreatDoor
namespace Rows

/-- THE TIED CARD OF 'millpondtop.TopLimits'. -/
def topLimitsCard : Claim7 := { stood := { row := topLimitsRow, standIns := [], harness := (true, "6dae9ca1e3fae822e43264ec614d78dc4c2fe72aea56ab24750a95019e43a27c"), looks := false }, kinds := [], alts := [], laidByText := true, laidKinds := [.data], laidTests := true, laidLooks := .later }
def TopLimitsCardSaid : Prop := Claim7.holds Tryz.pinned (.plain (OpenSpec.ofChange topLimitsSpec)) topLimitsCard

/-- THE TIED CARD OF 'millpondtop.TopMax'. -/
def topMaxCard : Claim7 := { stood := { row := topMaxRow, standIns := [], harness := (true, "6dae9ca1e3fae822e43264ec614d78dc4c2fe72aea56ab24750a95019e43a27c"), looks := false }, kinds := [], alts := [], laidByText := true, laidKinds := [.data], laidTests := true, laidLooks := .later }
def TopMaxCardSaid : Prop := Claim7.holds Tryz.pinned (.plain (OpenSpec.ofChange topMaxSpec)) topMaxCard

/-- THE TIED CARD OF 'millpondlaw19.VmGone'. -/
def vmGoneCard : Claim7 := { stood := { row := vmGoneRow, standIns := [], harness := (true, "6dae9ca1e3fae822e43264ec614d78dc4c2fe72aea56ab24750a95019e43a27c"), looks := false }, kinds := [], alts := [], laidByText := true, laidKinds := [.data], laidTests := true, laidLooks := .later }
def VmGoneCardSaid : Prop := Claim7.holds Tryz.pinned (.plain (OpenSpec.ofChange vmGoneSpec)) vmGoneCard

/-- THE TIED CARD OF 'millpondlaw19.VmOnce'. -/
def vmOnceCard : Claim7 := { stood := { row := vmOnceRow, standIns := [], harness := (true, "6dae9ca1e3fae822e43264ec614d78dc4c2fe72aea56ab24750a95019e43a27c"), looks := false }, kinds := [], alts := [], laidByText := true, laidKinds := [.data], laidTests := true, laidLooks := .later }
def VmOnceCardSaid : Prop := Claim7.holds Tryz.pinned (.plain (OpenSpec.ofChange vmOnceSpec)) vmOnceCard

/-- THE TIED CARD OF 'millpondlaw19.VmLast'. -/
def vmLastCard : Claim7 := { stood := { row := vmLastRow, standIns := [], harness := (true, "6dae9ca1e3fae822e43264ec614d78dc4c2fe72aea56ab24750a95019e43a27c"), looks := false }, kinds := [], alts := [], laidByText := true, laidKinds := [.data], laidTests := true, laidLooks := .later }
def VmLastCardSaid : Prop := Claim7.holds Tryz.pinned (.plain (OpenSpec.ofChange vmLastSpec)) vmLastCard

/-- THE TIED CARD OF 'millpondlaw19.VmUnmap'. -/
def vmUnmapCard : Claim7 := { stood := { row := vmUnmapRow, standIns := [], harness := (true, "6dae9ca1e3fae822e43264ec614d78dc4c2fe72aea56ab24750a95019e43a27c"), looks := false }, kinds := [], alts := [], laidByText := true, laidKinds := [.data], laidTests := true, laidLooks := .later }
def VmUnmapCardSaid : Prop := Claim7.holds Tryz.pinned (.plain (OpenSpec.ofChange vmUnmapSpec)) vmUnmapCard

/-- THE TIED CARD OF 'millpondlaw19.VmForks'. -/
def vmForksCard : Claim7 := { stood := { row := vmForksRow, standIns := [], harness := (true, "6dae9ca1e3fae822e43264ec614d78dc4c2fe72aea56ab24750a95019e43a27c"), looks := false }, kinds := [], alts := [], laidByText := true, laidKinds := [.data], laidTests := true, laidLooks := .later }
def VmForksCardSaid : Prop := Claim7.holds Tryz.pinned (.plain (OpenSpec.ofChange vmForksSpec)) vmForksCard

/-- THE TIED CARD OF 'millpondlaw19.VmSpawns'. -/
def vmSpawnsCard : Claim7 := { stood := { row := vmSpawnsRow, standIns := [], harness := (true, "6dae9ca1e3fae822e43264ec614d78dc4c2fe72aea56ab24750a95019e43a27c"), looks := false }, kinds := [], alts := [], laidByText := true, laidKinds := [.data], laidTests := true, laidLooks := .later }
def VmSpawnsCardSaid : Prop := Claim7.holds Tryz.pinned (.plain (OpenSpec.ofChange vmSpawnsSpec)) vmSpawnsCard

/-- THE TIED CARD OF 'millpondlaw19.VmRefs'. -/
def vmRefsCard : Claim7 := { stood := { row := vmRefsRow, standIns := [], harness := (true, "6dae9ca1e3fae822e43264ec614d78dc4c2fe72aea56ab24750a95019e43a27c"), looks := false }, kinds := [], alts := [], laidByText := true, laidKinds := [.data], laidTests := true, laidLooks := .later }
def VmRefsCardSaid : Prop := Claim7.holds Tryz.pinned (.plain (OpenSpec.ofChange vmRefsSpec)) vmRefsCard

/-- THE TIED CARD OF 'millpondlaw19.VmRuns'. -/
def vmRunsCard : Claim7 := { stood := { row := vmRunsRow, standIns := [], harness := (true, "6dae9ca1e3fae822e43264ec614d78dc4c2fe72aea56ab24750a95019e43a27c"), looks := false }, kinds := [], alts := [], laidByText := true, laidKinds := [.data], laidTests := true, laidLooks := .later }
def VmRunsCardSaid : Prop := Claim7.holds Tryz.pinned (.plain (OpenSpec.ofChange vmRunsSpec)) vmRunsCard

/-- THE TIED CARD OF 'millpondlaw19.VmExit'. -/
def vmExitCard : Claim7 := { stood := { row := vmExitRow, standIns := [], harness := (true, "6dae9ca1e3fae822e43264ec614d78dc4c2fe72aea56ab24750a95019e43a27c"), looks := false }, kinds := [], alts := [], laidByText := true, laidKinds := [.data], laidTests := true, laidLooks := .later }
def VmExitCardSaid : Prop := Claim7.holds Tryz.pinned (.plain (OpenSpec.ofChange vmExitSpec)) vmExitCard

/-- THE TIED CARD OF 'millpondtop.TopCounts'. -/
def topCountsCard : Claim7 := { stood := { row := topCountsRow, standIns := [], harness := (true, "6dae9ca1e3fae822e43264ec614d78dc4c2fe72aea56ab24750a95019e43a27c"), looks := false }, kinds := [], alts := [], laidByText := true, laidKinds := [.data], laidTests := true, laidLooks := .later }
def TopCountsCardSaid : Prop := Claim7.holds Tryz.pinned (.plain (OpenSpec.ofChange topCountsSpec)) topCountsCard

/-- THE SECOND FORM's CARD OF 'millpondtop.TopLimits'. -/
def topLimitsUptoCard : Claim7 := { stood := { row := topLimitsUptoRow, standIns := [], harness := (true, "6dae9ca1e3fae822e43264ec614d78dc4c2fe72aea56ab24750a95019e43a27c"), looks := false }, kinds := [], alts := [], laidByText := true, laidKinds := [.data], laidTests := true, laidLooks := .later }
def TopLimitsUptoCardSaid : Prop := Claim7.holds Tryz.pinned (.plain (OpenSpec.upto topLimitsSpec)) topLimitsUptoCard

/-- THE SECOND FORM's CARD OF 'millpondtop.TopMax'. -/
def topMaxUptoCard : Claim7 := { stood := { row := topMaxUptoRow, standIns := [], harness := (true, "6dae9ca1e3fae822e43264ec614d78dc4c2fe72aea56ab24750a95019e43a27c"), looks := false }, kinds := [], alts := [], laidByText := true, laidKinds := [.data], laidTests := true, laidLooks := .later }
def TopMaxUptoCardSaid : Prop := Claim7.holds Tryz.pinned (.plain (OpenSpec.upto topMaxSpec)) topMaxUptoCard

/-- THE SECOND FORM's CARD OF 'millpondlaw19.VmGone'. -/
def vmGoneUptoCard : Claim7 := { stood := { row := vmGoneUptoRow, standIns := [], harness := (true, "6dae9ca1e3fae822e43264ec614d78dc4c2fe72aea56ab24750a95019e43a27c"), looks := false }, kinds := [], alts := [], laidByText := true, laidKinds := [.data], laidTests := true, laidLooks := .later }
def VmGoneUptoCardSaid : Prop := Claim7.holds Tryz.pinned (.plain (OpenSpec.upto vmGoneSpec)) vmGoneUptoCard

/-- THE SECOND FORM's CARD OF 'millpondlaw19.VmOnce'. -/
def vmOnceUptoCard : Claim7 := { stood := { row := vmOnceUptoRow, standIns := [], harness := (true, "6dae9ca1e3fae822e43264ec614d78dc4c2fe72aea56ab24750a95019e43a27c"), looks := false }, kinds := [], alts := [], laidByText := true, laidKinds := [.data], laidTests := true, laidLooks := .later }
def VmOnceUptoCardSaid : Prop := Claim7.holds Tryz.pinned (.plain (OpenSpec.upto vmOnceSpec)) vmOnceUptoCard

/-- THE SECOND FORM's CARD OF 'millpondlaw19.VmLast'. -/
def vmLastUptoCard : Claim7 := { stood := { row := vmLastUptoRow, standIns := [], harness := (true, "6dae9ca1e3fae822e43264ec614d78dc4c2fe72aea56ab24750a95019e43a27c"), looks := false }, kinds := [], alts := [], laidByText := true, laidKinds := [.data], laidTests := true, laidLooks := .later }
def VmLastUptoCardSaid : Prop := Claim7.holds Tryz.pinned (.plain (OpenSpec.upto vmLastSpec)) vmLastUptoCard

/-- THE SECOND FORM's CARD OF 'millpondlaw19.VmUnmap'. -/
def vmUnmapUptoCard : Claim7 := { stood := { row := vmUnmapUptoRow, standIns := [], harness := (true, "6dae9ca1e3fae822e43264ec614d78dc4c2fe72aea56ab24750a95019e43a27c"), looks := false }, kinds := [], alts := [], laidByText := true, laidKinds := [.data], laidTests := true, laidLooks := .later }
def VmUnmapUptoCardSaid : Prop := Claim7.holds Tryz.pinned (.plain (OpenSpec.upto vmUnmapSpec)) vmUnmapUptoCard

/-- THE SECOND FORM's CARD OF 'millpondlaw19.VmForks'. -/
def vmForksUptoCard : Claim7 := { stood := { row := vmForksUptoRow, standIns := [], harness := (true, "6dae9ca1e3fae822e43264ec614d78dc4c2fe72aea56ab24750a95019e43a27c"), looks := false }, kinds := [], alts := [], laidByText := true, laidKinds := [.data], laidTests := true, laidLooks := .later }
def VmForksUptoCardSaid : Prop := Claim7.holds Tryz.pinned (.plain (OpenSpec.upto vmForksSpec)) vmForksUptoCard

/-- THE SECOND FORM's CARD OF 'millpondlaw19.VmSpawns'. -/
def vmSpawnsUptoCard : Claim7 := { stood := { row := vmSpawnsUptoRow, standIns := [], harness := (true, "6dae9ca1e3fae822e43264ec614d78dc4c2fe72aea56ab24750a95019e43a27c"), looks := false }, kinds := [], alts := [], laidByText := true, laidKinds := [.data], laidTests := true, laidLooks := .later }
def VmSpawnsUptoCardSaid : Prop := Claim7.holds Tryz.pinned (.plain (OpenSpec.upto vmSpawnsSpec)) vmSpawnsUptoCard

/-- THE SECOND FORM's CARD OF 'millpondlaw19.VmRefs'. -/
def vmRefsUptoCard : Claim7 := { stood := { row := vmRefsUptoRow, standIns := [], harness := (true, "6dae9ca1e3fae822e43264ec614d78dc4c2fe72aea56ab24750a95019e43a27c"), looks := false }, kinds := [], alts := [], laidByText := true, laidKinds := [.data], laidTests := true, laidLooks := .later }
def VmRefsUptoCardSaid : Prop := Claim7.holds Tryz.pinned (.plain (OpenSpec.upto vmRefsSpec)) vmRefsUptoCard

/-- THE SECOND FORM's CARD OF 'millpondlaw19.VmRuns'. -/
def vmRunsUptoCard : Claim7 := { stood := { row := vmRunsUptoRow, standIns := [], harness := (true, "6dae9ca1e3fae822e43264ec614d78dc4c2fe72aea56ab24750a95019e43a27c"), looks := false }, kinds := [], alts := [], laidByText := true, laidKinds := [.data], laidTests := true, laidLooks := .later }
def VmRunsUptoCardSaid : Prop := Claim7.holds Tryz.pinned (.plain (OpenSpec.upto vmRunsSpec)) vmRunsUptoCard

/-- THE SECOND FORM's CARD OF 'millpondlaw19.VmExit'. -/
def vmExitUptoCard : Claim7 := { stood := { row := vmExitUptoRow, standIns := [], harness := (true, "6dae9ca1e3fae822e43264ec614d78dc4c2fe72aea56ab24750a95019e43a27c"), looks := false }, kinds := [], alts := [], laidByText := true, laidKinds := [.data], laidTests := true, laidLooks := .later }
def VmExitUptoCardSaid : Prop := Claim7.holds Tryz.pinned (.plain (OpenSpec.upto vmExitSpec)) vmExitUptoCard

/-- THE SECOND FORM's CARD OF 'millpondtop.TopCounts'. -/
def topCountsUptoCard : Claim7 := { stood := { row := topCountsUptoRow, standIns := [], harness := (true, "6dae9ca1e3fae822e43264ec614d78dc4c2fe72aea56ab24750a95019e43a27c"), looks := false }, kinds := [], alts := [], laidByText := true, laidKinds := [.data], laidTests := true, laidLooks := .later }
def TopCountsUptoCardSaid : Prop := Claim7.holds Tryz.pinned (.plain (OpenSpec.upto topCountsSpec)) topCountsUptoCard
end Rows
end Go.Proofs.YtafigbgagbolgaaGreatDoor
