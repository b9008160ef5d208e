/-
  NARROWER THAN 'FOR EVERY INPUT', by the rows' own cells (each row's printed sentence says how): CoreAges: laid · CoreShares: laid · CoreLows: laid · CoreLimits: laid · CoreKeeps: laid · CoreFresh: laid · CoreShrinks: laid · CoreGroups: laid · CoreCounts: laid · CoreTarget: laid · CoreRefers: laid · CoreDoes: laid.
  DERIVED. THE GIVEN ROWS OF THIS SEAT. 12 by the template 'for every input the law returns true; each argument reads behind the call as it read before'; 0 by the template 'total and deterministic' (their statements: YtkjijachkcmelaaGreatDoorTotals.lean).
  GIVEN WITH THE SEED: the statements are not yours to turn. If you find one false, say at which input.
  Laid BY PROGRAM, IN A SANDBOX (cutbox-rows.mjs): the forced cells as the released guide's own fill.sh prints them over the translation d2e07f8ca4d17323… (all of the seat's roots in one cut). By AI agents, Wed Nov 11 2026. No macro, syntax, notation, axiom, sorry.
-/
import Derived.Test.YtkjijachkcmelaaGreatDoorChecked
import GoSem.Claim
import GoSem.ClaimJoined
import GoSem.ClaimMapViews
import Derived.JoinedTies
import Derived.KernelRfl
namespace Go.Proofs.YtkjijachkcmelaaGreatDoor
/- THE CELL 'sum', in the pinned program and in every row, IS THE sha256 OF THE DUMP (.gsa) THAT YtkjijachkcmelaaGreatDoorProg.lean LOADS. Nothing in Lean hashes anything: it is a label: what it is worth is what the hold of that sum in a sandbox is worth. -/
noncomputable def Tryz.pinned : Pinned := { name := "ytkjijachkcmelaagreatdoor", sum := "d2e07f8ca4d1732312e59ab51422af9d0464f7a808906d415671a5790e1c8b12", checked := Tryz.checked }
namespace Rows
def none {H : Type} : Left H := { results := [], args := [] }

/- WHAT THE LISTED PACKAGE-LEVEL VARIABLES READ AS WHEN THE CALL BEGINS. Each datum BY PROGRAM (the guide's laid-datum.mjs) off the statement by which the dump's own 'gosem.cut.vars' lays the variable. In a bare row this is a premise. The card (YtkjijachkcmelaaGreatDoorCards.lean) ties it to the program's text. -/
def laid_math_bits_deBruijn64tab {H : Type} : DataW H := .agg [.lit (.int .u8 0), .lit (.int .u8 1), .lit (.int .u8 56), .lit (.int .u8 2), .lit (.int .u8 57), .lit (.int .u8 49), .lit (.int .u8 28), .lit (.int .u8 3), .lit (.int .u8 61), .lit (.int .u8 58), .lit (.int .u8 42), .lit (.int .u8 50), .lit (.int .u8 38), .lit (.int .u8 29), .lit (.int .u8 17), .lit (.int .u8 4), .lit (.int .u8 62), .lit (.int .u8 47), .lit (.int .u8 59), .lit (.int .u8 36), .lit (.int .u8 45), .lit (.int .u8 43), .lit (.int .u8 51), .lit (.int .u8 22), .lit (.int .u8 53), .lit (.int .u8 39), .lit (.int .u8 33), .lit (.int .u8 30), .lit (.int .u8 24), .lit (.int .u8 18), .lit (.int .u8 12), .lit (.int .u8 5), .lit (.int .u8 63), .lit (.int .u8 55), .lit (.int .u8 48), .lit (.int .u8 27), .lit (.int .u8 60), .lit (.int .u8 41), .lit (.int .u8 37), .lit (.int .u8 16), .lit (.int .u8 46), .lit (.int .u8 35), .lit (.int .u8 44), .lit (.int .u8 21), .lit (.int .u8 52), .lit (.int .u8 32), .lit (.int .u8 23), .lit (.int .u8 11), .lit (.int .u8 54), .lit (.int .u8 26), .lit (.int .u8 40), .lit (.int .u8 15), .lit (.int .u8 34), .lit (.int .u8 20), .lit (.int .u8 31), .lit (.int .u8 10), .lit (.int .u8 25), .lit (.int .u8 14), .lit (.int .u8 19), .lit (.int .u8 9), .lit (.int .u8 13), .lit (.int .u8 8), .lit (.int .u8 7), .lit (.int .u8 6)]

/-- 'millpondlaw17.CoreAges': WHATEVER THE INPUT: true; the input reads as it did. -/
def coreAgesSpec : ChangeSpec := { name := "coreAges", fn := fun _ => fun
  | [d1, d2, d3] => { results := [.lit (.bool true)], args := [d1, d2, d3] }
  | _ => none }
def coreAgesRow : OpenClaim := { program := "ytkjijachkcmelaagreatdoor", sum := "d2e07f8ca4d1732312e59ab51422af9d0464f7a808906d415671a5790e1c8b12", func := "millpond/millpondlaw17.CoreAges", spec := "coreAges", unfollowed := true, recurses := true, named := ["math/bits.deBruijn64tab", "math/bits.divideError", "math/bits.overflowError"], plainKeys := false, apart := false, laid := [("math/bits.deBruijn64tab", laid_math_bits_deBruijn64tab)] }
def CoreAgesSaid : Prop := coreAgesRow.holds Tryz.pinned (OpenSpec.ofChange coreAgesSpec)

/-- ITS FALSE NEIGHBOUR: 'it returns false'. Refute it at one input. -/
def coreAgesWrong : ChangeSpec := { name := "coreAges", fn := fun _ => fun
  | [d1, d2, d3] => { results := [.lit (.bool false)], args := [d1, d2, d3] }
  | _ => none }
def CoreAgesWrongFalsely : Prop := coreAgesRow.holds Tryz.pinned (OpenSpec.ofChange coreAgesWrong)

/-- 'millpondlaw17.CoreShares': WHATEVER THE INPUT: true; the input reads as it did. -/
def coreSharesSpec : ChangeSpec := { name := "coreShares", fn := fun _ => fun
  | [d1, d2] => { results := [.lit (.bool true)], args := [d1, d2] }
  | _ => none }
def coreSharesRow : OpenClaim := { program := "ytkjijachkcmelaagreatdoor", sum := "d2e07f8ca4d1732312e59ab51422af9d0464f7a808906d415671a5790e1c8b12", func := "millpond/millpondlaw17.CoreShares", spec := "coreShares", unfollowed := true, recurses := true, named := ["math/bits.deBruijn64tab", "math/bits.divideError", "math/bits.overflowError"], plainKeys := false, apart := false, laid := [("math/bits.deBruijn64tab", laid_math_bits_deBruijn64tab)] }
def CoreSharesSaid : Prop := coreSharesRow.holds Tryz.pinned (OpenSpec.ofChange coreSharesSpec)

/-- ITS FALSE NEIGHBOUR: 'it returns false'. Refute it at one input. -/
def coreSharesWrong : ChangeSpec := { name := "coreShares", fn := fun _ => fun
  | [d1, d2] => { results := [.lit (.bool false)], args := [d1, d2] }
  | _ => none }
def CoreSharesWrongFalsely : Prop := coreSharesRow.holds Tryz.pinned (OpenSpec.ofChange coreSharesWrong)

/-- 'millpondlaw17.CoreLows': WHATEVER THE INPUT: true; the input reads as it did. -/
def coreLowsSpec : ChangeSpec := { name := "coreLows", fn := fun _ => fun
  | [d1, d2, d3, d4] => { results := [.lit (.bool true)], args := [d1, d2, d3, d4] }
  | _ => none }
def coreLowsRow : OpenClaim := { program := "ytkjijachkcmelaagreatdoor", sum := "d2e07f8ca4d1732312e59ab51422af9d0464f7a808906d415671a5790e1c8b12", func := "millpond/millpondlaw17.CoreLows", spec := "coreLows", unfollowed := true, recurses := true, named := ["math/bits.deBruijn64tab", "math/bits.divideError", "math/bits.overflowError"], plainKeys := false, apart := false, laid := [("math/bits.deBruijn64tab", laid_math_bits_deBruijn64tab)] }
def CoreLowsSaid : Prop := coreLowsRow.holds Tryz.pinned (OpenSpec.ofChange coreLowsSpec)

/-- ITS FALSE NEIGHBOUR: 'it returns false'. Refute it at one input. -/
def coreLowsWrong : ChangeSpec := { name := "coreLows", fn := fun _ => fun
  | [d1, d2, d3, d4] => { results := [.lit (.bool false)], args := [d1, d2, d3, d4] }
  | _ => none }
def CoreLowsWrongFalsely : Prop := coreLowsRow.holds Tryz.pinned (OpenSpec.ofChange coreLowsWrong)

/-- 'millpondlaw17.CoreLimits': WHATEVER THE INPUT: true; the input reads as it did. -/
def coreLimitsSpec : ChangeSpec := { name := "coreLimits", fn := fun _ => fun
  | [d1, d2, d3] => { results := [.lit (.bool true)], args := [d1, d2, d3] }
  | _ => none }
def coreLimitsRow : OpenClaim := { program := "ytkjijachkcmelaagreatdoor", sum := "d2e07f8ca4d1732312e59ab51422af9d0464f7a808906d415671a5790e1c8b12", func := "millpond/millpondlaw17.CoreLimits", spec := "coreLimits", unfollowed := true, recurses := true, named := ["math/bits.deBruijn64tab", "math/bits.divideError", "math/bits.overflowError"], plainKeys := false, apart := false, laid := [("math/bits.deBruijn64tab", laid_math_bits_deBruijn64tab)] }
def CoreLimitsSaid : Prop := coreLimitsRow.holds Tryz.pinned (OpenSpec.ofChange coreLimitsSpec)

/-- ITS FALSE NEIGHBOUR: 'it returns false'. Refute it at one input. -/
def coreLimitsWrong : ChangeSpec := { name := "coreLimits", fn := fun _ => fun
  | [d1, d2, d3] => { results := [.lit (.bool false)], args := [d1, d2, d3] }
  | _ => none }
def CoreLimitsWrongFalsely : Prop := coreLimitsRow.holds Tryz.pinned (OpenSpec.ofChange coreLimitsWrong)

/-- 'millpondlaw17.CoreKeeps': WHATEVER THE INPUT: true; the input reads as it did. -/
def coreKeepsSpec : ChangeSpec := { name := "coreKeeps", fn := fun _ => fun
  | [d1, d2, d3, d4, d5, d6] => { results := [.lit (.bool true)], args := [d1, d2, d3, d4, d5, d6] }
  | _ => none }
def coreKeepsRow : OpenClaim := { program := "ytkjijachkcmelaagreatdoor", sum := "d2e07f8ca4d1732312e59ab51422af9d0464f7a808906d415671a5790e1c8b12", func := "millpond/millpondlaw17.CoreKeeps", spec := "coreKeeps", unfollowed := true, recurses := true, named := ["math/bits.deBruijn64tab", "math/bits.divideError", "math/bits.overflowError"], plainKeys := false, apart := false, laid := [("math/bits.deBruijn64tab", laid_math_bits_deBruijn64tab)] }
def CoreKeepsSaid : Prop := coreKeepsRow.holds Tryz.pinned (OpenSpec.ofChange coreKeepsSpec)

/-- ITS FALSE NEIGHBOUR: 'it returns false'. Refute it at one input. -/
def coreKeepsWrong : ChangeSpec := { name := "coreKeeps", fn := fun _ => fun
  | [d1, d2, d3, d4, d5, d6] => { results := [.lit (.bool false)], args := [d1, d2, d3, d4, d5, d6] }
  | _ => none }
def CoreKeepsWrongFalsely : Prop := coreKeepsRow.holds Tryz.pinned (OpenSpec.ofChange coreKeepsWrong)

/-- 'millpondlaw17.CoreFresh': WHATEVER THE INPUT: true; the input reads as it did. -/
def coreFreshSpec : ChangeSpec := { name := "coreFresh", fn := fun _ => fun
  | [d1, d2, d3, d4, d5, d6] => { results := [.lit (.bool true)], args := [d1, d2, d3, d4, d5, d6] }
  | _ => none }
def coreFreshRow : OpenClaim := { program := "ytkjijachkcmelaagreatdoor", sum := "d2e07f8ca4d1732312e59ab51422af9d0464f7a808906d415671a5790e1c8b12", func := "millpond/millpondlaw17.CoreFresh", spec := "coreFresh", unfollowed := true, recurses := true, named := ["math/bits.deBruijn64tab", "math/bits.divideError", "math/bits.overflowError"], plainKeys := false, apart := false, laid := [("math/bits.deBruijn64tab", laid_math_bits_deBruijn64tab)] }
def CoreFreshSaid : Prop := coreFreshRow.holds Tryz.pinned (OpenSpec.ofChange coreFreshSpec)

/-- ITS FALSE NEIGHBOUR: 'it returns false'. Refute it at one input. -/
def coreFreshWrong : ChangeSpec := { name := "coreFresh", fn := fun _ => fun
  | [d1, d2, d3, d4, d5, d6] => { results := [.lit (.bool false)], args := [d1, d2, d3, d4, d5, d6] }
  | _ => none }
def CoreFreshWrongFalsely : Prop := coreFreshRow.holds Tryz.pinned (OpenSpec.ofChange coreFreshWrong)

/-- 'millpondlaw17.CoreShrinks': WHATEVER THE INPUT: true; the input reads as it did. -/
def coreShrinksSpec : ChangeSpec := { name := "coreShrinks", fn := fun _ => fun
  | [d1, d2, d3, d4, d5] => { results := [.lit (.bool true)], args := [d1, d2, d3, d4, d5] }
  | _ => none }
def coreShrinksRow : OpenClaim := { program := "ytkjijachkcmelaagreatdoor", sum := "d2e07f8ca4d1732312e59ab51422af9d0464f7a808906d415671a5790e1c8b12", func := "millpond/millpondlaw17.CoreShrinks", spec := "coreShrinks", unfollowed := true, recurses := true, named := ["math/bits.deBruijn64tab", "math/bits.divideError", "math/bits.overflowError"], plainKeys := false, apart := false, laid := [("math/bits.deBruijn64tab", laid_math_bits_deBruijn64tab)] }
def CoreShrinksSaid : Prop := coreShrinksRow.holds Tryz.pinned (OpenSpec.ofChange coreShrinksSpec)

/-- ITS FALSE NEIGHBOUR: 'it returns false'. Refute it at one input. -/
def coreShrinksWrong : ChangeSpec := { name := "coreShrinks", fn := fun _ => fun
  | [d1, d2, d3, d4, d5] => { results := [.lit (.bool false)], args := [d1, d2, d3, d4, d5] }
  | _ => none }
def CoreShrinksWrongFalsely : Prop := coreShrinksRow.holds Tryz.pinned (OpenSpec.ofChange coreShrinksWrong)

/-- 'millpondlaw17.CoreGroups': WHATEVER THE INPUT: true; the input reads as it did. -/
def coreGroupsSpec : ChangeSpec := { name := "coreGroups", fn := fun _ => fun
  | [d1, d2, d3, d4] => { results := [.lit (.bool true)], args := [d1, d2, d3, d4] }
  | _ => none }
def coreGroupsRow : OpenClaim := { program := "ytkjijachkcmelaagreatdoor", sum := "d2e07f8ca4d1732312e59ab51422af9d0464f7a808906d415671a5790e1c8b12", func := "millpond/millpondlaw17.CoreGroups", spec := "coreGroups", unfollowed := true, recurses := true, named := ["math/bits.deBruijn64tab", "math/bits.divideError", "math/bits.overflowError"], plainKeys := false, apart := false, laid := [("math/bits.deBruijn64tab", laid_math_bits_deBruijn64tab)] }
def CoreGroupsSaid : Prop := coreGroupsRow.holds Tryz.pinned (OpenSpec.ofChange coreGroupsSpec)

/-- ITS FALSE NEIGHBOUR: 'it returns false'. Refute it at one input. -/
def coreGroupsWrong : ChangeSpec := { name := "coreGroups", fn := fun _ => fun
  | [d1, d2, d3, d4] => { results := [.lit (.bool false)], args := [d1, d2, d3, d4] }
  | _ => none }
def CoreGroupsWrongFalsely : Prop := coreGroupsRow.holds Tryz.pinned (OpenSpec.ofChange coreGroupsWrong)

/-- 'millpondlaw17.CoreCounts': WHATEVER THE INPUT: true; the input reads as it did. -/
def coreCountsSpec : ChangeSpec := { name := "coreCounts", fn := fun _ => fun
  | [d1, d2, d3, d4] => { results := [.lit (.bool true)], args := [d1, d2, d3, d4] }
  | _ => none }
def coreCountsRow : OpenClaim := { program := "ytkjijachkcmelaagreatdoor", sum := "d2e07f8ca4d1732312e59ab51422af9d0464f7a808906d415671a5790e1c8b12", func := "millpond/millpondlaw17.CoreCounts", spec := "coreCounts", unfollowed := true, recurses := true, named := ["math/bits.deBruijn64tab", "math/bits.divideError", "math/bits.overflowError"], plainKeys := false, apart := false, laid := [("math/bits.deBruijn64tab", laid_math_bits_deBruijn64tab)] }
def CoreCountsSaid : Prop := coreCountsRow.holds Tryz.pinned (OpenSpec.ofChange coreCountsSpec)

/-- ITS FALSE NEIGHBOUR: 'it returns false'. Refute it at one input. -/
def coreCountsWrong : ChangeSpec := { name := "coreCounts", fn := fun _ => fun
  | [d1, d2, d3, d4] => { results := [.lit (.bool false)], args := [d1, d2, d3, d4] }
  | _ => none }
def CoreCountsWrongFalsely : Prop := coreCountsRow.holds Tryz.pinned (OpenSpec.ofChange coreCountsWrong)

/-- 'millpondlaw17.CoreTarget': WHATEVER THE INPUT: true; the input reads as it did. -/
def coreTargetSpec : ChangeSpec := { name := "coreTarget", fn := fun _ => fun
  | [d1, d2, d3, d4] => { results := [.lit (.bool true)], args := [d1, d2, d3, d4] }
  | _ => none }
def coreTargetRow : OpenClaim := { program := "ytkjijachkcmelaagreatdoor", sum := "d2e07f8ca4d1732312e59ab51422af9d0464f7a808906d415671a5790e1c8b12", func := "millpond/millpondlaw17.CoreTarget", spec := "coreTarget", unfollowed := true, recurses := true, named := ["math/bits.deBruijn64tab", "math/bits.divideError", "math/bits.overflowError"], plainKeys := false, apart := false, laid := [("math/bits.deBruijn64tab", laid_math_bits_deBruijn64tab)] }
def CoreTargetSaid : Prop := coreTargetRow.holds Tryz.pinned (OpenSpec.ofChange coreTargetSpec)

/-- ITS FALSE NEIGHBOUR: 'it returns false'. Refute it at one input. -/
def coreTargetWrong : ChangeSpec := { name := "coreTarget", fn := fun _ => fun
  | [d1, d2, d3, d4] => { results := [.lit (.bool false)], args := [d1, d2, d3, d4] }
  | _ => none }
def CoreTargetWrongFalsely : Prop := coreTargetRow.holds Tryz.pinned (OpenSpec.ofChange coreTargetWrong)

/-- 'millpondlaw17.CoreRefers': WHATEVER THE INPUT: true; the input reads as it did. -/
def coreRefersSpec : ChangeSpec := { name := "coreRefers", fn := fun _ => fun
  | [d1, d2, d3, d4, d5] => { results := [.lit (.bool true)], args := [d1, d2, d3, d4, d5] }
  | _ => none }
def coreRefersRow : OpenClaim := { program := "ytkjijachkcmelaagreatdoor", sum := "d2e07f8ca4d1732312e59ab51422af9d0464f7a808906d415671a5790e1c8b12", func := "millpond/millpondlaw17.CoreRefers", spec := "coreRefers", unfollowed := true, recurses := true, named := ["math/bits.deBruijn64tab", "math/bits.divideError", "math/bits.overflowError"], plainKeys := false, apart := false, laid := [("math/bits.deBruijn64tab", laid_math_bits_deBruijn64tab)] }
def CoreRefersSaid : Prop := coreRefersRow.holds Tryz.pinned (OpenSpec.ofChange coreRefersSpec)

/-- ITS FALSE NEIGHBOUR: 'it returns false'. Refute it at one input. -/
def coreRefersWrong : ChangeSpec := { name := "coreRefers", fn := fun _ => fun
  | [d1, d2, d3, d4, d5] => { results := [.lit (.bool false)], args := [d1, d2, d3, d4, d5] }
  | _ => none }
def CoreRefersWrongFalsely : Prop := coreRefersRow.holds Tryz.pinned (OpenSpec.ofChange coreRefersWrong)

/-- 'millpondlaw17.CoreDoes': WHATEVER THE INPUT: true; the input reads as it did. -/
def coreDoesSpec : ChangeSpec := { name := "coreDoes", fn := fun _ => fun
  | [d1, d2, d3, d4] => { results := [.lit (.bool true)], args := [d1, d2, d3, d4] }
  | _ => none }
def coreDoesRow : OpenClaim := { program := "ytkjijachkcmelaagreatdoor", sum := "d2e07f8ca4d1732312e59ab51422af9d0464f7a808906d415671a5790e1c8b12", func := "millpond/millpondlaw17.CoreDoes", spec := "coreDoes", unfollowed := true, recurses := true, named := ["math/bits.deBruijn64tab", "math/bits.divideError", "math/bits.overflowError"], plainKeys := false, apart := false, laid := [("math/bits.deBruijn64tab", laid_math_bits_deBruijn64tab)] }
def CoreDoesSaid : Prop := coreDoesRow.holds Tryz.pinned (OpenSpec.ofChange coreDoesSpec)

/-- ITS FALSE NEIGHBOUR: 'it returns false'. Refute it at one input. -/
def coreDoesWrong : ChangeSpec := { name := "coreDoes", fn := fun _ => fun
  | [d1, d2, d3, d4] => { results := [.lit (.bool false)], args := [d1, d2, d3, d4] }
  | _ => none }
def CoreDoesWrongFalsely : Prop := coreDoesRow.holds Tryz.pinned (OpenSpec.ofChange coreDoesWrong)

/- THE SECOND FORM. 'bulk': how many values and letters a reading holds, each counted each time it is reached (what is shared counts as often as it is met; a slice's spare places count too). A statement '..UptoSaid' is the law's where the arguments, and the package variables that the reading takes, are together of bulk at most 1048576: NARROWER than '..Said'. Prove '..Said' where nothing that the law and all that it calls make is longer than what came in: it says more and counts as full. Else prove '..UptoSaid'. A law counts once. -/
mutual
def uptoBulk {H : Type} : DataW H → Nat
  | .lit (.string bytes) => bytes.length + 1
  | .lit _ => 1
  | .nil => 1
  | .ptr d => uptoBulk d + 1
  | .slice elems spare => uptoBulkAll elems + uptoBulkAll spare + 1
  | .agg parts => uptoBulkAll parts + 1
  | .iface _ d => uptoBulk d + 1
  | .map entries => uptoBulkEntries entries + 1
  | .held _ => 1
def uptoBulkAll {H : Type} : List (DataW H) → Nat
  | [] => 0
  | d :: r => uptoBulk d + uptoBulkAll r
def uptoBulkEntries {H : Type} : List (Lit × DataW H) → Nat
  | [] => 0
  | x :: r => uptoBulkEntry x + uptoBulkEntries r
def uptoBulkEntry {H : Type} : Lit × DataW H → Nat
  | (.string bytes, d) => bytes.length + uptoBulk d + 1
  | (_, d) => uptoBulk d + 1
 end
def uptoSmall : (H : Type) → List (DataW H) → Bool := fun _ ds => decide (uptoBulkAll ds ≤ 1048576)
def OpenSpec.upto (s : _root_.Go.ChangeSpec) : _root_.Go.OpenSpec := { _root_.Go.OpenSpec.ofChange s with cond := some uptoSmall }

/-- 'millpondlaw17.CoreAges', WHERE WHAT IT READS IS OF BULK AT MOST 1048576: true; the input reads as it did. -/
def coreAgesUptoRow : OpenClaim := { program := "ytkjijachkcmelaagreatdoor", sum := "d2e07f8ca4d1732312e59ab51422af9d0464f7a808906d415671a5790e1c8b12", func := "millpond/millpondlaw17.CoreAges", spec := "coreAges", unfollowed := true, recurses := true, named := ["math/bits.deBruijn64tab", "math/bits.divideError", "math/bits.overflowError"], plainKeys := false, apart := false, laid := [("math/bits.deBruijn64tab", laid_math_bits_deBruijn64tab)], narrowed := true }
def CoreAgesUptoSaid : Prop := coreAgesUptoRow.holds Tryz.pinned (OpenSpec.upto coreAgesSpec)

/-- 'millpondlaw17.CoreShares', WHERE WHAT IT READS IS OF BULK AT MOST 1048576: true; the input reads as it did. -/
def coreSharesUptoRow : OpenClaim := { program := "ytkjijachkcmelaagreatdoor", sum := "d2e07f8ca4d1732312e59ab51422af9d0464f7a808906d415671a5790e1c8b12", func := "millpond/millpondlaw17.CoreShares", spec := "coreShares", unfollowed := true, recurses := true, named := ["math/bits.deBruijn64tab", "math/bits.divideError", "math/bits.overflowError"], plainKeys := false, apart := false, laid := [("math/bits.deBruijn64tab", laid_math_bits_deBruijn64tab)], narrowed := true }
def CoreSharesUptoSaid : Prop := coreSharesUptoRow.holds Tryz.pinned (OpenSpec.upto coreSharesSpec)

/-- 'millpondlaw17.CoreLows', WHERE WHAT IT READS IS OF BULK AT MOST 1048576: true; the input reads as it did. -/
def coreLowsUptoRow : OpenClaim := { program := "ytkjijachkcmelaagreatdoor", sum := "d2e07f8ca4d1732312e59ab51422af9d0464f7a808906d415671a5790e1c8b12", func := "millpond/millpondlaw17.CoreLows", spec := "coreLows", unfollowed := true, recurses := true, named := ["math/bits.deBruijn64tab", "math/bits.divideError", "math/bits.overflowError"], plainKeys := false, apart := false, laid := [("math/bits.deBruijn64tab", laid_math_bits_deBruijn64tab)], narrowed := true }
def CoreLowsUptoSaid : Prop := coreLowsUptoRow.holds Tryz.pinned (OpenSpec.upto coreLowsSpec)

/-- 'millpondlaw17.CoreLimits', WHERE WHAT IT READS IS OF BULK AT MOST 1048576: true; the input reads as it did. -/
def coreLimitsUptoRow : OpenClaim := { program := "ytkjijachkcmelaagreatdoor", sum := "d2e07f8ca4d1732312e59ab51422af9d0464f7a808906d415671a5790e1c8b12", func := "millpond/millpondlaw17.CoreLimits", spec := "coreLimits", unfollowed := true, recurses := true, named := ["math/bits.deBruijn64tab", "math/bits.divideError", "math/bits.overflowError"], plainKeys := false, apart := false, laid := [("math/bits.deBruijn64tab", laid_math_bits_deBruijn64tab)], narrowed := true }
def CoreLimitsUptoSaid : Prop := coreLimitsUptoRow.holds Tryz.pinned (OpenSpec.upto coreLimitsSpec)

/-- 'millpondlaw17.CoreKeeps', WHERE WHAT IT READS IS OF BULK AT MOST 1048576: true; the input reads as it did. -/
def coreKeepsUptoRow : OpenClaim := { program := "ytkjijachkcmelaagreatdoor", sum := "d2e07f8ca4d1732312e59ab51422af9d0464f7a808906d415671a5790e1c8b12", func := "millpond/millpondlaw17.CoreKeeps", spec := "coreKeeps", unfollowed := true, recurses := true, named := ["math/bits.deBruijn64tab", "math/bits.divideError", "math/bits.overflowError"], plainKeys := false, apart := false, laid := [("math/bits.deBruijn64tab", laid_math_bits_deBruijn64tab)], narrowed := true }
def CoreKeepsUptoSaid : Prop := coreKeepsUptoRow.holds Tryz.pinned (OpenSpec.upto coreKeepsSpec)

/-- 'millpondlaw17.CoreFresh', WHERE WHAT IT READS IS OF BULK AT MOST 1048576: true; the input reads as it did. -/
def coreFreshUptoRow : OpenClaim := { program := "ytkjijachkcmelaagreatdoor", sum := "d2e07f8ca4d1732312e59ab51422af9d0464f7a808906d415671a5790e1c8b12", func := "millpond/millpondlaw17.CoreFresh", spec := "coreFresh", unfollowed := true, recurses := true, named := ["math/bits.deBruijn64tab", "math/bits.divideError", "math/bits.overflowError"], plainKeys := false, apart := false, laid := [("math/bits.deBruijn64tab", laid_math_bits_deBruijn64tab)], narrowed := true }
def CoreFreshUptoSaid : Prop := coreFreshUptoRow.holds Tryz.pinned (OpenSpec.upto coreFreshSpec)

/-- 'millpondlaw17.CoreShrinks', WHERE WHAT IT READS IS OF BULK AT MOST 1048576: true; the input reads as it did. -/
def coreShrinksUptoRow : OpenClaim := { program := "ytkjijachkcmelaagreatdoor", sum := "d2e07f8ca4d1732312e59ab51422af9d0464f7a808906d415671a5790e1c8b12", func := "millpond/millpondlaw17.CoreShrinks", spec := "coreShrinks", unfollowed := true, recurses := true, named := ["math/bits.deBruijn64tab", "math/bits.divideError", "math/bits.overflowError"], plainKeys := false, apart := false, laid := [("math/bits.deBruijn64tab", laid_math_bits_deBruijn64tab)], narrowed := true }
def CoreShrinksUptoSaid : Prop := coreShrinksUptoRow.holds Tryz.pinned (OpenSpec.upto coreShrinksSpec)

/-- 'millpondlaw17.CoreGroups', WHERE WHAT IT READS IS OF BULK AT MOST 1048576: true; the input reads as it did. -/
def coreGroupsUptoRow : OpenClaim := { program := "ytkjijachkcmelaagreatdoor", sum := "d2e07f8ca4d1732312e59ab51422af9d0464f7a808906d415671a5790e1c8b12", func := "millpond/millpondlaw17.CoreGroups", spec := "coreGroups", unfollowed := true, recurses := true, named := ["math/bits.deBruijn64tab", "math/bits.divideError", "math/bits.overflowError"], plainKeys := false, apart := false, laid := [("math/bits.deBruijn64tab", laid_math_bits_deBruijn64tab)], narrowed := true }
def CoreGroupsUptoSaid : Prop := coreGroupsUptoRow.holds Tryz.pinned (OpenSpec.upto coreGroupsSpec)

/-- 'millpondlaw17.CoreCounts', WHERE WHAT IT READS IS OF BULK AT MOST 1048576: true; the input reads as it did. -/
def coreCountsUptoRow : OpenClaim := { program := "ytkjijachkcmelaagreatdoor", sum := "d2e07f8ca4d1732312e59ab51422af9d0464f7a808906d415671a5790e1c8b12", func := "millpond/millpondlaw17.CoreCounts", spec := "coreCounts", unfollowed := true, recurses := true, named := ["math/bits.deBruijn64tab", "math/bits.divideError", "math/bits.overflowError"], plainKeys := false, apart := false, laid := [("math/bits.deBruijn64tab", laid_math_bits_deBruijn64tab)], narrowed := true }
def CoreCountsUptoSaid : Prop := coreCountsUptoRow.holds Tryz.pinned (OpenSpec.upto coreCountsSpec)

/-- 'millpondlaw17.CoreTarget', WHERE WHAT IT READS IS OF BULK AT MOST 1048576: true; the input reads as it did. -/
def coreTargetUptoRow : OpenClaim := { program := "ytkjijachkcmelaagreatdoor", sum := "d2e07f8ca4d1732312e59ab51422af9d0464f7a808906d415671a5790e1c8b12", func := "millpond/millpondlaw17.CoreTarget", spec := "coreTarget", unfollowed := true, recurses := true, named := ["math/bits.deBruijn64tab", "math/bits.divideError", "math/bits.overflowError"], plainKeys := false, apart := false, laid := [("math/bits.deBruijn64tab", laid_math_bits_deBruijn64tab)], narrowed := true }
def CoreTargetUptoSaid : Prop := coreTargetUptoRow.holds Tryz.pinned (OpenSpec.upto coreTargetSpec)

/-- 'millpondlaw17.CoreRefers', WHERE WHAT IT READS IS OF BULK AT MOST 1048576: true; the input reads as it did. -/
def coreRefersUptoRow : OpenClaim := { program := "ytkjijachkcmelaagreatdoor", sum := "d2e07f8ca4d1732312e59ab51422af9d0464f7a808906d415671a5790e1c8b12", func := "millpond/millpondlaw17.CoreRefers", spec := "coreRefers", unfollowed := true, recurses := true, named := ["math/bits.deBruijn64tab", "math/bits.divideError", "math/bits.overflowError"], plainKeys := false, apart := false, laid := [("math/bits.deBruijn64tab", laid_math_bits_deBruijn64tab)], narrowed := true }
def CoreRefersUptoSaid : Prop := coreRefersUptoRow.holds Tryz.pinned (OpenSpec.upto coreRefersSpec)

/-- 'millpondlaw17.CoreDoes', WHERE WHAT IT READS IS OF BULK AT MOST 1048576: true; the input reads as it did. -/
def coreDoesUptoRow : OpenClaim := { program := "ytkjijachkcmelaagreatdoor", sum := "d2e07f8ca4d1732312e59ab51422af9d0464f7a808906d415671a5790e1c8b12", func := "millpond/millpondlaw17.CoreDoes", spec := "coreDoes", unfollowed := true, recurses := true, named := ["math/bits.deBruijn64tab", "math/bits.divideError", "math/bits.overflowError"], plainKeys := false, apart := false, laid := [("math/bits.deBruijn64tab", laid_math_bits_deBruijn64tab)], narrowed := true }
def CoreDoesUptoSaid : Prop := coreDoesUptoRow.holds Tryz.pinned (OpenSpec.upto coreDoesSpec)

end Rows
end Go.Proofs.YtkjijachkcmelaaGreatDoor
