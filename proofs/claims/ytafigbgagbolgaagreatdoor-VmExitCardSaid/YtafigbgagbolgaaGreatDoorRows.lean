/-
  NARROWER THAN 'FOR EVERY INPUT', by the rows' own cells (each row's printed sentence says how): TopLimits: laid · TopMax: laid · VmGone: laid · VmOnce: laid · VmLast: laid · VmUnmap: laid · VmForks: laid · VmSpawns: laid · VmRefs: laid · VmRuns: laid · VmExit: laid · TopCounts: laid.
  DERIVED. THE GIVEN ROWS OF THIS SEAT. 12 by the template 'for every input the law returns true; each argument reads behind the call as it read before'; 0 by the template 'total and deterministic' (their statements: YtafigbgagbolgaaGreatDoorTotals.lean).
  GIVEN WITH THE SEED: the statements are not yours to turn. If you find one false, say at which input.
  Laid BY PROGRAM, IN A SANDBOX (cutbox-rows.mjs): the forced cells as the released guide's own fill.sh prints them over the translation d8b59f841f0077b7… (all of the seat's roots in one cut). By AI agents, Wed Nov 11 2026. No macro, syntax, notation, axiom, sorry.
-/
import Derived.Test.YtafigbgagbolgaaGreatDoorChecked
import GoSem.Claim
import GoSem.ClaimJoined
import GoSem.ClaimMapViews
import Derived.JoinedTies
import Derived.KernelRfl
namespace Go.Proofs.YtafigbgagbolgaaGreatDoor
/- THE CELL 'sum', in the pinned program and in every row, IS THE sha256 OF THE DUMP (.gsa) THAT YtafigbgagbolgaaGreatDoorProg.lean LOADS. Nothing in Lean hashes anything: it is a label: what it is worth is what the hold of that sum in a sandbox is worth. -/
noncomputable def Tryz.pinned : Pinned := { name := "ytafigbgagbolgaagreatdoor", sum := "d8b59f841f0077b745b43388fb78b907c2e30da66b4a6797024656c452448ad9", checked := Tryz.checked }
namespace Rows
def none {H : Type} : Left H := { results := [], args := [] }

/- WHAT THE LISTED PACKAGE-LEVEL VARIABLES READ AS WHEN THE CALL BEGINS. Each datum BY PROGRAM (the guide's laid-datum.mjs) off the statement by which the dump's own 'gosem.cut.vars' lays the variable. In a bare row this is a premise. The card (YtafigbgagbolgaaGreatDoorCards.lean) ties it to the program's text. -/
def laid_math_bits_deBruijn64tab {H : Type} : DataW H := .agg [.lit (.int .u8 0), .lit (.int .u8 1), .lit (.int .u8 56), .lit (.int .u8 2), .lit (.int .u8 57), .lit (.int .u8 49), .lit (.int .u8 28), .lit (.int .u8 3), .lit (.int .u8 61), .lit (.int .u8 58), .lit (.int .u8 42), .lit (.int .u8 50), .lit (.int .u8 38), .lit (.int .u8 29), .lit (.int .u8 17), .lit (.int .u8 4), .lit (.int .u8 62), .lit (.int .u8 47), .lit (.int .u8 59), .lit (.int .u8 36), .lit (.int .u8 45), .lit (.int .u8 43), .lit (.int .u8 51), .lit (.int .u8 22), .lit (.int .u8 53), .lit (.int .u8 39), .lit (.int .u8 33), .lit (.int .u8 30), .lit (.int .u8 24), .lit (.int .u8 18), .lit (.int .u8 12), .lit (.int .u8 5), .lit (.int .u8 63), .lit (.int .u8 55), .lit (.int .u8 48), .lit (.int .u8 27), .lit (.int .u8 60), .lit (.int .u8 41), .lit (.int .u8 37), .lit (.int .u8 16), .lit (.int .u8 46), .lit (.int .u8 35), .lit (.int .u8 44), .lit (.int .u8 21), .lit (.int .u8 52), .lit (.int .u8 32), .lit (.int .u8 23), .lit (.int .u8 11), .lit (.int .u8 54), .lit (.int .u8 26), .lit (.int .u8 40), .lit (.int .u8 15), .lit (.int .u8 34), .lit (.int .u8 20), .lit (.int .u8 31), .lit (.int .u8 10), .lit (.int .u8 25), .lit (.int .u8 14), .lit (.int .u8 19), .lit (.int .u8 9), .lit (.int .u8 13), .lit (.int .u8 8), .lit (.int .u8 7), .lit (.int .u8 6)]

/-- 'millpondtop.TopLimits': WHATEVER THE INPUT: true; the input reads as it did. -/
def topLimitsSpec : ChangeSpec := { name := "topLimits", fn := fun _ => fun
  | [d1, d2, d3, d4] => { results := [.lit (.bool true)], args := [d1, d2, d3, d4] }
  | _ => none }
def topLimitsRow : OpenClaim := { program := "ytafigbgagbolgaagreatdoor", sum := "d8b59f841f0077b745b43388fb78b907c2e30da66b4a6797024656c452448ad9", func := "millpond/millpondtop.TopLimits", spec := "topLimits", unfollowed := true, recurses := true, named := ["math/bits.divideError", "math/bits.overflowError", "math/bits.deBruijn64tab"], plainKeys := false, apart := false, laid := [("math/bits.deBruijn64tab", laid_math_bits_deBruijn64tab)] }
def TopLimitsSaid : Prop := topLimitsRow.holds Tryz.pinned (OpenSpec.ofChange topLimitsSpec)

/-- ITS FALSE NEIGHBOUR: 'it returns false'. Refute it at one input. -/
def topLimitsWrong : ChangeSpec := { name := "topLimits", fn := fun _ => fun
  | [d1, d2, d3, d4] => { results := [.lit (.bool false)], args := [d1, d2, d3, d4] }
  | _ => none }
def TopLimitsWrongFalsely : Prop := topLimitsRow.holds Tryz.pinned (OpenSpec.ofChange topLimitsWrong)

/-- 'millpondtop.TopMax': WHATEVER THE INPUT: true; the input reads as it did. -/
def topMaxSpec : ChangeSpec := { name := "topMax", fn := fun _ => fun
  | [d1, d2, d3] => { results := [.lit (.bool true)], args := [d1, d2, d3] }
  | _ => none }
def topMaxRow : OpenClaim := { program := "ytafigbgagbolgaagreatdoor", sum := "d8b59f841f0077b745b43388fb78b907c2e30da66b4a6797024656c452448ad9", func := "millpond/millpondtop.TopMax", spec := "topMax", unfollowed := true, recurses := true, named := ["math/bits.divideError", "math/bits.overflowError", "math/bits.deBruijn64tab"], plainKeys := false, apart := false, laid := [("math/bits.deBruijn64tab", laid_math_bits_deBruijn64tab)] }
def TopMaxSaid : Prop := topMaxRow.holds Tryz.pinned (OpenSpec.ofChange topMaxSpec)

/-- ITS FALSE NEIGHBOUR: 'it returns false'. Refute it at one input. -/
def topMaxWrong : ChangeSpec := { name := "topMax", fn := fun _ => fun
  | [d1, d2, d3] => { results := [.lit (.bool false)], args := [d1, d2, d3] }
  | _ => none }
def TopMaxWrongFalsely : Prop := topMaxRow.holds Tryz.pinned (OpenSpec.ofChange topMaxWrong)

/-- 'millpondlaw19.VmGone': WHATEVER THE INPUT: true; the input reads as it did. -/
def vmGoneSpec : ChangeSpec := { name := "vmGone", fn := fun _ => fun
  | [d1, d2, d3, d4, d5] => { results := [.lit (.bool true)], args := [d1, d2, d3, d4, d5] }
  | _ => none }
def vmGoneRow : OpenClaim := { program := "ytafigbgagbolgaagreatdoor", sum := "d8b59f841f0077b745b43388fb78b907c2e30da66b4a6797024656c452448ad9", func := "millpond/millpondlaw19.VmGone", spec := "vmGone", unfollowed := true, recurses := true, named := ["math/bits.divideError", "math/bits.overflowError", "math/bits.deBruijn64tab"], plainKeys := false, apart := false, laid := [("math/bits.deBruijn64tab", laid_math_bits_deBruijn64tab)] }
def VmGoneSaid : Prop := vmGoneRow.holds Tryz.pinned (OpenSpec.ofChange vmGoneSpec)

/-- ITS FALSE NEIGHBOUR: 'it returns false'. Refute it at one input. -/
def vmGoneWrong : ChangeSpec := { name := "vmGone", fn := fun _ => fun
  | [d1, d2, d3, d4, d5] => { results := [.lit (.bool false)], args := [d1, d2, d3, d4, d5] }
  | _ => none }
def VmGoneWrongFalsely : Prop := vmGoneRow.holds Tryz.pinned (OpenSpec.ofChange vmGoneWrong)

/-- 'millpondlaw19.VmOnce': WHATEVER THE INPUT: true; the input reads as it did. -/
def vmOnceSpec : ChangeSpec := { name := "vmOnce", fn := fun _ => fun
  | [d1, d2, d3, d4, d5] => { results := [.lit (.bool true)], args := [d1, d2, d3, d4, d5] }
  | _ => none }
def vmOnceRow : OpenClaim := { program := "ytafigbgagbolgaagreatdoor", sum := "d8b59f841f0077b745b43388fb78b907c2e30da66b4a6797024656c452448ad9", func := "millpond/millpondlaw19.VmOnce", spec := "vmOnce", unfollowed := true, recurses := true, named := ["math/bits.divideError", "math/bits.overflowError", "math/bits.deBruijn64tab"], plainKeys := false, apart := false, laid := [("math/bits.deBruijn64tab", laid_math_bits_deBruijn64tab)] }
def VmOnceSaid : Prop := vmOnceRow.holds Tryz.pinned (OpenSpec.ofChange vmOnceSpec)

/-- ITS FALSE NEIGHBOUR: 'it returns false'. Refute it at one input. -/
def vmOnceWrong : ChangeSpec := { name := "vmOnce", fn := fun _ => fun
  | [d1, d2, d3, d4, d5] => { results := [.lit (.bool false)], args := [d1, d2, d3, d4, d5] }
  | _ => none }
def VmOnceWrongFalsely : Prop := vmOnceRow.holds Tryz.pinned (OpenSpec.ofChange vmOnceWrong)

/-- 'millpondlaw19.VmLast': WHATEVER THE INPUT: true; the input reads as it did. -/
def vmLastSpec : ChangeSpec := { name := "vmLast", fn := fun _ => fun
  | [d1, d2, d3, d4, d5, d6, d7] => { results := [.lit (.bool true)], args := [d1, d2, d3, d4, d5, d6, d7] }
  | _ => none }
def vmLastRow : OpenClaim := { program := "ytafigbgagbolgaagreatdoor", sum := "d8b59f841f0077b745b43388fb78b907c2e30da66b4a6797024656c452448ad9", func := "millpond/millpondlaw19.VmLast", spec := "vmLast", unfollowed := true, recurses := true, named := ["math/bits.divideError", "math/bits.overflowError", "math/bits.deBruijn64tab"], plainKeys := false, apart := false, laid := [("math/bits.deBruijn64tab", laid_math_bits_deBruijn64tab)] }
def VmLastSaid : Prop := vmLastRow.holds Tryz.pinned (OpenSpec.ofChange vmLastSpec)

/-- ITS FALSE NEIGHBOUR: 'it returns false'. Refute it at one input. -/
def vmLastWrong : ChangeSpec := { name := "vmLast", fn := fun _ => fun
  | [d1, d2, d3, d4, d5, d6, d7] => { results := [.lit (.bool false)], args := [d1, d2, d3, d4, d5, d6, d7] }
  | _ => none }
def VmLastWrongFalsely : Prop := vmLastRow.holds Tryz.pinned (OpenSpec.ofChange vmLastWrong)

/-- 'millpondlaw19.VmUnmap': WHATEVER THE INPUT: true; the input reads as it did. -/
def vmUnmapSpec : ChangeSpec := { name := "vmUnmap", fn := fun _ => fun
  | [d1, d2, d3, d4, d5] => { results := [.lit (.bool true)], args := [d1, d2, d3, d4, d5] }
  | _ => none }
def vmUnmapRow : OpenClaim := { program := "ytafigbgagbolgaagreatdoor", sum := "d8b59f841f0077b745b43388fb78b907c2e30da66b4a6797024656c452448ad9", func := "millpond/millpondlaw19.VmUnmap", spec := "vmUnmap", unfollowed := true, recurses := true, named := ["math/bits.divideError", "math/bits.overflowError", "math/bits.deBruijn64tab"], plainKeys := false, apart := false, laid := [("math/bits.deBruijn64tab", laid_math_bits_deBruijn64tab)] }
def VmUnmapSaid : Prop := vmUnmapRow.holds Tryz.pinned (OpenSpec.ofChange vmUnmapSpec)

/-- ITS FALSE NEIGHBOUR: 'it returns false'. Refute it at one input. -/
def vmUnmapWrong : ChangeSpec := { name := "vmUnmap", fn := fun _ => fun
  | [d1, d2, d3, d4, d5] => { results := [.lit (.bool false)], args := [d1, d2, d3, d4, d5] }
  | _ => none }
def VmUnmapWrongFalsely : Prop := vmUnmapRow.holds Tryz.pinned (OpenSpec.ofChange vmUnmapWrong)

/-- 'millpondlaw19.VmForks': WHATEVER THE INPUT: true; the input reads as it did. -/
def vmForksSpec : ChangeSpec := { name := "vmForks", fn := fun _ => fun
  | [d1, d2, d3, d4, d5, d6] => { results := [.lit (.bool true)], args := [d1, d2, d3, d4, d5, d6] }
  | _ => none }
def vmForksRow : OpenClaim := { program := "ytafigbgagbolgaagreatdoor", sum := "d8b59f841f0077b745b43388fb78b907c2e30da66b4a6797024656c452448ad9", func := "millpond/millpondlaw19.VmForks", spec := "vmForks", unfollowed := true, recurses := true, named := ["math/bits.divideError", "math/bits.overflowError", "math/bits.deBruijn64tab"], plainKeys := false, apart := false, laid := [("math/bits.deBruijn64tab", laid_math_bits_deBruijn64tab)] }
def VmForksSaid : Prop := vmForksRow.holds Tryz.pinned (OpenSpec.ofChange vmForksSpec)

/-- ITS FALSE NEIGHBOUR: 'it returns false'. Refute it at one input. -/
def vmForksWrong : ChangeSpec := { name := "vmForks", fn := fun _ => fun
  | [d1, d2, d3, d4, d5, d6] => { results := [.lit (.bool false)], args := [d1, d2, d3, d4, d5, d6] }
  | _ => none }
def VmForksWrongFalsely : Prop := vmForksRow.holds Tryz.pinned (OpenSpec.ofChange vmForksWrong)

/-- 'millpondlaw19.VmSpawns': WHATEVER THE INPUT: true; the input reads as it did. -/
def vmSpawnsSpec : ChangeSpec := { name := "vmSpawns", fn := fun _ => fun
  | [d1, d2] => { results := [.lit (.bool true)], args := [d1, d2] }
  | _ => none }
def vmSpawnsRow : OpenClaim := { program := "ytafigbgagbolgaagreatdoor", sum := "d8b59f841f0077b745b43388fb78b907c2e30da66b4a6797024656c452448ad9", func := "millpond/millpondlaw19.VmSpawns", spec := "vmSpawns", unfollowed := true, recurses := true, named := ["math/bits.divideError", "math/bits.overflowError", "math/bits.deBruijn64tab"], plainKeys := false, apart := false, laid := [("math/bits.deBruijn64tab", laid_math_bits_deBruijn64tab)] }
def VmSpawnsSaid : Prop := vmSpawnsRow.holds Tryz.pinned (OpenSpec.ofChange vmSpawnsSpec)

/-- ITS FALSE NEIGHBOUR: 'it returns false'. Refute it at one input. -/
def vmSpawnsWrong : ChangeSpec := { name := "vmSpawns", fn := fun _ => fun
  | [d1, d2] => { results := [.lit (.bool false)], args := [d1, d2] }
  | _ => none }
def VmSpawnsWrongFalsely : Prop := vmSpawnsRow.holds Tryz.pinned (OpenSpec.ofChange vmSpawnsWrong)

/-- 'millpondlaw19.VmRefs': WHATEVER THE INPUT: true; the input reads as it did. -/
def vmRefsSpec : ChangeSpec := { name := "vmRefs", fn := fun _ => fun
  | [d1, d2, d3, d4] => { results := [.lit (.bool true)], args := [d1, d2, d3, d4] }
  | _ => none }
def vmRefsRow : OpenClaim := { program := "ytafigbgagbolgaagreatdoor", sum := "d8b59f841f0077b745b43388fb78b907c2e30da66b4a6797024656c452448ad9", func := "millpond/millpondlaw19.VmRefs", spec := "vmRefs", unfollowed := true, recurses := true, named := ["math/bits.divideError", "math/bits.overflowError", "math/bits.deBruijn64tab"], plainKeys := false, apart := false, laid := [("math/bits.deBruijn64tab", laid_math_bits_deBruijn64tab)] }
def VmRefsSaid : Prop := vmRefsRow.holds Tryz.pinned (OpenSpec.ofChange vmRefsSpec)

/-- ITS FALSE NEIGHBOUR: 'it returns false'. Refute it at one input. -/
def vmRefsWrong : ChangeSpec := { name := "vmRefs", fn := fun _ => fun
  | [d1, d2, d3, d4] => { results := [.lit (.bool false)], args := [d1, d2, d3, d4] }
  | _ => none }
def VmRefsWrongFalsely : Prop := vmRefsRow.holds Tryz.pinned (OpenSpec.ofChange vmRefsWrong)

/-- 'millpondlaw19.VmRuns': WHATEVER THE INPUT: true; the input reads as it did. -/
def vmRunsSpec : ChangeSpec := { name := "vmRuns", fn := fun _ => fun
  | [d1, d2, d3, d4, d5] => { results := [.lit (.bool true)], args := [d1, d2, d3, d4, d5] }
  | _ => none }
def vmRunsRow : OpenClaim := { program := "ytafigbgagbolgaagreatdoor", sum := "d8b59f841f0077b745b43388fb78b907c2e30da66b4a6797024656c452448ad9", func := "millpond/millpondlaw19.VmRuns", spec := "vmRuns", unfollowed := true, recurses := true, named := ["math/bits.divideError", "math/bits.overflowError", "math/bits.deBruijn64tab"], plainKeys := false, apart := false, laid := [("math/bits.deBruijn64tab", laid_math_bits_deBruijn64tab)] }
def VmRunsSaid : Prop := vmRunsRow.holds Tryz.pinned (OpenSpec.ofChange vmRunsSpec)

/-- ITS FALSE NEIGHBOUR: 'it returns false'. Refute it at one input. -/
def vmRunsWrong : ChangeSpec := { name := "vmRuns", fn := fun _ => fun
  | [d1, d2, d3, d4, d5] => { results := [.lit (.bool false)], args := [d1, d2, d3, d4, d5] }
  | _ => none }
def VmRunsWrongFalsely : Prop := vmRunsRow.holds Tryz.pinned (OpenSpec.ofChange vmRunsWrong)

/-- 'millpondlaw19.VmExit': WHATEVER THE INPUT: true; the input reads as it did. -/
def vmExitSpec : ChangeSpec := { name := "vmExit", fn := fun _ => fun
  | [d1, d2, d3, d4] => { results := [.lit (.bool true)], args := [d1, d2, d3, d4] }
  | _ => none }
def vmExitRow : OpenClaim := { program := "ytafigbgagbolgaagreatdoor", sum := "d8b59f841f0077b745b43388fb78b907c2e30da66b4a6797024656c452448ad9", func := "millpond/millpondlaw19.VmExit", spec := "vmExit", unfollowed := true, recurses := true, named := ["math/bits.divideError", "math/bits.overflowError", "math/bits.deBruijn64tab"], plainKeys := false, apart := false, laid := [("math/bits.deBruijn64tab", laid_math_bits_deBruijn64tab)] }
def VmExitSaid : Prop := vmExitRow.holds Tryz.pinned (OpenSpec.ofChange vmExitSpec)

/-- ITS FALSE NEIGHBOUR: 'it returns false'. Refute it at one input. -/
def vmExitWrong : ChangeSpec := { name := "vmExit", fn := fun _ => fun
  | [d1, d2, d3, d4] => { results := [.lit (.bool false)], args := [d1, d2, d3, d4] }
  | _ => none }
def VmExitWrongFalsely : Prop := vmExitRow.holds Tryz.pinned (OpenSpec.ofChange vmExitWrong)

/-- 'millpondtop.TopCounts': WHATEVER THE INPUT: true; the input reads as it did. -/
def topCountsSpec : ChangeSpec := { name := "topCounts", fn := fun _ => fun
  | [d1, d2, d3, d4] => { results := [.lit (.bool true)], args := [d1, d2, d3, d4] }
  | _ => none }
def topCountsRow : OpenClaim := { program := "ytafigbgagbolgaagreatdoor", sum := "d8b59f841f0077b745b43388fb78b907c2e30da66b4a6797024656c452448ad9", func := "millpond/millpondtop.TopCounts", spec := "topCounts", unfollowed := true, recurses := true, named := ["math/bits.divideError", "math/bits.overflowError", "math/bits.deBruijn64tab"], plainKeys := false, apart := false, laid := [("math/bits.deBruijn64tab", laid_math_bits_deBruijn64tab)] }
def TopCountsSaid : Prop := topCountsRow.holds Tryz.pinned (OpenSpec.ofChange topCountsSpec)

/-- ITS FALSE NEIGHBOUR: 'it returns false'. Refute it at one input. -/
def topCountsWrong : ChangeSpec := { name := "topCounts", fn := fun _ => fun
  | [d1, d2, d3, d4] => { results := [.lit (.bool false)], args := [d1, d2, d3, d4] }
  | _ => none }
def TopCountsWrongFalsely : Prop := topCountsRow.holds Tryz.pinned (OpenSpec.ofChange topCountsWrong)

/- THE SECOND FORM. 'bulk': how many values and letters a reading holds, each counted each time it is reached (what is shared counts as often as it is met; a slice's spare places count too). A statement '..UptoSaid' is the law's where the arguments, and the package variables that the reading takes, are together of bulk at most 1048576: NARROWER than '..Said'. Prove '..Said' where nothing that the law and all that it calls make is longer than what came in: it says more and counts as full. Else prove '..UptoSaid'. A law counts once. -/
mutual
def uptoBulk {H : Type} : DataW H → Nat
  | .lit (.string bytes) => bytes.length + 1
  | .lit _ => 1
  | .nil => 1
  | .ptr d => uptoBulk d + 1
  | .slice elems spare => uptoBulkAll elems + uptoBulkAll spare + 1
  | .agg parts => uptoBulkAll parts + 1
  | .iface _ d => uptoBulk d + 1
  | .map entries => uptoBulkEntries entries + 1
  | .held _ => 1
def uptoBulkAll {H : Type} : List (DataW H) → Nat
  | [] => 0
  | d :: r => uptoBulk d + uptoBulkAll r
def uptoBulkEntries {H : Type} : List (Lit × DataW H) → Nat
  | [] => 0
  | x :: r => uptoBulkEntry x + uptoBulkEntries r
def uptoBulkEntry {H : Type} : Lit × DataW H → Nat
  | (.string bytes, d) => bytes.length + uptoBulk d + 1
  | (_, d) => uptoBulk d + 1
 end
def uptoSmall : (H : Type) → List (DataW H) → Bool := fun _ ds => decide (uptoBulkAll ds ≤ 1048576)
def OpenSpec.upto (s : _root_.Go.ChangeSpec) : _root_.Go.OpenSpec := { _root_.Go.OpenSpec.ofChange s with cond := some uptoSmall }

/-- 'millpondtop.TopLimits', WHERE WHAT IT READS IS OF BULK AT MOST 1048576: true; the input reads as it did. -/
def topLimitsUptoRow : OpenClaim := { program := "ytafigbgagbolgaagreatdoor", sum := "d8b59f841f0077b745b43388fb78b907c2e30da66b4a6797024656c452448ad9", func := "millpond/millpondtop.TopLimits", spec := "topLimits", unfollowed := true, recurses := true, named := ["math/bits.divideError", "math/bits.overflowError", "math/bits.deBruijn64tab"], plainKeys := false, apart := false, laid := [("math/bits.deBruijn64tab", laid_math_bits_deBruijn64tab)], narrowed := true }
def TopLimitsUptoSaid : Prop := topLimitsUptoRow.holds Tryz.pinned (OpenSpec.upto topLimitsSpec)

/-- 'millpondtop.TopMax', WHERE WHAT IT READS IS OF BULK AT MOST 1048576: true; the input reads as it did. -/
def topMaxUptoRow : OpenClaim := { program := "ytafigbgagbolgaagreatdoor", sum := "d8b59f841f0077b745b43388fb78b907c2e30da66b4a6797024656c452448ad9", func := "millpond/millpondtop.TopMax", spec := "topMax", unfollowed := true, recurses := true, named := ["math/bits.divideError", "math/bits.overflowError", "math/bits.deBruijn64tab"], plainKeys := false, apart := false, laid := [("math/bits.deBruijn64tab", laid_math_bits_deBruijn64tab)], narrowed := true }
def TopMaxUptoSaid : Prop := topMaxUptoRow.holds Tryz.pinned (OpenSpec.upto topMaxSpec)

/-- 'millpondlaw19.VmGone', WHERE WHAT IT READS IS OF BULK AT MOST 1048576: true; the input reads as it did. -/
def vmGoneUptoRow : OpenClaim := { program := "ytafigbgagbolgaagreatdoor", sum := "d8b59f841f0077b745b43388fb78b907c2e30da66b4a6797024656c452448ad9", func := "millpond/millpondlaw19.VmGone", spec := "vmGone", unfollowed := true, recurses := true, named := ["math/bits.divideError", "math/bits.overflowError", "math/bits.deBruijn64tab"], plainKeys := false, apart := false, laid := [("math/bits.deBruijn64tab", laid_math_bits_deBruijn64tab)], narrowed := true }
def VmGoneUptoSaid : Prop := vmGoneUptoRow.holds Tryz.pinned (OpenSpec.upto vmGoneSpec)

/-- 'millpondlaw19.VmOnce', WHERE WHAT IT READS IS OF BULK AT MOST 1048576: true; the input reads as it did. -/
def vmOnceUptoRow : OpenClaim := { program := "ytafigbgagbolgaagreatdoor", sum := "d8b59f841f0077b745b43388fb78b907c2e30da66b4a6797024656c452448ad9", func := "millpond/millpondlaw19.VmOnce", spec := "vmOnce", unfollowed := true, recurses := true, named := ["math/bits.divideError", "math/bits.overflowError", "math/bits.deBruijn64tab"], plainKeys := false, apart := false, laid := [("math/bits.deBruijn64tab", laid_math_bits_deBruijn64tab)], narrowed := true }
def VmOnceUptoSaid : Prop := vmOnceUptoRow.holds Tryz.pinned (OpenSpec.upto vmOnceSpec)

/-- 'millpondlaw19.VmLast', WHERE WHAT IT READS IS OF BULK AT MOST 1048576: true; the input reads as it did. -/
def vmLastUptoRow : OpenClaim := { program := "ytafigbgagbolgaagreatdoor", sum := "d8b59f841f0077b745b43388fb78b907c2e30da66b4a6797024656c452448ad9", func := "millpond/millpondlaw19.VmLast", spec := "vmLast", unfollowed := true, recurses := true, named := ["math/bits.divideError", "math/bits.overflowError", "math/bits.deBruijn64tab"], plainKeys := false, apart := false, laid := [("math/bits.deBruijn64tab", laid_math_bits_deBruijn64tab)], narrowed := true }
def VmLastUptoSaid : Prop := vmLastUptoRow.holds Tryz.pinned (OpenSpec.upto vmLastSpec)

/-- 'millpondlaw19.VmUnmap', WHERE WHAT IT READS IS OF BULK AT MOST 1048576: true; the input reads as it did. -/
def vmUnmapUptoRow : OpenClaim := { program := "ytafigbgagbolgaagreatdoor", sum := "d8b59f841f0077b745b43388fb78b907c2e30da66b4a6797024656c452448ad9", func := "millpond/millpondlaw19.VmUnmap", spec := "vmUnmap", unfollowed := true, recurses := true, named := ["math/bits.divideError", "math/bits.overflowError", "math/bits.deBruijn64tab"], plainKeys := false, apart := false, laid := [("math/bits.deBruijn64tab", laid_math_bits_deBruijn64tab)], narrowed := true }
def VmUnmapUptoSaid : Prop := vmUnmapUptoRow.holds Tryz.pinned (OpenSpec.upto vmUnmapSpec)

/-- 'millpondlaw19.VmForks', WHERE WHAT IT READS IS OF BULK AT MOST 1048576: true; the input reads as it did. -/
def vmForksUptoRow : OpenClaim := { program := "ytafigbgagbolgaagreatdoor", sum := "d8b59f841f0077b745b43388fb78b907c2e30da66b4a6797024656c452448ad9", func := "millpond/millpondlaw19.VmForks", spec := "vmForks", unfollowed := true, recurses := true, named := ["math/bits.divideError", "math/bits.overflowError", "math/bits.deBruijn64tab"], plainKeys := false, apart := false, laid := [("math/bits.deBruijn64tab", laid_math_bits_deBruijn64tab)], narrowed := true }
def VmForksUptoSaid : Prop := vmForksUptoRow.holds Tryz.pinned (OpenSpec.upto vmForksSpec)

/-- 'millpondlaw19.VmSpawns', WHERE WHAT IT READS IS OF BULK AT MOST 1048576: true; the input reads as it did. -/
def vmSpawnsUptoRow : OpenClaim := { program := "ytafigbgagbolgaagreatdoor", sum := "d8b59f841f0077b745b43388fb78b907c2e30da66b4a6797024656c452448ad9", func := "millpond/millpondlaw19.VmSpawns", spec := "vmSpawns", unfollowed := true, recurses := true, named := ["math/bits.divideError", "math/bits.overflowError", "math/bits.deBruijn64tab"], plainKeys := false, apart := false, laid := [("math/bits.deBruijn64tab", laid_math_bits_deBruijn64tab)], narrowed := true }
def VmSpawnsUptoSaid : Prop := vmSpawnsUptoRow.holds Tryz.pinned (OpenSpec.upto vmSpawnsSpec)

/-- 'millpondlaw19.VmRefs', WHERE WHAT IT READS IS OF BULK AT MOST 1048576: true; the input reads as it did. -/
def vmRefsUptoRow : OpenClaim := { program := "ytafigbgagbolgaagreatdoor", sum := "d8b59f841f0077b745b43388fb78b907c2e30da66b4a6797024656c452448ad9", func := "millpond/millpondlaw19.VmRefs", spec := "vmRefs", unfollowed := true, recurses := true, named := ["math/bits.divideError", "math/bits.overflowError", "math/bits.deBruijn64tab"], plainKeys := false, apart := false, laid := [("math/bits.deBruijn64tab", laid_math_bits_deBruijn64tab)], narrowed := true }
def VmRefsUptoSaid : Prop := vmRefsUptoRow.holds Tryz.pinned (OpenSpec.upto vmRefsSpec)

/-- 'millpondlaw19.VmRuns', WHERE WHAT IT READS IS OF BULK AT MOST 1048576: true; the input reads as it did. -/
def vmRunsUptoRow : OpenClaim := { program := "ytafigbgagbolgaagreatdoor", sum := "d8b59f841f0077b745b43388fb78b907c2e30da66b4a6797024656c452448ad9", func := "millpond/millpondlaw19.VmRuns", spec := "vmRuns", unfollowed := true, recurses := true, named := ["math/bits.divideError", "math/bits.overflowError", "math/bits.deBruijn64tab"], plainKeys := false, apart := false, laid := [("math/bits.deBruijn64tab", laid_math_bits_deBruijn64tab)], narrowed := true }
def VmRunsUptoSaid : Prop := vmRunsUptoRow.holds Tryz.pinned (OpenSpec.upto vmRunsSpec)

/-- 'millpondlaw19.VmExit', WHERE WHAT IT READS IS OF BULK AT MOST 1048576: true; the input reads as it did. -/
def vmExitUptoRow : OpenClaim := { program := "ytafigbgagbolgaagreatdoor", sum := "d8b59f841f0077b745b43388fb78b907c2e30da66b4a6797024656c452448ad9", func := "millpond/millpondlaw19.VmExit", spec := "vmExit", unfollowed := true, recurses := true, named := ["math/bits.divideError", "math/bits.overflowError", "math/bits.deBruijn64tab"], plainKeys := false, apart := false, laid := [("math/bits.deBruijn64tab", laid_math_bits_deBruijn64tab)], narrowed := true }
def VmExitUptoSaid : Prop := vmExitUptoRow.holds Tryz.pinned (OpenSpec.upto vmExitSpec)

/-- 'millpondtop.TopCounts', WHERE WHAT IT READS IS OF BULK AT MOST 1048576: true; the input reads as it did. -/
def topCountsUptoRow : OpenClaim := { program := "ytafigbgagbolgaagreatdoor", sum := "d8b59f841f0077b745b43388fb78b907c2e30da66b4a6797024656c452448ad9", func := "millpond/millpondtop.TopCounts", spec := "topCounts", unfollowed := true, recurses := true, named := ["math/bits.divideError", "math/bits.overflowError", "math/bits.deBruijn64tab"], plainKeys := false, apart := false, laid := [("math/bits.deBruijn64tab", laid_math_bits_deBruijn64tab)], narrowed := true }
def TopCountsUptoSaid : Prop := topCountsUptoRow.holds Tryz.pinned (OpenSpec.upto topCountsSpec)

end Rows
end Go.Proofs.YtafigbgagbolgaaGreatDoor
