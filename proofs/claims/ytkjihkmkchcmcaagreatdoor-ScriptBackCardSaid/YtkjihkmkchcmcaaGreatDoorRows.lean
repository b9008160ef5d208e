/-
  NARROWER THAN 'FOR EVERY INPUT', by the rows' own cells (each row's printed sentence says how): ScriptPuts: laid · ScriptGets: laid · ScriptBack: laid · ScriptSizes: laid · ScriptBad: laid.
  DERIVED. THE GIVEN ROWS OF THIS SEAT. 5 by the template 'for every input the law returns true; each argument reads behind the call as it read before'; 0 by the template 'total and deterministic' (their statements: YtkjihkmkchcmcaaGreatDoorTotals.lean).
  GIVEN WITH THE SEED: the statements are not yours to turn. If you find one false, say at which input.
  Laid BY PROGRAM, IN A SANDBOX (cutbox-rows.mjs): the forced cells as the released guide's own fill.sh prints them over the translation 5869656067a39686… (all of the seat's roots in one cut). By AI agents, Wed Nov 11 2026. No macro, syntax, notation, axiom, sorry.
-/
import Derived.Test.YtkjihkmkchcmcaaGreatDoorChecked
import GoSem.Claim
import GoSem.ClaimJoined
import GoSem.ClaimMapViews
import Derived.JoinedTies
import Derived.KernelRfl
namespace Go.Proofs.YtkjihkmkchcmcaaGreatDoor
/- THE CELL 'sum', in the pinned program and in every row, IS THE sha256 OF THE DUMP (.gsa) THAT YtkjihkmkchcmcaaGreatDoorProg.lean LOADS. Nothing in Lean hashes anything: it is a label: what it is worth is what the hold of that sum in a sandbox is worth. -/
noncomputable def Tryz.pinned : Pinned := { name := "ytkjihkmkchcmcaagreatdoor", sum := "5869656067a3968694d78ddc339cbe9fdfc26d8504a2da7a958f3b1de1528bb1", checked := Tryz.checked }
namespace Rows
def none {H : Type} : Left H := { results := [], args := [] }

/- WHAT THE LISTED PACKAGE-LEVEL VARIABLES READ AS WHEN THE CALL BEGINS. Each datum BY PROGRAM (the guide's laid-datum.mjs) off the statement by which the dump's own 'gosem.cut.vars' lays the variable. In a bare row this is a premise. The card (YtkjihkmkchcmcaaGreatDoorCards.lean) ties it to the program's text. -/
def laid_math_bits_deBruijn64tab {H : Type} : DataW H := .agg [.lit (.int .u8 0), .lit (.int .u8 1), .lit (.int .u8 56), .lit (.int .u8 2), .lit (.int .u8 57), .lit (.int .u8 49), .lit (.int .u8 28), .lit (.int .u8 3), .lit (.int .u8 61), .lit (.int .u8 58), .lit (.int .u8 42), .lit (.int .u8 50), .lit (.int .u8 38), .lit (.int .u8 29), .lit (.int .u8 17), .lit (.int .u8 4), .lit (.int .u8 62), .lit (.int .u8 47), .lit (.int .u8 59), .lit (.int .u8 36), .lit (.int .u8 45), .lit (.int .u8 43), .lit (.int .u8 51), .lit (.int .u8 22), .lit (.int .u8 53), .lit (.int .u8 39), .lit (.int .u8 33), .lit (.int .u8 30), .lit (.int .u8 24), .lit (.int .u8 18), .lit (.int .u8 12), .lit (.int .u8 5), .lit (.int .u8 63), .lit (.int .u8 55), .lit (.int .u8 48), .lit (.int .u8 27), .lit (.int .u8 60), .lit (.int .u8 41), .lit (.int .u8 37), .lit (.int .u8 16), .lit (.int .u8 46), .lit (.int .u8 35), .lit (.int .u8 44), .lit (.int .u8 21), .lit (.int .u8 52), .lit (.int .u8 32), .lit (.int .u8 23), .lit (.int .u8 11), .lit (.int .u8 54), .lit (.int .u8 26), .lit (.int .u8 40), .lit (.int .u8 15), .lit (.int .u8 34), .lit (.int .u8 20), .lit (.int .u8 31), .lit (.int .u8 10), .lit (.int .u8 25), .lit (.int .u8 14), .lit (.int .u8 19), .lit (.int .u8 9), .lit (.int .u8 13), .lit (.int .u8 8), .lit (.int .u8 7), .lit (.int .u8 6)]

/-- 'millpondlaw20.ScriptPuts': WHATEVER THE INPUT: true; the input reads as it did. -/
def scriptPutsSpec : ChangeSpec := { name := "scriptPuts", fn := fun _ => fun
  | [d1, d2] => { results := [.lit (.bool true)], args := [d1, d2] }
  | _ => none }
def scriptPutsRow : OpenClaim := { program := "ytkjihkmkchcmcaagreatdoor", sum := "5869656067a3968694d78ddc339cbe9fdfc26d8504a2da7a958f3b1de1528bb1", func := "millpond/millpondlaw20.ScriptPuts", spec := "scriptPuts", unfollowed := true, recurses := true, named := ["math/bits.divideError", "math/bits.overflowError", "math/bits.deBruijn64tab"], plainKeys := false, apart := false, laid := [("math/bits.deBruijn64tab", laid_math_bits_deBruijn64tab)] }
def ScriptPutsSaid : Prop := scriptPutsRow.holds Tryz.pinned (OpenSpec.ofChange scriptPutsSpec)

/-- ITS FALSE NEIGHBOUR: 'it returns false'. Refute it at one input. -/
def scriptPutsWrong : ChangeSpec := { name := "scriptPuts", fn := fun _ => fun
  | [d1, d2] => { results := [.lit (.bool false)], args := [d1, d2] }
  | _ => none }
def ScriptPutsWrongFalsely : Prop := scriptPutsRow.holds Tryz.pinned (OpenSpec.ofChange scriptPutsWrong)

/-- 'millpondlaw20.ScriptGets': WHATEVER THE INPUT: true; the input reads as it did. -/
def scriptGetsSpec : ChangeSpec := { name := "scriptGets", fn := fun _ => fun
  | [d] => { results := [.lit (.bool true)], args := [d] }
  | _ => none }
def scriptGetsRow : OpenClaim := { program := "ytkjihkmkchcmcaagreatdoor", sum := "5869656067a3968694d78ddc339cbe9fdfc26d8504a2da7a958f3b1de1528bb1", func := "millpond/millpondlaw20.ScriptGets", spec := "scriptGets", unfollowed := true, recurses := true, named := ["math/bits.divideError", "math/bits.overflowError", "math/bits.deBruijn64tab"], plainKeys := false, apart := false, laid := [("math/bits.deBruijn64tab", laid_math_bits_deBruijn64tab)] }
def ScriptGetsSaid : Prop := scriptGetsRow.holds Tryz.pinned (OpenSpec.ofChange scriptGetsSpec)

/-- ITS FALSE NEIGHBOUR: 'it returns false'. Refute it at one input. -/
def scriptGetsWrong : ChangeSpec := { name := "scriptGets", fn := fun _ => fun
  | [d] => { results := [.lit (.bool false)], args := [d] }
  | _ => none }
def ScriptGetsWrongFalsely : Prop := scriptGetsRow.holds Tryz.pinned (OpenSpec.ofChange scriptGetsWrong)

/-- 'millpondlaw20.ScriptBack': WHATEVER THE INPUT: true; the input reads as it did. -/
def scriptBackSpec : ChangeSpec := { name := "scriptBack", fn := fun _ => fun
  | [d1, d2] => { results := [.lit (.bool true)], args := [d1, d2] }
  | _ => none }
def scriptBackRow : OpenClaim := { program := "ytkjihkmkchcmcaagreatdoor", sum := "5869656067a3968694d78ddc339cbe9fdfc26d8504a2da7a958f3b1de1528bb1", func := "millpond/millpondlaw20.ScriptBack", spec := "scriptBack", unfollowed := true, recurses := true, named := ["math/bits.divideError", "math/bits.overflowError", "math/bits.deBruijn64tab"], plainKeys := false, apart := false, laid := [("math/bits.deBruijn64tab", laid_math_bits_deBruijn64tab)] }
def ScriptBackSaid : Prop := scriptBackRow.holds Tryz.pinned (OpenSpec.ofChange scriptBackSpec)

/-- ITS FALSE NEIGHBOUR: 'it returns false'. Refute it at one input. -/
def scriptBackWrong : ChangeSpec := { name := "scriptBack", fn := fun _ => fun
  | [d1, d2] => { results := [.lit (.bool false)], args := [d1, d2] }
  | _ => none }
def ScriptBackWrongFalsely : Prop := scriptBackRow.holds Tryz.pinned (OpenSpec.ofChange scriptBackWrong)

/-- 'millpondlaw20.ScriptSizes': WHATEVER THE INPUT: true; the input reads as it did. -/
def scriptSizesSpec : ChangeSpec := { name := "scriptSizes", fn := fun _ => fun
  | [d1, d2] => { results := [.lit (.bool true)], args := [d1, d2] }
  | _ => none }
def scriptSizesRow : OpenClaim := { program := "ytkjihkmkchcmcaagreatdoor", sum := "5869656067a3968694d78ddc339cbe9fdfc26d8504a2da7a958f3b1de1528bb1", func := "millpond/millpondlaw20.ScriptSizes", spec := "scriptSizes", unfollowed := true, recurses := true, named := ["math/bits.divideError", "math/bits.overflowError", "math/bits.deBruijn64tab"], plainKeys := false, apart := false, laid := [("math/bits.deBruijn64tab", laid_math_bits_deBruijn64tab)] }
def ScriptSizesSaid : Prop := scriptSizesRow.holds Tryz.pinned (OpenSpec.ofChange scriptSizesSpec)

/-- ITS FALSE NEIGHBOUR: 'it returns false'. Refute it at one input. -/
def scriptSizesWrong : ChangeSpec := { name := "scriptSizes", fn := fun _ => fun
  | [d1, d2] => { results := [.lit (.bool false)], args := [d1, d2] }
  | _ => none }
def ScriptSizesWrongFalsely : Prop := scriptSizesRow.holds Tryz.pinned (OpenSpec.ofChange scriptSizesWrong)

/-- 'millpondlaw20.ScriptBad': WHATEVER THE INPUT: true; the input reads as it did. -/
def scriptBadSpec : ChangeSpec := { name := "scriptBad", fn := fun _ => fun
  | [d1, d2] => { results := [.lit (.bool true)], args := [d1, d2] }
  | _ => none }
def scriptBadRow : OpenClaim := { program := "ytkjihkmkchcmcaagreatdoor", sum := "5869656067a3968694d78ddc339cbe9fdfc26d8504a2da7a958f3b1de1528bb1", func := "millpond/millpondlaw20.ScriptBad", spec := "scriptBad", unfollowed := true, recurses := true, named := ["math/bits.divideError", "math/bits.overflowError", "math/bits.deBruijn64tab"], plainKeys := false, apart := false, laid := [("math/bits.deBruijn64tab", laid_math_bits_deBruijn64tab)] }
def ScriptBadSaid : Prop := scriptBadRow.holds Tryz.pinned (OpenSpec.ofChange scriptBadSpec)

/-- ITS FALSE NEIGHBOUR: 'it returns false'. Refute it at one input. -/
def scriptBadWrong : ChangeSpec := { name := "scriptBad", fn := fun _ => fun
  | [d1, d2] => { results := [.lit (.bool false)], args := [d1, d2] }
  | _ => none }
def ScriptBadWrongFalsely : Prop := scriptBadRow.holds Tryz.pinned (OpenSpec.ofChange scriptBadWrong)

/- THE SECOND FORM. 'bulk': how many values and letters a reading holds, each counted each time it is reached (what is shared counts as often as it is met; a slice's spare places count too). A statement '..UptoSaid' is the law's where the arguments, and the package variables that the reading takes, are together of bulk at most 1048576: NARROWER than '..Said'. Prove '..Said' where nothing that the law and all that it calls make is longer than what came in: it says more and counts as full. Else prove '..UptoSaid'. A law counts once. -/
mutual
def uptoBulk {H : Type} : DataW H → Nat
  | .lit (.string bytes) => bytes.length + 1
  | .lit _ => 1
  | .nil => 1
  | .ptr d => uptoBulk d + 1
  | .slice elems spare => uptoBulkAll elems + uptoBulkAll spare + 1
  | .agg parts => uptoBulkAll parts + 1
  | .iface _ d => uptoBulk d + 1
  | .map entries => uptoBulkEntries entries + 1
  | .held _ => 1
def uptoBulkAll {H : Type} : List (DataW H) → Nat
  | [] => 0
  | d :: r => uptoBulk d + uptoBulkAll r
def uptoBulkEntries {H : Type} : List (Lit × DataW H) → Nat
  | [] => 0
  | x :: r => uptoBulkEntry x + uptoBulkEntries r
def uptoBulkEntry {H : Type} : Lit × DataW H → Nat
  | (.string bytes, d) => bytes.length + uptoBulk d + 1
  | (_, d) => uptoBulk d + 1
 end
def uptoSmall : (H : Type) → List (DataW H) → Bool := fun _ ds => decide (uptoBulkAll ds ≤ 1048576)
def OpenSpec.upto (s : _root_.Go.ChangeSpec) : _root_.Go.OpenSpec := { _root_.Go.OpenSpec.ofChange s with cond := some uptoSmall }

/-- 'millpondlaw20.ScriptPuts', WHERE WHAT IT READS IS OF BULK AT MOST 1048576: true; the input reads as it did. -/
def scriptPutsUptoRow : OpenClaim := { program := "ytkjihkmkchcmcaagreatdoor", sum := "5869656067a3968694d78ddc339cbe9fdfc26d8504a2da7a958f3b1de1528bb1", func := "millpond/millpondlaw20.ScriptPuts", spec := "scriptPuts", unfollowed := true, recurses := true, named := ["math/bits.divideError", "math/bits.overflowError", "math/bits.deBruijn64tab"], plainKeys := false, apart := false, laid := [("math/bits.deBruijn64tab", laid_math_bits_deBruijn64tab)], narrowed := true }
def ScriptPutsUptoSaid : Prop := scriptPutsUptoRow.holds Tryz.pinned (OpenSpec.upto scriptPutsSpec)

/-- 'millpondlaw20.ScriptGets', WHERE WHAT IT READS IS OF BULK AT MOST 1048576: true; the input reads as it did. -/
def scriptGetsUptoRow : OpenClaim := { program := "ytkjihkmkchcmcaagreatdoor", sum := "5869656067a3968694d78ddc339cbe9fdfc26d8504a2da7a958f3b1de1528bb1", func := "millpond/millpondlaw20.ScriptGets", spec := "scriptGets", unfollowed := true, recurses := true, named := ["math/bits.divideError", "math/bits.overflowError", "math/bits.deBruijn64tab"], plainKeys := false, apart := false, laid := [("math/bits.deBruijn64tab", laid_math_bits_deBruijn64tab)], narrowed := true }
def ScriptGetsUptoSaid : Prop := scriptGetsUptoRow.holds Tryz.pinned (OpenSpec.upto scriptGetsSpec)

/-- 'millpondlaw20.ScriptBack', WHERE WHAT IT READS IS OF BULK AT MOST 1048576: true; the input reads as it did. -/
def scriptBackUptoRow : OpenClaim := { program := "ytkjihkmkchcmcaagreatdoor", sum := "5869656067a3968694d78ddc339cbe9fdfc26d8504a2da7a958f3b1de1528bb1", func := "millpond/millpondlaw20.ScriptBack", spec := "scriptBack", unfollowed := true, recurses := true, named := ["math/bits.divideError", "math/bits.overflowError", "math/bits.deBruijn64tab"], plainKeys := false, apart := false, laid := [("math/bits.deBruijn64tab", laid_math_bits_deBruijn64tab)], narrowed := true }
def ScriptBackUptoSaid : Prop := scriptBackUptoRow.holds Tryz.pinned (OpenSpec.upto scriptBackSpec)

/-- 'millpondlaw20.ScriptSizes', WHERE WHAT IT READS IS OF BULK AT MOST 1048576: true; the input reads as it did. -/
def scriptSizesUptoRow : OpenClaim := { program := "ytkjihkmkchcmcaagreatdoor", sum := "5869656067a3968694d78ddc339cbe9fdfc26d8504a2da7a958f3b1de1528bb1", func := "millpond/millpondlaw20.ScriptSizes", spec := "scriptSizes", unfollowed := true, recurses := true, named := ["math/bits.divideError", "math/bits.overflowError", "math/bits.deBruijn64tab"], plainKeys := false, apart := false, laid := [("math/bits.deBruijn64tab", laid_math_bits_deBruijn64tab)], narrowed := true }
def ScriptSizesUptoSaid : Prop := scriptSizesUptoRow.holds Tryz.pinned (OpenSpec.upto scriptSizesSpec)

/-- 'millpondlaw20.ScriptBad', WHERE WHAT IT READS IS OF BULK AT MOST 1048576: true; the input reads as it did. -/
def scriptBadUptoRow : OpenClaim := { program := "ytkjihkmkchcmcaagreatdoor", sum := "5869656067a3968694d78ddc339cbe9fdfc26d8504a2da7a958f3b1de1528bb1", func := "millpond/millpondlaw20.ScriptBad", spec := "scriptBad", unfollowed := true, recurses := true, named := ["math/bits.divideError", "math/bits.overflowError", "math/bits.deBruijn64tab"], plainKeys := false, apart := false, laid := [("math/bits.deBruijn64tab", laid_math_bits_deBruijn64tab)], narrowed := true }
def ScriptBadUptoSaid : Prop := scriptBadUptoRow.holds Tryz.pinned (OpenSpec.upto scriptBadSpec)

end Rows
end Go.Proofs.YtkjihkmkchcmcaaGreatDoor
