/-
  No cell of these rows narrows 'for every input' (looked for: loops, veiled, ifaces, maps, wideKeys, modest, calm, conditions, laid).
  DERIVED. THE GIVEN ROWS OF THIS SEAT. 6 by the template 'for every input the law returns true; each argument reads behind the call as it read before'; 0 by the template 'total and deterministic' (their statements: YtkheedbjhboclaaTotals.lean).
  GIVEN WITH THE SEED: the statements are not yours to turn. If you find one false, say at which input.
  Laid BY PROGRAM, IN A SANDBOX (cutbox-rows.mjs): the forced cells as the released guide's own fill.sh prints them over the translation 68281969455342a8… (all of the seat's roots in one cut). By AI agents, Wed Nov 11 2026. No macro, syntax, notation, axiom, sorry.
-/
import Derived.Test.YtkheedbjhboclaaChecked
import GoSem.Claim
import GoSem.ClaimJoined
import GoSem.ClaimMapViews
import Derived.JoinedTies
import Derived.KernelRfl
namespace Go.Proofs.Ytkheedbjhboclaa
/- THE CELL 'sum', in the pinned program and in every row, IS THE sha256 OF THE DUMP (.gsa) THAT YtkheedbjhboclaaProg.lean LOADS. Nothing in Lean hashes anything: it is a label: what it is worth is what the hold of that sum in a sandbox is worth. -/
noncomputable def Try.pinned : Pinned := { name := "ytkheedbjhboclaa", sum := "68281969455342a8b3aee213fd963acee52625b0db8afcee9f8e8752e8f143a2", checked := Try.checked }
namespace Rows
def none {H : Type} : Left H := { results := [], args := [] }

/-- 'millpondlaw12.GensOld': WHATEVER THE INPUT: true; the input reads as it did. -/
def gensOldSpec : ChangeSpec := { name := "gensOld", fn := fun _ => fun
  | [d1, d2] => { results := [.lit (.bool true)], args := [d1, d2] }
  | _ => none }
def gensOldRow : OpenClaim := { program := "ytkheedbjhboclaa", sum := "68281969455342a8b3aee213fd963acee52625b0db8afcee9f8e8752e8f143a2", func := "millpond/millpondlaw12.GensOld", spec := "gensOld", unfollowed := true, recurses := true, apart := false }
def GensOldSaid : Prop := gensOldRow.holds Try.pinned (OpenSpec.ofChange gensOldSpec)

/-- ITS FALSE NEIGHBOUR: 'it returns false'. Refute it at one input. -/
def gensOldWrong : ChangeSpec := { name := "gensOld", fn := fun _ => fun
  | [d1, d2] => { results := [.lit (.bool false)], args := [d1, d2] }
  | _ => none }
def GensOldWrongFalsely : Prop := gensOldRow.holds Try.pinned (OpenSpec.ofChange gensOldWrong)

/-- 'millpondlaw12.GensDoes': WHATEVER THE INPUT: true; the input reads as it did. -/
def gensDoesSpec : ChangeSpec := { name := "gensDoes", fn := fun _ => fun
  | [d1, d2, d3] => { results := [.lit (.bool true)], args := [d1, d2, d3] }
  | _ => none }
def gensDoesRow : OpenClaim := { program := "ytkheedbjhboclaa", sum := "68281969455342a8b3aee213fd963acee52625b0db8afcee9f8e8752e8f143a2", func := "millpond/millpondlaw12.GensDoes", spec := "gensDoes", unfollowed := true, recurses := true, apart := false }
def GensDoesSaid : Prop := gensDoesRow.holds Try.pinned (OpenSpec.ofChange gensDoesSpec)

/-- ITS FALSE NEIGHBOUR: 'it returns false'. Refute it at one input. -/
def gensDoesWrong : ChangeSpec := { name := "gensDoes", fn := fun _ => fun
  | [d1, d2, d3] => { results := [.lit (.bool false)], args := [d1, d2, d3] }
  | _ => none }
def GensDoesWrongFalsely : Prop := gensDoesRow.holds Try.pinned (OpenSpec.ofChange gensDoesWrong)

/-- 'millpondlaw12.GensOrder': WHATEVER THE INPUT: true; the input reads as it did. -/
def gensOrderSpec : ChangeSpec := { name := "gensOrder", fn := fun _ => fun
  | [d1, d2, d3] => { results := [.lit (.bool true)], args := [d1, d2, d3] }
  | _ => none }
def gensOrderRow : OpenClaim := { program := "ytkheedbjhboclaa", sum := "68281969455342a8b3aee213fd963acee52625b0db8afcee9f8e8752e8f143a2", func := "millpond/millpondlaw12.GensOrder", spec := "gensOrder", unfollowed := true, recurses := true, apart := false }
def GensOrderSaid : Prop := gensOrderRow.holds Try.pinned (OpenSpec.ofChange gensOrderSpec)

/-- ITS FALSE NEIGHBOUR: 'it returns false'. Refute it at one input. -/
def gensOrderWrong : ChangeSpec := { name := "gensOrder", fn := fun _ => fun
  | [d1, d2, d3] => { results := [.lit (.bool false)], args := [d1, d2, d3] }
  | _ => none }
def GensOrderWrongFalsely : Prop := gensOrderRow.holds Try.pinned (OpenSpec.ofChange gensOrderWrong)

/-- 'millpondlaw12.GensAges': WHATEVER THE INPUT: true; the input reads as it did. -/
def gensAgesSpec : ChangeSpec := { name := "gensAges", fn := fun _ => fun
  | [d1, d2, d3, d4] => { results := [.lit (.bool true)], args := [d1, d2, d3, d4] }
  | _ => none }
def gensAgesRow : OpenClaim := { program := "ytkheedbjhboclaa", sum := "68281969455342a8b3aee213fd963acee52625b0db8afcee9f8e8752e8f143a2", func := "millpond/millpondlaw12.GensAges", spec := "gensAges", unfollowed := true, recurses := true, apart := false }
def GensAgesSaid : Prop := gensAgesRow.holds Try.pinned (OpenSpec.ofChange gensAgesSpec)

/-- ITS FALSE NEIGHBOUR: 'it returns false'. Refute it at one input. -/
def gensAgesWrong : ChangeSpec := { name := "gensAges", fn := fun _ => fun
  | [d1, d2, d3, d4] => { results := [.lit (.bool false)], args := [d1, d2, d3, d4] }
  | _ => none }
def GensAgesWrongFalsely : Prop := gensAgesRow.holds Try.pinned (OpenSpec.ofChange gensAgesWrong)

/-- 'millpondlaw12.GensTouch': WHATEVER THE INPUT: true; the input reads as it did. -/
def gensTouchSpec : ChangeSpec := { name := "gensTouch", fn := fun _ => fun
  | [d1, d2, d3, d4] => { results := [.lit (.bool true)], args := [d1, d2, d3, d4] }
  | _ => none }
def gensTouchRow : OpenClaim := { program := "ytkheedbjhboclaa", sum := "68281969455342a8b3aee213fd963acee52625b0db8afcee9f8e8752e8f143a2", func := "millpond/millpondlaw12.GensTouch", spec := "gensTouch", unfollowed := true, recurses := true, apart := false }
def GensTouchSaid : Prop := gensTouchRow.holds Try.pinned (OpenSpec.ofChange gensTouchSpec)

/-- ITS FALSE NEIGHBOUR: 'it returns false'. Refute it at one input. -/
def gensTouchWrong : ChangeSpec := { name := "gensTouch", fn := fun _ => fun
  | [d1, d2, d3, d4] => { results := [.lit (.bool false)], args := [d1, d2, d3, d4] }
  | _ => none }
def GensTouchWrongFalsely : Prop := gensTouchRow.holds Try.pinned (OpenSpec.ofChange gensTouchWrong)

/-- 'millpondlaw12.GensMoves': WHATEVER THE INPUT: true; the input reads as it did. -/
def gensMovesSpec : ChangeSpec := { name := "gensMoves", fn := fun _ => fun
  | [d1, d2, d3, d4] => { results := [.lit (.bool true)], args := [d1, d2, d3, d4] }
  | _ => none }
def gensMovesRow : OpenClaim := { program := "ytkheedbjhboclaa", sum := "68281969455342a8b3aee213fd963acee52625b0db8afcee9f8e8752e8f143a2", func := "millpond/millpondlaw12.GensMoves", spec := "gensMoves", unfollowed := true, recurses := true, apart := false }
def GensMovesSaid : Prop := gensMovesRow.holds Try.pinned (OpenSpec.ofChange gensMovesSpec)

/-- ITS FALSE NEIGHBOUR: 'it returns false'. Refute it at one input. -/
def gensMovesWrong : ChangeSpec := { name := "gensMoves", fn := fun _ => fun
  | [d1, d2, d3, d4] => { results := [.lit (.bool false)], args := [d1, d2, d3, d4] }
  | _ => none }
def GensMovesWrongFalsely : Prop := gensMovesRow.holds Try.pinned (OpenSpec.ofChange gensMovesWrong)

/- THE SECOND FORM. 'bulk': how many values and letters a reading holds, each counted each time it is reached (what is shared counts as often as it is met; a slice's spare places count too). A statement '..UptoSaid' is the law's where the arguments, and the package variables that the reading takes, are together of bulk at most 1048576: NARROWER than '..Said'. Prove '..Said' where nothing that the law and all that it calls make is longer than what came in: it says more and counts as full. Else prove '..UptoSaid'. A law counts once. -/
mutual
def uptoBulk {H : Type} : DataW H → Nat
  | .lit (.string bytes) => bytes.length + 1
  | .lit _ => 1
  | .nil => 1
  | .ptr d => uptoBulk d + 1
  | .slice elems spare => uptoBulkAll elems + uptoBulkAll spare + 1
  | .agg parts => uptoBulkAll parts + 1
  | .iface _ d => uptoBulk d + 1
  | .map entries => uptoBulkEntries entries + 1
  | .held _ => 1
def uptoBulkAll {H : Type} : List (DataW H) → Nat
  | [] => 0
  | d :: r => uptoBulk d + uptoBulkAll r
def uptoBulkEntries {H : Type} : List (Lit × DataW H) → Nat
  | [] => 0
  | x :: r => uptoBulkEntry x + uptoBulkEntries r
def uptoBulkEntry {H : Type} : Lit × DataW H → Nat
  | (.string bytes, d) => bytes.length + uptoBulk d + 1
  | (_, d) => uptoBulk d + 1
 end
def uptoSmall : (H : Type) → List (DataW H) → Bool := fun _ ds => decide (uptoBulkAll ds ≤ 1048576)
def OpenSpec.upto (s : _root_.Go.ChangeSpec) : _root_.Go.OpenSpec := { _root_.Go.OpenSpec.ofChange s with cond := some uptoSmall }

/-- 'millpondlaw12.GensOld', WHERE WHAT IT READS IS OF BULK AT MOST 1048576: true; the input reads as it did. -/
def gensOldUptoRow : OpenClaim := { program := "ytkheedbjhboclaa", sum := "68281969455342a8b3aee213fd963acee52625b0db8afcee9f8e8752e8f143a2", func := "millpond/millpondlaw12.GensOld", spec := "gensOld", unfollowed := true, recurses := true, apart := false, narrowed := true }
def GensOldUptoSaid : Prop := gensOldUptoRow.holds Try.pinned (OpenSpec.upto gensOldSpec)

/-- 'millpondlaw12.GensDoes', WHERE WHAT IT READS IS OF BULK AT MOST 1048576: true; the input reads as it did. -/
def gensDoesUptoRow : OpenClaim := { program := "ytkheedbjhboclaa", sum := "68281969455342a8b3aee213fd963acee52625b0db8afcee9f8e8752e8f143a2", func := "millpond/millpondlaw12.GensDoes", spec := "gensDoes", unfollowed := true, recurses := true, apart := false, narrowed := true }
def GensDoesUptoSaid : Prop := gensDoesUptoRow.holds Try.pinned (OpenSpec.upto gensDoesSpec)

/-- 'millpondlaw12.GensOrder', WHERE WHAT IT READS IS OF BULK AT MOST 1048576: true; the input reads as it did. -/
def gensOrderUptoRow : OpenClaim := { program := "ytkheedbjhboclaa", sum := "68281969455342a8b3aee213fd963acee52625b0db8afcee9f8e8752e8f143a2", func := "millpond/millpondlaw12.GensOrder", spec := "gensOrder", unfollowed := true, recurses := true, apart := false, narrowed := true }
def GensOrderUptoSaid : Prop := gensOrderUptoRow.holds Try.pinned (OpenSpec.upto gensOrderSpec)

/-- 'millpondlaw12.GensAges', WHERE WHAT IT READS IS OF BULK AT MOST 1048576: true; the input reads as it did. -/
def gensAgesUptoRow : OpenClaim := { program := "ytkheedbjhboclaa", sum := "68281969455342a8b3aee213fd963acee52625b0db8afcee9f8e8752e8f143a2", func := "millpond/millpondlaw12.GensAges", spec := "gensAges", unfollowed := true, recurses := true, apart := false, narrowed := true }
def GensAgesUptoSaid : Prop := gensAgesUptoRow.holds Try.pinned (OpenSpec.upto gensAgesSpec)

/-- 'millpondlaw12.GensTouch', WHERE WHAT IT READS IS OF BULK AT MOST 1048576: true; the input reads as it did. -/
def gensTouchUptoRow : OpenClaim := { program := "ytkheedbjhboclaa", sum := "68281969455342a8b3aee213fd963acee52625b0db8afcee9f8e8752e8f143a2", func := "millpond/millpondlaw12.GensTouch", spec := "gensTouch", unfollowed := true, recurses := true, apart := false, narrowed := true }
def GensTouchUptoSaid : Prop := gensTouchUptoRow.holds Try.pinned (OpenSpec.upto gensTouchSpec)

/-- 'millpondlaw12.GensMoves', WHERE WHAT IT READS IS OF BULK AT MOST 1048576: true; the input reads as it did. -/
def gensMovesUptoRow : OpenClaim := { program := "ytkheedbjhboclaa", sum := "68281969455342a8b3aee213fd963acee52625b0db8afcee9f8e8752e8f143a2", func := "millpond/millpondlaw12.GensMoves", spec := "gensMoves", unfollowed := true, recurses := true, apart := false, narrowed := true }
def GensMovesUptoSaid : Prop := gensMovesUptoRow.holds Try.pinned (OpenSpec.upto gensMovesSpec)

end Rows
end Go.Proofs.Ytkheedbjhboclaa
