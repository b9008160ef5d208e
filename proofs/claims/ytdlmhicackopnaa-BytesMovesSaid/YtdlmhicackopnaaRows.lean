/-
  No cell of these rows narrows 'for every input' (looked for: loops, veiled, ifaces, maps, wideKeys, modest, calm, conditions, laid).
  DERIVED. THE GIVEN ROWS OF THIS SEAT. 4 by the template 'for every input the law returns true; each argument reads behind the call as it read before'; 0 by the template 'total and deterministic' (their statements: YtdlmhicackopnaaTotals.lean).
  GIVEN WITH THE SEED: the statements are not yours to turn. If you find one false, say at which input.
  Laid BY PROGRAM, IN A SANDBOX (cutbox-rows.mjs): the forced cells as the released guide's own fill.sh prints them over the translation 202c949a29035270… (all of the seat's roots in one cut). By AI agents, Wed Nov 11 2026. No macro, syntax, notation, axiom, sorry.
-/
import Derived.Test.YtdlmhicackopnaaChecked
import GoSem.Claim
import GoSem.ClaimJoined
import GoSem.ClaimMapViews
import Derived.JoinedTies
import Derived.KernelRfl
namespace Go.Proofs.Ytdlmhicackopnaa
/- THE CELL 'sum', in the pinned program and in every row, IS THE sha256 OF THE DUMP (.gsa) THAT YtdlmhicackopnaaProg.lean LOADS. Nothing in Lean hashes anything: it is a label: what it is worth is what the hold of that sum in a sandbox is worth. -/
noncomputable def Try.pinned : Pinned := { name := "ytdlmhicackopnaa", sum := "202c949a290352703a8c4158776d63f5b466e177d4fe70a768c42bbe95dd6c79", checked := Try.checked }
namespace Rows
def none {H : Type} : Left H := { results := [], args := [] }

/-- 'millpondlaw03.BytesDoes': WHATEVER THE INPUT: true; the input reads as it did. -/
def bytesDoesSpec : ChangeSpec := { name := "bytesDoes", fn := fun _ => fun
  | [d1, d2, d3, d4] => { results := [.lit (.bool true)], args := [d1, d2, d3, d4] }
  | _ => none }
def bytesDoesRow : OpenClaim := { program := "ytdlmhicackopnaa", sum := "202c949a290352703a8c4158776d63f5b466e177d4fe70a768c42bbe95dd6c79", func := "millpond/millpondlaw03.BytesDoes", spec := "bytesDoes", apart := false }
def BytesDoesSaid : Prop := bytesDoesRow.holds Try.pinned (OpenSpec.ofChange bytesDoesSpec)

/-- ITS FALSE NEIGHBOUR: 'it returns false'. Refute it at one input. -/
def bytesDoesWrong : ChangeSpec := { name := "bytesDoes", fn := fun _ => fun
  | [d1, d2, d3, d4] => { results := [.lit (.bool false)], args := [d1, d2, d3, d4] }
  | _ => none }
def BytesDoesWrongFalsely : Prop := bytesDoesRow.holds Try.pinned (OpenSpec.ofChange bytesDoesWrong)

/-- 'millpondlaw03.BytesLast': WHATEVER THE INPUT: true; the input reads as it did. -/
def bytesLastSpec : ChangeSpec := { name := "bytesLast", fn := fun _ => fun
  | [d1, d2, d3, d4, d5, d6, d7] => { results := [.lit (.bool true)], args := [d1, d2, d3, d4, d5, d6, d7] }
  | _ => none }
def bytesLastRow : OpenClaim := { program := "ytdlmhicackopnaa", sum := "202c949a290352703a8c4158776d63f5b466e177d4fe70a768c42bbe95dd6c79", func := "millpond/millpondlaw03.BytesLast", spec := "bytesLast", apart := false }
def BytesLastSaid : Prop := bytesLastRow.holds Try.pinned (OpenSpec.ofChange bytesLastSpec)

/-- ITS FALSE NEIGHBOUR: 'it returns false'. Refute it at one input. -/
def bytesLastWrong : ChangeSpec := { name := "bytesLast", fn := fun _ => fun
  | [d1, d2, d3, d4, d5, d6, d7] => { results := [.lit (.bool false)], args := [d1, d2, d3, d4, d5, d6, d7] }
  | _ => none }
def BytesLastWrongFalsely : Prop := bytesLastRow.holds Try.pinned (OpenSpec.ofChange bytesLastWrong)

/-- 'millpondlaw03.BytesMoves': WHATEVER THE INPUT: true; the input reads as it did. -/
def bytesMovesSpec : ChangeSpec := { name := "bytesMoves", fn := fun _ => fun
  | [d1, d2, d3, d4, d5] => { results := [.lit (.bool true)], args := [d1, d2, d3, d4, d5] }
  | _ => none }
def bytesMovesRow : OpenClaim := { program := "ytdlmhicackopnaa", sum := "202c949a290352703a8c4158776d63f5b466e177d4fe70a768c42bbe95dd6c79", func := "millpond/millpondlaw03.BytesMoves", spec := "bytesMoves", apart := false }
def BytesMovesSaid : Prop := bytesMovesRow.holds Try.pinned (OpenSpec.ofChange bytesMovesSpec)

/-- ITS FALSE NEIGHBOUR: 'it returns false'. Refute it at one input. -/
def bytesMovesWrong : ChangeSpec := { name := "bytesMoves", fn := fun _ => fun
  | [d1, d2, d3, d4, d5] => { results := [.lit (.bool false)], args := [d1, d2, d3, d4, d5] }
  | _ => none }
def BytesMovesWrongFalsely : Prop := bytesMovesRow.holds Try.pinned (OpenSpec.ofChange bytesMovesWrong)

/-- 'millpondlaw03.BytesByte': WHATEVER THE INPUT: true; the input reads as it did. -/
def bytesByteSpec : ChangeSpec := { name := "bytesByte", fn := fun _ => fun
  | [d1, d2, d3] => { results := [.lit (.bool true)], args := [d1, d2, d3] }
  | _ => none }
def bytesByteRow : OpenClaim := { program := "ytdlmhicackopnaa", sum := "202c949a290352703a8c4158776d63f5b466e177d4fe70a768c42bbe95dd6c79", func := "millpond/millpondlaw03.BytesByte", spec := "bytesByte", apart := false }
def BytesByteSaid : Prop := bytesByteRow.holds Try.pinned (OpenSpec.ofChange bytesByteSpec)

/-- ITS FALSE NEIGHBOUR: 'it returns false'. Refute it at one input. -/
def bytesByteWrong : ChangeSpec := { name := "bytesByte", fn := fun _ => fun
  | [d1, d2, d3] => { results := [.lit (.bool false)], args := [d1, d2, d3] }
  | _ => none }
def BytesByteWrongFalsely : Prop := bytesByteRow.holds Try.pinned (OpenSpec.ofChange bytesByteWrong)

/- THE SECOND FORM. 'bulk': how many values and letters a reading holds, each counted each time it is reached (what is shared counts as often as it is met; a slice's spare places count too). A statement '..UptoSaid' is the law's where the arguments, and the package variables that the reading takes, are together of bulk at most 1048576: NARROWER than '..Said'. Prove '..Said' where nothing that the law and all that it calls make is longer than what came in: it says more and counts as full. Else prove '..UptoSaid'. A law counts once. -/
mutual
def uptoBulk {H : Type} : DataW H → Nat
  | .lit (.string bytes) => bytes.length + 1
  | .lit _ => 1
  | .nil => 1
  | .ptr d => uptoBulk d + 1
  | .slice elems spare => uptoBulkAll elems + uptoBulkAll spare + 1
  | .agg parts => uptoBulkAll parts + 1
  | .iface _ d => uptoBulk d + 1
  | .map entries => uptoBulkEntries entries + 1
  | .held _ => 1
def uptoBulkAll {H : Type} : List (DataW H) → Nat
  | [] => 0
  | d :: r => uptoBulk d + uptoBulkAll r
def uptoBulkEntries {H : Type} : List (Lit × DataW H) → Nat
  | [] => 0
  | x :: r => uptoBulkEntry x + uptoBulkEntries r
def uptoBulkEntry {H : Type} : Lit × DataW H → Nat
  | (.string bytes, d) => bytes.length + uptoBulk d + 1
  | (_, d) => uptoBulk d + 1
 end
def uptoSmall : (H : Type) → List (DataW H) → Bool := fun _ ds => decide (uptoBulkAll ds ≤ 1048576)
def OpenSpec.upto (s : _root_.Go.ChangeSpec) : _root_.Go.OpenSpec := { _root_.Go.OpenSpec.ofChange s with cond := some uptoSmall }

/-- 'millpondlaw03.BytesDoes', WHERE WHAT IT READS IS OF BULK AT MOST 1048576: true; the input reads as it did. -/
def bytesDoesUptoRow : OpenClaim := { program := "ytdlmhicackopnaa", sum := "202c949a290352703a8c4158776d63f5b466e177d4fe70a768c42bbe95dd6c79", func := "millpond/millpondlaw03.BytesDoes", spec := "bytesDoes", apart := false, narrowed := true }
def BytesDoesUptoSaid : Prop := bytesDoesUptoRow.holds Try.pinned (OpenSpec.upto bytesDoesSpec)

/-- 'millpondlaw03.BytesLast', WHERE WHAT IT READS IS OF BULK AT MOST 1048576: true; the input reads as it did. -/
def bytesLastUptoRow : OpenClaim := { program := "ytdlmhicackopnaa", sum := "202c949a290352703a8c4158776d63f5b466e177d4fe70a768c42bbe95dd6c79", func := "millpond/millpondlaw03.BytesLast", spec := "bytesLast", apart := false, narrowed := true }
def BytesLastUptoSaid : Prop := bytesLastUptoRow.holds Try.pinned (OpenSpec.upto bytesLastSpec)

/-- 'millpondlaw03.BytesMoves', WHERE WHAT IT READS IS OF BULK AT MOST 1048576: true; the input reads as it did. -/
def bytesMovesUptoRow : OpenClaim := { program := "ytdlmhicackopnaa", sum := "202c949a290352703a8c4158776d63f5b466e177d4fe70a768c42bbe95dd6c79", func := "millpond/millpondlaw03.BytesMoves", spec := "bytesMoves", apart := false, narrowed := true }
def BytesMovesUptoSaid : Prop := bytesMovesUptoRow.holds Try.pinned (OpenSpec.upto bytesMovesSpec)

/-- 'millpondlaw03.BytesByte', WHERE WHAT IT READS IS OF BULK AT MOST 1048576: true; the input reads as it did. -/
def bytesByteUptoRow : OpenClaim := { program := "ytdlmhicackopnaa", sum := "202c949a290352703a8c4158776d63f5b466e177d4fe70a768c42bbe95dd6c79", func := "millpond/millpondlaw03.BytesByte", spec := "bytesByte", apart := false, narrowed := true }
def BytesByteUptoSaid : Prop := bytesByteUptoRow.holds Try.pinned (OpenSpec.upto bytesByteSpec)

end Rows
end Go.Proofs.Ytdlmhicackopnaa
