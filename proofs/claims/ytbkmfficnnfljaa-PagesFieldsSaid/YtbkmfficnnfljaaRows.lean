/-
  No cell of these rows narrows 'for every input' (looked for: loops, veiled, ifaces, maps, wideKeys, modest, calm, conditions, laid).
  DERIVED. THE GIVEN ROWS OF THIS SEAT. 7 by the template 'for every input the law returns true; each argument reads behind the call as it read before'; 0 by the template 'total and deterministic' (their statements: YtbkmfficnnfljaaTotals.lean).
  GIVEN WITH THE SEED: the statements are not yours to turn. If you find one false, say at which input.
  Laid BY PROGRAM, IN A SANDBOX (cutbox-rows.mjs): the forced cells as the released guide's own fill.sh prints them over the translation e5b8f0ef352aac18… (all of the seat's roots in one cut). By AI agents, Wed Nov 11 2026. No macro, syntax, notation, axiom, sorry.
-/
import Derived.Test.YtbkmfficnnfljaaChecked
import GoSem.Claim
import GoSem.ClaimJoined
import GoSem.ClaimMapViews
import Derived.JoinedTies
import Derived.KernelRfl
namespace Go.Proofs.Ytbkmfficnnfljaa
/- THE CELL 'sum', in the pinned program and in every row, IS THE sha256 OF THE DUMP (.gsa) THAT YtbkmfficnnfljaaProg.lean LOADS. Nothing in Lean hashes anything: it is a label: what it is worth is what the hold of that sum in a sandbox is worth. -/
noncomputable def Try.pinned : Pinned := { name := "ytbkmfficnnfljaa", sum := "e5b8f0ef352aac18e65b762f135892b9243cedc1d39db50cb34f9c5a09caa300", checked := Try.checked }
namespace Rows
def none {H : Type} : Left H := { results := [], args := [] }

/-- 'millpondlaw14.PagesDoes': WHATEVER THE INPUT: true; the input reads as it did. -/
def pagesDoesSpec : ChangeSpec := { name := "pagesDoes", fn := fun _ => fun
  | [d1, d2, d3, d4] => { results := [.lit (.bool true)], args := [d1, d2, d3, d4] }
  | _ => none }
def pagesDoesRow : OpenClaim := { program := "ytbkmfficnnfljaa", sum := "e5b8f0ef352aac18e65b762f135892b9243cedc1d39db50cb34f9c5a09caa300", func := "millpond/millpondlaw14.PagesDoes", spec := "pagesDoes", unfollowed := true, recurses := true, plainKeys := false, apart := false }
def PagesDoesSaid : Prop := pagesDoesRow.holds Try.pinned (OpenSpec.ofChange pagesDoesSpec)

/-- ITS FALSE NEIGHBOUR: 'it returns false'. Refute it at one input. -/
def pagesDoesWrong : ChangeSpec := { name := "pagesDoes", fn := fun _ => fun
  | [d1, d2, d3, d4] => { results := [.lit (.bool false)], args := [d1, d2, d3, d4] }
  | _ => none }
def PagesDoesWrongFalsely : Prop := pagesDoesRow.holds Try.pinned (OpenSpec.ofChange pagesDoesWrong)

/-- 'millpondlaw14.PagesOnce': WHATEVER THE INPUT: true; the input reads as it did. -/
def pagesOnceSpec : ChangeSpec := { name := "pagesOnce", fn := fun _ => fun
  | [d] => { results := [.lit (.bool true)], args := [d] }
  | _ => none }
def pagesOnceRow : OpenClaim := { program := "ytbkmfficnnfljaa", sum := "e5b8f0ef352aac18e65b762f135892b9243cedc1d39db50cb34f9c5a09caa300", func := "millpond/millpondlaw14.PagesOnce", spec := "pagesOnce", unfollowed := true, recurses := true, plainKeys := false, apart := false }
def PagesOnceSaid : Prop := pagesOnceRow.holds Try.pinned (OpenSpec.ofChange pagesOnceSpec)

/-- ITS FALSE NEIGHBOUR: 'it returns false'. Refute it at one input. -/
def pagesOnceWrong : ChangeSpec := { name := "pagesOnce", fn := fun _ => fun
  | [d] => { results := [.lit (.bool false)], args := [d] }
  | _ => none }
def PagesOnceWrongFalsely : Prop := pagesOnceRow.holds Try.pinned (OpenSpec.ofChange pagesOnceWrong)

/-- 'millpondlaw14.PagesErr': WHATEVER THE INPUT: true; the input reads as it did. -/
def pagesErrSpec : ChangeSpec := { name := "pagesErr", fn := fun _ => fun
  | [d1, d2] => { results := [.lit (.bool true)], args := [d1, d2] }
  | _ => none }
def pagesErrRow : OpenClaim := { program := "ytbkmfficnnfljaa", sum := "e5b8f0ef352aac18e65b762f135892b9243cedc1d39db50cb34f9c5a09caa300", func := "millpond/millpondlaw14.PagesErr", spec := "pagesErr", unfollowed := true, recurses := true, plainKeys := false, apart := false }
def PagesErrSaid : Prop := pagesErrRow.holds Try.pinned (OpenSpec.ofChange pagesErrSpec)

/-- ITS FALSE NEIGHBOUR: 'it returns false'. Refute it at one input. -/
def pagesErrWrong : ChangeSpec := { name := "pagesErr", fn := fun _ => fun
  | [d1, d2] => { results := [.lit (.bool false)], args := [d1, d2] }
  | _ => none }
def PagesErrWrongFalsely : Prop := pagesErrRow.holds Try.pinned (OpenSpec.ofChange pagesErrWrong)

/-- 'millpondlaw14.PagesMoves': WHATEVER THE INPUT: true; the input reads as it did. -/
def pagesMovesSpec : ChangeSpec := { name := "pagesMoves", fn := fun _ => fun
  | [d1, d2, d3, d4, d5] => { results := [.lit (.bool true)], args := [d1, d2, d3, d4, d5] }
  | _ => none }
def pagesMovesRow : OpenClaim := { program := "ytbkmfficnnfljaa", sum := "e5b8f0ef352aac18e65b762f135892b9243cedc1d39db50cb34f9c5a09caa300", func := "millpond/millpondlaw14.PagesMoves", spec := "pagesMoves", unfollowed := true, recurses := true, plainKeys := false, apart := false }
def PagesMovesSaid : Prop := pagesMovesRow.holds Try.pinned (OpenSpec.ofChange pagesMovesSpec)

/-- ITS FALSE NEIGHBOUR: 'it returns false'. Refute it at one input. -/
def pagesMovesWrong : ChangeSpec := { name := "pagesMoves", fn := fun _ => fun
  | [d1, d2, d3, d4, d5] => { results := [.lit (.bool false)], args := [d1, d2, d3, d4, d5] }
  | _ => none }
def PagesMovesWrongFalsely : Prop := pagesMovesRow.holds Try.pinned (OpenSpec.ofChange pagesMovesWrong)

/-- 'millpondlaw14.PagesIds': WHATEVER THE INPUT: true; the input reads as it did. -/
def pagesIdsSpec : ChangeSpec := { name := "pagesIds", fn := fun _ => fun
  | [d] => { results := [.lit (.bool true)], args := [d] }
  | _ => none }
def pagesIdsRow : OpenClaim := { program := "ytbkmfficnnfljaa", sum := "e5b8f0ef352aac18e65b762f135892b9243cedc1d39db50cb34f9c5a09caa300", func := "millpond/millpondlaw14.PagesIds", spec := "pagesIds", unfollowed := true, recurses := true, plainKeys := false, apart := false }
def PagesIdsSaid : Prop := pagesIdsRow.holds Try.pinned (OpenSpec.ofChange pagesIdsSpec)

/-- ITS FALSE NEIGHBOUR: 'it returns false'. Refute it at one input. -/
def pagesIdsWrong : ChangeSpec := { name := "pagesIds", fn := fun _ => fun
  | [d] => { results := [.lit (.bool false)], args := [d] }
  | _ => none }
def PagesIdsWrongFalsely : Prop := pagesIdsRow.holds Try.pinned (OpenSpec.ofChange pagesIdsWrong)

/-- 'millpondlaw14.PagesRefs': WHATEVER THE INPUT: true; the input reads as it did. -/
def pagesRefsSpec : ChangeSpec := { name := "pagesRefs", fn := fun _ => fun
  | [d1, d2, d3] => { results := [.lit (.bool true)], args := [d1, d2, d3] }
  | _ => none }
def pagesRefsRow : OpenClaim := { program := "ytbkmfficnnfljaa", sum := "e5b8f0ef352aac18e65b762f135892b9243cedc1d39db50cb34f9c5a09caa300", func := "millpond/millpondlaw14.PagesRefs", spec := "pagesRefs", unfollowed := true, recurses := true, plainKeys := false, apart := false }
def PagesRefsSaid : Prop := pagesRefsRow.holds Try.pinned (OpenSpec.ofChange pagesRefsSpec)

/-- ITS FALSE NEIGHBOUR: 'it returns false'. Refute it at one input. -/
def pagesRefsWrong : ChangeSpec := { name := "pagesRefs", fn := fun _ => fun
  | [d1, d2, d3] => { results := [.lit (.bool false)], args := [d1, d2, d3] }
  | _ => none }
def PagesRefsWrongFalsely : Prop := pagesRefsRow.holds Try.pinned (OpenSpec.ofChange pagesRefsWrong)

/-- 'millpondlaw14.PagesFields': WHATEVER THE INPUT: true; the input reads as it did. -/
def pagesFieldsSpec : ChangeSpec := { name := "pagesFields", fn := fun _ => fun
  | [d1, d2, d3, d4, d5] => { results := [.lit (.bool true)], args := [d1, d2, d3, d4, d5] }
  | _ => none }
def pagesFieldsRow : OpenClaim := { program := "ytbkmfficnnfljaa", sum := "e5b8f0ef352aac18e65b762f135892b9243cedc1d39db50cb34f9c5a09caa300", func := "millpond/millpondlaw14.PagesFields", spec := "pagesFields", unfollowed := true, recurses := true, plainKeys := false, apart := false }
def PagesFieldsSaid : Prop := pagesFieldsRow.holds Try.pinned (OpenSpec.ofChange pagesFieldsSpec)

/-- ITS FALSE NEIGHBOUR: 'it returns false'. Refute it at one input. -/
def pagesFieldsWrong : ChangeSpec := { name := "pagesFields", fn := fun _ => fun
  | [d1, d2, d3, d4, d5] => { results := [.lit (.bool false)], args := [d1, d2, d3, d4, d5] }
  | _ => none }
def PagesFieldsWrongFalsely : Prop := pagesFieldsRow.holds Try.pinned (OpenSpec.ofChange pagesFieldsWrong)

/- THE SECOND FORM. 'bulk': how many values and letters a reading holds, each counted each time it is reached (what is shared counts as often as it is met; a slice's spare places count too). A statement '..UptoSaid' is the law's where the arguments, and the package variables that the reading takes, are together of bulk at most 1048576: NARROWER than '..Said'. Prove '..Said' where nothing that the law and all that it calls make is longer than what came in: it says more and counts as full. Else prove '..UptoSaid'. A law counts once. -/
mutual
def uptoBulk {H : Type} : DataW H → Nat
  | .lit (.string bytes) => bytes.length + 1
  | .lit _ => 1
  | .nil => 1
  | .ptr d => uptoBulk d + 1
  | .slice elems spare => uptoBulkAll elems + uptoBulkAll spare + 1
  | .agg parts => uptoBulkAll parts + 1
  | .iface _ d => uptoBulk d + 1
  | .map entries => uptoBulkEntries entries + 1
  | .held _ => 1
def uptoBulkAll {H : Type} : List (DataW H) → Nat
  | [] => 0
  | d :: r => uptoBulk d + uptoBulkAll r
def uptoBulkEntries {H : Type} : List (Lit × DataW H) → Nat
  | [] => 0
  | x :: r => uptoBulkEntry x + uptoBulkEntries r
def uptoBulkEntry {H : Type} : Lit × DataW H → Nat
  | (.string bytes, d) => bytes.length + uptoBulk d + 1
  | (_, d) => uptoBulk d + 1
 end
def uptoSmall : (H : Type) → List (DataW H) → Bool := fun _ ds => decide (uptoBulkAll ds ≤ 1048576)
def OpenSpec.upto (s : _root_.Go.ChangeSpec) : _root_.Go.OpenSpec := { _root_.Go.OpenSpec.ofChange s with cond := some uptoSmall }

/-- 'millpondlaw14.PagesDoes', WHERE WHAT IT READS IS OF BULK AT MOST 1048576: true; the input reads as it did. -/
def pagesDoesUptoRow : OpenClaim := { program := "ytbkmfficnnfljaa", sum := "e5b8f0ef352aac18e65b762f135892b9243cedc1d39db50cb34f9c5a09caa300", func := "millpond/millpondlaw14.PagesDoes", spec := "pagesDoes", unfollowed := true, recurses := true, plainKeys := false, apart := false, narrowed := true }
def PagesDoesUptoSaid : Prop := pagesDoesUptoRow.holds Try.pinned (OpenSpec.upto pagesDoesSpec)

/-- 'millpondlaw14.PagesOnce', WHERE WHAT IT READS IS OF BULK AT MOST 1048576: true; the input reads as it did. -/
def pagesOnceUptoRow : OpenClaim := { program := "ytbkmfficnnfljaa", sum := "e5b8f0ef352aac18e65b762f135892b9243cedc1d39db50cb34f9c5a09caa300", func := "millpond/millpondlaw14.PagesOnce", spec := "pagesOnce", unfollowed := true, recurses := true, plainKeys := false, apart := false, narrowed := true }
def PagesOnceUptoSaid : Prop := pagesOnceUptoRow.holds Try.pinned (OpenSpec.upto pagesOnceSpec)

/-- 'millpondlaw14.PagesErr', WHERE WHAT IT READS IS OF BULK AT MOST 1048576: true; the input reads as it did. -/
def pagesErrUptoRow : OpenClaim := { program := "ytbkmfficnnfljaa", sum := "e5b8f0ef352aac18e65b762f135892b9243cedc1d39db50cb34f9c5a09caa300", func := "millpond/millpondlaw14.PagesErr", spec := "pagesErr", unfollowed := true, recurses := true, plainKeys := false, apart := false, narrowed := true }
def PagesErrUptoSaid : Prop := pagesErrUptoRow.holds Try.pinned (OpenSpec.upto pagesErrSpec)

/-- 'millpondlaw14.PagesMoves', WHERE WHAT IT READS IS OF BULK AT MOST 1048576: true; the input reads as it did. -/
def pagesMovesUptoRow : OpenClaim := { program := "ytbkmfficnnfljaa", sum := "e5b8f0ef352aac18e65b762f135892b9243cedc1d39db50cb34f9c5a09caa300", func := "millpond/millpondlaw14.PagesMoves", spec := "pagesMoves", unfollowed := true, recurses := true, plainKeys := false, apart := false, narrowed := true }
def PagesMovesUptoSaid : Prop := pagesMovesUptoRow.holds Try.pinned (OpenSpec.upto pagesMovesSpec)

/-- 'millpondlaw14.PagesIds', WHERE WHAT IT READS IS OF BULK AT MOST 1048576: true; the input reads as it did. -/
def pagesIdsUptoRow : OpenClaim := { program := "ytbkmfficnnfljaa", sum := "e5b8f0ef352aac18e65b762f135892b9243cedc1d39db50cb34f9c5a09caa300", func := "millpond/millpondlaw14.PagesIds", spec := "pagesIds", unfollowed := true, recurses := true, plainKeys := false, apart := false, narrowed := true }
def PagesIdsUptoSaid : Prop := pagesIdsUptoRow.holds Try.pinned (OpenSpec.upto pagesIdsSpec)

/-- 'millpondlaw14.PagesRefs', WHERE WHAT IT READS IS OF BULK AT MOST 1048576: true; the input reads as it did. -/
def pagesRefsUptoRow : OpenClaim := { program := "ytbkmfficnnfljaa", sum := "e5b8f0ef352aac18e65b762f135892b9243cedc1d39db50cb34f9c5a09caa300", func := "millpond/millpondlaw14.PagesRefs", spec := "pagesRefs", unfollowed := true, recurses := true, plainKeys := false, apart := false, narrowed := true }
def PagesRefsUptoSaid : Prop := pagesRefsUptoRow.holds Try.pinned (OpenSpec.upto pagesRefsSpec)

/-- 'millpondlaw14.PagesFields', WHERE WHAT IT READS IS OF BULK AT MOST 1048576: true; the input reads as it did. -/
def pagesFieldsUptoRow : OpenClaim := { program := "ytbkmfficnnfljaa", sum := "e5b8f0ef352aac18e65b762f135892b9243cedc1d39db50cb34f9c5a09caa300", func := "millpond/millpondlaw14.PagesFields", spec := "pagesFields", unfollowed := true, recurses := true, plainKeys := false, apart := false, narrowed := true }
def PagesFieldsUptoSaid : Prop := pagesFieldsUptoRow.holds Try.pinned (OpenSpec.upto pagesFieldsSpec)

end Rows
end Go.Proofs.Ytbkmfficnnfljaa
