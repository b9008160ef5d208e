/- The closed facts of a row, piece by piece: each in a declaration of its own (the kernel's memory). -/
import Derived.JoinedOf
namespace Go
def jfA (P : Program) (fn : Func) (s : ChangeSpec) (c : OpenClaim) : Bool :=
  c.wf (OpenSpec.ofChange s) && laidOutB P && mapsRowed P && fn.params.all (P.readableRec ·) && namedTie P c.named s.vars
def jfB (P : Program) (f : FuncId) (c : OpenClaim) : Bool :=
  (c.stops == []) && (P.stops == []) && (c.knobs == []) && (P.stopKnobs == []) && (c.inPlace == P.inPlace f)
def jfC (P : Program) (f : FuncId) (c : OpenClaim) : Bool := c.unfollowed == P.unfollowed f
def jfD (P : Program) (f : FuncId) (c : OpenClaim) : Bool := c.recurses == P.recurses f
def jfE (P : Program) (f : FuncId) (c : OpenClaim) : Bool := c.named == P.varsNamed f
def jfF (P : Program) (fn : Func) (s : ChangeSpec) (c : OpenClaim) : Bool :=
  (c.maps == (fn.params.toList ++ s.plain.varTypes P).any (P.mapsRec ·)) && (c.ifaces == (fn.params.toList ++ s.plain.varTypes P).any (P.ifacesRec ·)) && (c.mapsOut == P.mapsAmong fn.resultTypes.toList) &&
  (c.loops == (fn.params.toList ++ s.plain.varTypes P).any (P.loopsFrom ·)) && (c.wideKeys == (fn.params.toList ++ s.plain.varTypes P ++ fn.resultTypes.toList).any (P.wideKeysFrom ·))
def jfG (P : Program) (fn : Func) (s : ChangeSpec) (c : OpenClaim) : Bool :=
  s.vars.all (P.varReadable ·) && fn.resultTypes.all (fun t => P.readableRec t && decide (t < P.types.size)) && (c.ifacesOut == fn.resultTypes.toList.any (P.ifacesRec ·)) && (c.loopsOut == fn.resultTypes.toList.any (P.loopsFrom ·)) && (c.plainKeys == P.plainKeys) && c.shortTexts.isNone
def jfH (P : Program) (c : OpenClaim) : Bool := P.stopsHeard && P.mayEnter && (c.lifted == P.liftsFinal) && (P.make == some c.make)
def jfI (P : Program) (fn : Func) (s : ChangeSpec) (c : OpenClaim) : Bool :=
  (c.kinds == (if c.domain.isEmpty then [] else fn.params.toList.map fun t => match P.underlying t with | some (.int k) => some k | _ => none)) && (c.pinned == c.pinnedBy) &&
  (c.veiled == (fn.params.toList ++ s.plain.varTypes P ++ fn.resultTypes.toList).any (P.veiledRec ·)) && c.veiledFits P fn.params.toList (fn.params.toList ++ s.plain.varTypes P ++ fn.resultTypes.toList)
theorem joined_of {P : Program} {f : FuncId} {fn : Func} {s : ChangeSpec} {c : OpenClaim} (hA : jfA P fn s c = true) (hB : jfB P f c = true) (hC : jfC P f c = true) (hD : jfD P f c = true) (hE : jfE P f c = true) (hF : jfF P fn s c = true) (hG : jfG P fn s c = true) (hH : jfH P c = true) (hI : jfI P fn s c = true) :
    joinedFacts P f fn s c = true := by
  unfold jfA at hA
  unfold jfB at hB
  unfold jfC at hC
  unfold jfD at hD
  unfold jfE at hE
  unfold jfF at hF
  unfold jfG at hG
  unfold jfH at hH
  unfold jfI at hI
  unfold joinedFacts
  simp only [Bool.and_eq_true] at hA hB hF hG hH hI ⊢
  obtain ⟨⟨⟨⟨a1, a2⟩, a3⟩, a4⟩, a5⟩ := hA
  obtain ⟨⟨⟨⟨b1, b2⟩, b3⟩, b4⟩, b5⟩ := hB
  obtain ⟨⟨⟨⟨f1, f2⟩, f3⟩, f4⟩, f5⟩ := hF
  obtain ⟨⟨⟨⟨⟨g1, g2⟩, g3⟩, g4⟩, g5⟩, g6⟩ := hG
  obtain ⟨⟨⟨h1, h2⟩, h3⟩, h4⟩ := hH
  obtain ⟨⟨⟨i1, i2⟩, i3⟩, i4⟩ := hI
  exact ⟨⟨⟨⟨⟨⟨⟨⟨⟨⟨⟨⟨⟨⟨⟨⟨⟨⟨⟨⟨⟨⟨⟨⟨⟨⟨⟨⟨⟨⟨⟨a1, a2⟩, a3⟩, a4⟩, a5⟩, b1⟩, b2⟩, b3⟩, b4⟩, b5⟩, hC⟩, hD⟩, hE⟩, f1⟩, f2⟩, f3⟩, f4⟩, f5⟩, g1⟩, g2⟩, g3⟩, g4⟩, g5⟩, g6⟩, h1⟩, h2⟩, h3⟩, h4⟩, i1⟩, i2⟩, i3⟩, i4⟩
end Go
