/- The laws of lang. -/
import Derived.Test.YticnchdegmfhlaaDoorLnV
set_option maxRecDepth 100000
namespace Go.Mp
open Go Go.Vc Go.Sp Go.Proofs Go.Ct Go.Lg

variable {E : Env} {L : List Asn} {w W : World}

/-! ### the document's example -/

theorem it0 : Lib.itoa 0 = [48] := by
  unfold Lib.itoa; rw [if_neg (by decide)]
  show Lib.decDigits 0 = _
  rw [dec_small (by omega)]; rfl
theorem it1 : Lib.itoa 1 = [49] := by
  unfold Lib.itoa; rw [if_neg (by decide)]
  show Lib.decDigits 1 = _
  rw [dec_small (by omega)]; rfl
theorem it20 : Lib.itoa 20 = [50, 48] := by
  unfold Lib.itoa; rw [if_neg (by decide)]
  show Lib.decDigits 20 = _
  rw [dec_big (by omega), dec_small (by omega)]; rfl

def e1 : Lg.Op := ⟨2, 1, 2, 1099511627776, 0⟩
def e2 : Lg.Op := ⟨8, 0, 20, 0, 0⟩
def t1 : Bytes := [108, 105, 109, 105, 116, 32, 49, 32, 109, 97, 120, 32, 109, 97, 120]
def t2 : Bytes := [108, 111, 97, 100, 32, 48, 32, 50, 48]
theorem e1_ok : Lg.Ok e1 := by
  refine ⟨by decide, by decide, fun i hi => ?_, fun i hi hi4 => ?_, fun _ h => absurd h (by decide)⟩
  · have hi : i < 3 := hi
    match i, hi with
    | 0, _ => decide
    | 1, _ => decide
    | 2, _ => decide
  · have hi : 3 ≤ i := hi
    have : i = 3 := by omega
    subst this; rfl
theorem e2_ok : Lg.Ok e2 := by
  refine ⟨by decide, by decide, fun i hi => ?_, fun i hi hi4 => ?_, fun h => absurd h (by decide)⟩
  · have hi : i < 2 := hi
    match i, hi with
    | 0, _ => decide
    | 1, _ => decide
  · have hi : 2 ≤ i := hi
    match i, hi4 with
    | 2, _ => rfl
    | 3, _ => rfl
theorem e1_text : text e1 = t1 := by
  show Lib.join [wd 2, Lib.itoa 1, [109, 97, 120], maxB] [32] = t1
  rw [it1]; rfl
theorem e2_text : text e2 = t2 := by
  show Lib.join [wd 8, Lib.itoa 0, Lib.itoa 20] [32] = t2
  rw [it0, it20]; rfl
theorem ex_parse : Lg.parse [35, 32, 120, 10, 10, 108, 105, 109, 105, 116, 32, 49, 32, 109, 97, 120, 32, 109, 97, 120, 10, 108, 111, 97, 100, 32, 48, 32, 50, 48, 10] = .inr [e1, e2] := by
  have h1 : ([35, 32, 120, 10, 10, 108, 105, 109, 105, 116, 32, 49, 32, 109, 97, 120, 32, 109, 97, 120, 10, 108, 111, 97, 100, 32, 48, 32, 50, 48, 10] : Bytes) = [35, 32, 120] ++ 10 :: ([] ++ 10 :: (t1 ++ 10 :: (t2 ++ 10 :: []))) := rfl
  unfold Lg.parse
  rw [h1, go_skip (by decide) (by decide), go_skip (by decide) (by decide), go_read (o := e1) (by decide) (by decide) (by decide) (readO_eq e1_ok e1_text),
    go_read (o := e2) (by decide) (by decide) (by decide) (readO_eq e2_ok e2_text), go_end (by decide)]
  rfl
theorem ex_print : printO [e1, e2] = some [108, 105, 109, 105, 116, 32, 49, 32, 109, 97, 120, 32, 109, 97, 120, 10, 108, 111, 97, 100, 32, 48, 32, 50, 48, 10] := by
  rw [printO_some (fun o ho => by
    rcases List.mem_cons.1 ho with rfl | ho
    · exact e1_ok
    · rw [List.mem_singleton.1 ho]; exact e2_ok) (by decide)]
  rw [printT_cons, printT_cons, printT_nil, e1_text, e2_text]; rfl
theorem ex_bad : Lg.parse [108, 111, 97, 100, 32, 48, 10] = .inl 1 := by
  have h1 : ([108, 111, 97, 100, 32, 48, 10] : Bytes) = [108, 111, 97, 100, 32, 48] ++ 10 :: [] := rfl
  unfold Lg.parse
  rw [h1]
  refine go_bad (by decide) (by decide) (.inr (readO_none (fun p hp e => ?_)))
  have hs : sp 32 ([108, 111, 97, 100, 32, 48] : Bytes) = [[108, 111, 97, 100], [48]] := by decide
  have hk : p.kd = 8 := wd_of hp e (k := 8) (by omega) (by rw [hs]; rfl)
  have hl := hp.len
  rw [e, hs, hk] at hl
  exact absurd hl (by decide)

theorem lineE {o : Lg.Op} {v : Value} (h : LineEnd o v) {s : Bytes} {e : Int} (hs : (lineO o).getD [] = s) (he : (if (lineO o).isSome then 0 else 1) = e) : v = .tuple #[.string (mk s), .int .i64 e] := by
  subst hs he; exact h
theorem printE {l : List Lg.Op} {v : Value} (h : PrintEnd l v) {s : Bytes} {e : Int} (hs : (printO l).getD [] = s) (he : (if (printO l).isSome then 0 else 1) = e) : v = .tuple #[.string (mk s), .int .i64 e] := by
  subst hs he; exact h

theorem l_works (l : Libs W) (h : Sep E L W) : Calls P fn_millpondlaw21_works #[] W (Ret fun v w' => v = .bool true ∧ Grow W w' ∧ Sep E L w') := by
  apply of_millpondlaw21_works
  unfold sh_millpondlaw21_works
  refine use (c_Line (o := e1) (ok_I e1_ok) l h) ?_
  rintro v w1 ⟨hv, g1, h1⟩
  obtain rfl := lineE hv (s := t1) (e := 0) (by rw [lineO_some e1_ok, e1_text]; rfl) (by rw [lineO_some e1_ok]; rfl)
  refine ⟨_, _, rfl, ?_⟩
  refine use (c_Parse _ (by show 31 < _; omega) (l.grow g1) h1) ?_
  rintro v w2 ⟨⟨x, e, n, rfl, hx⟩, g2, h2⟩
  have hx : match Lg.parse [35, 32, 120, 10, 10, 108, 105, 109, 105, 116, 32, 49, 32, 109, 97, 120, 32, 109, 97, 120, 10, 108, 111, 97, 100, 32, 48, 32, 50, 48, 10] with
    | .inl no => e = 20 ∧ n = (no : Nat) ∧ x = ⟨none, 0, 0⟩
    | .inr l => e = 0 ∧ n = 0 ∧ Ops w2 x l := hx
  rw [ex_parse] at hx
  obtain ⟨rfl, rfl, hO⟩ := hx
  refine ⟨x, _, _, rfl, ?_⟩
  have g2' := g1.trans g2
  refine use (c_Print hO (fun o ho => by
    rcases List.mem_cons.1 ho with rfl | ho
    · exact ok_I e1_ok
    · rw [List.mem_singleton.1 ho]; exact ok_I e2_ok) (l.grow g2') h2) ?_
  rintro v w3 ⟨hv, g3, h3⟩
  obtain rfl := printE hv (e := 0) (by rw [ex_print]) (by rw [ex_print]; rfl)
  refine ⟨_, _, rfl, ?_⟩
  have g3' := g2'.trans g3
  refine use (c_Parse _ (by show 7 < _; omega) (l.grow g3') h3) ?_
  rintro v w4 ⟨⟨y, e, n, rfl, hy⟩, g4, h4⟩
  have hy : match Lg.parse [108, 111, 97, 100, 32, 48, 10] with
    | .inl no => e = 20 ∧ n = (no : Nat) ∧ y = ⟨none, 0, 0⟩
    | .inr l => e = 0 ∧ n = 0 ∧ Ops w4 y l := hy
  rw [ex_bad] at hy
  obtain ⟨rfl, rfl, rfl⟩ := hy
  refine ⟨⟨none, 0, 0⟩, _, _, rfl, ?_⟩
  refine use (c_Words h4) ?_
  rintro _ w5 ⟨z, rfl, hz, g5, h5⟩
  refine ⟨z, rfl, ?_⟩
  have g5' := (g3'.trans g4).trans g5
  have hO5 := hO.grow ((g3.trans g4).trans g5)
  have hn : x.n = 2 := hO.n
  refine bS (fun _ => ?_) (fun hh => absurd rfl hh)
  refine bT (by decide) ?_
  refine bEq (fun _ => ?_) (fun hh => absurd (by rw [hn]; rfl) hh)
  refine hO5.at_ 1 rfl (o := e2) rfl (fun a ha => ?_)
  refine ⟨_, ha 2 _ rfl, ?_⟩
  refine bT (by decide) (bT (by decide) (bT (by decide) ?_))
  refine bS (fun _ => ?_) (fun hh => absurd rfl hh)
  refine bT (by decide) (bT (by decide) (bT (by decide) ?_))
  refine bEq (fun _ => ?_) (fun hh => absurd (by rw [hz]; rfl) hh)
  refine elS 0 h5 rfl hz 8 rfl (by decide) (fun a ha => ?_)
  refine ⟨_, ha 0 h5 rfl, ?_, g5', h5.tail⟩
  rw [beq_bs, bs_mk]
  rfl

/-! ### the laws -/

/-- A law's end. -/
def End (W : World) (v : Value) (w' : World) : Prop := v = .bool true ∧ ∃ (L : List Asn) (i : Nat), L[i]? = some (old W.heap) ∧ Sep (World.env W) L w'
theorem End.of {i : Nat} (h : Sep (World.env W) L w) (hi : L[i]? = some (old W.heap)) : End W (.bool true) w := ⟨rfl, L, i, hi, h⟩

theorem law_Prints {s : Sl} {l : List Lg.Op} {o : Lg.Op} (hO : Ops W s l) (hI : ∀ o ∈ l, Lg.Op.I o) (hoI : Lg.Op.I o) (lib : Libs W) :
    Calls P fn_millpondlaw21_LangPrints #[.slice s.p s.n s.c, o.v] W (Ret fun v w' => End W v w') := by
  apply of_millpondlaw21_LangPrints
  unfold sh_millpondlaw21_LangPrints
  have hsn := hO.n
  have fin : ∀ {w' : World} {L' : List Asn} {i : Nat}, Sep (World.env W) L' w' → L'[i]? = some (old W.heap) → Grow W w' := fun hh hi => grow_old rfl hh hi
  refine Al.i (Sep.start W) (fun p1 w1 h1 => ?_)
  have h1 : Sep (World.env W) [blk p1 o.vs, old W.heap] w1 := h1
  refine use (l_works (lib.old (i := 1) rfl h1) h1) ?_
  rintro _ w2 ⟨rfl, _, h2⟩
  refine ⟨_, rfl, bifF ?_⟩
  refine ⟨fun w' => Sep (World.env W) [blk p1 o.vs, old W.heap] w', ?_, ?_⟩
  · exact bGt (fun _ => bLe (fun _ => End.of (i := 1) h2 rfl) (fun _ => h2)) (fun _ => h2)
  rintro _ w3 h3
  have g3 := fin (i := 1) h3 rfl
  refine use (c_Print (hO.grow g3) hI (lib.grow g3) h3) ?_
  rintro v w4 ⟨hv4, _, h4⟩
  refine ⟨mk ((printO l).getD []), (if (printO l).isSome then 0 else 1), by rw [hv4], ?_⟩
  have g4 := fin (i := 1) h4 rfl
  refine use (r_Print (hO.grow g4) h4) ?_
  rintro v w5 ⟨hv5, _, h5⟩
  refine ⟨mk ((printO l).getD []), (if (printO l).isSome then 0 else 1), by rw [hv5], ?_⟩
  refine ⟨_, h5.cell 0, _, h5.cell 1, _, h5.cell 2, _, h5.cell 3, _, h5.cell 4, ?_⟩
  refine use (c_Line hoI (lib.old (i := 1) rfl h5) h5) ?_
  rintro v w6 ⟨hv6, _, h6⟩
  refine ⟨mk ((lineO o).getD []), (if (lineO o).isSome then 0 else 1), by rw [hv6], ?_⟩
  refine ⟨_, h6.cell 0, _, h6.cell 1, _, h6.cell 2, _, h6.cell 3, _, h6.cell 4, ?_⟩
  refine use (r_Line o h6) ?_
  rintro _ w7 ⟨rfl, _, h7⟩
  refine ⟨_, rfl, ?_⟩
  refine ⟨fun x w' => x = (if (lineO o).isSome then 0 else 1) ∧ Sep (World.env W) [blk p1 o.vs, old W.heap] w', ?_, ?_⟩
  · by_cases hok : Lg.Ok o
    · rw [lineO_some hok]
      exact bS (fun e => absurd e (text_ne hok)) (fun _ => ⟨rfl, h7⟩)
    · rw [lineO_none hok]
      exact bS (fun _ => ⟨rfl, h7⟩) (fun hh => absurd rfl hh)
  rintro _ x w8 ⟨rfl, h8⟩
  refine use (c_Words h8) ?_
  rintro _ w9 ⟨z, rfl, hz, _, h9⟩
  refine ⟨z, rfl, ?_⟩
  refine use (r_Words h9) ?_
  rintro _ w10 ⟨bw, rfl, _, h10⟩
  refine ⟨⟨some ⟨bw, 0, none⟩, 14, 14⟩, rfl, ?_⟩
  refine ⟨fun x w' => ∃ j : Nat, x = j ∧ j ≤ 14 ∧ Sep (World.env W) [blk bw (strL words), rowA z 1 (strL words), blk p1 o.vs, old W.heap] w', fun x _ => (14 - x).toNat, ⟨0, rfl, by omega, h10⟩, ?_⟩
  rintro _ x w11 ⟨j, rfl, hj, h11⟩
  refine bLt (fun hlt => ?_) (fun hge => ?_)
  · have hlt : j < 14 := by
      have : (j : Int) < ((14 : Nat) : Int) := hlt
      omega
    refine Dr.i h11 (fun w12 h12 => ?_)
    refine elS 1 h12 rfl hz j rfl hlt (fun a ha => ?_)
    refine ⟨_, ha 1 h12 rfl, ?_⟩
    refine elB j rfl hlt ?_
    refine ⟨_, by rw [Nat.mul_one]; exact (h12.cell j).trans (strL_at hlt), ?_⟩
    refine bSn (fun hh => absurd rfl hh) (fun _ => ?_)
    rw [wrapS (by omega)]
    exact ⟨⟨j + 1, rfl, by omega, h12⟩, by dsimp only; omega⟩
  · refine bT rfl ?_
    refine bS (fun _ => ?_) (fun hh => absurd rfl hh)
    refine bEq (fun _ => ?_) (fun hh => absurd rfl hh)
    refine bS (fun _ => ?_) (fun hh => absurd rfl hh)
    rw [beq_self_eq_true]
    exact End.of (i := 3) h11 rfl

theorem ops_nil : Ops w ⟨none, 0, 0⟩ [] := ⟨rfl, fun i o ho => by simp at ho⟩

theorem parse_len {t : Bytes} {l : List Lg.Op} (h : Lg.parse t = .inr l) : (∀ o ∈ l, Lg.Ok o) ∧ l.length ≤ 1000 := let ⟨h1, h2, _⟩ := parse_want h; ⟨h1, h2⟩

theorem law_Parses (text : ByteArray) (lib : Libs W) : Calls P fn_millpondlaw21_LangParses #[.string text] W (Ret fun v w' => End W v w') := by
  apply of_millpondlaw21_LangParses
  unfold sh_millpondlaw21_LangParses
  refine use (l_works lib (Sep.start W)) ?_
  rintro _ w1 ⟨rfl, g1, h1⟩
  refine ⟨_, rfl, bifF ?_⟩
  rw [← bs_len]
  refine bGt (fun _ => End.of (i := 0) h1 rfl) (fun hle => ?_)
  refine use (c_Parse text (by omega) (lib.grow g1) h1) ?_
  rintro _ w2 ⟨⟨x, e, n, rfl, hx⟩, g2, h2⟩
  refine ⟨x, e, n, rfl, ?_⟩
  refine use (r_Parse text (by omega) h2) ?_
  rintro _ w3 ⟨⟨y, e', n', rfl, hy⟩, g3, h3⟩
  refine ⟨y, e', n', rfl, bT rfl ?_⟩
  have key : e = e' ∧ n = n' ∧ ∃ l : List Lg.Op, l.length ≤ 1000 ∧ Ops w3 x l ∧ Ops w3 y l := by
    cases hp : Lg.parse (bs text) with
    | inl no =>
      rw [hp] at hx hy
      obtain ⟨rfl, rfl, rfl⟩ := hx
      obtain ⟨rfl, rfl, rfl⟩ := hy
      exact ⟨rfl, rfl, [], by simp, ops_nil, ops_nil⟩
    | inr l =>
      rw [hp] at hx hy
      obtain ⟨rfl, rfl, hx⟩ := hx
      obtain ⟨rfl, rfl, hy⟩ := hy
      exact ⟨rfl, rfl, l, (parse_len hp).2, hx.grow g3, hy⟩
  obtain ⟨rfl, rfl, l, hl, hx3, hy3⟩ := key
  refine use (c_same hx3 hy3 (by omega) h3) ?_
  rintro _ w4 ⟨⟨r, rfl, hr⟩, _, h4⟩
  refine ⟨r, rfl, bT (hr.2 rfl) ?_⟩
  refine bEq (fun _ => ?_) (fun hh => absurd rfl hh)
  rw [beq_self_eq_true]
  exact End.of (i := 0) h4 rfl

end Go.Mp
