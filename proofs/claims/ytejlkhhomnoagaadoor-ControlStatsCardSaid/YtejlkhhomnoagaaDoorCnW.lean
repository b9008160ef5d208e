/- The laws of control: what they call. -/
import Derived.Test.YtejlkhhomnoagaaDoorCnT
set_option maxRecDepth 100000
namespace Go.Mp
open Go Go.Vc Go.Sp Go.Proofs Go.Ct

variable {E : Env} {L : List Asn} {w W : World}

theorem Dr.g {f : World → Prop} (k : ∀ w1, Grow w w1 → f w1) : Dr f w := k _ (Grow.drew w)

theorem Strs.blk {b q : Nat} {ns : List Bytes} {c n : Nat} (h : Sep E L w) (hq : L[q]? = some (blk b (strL ns))) (hn : n = ns.length) : Strs w ⟨some ⟨b, 0, none⟩, n, c⟩ ns := by
  refine ⟨hn, fun i x hx => ⟨_, rfl, ?_⟩⟩
  rw [add_mk, h.cellAt q hq, Nat.zero_add]
  simp [strL, hx]
theorem Intz.blk {b q : Nat} {ns : List Int} {c n : Nat} (h : Sep E L w) (hq : L[q]? = some (blk b (intL ns))) (hn : n = ns.length) : Intz w ⟨some ⟨b, 0, none⟩, n, c⟩ ns := by
  refine ⟨hn, fun i x hx => ⟨_, rfl, ?_⟩⟩
  rw [add_mk, h.cellAt q hq, Nat.zero_add]
  simp [intL, hx]

theorem Strs.src {s : Sl} {ns : List Bytes} (h : Strs w s ns) : Src P 1 28 (.slice s.p s.n s.c) ns.length (strL ns) w := by
  obtain ⟨e, ti, z, ht, _⟩ := slQ_of slStr
  have hn := h.n
  have hone : ∀ u ∈ strL ns, u.oneCell' = true := by
    intro u hu
    obtain ⟨x, _, rfl⟩ := List.mem_map.1 hu
    rfl
  cases ns with
  | nil =>
    have hn0 : s.n = 0 := by simpa using hn
    rw [hn0]
    refine ⟨.inl ⟨e, ht⟩, fun w' => by simp [Builtin.lenOf], ?_, ?_, by simp [strL], fun u hu => by cases hu⟩
    · cases s.p with
      | none => exact run_firstCells_none w 1 0 0 s.c
      | some a => exact run_firstCells_some w 1 0 a 0 s.c [] (by simp) (fun j v hj => by simp at hj)
    · cases s.p with
      | none => exact run_firstCells_none w.drew 1 0 0 s.c
      | some a => exact run_firstCells_some w.drew 1 0 a 0 s.c [] (by simp) (fun j v hj => by simp at hj)
  | cons x xs =>
    obtain ⟨a, ha, _⟩ := h.rd 0 x rfl
    rw [ha, hn]
    refine Src.ofSlice w ht a _ _ _ (by simp [strL]) (fun j u hu => ?_) hone
    rw [strL, List.getElem?_map] at hu
    obtain ⟨y, hy, rfl⟩ := Option.map_eq_some_iff.1 hu
    obtain ⟨a', ha', hc⟩ := h.rd j y hy
    have e : a' = a := by rw [ha] at ha'; exact (Option.some.inj ha').symm
    subst e
    exact hc
theorem Intz.src {s : Sl} {ns : List Int} (h : Intz w s ns) : Src P 1 29 (.slice s.p s.n s.c) ns.length (intL ns) w := by
  obtain ⟨e, ti, z, ht, _⟩ := slQ_of slInt
  have hn := h.n
  have hone : ∀ u ∈ intL ns, u.oneCell' = true := by
    intro u hu
    obtain ⟨x, _, rfl⟩ := List.mem_map.1 hu
    rfl
  cases ns with
  | nil =>
    have hn0 : s.n = 0 := by simpa using hn
    rw [hn0]
    refine ⟨.inl ⟨e, ht⟩, fun w' => by simp [Builtin.lenOf], ?_, ?_, by simp [intL], fun u hu => by cases hu⟩
    · cases s.p with
      | none => exact run_firstCells_none w 1 0 0 s.c
      | some a => exact run_firstCells_some w 1 0 a 0 s.c [] (by simp) (fun j v hj => by simp at hj)
    · cases s.p with
      | none => exact run_firstCells_none w.drew 1 0 0 s.c
      | some a => exact run_firstCells_some w.drew 1 0 a 0 s.c [] (by simp) (fun j v hj => by simp at hj)
  | cons x xs =>
    obtain ⟨a, ha, _⟩ := h.rd 0 x rfl
    rw [ha, hn]
    refine Src.ofSlice w ht a _ _ _ (by simp [intL]) (fun j u hu => ?_) hone
    rw [intL, List.getElem?_map] at hu
    obtain ⟨y, hy, rfl⟩ := Option.map_eq_some_iff.1 hu
    obtain ⟨a', ha', hc⟩ := h.rd j y hy
    have e : a' = a := by rw [ha] at ha'; exact (Option.some.inj ha').symm
    subst e
    exact hc

theorem l_over {s : Sl} {ns : List Bytes} (hN : Strs w s ns) : Calls P fn_millpondlaw11_over #[.slice s.p s.n s.c] w (Ret fun v w' => (∃ b, v = .bool b ∧ (b = false → ns.length ≤ 120 ∧ ∀ x ∈ ns, x.length ≤ 120)) ∧ w' = w) := by
  apply of_millpondlaw11_over
  unfold sh_millpondlaw11_over
  have hsn := hN.n
  refine ⟨fun i w' => ∃ k : Nat, i = k ∧ k ≤ ns.length ∧ k ≤ 121 ∧ (∀ (j : Nat) x, j < k → ns[j]? = some x → x.length ≤ 120) ∧ w' = w, fun i _ => (121 - i).toNat, ⟨0, rfl, Nat.zero_le _, by omega, fun j x hj => by omega, rfl⟩, ?_⟩
  rintro _ i w1 ⟨k, rfl, hk, hk2, hall, rfl⟩
  refine ⟨fun w' => k < ns.length ∧ k ≤ 120 ∧ w' = w1, ?_, ?_⟩
  · refine bLt (fun hlt => ?_) (fun hge => ?_)
    · refine bLe (fun hle => ⟨by omega, by omega, rfl⟩) (fun hgt => ?_)
      exact ⟨⟨_, rfl, fun hh => by simp at hh; omega⟩, rfl⟩
    · refine ⟨⟨_, rfl, fun hh => ⟨by simp at hh; omega, fun x hx => ?_⟩⟩, rfl⟩
      obtain ⟨j, hj⟩ := List.mem_iff_getElem?.1 hx
      exact hall j x (by have := (List.getElem?_eq_some_iff.1 hj).1; omega) hj
  · rintro _ w2 ⟨hlt, hle, rfl⟩
    obtain ⟨x, hx⟩ : ∃ x, ns[k]? = some x := ⟨_, List.getElem?_eq_getElem (by omega)⟩
    refine hN.el k rfl hx ?_
    rw [mk_size]
    refine bGt (fun hgt => ⟨⟨_, rfl, fun hh => by cases hh⟩, rfl⟩) (fun hle2 => ?_)
    rw [wrapS (by omega)]
    refine ⟨⟨k + 1, rfl, by omega, by omega, fun j y hj hy => ?_, rfl⟩, by dsimp only; omega⟩
    by_cases hjk : j = k
    · subst hjk; rw [hx] at hy; rw [← Option.some.inj hy]; omega
    · exact hall j y (by omega) hy

theorem list_ext_below {α : Type} {xs ys : List α} (hl : xs.length = ys.length) (h : ∀ j, j < xs.length → xs[j]? = ys[j]?) : xs = ys := by
  apply List.ext_getElem?
  intro j
  by_cases hj : j < xs.length
  · exact h j hj
  · rw [List.getElem?_eq_none (by omega), List.getElem?_eq_none (by omega)]

theorem l_texts {a b : Sl} {xs ys : List Bytes} (hx : Strs w a xs) (hy : Strs w b ys) (hb : xs.length < 4611686018427387904) (h : Sep E L w) : Calls P fn_millpondlaw11_texts #[.slice a.p a.n a.c, .slice b.p b.n b.c] w (Ret fun v w' => v = .bool (decide (xs = ys)) ∧ Grow w w' ∧ Sep E L w') := by
  apply of_millpondlaw11_texts
  unfold sh_millpondlaw11_texts
  have hxn := hx.n
  have hyn := hy.n
  refine bNe (fun hne => ⟨by rw [decide_eq_false (fun e => hne (by rw [hxn, hyn, e]))], Grow.refl _, h⟩) (fun heq => ?_)
  refine ⟨fun i w' => ∃ k : Nat, i = k ∧ k ≤ xs.length ∧ (∀ j, j < k → xs[j]? = ys[j]?) ∧ Grow w w', fun i _ => (xs.length - i).toNat, ⟨0, rfl, Nat.zero_le _, fun j hj => by omega, Grow.refl _⟩, ?_⟩
  rintro _ i w1 ⟨k, rfl, hk, hall, g1⟩
  refine bLt (fun hlt => ?_) (fun hge => ?_)
  · refine Dr.g (fun w2 g2 => ?_)
    have g := g1.trans g2
    obtain ⟨x, hx'⟩ : ∃ x, xs[k]? = some x := ⟨_, List.getElem?_eq_getElem (by omega)⟩
    obtain ⟨y, hy'⟩ : ∃ x, ys[k]? = some x := ⟨_, List.getElem?_eq_getElem (by omega)⟩
    refine (hx.grow g).el k rfl hx' ?_
    refine (hy.grow g).el k rfl hy' ?_
    refine bSn (fun hne => ⟨?_, g, h.grow g⟩) (fun he => ?_)
    · rw [decide_eq_false]
      intro e
      subst e
      rw [hx'] at hy'
      exact hne (by rw [Option.some.inj hy'])
    · rw [bs_mk, bs_mk] at he
      rw [wrapS (by omega)]
      refine ⟨⟨k + 1, rfl, by omega, fun j hj => ?_, g⟩, by dsimp only; omega⟩
      by_cases hjk : j = k
      · subst hjk; rw [hx', hy', he]
      · exact hall j (by omega)
  · refine ⟨?_, g1, h.grow g1⟩
    rw [decide_eq_true]
    exact list_ext_below (by omega) (fun j hj => hall j (by omega))

theorem l_row {a b : Sl} {xs ys : List Int} (hx : Intz w a xs) (hy : Intz w b ys) (hb : xs.length < 4611686018427387904) (h : Sep E L w) : Calls P fn_millpondlaw11_row #[.slice a.p a.n a.c, .slice b.p b.n b.c] w (Ret fun v w' => v = .bool (decide (xs = ys)) ∧ Grow w w' ∧ Sep E L w') := by
  apply of_millpondlaw11_row
  unfold sh_millpondlaw11_row
  have hxn := hx.n
  have hyn := hy.n
  refine bNe (fun hne => ⟨by rw [decide_eq_false (fun e => hne (by rw [hxn, hyn, e]))], Grow.refl _, h⟩) (fun heq => ?_)
  refine ⟨fun i w' => ∃ k : Nat, i = k ∧ k ≤ xs.length ∧ (∀ j, j < k → xs[j]? = ys[j]?) ∧ Grow w w', fun i _ => (xs.length - i).toNat, ⟨0, rfl, Nat.zero_le _, fun j hj => by omega, Grow.refl _⟩, ?_⟩
  rintro _ i w1 ⟨k, rfl, hk, hall, g1⟩
  refine bLt (fun hlt => ?_) (fun hge => ?_)
  · refine Dr.g (fun w2 g2 => ?_)
    have g := g1.trans g2
    obtain ⟨x, hx'⟩ : ∃ x, xs[k]? = some x := ⟨_, List.getElem?_eq_getElem (by omega)⟩
    obtain ⟨y, hy'⟩ : ∃ x, ys[k]? = some x := ⟨_, List.getElem?_eq_getElem (by omega)⟩
    refine (hx.grow g).el k rfl hx' ?_
    refine (hy.grow g).el k rfl hy' ?_
    refine bNe (fun hne => ⟨?_, g, h.grow g⟩) (fun he => ?_)
    · rw [decide_eq_false]
      intro e
      subst e
      rw [hx'] at hy'
      exact hne (Option.some.inj hy')
    · rw [wrapS (by omega)]
      refine ⟨⟨k + 1, rfl, by omega, fun j hj => ?_, g⟩, by dsimp only; omega⟩
      by_cases hjk : j = k
      · subst hjk; rw [hx', hy', he]
      · exact hall j (by omega)
  · refine ⟨?_, g1, h.grow g1⟩
    rw [decide_eq_true]
    exact list_ext_below (by omega) (fun j hj => hall j (by omega))

/-! ### the document's example -/

def exN : List Bytes := [[97, 110, 111, 110], [102, 105, 108, 101, 95, 49]]
def exV : List Int := [5, -7]
def exT : Bytes := [97, 110, 111, 110, 32, 53, 10, 102, 105, 108, 101, 95, 49, 32, 45, 55, 10]
theorem ex_ok : statOk exN exV := ⟨rfl, by decide, by decide, by decide⟩
theorem ex_i : ∀ v ∈ exV, i64 v := by
  intro v hv
  have : v = 5 ∨ v = -7 := by simpa [exV] using hv
  unfold i64; omega
theorem ex_text : render (exN.zip exV) = exT := by
  have h5 : Lib.itoa 5 = [53] := by
    unfold Lib.itoa; rw [if_neg (by decide)]
    show Lib.decDigits 5 = _
    rw [dec_small (by omega)]; rfl
  have h7 : Lib.itoa (-7) = [45, 55] := by
    unfold Lib.itoa; rw [if_pos (by decide)]
    show 45 :: Lib.decDigits 7 = _
    rw [dec_small (by omega)]; rfl
  show line ([97, 110, 111, 110], 5) ++ (line ([102, 105, 108, 101, 95, 49], -7) ++ []) = exT
  unfold line
  rw [h5, h7]; rfl
theorem ex_parse : parse exT = some (exN.zip exV) := parse_eq (Ok.of_stat ex_ok ex_i) ex_text
theorem ex_read : Ct.read fMax [52, 75, 10] = (2, 4096, 0) := by decide

theorem l_works (l : Libs W) (h : Sep (World.env W) [old W.heap] w) : Calls P fn_millpondlaw11_works #[] w (Ret fun v w' => v = .bool true ∧ Sep (World.env W) [old W.heap] w') := by
  apply of_millpondlaw11_works
  unfold sh_millpondlaw11_works
  refine use (c_Read _ _ (by show 3 < _; omega) h) ?_
  rintro _ w1 ⟨rfl, h1⟩
  refine ⟨_, _, _, rfl, ?_⟩
  have er : Ct.read (bs (ByteArray.mk #[109, 101, 109, 111, 114, 121, 46, 109, 97, 120])) (bs (ByteArray.mk #[52, 75, 10])) = (2, 4096, 0) := ex_read
  simp only [er]
  refine Al.i h1 (fun b w2 h2 => ?_)
  refine Al.i h2 (fun b2 w3 h3 => ?_)
  have hl3 := l.old (i := 2) rfl h3
  have hS : Strs w3 ⟨some ⟨b, 0, none⟩, 2, 2⟩ exN := Strs.blk (q := 1) h3 rfl rfl
  have hI : Intz w3 ⟨some ⟨b2, 0, none⟩, 2, 2⟩ exV := Intz.blk (q := 0) h3 rfl rfl
  have hb1 : ∀ s ∈ exN, s.length < 1000000 := by decide
  have hb2 : exN.length < 4611686018427387904 := by decide
  have hc := c_Stat hl3 hS hI ex_i hb1 hb2 h3
  refine use hc ?_
  rintro v w4 ⟨hv, g4, h4⟩
  obtain rfl : v = .tuple #[.string (mk exT), .int .i64 0] := by
    unfold StatEnd at hv
    rw [stat_some ex_ok, ex_text] at hv
    rw [hv]; rfl
  refine ⟨mk exT, 0, rfl, ?_⟩
  refine use (c_Parse (i := 2) rfl l _ (by show 17 < _; omega) h4) ?_
  rintro v w5 ⟨s1, s2, hv, hn1, hn2, h5⟩
  have hp : parse (bs (mk exT)) = some (exN.zip exV) := ex_parse
  rw [hp] at hv hn1 hn2 h5
  obtain rfl : v = .tuple #[.slice s1.p s1.n s1.c, .slice s2.p s2.n s2.c, .int .i64 0] := by rw [hv]; rfl
  refine ⟨s1, s2, 0, rfl, ?_⟩
  have hz : exN.zip exV = [([97, 110, 111, 110], 5), ([102, 105, 108, 101, 95, 49], -7)] := rfl
  have e1 : s1.n = 2 := hn1
  have e2 : s2.n = 2 := hn2
  refine bT (by decide) (bT (by decide) (bT (by decide) (bS (fun _ => ?_) (fun hh => absurd rfl hh))))
  refine bT (by decide) ?_
  refine bEq (fun _ => ?_) (fun hh => absurd (by rw [e1]; rfl) hh)
  refine bEq (fun _ => ?_) (fun hh => absurd (by rw [e2]; rfl) hh)
  have hI2 : Intz w5 s2 exV := Intz.row (q := 1) h5 rfl e2
  refine hI2.el 1 rfl (x := -7) rfl ?_
  refine bT (by decide) (bT (by decide) ?_)
  refine use (c_Show (n := 1099511627776) ⟨by omega, by omega⟩ (l.old (i := 4) rfl h5) h5) ?_
  rintro _ w6 ⟨rfl, _, h6⟩
  refine ⟨_, rfl, bS (fun _ => ?_) (fun hh => absurd rfl hh)⟩
  refine use (c_Word _ (by show 3 < _; omega)) ?_
  rintro _ w7 ⟨rfl, rfl⟩
  refine ⟨_, rfl, ?_, h6.ro 5 [4] rfl⟩
  have : word (bs (ByteArray.mk #[97, 95, 49])) = true := by decide
  rw [this]

end Go.Mp
