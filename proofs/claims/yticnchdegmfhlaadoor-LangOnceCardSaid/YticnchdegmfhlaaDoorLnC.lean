/- What lang's small functions answer. -/
import Derived.Test.YticnchdegmfhlaaDoorLnB
import Derived.Test.YticnchdegmfhlaaDoorLnK
import Derived.Test.YticnchdegmfhlaaDoorRowQ
import Derived.Test.YticnchdegmfhlaaDoorEqS
set_option maxRecDepth 100000
namespace Go.Mp
open Go Go.Vc Go.Sp Go.Proofs Go.Ct Go.Lg

/-- What lies from one block on, as it lay there. -/
def seg (lo : Nat) (H : Array Obj) : Asn :=
  ⟨fun h F => (∀ b, lo ≤ b → b < H.size → h[b]? = H[b]?) ∧ ∀ x, F x ↔ lo ≤ x ∧ x < H.size, fun hh hl => ⟨fun b h1 h2 => by rw [hl b ((hh.2 b).2 ⟨h1, h2⟩)]; exact hh.1 b h1 h2, hh.2⟩⟩

end Go.Mp
namespace Go.Sp
open Go Go.Vc Go.Mp
variable {E : Env} {L : List Asn} {w : World}

theorem Sep.seg {w' : World} (h : Sep E L w) (g : Grow w w') : Sep E (Mp.seg w.heap.size w'.heap :: L) w' :=
  h.new g (F' := fun x => w.heap.size ≤ x ∧ x < w'.heap.size) ⟨fun _ _ _ => rfl, fun _ => Iff.rfl⟩ (fun _ hb => hb)
theorem Sep.segCell {q lo : Nat} {H : Array Obj} {a : Addr} {v : Value} (h : Sep E L w) (hq : L[q]? = some (Mp.seg lo H)) (hb : lo ≤ a.block) (hc : (hw H).cell? a = some v) : w.cell? a = some v := by
  obtain ⟨_, F, ⟨h1, _⟩, _⟩ := h.fr q hq
  have hlt : a.block < H.size := by
    rcases Nat.lt_or_ge a.block H.size with h' | h'
    · exact h'
    · have : H[a.block]? = none := Array.getElem?_eq_none h'
      simp [World.cell?, hw, this] at hc
  unfold World.cell? at hc ⊢
  rw [h1 _ hb hlt]; exact hc

/-- A piece that is apart from all that was there: it joins what is known of that. -/
theorem Sep.join {A : Asn} {L' : List Asn} {w' : World} {i : Nat} (h : Sep E L w) (h0 : Sep (World.env w) (A :: L') w') (hi : L'[i]? = some (old w.heap)) : Grow w w' ∧ Sep E (A :: L) w' := by
  have g : Grow w w' := grow_old (W := w) (i := i + 1) rfl h0 (by simpa using hi)
  refine ⟨g, ?_⟩
  have h3 := h0.fr (i + 1) (A := old w.heap) (by simpa using hi)
  rw [show (A :: L').eraseIdx (i + 1) = A :: L'.eraseIdx i from rfl] at h3
  obtain ⟨_, F, ⟨_, hF⟩, hF2, G, hG, hG2, _⟩ := h3
  exact h.new g (F' := G) hG (fun b hb => ⟨by
    rcases Nat.lt_or_ge b w.heap.size with h' | h'
    · exact absurd (Or.inr ((hF b).2 h')) (hG2 b hb).2
    · exact h', (hG2 b hb).1⟩)

theorem Sep.above {b i j : Nat} {c : List Value} {H : Array Obj} (h : Sep E L w) (hi : L[i]? = some (blk b c)) (hj : L[j]? = some (old H)) (hij : i ≠ j) : H.size ≤ b := by
  obtain ⟨Fs, g1, g2⟩ := h.heap.fam
  have h1 := (g1 i _ hi).1
  have h2 := (g1 j _ hj).1
  rcases Nat.lt_or_ge b H.size with h' | h'
  · exact absurd ((h2.2 b).2 h') (g2 i j b hij (List.getElem?_eq_some_iff.1 hi).1 (List.getElem?_eq_some_iff.1 hj).1 ((h1.2 b).2 rfl))
  · exact h'

end Go.Sp
namespace Go.Mp
open Go Go.Vc Go.Sp Go.Proofs Go.Ct Go.Lg

variable {E : Env} {L : List Asn} {w : World}

theorem wrapS {k : Nat} (h : k < 4611686018427387904) : IntKind.i64.wrap ((k : Int) + 1) = ((k + 1 : Nat) : Int) := by rw [w64 (by omega) (by omega)]; omega
theorem take_succ {α : Type} {l : List α} {k : Nat} {c : α} (h : l[k]? = some c) : l.take (k + 1) = l.take k ++ [c] := by rw [List.take_add_one, h]; rfl

theorem useP {f : FuncId} {args : Array Value} {K : Value → World → Prop} {Kp : List PanicEntry → World → Prop} {R : Ending → World → Prop} (h : Calls P f args w (RetP K Kp)) (k : ∀ v w', K v w' → R (.returned v) w') (kp : ∀ ch w', Kp ch w' → R (.panicked ch) w') : Calls P f args w R :=
  h.mono fun e w' hh => by
    rcases hh with ⟨v, rfl, hk⟩ | ⟨ch, rfl, hk⟩
    · exact k v w' hk
    · exact kp ch w' hk

def badCh : List PanicEntry := [{ v := .iface 68 (.agg #[]), recovered := false }]

theorem c_must (b : Bool) : Calls P fn_lang_must #[.bool b] w (RetP (fun v w' => b = true ∧ v = .tuple #[] ∧ w' = w) (fun ch w' => b = false ∧ ch = badCh ∧ w' = w)) := by
  apply of_lang_must
  unfold sh_lang_must
  cases b
  · exact bT rfl ⟨rfl, rfl, rfl⟩
  · exact bF rfl ⟨rfl, rfl, rfl⟩
theorem mustI {c : Bool} {A : World → Prop} {B : List PanicEntry → World → Prop} (h1 : c = true → A w) (h2 : c = false → B badCh w) :
    Calls P fn_lang_must #[.bool c] w fun e w' => (e = .returned (.tuple #[]) ∧ A w') ∨ (∃ ch, e = .panicked ch ∧ B ch w') :=
  useP (c_must c) (by rintro v w' ⟨hc, rfl, rfl⟩; exact .inl ⟨rfl, h1 hc⟩) (by rintro ch w' ⟨hc, rfl, rfl⟩; exact .inr ⟨_, rfl, h2 hc⟩)

theorem elB {b n m c : Nat} {f : Addr → Prop} {i : Int} (k : Nat) (hi : i = k) (hk : k < n) (g : f ⟨b, k * m, none⟩) : elAt (Sl.mk (some ⟨b, 0, none⟩) n c).p n i m f := by
  subst hi
  refine ⟨⟨b, 0, none⟩, rfl, ⟨by omega, by omega⟩, ?_⟩
  rw [add_mk, Nat.zero_add, Int.toNat_natCast]; exact g

/-! ### the forms -/

theorem c_row (word : ByteArray) (f : Sl) (h : Sep E L w) : Calls P fn_lang_row #[.string word, .slice f.p f.n f.c] w (Ret fun v w' => v = .agg #[.string word, .slice f.p f.n f.c] ∧ Grow w w' ∧ Sep E L w') := by
  apply of_lang_row
  unfold sh_lang_row
  have h0 := Sep.start w
  refine Al.i h0 (fun b w1 h1 => ?_)
  refine zst _ h1 rfl (fun w2 h2 => ?_)
  have g : Grow w w2 := grow_old (W := w) (i := 1) rfl h2 rfl
  exact ⟨_, h2.cell 0, f, h2.cell 1, rfl, g, h.grow g⟩

structure FormsH (lo : Nat) (H : Array Obj) (s : Sl) : Prop where
  n : s.n = 14
  rd : ∃ b, s.p = some ⟨b, 0, none⟩ ∧ lo ≤ b ∧ ∀ k, k < 14 → (hw H).cell? ⟨b, k * 2, none⟩ = some (.string (Mp.mk (wd k))) ∧ ∃ g, lo ≤ g ∧
    (hw H).cell? ⟨b, k * 2 + 1, none⟩ = some (.slice (some ⟨g, 0, none⟩) (tl k) (tl k)) ∧ ∀ i, i < tl k → (hw H).cell? ⟨g, i, none⟩ = some (.int .i64 (fld k i))

theorem c_forms (h : Sep E L w) : Calls P fn_lang_forms #[] w (Ret fun v w' => ∃ s lo H, v = .slice s.p s.n s.c ∧ FormsH lo H s ∧ Grow w w' ∧ Sep E (seg lo H :: L) w') := by
  apply of_lang_forms
  unfold sh_lang_forms
  have h0 := Sep.start w
  refine Al.i h0 (fun b0 w1 h1 => ?_)
  clear h0
  refine use (c_row _ ⟨some ⟨b0, 0, none⟩, 1, 1⟩ h1) ?_
  clear h1
  rintro _ w2 ⟨rfl, g0, h0⟩
  clear g0 w1
  refine ⟨_, ⟨some ⟨b0, 0, none⟩, 1, 1⟩, rfl, ?_⟩
  refine Al.i h0 (fun b1 w1 h1 => ?_)
  clear h0
  refine use (c_row _ ⟨some ⟨b1, 0, none⟩, 1, 1⟩ h1) ?_
  clear h1
  rintro _ w2 ⟨rfl, g0, h0⟩
  clear g0 w1
  refine ⟨_, ⟨some ⟨b1, 0, none⟩, 1, 1⟩, rfl, ?_⟩
  refine Al.i h0 (fun b2 w1 h1 => ?_)
  clear h0
  refine use (c_row _ ⟨some ⟨b2, 0, none⟩, 3, 3⟩ h1) ?_
  clear h1
  rintro _ w2 ⟨rfl, g0, h0⟩
  clear g0 w1
  refine ⟨_, ⟨some ⟨b2, 0, none⟩, 3, 3⟩, rfl, ?_⟩
  refine Al.i h0 (fun b3 w1 h1 => ?_)
  clear h0
  refine use (c_row _ ⟨some ⟨b3, 0, none⟩, 1, 1⟩ h1) ?_
  clear h1
  rintro _ w2 ⟨rfl, g0, h0⟩
  clear g0 w1
  refine ⟨_, ⟨some ⟨b3, 0, none⟩, 1, 1⟩, rfl, ?_⟩
  refine Al.i h0 (fun b4 w1 h1 => ?_)
  clear h0
  refine use (c_row _ ⟨some ⟨b4, 0, none⟩, 2, 2⟩ h1) ?_
  clear h1
  rintro _ w2 ⟨rfl, g0, h0⟩
  clear g0 w1
  refine ⟨_, ⟨some ⟨b4, 0, none⟩, 2, 2⟩, rfl, ?_⟩
  refine Al.i h0 (fun b5 w1 h1 => ?_)
  clear h0
  refine use (c_row _ ⟨some ⟨b5, 0, none⟩, 3, 3⟩ h1) ?_
  clear h1
  rintro _ w2 ⟨rfl, g0, h0⟩
  clear g0 w1
  refine ⟨_, ⟨some ⟨b5, 0, none⟩, 3, 3⟩, rfl, ?_⟩
  refine Al.i h0 (fun b6 w1 h1 => ?_)
  clear h0
  refine use (c_row _ ⟨some ⟨b6, 0, none⟩, 4, 4⟩ h1) ?_
  clear h1
  rintro _ w2 ⟨rfl, g0, h0⟩
  clear g0 w1
  refine ⟨_, ⟨some ⟨b6, 0, none⟩, 4, 4⟩, rfl, ?_⟩
  refine Al.i h0 (fun b7 w1 h1 => ?_)
  clear h0
  refine use (c_row _ ⟨some ⟨b7, 0, none⟩, 3, 3⟩ h1) ?_
  clear h1
  rintro _ w2 ⟨rfl, g0, h0⟩
  clear g0 w1
  refine ⟨_, ⟨some ⟨b7, 0, none⟩, 3, 3⟩, rfl, ?_⟩
  refine Al.i h0 (fun b8 w1 h1 => ?_)
  clear h0
  refine use (c_row _ ⟨some ⟨b8, 0, none⟩, 2, 2⟩ h1) ?_
  clear h1
  rintro _ w2 ⟨rfl, g0, h0⟩
  clear g0 w1
  refine ⟨_, ⟨some ⟨b8, 0, none⟩, 2, 2⟩, rfl, ?_⟩
  refine Al.i h0 (fun b9 w1 h1 => ?_)
  clear h0
  refine use (c_row _ ⟨some ⟨b9, 0, none⟩, 3, 3⟩ h1) ?_
  clear h1
  rintro _ w2 ⟨rfl, g0, h0⟩
  clear g0 w1
  refine ⟨_, ⟨some ⟨b9, 0, none⟩, 3, 3⟩, rfl, ?_⟩
  refine Al.i h0 (fun b10 w1 h1 => ?_)
  clear h0
  refine use (c_row _ ⟨some ⟨b10, 0, none⟩, 1, 1⟩ h1) ?_
  clear h1
  rintro _ w2 ⟨rfl, g0, h0⟩
  clear g0 w1
  refine ⟨_, ⟨some ⟨b10, 0, none⟩, 1, 1⟩, rfl, ?_⟩
  refine Al.i h0 (fun b11 w1 h1 => ?_)
  clear h0
  refine use (c_row _ ⟨some ⟨b11, 0, none⟩, 1, 1⟩ h1) ?_
  clear h1
  rintro _ w2 ⟨rfl, g0, h0⟩
  clear g0 w1
  refine ⟨_, ⟨some ⟨b11, 0, none⟩, 1, 1⟩, rfl, ?_⟩
  refine Al.i h0 (fun b12 w1 h1 => ?_)
  clear h0
  refine use (c_row _ ⟨some ⟨b12, 0, none⟩, 1, 1⟩ h1) ?_
  clear h1
  rintro _ w2 ⟨rfl, g0, h0⟩
  clear g0 w1
  refine ⟨_, ⟨some ⟨b12, 0, none⟩, 1, 1⟩, rfl, ?_⟩
  refine Al.i h0 (fun b13 w1 h1 => ?_)
  clear h0
  refine use (c_row _ ⟨some ⟨b13, 0, none⟩, 2, 2⟩ h1) ?_
  clear h1
  rintro _ w2 ⟨rfl, g0, h0⟩
  clear g0 w1
  refine ⟨_, ⟨some ⟨b13, 0, none⟩, 2, 2⟩, rfl, ?_⟩
  refine Al.i h0 (fun b w3 h3 => ?_)
  have g : Grow w w3 := grow_old (W := w) (i := 15) rfl h3 rfl
  refine ⟨⟨some ⟨b, 0, none⟩, 14, 14⟩, w.heap.size, w3.heap, rfl, ⟨rfl, b, rfl, h3.above (i := 0) (j := 15) rfl rfl (by decide), ?_⟩, g, h.seg g⟩
  intro k hk
  match k, hk with
  | 0, _ =>
    refine ⟨(h3.cell 0).trans rfl, b0, h3.above (i := 14) (j := 15) rfl rfl (by decide), (h3.cell 1).trans rfl, fun i hi => ?_⟩
    have hi : i < 1 := hi
    match i, hi with
    | 0, _ => exact (h3.cellAt 14 rfl 0).trans rfl
  | 1, _ =>
    refine ⟨(h3.cell 2).trans rfl, b1, h3.above (i := 13) (j := 15) rfl rfl (by decide), (h3.cell 3).trans rfl, fun i hi => ?_⟩
    have hi : i < 1 := hi
    match i, hi with
    | 0, _ => exact (h3.cellAt 13 rfl 0).trans rfl
  | 2, _ =>
    refine ⟨(h3.cell 4).trans rfl, b2, h3.above (i := 12) (j := 15) rfl rfl (by decide), (h3.cell 5).trans rfl, fun i hi => ?_⟩
    have hi : i < 3 := hi
    match i, hi with
    | 0, _ => exact (h3.cellAt 12 rfl 0).trans rfl
    | 1, _ => exact (h3.cellAt 12 rfl 1).trans rfl
    | 2, _ => exact (h3.cellAt 12 rfl 2).trans rfl
  | 3, _ =>
    refine ⟨(h3.cell 6).trans rfl, b3, h3.above (i := 11) (j := 15) rfl rfl (by decide), (h3.cell 7).trans rfl, fun i hi => ?_⟩
    have hi : i < 1 := hi
    match i, hi with
    | 0, _ => exact (h3.cellAt 11 rfl 0).trans rfl
  | 4, _ =>
    refine ⟨(h3.cell 8).trans rfl, b4, h3.above (i := 10) (j := 15) rfl rfl (by decide), (h3.cell 9).trans rfl, fun i hi => ?_⟩
    have hi : i < 2 := hi
    match i, hi with
    | 0, _ => exact (h3.cellAt 10 rfl 0).trans rfl
    | 1, _ => exact (h3.cellAt 10 rfl 1).trans rfl
  | 5, _ =>
    refine ⟨(h3.cell 10).trans rfl, b5, h3.above (i := 9) (j := 15) rfl rfl (by decide), (h3.cell 11).trans rfl, fun i hi => ?_⟩
    have hi : i < 3 := hi
    match i, hi with
    | 0, _ => exact (h3.cellAt 9 rfl 0).trans rfl
    | 1, _ => exact (h3.cellAt 9 rfl 1).trans rfl
    | 2, _ => exact (h3.cellAt 9 rfl 2).trans rfl
  | 6, _ =>
    refine ⟨(h3.cell 12).trans rfl, b6, h3.above (i := 8) (j := 15) rfl rfl (by decide), (h3.cell 13).trans rfl, fun i hi => ?_⟩
    have hi : i < 4 := hi
    match i, hi with
    | 0, _ => exact (h3.cellAt 8 rfl 0).trans rfl
    | 1, _ => exact (h3.cellAt 8 rfl 1).trans rfl
    | 2, _ => exact (h3.cellAt 8 rfl 2).trans rfl
    | 3, _ => exact (h3.cellAt 8 rfl 3).trans rfl
  | 7, _ =>
    refine ⟨(h3.cell 14).trans rfl, b7, h3.above (i := 7) (j := 15) rfl rfl (by decide), (h3.cell 15).trans rfl, fun i hi => ?_⟩
    have hi : i < 3 := hi
    match i, hi with
    | 0, _ => exact (h3.cellAt 7 rfl 0).trans rfl
    | 1, _ => exact (h3.cellAt 7 rfl 1).trans rfl
    | 2, _ => exact (h3.cellAt 7 rfl 2).trans rfl
  | 8, _ =>
    refine ⟨(h3.cell 16).trans rfl, b8, h3.above (i := 6) (j := 15) rfl rfl (by decide), (h3.cell 17).trans rfl, fun i hi => ?_⟩
    have hi : i < 2 := hi
    match i, hi with
    | 0, _ => exact (h3.cellAt 6 rfl 0).trans rfl
    | 1, _ => exact (h3.cellAt 6 rfl 1).trans rfl
  | 9, _ =>
    refine ⟨(h3.cell 18).trans rfl, b9, h3.above (i := 5) (j := 15) rfl rfl (by decide), (h3.cell 19).trans rfl, fun i hi => ?_⟩
    have hi : i < 3 := hi
    match i, hi with
    | 0, _ => exact (h3.cellAt 5 rfl 0).trans rfl
    | 1, _ => exact (h3.cellAt 5 rfl 1).trans rfl
    | 2, _ => exact (h3.cellAt 5 rfl 2).trans rfl
  | 10, _ =>
    refine ⟨(h3.cell 20).trans rfl, b10, h3.above (i := 4) (j := 15) rfl rfl (by decide), (h3.cell 21).trans rfl, fun i hi => ?_⟩
    have hi : i < 1 := hi
    match i, hi with
    | 0, _ => exact (h3.cellAt 4 rfl 0).trans rfl
  | 11, _ =>
    refine ⟨(h3.cell 22).trans rfl, b11, h3.above (i := 3) (j := 15) rfl rfl (by decide), (h3.cell 23).trans rfl, fun i hi => ?_⟩
    have hi : i < 1 := hi
    match i, hi with
    | 0, _ => exact (h3.cellAt 3 rfl 0).trans rfl
  | 12, _ =>
    refine ⟨(h3.cell 24).trans rfl, b12, h3.above (i := 2) (j := 15) rfl rfl (by decide), (h3.cell 25).trans rfl, fun i hi => ?_⟩
    have hi : i < 1 := hi
    match i, hi with
    | 0, _ => exact (h3.cellAt 2 rfl 0).trans rfl
  | 13, _ =>
    refine ⟨(h3.cell 26).trans rfl, b13, h3.above (i := 1) (j := 15) rfl rfl (by decide), (h3.cell 27).trans rfl, fun i hi => ?_⟩
    have hi : i < 2 := hi
    match i, hi with
    | 0, _ => exact (h3.cellAt 1 rfl 0).trans rfl
    | 1, _ => exact (h3.cellAt 1 rfl 1).trans rfl

/-- The forms, where they are kept. -/
theorem FormsH.at_ {lo : Nat} {H : Array Obj} {s : Sl} (F : FormsH lo H s) {k : Nat} (hk : k < 14) {i : Int} (hi : i = k) {f : Addr → Prop}
    (kk : ∀ b g, lo ≤ b → lo ≤ g → (hw H).cell? ⟨b, k * 2, none⟩ = some (.string (Mp.mk (wd k))) → (hw H).cell? ⟨b, k * 2 + 1, none⟩ = some (.slice (some ⟨g, 0, none⟩) (tl k) (tl k)) →
      (∀ i, i < tl k → (hw H).cell? ⟨g, i, none⟩ = some (.int .i64 (fld k i))) → f ⟨b, k * 2, none⟩) : elAt s.p s.n i 2 f := by
  obtain ⟨b, hb, hlo, hr⟩ := F.rd
  obtain ⟨h1, g, hg, h2, h3⟩ := hr k hk
  refine ⟨⟨b, 0, none⟩, hb, ⟨by omega, by rw [F.n]; omega⟩, ?_⟩
  rw [add_mk, Nat.zero_add, hi, Int.toNat_natCast]
  exact kk b g hlo hg h1 h2 h3

theorem c_limits (h : Sep E L w) : Calls P fn_lang_limits #[] w (Ret fun v w' => ∃ b, v = .slice (some ⟨b, 0, none⟩) 5 5 ∧ Grow w w' ∧ Sep E (blk b (strL limits) :: L) w') := by
  apply of_lang_limits
  unfold sh_lang_limits
  refine Al.i (Sep.start w) (fun b w1 h1 => ?_)
  obtain ⟨g, h2⟩ := h.join h1 (i := 0) rfl
  exact ⟨b, rfl, g, h2⟩

/-! ### fields -/

def plc (f : Int) : Nat := if f = 0 then 1 else if f = 1 ∨ f = 4 then 2 else if f = 2 ∨ f = 5 then 3 else 4
theorem plc_fld {k i : Nat} (hi : i < 4) : plc (fld k i) = i + 1 := by
  unfold fld
  by_cases h1 : k = 2 ∧ i = 1
  · rw [if_pos h1, h1.2]; rfl
  · rw [if_neg h1]
    by_cases h2 : k = 2 ∧ i = 2
    · rw [if_pos h2, h2.2]; rfl
    · rw [if_neg h2]
      match i, hi with
      | 0, _ => rfl
      | 1, _ => rfl
      | 2, _ => rfl
      | 3, _ => rfl

theorem c_place (f : Int) (b : Nat) : Calls P fn_lang_field_place #[.int .i64 f, .pointer (some ⟨b, 0, none⟩)] w (Ret fun v w' => v = .pointer (some ⟨b, plc f, none⟩) ∧ w' = w) := by
  apply of_lang_field_place
  unfold sh_lang_field_place plc
  refine bEq (fun e => ⟨_, rfl, by rw [if_pos e]; rfl, rfl⟩) (fun h0 => ?_)
  rw [if_neg h0]
  refine ⟨fun x w' => x = decide (f = 1 ∨ f = 4) ∧ w' = w, ?_, ?_⟩
  · refine bEq (fun e => ⟨by simp [e], rfl⟩) (fun h1 => ⟨?_, rfl⟩)
    by_cases h4 : f = 4 <;> simp [h1, h4]
  · rintro _ x w1 ⟨rfl, rfl⟩
    by_cases h1 : f = 1 ∨ f = 4
    · rw [if_pos h1]
      exact bT (by simpa using h1) ⟨_, rfl, rfl, rfl⟩
    · rw [if_neg h1]
      refine bF (by simpa using h1) ?_
      refine bEq (fun e => ?_) (fun h2 => ?_)
      · rw [if_pos (.inl e)]
        exact bEq (fun _ => ⟨_, rfl, rfl, rfl⟩) (fun hh => absurd e hh)
      · refine bEq (fun e => ⟨_, rfl, by rw [if_pos (.inr e)]; rfl, rfl⟩) (fun h5 => ⟨_, rfl, by rw [if_neg (by omega)]; rfl, rfl⟩)

theorem c_Show {n : Int} (hn : i64 n) (l : Libs w) (h : Sep E L w) : Calls P fn_control_Show #[.int .i64 n] w (Ret fun v w' => v = .string (mk (showB n)) ∧ Grow w w' ∧ Sep E L w') := by
  apply of_control_Show
  unfold sh_control_Show showB
  refine bEq (fun e => ⟨by rw [if_pos e]; rfl, Grow.refl _, h⟩) (fun hne => ?_)
  refine use (c_Itoa hn l h) ?_
  rintro _ w1 ⟨rfl, g, h1⟩
  exact ⟨_, rfl, by rw [if_neg hne], g, h1⟩

theorem c_fshow {f n : Int} (hn : i64 n) (l : Libs w) (h : Sep E L w) : Calls P fn_lang_field_show #[.int .i64 f, .int .i64 n] w
    (RetP (fun v w' => rng f n = true ∧ v = .string (mk (shw f n)) ∧ Grow w w' ∧ Sep E L w') (fun ch w' => rng f n = false ∧ ch = badCh ∧ Grow w w' ∧ Sep E L w')) := by
  apply of_lang_field_show
  unfold sh_lang_field_show rng shw
  refine bEq (fun e4 => ?_) (fun e4 => ?_)
  · simp only [if_pos e4]
    refine ⟨fun w' => 0 ≤ n ∧ n < 5 ∧ Grow w w' ∧ Sep E L w', ?_, ?_⟩
    · refine bLe (fun h0 => ?_) (fun h0 => ?_)
      · refine use (c_limits h) ?_
        rintro _ w1 ⟨b, rfl, g1, h1⟩
        refine ⟨⟨some ⟨b, 0, none⟩, 5, 5⟩, rfl, ?_⟩
        refine mustI (fun hc => ⟨h0, of_decide_eq_true hc, g1, h1.tail⟩) (fun hc => ⟨decide_eq_false (fun hh => ?_), rfl, g1, h1.tail⟩)
        have : ¬ n < 5 := of_decide_eq_false hc
        omega
      · exact mustI (fun hc => by cases hc) (fun _ => ⟨decide_eq_false (fun hh => by omega), rfl, Grow.refl _, h⟩)
    · rintro _ w2 ⟨h0, h5, g2, h2⟩
      refine use (c_limits h2) ?_
      rintro _ w3 ⟨b, rfl, g3, h3⟩
      refine ⟨⟨some ⟨b, 0, none⟩, 5, 5⟩, rfl, ?_⟩
      have hlt : n.toNat < limits.length := by show _ < 5; omega
      refine elB n.toNat (by omega) hlt ?_
      refine ⟨mk (limits.getD n.toNat []), ?_, decide_eq_true ⟨h0, h5⟩, rfl, g2.trans g3, h3.tail⟩
      rw [Nat.mul_one, h3.cell]
      simp [strL, strV, List.getElem?_eq_getElem hlt, List.getD]
  · simp only [if_neg e4]
    refine bEq (fun e5 => ?_) (fun e5 => ?_)
    · simp only [if_pos e5]
      refine bLe (fun h0 => ?_) (fun h0 => ?_)
      · refine mustI (fun hc => ?_) (fun hc => ⟨decide_eq_false (fun hh => ?_), rfl, Grow.refl _, h⟩)
        · have h1 := of_decide_eq_true hc
          refine use (c_Show hn l h) ?_
          rintro _ w1 ⟨rfl, g, h2⟩
          exact ⟨_, rfl, decide_eq_true ⟨h0, h1⟩, rfl, g, h2⟩
        · have := of_decide_eq_false hc
          omega
      · exact mustI (fun hc => by cases hc) (fun _ => ⟨decide_eq_false (fun hh => by omega), rfl, Grow.refl _, h⟩)
    · simp only [if_neg e5]
      refine bLe (fun h0 => ?_) (fun h0 => ?_)
      · refine mustI (fun hc => ?_) (fun hc => ⟨decide_eq_false (fun hh => ?_), rfl, Grow.refl _, h⟩)
        · have h1 := of_decide_eq_true hc
          refine use (c_Itoa hn l h) ?_
          rintro _ w1 ⟨rfl, g, h2⟩
          exact ⟨_, rfl, decide_eq_true ⟨h0, h1⟩, rfl, g, h2⟩
        · have := of_decide_eq_false hc
          omega
      · exact mustI (fun hc => by cases hc) (fun _ => ⟨decide_eq_false (fun hh => by omega), rfl, Grow.refl _, h⟩)

/-! ### operations -/

end Go.Mp
namespace Go.Lg
open Go Go.Ct
def Op.vs (o : Op) : List Value := [.int .i64 o.k, .int .i64 o.a, .int .i64 o.b, .int .i64 o.c, .int .i64 o.d]
def Op.v (o : Op) : Value := .agg #[.int .i64 o.k, .int .i64 o.a, .int .i64 o.b, .int .i64 o.c, .int .i64 o.d]
structure Op.I (o : Op) : Prop where
  k : i64 o.k
  v : ∀ i, i64 (o.val i)

end Go.Lg
namespace Go.Mp
open Go Go.Vc Go.Sp Go.Proofs Go.Ct Go.Lg
variable {E : Env} {L : List Asn} {w : World}
def rightB (o : Lg.Op) : Bool := !(decide (o.k = 2 ∧ o.b = 4 ∧ ¬ o.c ≤ 1))
theorem c_right (o : Lg.Op) (h : Sep E L w) : Calls P fn_lang_right #[o.v] w (RetP (fun v w' => rightB o = true ∧ v = .tuple #[] ∧ Grow w w' ∧ Sep E L w') (fun ch w' => rightB o = false ∧ ch = badCh ∧ Grow w w' ∧ Sep E L w')) := by
  apply of_lang_right
  unfold sh_lang_right rightB
  refine Al.i (Sep.start w) (fun b w1 h1 => ?_)
  have g : Grow w w1 := grow_old (W := w) (i := 1) rfl h1 rfl
  refine ⟨_, h1.cell 0, ?_⟩
  refine bNe (fun hk => mustI (fun _ => ⟨by simp [hk], rfl, g, h.grow g⟩) (fun hc => by cases hc)) (fun hk => ?_)
  refine ⟨_, h1.cell 2, ?_⟩
  refine bNe (fun hb => mustI (fun _ => ⟨by simp [hb], rfl, g, h.grow g⟩) (fun hc => by cases hc)) (fun hb => ?_)
  refine ⟨_, h1.cell 3, ?_⟩
  refine mustI (fun hc => ⟨?_, rfl, g, h.grow g⟩) (fun hc => ⟨?_, rfl, g, h.grow g⟩)
  · have := of_decide_eq_true hc
    simp [this]
  · have := of_decide_eq_false hc
    simp [hk, hb, this]

end Go.Mp
