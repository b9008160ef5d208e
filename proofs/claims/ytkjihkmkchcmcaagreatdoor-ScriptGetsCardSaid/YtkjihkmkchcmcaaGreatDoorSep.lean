/- Lists of owned pieces of the heap. What is not listed is let go; what is listed is apart from all the others. -/
import Derived.Test.YtkjihkmkchcmcaaGreatDoorVcG
namespace Go.Sp
open Go Go.Vc

/-- A piece: what holds of a heap, and which blocks it owns. -/
structure Asn where
  holds : Array Obj → (Nat → Prop) → Prop
  loc : ∀ {h h' : Array Obj} {F : Nat → Prop}, holds h F → (∀ b, F b → h'[b]? = h[b]?) → holds h' F

def SepH : List Asn → Array Obj → (Nat → Prop) → Prop
  | [], _, _ => True
  | A :: L, h, U => ∃ F, A.holds h F ∧ (∀ b, F b → b < h.size ∧ ¬ U b) ∧ SepH L h (fun b => U b ∨ F b)

structure Env where
  os : Os
  tape : Nat → Question → Nat
  output : Array (Nat × ByteArray)

def World.env (w : World) : Env := ⟨w.os, w.tape, w.output⟩

structure Sep (E : Env) (L : List Asn) (w : World) : Prop where
  env : World.env w = E
  heap : SepH L w.heap (fun _ => False)

/-! ### making pieces -/

def emp : Asn := ⟨fun _ F => ∀ b, ¬ F b, fun h _ => h⟩

/-- Nothing of it is frozen. -/
def thaw (z : Nat × Nat) (n : Nat) : Prop := ∀ o, o < n → ¬ (z.1 ≤ o ∧ o < z.2)

def blk (b : Nat) (c : List Value) : Asn :=
  ⟨fun h F => (∃ t z, h[b]? = some (.cells c.toArray t z) ∧ thaw z c.length) ∧ ∀ x, F x ↔ x = b, fun hh hl => ⟨by rw [hl b ((hh.2 b).2 rfl)]; exact hh.1, hh.2⟩⟩

def mapB (b : Nat) (es : Array MapEntry) (ck : Nat) : Asn :=
  ⟨fun h F => h[b]? = some (.map es ck) ∧ ∀ x, F x ↔ x = b, fun hh hl => ⟨by rw [hl b ((hh.2 b).2 rfl)]; exact hh.1, hh.2⟩⟩

def objB (b : Nat) (o : Obj) : Asn :=
  ⟨fun h F => h[b]? = some o ∧ ∀ x, F x ↔ x = b, fun hh hl => ⟨by rw [hl b ((hh.2 b).2 rfl)]; exact hh.1, hh.2⟩⟩

/-- All that lay in a heap lies so. -/
def old (H : Array Obj) : Asn :=
  ⟨fun h F => (∀ b, b < H.size → h[b]? = H[b]?) ∧ ∀ x, F x ↔ x < H.size, fun hh hl => ⟨fun b hb => by rw [hl b ((hh.2 b).2 hb)]; exact hh.1 b hb, hh.2⟩⟩

def pur (p : Prop) (A : Asn) : Asn := ⟨fun h F => p ∧ A.holds h F, fun hh hl => ⟨hh.1, A.loc hh.2 hl⟩⟩

def exA {α : Sort _} (f : α → Asn) : Asn := ⟨fun h F => ∃ x, (f x).holds h F, fun ⟨x, hx⟩ hl => ⟨x, (f x).loc hx hl⟩⟩

def star (A B : Asn) : Asn :=
  ⟨fun h F => ∃ F1 F2, A.holds h F1 ∧ B.holds h F2 ∧ (∀ b, F1 b → ¬ F2 b) ∧ ∀ b, F b ↔ F1 b ∨ F2 b,
   fun ⟨F1, F2, h1, h2, h3, h4⟩ hl => ⟨F1, F2, A.loc h1 (fun b hb => hl b ((h4 b).2 (.inl hb))), B.loc h2 (fun b hb => hl b ((h4 b).2 (.inr hb))), h3, h4⟩⟩

/-! ### the lists -/

theorem SepH.weaken : ∀ {L : List Asn} {h : Array Obj} {U V : Nat → Prop}, SepH L h U → (∀ b, V b → U b) → SepH L h V
  | [], _, _, _, _, _ => trivial
  | _ :: _, _, _, _, ⟨F, h1, h2, h3⟩, hv => ⟨F, h1, fun b hb => ⟨(h2 b hb).1, fun hvb => (h2 b hb).2 (hv b hvb)⟩, h3.weaken (fun b hb => hb.elim (fun x => .inl (hv b x)) .inr)⟩

theorem SepH.swap {A B : Asn} {L : List Asn} {h : Array Obj} {U : Nat → Prop} : SepH (A :: B :: L) h U → SepH (B :: A :: L) h U := by
  rintro ⟨F, h1, h2, G, h3, h4, h5⟩
  refine ⟨G, h3, fun b hb => ⟨(h4 b hb).1, fun hu => (h4 b hb).2 (.inl hu)⟩, F, h1, fun b hb => ⟨(h2 b hb).1, ?_⟩, h5.weaken ?_⟩
  · rintro (hu | hg)
    · exact (h2 b hb).2 hu
    · exact (h4 b hg).2 (.inr hb)
  · rintro b ((hu | hg) | hf)
    · exact .inl (.inl hu)
    · exact .inr hg
    · exact .inl (.inr hf)

theorem SepH.cons {A : Asn} {L L' : List Asn} {h : Array Obj} {U : Nat → Prop} (hl : ∀ U, SepH L h U → SepH L' h U) : SepH (A :: L) h U → SepH (A :: L') h U :=
  fun ⟨F, h1, h2, h3⟩ => ⟨F, h1, h2, hl _ h3⟩

theorem SepH.drop {A : Asn} {L : List Asn} {h : Array Obj} {U : Nat → Prop} : SepH (A :: L) h U → SepH L h U :=
  fun ⟨_, _, _, h3⟩ => h3.weaken (fun _ hb => .inl hb)

theorem SepH.front {A : Asn} {h : Array Obj} : ∀ {L : List Asn} {L2 : List Asn} {U : Nat → Prop}, SepH (L ++ A :: L2) h U → SepH (A :: (L ++ L2)) h U
  | [], _, _, hh => hh
  | _ :: _, _, _, hh => (SepH.cons (fun _ h => SepH.front h) hh).swap

/-- Some of the pieces, in another order. -/
theorem SepH.perm {h : Array Obj} {L L' : List Asn} (hp : L.Perm L') : ∀ {U : Nat → Prop}, SepH L h U → SepH L' h U := by
  induction hp with
  | nil => exact id
  | cons A _ ih => exact fun hh => hh.cons (fun _ h => ih h)
  | swap A B L => exact SepH.swap
  | trans _ _ ih1 ih2 => exact fun hh => ih2 (ih1 hh)

theorem SepH.append_left {h : Array Obj} : ∀ {L L' : List Asn} {U : Nat → Prop}, SepH (L ++ L') h U → SepH L h U
  | [], _, _, _ => trivial
  | _ :: _, _, _, ⟨F, h1, h2, h3⟩ => ⟨F, h1, h2, h3.append_left⟩

/-- The pieces of these numbers, in this order; each number once. -/
def pickL (L : List Asn) : List Nat → List Asn
  | [] => []
  | i :: is => match L[i]? with
    | some A => A :: pickL L is
    | none => pickL L is

def okIdx : List Nat → Bool
  | [] => true
  | i :: is => !is.contains i && okIdx is

/-- The footprints, by numbers. -/
theorem SepH.fam {h : Array Obj} : ∀ {L : List Asn} {U : Nat → Prop}, SepH L h U → ∃ Fs : Nat → Nat → Prop,
    (∀ (i : Nat) (A : Asn), L[i]? = some A → A.holds h (Fs i) ∧ ∀ b, Fs i b → b < h.size ∧ ¬ U b) ∧ ∀ i j b, i ≠ j → i < L.length → j < L.length → Fs i b → ¬ Fs j b
  | [], _, _ => ⟨fun _ _ => False, fun i A hi => by simp at hi, fun _ _ _ _ hi => by simp at hi⟩
  | B :: L, U, ⟨F, h1, h2, h3⟩ => by
    obtain ⟨Fs, g1, g2⟩ := SepH.fam h3
    refine ⟨fun i => match i with | 0 => F | i + 1 => Fs i, ?_, ?_⟩
    · intro i A hi
      cases i with
      | zero => simp only [List.getElem?_cons_zero, Option.some.injEq] at hi; subst hi; exact ⟨h1, h2⟩
      | succ i =>
        have := g1 i A (by simpa using hi)
        exact ⟨this.1, fun b hb => ⟨(this.2 b hb).1, fun hu => (this.2 b hb).2 (.inl hu)⟩⟩
    · intro i j b hij hi hj hb hb'
      cases i with
      | zero =>
        cases j with
        | zero => exact hij rfl
        | succ j =>
          have hjl : j < L.length := by simpa using hj
          have := (g1 j L[j] (List.getElem?_eq_getElem hjl)).2 b hb'
          exact this.2 (.inr hb)
      | succ i =>
        cases j with
        | zero =>
          have hil : i < L.length := by simpa using hi
          have := (g1 i L[i] (List.getElem?_eq_getElem hil)).2 b hb
          exact this.2 (.inr hb')
        | succ j => exact g2 i j b (fun e => hij (by rw [e])) (by simpa using hi) (by simpa using hj) hb hb'

theorem SepH.of_fam {h : Array Obj} {L : List Asn} {Fs : Nat → Nat → Prop} (g1 : ∀ (i : Nat) (A : Asn), L[i]? = some A → A.holds h (Fs i) ∧ ∀ b, Fs i b → b < h.size)
    (g2 : ∀ i j b, i ≠ j → i < L.length → j < L.length → Fs i b → ¬ Fs j b) : ∀ (is : List Nat) (U : Nat → Prop), okIdx is = true → (∀ b i, i ∈ is → i < L.length → Fs i b → ¬ U b) → SepH (pickL L is) h U
  | [], _, _, _ => trivial
  | i :: is, U, hok, hU => by
    simp only [okIdx, Bool.and_eq_true, Bool.not_eq_true'] at hok
    have hni : i ∉ is := by simpa using hok.1
    unfold pickL
    cases hi : L[i]? with
    | none => exact SepH.of_fam g1 g2 is U hok.2 (fun b j hj hjl hb => hU b j (List.mem_cons_of_mem _ hj) hjl hb)
    | some A =>
      have hil : i < L.length := by
        rcases Nat.lt_or_ge i L.length with h' | h'
        · exact h'
        · simp [List.getElem?_eq_none h'] at hi
      refine ⟨Fs i, (g1 i A hi).1, fun b hb => ⟨(g1 i A hi).2 b hb, hU b i (List.mem_cons_self ..) hil hb⟩, ?_⟩
      refine SepH.of_fam g1 g2 is _ hok.2 (fun b j hj hjl hb hu => ?_)
      rcases hu with hu | hu
      · exact hU b j (List.mem_cons_of_mem _ hj) hjl hb hu
      · exact g2 i j b (fun e => hni (e ▸ hj)) hil hjl hu hb

theorem SepH.fr {h : Array Obj} {A : Asn} : ∀ (L : List Asn) (i : Nat) {U : Nat → Prop}, L[i]? = some A → SepH L h U → SepH (A :: L.eraseIdx i) h U
  | [], i, _, hi, _ => by simp at hi
  | B :: L, 0, _, hi, hh => by simp only [List.getElem?_cons_zero, Option.some.injEq] at hi; subst hi; exact hh
  | B :: L, i + 1, _, hi, hh => (hh.cons fun _ h => SepH.fr L i (by simpa using hi) h).swap

section
variable {E : Env} {L : List Asn} {w : World}

/-- Some of the pieces, by their numbers. -/
theorem Sep.re (h : Sep E L w) (is : List Nat) (hok : okIdx is = true) : Sep E (pickL L is) w := by
  obtain ⟨Fs, g1, g2⟩ := h.heap.fam
  exact ⟨h.env, SepH.of_fam (fun i A hi => ⟨(g1 i A hi).1, fun b hb => ((g1 i A hi).2 b hb).1⟩) g2 is _ hok (fun _ _ _ _ _ => id)⟩

theorem okIdx_nodup : ∀ {is : List Nat}, okIdx is = true → is.Nodup
  | [], _ => List.nodup_nil
  | i :: is, h => by
    simp only [okIdx, Bool.and_eq_true, Bool.not_eq_true'] at h
    exact List.nodup_cons.2 ⟨by simpa using h.1, okIdx_nodup h.2⟩
theorem nodup_okIdx : ∀ {is : List Nat}, is.Nodup → okIdx is = true
  | [], _ => rfl
  | i :: is, h => by
    have := List.nodup_cons.1 h
    simp only [okIdx, Bool.and_eq_true, Bool.not_eq_true']
    exact ⟨by simpa using this.1, nodup_okIdx this.2⟩
theorem pickL_cons (L : List Asn) (i : Nat) (is : List Nat) : pickL L (i :: is) = (match L[i]? with | some A => A :: pickL L is | none => pickL L is) := rfl
theorem pickL_append (L : List Asn) : ∀ (is js : List Nat), pickL L (is ++ js) = pickL L is ++ pickL L js
  | [], _ => rfl
  | i :: is, js => by
    rw [List.cons_append, pickL_cons, pickL_cons, pickL_append L is js]
    cases L[i]? <;> rfl
theorem pickL_rest (L : List Asn) : ∀ (k n : Nat), n + k = L.length → pickL L (List.range' n k) = L.drop n
  | 0, n, h => by simp [pickL, List.drop_of_length_le (show L.length ≤ n by omega)]
  | k + 1, n, h => by
    rw [List.range'_succ]
    unfold pickL
    rw [List.getElem?_eq_getElem (by omega), pickL_rest L k (n + 1) (by omega)]
    exact (List.drop_eq_getElem_cons (by omega)).symm

def allLt (n : Nat) : List Nat → Bool
  | [] => true
  | i :: is => Nat.blt i n && allLt n is
theorem allLt_of {n : Nat} : ∀ {is : List Nat}, allLt n is = true → ∀ i ∈ is, i < n
  | [], _, i, h => by cases h
  | j :: is, hh, i, h => by
    simp only [allLt, Bool.and_eq_true, Nat.blt_eq] at hh
    rcases List.mem_cons.1 h with rfl | h
    · exact hh.1
    · exact allLt_of hh.2 i h

/-- The first pieces in another order; what comes behind stays. -/
theorem Sep.ro (h : Sep E L w) (n : Nat) (is : List Nat) (hok : (okIdx is && allLt n is) = true) : Sep E (pickL L is ++ L.drop n) w := by
  simp only [Bool.and_eq_true] at hok
  rcases Nat.lt_or_ge L.length n with hl | hl
  · have := h.re is hok.1
    rw [List.drop_of_length_le (by omega), List.append_nil]; exact this
  · have := h.re (is ++ List.range' n (L.length - n)) (nodup_okIdx (List.nodup_append.2 ⟨okIdx_nodup hok.1, List.nodup_range', fun a ha b hb => by
      have h1 := allLt_of hok.2 a ha
      have h2 := (List.mem_range'_1.1 hb).1
      omega⟩))
    rw [pickL_append, pickL_rest L _ n (by omega)] at this
    exact this

theorem Sep.perm {L' : List Asn} (h : Sep E L w) (hp : L.Perm L') : Sep E L' w := ⟨h.env, h.heap.perm hp⟩
theorem Sep.swap {A B : Asn} (h : Sep E (A :: B :: L) w) : Sep E (B :: A :: L) w := ⟨h.env, h.heap.swap⟩
/-- One piece to the front. -/
theorem Sep.fr (h : Sep E L w) (i : Nat) {A : Asn} (hi : L[i]? = some A) : Sep E (A :: L.eraseIdx i) w := ⟨h.env, SepH.fr L i hi h.heap⟩
theorem Sep.tail {A : Asn} (h : Sep E (A :: L) w) : Sep E L w := ⟨h.env, h.heap.drop⟩
theorem Sep.left {L' : List Asn} (h : Sep E (L ++ L') w) : Sep E L w := ⟨h.env, h.heap.append_left⟩

theorem Sep.star {A B : Asn} : Sep E (star A B :: L) w ↔ Sep E (A :: B :: L) w := by
  constructor
  · rintro ⟨he, F, ⟨F1, F2, h1, h2, h3, h4⟩, h5, h6⟩
    refine ⟨he, F1, h1, fun b hb => h5 b ((h4 b).2 (.inl hb)), F2, h2, fun b hb => ⟨(h5 b ((h4 b).2 (.inr hb))).1, ?_⟩, h6.weaken ?_⟩
    · rintro (hu | hu)
      · exact hu
      · exact h3 b hu hb
    · rintro b ((hu | hu) | hu)
      · exact .inl hu
      · exact .inr ((h4 b).2 (.inl hu))
      · exact .inr ((h4 b).2 (.inr hu))
  · rintro ⟨he, F1, h1, h2, F2, h3, h4, h5⟩
    refine ⟨he, fun b => F1 b ∨ F2 b, ⟨F1, F2, h1, h3, fun b hb hb' => (h4 b hb').2 (.inr hb), fun _ => Iff.rfl⟩, fun b hb => ?_, h5.weaken ?_⟩
    · rcases hb with hb | hb
      · exact h2 b hb
      · exact ⟨(h4 b hb).1, fun hu => hu⟩
    · rintro b (hu | hu | hu)
      · exact hu.elim
      · exact .inl (.inr hu)
      · exact .inr hu

theorem Sep.ex {α : Sort _} {f : α → Asn} : Sep E (exA f :: L) w ↔ ∃ x, Sep E (f x :: L) w := by
  constructor
  · rintro ⟨he, F, ⟨x, hx⟩, h2, h3⟩; exact ⟨x, he, F, hx, h2, h3⟩
  · rintro ⟨x, he, F, hx, h2, h3⟩; exact ⟨he, F, ⟨x, hx⟩, h2, h3⟩

theorem Sep.pur {p : Prop} {A : Asn} : Sep E (pur p A :: L) w ↔ p ∧ Sep E (A :: L) w := by
  constructor
  · rintro ⟨he, F, ⟨hp, hx⟩, h2, h3⟩; exact ⟨hp, he, F, hx, h2, h3⟩
  · rintro ⟨hp, he, F, hx, h2, h3⟩; exact ⟨he, F, ⟨hp, hx⟩, h2, h3⟩

theorem Sep.emp : Sep E (emp :: L) w ↔ Sep E L w := by
  constructor
  · exact Sep.tail
  · rintro ⟨he, h⟩; exact ⟨he, fun _ => False, fun _ h => h, fun _ h => h.elim, h.weaken (fun _ hb => hb.elim id id)⟩

/-- What lies in a block that is owned. -/
theorem Sep.block {b : Nat} {c : List Value} (h : Sep E (blk b c :: L) w) : ∃ t z, w.heap[b]? = some (.cells c.toArray t z) ∧ thaw z c.length := by
  obtain ⟨_, F, ⟨h1, _⟩, _⟩ := h; exact h1
theorem Sep.mapBlock {b : Nat} {es : Array MapEntry} {ck : Nat} (h : Sep E (mapB b es ck :: L) w) : w.heap[b]? = some (.map es ck) := by
  obtain ⟨_, F, ⟨h1, _⟩, _⟩ := h; exact h1
theorem Sep.objBlock {b : Nat} {o : Obj} (h : Sep E (objB b o :: L) w) : w.heap[b]? = some o := by
  obtain ⟨_, F, ⟨h1, _⟩, _⟩ := h; exact h1
theorem Sep.oldBlock {H : Array Obj} (h : Sep E (old H :: L) w) (b : Nat) (hb : b < H.size) : w.heap[b]? = H[b]? := by
  obtain ⟨_, F, ⟨h1, _⟩, _⟩ := h; exact h1 b hb

theorem Sep.cell {b : Nat} {c : List Value} (h : Sep E (blk b c :: L) w) (o : Nat) : w.cell? ⟨b, o, none⟩ = c[o]? := by
  obtain ⟨t, z, hz, _⟩ := h.block
  simp [World.cell?, hz]

theorem Sep.cellAt {b : Nat} {c : List Value} (i : Nat) (hi : L[i]? = some (blk b c)) (h : Sep E L w) (o : Nat) : w.cell? ⟨b, o, none⟩ = c[o]? := by
  obtain ⟨Fs, g1, _⟩ := h.heap.fam
  obtain ⟨t, z, hz, _⟩ := (g1 i _ hi).1.1
  simp [World.cell?, hz]

/-- A heap that is another one in one block that is owned. -/
theorem SepH.change {A A' : Asn} {F F' : Nat → Prop} {h h' : Array Obj} (hsz : h.size ≤ h'.size) (hold : ∀ b, b < h.size → ¬ F b → h'[b]? = h[b]?) (hA' : A'.holds h' F') (hF' : ∀ b, F' b → b < h'.size ∧ (F b ∨ h.size ≤ b)) :
    ∀ {L : List Asn} {U : Nat → Prop}, (∀ b, F b → U b) → (∀ b, U b → b < h.size) → SepH L h U → SepH L h' (fun b => U b ∨ F' b)
  | [], _, _, _, _ => trivial
  | B :: L, U, hFU, hU, ⟨G, h1, h2, h3⟩ => by
    refine ⟨G, B.loc h1 (fun b hb => hold b (h2 b hb).1 (fun hf => (h2 b hb).2 (hFU b hf))), fun b hb => ⟨Nat.lt_of_lt_of_le (h2 b hb).1 hsz, ?_⟩, ?_⟩
    · rintro (hu | hf)
      · exact (h2 b hb).2 hu
      · rcases (hF' b hf).2 with hf | hf
        · exact (h2 b hb).2 (hFU b hf)
        · exact absurd (h2 b hb).1 (Nat.not_lt.2 hf)
    · have := SepH.change (A := A) hsz hold hA' hF' (L := L) (U := fun b => U b ∨ G b) (fun b hb => .inl (hFU b hb)) (fun b hb => hb.elim (hU b) (fun hg => (h2 b hg).1)) h3
      exact this.weaken (fun b hb => by
        rcases hb with (hb | hb) | hb
        · exact .inl (.inl hb)
        · exact .inr hb
        · exact .inl (.inr hb))

theorem Sep.change {A A' : Asn} {w' : World} (h : Sep E (A :: L) w) (henv : World.env w' = World.env w) (hsz : w.heap.size ≤ w'.heap.size)
    (hch : ∀ F, A.holds w.heap F → (∀ b, F b → b < w.heap.size) → (∀ b, b < w.heap.size → ¬ F b → w'.heap[b]? = w.heap[b]?) ∧ ∃ F', A'.holds w'.heap F' ∧ ∀ b, F' b → b < w'.heap.size ∧ (F b ∨ w.heap.size ≤ b)) :
    Sep E (A' :: L) w' := by
  obtain ⟨he, F, h1, h2, h3⟩ := h
  obtain ⟨hold, F', hA', hF'⟩ := hch F h1 (fun b hb => (h2 b hb).1)
  refine ⟨henv.trans he, F', hA', fun b hb => ⟨(hF' b hb).1, fun hu => hu⟩, ?_⟩
  have := SepH.change (A := A) hsz hold hA' hF' (L := L) (U := fun b => False ∨ F b) (fun b hb => .inr hb) (fun b hb => hb.elim False.elim (fun hf => (h2 b hf).1)) h3
  exact this.weaken (fun b hb => by
    rcases hb with hb | hb
    · exact hb.elim
    · exact .inr hb)

/-- The world has grown. -/
theorem Sep.grow {w' : World} (h : Sep E L w) (g : Grow w w') : Sep E L w' := by
  have h1 : Sep E (Sp.emp :: L) w := Sep.emp.2 h
  refine Sep.emp.1 (h1.change (A' := Sp.emp) ?_ g.size (fun F hF _ => ⟨fun b hb _ => g.heap b hb, F, hF, fun b hb => (hF b hb).elim⟩))
  simp [World.env, g.os, g.tape, g.output]

theorem Sep.drew (h : Sep E L w) : Sep E L w.drew := h.grow (Grow.drew w)

/-- Something new. -/
theorem Sep.new {A' : Asn} {w' : World} (h : Sep E L w) (g : Grow w w') {F' : Nat → Prop} (hA' : A'.holds w'.heap F') (hF' : ∀ b, F' b → w.heap.size ≤ b ∧ b < w'.heap.size) : Sep E (A' :: L) w' := by
  have h1 : Sep E (Sp.emp :: L) w := Sep.emp.2 h
  refine h1.change (A' := A') ?_ g.size (fun F hF _ => ⟨fun b hb _ => g.heap b hb, F', hA', fun b hb => ⟨(hF' b hb).2, .inr (hF' b hb).1⟩⟩)
  simp [World.env, g.os, g.tape, g.output]

theorem heap_alloc (w : World) (o : Obj) : (w.alloc o).heap[w.heap.size]? = some o := by
  show (w.heap.push o)[w.heap.size]? = some o; simp
theorem size_alloc (w : World) (o : Obj) : (w.alloc o).heap.size = w.heap.size + 1 := by
  show (w.heap.push o).size = _; simp

theorem Sep.alloc (h : Sep E L w) (c : Array Value) (t : TypeId) : Sep E (blk w.heap.size c.toList :: L) (w.alloc (.cells c t)) :=
  h.new (Grow.alloc w _) (F' := fun x => x = w.heap.size) ⟨⟨t, (0, 0), heap_alloc w _, fun _ _ h => by omega⟩, fun _ => Iff.rfl⟩ (fun b hb => by subst hb; rw [size_alloc]; omega)
theorem Sep.allocZ (h : Sep E L w) (c : Array Value) (t : TypeId) (z : Nat × Nat) (hz : thaw z c.size) : Sep E (blk w.heap.size c.toList :: L) (w.alloc (.cells c t z)) :=
  h.new (Grow.alloc w _) (F' := fun x => x = w.heap.size) ⟨⟨t, z, heap_alloc w _, hz⟩, fun _ => Iff.rfl⟩ (fun b hb => by subst hb; rw [size_alloc]; omega)
theorem Sep.allocM (h : Sep E L w) (es : Array MapEntry) (ck : Nat) : Sep E (mapB w.heap.size es ck :: L) (w.alloc (.map es ck)) :=
  h.new (Grow.alloc w _) (F' := fun x => x = w.heap.size) ⟨heap_alloc w _, fun _ => Iff.rfl⟩ (fun b hb => by subst hb; rw [size_alloc]; omega)
theorem Sep.allocO (h : Sep E L w) (o : Obj) : Sep E (objB w.heap.size o :: L) (w.alloc o) :=
  h.new (Grow.alloc w _) (F' := fun x => x = w.heap.size) ⟨heap_alloc w _, fun _ => Iff.rfl⟩ (fun b hb => by subst hb; rw [size_alloc]; omega)

/-- A store into a block that is owned. -/
theorem Sep.okCell {b : Nat} {c : List Value} (h : Sep E (blk b c :: L) w) {o : Nat} (ho : o < c.length) : Vc.okCell w ⟨b, o, none⟩ := by
  refine ⟨⟨c[o], ?_⟩, ?_⟩
  · rw [h.cell o]; simp [ho]
  · obtain ⟨t, z, hz, ht⟩ := h.block
    simpa [World.frozen?, hz] using ht o ho

theorem Sep.setCell {b : Nat} {c : List Value} (h : Sep E (blk b c :: L) w) (o : Nat) (v : Value) : Sep E (blk b (c.set o v) :: L) (w.setCell ⟨b, o, none⟩ v) := by
  obtain ⟨t, z, hb, ht⟩ := h.block
  refine h.change rfl (by simp [World.setCell]) (fun F hF hlt => ⟨fun x _ hx => ?_, F, ⟨?_, hF.2⟩, fun x hx => ⟨?_, .inl hx⟩⟩)
  · have : b ≠ x := fun e => hx ((hF.2 x).2 e.symm)
    simp [World.setCell, Array.getElem?_modify, this]
  · exact ⟨t, z, by simp [World.setCell, Array.getElem?_modify, hb], by simpa using ht⟩
  · simpa [World.setCell] using hlt x hx

/-! ### the rules at the VC's nodes -/

theorem St.i {b : Nat} {c : List Value} {v : Value} {f : World → Prop} (h : Sep E (blk b c :: L) w) {o : Nat} (ho : o < c.length)
    (k : ∀ w1, Sep E (blk b (c.set o v) :: L) w1 → f w1) : St ⟨b, o, none⟩ v f w := ⟨h.okCell ho, k _ (h.setCell o v)⟩

theorem Al.i {c : Array Value} {t : TypeId} {f : Addr → World → Prop} (h : Sep E L w) (k : ∀ b w1, Sep E (blk b c.toList :: L) w1 → f ⟨b, 0, none⟩ w1) : Al (.cells c t) f w := k _ _ (h.alloc c t)
theorem AlM.i {f : Nat → World → Prop} (h : Sep E L w) (k : ∀ b w1, Sep E (mapB b #[] 0 :: L) w1 → f b w1) : AlM f w := k _ _ (h.allocM _ _)
theorem Dr.i {f : World → Prop} (h : Sep E L w) (k : ∀ w1, Sep E L w1 → f w1) : Dr f w := k _ h.drew
theorem DrG.i {f : World → Prop} (h : Sep E L w) (k : ∀ w1, Sep E L w1 → f w1) : DrG f w := fun _ g => k _ (h.grow g)

/-- Several pieces as one. -/
def starL : List Asn → Asn
  | [] => emp
  | A :: As => star A (starL As)

theorem Sep.starL : ∀ {As : List Asn} {L : List Asn}, Sep E (starL As :: L) w ↔ Sep E (As ++ L) w
  | [], _ => Sep.emp
  | A :: As, L => by
    refine Sep.star.trans ⟨fun h => ?_, fun h => ?_⟩
    · have h1 := Sep.starL.1 h.swap
      exact ⟨h1.env, SepH.front h1.heap⟩
    · refine Sep.swap (Sep.starL.2 (h.perm ?_))
      exact (List.perm_middle).symm

end
end Go.Sp
