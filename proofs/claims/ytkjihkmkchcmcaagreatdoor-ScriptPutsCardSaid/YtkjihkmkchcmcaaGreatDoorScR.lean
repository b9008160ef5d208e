/- What the document's answer is: operations as bytes. -/
import Derived.Test.YtkjihkmkchcmcaaGreatDoorScD
set_option maxRecDepth 100000
namespace Go.Scr
open Go.Lib Go.Ct
/-- A number's bytes; none, where it can't be written. -/
def encB (n : Int) : Bytes := if num n = true then enc n.toNat else []
def codeB (o : Op) : Bytes := if okB o = true then code o else []
theorem encB_len (n : Int) : (encB n).length ≤ 3 := by
  unfold encB
  split
  · next h =>
    have := num_of h
    exact (enc_len _ (by omega)).2
  · simp
theorem encB_nil {n : Int} : encB n = [] ↔ num n = false := by
  unfold encB
  split
  · next h => exact ⟨fun e => absurd e (enc_ne _), fun e => by rw [e] at h; cases h⟩
  · next h => exact ⟨fun _ => by simpa using h, fun _ => rfl⟩
theorem codeB_len (o : Op) : (codeB o).length ≤ 13 := by
  unfold codeB
  split
  · next h => exact (code_len ((okB_iff o).1 h)).2
  · simp
theorem codeB_nil {o : Op} : codeB o = [] ↔ okB o = false := by
  unfold codeB
  split
  · next h => exact ⟨fun e => absurd e (code_ne _), fun e => by rw [e] at h; cases h⟩
  · next h => exact ⟨fun _ => by simpa using h, fun _ => rfl⟩
/-- A number at the head, whether it has one text or more. -/
def rdN : Bytes → Option (Nat × Bytes)
  | [] => none
  | x :: r => if x.toNat < 128 then some (x.toNat, r) else match r with
    | [] => none
    | y :: r => if y.toNat < 128 then some (x.toNat % 128 + y.toNat * 128, r) else match r with
      | [] => none
      | z :: r => if z.toNat < 128 then some (x.toNat % 128 + y.toNat % 128 * 128 + z.toNat * 16384, r) else none
theorem rdN_dec {s r : Bytes} {n : Nat} (h : dec s = some (n, r)) : rdN s = some (n, r) := by
  match s, h with
  | [x], h => exact h
  | [x, y], h =>
    simp only [dec, rdN] at h ⊢
    split at h
    · next h1 => rw [if_pos h1]; exact h
    · next h1 =>
      rw [if_neg h1]
      split at h
      · next h2 =>
        rw [if_pos h2]
        split at h
        · cases h
        · exact h
      · cases h
  | x :: y :: z :: t, h =>
    simp only [dec, rdN] at h ⊢
    split at h
    · next h1 => rw [if_pos h1]; exact h
    · next h1 =>
      rw [if_neg h1]
      split at h
      · next h2 =>
        rw [if_pos h2]
        split at h
        · cases h
        · exact h
      · next h2 =>
        rw [if_neg h2]
        split at h
        · next h3 =>
          rw [if_pos h3]
          split at h
          · cases h
          · exact h
        · cases h
/-- What is behind is a part of what was there. -/
theorem rdN_drop {s r : Bytes} {n : Nat} (h : rdN s = some (n, r)) : ∃ k, k ≤ s.length ∧ r = s.drop k := by
  match s, h with
  | [x], h =>
    simp only [rdN] at h
    split at h
    · simp only [Option.some.injEq, Prod.mk.injEq] at h; exact ⟨1, by simp, h.2.symm⟩
    · cases h
  | [x, y], h =>
    simp only [rdN] at h
    split at h
    · simp only [Option.some.injEq, Prod.mk.injEq] at h; exact ⟨1, by simp, h.2.symm⟩
    · split at h
      · simp only [Option.some.injEq, Prod.mk.injEq] at h; exact ⟨2, by simp, h.2.symm⟩
      · cases h
  | x :: y :: z :: t, h =>
    simp only [rdN] at h
    split at h
    · simp only [Option.some.injEq, Prod.mk.injEq] at h; exact ⟨1, by simp, h.2.symm⟩
    · split at h
      · simp only [Option.some.injEq, Prod.mk.injEq] at h; exact ⟨2, by simp, h.2.symm⟩
      · split at h
        · simp only [Option.some.injEq, Prod.mk.injEq] at h; exact ⟨3, by simp, h.2.symm⟩
        · cases h
/-- A number at a place, and where it ends. -/
def stepR (s : Bytes) (e : Nat) : Nat × Nat := match rdN (s.drop e) with
  | some (n, r) => (n, s.length - r.length)
  | none => (0, s.length + 1)
theorem stepR_le (s : Bytes) {e : Nat} (he : e ≤ s.length + 1) : e ≤ (stepR s e).2 ∧ (stepR s e).2 ≤ s.length + 1 := by
  unfold stepR
  split
  · next n r h =>
    obtain ⟨k, hk, rfl⟩ := rdN_drop h
    rw [List.length_drop] at hk
    simp only [List.length_drop]
    rcases Nat.lt_or_ge s.length e with h1 | h1
    · rw [List.drop_eq_nil_of_le (by omega)] at h; cases h
    · omega
  · simp only; omega
theorem stepR_enc {s r : Bytes} {e n : Nat} (hn : n < 2097152) (h : s.drop e = enc n ++ r) : stepR s e = (n, s.length - r.length) ∧ s.drop (s.length - r.length) = r := by
  unfold stepR
  rw [h, rdN_dec (dec_enc n hn r)]
  refine ⟨rfl, ?_⟩
  have hl := congrArg List.length h
  rw [List.length_drop, List.length_append] at hl
  have h1 := (enc_len n hn).1
  have e1 : s.length - r.length = e + (enc n).length := by omega
  rw [e1, ← List.drop_drop, h, List.drop_left]
/-- The four numbers of an operation. -/
structure Four where
  a : Nat
  b : Nat
  c : Nat
  d : Nat
  e : Nat
def four (s : Bytes) (e : Nat) : Four :=
  ⟨(stepR s e).1, (stepR s (stepR s e).2).1, (stepR s (stepR s (stepR s e).2).2).1, (stepR s (stepR s (stepR s (stepR s e).2).2).2).1, (stepR s (stepR s (stepR s (stepR s e).2).2).2).2⟩
theorem four_le (s : Bytes) {e : Nat} (he : e ≤ s.length + 1) : e ≤ (four s e).e ∧ (four s e).e ≤ s.length + 1 := by
  have h1 := stepR_le s he
  have h2 := stepR_le s h1.2
  have h3 := stepR_le s h2.2
  have h4 := stepR_le s h3.2
  exact ⟨by show e ≤ (stepR s (stepR s (stepR s (stepR s e).2).2).2).2; omega, h4.2⟩
def opR (x : UInt8) (f : Four) : Op := ⟨x.toNat, f.a, f.b, f.c, f.d⟩
/-- One operation stands there just if the check goes through. -/
theorem opR_take {s t : Bytes} {at_ : Nat} {x : UInt8} (h : s.drop at_ = x :: t) :
    (takeO (s.drop at_) = none ∧ ((four s (at_ + 1)).e ≤ s.length → codeB (opR x (four s (at_ + 1))) ≠ (s.drop at_).take ((four s (at_ + 1)).e - at_))) ∨
    (takeO (s.drop at_) = some (opR x (four s (at_ + 1)), s.drop (four s (at_ + 1)).e) ∧ (four s (at_ + 1)).e ≤ s.length ∧ codeB (opR x (four s (at_ + 1))) = (s.drop at_).take ((four s (at_ + 1)).e - at_)) := by
  have hl := congrArg List.length h
  rw [List.length_drop, List.length_cons] at hl
  have hle := four_le s (e := at_ + 1) (by omega)
  have ht : s.drop (at_ + 1) = t := by rw [← List.drop_drop, h]; rfl
  cases hk : takeO (s.drop at_) with
  | none =>
    refine .inl ⟨rfl, fun he heq => ?_⟩
    have hne : codeB (opR x (four s (at_ + 1))) ≠ [] := by
      rw [heq, h]
      obtain ⟨k, hk⟩ : ∃ k, (four s (at_ + 1)).e - at_ = k + 1 := ⟨(four s (at_ + 1)).e - at_ - 1, by omega⟩
      rw [hk]; simp
    have hok : okB (opR x (four s (at_ + 1))) = true := by
      cases hb : okB (opR x (four s (at_ + 1))) with
      | true => rfl
      | false => exact absurd (codeB_nil.2 hb) hne
    unfold codeB at heq
    rw [if_pos hok] at heq
    have := takeO_code ((okB_iff _).1 hok) ((s.drop at_).drop ((four s (at_ + 1)).e - at_))
    rw [heq, List.take_append_drop, hk] at this
    cases this
  | some q =>
    obtain ⟨o, r⟩ := q
    obtain ⟨ho, hr⟩ := takeO_some hk
    have hr0 := hr
    rw [h] at hr
    unfold code at hr
    simp only [List.cons_append, List.append_assoc, List.cons.injEq] at hr
    obtain ⟨hx, hr⟩ := hr
    rw [← ht] at hr
    have k0 := ho.k0
    have k1 := ho.k1
    have ka := num_of ho.a
    have kb := num_of ho.b
    have kc := num_of ho.c
    have kd := num_of ho.d
    obtain ⟨e1, d1⟩ := stepR_enc (by omega) hr
    obtain ⟨e2, d2⟩ := stepR_enc (by omega) d1
    obtain ⟨e3, d3⟩ := stepR_enc (by omega) d2
    obtain ⟨e4, d4⟩ := stepR_enc (by omega) d3
    have hf : four s (at_ + 1) = ⟨o.a.toNat, o.b.toNat, o.c.toNat, o.d.toNat, s.length - r.length⟩ := by
      unfold four
      rw [e1]; dsimp only
      rw [e2]; dsimp only
      rw [e3]; dsimp only
      rw [e4]
    have hop : opR x (four s (at_ + 1)) = o := by
      rw [hf]
      unfold opR
      rw [hx, u8 (by omega)]
      exact Op.ext' (by dsimp only; omega) (by dsimp only; omega) (by dsimp only; omega) (by dsimp only; omega) (by dsimp only; omega)
    have hrl := congrArg List.length hr0
    rw [List.length_drop, List.length_append] at hrl
    have hlo := (code_len ho).1
    refine .inr ⟨?_, ?_, ?_⟩
    · rw [hop, hf, d4]
    · rw [hf]; show s.length - r.length ≤ _; omega
    · rw [hop]
      unfold codeB
      rw [if_pos ((okB_iff _).2 ho), hr0, hf]
      show _ = (code o ++ r).take (s.length - r.length - at_)
      rw [show s.length - r.length - at_ = (code o).length by omega, List.take_left]
end Go.Scr
namespace Go.Mp
open Go Go.Vc Go.Sp Go.Proofs Go.Ct

variable {E : Env} {L : List Asn} {w W : World}

abbrev bs (s : ByteArray) : Bytes := s.data.toList
abbrev mk (l : Bytes) : ByteArray := ⟨l.toArray⟩
theorem bs_mk (l : Bytes) : bs (mk l) = l := rfl
theorem mk_bs (s : ByteArray) : mk (bs s) = s := Lib.mk_data s
theorem bs_len (s : ByteArray) : (bs s).length = s.size := (Lib.size_eq s).symm
theorem mk_size (l : Bytes) : (mk l).size = l.length := by rw [← bs_len]
theorem bs_append (s t : ByteArray) : bs (s ++ t) = bs s ++ bs t := by
  unfold bs; rw [ByteArray.data_append]; simp
theorem mk_append (a b : Bytes) : mk a ++ mk b = mk (a ++ b) := by rw [← mk_bs (mk a ++ mk b), bs_append]
theorem bs_sub (s : ByteArray) (a b : Nat) : bs (s.extract a b) = ((bs s).drop a).take (b - a) := Lib.extract_data s a b
theorem beq_bs (s t : ByteArray) : (s.toList == t.toList) = decide (bs s = bs t) := by
  rw [Lib.toList_data, Lib.toList_data]
  by_cases h : bs s = bs t
  · rw [decide_eq_true h, beq_iff_eq]; exact h
  · rw [decide_eq_false h, beq_eq_false_iff_ne]; exact h
theorem bS {s t : ByteArray} {A B : Prop} (h1 : bs s = bs t → A) (h2 : bs s ≠ bs t → B) : bif (s.toList == t.toList) then A else B := by
  rw [beq_bs]
  by_cases h : bs s = bs t
  · rw [decide_eq_true h]; exact h1 h
  · rw [decide_eq_false h]; exact h2 h
theorem bSn {s t : ByteArray} {A B : Prop} (h1 : bs s ≠ bs t → A) (h2 : bs s = bs t → B) : bif (!(s.toList == t.toList)) then A else B := by
  rw [beq_bs]
  by_cases h : bs s = bs t
  · rw [decide_eq_true h]; exact h2 h
  · rw [decide_eq_false h]; exact h1 h

/-- A part of bytes. -/
theorem Byt.sub {s : Sl} {l : List UInt8} {k m : Nat} (h : Byt w s l) (hc : s.n ≤ s.c) (hm : m ≤ l.length) : Byt w ⟨slA s.p k s.c 1, m - k, s.c - k⟩ ((l.drop k).take (m - k)) := by
  have hd := h.drop (k := k) hc
  refine ⟨by show m - k = _; rw [List.length_take, List.length_drop]; omega, fun i c hi => ?_⟩
  rw [List.getElem?_take] at hi
  split at hi
  · exact hd.rd i c hi
  · cases hi
theorem cvI {s : Sl} {l : List UInt8} (h : Byt w s l) : CvV P 27 9 (.slice s.p s.n s.c) w (.string (mk l)) := by
  intro w' g
  obtain ⟨x, w1, h1, rfl, rfl⟩ := (h.grow g).str (G := fun x w1 => x = mk l ∧ w1 = w') bs27 str9 ⟨rfl, rfl⟩
  exact h1
theorem byt1 {p : Nat} {x : Int} {c : UInt8} (hx : x = (c.toNat : Nat)) (h : Sep E (blk p [.int .u8 x] :: L) w) : Byt w ⟨some ⟨p, 0, none⟩, 1, 1⟩ [c] := by
  refine ⟨rfl, fun i d hi => ⟨_, rfl, ?_⟩⟩
  match i, hi with
  | 0, hi =>
    have := h.cell 0
    simp only [List.getElem?_cons_zero, Option.some.injEq] at hi
    subst hi
    rw [hx] at this
    exact this

theorem c_rnumber : ∀ (m : Nat) (n : Int) {E : Env} {L : List Asn} {W : World}, n.toNat < m → Sep E L W → Calls P fn_millpondref20_number #[.int .i64 n] W (Ret fun v w' => v = .string (mk (Scr.encB n)) ∧ Grow W w' ∧ Sep E L w') := by
  intro m
  induction m with
  | zero => intro n E L W hm; omega
  | succ m ihm =>
    intro n E L W hm hS
    apply of_millpondref20_number
    unfold sh_millpondref20_number
    have h := Sep.start W
    refine ⟨fun w' => Scr.num n = true ∧ w' = W, ?_, ?_⟩
    · have bad : Scr.num n = false → Value.string (ByteArray.mk #[]) = .string (mk (Scr.encB n)) ∧ Grow W W ∧ Sep E L W := fun hh => ⟨by rw [Scr.encB_nil.2 hh], Grow.refl _, hS⟩
      refine bLt (fun hh => bad (decide_eq_false (by omega))) (fun h0 => ?_)
      exact bGe (fun hh => bad (decide_eq_false (by omega))) (fun h1 => ⟨decide_eq_true ⟨h0, h1⟩, rfl⟩)
    rintro _ w1 ⟨hn, rfl⟩
    have hnn := Scr.num_of hn
    obtain ⟨k, rfl⟩ : ∃ k : Nat, n = k := ⟨n.toNat, by omega⟩
    have henc : Scr.encB (k : Int) = Scr.enc k := by unfold Scr.encB; rw [if_pos hn, Int.toNat_natCast]
    refine bLt (fun hlt => ?_) (fun hge => ?_)
    · refine Al.i h (fun p w2 h2 => ?_)
      have e1 : IntKind.u8.wrap (k : Int) = (((UInt8.ofNat k).toNat : Nat) : Int) := by rw [wrapU8, Scr.u8 (by omega), Nat.mod_eq_of_lt (by omega)]
      refine ⟨_, cvI (byt1 e1 h2), ?_⟩
      have g : Grow w1 w2 := grow_old (i := 1) rfl h2 rfl
      rw [henc, Scr.enc_small (by omega)]
      exact ⟨rfl, g, hS.grow g⟩
    · have hb : ¬ k < 128 := by omega
      have em : (k : Int).tmod 128 = ((k % 128 : Nat) : Int) := by rw [Int.tmod_eq_emod_of_nonneg (by omega)]; omega
      have ed : IntKind.i64.wrap ((k : Int).tdiv 128) = ((k / 128 : Nat) : Int) := by
        rw [Int.tdiv_eq_ediv_of_nonneg (by omega), w64 (by omega) (by omega)]; omega
      have hx : IntKind.u8.wrap (IntKind.i64.wrap (128 + (k : Int).tmod 128)) = (((UInt8.ofNat (128 + k % 128)).toNat : Nat) : Int) := by
        rw [em, w64 (by omega) (by omega), Scr.u8 (by omega)]
        have : (128 : Int) + ((k % 128 : Nat) : Int) = ((128 + k % 128 : Nat) : Int) := by omega
        rw [this, wrapU8, Nat.mod_eq_of_lt (by omega)]
      have ih : ∀ {L' : List Asn} {w' : World}, Sep (World.env w1) L' w' → Calls P fn_millpondref20_number #[.int .i64 (IntKind.i64.wrap ((k : Int).tdiv 128))] w' (Ret fun v w'' => v = .string (mk (Scr.enc (k / 128))) ∧ Grow w' w'' ∧ Sep (World.env w1) L' w'') := by
        intro L' w' hS'
        rw [ed]
        have := ihm ((k / 128 : Nat) : Int) (by omega) hS'
        have e2 : Scr.encB ((k / 128 : Nat) : Int) = Scr.enc (k / 128) := by
          unfold Scr.encB; rw [if_pos (show Scr.num ((k / 128 : Nat) : Int) = true from decide_eq_true (by omega)), Int.toNat_natCast]
        rw [e2] at this
        exact this
      have hsz : (mk [UInt8.ofNat (128 + k % 128)]).size + (mk (Scr.enc (k / 128))).size ≤ 9223372036854775807 := by
        have := (Scr.enc_len (k / 128) (by omega)).2
        rw [mk_size, mk_size, List.length_singleton]; omega
      have fin_ : ∀ {w' : World} {x : Nat} {C : List Value}, Sep (World.env w1) [blk x C, old w1.heap] w' → Value.string (mk [UInt8.ofNat (128 + k % 128)] ++ mk (Scr.enc (k / 128))) = .string (mk (Scr.encB (k : Int))) ∧ Grow w1 w' ∧ Sep E L w' := by
        intro w' x C hh
        have g : Grow w1 w' := grow_old (i := 1) rfl hh rfl
        refine ⟨?_, g, hS.grow g⟩
        rw [mk_append, henc, Scr.enc_big hb]; rfl
      refine Dr.i h (fun w h => ?_)
      repeat' first
        | exact trivial
        | exact fin_ h
        | refine ⟨by decide, ?_⟩
        | refine Al.i h (fun p w h => ?_)
        | refine ⟨_, cvI (byt1 hx h), ?_⟩
        | (refine use (ih h) ?_; rintro _ w ⟨rfl, _, h⟩; refine ⟨_, rfl, ?_⟩)
        | refine ⟨hsz, ?_⟩
        | refine And.intro ?_ ?_

end Go.Mp
