/- Operations as bytes, in plain words: no program in sight. -/
import Derived.Test.YtkjihkmkchcmcaaGreatDoorCnP
namespace Go.Scr
open Go.Lib Go.Ct

structure Op where
  k : Int
  a : Int
  b : Int
  c : Int
  d : Int
def Op.val (o : Op) : Nat → Int
  | 0 => o.a
  | 1 => o.b
  | 2 => o.c
  | _ => o.d
theorem Op.ext' {o p : Op} (hk : o.k = p.k) (ha : o.a = p.a) (hb : o.b = p.b) (hc : o.c = p.c) (hd : o.d = p.d) : o = p := by
  cases o; cases p; simp_all

/-- A number, seven bits a byte, the low ones ahead. -/
def enc (n : Nat) : Bytes := if h : n < 128 then [UInt8.ofNat n] else UInt8.ofNat (128 + n % 128) :: enc (n / 128)
termination_by n
decreasing_by omega

theorem enc_small {n : Nat} (h : n < 128) : enc n = [UInt8.ofNat n] := by rw [enc, dif_pos h]
theorem enc_big {n : Nat} (h : ¬ n < 128) : enc n = UInt8.ofNat (128 + n % 128) :: enc (n / 128) := by rw [enc, dif_neg h]
theorem u8 {d : Nat} (h : d < 256) : (UInt8.ofNat d).toNat = d := by
  show d % 2 ^ 8 = d
  omega

theorem enc_det : ∀ (n m : Nat) (r r' : Bytes), enc n ++ r = enc m ++ r' → n = m ∧ r = r' := by
  intro n
  induction n using Nat.strongRecOn with
  | _ n ih =>
    intro m r r' h
    by_cases hn : n < 128
    · by_cases hm : m < 128
      · rw [enc_small hn, enc_small hm] at h
        simp only [List.cons_append, List.nil_append, List.cons.injEq] at h
        have := congrArg UInt8.toNat h.1
        rw [u8 (by omega), u8 (by omega)] at this
        exact ⟨this, h.2⟩
      · rw [enc_small hn, enc_big hm] at h
        simp only [List.cons_append, List.nil_append, List.cons.injEq] at h
        have := congrArg UInt8.toNat h.1
        rw [u8 (by omega), u8 (by omega)] at this
        omega
    · by_cases hm : m < 128
      · rw [enc_big hn, enc_small hm] at h
        simp only [List.cons_append, List.nil_append, List.cons.injEq] at h
        have := congrArg UInt8.toNat h.1
        rw [u8 (by omega), u8 (by omega)] at this
        omega
      · rw [enc_big hn, enc_big hm] at h
        simp only [List.cons_append, List.cons.injEq] at h
        have h1 := congrArg UInt8.toNat h.1
        rw [u8 (by omega), u8 (by omega)] at h1
        have := ih (n / 128) (by omega) (m / 128) r r' h.2
        exact ⟨by omega, this.2⟩

theorem enc_len (n : Nat) (h : n < 2097152) : 1 ≤ (enc n).length ∧ (enc n).length ≤ 3 := by
  by_cases h1 : n < 128
  · rw [enc_small h1]; simp
  · rw [enc_big h1]
    by_cases h2 : n / 128 < 128
    · rw [enc_small h2]; simp
    · rw [enc_big h2, enc_small (by omega)]; simp
theorem enc_ne (n : Nat) : enc n ≠ [] := by
  by_cases h1 : n < 128
  · rw [enc_small h1]; simp
  · rw [enc_big h1]; simp

def num (n : Int) : Bool := decide (0 ≤ n ∧ n < 2097152)
structure Ok (o : Op) : Prop where
  k0 : 0 ≤ o.k
  k1 : o.k ≤ 13
  a : num o.a = true
  b : num o.b = true
  c : num o.c = true
  d : num o.d = true
theorem num_of {n : Int} (h : num n = true) : 0 ≤ n ∧ n < 2097152 := of_decide_eq_true h
def okB (o : Op) : Bool := decide (0 ≤ o.k ∧ o.k ≤ 13) && (num o.a && (num o.b && (num o.c && num o.d)))
theorem okB_iff (o : Op) : okB o = true ↔ Ok o := by
  unfold okB
  simp only [Bool.and_eq_true, decide_eq_true_eq]
  exact ⟨fun ⟨⟨h1, h2⟩, h3, h4, h5, h6⟩ => ⟨h1, h2, h3, h4, h5, h6⟩, fun h => ⟨⟨h.k0, h.k1⟩, h.a, h.b, h.c, h.d⟩⟩

/-- An operation's bytes. -/
def code (o : Op) : Bytes := UInt8.ofNat o.k.toNat :: (enc o.a.toNat ++ (enc o.b.toNat ++ (enc o.c.toNat ++ enc o.d.toNat)))
theorem code_ne (o : Op) : code o ≠ [] := by simp [code]
theorem code_len {o : Op} (h : Ok o) : 5 ≤ (code o).length ∧ (code o).length ≤ 13 := by
  have ha := num_of h.a
  have hb := num_of h.b
  have hc := num_of h.c
  have hd := num_of h.d
  have h1 := enc_len o.a.toNat (by omega)
  have h2 := enc_len o.b.toNat (by omega)
  have h3 := enc_len o.c.toNat (by omega)
  have h4 := enc_len o.d.toNat (by omega)
  unfold code
  simp only [List.length_cons, List.length_append]; omega
theorem code_det {o p : Op} (ho : Ok o) (hp : Ok p) {r r' : Bytes} (h : code o ++ r = code p ++ r') : o = p ∧ r = r' := by
  unfold code at h
  simp only [List.cons_append, List.append_assoc, List.cons.injEq] at h
  obtain ⟨h0, h⟩ := h
  obtain ⟨h1, h⟩ := enc_det _ _ _ _ h
  obtain ⟨h2, h⟩ := enc_det _ _ _ _ h
  obtain ⟨h3, h⟩ := enc_det _ _ _ _ h
  obtain ⟨h4, h⟩ := enc_det _ _ _ _ h
  have e0 := congrArg UInt8.toNat h0
  have hok := ho.k0
  have hok1 := ho.k1
  have hpk := hp.k0
  have hpk1 := hp.k1
  rw [u8 (by omega), u8 (by omega)] at e0
  have := num_of ho.a
  have := num_of ho.b
  have := num_of ho.c
  have := num_of ho.d
  have := num_of hp.a
  have := num_of hp.b
  have := num_of hp.c
  have := num_of hp.d
  exact ⟨Op.ext' (by omega) (by omega) (by omega) (by omega) (by omega), h⟩

def text (l : List Op) : Bytes := (l.map code).flatten
theorem text_nil : text [] = [] := rfl
theorem text_cons (o : Op) (l : List Op) : text (o :: l) = code o ++ text l := by simp [text]
theorem text_append (l m : List Op) : text (l ++ m) = text l ++ text m := by simp [text]
theorem text_one (o : Op) : text [o] = code o := by simp [text]
theorem text_len : ∀ {l : List Op}, (∀ o ∈ l, Ok o) → 5 * l.length ≤ (text l).length ∧ (text l).length ≤ 13 * l.length
  | [], _ => by simp [text]
  | o :: l, h => by
    have h1 := code_len (h o (by simp))
    have h2 := text_len (l := l) (fun p hp => h p (by simp [hp]))
    rw [text_cons, List.length_append, List.length_cons]; omega

/-- No operation stands at the head. -/
def none_ (s : Bytes) : Prop := ∀ o r, Ok o → code o ++ r ≠ s

/-- What is got of bytes: operations, and what remains. -/
structure Got (s : Bytes) (l : List Op) (r : Bytes) : Prop where
  eq : s = text l ++ r
  ok : ∀ o ∈ l, Ok o
  few : l.length ≤ 1000
  stop : r = [] ∨ l.length = 1000 ∨ none_ r

theorem Got.aux : ∀ {l l' : List Op} {r r' : Bytes} {n : Nat}, (∀ o ∈ l, Ok o) → (∀ o ∈ l', Ok o) → n + l.length ≤ 1000 → n + l'.length ≤ 1000 → (r = [] ∨ n + l.length = 1000 ∨ none_ r) → (r' = [] ∨ n + l'.length = 1000 ∨ none_ r') →
    text l ++ r = text l' ++ r' → l = l' ∧ r = r'
  | [], [], r, r', n, _, _, _, _, _, _, h => ⟨rfl, by simpa [text] using h⟩
  | [], o :: l', r, r', n, _, h2, _, f2, s1, _, h => by
    exfalso
    rw [text_nil, List.nil_append, text_cons, List.append_assoc] at h
    rcases s1 with rfl | hn | hn
    · have := congrArg List.length h
      have hc := code_len (h2 o (by simp))
      simp only [List.length_nil, List.length_append] at this; omega
    · simp at hn f2; omega
    · exact hn o _ (h2 o (by simp)) h.symm
  | o :: l, [], r, r', n, h1, _, f1, _, _, s2, h => by
    exfalso
    rw [text_nil, List.nil_append, text_cons, List.append_assoc] at h
    rcases s2 with rfl | hn | hn
    · have := congrArg List.length h
      have hc := code_len (h1 o (by simp))
      simp only [List.length_nil, List.length_append] at this; omega
    · simp at hn f1; omega
    · exact hn o _ (h1 o (by simp)) h
  | o :: l, p :: l', r, r', n, h1, h2, f1, f2, s1, s2, h => by
    rw [text_cons, text_cons, List.append_assoc, List.append_assoc] at h
    obtain ⟨rfl, h9⟩ := code_det (h1 o (by simp)) (h2 p (by simp)) h
    simp only [List.length_cons] at f1 f2 s1 s2
    have h1' : ∀ q ∈ l, Ok q := fun q hq => h1 q (List.mem_cons_of_mem _ hq)
    have h2' : ∀ q ∈ l', Ok q := fun q hq => h2 q (List.mem_cons_of_mem _ hq)
    have s1' : r = [] ∨ n + 1 + l.length = 1000 ∨ none_ r := by rw [show n + 1 + l.length = n + (l.length + 1) by omega]; exact s1
    have s2' : r' = [] ∨ n + 1 + l'.length = 1000 ∨ none_ r' := by rw [show n + 1 + l'.length = n + (l'.length + 1) by omega]; exact s2
    obtain ⟨rfl, hr⟩ := Got.aux (n := n + 1) h1' h2' (by omega) (by omega) s1' s2' h9
    exact ⟨rfl, hr⟩
theorem Got.uniq {s : Bytes} {l l' : List Op} {r r' : Bytes} (h : Got s l r) (h' : Got s l' r') : l = l' ∧ r = r' :=
  Got.aux (n := 0) h.ok h'.ok (by have := h.few; omega) (by have := h'.few; omega) (by rw [Nat.zero_add]; exact h.stop) (by rw [Nat.zero_add]; exact h'.stop) (h.eq.symm.trans h'.eq)
theorem Got.full {l : List Op} (h : ∀ o ∈ l, Ok o) (hl : l.length ≤ 1000) : Got (text l) l [] := ⟨by simp, h, hl, .inl rfl⟩
theorem Got.nil : Got [] [] [] := ⟨rfl, by simp, by simp, .inl rfl⟩

/-- One more. -/
theorem Got.step {s r : Bytes} {l : List Op} {o : Op} (hs : s = text l ++ (code o ++ r)) : s = text (l ++ [o]) ++ r := by rw [hs, text_append, text_one]; simp

/-- What is got of two texts, behind each other. -/
theorem Got.append {s t r : Bytes} {l m : List Op} (h : Got s l []) (h' : Got t m r) (hf : l.length + m.length < 1000) : Got (s ++ t) (l ++ m) r := by
  refine ⟨?_, fun o ho => ?_, by simp; omega, ?_⟩
  · rw [h.eq, h'.eq, text_append]; simp
  · rcases List.mem_append.1 ho with ho | ho
    · exact h.ok o ho
    · exact h'.ok o ho
  · rcases h'.stop with hr | hr | hr
    · exact .inl hr
    · omega
    · exact .inr (.inr hr)

/-! ### numbers are read -/

/-- A number at the head of bytes, and what is behind it. -/
def dec : Bytes → Option (Nat × Bytes)
  | [] => none
  | x :: r => if x.toNat < 128 then some (x.toNat, r) else match r with
    | [] => none
    | y :: r => if y.toNat < 128 then (if y.toNat = 0 then none else some (x.toNat % 128 + y.toNat * 128, r)) else match r with
      | [] => none
      | z :: r => if z.toNat < 128 then (if z.toNat = 0 then none else some (x.toNat % 128 + y.toNat % 128 * 128 + z.toNat * 16384, r)) else none

theorem u8_eq {x : UInt8} {n : Nat} (h : x.toNat = n) : UInt8.ofNat n = x := by
  apply UInt8.toNat_inj.1
  rw [u8 (by have := x.toNat_lt; omega), h]

theorem dec_enc (n : Nat) (h : n < 2097152) (r : Bytes) : dec (enc n ++ r) = some (n, r) := by
  by_cases h1 : n < 128
  · rw [enc_small h1]
    simp only [List.cons_append, List.nil_append, dec, u8 (show n < 256 by omega)]
    rw [if_pos h1]
  · rw [enc_big h1]
    have e1 := u8 (show 128 + n % 128 < 256 by omega)
    by_cases h2 : n / 128 < 128
    · rw [enc_small h2]
      simp only [List.cons_append, List.nil_append, dec, e1, u8 (show n / 128 < 256 by omega)]
      rw [if_neg (by omega), if_pos h2, if_neg (by omega)]
      congr 2; omega
    · rw [enc_big h2, enc_small (show n / 128 / 128 < 128 by omega)]
      simp only [List.cons_append, List.nil_append, dec, e1, u8 (show 128 + n / 128 % 128 < 256 by omega), u8 (show n / 128 / 128 < 256 by omega)]
      rw [if_neg (by omega), if_neg (by omega), if_pos (by omega), if_neg (by omega)]
      congr 2; omega
theorem dec_some {s r : Bytes} {n : Nat} (h : dec s = some (n, r)) : n < 2097152 ∧ s = enc n ++ r := by
  match s, h with
  | x :: s, h =>
    have hx := x.toNat_lt
    simp only [dec] at h
    split at h
    · next h1 =>
      simp only [Option.some.injEq, Prod.mk.injEq] at h
      obtain ⟨rfl, rfl⟩ := h
      refine ⟨by omega, ?_⟩
      rw [enc_small h1, u8_eq rfl]; rfl
    · next h1 =>
      match s, h with
      | y :: s, h =>
        have hy := y.toNat_lt
        simp only at h
        split at h
        · next h2 =>
          split at h
          · cases h
          · next h3 =>
            simp only [Option.some.injEq, Prod.mk.injEq] at h
            obtain ⟨rfl, rfl⟩ := h
            refine ⟨by omega, ?_⟩
            rw [enc_big (by omega), enc_small (by omega), u8_eq (x := x) (by omega), u8_eq (x := y) (by omega)]; rfl
        · next h2 =>
          match s, h with
          | z :: s, h =>
            have hz := z.toNat_lt
            simp only at h
            split at h
            · next h3 =>
              split at h
              · cases h
              · next h4 =>
                simp only [Option.some.injEq, Prod.mk.injEq] at h
                obtain ⟨rfl, rfl⟩ := h
                refine ⟨by omega, ?_⟩
                rw [enc_big (by omega), enc_big (by omega), enc_small (by omega), u8_eq (x := x) (by omega), u8_eq (x := y) (by omega), u8_eq (x := z) (by omega)]; rfl
            · cases h

/-- An operation at the head of bytes. -/
def takeO : Bytes → Option (Op × Bytes)
  | [] => none
  | x :: s => if x.toNat ≤ 13 then match dec s with
    | none => none
    | some (a, s) => match dec s with
      | none => none
      | some (b, s) => match dec s with
        | none => none
        | some (c, s) => match dec s with
          | none => none
          | some (d, s) => some (⟨x.toNat, a, b, c, d⟩, s)
    else none
theorem takeO_some {s r : Bytes} {o : Op} (h : takeO s = some (o, r)) : Ok o ∧ s = code o ++ r := by
  match s, h with
  | x :: s, h =>
    simp only [takeO] at h
    split at h
    · next hx =>
      split at h
      · cases h
      · next a s1 ha =>
        split at h
        · cases h
        · next b s2 hb =>
          split at h
          · cases h
          · next c s3 hc =>
            split at h
            · cases h
            · next d s4 hd =>
              simp only [Option.some.injEq, Prod.mk.injEq] at h
              obtain ⟨rfl, rfl⟩ := h
              obtain ⟨la, rfl⟩ := dec_some ha
              obtain ⟨lb, rfl⟩ := dec_some hb
              obtain ⟨lc, rfl⟩ := dec_some hc
              obtain ⟨ld, rfl⟩ := dec_some hd
              refine ⟨⟨?_, ?_, decide_eq_true ⟨?_, ?_⟩, decide_eq_true ⟨?_, ?_⟩, decide_eq_true ⟨?_, ?_⟩, decide_eq_true ⟨?_, ?_⟩⟩, ?_⟩
              any_goals (dsimp only; omega)
              unfold code
              simp only [Int.toNat_natCast, u8_eq (x := x) rfl, List.cons_append, List.append_assoc]
    · cases h
theorem takeO_code {o : Op} (h : Ok o) (r : Bytes) : takeO (code o ++ r) = some (o, r) := by
  have ha := num_of h.a
  have hb := num_of h.b
  have hc := num_of h.c
  have hd := num_of h.d
  have k0 := h.k0
  have k1 := h.k1
  unfold code
  simp only [List.cons_append, List.append_assoc, takeO, u8 (show o.k.toNat < 256 by omega), dec_enc _ (show o.a.toNat < 2097152 by omega), dec_enc _ (show o.b.toNat < 2097152 by omega), dec_enc _ (show o.c.toNat < 2097152 by omega), dec_enc _ (show o.d.toNat < 2097152 by omega)]
  rw [if_pos (by omega)]
  congr 2
  exact Op.ext' (by dsimp only; omega) (by dsimp only; omega) (by dsimp only; omega) (by dsimp only; omega) (by dsimp only; omega)
theorem takeO_none {s : Bytes} (h : takeO s = none) : none_ s := fun o r ho e => by
  rw [← e, takeO_code ho] at h; cases h

end Go.Scr
