/- Limits and names, in plain words. -/
import Derived.Test.YticnchdegmfhlaaDoorCnP
namespace Go.Ct
open Go.Lib

def fMin : Bytes := [109, 101, 109, 111, 114, 121, 46, 109, 105, 110]
def fLow : Bytes := [109, 101, 109, 111, 114, 121, 46, 108, 111, 119]
def fMax : Bytes := [109, 101, 109, 111, 114, 121, 46, 109, 97, 120]
def fSwap : Bytes := [115, 119, 97, 112, 46, 109, 97, 120]
def fOom : Bytes := [109, 101, 109, 111, 114, 121, 46, 111, 111, 109, 46, 103, 114, 111, 117, 112]
def fileN (s : Bytes) : Int := if s = fMin then 0 else if s = fLow then 1 else if s = fMax then 2 else if s = fSwap then 3 else if s = fOom then 4 else -1

def maxB : Bytes := [109, 97, 120]
def isDig (c : UInt8) : Bool := decide (48 ≤ c.toNat) && decide (c.toNat ≤ 57)
def dec (s : Bytes) : Nat := s.foldl (fun n c => n * 10 + (c.toNat - 48)) 0

theorem dec_snoc (s : Bytes) (c : UInt8) : dec (s ++ [c]) = dec s * 10 + (c.toNat - 48) := by simp [dec]
theorem dec_lt_ : ∀ (s : Bytes) (acc k : Nat), (∀ c ∈ s, isDig c = true) → acc < 10 ^ k → s.foldl (fun n c => n * 10 + (c.toNat - 48)) acc < 10 ^ (k + s.length)
  | [], acc, k, _, h => by simpa using h
  | c :: s, acc, k, hc, h => by
    have h1 := hc c (by simp)
    simp [isDig] at h1
    have := dec_lt_ s (acc * 10 + (c.toNat - 48)) (k + 1) (fun d hd => hc d (by simp [hd])) (by rw [Nat.pow_succ]; omega)
    simp only [List.foldl_cons, List.length_cons]
    rw [show k + (s.length + 1) = k + 1 + s.length by omega]; exact this
theorem dec_lt {s : Bytes} (h : ∀ c ∈ s, isDig c = true) : dec s < 10 ^ s.length := by
  have := dec_lt_ s 0 0 h (by decide)
  rw [Nat.zero_add] at this; exact this
theorem dec_decDigits (u : Nat) : dec (decDigits u) = u := by
  induction u using Nat.strongRecOn with
  | _ u ih =>
    by_cases h : u < 10
    · rw [dec_small h]; simp only [dec, List.foldl_cons, List.foldl_nil, dig h]; omega
    · rw [dec_big h, dec_snoc, ih (u / 10) (by omega), dig (by omega)]; omega

/-- Digits: no more than 13; no nought ahead. -/
def digOk (s : Bytes) : Bool := decide (s ≠ []) && (decide (s.length ≤ 13) && (!(decide (s[0]? = some 48) && decide (1 < s.length)) && s.all isDig))
def digs (s : Bytes) : Option Nat := if digOk s then some (dec s) else none

def lim (s : Bytes) : Option Int :=
  if s = maxB then some 1099511627776 else
    match digs (trimSuffix s [75]) with
    | none => none
    | some n => if (if hasSuffix s [75] then n * 1024 else n) ≤ 1099511627776 then some ((if hasSuffix s [75] then n * 1024 else n : Nat) : Int) else none

def read (name text : Bytes) : Int × Int × Int :=
  if fileN name < 0 then (-1, 0, 2) else
    match lim (trimSuffix text [10]) with
    | none => (-1, 0, 20)
    | some n => if fileN name = 4 ∧ trimSuffix text [10] ≠ [48] ∧ trimSuffix text [10] ≠ [49] then (-1, 0, 20) else (fileN name, n, 0)

def showB (n : Int) : Bytes := if n = 1099511627776 then maxB else itoa n

/-! ### suffixes of one byte -/

theorem suffix_hit (s : Bytes) (c : UInt8) : hasSuffix (s ++ [c]) [c] = true := by
  unfold hasSuffix
  rw [List.isSuffixOf_iff_suffix]; exact List.suffix_append s [c]
theorem trim_hit (s : Bytes) (c : UInt8) : trimSuffix (s ++ [c]) [c] = s := by
  unfold trimSuffix
  rw [suffix_hit, if_pos rfl]
  simp
theorem suffix_miss {s : Bytes} {c d : UInt8} (h : d ≠ c) : hasSuffix (s ++ [d]) [c] = false := by
  rw [Bool.eq_false_iff]
  intro hh
  unfold hasSuffix at hh
  rw [List.isSuffixOf_iff_suffix] at hh
  obtain ⟨t, ht⟩ := hh
  have := congrArg List.getLast? ht
  simp at this
  exact h this.symm
theorem trim_miss {s : Bytes} {c d : UInt8} (h : d ≠ c) : trimSuffix (s ++ [d]) [c] = s ++ [d] := by
  unfold trimSuffix
  rw [suffix_miss h]; simp
theorem suffix_nil (c : UInt8) : hasSuffix [] [c] = false := rfl
theorem trim_nil (c : UInt8) : trimSuffix [] [c] = [] := rfl
theorem last_cases (s : Bytes) (c : UInt8) : (∃ t, s = t ++ [c] ∧ hasSuffix s [c] = true ∧ trimSuffix s [c] = t) ∨ (hasSuffix s [c] = false ∧ trimSuffix s [c] = s ∧ s.getLast? ≠ some c) := by
  rcases List.eq_nil_or_concat s with rfl | ⟨t, d, rfl⟩
  · exact .inr ⟨rfl, rfl, by simp⟩
  · rw [List.concat_eq_append]
    by_cases h : d = c
    · subst h; exact .inl ⟨t, rfl, suffix_hit t d, trim_hit t d⟩
    · exact .inr ⟨suffix_miss h, trim_miss h, by simpa using h⟩

/-! ### digits told -/

theorem dec_head {u : Nat} {r : Bytes} (h : decDigits u = 48 :: r) : r = [] := by
  induction u using Nat.strongRecOn generalizing r with
  | _ u ih =>
    by_cases hu : u < 10
    · rw [dec_small hu] at h; simpa using (congrArg List.tail h).symm
    · rw [dec_big hu] at h
      obtain ⟨c, t, e⟩ : ∃ c t, decDigits (u / 10) = c :: t := by
        cases e : decDigits (u / 10) with
        | nil => have := dec_pos (u / 10); rw [e] at this; simp at this
        | cons c r => exact ⟨c, r, rfl⟩
      rw [e] at h
      simp only [List.cons_append, List.cons.injEq] at h
      obtain ⟨rfl, h⟩ := h
      have := ih (u / 10) (by omega) e
      subst this
      have h1 : u / 10 = 0 := by
        have := dec_decDigits (u / 10)
        rw [e] at this
        rw [← this]; rfl
      omega

theorem digs_dec {u : Nat} (h : (decDigits u).length ≤ 13) : digs (decDigits u) = some u := by
  unfold digs
  rw [if_pos, dec_decDigits]
  unfold digOk
  have h1 := dec_pos u
  simp only [Bool.and_eq_true, decide_eq_true_eq, Bool.not_eq_true']
  refine ⟨fun e => by rw [e] at h1; simp at h1, h, ?_, ?_⟩
  · rw [Bool.and_eq_false_iff]
    by_cases hz : (decDigits u)[0]? = some 48
    · right
      obtain ⟨c, t, e⟩ : ∃ c t, decDigits u = c :: t := by
        cases e : decDigits u with
        | nil => rw [e] at h1; simp at h1
        | cons c r => exact ⟨c, r, rfl⟩
      rw [e] at hz
      have hc : c = 48 := by simpa using hz
      subst hc
      have := dec_head e
      rw [e, this]; rfl
    · left; exact decide_eq_false hz
  · rw [List.all_eq_true]
    intro c hc
    have := dec_char u c hc
    simp [isDig]; omega
theorem len13 {u : Nat} (h : u < 10000000000000) : (decDigits u).length ≤ 13 := by
  rw [decDigits_length]
  rcases Nat.lt_or_ge 13 (nDigits u) with h' | h'
  · exfalso
    have key : ∀ (k u : Nat), nDigits u = k + 1 → 10 ^ k ≤ u ∨ k = 0 := by
      intro k
      induction k with
      | zero => intro u _; right; rfl
      | succ k ih =>
        intro u hu
        left
        by_cases h10 : u < 10
        · rw [nDigits_small h10] at hu; omega
        · rw [nDigits_big h10] at hu
          rcases ih (u / 10) (by omega) with h1 | h1
          · rw [Nat.pow_succ]; omega
          · subst h1; simp; omega
    obtain ⟨k, hk⟩ : ∃ k, nDigits u = k + 1 := ⟨nDigits u - 1, by omega⟩
    rcases key k u hk with h1 | h1
    · have : 10 ^ 13 ≤ 10 ^ k := Nat.pow_le_pow_right (by decide) (by omega)
      have e : (10 : Nat) ^ 13 = 10000000000000 := by decide
      omega
    · omega
  · exact h'

theorem itoa_last (n : Int) : ∃ t d, itoa n = t ++ [d] ∧ 48 ≤ d.toNat ∧ d.toNat ≤ 57 := by
  have key : ∀ u, ∃ t d, decDigits u = t ++ [d] ∧ 48 ≤ d.toNat ∧ d.toNat ≤ 57 := by
    intro u
    by_cases h : u < 10
    · exact ⟨[], _, dec_small h, by rw [dig h]; omega, by rw [dig h]; omega⟩
    · exact ⟨_, _, dec_big h, by rw [dig (by omega)]; omega, by rw [dig (by omega)]; omega⟩
  unfold itoa
  split
  · obtain ⟨t, d, e, h⟩ := key n.natAbs
    exact ⟨45 :: t, d, by rw [e]; rfl, h⟩
  · exact key _

theorem itoa_noK (n : Int) {c : UInt8} (hc : c.toNat < 48 ∨ 57 < c.toNat) : hasSuffix (itoa n) [c] = false ∧ trimSuffix (itoa n) [c] = itoa n := by
  obtain ⟨t, d, e, h1, h2⟩ := itoa_last n
  have hd : d ≠ c := by intro e; subst e; omega
  rw [e]; exact ⟨suffix_miss hd, trim_miss hd⟩
theorem showB_noK (n : Int) {c : UInt8} (hc : c.toNat < 48 ∨ 57 < c.toNat) (hx : c ≠ 120) : hasSuffix (showB n) [c] = false ∧ trimSuffix (showB n) [c] = showB n := by
  unfold showB
  split
  · have e : maxB = [109, 97] ++ [120] := rfl
    rw [e]; exact ⟨suffix_miss (Ne.symm hx), trim_miss (Ne.symm hx)⟩
  · exact itoa_noK n hc

theorem itoa_ne_max (n : Int) : itoa n ≠ maxB := by
  obtain ⟨t, d, e, h1, h2⟩ := itoa_last n
  intro h
  rw [e] at h
  have := congrArg List.getLast? h
  simp [maxB] at this
  subst this
  revert h2; decide

/-- A limit that is shown is read again. -/
theorem lim_show (n : Int) : lim (showB n) = if 0 ≤ n ∧ n ≤ 1099511627776 then some n else none := by
  unfold showB
  by_cases hm : n = 1099511627776
  · rw [if_pos hm, hm]; rfl
  · rw [if_neg hm]
    unfold lim
    obtain ⟨hk1, hk2⟩ := itoa_noK n (c := 75) (by decide)
    rw [if_neg (itoa_ne_max n), hk1, hk2]
    by_cases hneg : n < 0
    · have hd : digs (itoa n) = none := by
        unfold digs
        rw [if_neg]
        unfold itoa digOk
        rw [if_pos hneg]
        simp [isDig]
      rw [hd, if_neg (by omega)]
    · have e : itoa n = decDigits n.toNat := by unfold itoa; rw [if_neg hneg]
      rw [e]
      by_cases hl : (decDigits n.toNat).length ≤ 13
      · rw [digs_dec hl]
        simp only [Bool.false_eq_true, if_false]
        by_cases hle : n.toNat ≤ 1099511627776
        · rw [if_pos hle, if_pos (by omega)]; congr 1; omega
        · rw [if_neg hle, if_neg (by omega)]
      · have hd : digs (decDigits n.toNat) = none := by
          unfold digs
          rw [if_neg]
          unfold digOk
          simp [hl]
        rw [hd, if_neg]
        intro hh
        exact hl (len13 (by omega))

theorem lim_kilo (n : Int) (h0 : 0 ≤ n) (h1 : n ≤ 1073741824) : lim (showB n ++ [75]) = some (1024 * n) := by
  have e : showB n = decDigits n.toNat := by
    unfold showB itoa
    rw [if_neg (by omega), if_neg (by omega)]
  rw [e]
  unfold lim
  rw [suffix_hit, trim_hit, digs_dec (len13 (by omega)), if_neg]
  · simp only [if_true]
    rw [if_pos (by omega)]; congr 1; omega
  · intro h
    have := congrArg List.getLast? h
    simp [maxB] at this

end Go.Ct
