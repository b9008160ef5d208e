/- What control's functions answer. -/
import Derived.Test.YtejlkhhomnoagaaDoorCnB
import Derived.Test.YtejlkhhomnoagaaDoorCnQ
import Derived.Test.YtejlkhhomnoagaaDoorRowQ
set_option maxRecDepth 100000
namespace Go.Mp
open Go Go.Vc Go.Sp Go.Proofs Go.Ct

variable {E : Env} {L : List Asn} {w : World}

theorem wrapS {k : Nat} (h : k < 4611686018427387904) : IntKind.i64.wrap ((k : Int) + 1) = ((k + 1 : Nat) : Int) := by rw [w64 (by omega) (by omega)]; omega
theorem take_succ {α : Type} {l : List α} {k : Nat} {c : α} (h : l[k]? = some c) : l.take (k + 1) = l.take k ++ [c] := by rw [List.take_add_one, h]; rfl

theorem word_bad {s : Bytes} {k : Nat} {c : UInt8} (h : s[k]? = some c) (hc : wc c = false) : word s = false := by
  unfold word
  rw [Bool.and_eq_false_iff]; left
  rw [Bool.eq_false_iff, ne_eq, List.all_eq_true]
  intro hh
  have := hh c (List.mem_of_getElem? h)
  rw [hc] at this; cases this
theorem word_end {s : Bytes} (h : ∀ c ∈ s.take s.length, wc c = true) : word s = (decide (1 ≤ s.length) && decide (s.length ≤ 40)) := by
  unfold word
  rw [List.take_length] at h
  rw [List.all_eq_true.2 h]; rfl

theorem c_Word (s : ByteArray) (hs : (bs s).length < 4611686018427387904) : Calls P fn_control_Word #[.string s] w (Ret fun v w' => v = .bool (word (bs s)) ∧ w' = w) := by
  apply of_control_Word
  unfold sh_control_Word
  refine ⟨fun x w' => ∃ k : Nat, x = k ∧ k ≤ (bs s).length ∧ (∀ c ∈ (bs s).take k, wc c = true) ∧ w' = w, fun x _ => ((bs s).length - x).toNat, ⟨0, rfl, Nat.zero_le _, by simp, rfl⟩, ?_⟩
  rintro _ x w1 ⟨k, rfl, hk, hg, rfl⟩
  rw [← bs_len]
  refine bLt (fun hlt => ?_) (fun hge => ?_)
  · obtain ⟨c, hc⟩ : ∃ c, (bs s)[k]? = some c := ⟨_, List.getElem?_eq_getElem (by omega)⟩
    refine strI k rfl hc ?_
    rw [wrapS (by omega)]
    have good : wc c = true → ∀ d ∈ (bs s).take (k + 1), wc d = true := by
      intro h d hd
      rw [take_succ hc] at hd
      rcases List.mem_append.1 hd with hd | hd
      · exact hg d hd
      · rw [List.mem_singleton.1 hd]; exact h
    repeat' first
      | refine bLt (fun _ => ?_) (fun _ => ?_)
      | refine bGt (fun _ => ?_) (fun _ => ?_)
      | refine bNe (fun _ => ?_) (fun _ => ?_)
    all_goals first
      | exact ⟨by rw [word_bad hc (by simp [wc]; omega)], rfl⟩
      | exact ⟨⟨k + 1, rfl, by omega, good (by simp [wc]; omega), rfl⟩, by dsimp only; omega⟩
  · have e : k = (bs s).length := by omega
    subst e
    have := word_end hg
    refine bLe (fun h1 => ?_) (fun h1 => ?_)
    · refine ⟨by rw [this, decide_eq_true (show 1 ≤ (bs s).length by omega), Bool.true_and]; congr 1; exact decide_eq_decide.2 (by omega), rfl⟩
    · exact ⟨by rw [this, decide_eq_false (show ¬ 1 ≤ (bs s).length by omega)]; rfl, rfl⟩

theorem c_file (s : ByteArray) : Calls P fn_control_file #[.string s] w (Ret fun v w' => v = .int .i64 (fileN (bs s)) ∧ w' = w) := by
  apply of_control_file
  unfold sh_control_file
  generalize hv : fileN (bs s) = r
  unfold fileN at hv
  refine bS (fun (e : bs s = fMin) => ⟨by rw [← hv, if_pos e], rfl⟩) (fun (h0 : bs s ≠ fMin) => ?_)
  rw [if_neg h0] at hv
  refine bS (fun (e : bs s = fLow) => ⟨by rw [← hv, if_pos e], rfl⟩) (fun (h0 : bs s ≠ fLow) => ?_)
  rw [if_neg h0] at hv
  refine bS (fun (e : bs s = fMax) => ⟨by rw [← hv, if_pos e], rfl⟩) (fun (h0 : bs s ≠ fMax) => ?_)
  rw [if_neg h0] at hv
  refine bS (fun (e : bs s = fSwap) => ⟨by rw [← hv, if_pos e], rfl⟩) (fun (h0 : bs s ≠ fSwap) => ?_)
  rw [if_neg h0] at hv
  refine bS (fun (e : bs s = fOom) => ⟨by rw [← hv, if_pos e], rfl⟩) (fun (h0 : bs s ≠ fOom) => ?_)
  rw [if_neg h0] at hv
  exact ⟨by rw [← hv], rfl⟩

theorem c_Show {n : Int} (hn : i64 n) (l : Libs w) (h : Sep E L w) : Calls P fn_control_Show #[.int .i64 n] w (Ret fun v w' => v = .string (mk (showB n)) ∧ Grow w w' ∧ Sep E L w') := by
  apply of_control_Show
  unfold sh_control_Show showB
  refine bEq (fun e => ⟨by rw [if_pos e]; rfl, Grow.refl _, h⟩) (fun hne => ?_)
  refine use (c_Itoa hn l h) ?_
  rintro _ w1 ⟨rfl, g, h1⟩
  exact ⟨_, rfl, by rw [if_neg hne], g, h1⟩

/-! ### a limit -/

theorem u8sub {c : UInt8} (h : 48 ≤ c.toNat) : IntKind.u8.wrap ((c.toNat : Int) - 48) = ((c.toNat - 48 : Nat) : Int) := by
  have := c.toNat_lt
  unfold IntKind.wrap
  simp only [IntKind.signed, IntKind.bits, Bool.false_and]
  simp
  omega
theorem u8sub_bad {c : UInt8} (h : c.toNat < 48) : IntKind.u8.wrap ((c.toNat : Int) - 48) = ((c.toNat + 208 : Nat) : Int) := by
  unfold IntKind.wrap
  simp only [IntKind.signed, IntKind.bits, Bool.false_and]
  simp
  omega
theorem dig_iff (c : UInt8) : (IntKind.u8.wrap ((c.toNat : Int) - 48) > 9) ↔ isDig c = false := by
  have := c.toNat_lt
  by_cases h : 48 ≤ c.toNat
  · rw [u8sub h]; simp [isDig]; omega
  · rw [u8sub_bad (by omega)]; simp [isDig]; omega

theorem dec_take {s : Bytes} {k : Nat} {c : UInt8} (hk : k < 13) (hc : s[k]? = some c) (hg : ∀ d ∈ s.take k, isDig d = true) (hd : isDig c = true) :
    IntKind.i64.wrap (IntKind.i64.wrap ((dec (s.take k) : Int) * 10) + IntKind.i64.wrap (IntKind.u8.wrap ((c.toNat : Int) - 48))) = (dec (s.take (k + 1)) : Int) ∧ (∀ d ∈ s.take (k + 1), isDig d = true) := by
  have h1 := dec_lt hg
  have h2 : 10 ^ (s.take k).length ≤ 10 ^ 12 := Nat.pow_le_pow_right (by decide) (by simp; omega)
  have e : (10 : Nat) ^ 12 = 1000000000000 := by decide
  have hd' := hd
  simp [isDig] at hd'
  rw [u8sub hd'.1, take_succ hc, dec_snoc]
  have := c.toNat_lt
  rw [w64 (n := (dec (s.take k) : Int) * 10) (by omega) (by omega), w64 (n := ((c.toNat - 48 : Nat) : Int)) (by omega) (by omega), w64 (by omega) (by omega)]
  refine ⟨by omega, fun d hm => ?_⟩
  rcases List.mem_append.1 hm with hm | hm
  · exact hg d hm
  · rw [List.mem_singleton.1 hm]; exact hd

theorem digs_bad {s : Bytes} {k : Nat} {c : UInt8} (h : s[k]? = some c) (hc : isDig c = false) : digs s = none := by
  unfold digs
  rw [if_neg]
  unfold digOk
  simp only [Bool.and_eq_true, List.all_eq_true]
  rintro ⟨_, _, _, hh⟩
  have := hh c (List.mem_of_getElem? h)
  rw [hc] at this; cases this

def LimEnd (s : Bytes) (v : Value) : Prop := ∃ (n : Int) (ok : Bool), v = .tuple #[.int .i64 n, .bool ok] ∧ lim s = if ok then some n else none

theorem lim_digs {s : Bytes} (hm : s ≠ maxB) {n : Nat} (hd : digs (Lib.trimSuffix s [75]) = some n) (hn : n < 10000000000000) {v : Value}
    (hv : v = if Lib.hasSuffix s [75] then .tuple #[.int .i64 (n * 1024 : Nat), .bool (decide (((n * 1024 : Nat) : Int) ≤ 1099511627776))] else .tuple #[.int .i64 n, .bool (decide ((n : Int) ≤ 1099511627776))]) : LimEnd s v := by
  subst hv
  unfold LimEnd lim
  rw [if_neg hm, hd]
  by_cases hk : Lib.hasSuffix s [75] = true
  · rw [hk]
    refine ⟨_, _, rfl, ?_⟩
    simp only [if_true, decide_eq_true_eq]
    by_cases h : n * 1024 ≤ 1099511627776
    · rw [if_pos h, if_pos (by omega)]
    · rw [if_neg h, if_neg (by omega)]
  · rw [Bool.not_eq_true] at hk
    rw [hk]
    refine ⟨_, _, rfl, ?_⟩
    simp only [Bool.false_eq_true, if_false, decide_eq_true_eq]
    by_cases h : n ≤ 1099511627776
    · rw [if_pos h, if_pos (by omega)]
    · rw [if_neg h, if_neg (by omega)]

theorem lim_bad {s : Bytes} (hm : s ≠ maxB) (hd : digs (Lib.trimSuffix s [75]) = none) : LimEnd s (.tuple #[.int .i64 0, .bool false]) := by
  refine ⟨0, false, rfl, ?_⟩
  unfold lim
  rw [if_neg hm, hd]; rfl

theorem digs_all {s : Bytes} (h0 : s ≠ []) (h1 : s.length ≤ 13) (h2 : ¬ (s[0]? = some 48 ∧ 1 < s.length)) (h3 : ∀ d ∈ s.take s.length, isDig d = true) : digs s = some (dec (s.take s.length)) ∧ dec (s.take s.length) < 10000000000000 := by
  rw [List.take_length] at h3 ⊢
  constructor
  · unfold digs
    rw [if_pos]
    unfold digOk
    simp only [Bool.and_eq_true, decide_eq_true_eq, Bool.not_eq_true', List.all_eq_true]
    refine ⟨h0, h1, ?_, h3⟩
    rw [Bool.eq_false_iff]
    simp only [ne_eq, Bool.and_eq_true, decide_eq_true_eq]; exact h2
  · have a := dec_lt h3
    have b : 10 ^ s.length ≤ 10 ^ 13 := Nat.pow_le_pow_right (by decide) h1
    have e : (10 : Nat) ^ 13 = 10000000000000 := by decide
    omega
theorem digs_no {s : Bytes} (h : s = [] ∨ 13 < s.length ∨ (s[0]? = some 48 ∧ 1 < s.length)) : digs s = none := by
  unfold digs
  rw [if_neg]
  unfold digOk
  simp only [Bool.and_eq_true, decide_eq_true_eq, Bool.not_eq_true']
  rintro ⟨a, b, c, _⟩
  rcases h with h | h | h
  · exact a h
  · omega
  · rw [decide_eq_true h.1, decide_eq_true h.2] at c; cases c

theorem c_limit (s : ByteArray) (hs : (bs s).length < 4611686018427387904) (h : Sep E L w) : Calls P fn_control_limit #[.string s] w (Ret fun v w' => LimEnd (bs s) v ∧ Sep E L w') := by
  apply of_control_limit
  unfold sh_control_limit
  refine ⟨fun x k n i w' => bs x = Lib.trimSuffix (bs s) [75] ∧ k = Lib.hasSuffix (bs s) [75] ∧ bs s ≠ maxB ∧ bs x ≠ [] ∧ (bs x).length ≤ 13 ∧ ¬ ((bs x)[0]? = some 48 ∧ 1 < (bs x).length) ∧ ∃ j : Nat, i = j ∧ j ≤ (bs x).length ∧ (∀ d ∈ (bs x).take j, isDig d = true) ∧ n = (dec ((bs x).take j) : Int) ∧ Sep E L w',
    fun x _ _ i _ => ((bs x).length - i).toNat, ?_, ?_⟩
  · refine bS (fun (e : bs s = maxB) => ⟨⟨_, true, rfl, ?_⟩, h⟩) (fun (hm : bs s ≠ maxB) => ?_)
    · unfold lim; rw [if_pos e]; rfl
    · refine use (c_CutSuffix s _ (by rw [← bs_len]; omega) h) ?_
      rintro _ w1 ⟨rfl, h1⟩
      refine ⟨_, _, rfl, ?_⟩
      have hm' : bs s ≠ maxB := hm
      have e75 : bs (ByteArray.mk #[75]) = [75] := rfl
      rw [e75]
      generalize hx : mk (Lib.trimSuffix (bs s) [75]) = x
      have hx' : bs x = Lib.trimSuffix (bs s) [75] := by rw [← hx]
      refine bS (fun e => ⟨lim_bad hm' (digs_no (.inl (by rw [← hx']; exact e))), h1⟩) (fun hne => ?_)
      rw [← bs_len]
      refine bGt (fun hgt => ⟨lim_bad hm' (digs_no (.inr (.inl (by rw [← hx']; omega)))), h1⟩) (fun hle => ?_)
      have hne' : bs x ≠ [] := hne
      have hpos : 0 < (bs x).length := by
        rcases Nat.eq_zero_or_pos (bs x).length with h0 | h0
        · exact absurd (List.eq_nil_of_length_eq_zero h0) hne'
        · exact h0
      obtain ⟨c, hc⟩ : ∃ c, (bs x)[0]? = some c := ⟨_, List.getElem?_eq_getElem hpos⟩
      have step : ¬ ((bs x)[0]? = some 48 ∧ 1 < (bs x).length) → bif (decide ((0 : Int) < ((bs x).length : Int))) then (strAt x 0 fun b14 => bif (decide ((IntKind.u8.wrap (b14 - 48)) > 9)) then
          (LimEnd (bs s) (.tuple #[.int .i64 0, .bool false]) ∧ Sep E L w1) else
          (bs x = Lib.trimSuffix (bs s) [75] ∧ Lib.hasSuffix (bs s) [75] = Lib.hasSuffix (bs s) [75] ∧ bs s ≠ maxB ∧ bs x ≠ [] ∧ (bs x).length ≤ 13 ∧ ¬ ((bs x)[0]? = some 48 ∧ 1 < (bs x).length) ∧ ∃ j : Nat, IntKind.i64.wrap (0 + 1) = j ∧ j ≤ (bs x).length ∧ (∀ d ∈ (bs x).take j, isDig d = true) ∧
            IntKind.i64.wrap (IntKind.i64.wrap (0 * 10) + IntKind.i64.wrap (IntKind.u8.wrap (b14 - 48))) = (dec ((bs x).take j) : Int) ∧ Sep E L w1)) else
          (bif (Lib.hasSuffix (bs s) [75]) then (LimEnd (bs s) (.tuple #[.int .i64 (IntKind.i64.wrap (0 * 1024)), .bool (decide ((IntKind.i64.wrap (0 * 1024)) ≤ 1099511627776))]) ∧ Sep E L w1) else (LimEnd (bs s) (.tuple #[.int .i64 0, .bool (decide ((0 : Int) ≤ 1099511627776))]) ∧ Sep E L w1)) := by
        intro h48
        refine bLt (fun _ => ?_) (fun hh => by omega)
        refine strI 0 rfl hc ?_
        refine bifI (fun hh => ?_) (fun hh => ?_)
        · refine ⟨lim_bad hm' ?_, h1⟩
          rw [← hx']
          exact digs_bad hc ((dig_iff c).1 (by simpa using hh))
        · have hd : isDig c = true := by
            cases hd : isDig c with
            | true => rfl
            | false => have := (dig_iff c).2 hd; simp at hh; omega
          obtain ⟨e1, e2⟩ := dec_take (k := 0) (by omega) hc (by simp) hd
          exact ⟨hx', rfl, hm', hne', by omega, h48, 1, rfl, by omega, e2, e1, h1⟩
      refine strI 0 rfl hc ?_
      refine bEq (fun e48 => ?_) (fun hne48 => ?_)
      · have hc48 : (bs x)[0]? = some 48 := by rw [hc]; congr 1; exact UInt8.toNat_inj.1 (by have e9 : (48 : UInt8).toNat = 48 := rfl; omega)
        refine bGt (fun hgt => ⟨lim_bad hm' (digs_no (.inr (.inr ⟨by rw [← hx']; exact hc48, by rw [← hx']; omega⟩))), h1⟩) (fun hle2 => ?_)
        exact step (fun hh => by omega)
      · exact step (fun hh => by
          rw [hc] at hh
          have := Option.some.inj hh.1
          subst this
          exact hne48 rfl)
  · rintro _ x k n i w1 ⟨hx, rfl, hm, hne, hlen, h48, j, rfl, hj, hg, rfl, h1⟩
    rw [← bs_len]
    refine bLt (fun hlt => ?_) (fun hge => ?_)
    · obtain ⟨c, hc⟩ : ∃ c, (bs x)[j]? = some c := ⟨_, List.getElem?_eq_getElem (by omega)⟩
      refine strI j rfl hc ?_
      refine bifI (fun hh => ?_) (fun hh => ?_)
      · refine ⟨lim_bad hm ?_, h1⟩
        rw [← hx]
        exact digs_bad hc ((dig_iff c).1 (by simpa using hh))
      · have hd : isDig c = true := by
          cases hd : isDig c with
          | true => rfl
          | false => have := (dig_iff c).2 hd; simp at hh; omega
        obtain ⟨e1, e2⟩ := dec_take (by omega) hc hg hd
        rw [wrapS (by omega)]
        exact ⟨⟨hx, rfl, hm, hne, hlen, h48, j + 1, rfl, by omega, e2, e1, h1⟩, by dsimp only; omega⟩
    · have e : j = (bs x).length := by omega
      subst e
      obtain ⟨e1, e2⟩ := digs_all hne hlen h48 hg
      rw [hx] at e1
      refine bifI (fun hk => ?_) (fun hk => ?_)
      · refine ⟨lim_digs hm e1 (by rw [← hx]; exact e2) ?_, h1⟩
        rw [hk, w64 (by omega) (by omega), ← hx]; simp
      · refine ⟨lim_digs hm e1 (by rw [← hx]; exact e2) ?_, h1⟩
        rw [hk, ← hx]; simp

theorem c_Read (name text : ByteArray) (hs : (bs text).length < 4611686018427387904) (h : Sep E L w) : Calls P fn_control_Read #[.string name, .string text] w
    (Ret fun v w' => v = .tuple #[.int .i64 (Ct.read (bs name) (bs text)).1, .int .i64 (Ct.read (bs name) (bs text)).2.1, .int .i64 (Ct.read (bs name) (bs text)).2.2] ∧ Sep E L w') := by
  apply of_control_Read
  unfold sh_control_Read
  refine use (c_file name) ?_
  rintro _ w1 ⟨rfl, rfl⟩
  refine ⟨_, rfl, ?_⟩
  unfold Ct.read
  refine bLt (fun h0 => ⟨by rw [if_pos h0], h⟩) (fun h0 => ?_)
  rw [if_neg (by omega)]
  refine use (c_Trim text _ (by rw [← bs_len]; omega) h) ?_
  rintro _ w2 ⟨rfl, h2⟩
  refine ⟨_, rfl, ?_⟩
  have hl : (bs (mk (Lib.trimSuffix (bs text) [10]))).length < 4611686018427387904 := by
    have := Lib.trimSuffix_le (bs text) [10]
    rw [bs_mk]; omega
  refine use (c_limit (mk (Lib.trimSuffix (bs text) [10])) hl h2) ?_
  rintro _ w3 ⟨⟨n, ok, rfl, hlim⟩, h3⟩
  refine ⟨_, _, rfl, ?_⟩
  rw [bs_mk] at hlim
  rw [hlim]
  have e10 : bs (ByteArray.mk #[10]) = [10] := rfl
  cases ok with
  | false => exact ⟨by simp, h3⟩
  | true =>
    simp only [Bool.not_true, cond_false, if_true]
    refine bEq (fun h4 => ?_) (fun h4 => ⟨by rw [if_neg (fun hh => h4 hh.1)], h3⟩)
    refine bSn (fun ha => ?_) (fun ha => ⟨by rw [if_neg (fun hh => hh.2.1 ha)], h3⟩)
    refine bSn (fun hb => ⟨by rw [if_pos ⟨h4, ha, hb⟩], h3⟩) (fun hb => ⟨by rw [if_neg (fun hh => hh.2.2 hb)], h3⟩)

end Go.Mp
