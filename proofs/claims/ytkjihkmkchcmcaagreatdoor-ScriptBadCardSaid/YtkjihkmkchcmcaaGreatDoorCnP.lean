/- Control files, in plain words: no program in sight. -/
import Derived.Lib.ItoaLen
import Derived.Lib.AtoiAll
import Derived.Lib.AtoiAllCases
import Derived.Lib.IndexMore
import Derived.Lib.IndexLaws
import Derived.Lib.IndexBytes
import Derived.Lib.Strings
import Derived.Test.YtkjihkmkchcmcaaGreatDoorEff
namespace Go.Ct
open Go.Lib

abbrev Bytes := List UInt8
def i64 (n : Int) : Prop := -9223372036854775808 ≤ n ∧ n ≤ 9223372036854775807

def wc (c : UInt8) : Bool := (decide (97 ≤ c.toNat) && decide (c.toNat ≤ 122)) || ((decide (48 ≤ c.toNat) && decide (c.toNat ≤ 57)) || decide (c.toNat = 95))
def word (s : Bytes) : Bool := s.all wc && (decide (1 ≤ s.length) && decide (s.length ≤ 40))

def line (x : Bytes × Int) : Bytes := x.1 ++ 32 :: (itoa x.2 ++ [10])
def render (l : List (Bytes × Int)) : Bytes := (l.map line).flatten

/-! ### numerals -/

theorem dig {d : Nat} (h : d < 10) : (UInt8.ofNat (48 + d)).toNat = 48 + d := by
  show (48 + d) % 2 ^ 8 = 48 + d
  omega

theorem dec_small {u : Nat} (h : u < 10) : decDigits u = [UInt8.ofNat (48 + u)] := by rw [decDigits, dif_pos h]
theorem dec_big {u : Nat} (h : ¬ u < 10) : decDigits u = decDigits (u / 10) ++ [UInt8.ofNat (48 + u % 10)] := by rw [decDigits, dif_neg h]

theorem dec_char (u : Nat) : ∀ c ∈ decDigits u, 48 ≤ c.toNat ∧ c.toNat ≤ 57 := by
  induction u using Nat.strongRecOn with
  | _ u ih =>
    intro c hc
    by_cases h : u < 10
    · rw [dec_small h] at hc
      rw [List.mem_singleton.1 hc, dig h]; omega
    · rw [dec_big h] at hc
      rcases List.mem_append.1 hc with hc | hc
      · exact ih (u / 10) (by omega) c hc
      · rw [List.mem_singleton.1 hc, dig (by omega)]; omega

theorem dec_pos (u : Nat) : 1 ≤ (decDigits u).length := by rw [decDigits_length]; exact nDigits_pos u

theorem itoa_char (n : Int) : ∀ c ∈ itoa n, c.toNat = 45 ∨ (48 ≤ c.toNat ∧ c.toNat ≤ 57) := by
  intro c hc
  unfold itoa at hc
  split at hc
  · rcases List.mem_cons.1 hc with rfl | hc
    · left; rfl
    · exact .inr (dec_char _ c hc)
  · exact .inr (dec_char _ c hc)

theorem itoa_no {n : Int} {c : UInt8} (hc : c.toNat < 45) : c ∉ itoa n := fun h => by
  rcases itoa_char n c h with h | h <;> omega

theorem parse_append : ∀ (l r : List UInt8) (acc a : Nat), parseUint10 acc l = .ok a → parseUint10 acc (l ++ r) = parseUint10 a r
  | [], r, acc, a, h => by
    simp only [parseUint10] at h
    injection h with h
    rw [h]; rfl
  | c :: l, r, acc, a, h => by
    simp only [List.cons_append, parseUint10] at h ⊢
    split at h
    · next h1 =>
      split at h
      · cases h
      · next h2 =>
        split at h
        · cases h
        · next h3 =>
          rw [if_pos h1, if_neg h2, if_neg h3]
          exact parse_append l r _ _ h
    · cases h

theorem parse_dec (u : Nat) (hu : u < 18446744073709551616) : parseUint10 0 (decDigits u) = .ok u := by
  induction u using Nat.strongRecOn with
  | _ u ih =>
    by_cases h : u < 10
    · rw [dec_small h]
      simp only [parseUint10, dig h]
      rw [if_pos (by omega), if_neg (by omega), if_neg (by omega)]
      congr 1; omega
    · rw [dec_big h, parse_append _ _ _ _ (ih (u / 10) (by omega) (by omega))]
      simp only [parseUint10, dig (show u % 10 < 10 by omega)]
      rw [if_pos (by omega), if_neg (by omega), if_neg (by omega)]
      congr 1; omega

theorem mag_dec (u : Nat) (hu : u < 18446744073709551616) : parseMag (decDigits u) = .ok u := by
  unfold parseMag
  rw [if_neg (fun e => by have := dec_pos u; rw [e] at this; simp at this), parse_dec u hu]

theorem atoi_itoa {n : Int} (h : i64 n) : atoiAll (itoa n) = .ok n := by
  obtain ⟨h1, h2⟩ := h
  unfold itoa
  split
  · rw [atoiAll_minus, mag_dec _ (by omega)]
    simp only [signed]
    rw [if_neg (by omega)]
    congr 1; omega
  · obtain ⟨c, r, e⟩ : ∃ c r, decDigits n.toNat = c :: r := by
      cases e : decDigits n.toNat with
      | nil => have := dec_pos n.toNat; rw [e] at this; simp at this
      | cons c r => exact ⟨c, r, rfl⟩
    have hc := dec_char n.toNat c (by rw [e]; simp)
    rw [e, atoiAll_plain c r (by omega) (by omega), ← e, mag_dec _ (by omega)]
    simp only [signless]
    rw [if_neg (by omega)]
    congr 1; omega

theorem itoa_inj {a b : Int} (ha : i64 a) (hb : i64 b) (h : itoa a = itoa b) : a = b := by
  have := atoi_itoa ha
  rw [h, atoi_itoa hb] at this
  injection this with e; exact e.symm

/-! ### cut -/

theorem index_hit1 (a b : List UInt8) (c : UInt8) (h : c ∉ a) : index (a ++ c :: b) [c] = a.length := by
  rw [index_one]
  induction a with
  | nil => simp [indexByte]
  | cons x a ih =>
    have hx : x ≠ c := fun e => h (by simp [e])
    have ih := ih (fun hh => h (by simp [hh]))
    simp only [List.cons_append, indexByte, ih]
    rw [if_neg (by simpa using hx), if_neg (by simp)]
    simp
theorem index_miss1 (s : List UInt8) (c : UInt8) (h : c ∉ s) : index s [c] = -1 := by
  rw [index_one]
  induction s with
  | nil => rfl
  | cons x a ih =>
    have hx : x ≠ c := fun e => h (by simp [e])
    have ih := ih (fun hh => h (by simp [hh]))
    simp only [indexByte, ih]
    rw [if_neg (by simpa using hx)]
    simp
theorem cut_hit (a b : List UInt8) (c : UInt8) (h : c ∉ a) : cut (a ++ c :: b) [c] = (a, b, true) := by
  unfold cut
  rw [index_hit1 a b c h, if_pos (by omega)]
  have e : a ++ c :: b = (a ++ [c]) ++ b := by simp
  simp only [Int.toNat_natCast, List.length_singleton, List.take_left']
  rw [e, List.drop_left' (by simp)]
theorem cut_miss (s : List UInt8) (c : UInt8) (h : c ∉ s) : cut s [c] = (s, [], false) := by
  unfold cut
  rw [index_miss1 s c h, if_neg (by omega)]
theorem cut_cases (s : List UInt8) (c : UInt8) : (∃ a b, s = a ++ c :: b ∧ c ∉ a ∧ cut s [c] = (a, b, true)) ∨ (c ∉ s ∧ cut s [c] = (s, [], false)) := by
  by_cases h : c ∈ s
  · obtain ⟨a, b, e, hn⟩ := List.eq_append_cons_of_mem h
    exact .inl ⟨a, b, e, hn, by rw [e]; exact cut_hit a b c hn⟩
  · exact .inr ⟨h, cut_miss s c h⟩

/-! ### lines -/

theorem word_no {s : Bytes} {c : UInt8} (h : word s = true) (hc : c.toNat < 48) : c ∉ s := fun hm => by
  unfold word at h
  simp only [Bool.and_eq_true, List.all_eq_true] at h
  have := h.1 c hm
  unfold wc at this
  simp at this
  omega
theorem word_len {s : Bytes} (h : word s = true) : 1 ≤ s.length ∧ s.length ≤ 40 := by
  unfold word at h
  simp at h
  exact ⟨h.2.1, h.2.2⟩

def LineOk (x : Bytes × Int) : Prop := word x.1 = true ∧ i64 x.2

theorem line_cut {x : Bytes × Int} (h : LineOk x) (r : Bytes) : cut (line x ++ r) [10] = (x.1 ++ 32 :: itoa x.2, r, true) := by
  have e : line x ++ r = (x.1 ++ 32 :: itoa x.2) ++ 10 :: r := by simp [line]
  rw [e]
  refine cut_hit _ _ _ (fun hm => ?_)
  rcases List.mem_append.1 hm with hm | hm
  · exact word_no h.1 (by decide) hm
  · rcases List.mem_cons.1 hm with hm | hm
    · exact absurd hm (by decide)
    · exact itoa_no (by decide) hm
theorem line_cut2 {x : Bytes × Int} (h : LineOk x) : cut (x.1 ++ 32 :: itoa x.2) [32] = (x.1, itoa x.2, true) := cut_hit _ _ _ (word_no h.1 (by decide))

theorem line_det {x y : Bytes × Int} {r r' : Bytes} (hx : LineOk x) (hy : LineOk y) (h : line x ++ r = line y ++ r') : x = y ∧ r = r' := by
  have e1 := line_cut hx r
  rw [h, line_cut hy r'] at e1
  simp only [Prod.mk.injEq] at e1
  obtain ⟨e1, rfl, _⟩ := e1
  have e2 := line_cut2 hx
  rw [← e1, line_cut2 hy] at e2
  simp only [Prod.mk.injEq] at e2
  obtain ⟨e2, e3, _⟩ := e2
  exact ⟨Prod.ext e2.symm (itoa_inj hx.2 hy.2 e3.symm), rfl⟩

theorem line_ne (x : Bytes × Int) (r : Bytes) : line x ++ r ≠ [] := by simp [line]

theorem render_det : ∀ {l l' : List (Bytes × Int)} {r : Bytes}, (∀ x ∈ l, LineOk x) → (∀ x ∈ l', LineOk x) → render l' = render l ++ r → ∃ m, l' = l ++ m ∧ render m = r
  | [], l', r, _, _, h => ⟨l', rfl, by simpa [render] using h⟩
  | x :: l, [], r, _, _, h => absurd h.symm (by
    have : render (x :: l) ++ r = line x ++ (render l ++ r) := by simp [render]
    rw [this]; exact line_ne _ _)
  | x :: l, y :: l', r, h1, h2, h => by
    have e1 : render (x :: l) ++ r = line x ++ (render l ++ r) := by simp [render]
    have e2 : render (y :: l') = line y ++ render l' := by simp [render]
    rw [e1, e2] at h
    obtain ⟨e, h3⟩ := line_det (h2 y (by simp)) (h1 x (by simp)) h
    obtain ⟨m, e4, hm⟩ := render_det (fun z hz => h1 z (List.mem_cons_of_mem _ hz)) (fun z hz => h2 z (List.mem_cons_of_mem _ hz)) h3
    exact ⟨m, by rw [e, e4]; rfl, hm⟩

theorem render_append (l m : List (Bytes × Int)) : render (l ++ m) = render l ++ render m := by simp [render]
theorem render_one (x : Bytes × Int) : render [x] = line x := by simp [render]

structure Ok (l : List (Bytes × Int)) : Prop where
  len : l.length ≤ 100
  nd : (l.map (·.1)).Nodup
  ok : ∀ x ∈ l, LineOk x

theorem Ok.nil : Ok [] := ⟨by simp, by simp, by simp⟩
theorem Ok.snoc {l : List (Bytes × Int)} {x : Bytes × Int} (h : Ok l) (hx : LineOk x) (hn : x.1 ∉ l.map (·.1)) (hl : l.length < 100) : Ok (l ++ [x]) := by
  refine ⟨by simp; omega, ?_, fun y hy => ?_⟩
  · rw [List.map_append, List.nodup_append]
    refine ⟨h.nd, by simp, fun a ha b hb => ?_⟩
    have hb : b = x.1 := by simpa using hb
    subst hb
    intro e; exact hn (e ▸ ha)
  · rcases List.mem_append.1 hy with hy | hy
    · exact h.ok y hy
    · rw [List.mem_singleton.1 hy]; exact hx
theorem Ok.pre {l m : List (Bytes × Int)} (h : Ok (l ++ m)) : Ok l := by
  refine ⟨by have := h.len; simp at this; omega, ?_, fun x hx => h.ok x (by simp [hx])⟩
  have := h.nd
  rw [List.map_append, List.nodup_append] at this
  exact this.1

theorem Ok.uniq {l l' : List (Bytes × Int)} (h : Ok l) (h' : Ok l') (e : render l' = render l) : l' = l := by
  obtain ⟨m, rfl, hm⟩ := render_det (r := []) h.ok h'.ok (by simpa using e)
  cases m with
  | nil => simp
  | cons x m => exact absurd hm (by simp only [render, List.map_cons, List.flatten_cons]; exact line_ne _ _)

/-- One more line of a stat. -/
structure Step (l : List (Bytes × Int)) (rest : Bytes) (x : Bytes × Int) (more : Bytes) : Prop where
  eq : rest = line x ++ more
  ok : LineOk x
  new : x.1 ∉ l.map (·.1)
  few : l.length < 100

theorem step_of {l l' : List (Bytes × Int)} {rest : Bytes} (h : Ok l) (h' : Ok l') (e : render l' = render l ++ rest) (hr : rest ≠ []) : ∃ x more, Step l rest x more := by
  obtain ⟨m, rfl, hm⟩ := render_det h.ok h'.ok e
  cases m with
  | nil => exact absurd hm.symm (by simpa [render] using hr)
  | cons x m =>
    refine ⟨x, render m, by rw [← hm]; simp [render], h'.ok x (by simp), ?_, by have := h'.len; simp at this; omega⟩
    have hnd := h'.nd
    rw [List.map_append, List.nodup_append] at hnd
    intro hx
    exact hnd.2.2 x.1 hx x.1 (by simp) rfl

/-- What a stat's text tells. -/
noncomputable def parse (t : Bytes) : Option (List (Bytes × Int)) := by
  classical exact if h : ∃ l, Ok l ∧ render l = t then some h.choose else none

theorem parse_eq {l : List (Bytes × Int)} {t : Bytes} (h : Ok l) (e : render l = t) : parse t = some l := by
  unfold parse
  have hx : ∃ l, Ok l ∧ render l = t := ⟨l, h, e⟩
  rw [dif_pos hx]
  congr 1
  exact h.uniq hx.choose_spec.1 (hx.choose_spec.2.trans e.symm)
theorem parse_none {t : Bytes} (h : ¬ ∃ l, Ok l ∧ render l = t) : parse t = none := by
  unfold parse
  rw [dif_neg h]
theorem parse_some {l : List (Bytes × Int)} {t : Bytes} (h : parse t = some l) : Ok l ∧ render l = t := by
  unfold parse at h
  split at h
  · next hx =>
    simp only [Option.some.injEq] at h
    exact h ▸ hx.choose_spec
  · cases h

/-- A stat's text. -/
def statOk (ns : List Bytes) (vs : List Int) : Prop := ns.length = vs.length ∧ ns.length ≤ 100 ∧ (∀ s ∈ ns, word s = true) ∧ ns.Nodup
noncomputable def stat (ns : List Bytes) (vs : List Int) : Option Bytes := by
  classical exact if statOk ns vs then some (render (ns.zip vs)) else none

theorem stat_some {ns : List Bytes} {vs : List Int} (h : statOk ns vs) : stat ns vs = some (render (ns.zip vs)) := by unfold stat; rw [if_pos h]
theorem stat_none {ns : List Bytes} {vs : List Int} (h : ¬ statOk ns vs) : stat ns vs = none := by unfold stat; rw [if_neg h]

theorem zip_fst {ns : List Bytes} {vs : List Int} (h : ns.length = vs.length) : (ns.zip vs).map (·.1) = ns := by
  rw [List.map_fst_zip (by omega)]
theorem zip_snd {ns : List Bytes} {vs : List Int} (h : ns.length = vs.length) : (ns.zip vs).map (·.2) = vs := by
  rw [List.map_snd_zip (by omega)]

theorem Ok.of_stat {ns : List Bytes} {vs : List Int} (h : statOk ns vs) (hv : ∀ v ∈ vs, i64 v) : Ok (ns.zip vs) := by
  refine ⟨by rw [List.length_zip]; have := h.1; have := h.2.1; omega, by rw [zip_fst h.1]; exact h.2.2.2, fun x hx => ?_⟩
  obtain ⟨a, b⟩ := x
  have := List.of_mem_zip hx
  exact ⟨h.2.2.1 a this.1, hv b this.2⟩
theorem Ok.stat {l : List (Bytes × Int)} (h : Ok l) : stat (l.map (·.1)) (l.map (·.2)) = some (render l) := by
  have e : (l.map (·.1)).zip (l.map (·.2)) = l := by
    rw [List.zip_map']; simp
  rw [stat_some, e]
  exact ⟨by simp, by simpa using h.len, fun s hs => by
    obtain ⟨x, hx, rfl⟩ := List.mem_map.1 hs
    exact (h.ok x hx).1, h.nd⟩

end Go.Ct
