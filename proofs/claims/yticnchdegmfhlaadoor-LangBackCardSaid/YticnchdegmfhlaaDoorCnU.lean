/- The document's way to read a stat, in plain words. -/
import Derived.Test.YticnchdegmfhlaaDoorCnQ
namespace Go.Ct
open Go Go.Lib Go.Sp

theorem wr_mod (x : Int) : ∃ q : Int, IntKind.i64.wrap x = x + q * 18446744073709551616 ∧ i64 (IntKind.i64.wrap x) := by
  unfold IntKind.wrap i64
  simp only [IntKind.signed, IntKind.bits, Bool.true_and]
  by_cases hc : x % 2 ^ 64 ≥ 2 ^ (64 - 1)
  · rw [if_pos (by simpa using hc)]
    exact ⟨-(x / 18446744073709551616) - 1, by omega, by omega, by omega⟩
  · rw [if_neg (by simpa using hc)]
    exact ⟨-(x / 18446744073709551616), by omega, by omega, by omega⟩
theorem wr_i64 (x : Int) : i64 (IntKind.i64.wrap x) := let ⟨_, _, h⟩ := wr_mod x; h
theorem wr_eq {x y : Int} (q : Int) (h : x = y + q * 18446744073709551616) : IntKind.i64.wrap x = IntKind.i64.wrap y := by
  obtain ⟨a, ha, ha2⟩ := wr_mod x
  obtain ⟨b, hb, hb2⟩ := wr_mod y
  unfold i64 at ha2 hb2
  omega

def valF (acc : Int) (s : Bytes) : Int := s.foldl (fun n c => if isDig c then IntKind.i64.wrap (IntKind.i64.wrap (n * 10) + (c.toNat - 48 : Nat)) else n) acc
def value (s : Bytes) : Int := if s[0]? = some 45 then IntKind.i64.wrap (0 - valF 0 s) else valF 0 s

theorem valF_append (a : Int) (s t : Bytes) : valF a (s ++ t) = valF (valF a s) t := by simp [valF]
theorem valF_one (a : Int) (c : UInt8) : valF a [c] = if isDig c then IntKind.i64.wrap (IntKind.i64.wrap (a * 10) + (c.toNat - 48 : Nat)) else a := by simp [valF]
theorem isDig_dig {d : Nat} (h : d < 10) : isDig (UInt8.ofNat (48 + d)) = true := by unfold isDig; rw [dig h]; simp; omega

theorem valF_dec (u : Nat) : valF 0 (decDigits u) = IntKind.i64.wrap u := by
  induction u using Nat.strongRecOn with
  | _ u ih =>
    by_cases h : u < 10
    · rw [dec_small h, valF_one, isDig_dig h, dig h, if_pos rfl]
      obtain ⟨q, hq, _⟩ := wr_mod ((0 : Int) * 10)
      exact wr_eq q (by rw [hq]; omega)
    · rw [dec_big h, valF_append, ih (u / 10) (by omega), valF_one, isDig_dig (by omega), dig (by omega), if_pos rfl]
      obtain ⟨p, hp, _⟩ := wr_mod ((u / 10 : Nat) : Int)
      obtain ⟨q, hq, _⟩ := wr_mod (IntKind.i64.wrap ((u / 10 : Nat) : Int) * 10)
      exact wr_eq (q + p * 10) (by rw [hq, hp]; omega)

theorem valF_i64 : ∀ (s : Bytes) {a : Int}, i64 a → i64 (valF a s)
  | [], a, h => h
  | c :: s, a, h => by
    have : valF a (c :: s) = valF (valF a [c]) s := by simp [valF]
    rw [this]
    refine valF_i64 s ?_
    rw [valF_one]
    split
    · exact wr_i64 _
    · exact h
theorem value_i64 (s : Bytes) : i64 (value s) := by
  unfold value
  split
  · exact wr_i64 _
  · exact valF_i64 s ⟨by omega, by omega⟩

theorem value_itoa {n : Int} (h : i64 n) : value (itoa n) = n := by
  obtain ⟨h1, h2⟩ := h
  unfold value itoa
  by_cases hn : n < 0
  · rw [if_pos hn]
    rw [if_pos (by rfl)]
    have e : valF 0 (45 :: decDigits n.natAbs) = valF 0 (decDigits n.natAbs) := by
      have : (45 :: decDigits n.natAbs) = [45] ++ decDigits n.natAbs := rfl
      rw [this, valF_append, valF_one]
      rfl
    rw [e, valF_dec]
    obtain ⟨q, hq, _⟩ := wr_mod (n.natAbs : Int)
    rw [wr_eq (y := n) (-q) (by rw [hq]; omega)]
    exact w64 h1 h2
  · rw [if_neg hn]
    have hne : (decDigits n.toNat)[0]? ≠ some 45 := by
      intro hh
      have := dec_char n.toNat 45 (List.mem_of_getElem? hh)
      revert this; decide
    rw [if_neg hne, valF_dec, w64 (by omega) (by omega)]
    omega

/-! ### the scan -/

structure Scan where
  ns : List Bytes
  vs : List Int
  ln : Bytes
  nm : Bytes

def scanS (st : Scan) (c : UInt8) : Scan :=
  if c = 32 then ⟨st.ns, st.vs, [], st.ln⟩ else if c = 10 then ⟨st.ns ++ [st.nm], st.vs ++ [value st.ln], [], []⟩ else ⟨st.ns, st.vs, st.ln ++ [c], st.nm⟩
def scan (t : Bytes) : Scan := t.foldl scanS ⟨[], [], [], []⟩

theorem scan_plain : ∀ (s : Bytes) (st : Scan), 32 ∉ s → 10 ∉ s → s.foldl scanS st = ⟨st.ns, st.vs, st.ln ++ s, st.nm⟩
  | [], st, _, _ => by simp
  | c :: s, st, h1, h2 => by
    have e1 : c ≠ 32 := fun e => h1 (by simp [e])
    have e2 : c ≠ 10 := fun e => h2 (by simp [e])
    rw [List.foldl_cons, scan_plain s _ (fun hh => h1 (by simp [hh])) (fun hh => h2 (by simp [hh]))]
    simp [scanS, e1, e2]

theorem scan_line {x : Bytes × Int} (h : LineOk x) (ns : List Bytes) (vs : List Int) : (line x).foldl scanS ⟨ns, vs, [], []⟩ = ⟨ns ++ [x.1], vs ++ [x.2], [], []⟩ := by
  have e : line x = x.1 ++ ([32] ++ (itoa x.2 ++ [10])) := by simp [line]
  rw [e, List.foldl_append, List.foldl_append, List.foldl_append, scan_plain _ _ (word_no h.1 (by decide)) (word_no h.1 (by decide))]
  simp only [List.foldl_cons, List.foldl_nil]
  have e1 : scanS ⟨ns, vs, [] ++ x.1, []⟩ 32 = ⟨ns, vs, [], x.1⟩ := by simp [scanS]
  rw [e1, scan_plain _ _ (itoa_no (by decide)) (itoa_no (by decide))]
  have e2 : ∀ st : Scan, scanS st 10 = ⟨st.ns ++ [st.nm], st.vs ++ [value st.ln], [], []⟩ := fun st => by simp [scanS]
  rw [e2]
  simp [value_itoa h.2]

theorem scan_lines : ∀ (l : List (Bytes × Int)) (ns : List Bytes) (vs : List Int), (∀ x ∈ l, LineOk x) → (render l).foldl scanS ⟨ns, vs, [], []⟩ = ⟨ns ++ l.map (·.1), vs ++ l.map (·.2), [], []⟩
  | [], ns, vs, _ => by simp [render]
  | x :: l, ns, vs, h => by
    have e : render (x :: l) = line x ++ render l := by simp [render]
    rw [e, List.foldl_append, scan_line (h x (by simp)), scan_lines l _ _ (fun y hy => h y (by simp [hy]))]
    simp

theorem scan_render {l : List (Bytes × Int)} (h : ∀ x ∈ l, LineOk x) : scan (render l) = ⟨l.map (·.1), l.map (·.2), [], []⟩ := by
  unfold scan
  rw [scan_lines l [] [] h]; simp

/-- What is scanned is told, if it is a stat of that text. -/
theorem parse_scan (t : Bytes) (hv : ∀ v ∈ (scan t).vs, i64 v) : parse t = if stat (scan t).ns (scan t).vs = some t then some ((scan t).ns.zip (scan t).vs) else none := by
  by_cases h : stat (scan t).ns (scan t).vs = some t
  · rw [if_pos h]
    by_cases hs : statOk (scan t).ns (scan t).vs
    · rw [stat_some hs] at h
      exact parse_eq (Ok.of_stat hs hv) (Option.some.inj h)
    · rw [stat_none hs] at h; cases h
  · rw [if_neg h]
    refine parse_none (fun ⟨l, hl, e⟩ => h ?_)
    rw [← e, scan_render hl.ok]
    exact hl.stat

end Go.Ct
