/- The document's answers for lang: a line, a text that is read. -/
import Derived.Test.YticnchdegmfhlaaDoorLnR
set_option maxRecDepth 100000
namespace Go.Mp
open Go Go.Vc Go.Sp Go.Proofs Go.Ct Go.Lg

variable {E : Env} {L : List Asn} {w W : World}

theorem u8sub {c : UInt8} (h : 48 ≤ c.toNat) : IntKind.u8.wrap ((c.toNat : Int) - 48) = ((c.toNat - 48 : Nat) : Int) := by
  have := c.toNat_lt
  unfold IntKind.wrap
  simp only [IntKind.signed, IntKind.bits, Bool.false_and]
  simp
  omega

theorem valF_step {s : Bytes} {k : Nat} {c : UInt8} (hc : s[k]? = some c) : valF 0 (s.take (k + 1)) = if isDig c then IntKind.i64.wrap (IntKind.i64.wrap (valF 0 (s.take k) * 10) + (c.toNat - 48 : Nat)) else valF 0 (s.take k) := by
  rw [take_succ hc, valF_append, valF_one]

theorem r_digits (s : ByteArray) : Calls P fn_millpondref21_digits #[.string s] W (Ret fun v w' => v = .int .i64 (dgs (bs s)) ∧ w' = W) := by
  apply of_millpondref21_digits
  unfold sh_millpondref21_digits
  refine ⟨fun n x w' => ∃ j : Nat, x = j ∧ j ≤ (bs s).length ∧ j ≤ 14 ∧ n = valF 0 ((bs s).take j) ∧ w' = W, fun _ x _ => (14 - x).toNat, ⟨0, rfl, Nat.zero_le _, by omega, rfl, rfl⟩, ?_⟩
  rintro _ n x w1 ⟨j, rfl, hj, hj14, rfl, rfl⟩
  have done : (bs s).take j = (bs s).take 14 → (bs s ≠ maxB → dgs (bs s) = valF 0 ((bs s).take j)) := fun e hne => by
    unfold dgs; rw [if_neg hne, e]
  have fin : (bs s).take j = (bs s).take 14 → bif (s.toList == (ByteArray.mk #[109, 97, 120]).toList) then (Value.int .i64 1099511627776 = .int .i64 (dgs (bs s)) ∧ w1 = w1) else (Value.int .i64 (valF 0 ((bs s).take j)) = .int .i64 (dgs (bs s)) ∧ w1 = w1) := fun e =>
    bS (fun (em : bs s = maxB) => ⟨by unfold dgs; rw [if_pos em], rfl⟩) (fun (hne : bs s ≠ maxB) => ⟨by rw [done e hne], rfl⟩)
  refine ⟨fun w' => j < (bs s).length ∧ j < 14 ∧ w' = w1, ?_, ?_⟩
  · rw [← bs_len]
    refine bLt (fun h1 => ?_) (fun h1 => ?_)
    · refine bLt (fun h2 => ⟨by omega, by omega, rfl⟩) (fun h2 => ?_)
      have e : j = 14 := by omega
      exact fin (by rw [e])
    · have e : j = (bs s).length := by omega
      exact fin (by rw [List.take_of_length_le (by omega), List.take_of_length_le (by omega)])
  · rintro _ w2 ⟨h1, h2, rfl⟩
    obtain ⟨c, hc⟩ : ∃ c, (bs s)[j]? = some c := ⟨_, List.getElem?_eq_getElem (by omega)⟩
    have hst := valF_step hc
    refine ⟨fun b w' => b = isDig c ∧ w' = w2, ?_, ?_⟩
    · refine strI j rfl hc ?_
      refine bGe (fun h48 => ?_) (fun h48 => ⟨?_, rfl⟩)
      · refine strI j rfl hc ⟨?_, rfl⟩
        unfold isDig
        rw [decide_eq_true (show 48 ≤ c.toNat by omega), Bool.true_and]
        exact decide_eq_decide.2 (by omega)
      · unfold isDig
        rw [decide_eq_false (by omega), Bool.false_and]
    · rintro _ b w3 ⟨rfl, rfl⟩
      rw [wrapS (by omega)]
      refine bifI (fun hd => ?_) (fun hd => ?_)
      · refine strI j rfl hc ?_
        have h48 : 48 ≤ c.toNat := by unfold isDig at hd; simp at hd; exact hd.1
        have hlt := c.toNat_lt
        rw [u8sub h48, w64 (n := ((c.toNat - 48 : Nat) : Int)) (by omega) (by omega)]
        rw [hd, if_pos rfl] at hst
        exact ⟨⟨j + 1, rfl, by omega, by omega, hst.symm, rfl⟩, by dsimp only; omega⟩
      · rw [hd] at hst
        exact ⟨⟨j + 1, rfl, by omega, by omega, hst.symm, rfl⟩, by dsimp only; omega⟩

theorem dgs_i64 (s : Bytes) : i64 (dgs s) := by
  unfold dgs
  split
  · exact ⟨by omega, by omega⟩
  · exact valF_i64 _ ⟨by omega, by omega⟩

/-- An element of a row of texts: its address stays good. -/
theorem elS {s : Sl} {l : List Bytes} {i : Int} {f : Addr → Prop} (q : Nat) (h : Sep E L w) (hq : L[q]? = some (rowA s 1 (strL l))) (hn : s.n = l.length) (k : Nat) (hi : i = k) (hk : k < l.length)
    (kk : ∀ a, (∀ {L' : List Asn} {w' : World} (q' : Nat), Sep E L' w' → L'[q']? = some (rowA s 1 (strL l)) → w'.cell? a = some (.string (mk (l.getD k [])))) → f a) : elAt s.p s.n i 1 f := by
  refine rowA.el q h hq (by omega) (by omega) (fun b hb _ => kk _ (fun {L' w'} q' h' hq' => ?_))
  have h2 := h'.fr q' hq'
  obtain ⟨b', spare, hb', hl, _, _, h2⟩ := rowA.get_ h2 (by omega)
  have e : b' = b := by rw [hb] at hb'; simpa using hb'.symm
  subst e
  have e2 : i.toNat * 1 = k := by omega
  rw [e2, rowA.cell h2 (by rw [hl, hn]; omega)]
  exact strL_at hk

/-- The numbers that the document reads of a line's words. -/
def dv (ws : List Bytes) (j : Nat) : List Int := ((ws.drop 1).take j).map dgs
theorem dv_more {ws : List Bytes} {j : Nat} (h : j + 1 < ws.length) : dv ws (j + 1) = dv ws j ++ [dgs (ws.getD (j + 1) [])] ∧ (dv ws j).length = j := by
  have e : (ws.drop 1)[j]? = some (ws.getD (j + 1) []) := by
    rw [List.getElem?_drop, List.getD_eq_getElem?_getD, show 1 + j = j + 1 by omega, List.getElem?_eq_getElem h]; rfl
  constructor
  · unfold dv; rw [take_succ e, List.map_append]; rfl
  · unfold dv; rw [List.length_map, List.length_take, List.length_drop]; omega
theorem dv_less {ws : List Bytes} {j : Nat} (h : ws.length ≤ j + 1) : dv ws (j + 1) = dv ws j := by
  unfold dv; rw [List.take_of_length_le (by rw [List.length_drop]; omega), List.take_of_length_le (by rw [List.length_drop]; omega)]
theorem dv_at {ws : List Bytes} {i : Nat} (hi : i < 4) (h : i + 1 < ws.length) : (dv ws 4).getD i 0 = dgs (ws.getD (i + 1) []) := by
  unfold dv
  rw [List.getD_eq_getElem?_getD, List.getElem?_map, List.getElem?_take, if_pos hi, List.getElem?_drop, List.getD_eq_getElem?_getD, show 1 + i = i + 1 by omega, List.getElem?_eq_getElem h]; rfl
theorem dv_no {ws : List Bytes} {i : Nat} (h : ws.length ≤ i + 1) : (dv ws 4).getD i 0 = 0 := by
  unfold dv
  rw [List.getD_eq_getElem?_getD, List.getElem?_eq_none (by rw [List.length_map, List.length_take, List.length_drop]; omega)]; rfl
theorem dv_i64 (ws : List Bytes) (i : Nat) : i64 ((dv ws 4).getD i 0) := by
  rw [List.getD_eq_getElem?_getD]
  cases hi : (dv ws 4)[i]? with
  | none => exact ⟨by decide, by decide⟩
  | some v =>
    obtain ⟨x, _, rfl⟩ := List.mem_map.1 (List.mem_of_getElem? hi)
    exact dgs_i64 x

/-- Of a line that is one: what the document reads of it. -/
theorem dv_of {s : Bytes} {p : Lg.Op} (hp : Lg.Ok p) (e : text p = s) {i : Nat} (hi : i < 4) : (sp 32 s).length = 1 + tl p.kd ∧ (fld p.kd i ≠ 4 → (dv (sp 32 s) 4).getD i 0 = p.val i) := by
  subst e
  refine ⟨hp.len, fun hf => ?_⟩
  have hl := hp.len
  by_cases ht : i < tl p.kd
  · rw [dv_at hi (by omega), hp.at_ ht]
    exact dgs_shw (hp.v i ht) hf
  · rw [dv_no (by omega), hp.z i (by omega) hi]
theorem dv_op {s : Bytes} {p : Lg.Op} (hp : Lg.Ok p) (e : text p = s) (hk : p.kd ≠ 2) : p = opOf p.kd (dv (sp 32 s) 4) := by
  refine Lg.Op.ext' ?_ (fun i hi => ?_)
  · show p.k = (p.kd : Nat); have := hp.k0; unfold Lg.Op.kd; omega
  · rw [opOf_val _ _ hi, (dv_of hp e hi).2]
    unfold fld; rw [if_neg (by omega), if_neg (by omega)]; omega
/-- A limit's operation, with another word. -/
def opB (vs : List Int) (b : Int) : Lg.Op := ⟨2, vs.getD 0 0, b, vs.getD 2 0, vs.getD 3 0⟩
theorem dv_opB {s : Bytes} {p : Lg.Op} (hp : Lg.Ok p) (e : text p = s) (hk : p.kd = 2) : p = opB (dv (sp 32 s) 4) p.b := by
  have h0 := (dv_of hp e (i := 0) (by omega)).2 (by rw [hk]; decide)
  have h2 := (dv_of hp e (i := 2) (by omega)).2 (by rw [hk]; decide)
  have h3 := (dv_of hp e (i := 3) (by omega)).2 (by rw [hk]; decide)
  have hkk : p.k = 2 := by have := hp.k0; unfold Lg.Op.kd at hk; omega
  unfold opB
  rw [h0, h2, h3, ← hkk]; rfl

theorem wd_of {s : Bytes} {p : Lg.Op} (hp : Lg.Ok p) (e : text p = s) {k : Nat} (hk : k < 14) (hw : wd k = (sp 32 s).getD 0 []) : p.kd = k := by
  subst e
  rw [hp.word] at hw
  exact (wd_inj hk hp.kd hw).symm

def RReadEnd (s : Bytes) (v : Value) : Prop := ∃ (o : Lg.Op) (r : Bool), v = .tuple #[o.v, .bool r] ∧ (r = true → readO s = some o) ∧ (r = false → readO s = none)

theorem lineO_eq {o : Lg.Op} {s : Bytes} (h0 : s ≠ []) (h : (lineO o).getD [] = s) : readO s = some o := by
  by_cases hok : Lg.Ok o
  · rw [lineO_some hok] at h
    exact readO_eq hok h
  · rw [lineO_none hok] at h
    exact absurd h.symm h0
theorem lineO_ne {o : Lg.Op} {s : Bytes} (h : (lineO o).getD [] ≠ s) (hok : Lg.Ok o) : text o ≠ s := by
  rw [lineO_some hok] at h; exact h

end Go.Mp
