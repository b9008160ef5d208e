/- slices.DeleteFunc at ints;  -/
import Derived.Test.YtkheedbjhboclaaGnD
set_option maxRecDepth 100000
namespace Go.Mp
open Go Go.Vc Go.Sp

variable {E : Env} {L : List Asn} {w : World}

theorem clear.i {b o n c : Nat} {C : List Value} {st ty : TypeId} {by_ m : Nat} {zs : List Value} (h : Sep E (blk b C :: L) w) (hq : slQ P st = some (by_, m, zs)) (hz : zs.length = m) (hone : ∀ v ∈ zs, v.oneCell' = true) (hC : o + n * m ≤ C.length) {G : World → Prop}
    (k : ∀ w1, Sep E (blk b (setAll C o (Builtin.zeroCells zs.toArray n).toList) :: L) w1 → G w1) :
    ∃ w1, Sem.run P (Builtin.clear_ #[st] ty #[.slice (some ⟨b, o, none⟩) n c]) w = .ok (.tuple #[]) w1 ∧ G w1 := by
  obtain ⟨e, i, z, ht, hi, hzz, hb', hs1, hzs⟩ := slQ_of hq
  subst hb' hs1 hzs
  cases n with
  | zero =>
    refine ⟨w, by simp [Builtin.clear_, run_underlying ht], k _ ?_⟩
    simpa [Builtin.zeroCells, setAll] using h
  | succ n =>
    have hl : (Builtin.zeroCells z.cells (n + 1)).toList.length = (n + 1) * i.size := by rw [zeroCells_size, ← hz]; simp
    have hst := run_storeCells_cells (P := P) b o (Builtin.zeroCells z.cells (n + 1)).toList 0 w (fun j hj => h.isSome (by omega)) (fun j hj => h.warm (by omega)) (fun u hu => by
      simp only [Builtin.zeroCells, Array.toList_map, List.mem_map] at hu
      obtain ⟨q, hq, rfl⟩ := hu
      have hlt : q % z.cells.size < z.cells.size := by
        refine Nat.mod_lt _ ?_
        rcases Nat.eq_zero_or_pos z.cells.size with h0 | h0
        · simp [h0] at hq
        · exact h0
      have : z.cells[q % z.cells.size]! = z.cells[q % z.cells.size] := by simp [hlt]
      rw [this]
      exact hone _ (by simp))
    refine ⟨w.setCells b o (Builtin.zeroCells z.cells (n + 1)).toList, ?_, k _ (by simpa using h.setCells _ _)⟩
    simp only [Nat.add_zero] at hst
    simp [Builtin.clear_, run_underlying ht, zeroValue, typeInfo, hi, hzz, hst]

/-- A predicate that a function value asks: it answers, and lets all be. -/
def Asks (E : Env) (del : Value) (q : Int → Bool) (M : List Asn) (D : Int → Prop) : Prop :=
  ∀ x w, D x → Sep E M w → callD P del #[.int .i64 x] w fun e w' => e = .returned (.bool (q x)) ∧ Sep E M w'

theorem c_IndexFunc {s : Sl} {l : List Int} {del : Value} {q : Int → Bool} (hq : Asks E del q (rowA s 1 (intL l) :: L) (· ∈ l)) (hn : s.n = l.length) (hb : l.length < 4611686018427387904) (h : Sep E (rowA s 1 (intL l) :: L) w) :
    Calls P fn_slices_IndexFunc_int_int #[.slice s.p s.n s.c, del] w (Ret fun v w' => ∃ i : Int, v = .int .i64 i ∧ ((i = -1 ∧ ∀ x ∈ l, q x = false) ∨ (0 ≤ i ∧ i < l.length ∧ (∀ j x, j < i.toNat → l[j]? = some x → q x = false) ∧ ∀ x, l[i.toNat]? = some x → q x = true)) ∧ Sep E (rowA s 1 (intL l) :: L) w') := by
  apply of_slices_IndexFunc_int_int
  unfold sh_slices_IndexFunc_int_int
  refine ⟨fun i w => (0 ≤ i ∧ i ≤ l.length) ∧ (∀ j x, j < i.toNat → l[j]? = some x → q x = false) ∧ Sep E (rowA s 1 (intL l) :: L) w, fun i _ => (l.length - i).toNat, ⟨⟨by omega, by omega⟩, fun j x hj => by simp at hj, h⟩, ?_⟩
  rintro _ i w1 ⟨⟨hi0, hi1⟩, hpre, h1⟩
  refine bLt (fun hlt0 => ?_) (fun hge => ?_)
  · have hlt : i < l.length := by omega
    have hx : l[i.toNat]? = some (l[i.toNat]'(by omega)) := List.getElem?_eq_getElem (by omega)
    refine rowA.el 0 h1 rfl hi0 (by omega) (fun b hp hc => ?_)
    have hcell := hc 0 (by omega)
    refine ⟨l[i.toNat]'(by omega), hcell.trans (by simp [hx]), ?_⟩
    obtain ⟨hh, ca, e1, e2, hcall⟩ := hq (l[i.toNat]'(by omega)) w1 (List.getElem_mem _) h1
    refine ⟨hh, ca, e1, e2, hcall.mono ?_⟩
    rintro e w2 ⟨rfl, h2⟩
    refine ⟨_, rfl, bifI (fun ht => ⟨i, rfl, .inr ⟨hi0, hlt, hpre, fun x hx' => ?_⟩, h2⟩) (fun hf => ?_)⟩
    · rw [hx] at hx'; rw [← Option.some.inj hx']; exact ht
    · rw [w64 (by omega) (by omega)]
      refine ⟨⟨⟨by omega, by omega⟩, fun j x hj hjx => ?_, h2⟩, by show (l.length - (i + 1)).toNat < (l.length - i).toNat; omega⟩
      by_cases hji : j < i.toNat
      · exact hpre j x hji hjx
      · have : j = i.toNat := by omega
        subst this
        rw [hx] at hjx; rw [← Option.some.inj hjx]; exact hf
  · refine ⟨-1, rfl, .inl ⟨rfl, fun x hx => ?_⟩, h1⟩
    obtain ⟨j, hj, rfl⟩ := List.mem_iff_getElem.1 hx
    exact hpre j _ (by omega) (List.getElem?_eq_getElem hj)

/-- What is kept so far, and what lies behind it. -/
theorem c_DeleteFunc {s : Sl} {l : List Int} {del : Value} {q : Int → Bool} (hq : ∀ m : List Int, m.length = l.length → Asks E del q (rowA s 1 (intL m) :: L) (· ∈ l)) (hn : s.n = l.length) (hb : l.length < 4611686018427387904) (h : Sep E (rowA s 1 (intL l) :: L) w) :
    Calls P fn_slices_DeleteFunc_int_int #[.slice s.p s.n s.c, del] w (Ret fun v w' => ∃ s' : Sl, v = .slice s'.p s'.n s'.c ∧ s'.n = (l.filter fun x => !q x).length ∧ Sep E (rowA s' 1 (intL (l.filter fun x => !q x)) :: L) w') := by
  apply of_slices_DeleteFunc_int_int
  unfold sh_slices_DeleteFunc_int_int
  refine use (c_IndexFunc (hq l rfl) hn hb h) ?_
  rintro _ w1 ⟨i, rfl, hi, h1⟩
  refine ⟨i, rfl, ?_⟩
  rcases hi with ⟨rfl, hnone⟩ | ⟨hi0, hi1, hpre, hat⟩
  · have e : l.filter (fun x => !q x) = l := by
      rw [List.filter_eq_self]
      intro x hx; simp [hnone x hx]
    refine bEq (fun _ => ⟨s, rfl, by rw [e]; exact hn, by rw [e]; exact h1⟩) (fun hh => absurd rfl hh)
  · refine bEq (fun hh => by omega) (fun _ => ?_)
    rw [w64 (by omega) (by omega)]
    -- the first i of them are kept
    have hfirst : (l.take i.toNat).filter (fun x => !q x) = l.take i.toNat := by
      rw [List.filter_eq_self]
      intro x hx
      obtain ⟨j, hj, rfl⟩ := List.mem_iff_getElem.1 hx
      simp only [List.length_take] at hj
      have := hpre j l[j] (by omega) (List.getElem?_eq_getElem (by omega))
      rw [List.getElem_take]; simp [this]
    have hti : (l.take (i.toNat + 1)).filter (fun x => !q x) = l.take i.toNat := by
      have hxi : l[i.toNat]? = some (l[i.toNat]'(by omega)) := List.getElem?_eq_getElem (by omega)
      rw [List.take_add_one, hxi, List.filter_append, hfirst]
      simp [hat _ hxi]
    refine ⟨fun a j w => (i + 1 ≤ j ∧ j ≤ l.length) ∧ ∃ m : List Int, m.length = l.length ∧ a = ((l.take j.toNat).filter fun x => !q x).length ∧ m.take a.toNat = (l.take j.toNat).filter (fun x => !q x) ∧ m.drop j.toNat = l.drop j.toNat ∧ Sep E (rowA s 1 (intL m) :: L) w,
      fun _ j _ => (l.length - j).toNat, ⟨⟨by omega, by omega⟩, l, rfl, ?_, ?_, rfl, h1⟩, ?_⟩
    · have e1 : (i + 1).toNat = i.toNat + 1 := by omega
      rw [e1, hti]; simp; omega
    · have e1 : (i + 1).toNat = i.toNat + 1 := by omega
      rw [e1, hti]
    rintro _ a j w2 ⟨⟨hj0, hj1⟩, m, hm, ha, hkeep, hrest, h2⟩
    have hak : ((l.take j.toNat).filter fun x => !q x).length ≤ j.toNat := by
      refine Nat.le_trans (List.length_filter_le _ _) ?_
      simp; omega
    refine bLt (fun hlt0 => ?_) (fun hge => ?_)
    · have hlt : j < l.length := by omega
      have hxj : l[j.toNat]? = some (l[j.toNat]'(by omega)) := List.getElem?_eq_getElem (by omega)
      have hmj : m[j.toNat]? = some (l[j.toNat]'(by omega)) := by
        have : (m.drop j.toNat)[0]? = (l.drop j.toNat)[0]? := by rw [hrest]
        simpa [hxj] using this
      generalize hv : l[j.toNat]'(by omega) = v at hxj hmj
      have hvl : v ∈ l := by rw [← hv]; exact List.getElem_mem _
      refine rowA.el 0 h2 rfl (by omega) (by omega) (fun b hp hc => ?_)
      have hcell := hc 0 (by omega)
      refine ⟨v, hcell.trans (by simp [hmj]), ?_⟩
      obtain ⟨hh, ca, e1, e2, hcall⟩ := hq m hm v w2 hvl h2
      refine ⟨hh, ca, e1, e2, hcall.mono ?_⟩
      rintro e w3 ⟨rfl, h3⟩
      have hj1' : (j + 1).toNat = j.toNat + 1 := by omega
      have htk : (l.take (j.toNat + 1)).filter (fun x => !q x) = (l.take j.toNat).filter (fun x => !q x) ++ (if q v then [] else [v]) := by
        rw [List.take_add_one, hxj, List.filter_append]
        cases hqv : q v <;> simp [hqv]
      have hdrop : m.drop (j.toNat + 1) = l.drop (j.toNat + 1) := by
        rw [← List.drop_drop, ← List.drop_drop, hrest]
      refine ⟨_, rfl, bifI (fun hf => ?_) (fun ht => ?_)⟩
      · have hqv : q v = false := by simpa using hf
        rw [hqv] at htk
        refine rowA.el 0 h3 rfl (by omega) (by omega) (fun b' hp' _ => ?_)
        refine rowA.st h3 hp' (by simp; omega) (fun w4 h4 => ?_)
        rw [w64 (by omega) (by omega), w64 (by omega) (by omega)]
        refine ⟨⟨⟨by omega, by omega⟩, m.set a.toNat v, by simpa using hm, ?_, ?_, ?_, ?_⟩, by show (l.length - (j + 1)).toNat < (l.length - j).toNat; omega⟩
        · rw [hj1', htk]; simp; omega
        · have e1 : (a + 1).toNat = a.toNat + 1 := by omega
          rw [e1, hj1', htk, List.take_add_one, List.take_set_of_le (Nat.le_refl _), hkeep, List.getElem?_set_self (by omega)]
          simp
        · rw [hj1', List.drop_set_of_lt (by omega)]; exact hdrop
        · have e2 : (intL m).set (a.toNat * 1) (.int .i64 v) = intL (m.set a.toNat v) := by simp [intL, List.map_set]
          rw [e2] at h4; exact h4
      · have hqv : q v = true := by simpa using ht
        rw [hqv] at htk
        rw [w64 (by omega) (by omega)]
        refine ⟨⟨⟨by omega, by omega⟩, m, hm, ?_, ?_, ?_, h3⟩, by show (l.length - (j + 1)).toNat < (l.length - j).toNat; omega⟩
        · rw [hj1', htk]; simp; omega
        · rw [hj1', htk]; simpa using hkeep
        · rw [hj1']; exact hdrop
    · have hjl : l.take j.toNat = l := List.take_of_length_le (by omega)
      rw [hjl] at ha hkeep hak
      have hle := List.length_filter_le (fun x => !q x) l
      obtain ⟨b, spare, hp, hl1, hl2, hl3, h3⟩ := rowA.get_ h2 (by omega)
      refine ⟨⟨by omega, by omega⟩, ?_⟩
      rw [hp]
      have hsl : slA (some ⟨b, 0, none⟩) a.toNat s.c 1 = some ⟨b, if s.c = a.toNat then 0 else a.toNat, none⟩ := by
        unfold slA; split
        · rfl
        · simp
      rw [hsl]
      have fin : ∀ {w4 : World} {rest : List Value}, rest.length + a.toNat = s.c → Sep E (blk b (intL (l.filter fun x => !q x) ++ rest) :: L) w4 → (0 ≤ a ∧ a ≤ (s.c : Int)) ∧ ∃ s' : Sl, Value.slice (slA (some ⟨b, 0, none⟩) 0 s.c 1) (a.toNat - 0) (s.c - 0) = .slice s'.p s'.n s'.c ∧ s'.n = (l.filter fun x => !q x).length ∧ Sep E (rowA s' 1 (intL (l.filter fun x => !q x)) :: L) w4 := by
        intro w4 rest hr h4
        refine ⟨⟨by omega, by omega⟩, ⟨some ⟨b, 0, none⟩, a.toNat, s.c⟩, ?_, by dsimp only; omega, rowA.make h4 (by simp; omega) (by simp; omega) (by omega)⟩
        unfold slA; split <;> simp
      have hmt : intL m = intL (l.filter fun x => !q x) ++ (intL m).drop a.toNat := by
        have : intL (l.filter fun x => !q x) = (intL m).take a.toNat := by
          rw [← hkeep]; simp [intL, List.map_take]
        rw [this, List.take_append_drop]
      by_cases hc : s.c = a.toNat
      · rw [if_pos hc]
        have hz : s.n - a.toNat = 0 := by omega
        rw [hz]
        refine clear.i h3 (by_ := 8) (m := 1) (zs := [.int .i64 0]) (by kernel_rfl) rfl (by simp [Value.oneCell']) (by simp) (fun w4 h4 => ?_)
        refine fin (rest := (intL m).drop a.toNat ++ spare) (by simp at hl2 ⊢; omega) ?_
        have e : setAll (intL m ++ spare) 0 (Builtin.zeroCells [Value.int .i64 0].toArray 0).toList = intL (l.filter fun x => !q x) ++ ((intL m).drop a.toNat ++ spare) := by
          rw [← List.append_assoc, ← hmt]; simp [Builtin.zeroCells, setAll]
        rw [e] at h4; exact h4
      · rw [if_neg hc]
        refine clear.i h3 (by_ := 8) (m := 1) (zs := [.int .i64 0]) (by kernel_rfl) rfl (by simp [Value.oneCell']) (by simp; omega) (fun w4 h4 => ?_)
        have hzl := zeroCells_size [Value.int .i64 0].toArray (s.n - a.toNat)
        refine fin (rest := (Builtin.zeroCells [Value.int .i64 0].toArray (s.n - a.toNat)).toList ++ spare) (by simp at hl2 hzl ⊢; omega) ?_
        have e : setAll (intL m ++ spare) a.toNat (Builtin.zeroCells [Value.int .i64 0].toArray (s.n - a.toNat)).toList = intL (l.filter fun x => !q x) ++ ((Builtin.zeroCells [Value.int .i64 0].toArray (s.n - a.toNat)).toList ++ spare) := by
          rw [setAll_eq _ _ _ (by simp at hl2 hzl ⊢; omega), hzl]
          rw [List.take_append_of_le_length (by simp; omega), List.drop_append]
          have e1 : (intL m).take a.toNat = intL (l.filter fun x => !q x) := by rw [← hkeep]; simp [intL, List.map_take]
          rw [e1, List.drop_of_length_le (by simp; omega)]
          simp only [List.nil_append, List.append_assoc]
          congr 2
          have : a.toNat + (s.n - a.toNat) * [Value.int IntKind.i64 0].toArray.size - (intL m).length = 0 := by simp; omega
          rw [this, List.drop_zero]
        rw [e] at h4; exact h4

end Go.Mp
