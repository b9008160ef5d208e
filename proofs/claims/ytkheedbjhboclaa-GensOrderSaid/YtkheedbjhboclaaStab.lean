/- A stable sort, plainly: what is asked of an order, and what moves come to. -/
import Derived.Tactics
namespace Go.Stab

/-- A strict total order. -/
structure Ord {α : Type} (R : α → α → Prop) : Prop where
  trans : ∀ x y z, R x y → R y z → R x z
  irr : ∀ x, ¬ R x x
  tot : ∀ x y, x ≠ y → R x y ∨ R y x

section
variable {α : Type} {R : α → α → Prop}

theorem Ord.not (O : Ord R) {x y : α} (hne : x ≠ y) (h : ¬ R x y) : R y x := (O.tot x y hne).resolve_left h

/-- x stands behind n of P. -/
def ins (P : List α) (n : Nat) (x : α) : List α := P.take n ++ x :: P.drop n

theorem ins_length (P : List α) (n : Nat) (x : α) : (ins P n x).length = P.length + 1 := by
  unfold ins; simp only [List.length_append, List.length_take, List.length_cons, List.length_drop]; omega
theorem ins_perm (P : List α) (n : Nat) (x : α) : (ins P n x).Perm (x :: P) := by
  unfold ins
  refine List.perm_middle.trans ?_
  rw [List.take_append_drop]
theorem ins_get (P : List α) (n : Nat) (x : α) (hn : n ≤ P.length) (i : Nat) : (ins P n x)[i]? = if i < n then P[i]? else if i = n then some x else P[i - 1]? := by
  unfold ins
  have hl : (P.take n).length = n := by simp; omega
  by_cases h1 : i < n
  · rw [if_pos h1, List.getElem?_append_left (by omega)]; simp [h1]
  · rw [if_neg h1, List.getElem?_append_right (by omega), hl]
    by_cases h2 : i = n
    · rw [if_pos h2]; simp [h2]
    · rw [if_neg h2]
      obtain ⟨k, hk⟩ : ∃ k, i - n = k + 1 := ⟨i - n - 1, by omega⟩
      rw [hk, List.getElem?_cons_succ, List.getElem?_drop]
      congr 1; omega
theorem ins_end (P : List α) (x : α) : ins P P.length x = P ++ [x] := by simp [ins]

theorem ins_up {A P B : List α} {n : Nat} {x y : α} (hn : P[n]? = some y) : ((A ++ ins P n x ++ B).set (A.length + n) y).set (A.length + n + 1) x = A ++ ins P (n + 1) x ++ B := by
  have hlt : n < P.length := (List.getElem?_eq_some_iff.1 hn).1
  have hg := ins_get P n x (by omega)
  have hg' := ins_get P (n + 1) x (by omega)
  have hl := ins_length P n x
  have hl' := ins_length P (n + 1) x
  apply List.ext_getElem?
  intro i
  simp only [List.getElem?_set, List.length_set, List.length_append, hl]
  by_cases e1 : A.length + n + 1 = i
  · rw [if_pos e1, if_pos (by omega), List.getElem?_append_left (by simp; omega), List.getElem?_append_right (by omega), hg', if_neg (by omega), if_pos (by omega)]
  · rw [if_neg e1]
    by_cases e2 : A.length + n = i
    · rw [if_pos e2, if_pos (by omega), List.getElem?_append_left (by simp; omega), List.getElem?_append_right (by omega), hg', if_pos (by omega), ← hn]; congr 1; omega
    · rw [if_neg e2]
      by_cases h1 : i < A.length
      · rw [List.getElem?_append_left (by simp; omega), List.getElem?_append_left h1, List.getElem?_append_left (by simp; omega), List.getElem?_append_left h1]
      · by_cases h2 : i < A.length + (P.length + 1)
        · rw [List.getElem?_append_left (by simp; omega), List.getElem?_append_right (by omega), List.getElem?_append_left (by simp; omega), List.getElem?_append_right (by omega), hg, hg']
          by_cases h3 : i - A.length < n
          · rw [if_pos h3, if_pos (by omega)]
          · rw [if_neg h3, if_neg (by omega), if_neg (by omega), if_neg (by omega)]
        · rw [List.getElem?_append_right (by simp; omega), List.getElem?_append_right (by simp; omega)]
          simp [hl, hl']

theorem ins_down {A P B : List α} {n : Nat} {x y : α} (hn : P[n]? = some y) : ((A ++ ins P (n + 1) x ++ B).set (A.length + n + 1) y).set (A.length + n) x = A ++ ins P n x ++ B := by
  have hlt : n < P.length := (List.getElem?_eq_some_iff.1 hn).1
  have hg := ins_get P (n + 1) x (by omega)
  have hg' := ins_get P n x (by omega)
  have hl := ins_length P (n + 1) x
  have hl' := ins_length P n x
  apply List.ext_getElem?
  intro i
  simp only [List.getElem?_set, List.length_set, List.length_append, hl]
  by_cases e1 : A.length + n = i
  · rw [if_pos e1, if_pos (by omega), List.getElem?_append_left (by simp; omega), List.getElem?_append_right (by omega), hg', if_neg (by omega), if_pos (by omega)]
  · rw [if_neg e1]
    by_cases e2 : A.length + n + 1 = i
    · rw [if_pos e2, if_pos (by omega), List.getElem?_append_left (by simp; omega), List.getElem?_append_right (by omega), hg', if_neg (by omega), if_neg (by omega), ← hn]; congr 1; omega
    · rw [if_neg e2]
      by_cases h1 : i < A.length
      · rw [List.getElem?_append_left (by simp; omega), List.getElem?_append_left h1, List.getElem?_append_left (by simp; omega), List.getElem?_append_left h1]
      · by_cases h2 : i < A.length + (P.length + 1)
        · rw [List.getElem?_append_left (by simp; omega), List.getElem?_append_right (by omega), List.getElem?_append_left (by simp; omega), List.getElem?_append_right (by omega), hg, hg']
          by_cases h3 : i - A.length < n
          · rw [if_pos h3, if_pos (by omega)]
          · rw [if_neg h3, if_neg (by omega), if_neg (by omega), if_neg (by omega)]
        · rw [List.getElem?_append_right (by simp; omega), List.getElem?_append_right (by simp; omega)]
          simp [hl, hl']

theorem pw_get {l : List α} (h : l.Pairwise R) {i j : Nat} {x y : α} (hx : l[i]? = some x) (hy : l[j]? = some y) (hij : i < j) : R x y := by
  obtain ⟨h1, rfl⟩ := List.getElem?_eq_some_iff.1 hx
  obtain ⟨h2, rfl⟩ := List.getElem?_eq_some_iff.1 hy
  exact List.pairwise_iff_getElem.1 h i j h1 h2 hij

theorem mem_take_get {l : List α} {n : Nat} {x : α} (h : x ∈ l.take n) : ∃ i, i < n ∧ l[i]? = some x := by
  obtain ⟨i, hi, rfl⟩ := List.mem_iff_getElem.1 h
  simp only [List.length_take] at hi
  exact ⟨i, by omega, by simp⟩
theorem mem_drop_get {l : List α} {n : Nat} {x : α} (h : x ∈ l.drop n) : ∃ i, n ≤ i ∧ l[i]? = some x := by
  obtain ⟨i, hi, rfl⟩ := List.mem_iff_getElem.1 h
  simp only [List.length_drop] at hi
  exact ⟨n + i, by omega, by simp⟩

/-- All ahead of the cut is ahead of all behind. -/
theorem cut_ok (O : Ord R) {X Y : List α} {i j : Nat} (hX : X.Pairwise R) (hY : Y.Pairwise R)
    (h1 : i = 0 ∨ Y.length ≤ j ∨ ∃ x y, X[i - 1]? = some x ∧ Y[j]? = some y ∧ R x y) (h2 : j = 0 ∨ X.length ≤ i ∨ ∃ x y, Y[j - 1]? = some y ∧ X[i]? = some x ∧ R y x) :
    ∀ u ∈ X.take i ++ Y.take j, ∀ v ∈ X.drop i ++ Y.drop j, R u v := by
  intro u hu v hv
  have lt : ∀ {l : List α} {k : Nat} {z : α}, l[k]? = some z → k < l.length := fun h => (List.getElem?_eq_some_iff.1 h).1
  rcases List.mem_append.1 hu with hu | hu <;> rcases List.mem_append.1 hv with hv | hv
  · obtain ⟨p, hp, hpu⟩ := mem_take_get hu
    obtain ⟨q, hq, hqv⟩ := mem_drop_get hv
    exact pw_get hX hpu hqv (by omega)
  · obtain ⟨p, hp, hpu⟩ := mem_take_get hu
    obtain ⟨q, hq, hqv⟩ := mem_drop_get hv
    rcases h1 with h1 | h1 | ⟨x, y, hx, hy, hr⟩
    · omega
    · have := lt hqv; omega
    · have a1 : p = i - 1 ∨ p < i - 1 := by omega
      have a2 : q = j ∨ j < q := by omega
      have r1 : u = x ∨ R u x := by
        rcases a1 with rfl | a1
        · rw [hpu] at hx; exact .inl (Option.some.inj hx)
        · exact .inr (pw_get hX hpu hx a1)
      have r2 : y = v ∨ R y v := by
        rcases a2 with rfl | a2
        · rw [hqv] at hy; exact .inl (Option.some.inj hy).symm
        · exact .inr (pw_get hY hy hqv a2)
      rcases r1 with rfl | r1 <;> rcases r2 with rfl | r2
      · exact hr
      · exact O.trans _ _ _ hr r2
      · exact O.trans _ _ _ r1 hr
      · exact O.trans _ _ _ r1 (O.trans _ _ _ hr r2)
  · obtain ⟨p, hp, hpu⟩ := mem_take_get hu
    obtain ⟨q, hq, hqv⟩ := mem_drop_get hv
    rcases h2 with h2 | h2 | ⟨x, y, hy, hx, hr⟩
    · omega
    · have := lt hqv; omega
    · have a1 : p = j - 1 ∨ p < j - 1 := by omega
      have a2 : q = i ∨ i < q := by omega
      have r1 : u = y ∨ R u y := by
        rcases a1 with rfl | a1
        · rw [hpu] at hy; exact .inl (Option.some.inj hy)
        · exact .inr (pw_get hY hpu hy a1)
      have r2 : x = v ∨ R x v := by
        rcases a2 with rfl | a2
        · rw [hqv] at hx; exact .inl (Option.some.inj hx).symm
        · exact .inr (pw_get hX hx hqv a2)
      rcases r1 with rfl | r1 <;> rcases r2 with rfl | r2
      · exact hr
      · exact O.trans _ _ _ hr r2
      · exact O.trans _ _ _ r1 hr
      · exact O.trans _ _ _ r1 (O.trans _ _ _ hr r2)
  · obtain ⟨p, hp, hpu⟩ := mem_take_get hu
    obtain ⟨q, hq, hqv⟩ := mem_drop_get hv
    exact pw_get hY hpu hqv (by omega)

/-- x at its place. -/
theorem ins_ok (O : Ord R) {P : List α} {n : Nat} {x : α} (hP : P.Pairwise R) (h1 : n = 0 ∨ ∃ y, P[n - 1]? = some y ∧ R y x) (h2 : P.length ≤ n ∨ ∃ y, P[n]? = some y ∧ R x y) : (ins P n x).Pairwise R := by
  have key := cut_ok O (X := P) (Y := [x]) (i := n) (j := 0) hP (List.pairwise_singleton _ _) (by
    rcases h1 with h | ⟨y, hy, hr⟩
    · exact .inl h
    · exact .inr (.inr ⟨y, x, hy, rfl, hr⟩)) (.inl rfl)
  have key2 := cut_ok O (X := P) (Y := [x]) (i := n) (j := 1) hP (List.pairwise_singleton _ _) (.inr (.inl (by simp))) (by
    rcases h2 with h | ⟨y, hy, hr⟩
    · exact .inr (.inl h)
    · exact .inr (.inr ⟨y, x, rfl, hy, hr⟩))
  unfold ins
  rw [List.pairwise_append, List.pairwise_cons]
  have hP' := hP
  rw [← List.take_append_drop n P, List.pairwise_append] at hP'
  refine ⟨hP'.1, ⟨fun v hv => key2 x (by simp) v (by simp [hv]), hP'.2.1⟩, fun u hu v hv => ?_⟩
  rcases List.mem_cons.1 hv with rfl | hv
  · exact key u (by simp [hu]) _ (by simp)
  · exact hP'.2.2 u hu v hv

/-- The two halves, each in order. -/
theorem halves {X Y Z1 Z2 : List α} {i j : Nat} (h1 : Z1.Perm (X.take i ++ Y.take j)) (h2 : Z2.Perm (X.drop i ++ Y.drop j)) (s1 : Z1.Pairwise R) (s2 : Z2.Pairwise R)
    (hc : ∀ u ∈ X.take i ++ Y.take j, ∀ v ∈ X.drop i ++ Y.drop j, R u v) : (Z1 ++ Z2).Perm (X ++ Y) ∧ (Z1 ++ Z2).Pairwise R := by
  refine ⟨(h1.append h2).trans ?_, List.pairwise_append.2 ⟨s1, s2, fun u hu v hv => hc u (h1.mem_iff.1 hu) v (h2.mem_iff.1 hv)⟩⟩
  have e1 : X ++ Y = (X.take i ++ X.drop i) ++ (Y.take j ++ Y.drop j) := by rw [List.take_append_drop, List.take_append_drop]
  rw [e1]
  simp only [List.append_assoc]
  refine List.Perm.append_left _ ?_
  rw [← List.append_assoc, ← List.append_assoc]
  exact List.Perm.append_right _ List.perm_append_comm

/-- Two ranges of n, changed for each other up to i. -/
def Swapped (l l' : List α) (a b i : Nat) : Prop := l'.length = l.length ∧ ∀ k, l'[k]? = if a ≤ k ∧ k < a + i then l[k - a + b]? else if b ≤ k ∧ k < b + i then l[k - b + a]? else l[k]?

theorem Swapped.zero (l : List α) (a b : Nat) : Swapped l l a b 0 := ⟨rfl, fun k => by rw [if_neg (by omega), if_neg (by omega)]⟩

theorem Swapped.step {l l' : List α} {a b i n : Nat} {x y : α} (h : Swapped l l' a b i) (hab : a + n ≤ b) (hi : i < n) (hx : l'[b + i]? = some x) (hy : l'[a + i]? = some y) :
    Swapped l ((l'.set (a + i) x).set (b + i) y) a b (i + 1) := by
  have hbl : b + i < l'.length := (List.getElem?_eq_some_iff.1 hx).1
  have hx' := hx; have hy' := hy
  rw [h.2, if_neg (by omega), if_neg (by omega)] at hx' hy'
  refine ⟨by simpa using h.1, fun k => ?_⟩
  simp only [List.getElem?_set, List.length_set]
  by_cases e1 : b + i = k
  · rw [if_pos e1, if_pos (by omega), if_neg (by omega), if_pos (by omega), ← hy']; congr 1; omega
  · rw [if_neg e1]
    by_cases e2 : a + i = k
    · rw [if_pos e2, if_pos (by omega), if_pos (by omega), ← hx']; congr 1; omega
    · rw [if_neg e2, h.2]
      by_cases h1 : a ≤ k ∧ k < a + i
      · rw [if_pos h1, if_pos (by omega)]
      · rw [if_neg h1]
        by_cases h2 : b ≤ k ∧ k < b + i
        · rw [if_pos h2, if_neg (by omega), if_pos (by omega)]
        · rw [if_neg h2, if_neg (by omega), if_neg (by omega)]

/-- U and V change places. -/
theorem Swapped.eq {A U M V B l' : List α} (h : Swapped (A ++ U ++ M ++ V ++ B) l' A.length (A.length + U.length + M.length) U.length) (hUV : U.length = V.length) : l' = A ++ V ++ M ++ U ++ B := by
  apply List.ext_getElem?
  intro k
  rw [h.2]
  have g : ∀ (U V : List α) (k : Nat), U.length = V.length → (A ++ U ++ M ++ V ++ B)[k]? = if k < A.length then A[k]? else if k < A.length + U.length then U[k - A.length]? else if k < A.length + U.length + M.length then M[k - A.length - U.length]? else
      if k < A.length + U.length + M.length + U.length then V[k - A.length - U.length - M.length]? else B[k - A.length - U.length - M.length - U.length]? := by
    intro U V k hUV
    by_cases h1 : k < A.length
    · rw [if_pos h1, List.getElem?_append_left (by simp; omega), List.getElem?_append_left (by simp; omega), List.getElem?_append_left (by simp; omega), List.getElem?_append_left h1]
    rw [if_neg h1]
    by_cases h2 : k < A.length + U.length
    · rw [if_pos h2, List.getElem?_append_left (by simp; omega), List.getElem?_append_left (by simp; omega), List.getElem?_append_left (by simp; omega), List.getElem?_append_right (by omega)]
    rw [if_neg h2]
    by_cases h3 : k < A.length + U.length + M.length
    · rw [if_pos h3, List.getElem?_append_left (by simp; omega), List.getElem?_append_left (by simp; omega), List.getElem?_append_right (by simp; omega)]
      congr 1; simp; omega
    rw [if_neg h3]
    by_cases h4 : k < A.length + U.length + M.length + U.length
    · rw [if_pos h4, List.getElem?_append_left (by simp; omega), List.getElem?_append_right (by simp; omega)]
      congr 1; simp; omega
    rw [if_neg h4, List.getElem?_append_right (by simp; omega)]
    congr 1; simp; omega
  rw [g V U k hUV.symm, g U V k hUV]
  by_cases h1 : A.length ≤ k ∧ k < A.length + U.length
  · rw [if_pos h1, g U V _ hUV, if_neg (by omega), if_neg (by omega), if_neg (by omega), if_pos (by omega), if_neg (by omega), if_pos (by omega)]
    congr 1; omega
  · rw [if_neg h1]
    by_cases h2 : A.length + U.length + M.length ≤ k ∧ k < A.length + U.length + M.length + U.length
    · rw [if_pos h2, g U V _ hUV, if_neg (by omega), if_pos (by omega), if_neg (by omega), if_neg (by omega), if_neg (by omega), if_pos (by omega)]
      congr 1; omega
    · rw [if_neg h2]
      by_cases h3 : k < A.length
      · rw [if_pos h3, if_pos h3]
      · rw [if_neg h3, if_neg h3, if_neg (show ¬ k < A.length + U.length by omega), if_neg (show ¬ k < A.length + V.length by omega)]
        by_cases h4 : k < A.length + U.length + M.length
        · rw [if_pos h4, if_pos (show k < A.length + V.length + M.length by omega)]; congr 1; omega
        · rw [if_neg h4, if_neg (show ¬ k < A.length + V.length + M.length by omega), if_neg (show ¬ k < A.length + U.length + M.length + U.length by omega), if_neg (show ¬ k < A.length + V.length + M.length + V.length by omega)]; congr 1; omega

end
end Go.Stab
