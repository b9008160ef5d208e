/- Rows of records: cells, one record behind the other. -/
import Derived.Test.YtkjihkmkchcmcaaGreatDoorRowP
namespace Go.Sp
open Go Go.Vc

def recs {α : Type} (f : α → List Value) (l : List α) : List Value := (l.map f).flatten

section
variable {α : Type} {f : α → List Value} {m : Nat} (hf : ∀ a, (f a).length = m)
include hf

theorem recs_length (l : List α) : (recs f l).length = l.length * m := by
  induction l with
  | nil => simp [recs]
  | cons a l ih =>
    have : recs f (a :: l) = f a ++ recs f l := rfl
    rw [this, List.length_append, hf, ih, List.length_cons, Nat.add_mul, Nat.one_mul, Nat.add_comm]

theorem recs_get (l : List α) (i j : Nat) (hj : j < m) : (recs f l)[i * m + j]? = l[i]?.bind fun a => (f a)[j]? := by
  induction l generalizing i with
  | nil => simp [recs]
  | cons a l ih =>
    have : recs f (a :: l) = f a ++ recs f l := rfl
    rw [this]
    cases i with
    | zero => rw [List.getElem?_append_left (by rw [hf]; omega)]; simp
    | succ i =>
      rw [List.getElem?_append_right (by rw [hf, Nat.add_mul]; omega), hf]
      have e : (i + 1) * m + j - m = i * m + j := by rw [Nat.add_mul]; omega
      rw [e, ih i]; simp

theorem recs_at {l : List α} {i : Nat} {a : α} (h : l[i]? = some a) (j : Nat) (hj : j < m) : (recs f l)[i * m + j]? = (f a)[j]? := by
  rw [recs_get hf l i j hj, h]; rfl

theorem recs_set {l : List α} {i j : Nat} {a a' : α} {v : Value} (h : l[i]? = some a) (hj : j < m) (ha : f a' = (f a).set j v) : (recs f l).set (i * m + j) v = recs f (l.set i a') := by
  induction l generalizing i with
  | nil => simp at h
  | cons b l ih =>
    have e0 : recs f (b :: l) = f b ++ recs f l := rfl
    rw [e0]
    cases i with
    | zero =>
      simp only [List.getElem?_cons_zero, Option.some.injEq] at h; subst h
      rw [List.set_append_left _ _ (by rw [hf]; omega), Nat.zero_mul, Nat.zero_add, ← ha]; rfl
    | succ i =>
      rw [List.set_append_right _ _ (by rw [hf, Nat.add_mul]; omega), hf]
      have e : (i + 1) * m + j - m = i * m + j := by rw [Nat.add_mul]; omega
      rw [e, ih (by simpa using h)]; rfl

theorem recs_setAll {l : List α} {i j : Nat} {a a' : α} {xs : List Value} (h : l[i]? = some a) (hj : j + xs.length ≤ m) (ha : f a' = setAll (f a) j xs) : setAll (recs f l) (i * m + j) xs = recs f (l.set i a') := by
  induction l generalizing i with
  | nil => simp at h
  | cons b l ih =>
    have e0 : recs f (b :: l) = f b ++ recs f l := rfl
    have hlen := recs_length hf (b :: l)
    have hi : i < (b :: l).length := by
      rcases Nat.lt_or_ge i (b :: l).length with h' | h'
      · exact h'
      · simp [List.getElem?_eq_none h'] at h
    have hle : i * m + m ≤ (b :: l).length * m := by rw [← Nat.succ_mul]; exact Nat.mul_le_mul_right _ hi
    rw [setAll_eq _ _ _ (by rw [hlen]; omega), e0]
    cases i with
    | zero =>
      simp only [List.getElem?_cons_zero, Option.some.injEq] at h; subst h
      rw [setAll_eq _ _ _ (by rw [hf]; omega)] at ha
      have e1 : recs f ((b :: l).set 0 a') = f a' ++ recs f l := rfl
      rw [e1, ha, Nat.zero_mul, Nat.zero_add, List.take_append_of_le_length (by rw [hf]; omega), List.drop_append_of_le_length (by rw [hf]; omega)]
      simp
    | succ i =>
      have hl2 := recs_length hf l
      have hi' : i < l.length := by simpa using hi
      have hle' : i * m + m ≤ l.length * m := by rw [← Nat.succ_mul]; exact Nat.mul_le_mul_right _ hi'
      have := ih (by simpa using h)
      rw [setAll_eq _ _ _ (by rw [hl2]; omega)] at this
      have e1 : recs f ((b :: l).set (i + 1) a') = f b ++ recs f (l.set i a') := rfl
      rw [e1, ← this, List.take_append, List.drop_append]
      have q1 : (i + 1) * m + j - (f b).length = i * m + j := by rw [hf, Nat.add_mul]; omega
      have q2 : (i + 1) * m + j + xs.length - (f b).length = i * m + j + xs.length := by rw [hf, Nat.add_mul]; omega
      rw [q1, q2, List.take_of_length_le (by rw [hf, Nat.add_mul]; omega), List.drop_of_length_le (by rw [hf, Nat.add_mul]; omega)]
      simp

omit hf in
theorem recs_append (l l' : List α) : recs f (l ++ l') = recs f l ++ recs f l' := by simp [recs]
omit hf in
theorem recs_one (a : α) : recs f [a] = f a := by simp [recs]

end
end Go.Sp
