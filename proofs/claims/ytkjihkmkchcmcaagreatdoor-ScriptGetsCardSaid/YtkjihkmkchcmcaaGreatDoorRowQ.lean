/- Rows of records, further: what is appended may be nothing, or a part of a row. -/
import Derived.Test.YtkjihkmkchcmcaaGreatDoorWalk
namespace Go.Sp
open Go Go.Vc

section
variable {E : Env} {L : List Asn} {w : World} {P : Program} {s : Sl} {m : Nat} {vs : List Value}

theorem append0 {st xt ty : TypeId} {by_ : Nat} {zs : List Value} {x : Value} (hs : Src P m xt x 0 [] w) (hq : slQ P st = some (by_, m, zs)) (hc : s.n ≤ s.c) {G : Sl → World → Prop} (g : G s w) :
    ∃ x1 : Sl, ∃ w1, Sem.run P (Builtin.append_ #[st, xt] ty #[.slice s.p s.n s.c, x]) w = .ok (.slice x1.p x1.n x1.c) w1 ∧ G x1 w1 := by
  obtain ⟨e, i, z, ht, hi, hz, hb', hs1, hzs⟩ := slQ_of hq
  subst hs1
  refine ⟨s, w, ?_, g⟩
  obtain ⟨p, n, c⟩ := s
  have hl := hs.len
  have hcs := hs.cells
  simp only at hc
  rcases hs.kind with ⟨e', hk⟩ | hk <;> cases p <;> simp [Builtin.append_, run_underlying ht, run_underlying hk, sizeOf, typeInfo, hi, hl, hc, hcs, storeCells]

theorem rowA.cap (h : Sep E (rowA s m vs :: L) w) : s.n ≤ s.c := by
  unfold rowA at h
  split at h
  · obtain ⟨⟨h1, h2, _⟩, _⟩ := Sep.pur.1 h; omega
  · obtain ⟨_, h⟩ := Sep.ex.1 h
    exact (Sep.pur.1 h).1.2.2.2.2

/-- Something, or nothing, is appended. -/
theorem rowA.app {x : Value} {k : Nat} {news : List Value} {st xt ty : TypeId} {by_ : Nat} {zs : List Value} (h : Sep E (rowA s m vs :: L) w) (hq : slQ P st = some (by_, m, zs)) (hz : zs.length = m) (hs : Src P m xt x k news w)
    (hfit : (s.n + k) * (by_ + 1) ≤ 70368744177664) {G : Sl → World → Prop}
    (g : ∀ s' w1, s'.n = s.n + k → Sep E (rowA s' m (vs ++ news) :: L) w1 → G s' w1) :
    ∃ x1 : Sl, ∃ w1, Sem.run P (Builtin.append_ #[st, xt] ty #[.slice s.p s.n s.c, x]) w = .ok (.slice x1.p x1.n x1.c) w1 ∧ G x1 w1 := by
  rcases Nat.eq_zero_or_pos k with h0 | h0
  · subst h0
    have hn : news = [] := by
      have := hs.newsLen
      rw [Nat.zero_mul] at this
      exact List.length_eq_zero_iff.1 this
    subst hn
    exact append0 hs hq (rowA.cap h) (g s w rfl (by rw [List.append_nil]; exact h))
  · exact rowA.append h hq hz hs h0 hfit g

/-- A part of a row, to be appended. -/
theorem Src.sub {q l n' c' : Nat} {xt : TypeId} {by_ : Nat} {zs : List Value} (h : Sep E L w) (hq : L[q]? = some (rowA s m vs)) (hx : slQ P xt = some (by_, m, zs)) (hl : l + n' ≤ s.n) (h1 : ∀ u ∈ vs, u.oneCell' = true) :
    Src P m xt (.slice (slA s.p l s.c m) n' c') n' ((vs.drop (l * m)).take (n' * m)) w := by
  obtain ⟨e, ti, z, ht, _⟩ := slQ_of hx
  have h := h.fr q hq
  have hlen := rowA.length h
  have hl2 : ((vs.drop (l * m)).take (n' * m)).length = n' * m := by
    have hle : (l + n') * m ≤ s.n * m := Nat.mul_le_mul_right _ hl
    rw [Nat.add_mul] at hle
    simp only [List.length_take, List.length_drop]; omega
  have hone : ∀ u ∈ (vs.drop (l * m)).take (n' * m), u.oneCell' = true := fun u hu => h1 u (List.mem_of_mem_drop (List.mem_of_mem_take hu))
  rcases Nat.eq_zero_or_pos n' with h0 | h0
  · subst h0
    have e0 : (vs.drop (l * m)).take (0 * m) = [] := by rw [Nat.zero_mul]; rfl
    rw [e0]
    refine ⟨.inl ⟨e, ht⟩, fun w' => by simp [Builtin.lenOf], ?_, ?_, by simp, fun u hu => by cases hu⟩
    · cases slA s.p l s.c m with
      | none => exact run_firstCells_none w m 0 0 c'
      | some a => exact run_firstCells_some w m 0 a 0 c' [] (by simp) (fun j v hj => by simp at hj)
    · cases slA s.p l s.c m with
      | none => exact run_firstCells_none w.drew m 0 0 c'
      | some a => exact run_firstCells_some w.drew m 0 a 0 c' [] (by simp) (fun j v hj => by simp at hj)
  · have hcap := rowA.cap h
    obtain ⟨b, spare, hp, g1, g2, g3, h⟩ := rowA.get_ h (by omega)
    have ea : slA s.p l s.c m = some ⟨b, l * m, none⟩ := by
      unfold slA; rw [if_neg (by omega), hp, Option.map_some, add_mk, Nat.zero_add]
    rw [ea]
    refine Src.ofSlice w ht ⟨b, l * m, none⟩ n' c' _ hl2 (fun j u hu => ?_) hone
    have hj : j < n' * m := by
      have := (List.getElem?_eq_some_iff.1 hu).1
      rwa [hl2] at this
    have hle : (l + n') * m ≤ s.n * m := Nat.mul_le_mul_right _ hl
    rw [Nat.add_mul] at hle
    rw [add_mk, rowA.cell h (by rw [hlen]; omega)]
    rw [List.getElem?_take, if_pos hj, List.getElem?_drop] at hu
    exact hu

/-- A record of a row. -/
theorem elC {α : Type} {f : α → List Value} {l : List α} (hf : ∀ a, (f a).length = m) {F : Addr → Prop} {i : Int} {k : Nat} {a : α} (q : Nat) (h : Sep E L w) (hq : L[q]? = some (rowA s m (recs f l))) (hn : s.n = l.length) (hi : i = k) (ha : l[k]? = some a)
    (kk : ∀ b, s.p = some ⟨b, 0, none⟩ → (∀ j v, (f a)[j]? = some v → w.cell? ⟨b, k * m + j, none⟩ = some v) → F ⟨b, k * m, none⟩) : elAt s.p s.n i m F := by
  have hlt := (List.getElem?_eq_some_iff.1 ha).1
  have hik : i.toNat = k := by omega
  refine rowA.el q h hq (by omega) (by omega) (fun b hb hc => ?_)
  rw [hik] at hc ⊢
  refine kk b hb (fun j v hj => ?_)
  have hjm : j < m := by have := (List.getElem?_eq_some_iff.1 hj).1; rwa [hf] at this
  rw [hc j hjm, recs_at hf ha j hjm]; exact hj

/-- A cell that is known. -/
theorem ldC {α : Type} {mk : α → Value} {F : α → Prop} {a : Addr} {b o : Nat} {x : α} (ha : a = ⟨b, o, none⟩) (hc : w.cell? ⟨b, o, none⟩ = some (mk x)) (k : F x) : ∃ x, w.cell? a = some (mk x) ∧ F x := ⟨x, by rw [ha]; exact hc, k⟩

/-- A record's cell is another one now. -/
theorem stC {α : Type} {f : α → List Value} {l : List α} (hf : ∀ a, (f a).length = m) {F : World → Prop} {k j b : Nat} {a a' : α} {v : Value} (h : Sep E (rowA s m (recs f l) :: L) w) (hb : s.p = some ⟨b, 0, none⟩) (ha : l[k]? = some a) (hj : j < m) (ha' : f a' = (f a).set j v)
    (kk : ∀ w1, Sep E (rowA s m (recs f (l.set k a')) :: L) w1 → F w1) : St ⟨b, k * m + j, none⟩ v F w := by
  have hlt := (List.getElem?_eq_some_iff.1 ha).1
  refine rowA.st h hb ?_ (fun w1 h1 => kk w1 ?_)
  · rw [recs_length hf]
    have : (k + 1) * m ≤ l.length * m := Nat.mul_le_mul_right _ hlt
    rw [Nat.succ_mul] at this; omega
  · rw [recs_set hf ha hj ha'] at h1; exact h1

theorem recs_take {α : Type} {f : α → List Value} (hf : ∀ a, (f a).length = m) (l : List α) (k : Nat) : (recs f l).take (k * m) = recs f (l.take k) := by
  by_cases hk : k ≤ l.length
  · have e : recs f l = recs f (l.take k) ++ recs f (l.drop k) := by rw [← recs_append, List.take_append_drop]
    have hl : (recs f (l.take k)).length = k * m := by rw [recs_length hf]; simp [Nat.min_eq_left hk]
    rw [e, List.take_append_of_le_length (by omega), List.take_of_length_le (by omega)]
  · rw [List.take_of_length_le (by rw [recs_length hf]; exact Nat.mul_le_mul_right _ (by omega)), List.take_of_length_le (by omega)]
theorem recs_drop {α : Type} {f : α → List Value} (hf : ∀ a, (f a).length = m) (l : List α) (k : Nat) : (recs f l).drop (k * m) = recs f (l.drop k) := by
  by_cases hk : k ≤ l.length
  · have e : recs f l = recs f (l.take k) ++ recs f (l.drop k) := by rw [← recs_append, List.take_append_drop]
    have hl : (recs f (l.take k)).length = k * m := by rw [recs_length hf]; simp [Nat.min_eq_left hk]
    rw [e, List.drop_append_of_le_length (by omega), List.drop_of_length_le (by omega), List.nil_append]
  · rw [List.drop_of_length_le (by rw [recs_length hf]; exact Nat.mul_le_mul_right _ (by omega)), List.drop_of_length_le (by omega)]; rfl

end
end Go.Sp
