/- Slices that are owned whole: what they hold, and what may come behind. -/
import Derived.Test.YtkjihkmkchcmcaaGreatDoorFamP
namespace Go.Sp
open Go Go.Vc

/-- A slice of a block of its own: 'vs' are its cells, each element of m. -/
def rowA (s : Sl) (m : Nat) (vs : List Value) : Asn :=
  match s.p with
  | none => pur (s.n = 0 ∧ s.c = 0 ∧ vs = []) emp
  | some a => exA fun spare : List Value => pur (a.off = 0 ∧ a.spot = none ∧ vs.length = s.n * m ∧ vs.length + spare.length = s.c * m ∧ s.n ≤ s.c) (blk a.block (vs ++ spare))

section
variable {E : Env} {L : List Asn} {w : World} {P : Program} {s : Sl} {m : Nat} {vs : List Value}

theorem rowA.none_ (h : Sep E L w) : Sep E (rowA ⟨none, 0, 0⟩ m [] :: L) w := Sep.pur.2 ⟨⟨rfl, rfl, rfl⟩, Sep.emp.2 h⟩

theorem rowA.make {b n c : Nat} {spare : List Value} (h : Sep E (blk b (vs ++ spare) :: L) w) (h1 : vs.length = n * m) (h2 : vs.length + spare.length = c * m) (h3 : n ≤ c) : Sep E (rowA ⟨some ⟨b, 0, none⟩, n, c⟩ m vs :: L) w :=
  Sep.ex.2 ⟨spare, Sep.pur.2 ⟨⟨rfl, rfl, h1, h2, h3⟩, h⟩⟩

theorem rowA.length (h : Sep E (rowA s m vs :: L) w) : vs.length = s.n * m := by
  unfold rowA at h
  split at h
  · obtain ⟨⟨h1, _, h3⟩, _⟩ := Sep.pur.1 h; rw [h1, h3]; simp
  · obtain ⟨_, h⟩ := Sep.ex.1 h
    exact (Sep.pur.1 h).1.2.2.1

/-- What it is, where it is not empty. -/
theorem rowA.get_ (h : Sep E (rowA s m vs :: L) w) (hn : 0 < s.n) : ∃ b spare, s.p = some ⟨b, 0, none⟩ ∧ vs.length = s.n * m ∧ vs.length + spare.length = s.c * m ∧ s.n ≤ s.c ∧ Sep E (blk b (vs ++ spare) :: L) w := by
  unfold rowA at h
  split at h
  · obtain ⟨⟨h1, _⟩, _⟩ := Sep.pur.1 h; omega
  · next a ha =>
    obtain ⟨spare, h⟩ := Sep.ex.1 h
    obtain ⟨⟨h1, h2, h3, h4, h5⟩, h⟩ := Sep.pur.1 h
    refine ⟨a.block, spare, ?_, h3, h4, h5, h⟩
    rw [ha]; cases a; simp_all

theorem rowA.cell {b : Nat} {spare : List Value} (h : Sep E (blk b (vs ++ spare) :: L) w) {j : Nat} (hj : j < vs.length) : w.cell? ⟨b, j, none⟩ = vs[j]? := by
  rw [h.cell, List.getElem?_append_left hj]

/-- An element's address, and its cells. -/
theorem rowA.el {i : Int} {f : Addr → Prop} (q : Nat) (h : Sep E L w) (hq : L[q]? = some (rowA s m vs)) (h0 : 0 ≤ i) (h1 : i < s.n) (k : ∀ b, s.p = some ⟨b, 0, none⟩ → (∀ j, j < m → w.cell? ⟨b, i.toNat * m + j, none⟩ = vs[i.toNat * m + j]?) → f ⟨b, i.toNat * m, none⟩) : elAt s.p s.n i m f := by
  have h := h.fr q hq
  obtain ⟨b, spare, hp, hl, _, _, h⟩ := rowA.get_ h (by omega)
  refine ⟨⟨b, 0, none⟩, hp, ⟨h0, h1⟩, ?_⟩
  rw [add_mk, Nat.zero_add]
  refine k b hp (fun j hj => rowA.cell h ?_)
  have : i.toNat * m + m ≤ s.n * m := by
    rw [← Nat.succ_mul]; exact Nat.mul_le_mul_right _ (by omega)
  omega

/-- A store into an element's cell. -/
theorem rowA.st {b : Nat} {o : Nat} {v : Value} {f : World → Prop} (h : Sep E (rowA s m vs :: L) w) (hp : s.p = some ⟨b, 0, none⟩) (ho : o < vs.length) (k : ∀ w1, Sep E (rowA s m (vs.set o v) :: L) w1 → f w1) : St ⟨b, o, none⟩ v f w := by
  have hl := rowA.length h
  have hn : 0 < s.n := by
    rcases Nat.eq_zero_or_pos s.n with h0 | h0
    · have h9 : vs.length = 0 := by rw [hl, h0, Nat.zero_mul]
      omega
    · exact h0
  obtain ⟨b', spare, hp', h1, h2, h3, h⟩ := rowA.get_ h hn
  rw [hp] at hp'
  simp only [Option.some.injEq, Addr.mk.injEq, and_true] at hp'
  subst hp'
  refine St.i h (by simp; omega) (fun w1 h4 => k w1 ?_)
  rw [List.set_append_left _ _ ho] at h4
  have hs : s = ⟨some ⟨b, 0, none⟩, s.n, s.c⟩ := by cases s; simp_all
  rw [hs]
  exact rowA.make (spare := spare) h4 (by simpa using h1) (by simpa using h2) h3

theorem rowA.stN {b : Nat} {o : Nat} {xs : List Value} {f : World → Prop} (h : Sep E (rowA s m vs :: L) w) (hp : s.p = some ⟨b, 0, none⟩) (hx : 0 < xs.length) (ho : o + xs.length ≤ vs.length) (k : ∀ w1, Sep E (rowA s m (setAll vs o xs) :: L) w1 → f w1) : StN xs ⟨b, o, none⟩ f w := by
  have hl := rowA.length h
  have hn : 0 < s.n := by
    rcases Nat.eq_zero_or_pos s.n with h0 | h0
    · have h9 : vs.length = 0 := by rw [hl, h0, Nat.zero_mul]
      omega
    · exact h0
  obtain ⟨b', spare, hp', h1, h2, h3, h⟩ := rowA.get_ h hn
  rw [hp] at hp'
  simp only [Option.some.injEq, Addr.mk.injEq, and_true] at hp'
  subst hp'
  refine StN.i h (by simp; omega) (fun w1 h4 => k w1 ?_)
  have e : setAll (vs ++ spare) o xs = setAll vs o xs ++ spare := by
    rw [setAll_eq _ _ _ (by simp; omega), setAll_eq _ _ _ ho, List.take_append_of_le_length (by omega), List.drop_append_of_le_length ho]
    simp
  rw [e] at h4
  have hs : s = ⟨some ⟨b, 0, none⟩, s.n, s.c⟩ := by cases s; simp_all
  rw [hs]
  exact rowA.make (spare := spare) h4 (by simpa using h1) (by simpa using h2) h3

theorem zeroCells_size (z : Array Value) (n : Nat) : (Builtin.zeroCells z n).toList.length = n * z.size := by simp [Builtin.zeroCells]

/-- Something is appended to it. -/
theorem rowA.append {x : Value} {k : Nat} {news : List Value} {st xt ty : TypeId} {by_ : Nat} {zs : List Value} (h : Sep E (rowA s m vs :: L) w) (hq : slQ P st = some (by_, m, zs)) (hz : zs.length = m) (hs : Src P m xt x k news w) (hk : 0 < k)
    (hfit : (s.n + k) * (by_ + 1) ≤ 70368744177664) {G : Sl → World → Prop}
    (g : ∀ s' w1, s'.n = s.n + k → Sep E (rowA s' m (vs ++ news) :: L) w1 → G s' w1) :
    ∃ x1 : Sl, ∃ w1, Sem.run P (Builtin.append_ #[st, xt] ty #[.slice s.p s.n s.c, x]) w = .ok (.slice x1.p x1.n x1.c) w1 ∧ G x1 w1 := by
  have hnew := hs.newsLen
  have hb1 : (s.n + k) * by_ + (s.n + k) ≤ 70368744177664 := by rw [Nat.mul_add, Nat.mul_one] at hfit; exact hfit
  have hcap : ∀ c, c < s.n + k → Builtin.nextslicecap (s.n + k) c * by_ ≤ 281474976710656 := by
    intro c hc
    have hle : Builtin.nextslicecap (s.n + k) c ≤ 2 * (s.n + k) + 1000 := by
      unfold Builtin.nextslicecap
      split
      · omega
      · split
        · omega
        · have go : ∀ r c, c ≤ s.n + k + ((s.n + k) + 768) / 4 → Builtin.growBy (s.n + k) r c ≤ s.n + k + ((s.n + k) + 768) / 4 := by
            intro r
            induction r with
            | zero => intro c hc; exact hc
            | succ r ih =>
              intro c hc
              unfold Builtin.growBy
              split
              · exact hc
              · exact ih _ (by omega)
          have := go 4 c (by omega)
          omega
    have h1 := Nat.mul_le_mul_right by_ hle
    rw [Nat.add_mul, Nat.mul_assoc] at h1
    have h2 : by_ ≤ (s.n + k) * by_ := Nat.le_mul_of_pos_left _ (by omega)
    by_cases hsm : s.n + k ≤ 1000
    · have h3 : by_ ≤ 70368744177664 := by omega
      -- few elements: the bound by their number
      have h4 : Builtin.nextslicecap (s.n + k) c ≤ 4 * (s.n + k) := by
        unfold Builtin.nextslicecap
        split
        · omega
        · split
          · omega
          · have go : ∀ r c, c ≤ s.n + k + ((s.n + k) + 768) / 4 → Builtin.growBy (s.n + k) r c ≤ s.n + k + ((s.n + k) + 768) / 4 := by
              intro r
              induction r with
              | zero => intro c hc; exact hc
              | succ r ih =>
                intro c hc
                unfold Builtin.growBy
                split
                · exact hc
                · exact ih _ (by omega)
            have := go 4 c (by omega)
            omega
      have h5 := Nat.mul_le_mul_right by_ h4
      rw [Nat.mul_assoc] at h5
      omega
    · have h6 : 1000 * by_ ≤ (s.n + k) * by_ := Nat.mul_le_mul_right _ (by omega)
      omega
  unfold rowA at h
  split at h
  · next hp =>
    obtain ⟨⟨h1, h2, h3⟩, h⟩ := Sep.pur.1 h
    have h := Sep.emp.1 h
    rw [hp, h1, h2]
    refine appendNil.i h hq hs hk (by omega) (by have := hcap 0 (by omega); rw [h1, Nat.zero_add] at this; exact this) (fun b' c' w1 hc' h4 => g _ w1 (by simp [h1]) ?_)
    subst h3
    refine rowA.make (spare := (Builtin.zeroCells zs.toArray (c' - k)).toList) h4 (by simpa using hnew) ?_ hc'
    rw [zeroCells_size]
    simp only [List.nil_append, hnew, List.size_toArray, hz, ← Nat.add_mul]
    congr 1; omega
  · next a ha =>
    obtain ⟨spare, h⟩ := Sep.ex.1 h
    obtain ⟨⟨h1, h2, h3, h4, h5⟩, h⟩ := Sep.pur.1 h
    obtain ⟨b, o, sp⟩ := a
    simp only at h1 h2
    subst h1 h2
    rw [ha]
    have hdl : ((s.n + k) * m) = s.n * m + k * m := Nat.add_mul _ _ _
    by_cases hr : s.n + k ≤ s.c
    · have hle : (s.n + k) * m ≤ s.c * m := Nat.mul_le_mul_right _ hr
      refine append.i h hq hs (by simp; omega) (fun _ => by simp; omega) (by omega) (fun hh => by omega) (fun _ w1 h6 => g _ w1 rfl ?_) (fun hlt => by omega)
      · have e : setAll (vs ++ spare) (0 + s.n * m) news = vs ++ news ++ spare.drop news.length := by
          rw [setAll_eq _ _ _ (by simp; omega), List.take_append_of_le_length (by omega), List.take_of_length_le (by omega), List.drop_append]
          rw [List.drop_eq_nil_of_le (by omega)]
          simp only [List.nil_append]
          congr 2; omega
        rw [e] at h6
        refine rowA.make (spare := spare.drop news.length) h6 (by simp; omega) (by simp; omega) hr
    · refine append.i h hq hs (by simp; omega) (fun hh => absurd hh hr) (by omega) (hcap _) (fun hh => absurd hh hr) (fun _ b' c' w1 hc' h6 => g _ w1 rfl ?_)
      have e : ((vs ++ spare).drop 0).take (s.n * m) = vs := by
        rw [List.drop_zero, List.take_append_of_le_length (by omega), List.take_of_length_le (by omega)]
      rw [e] at h6
      -- the old row is let go
      have h7 := (h6.fr 1 rfl).tail
      refine rowA.make (spare := (Builtin.zeroCells zs.toArray (c' - (s.n + k))).toList) h7 (by simp; omega) ?_ hc'
      rw [zeroCells_size]
      simp only [List.length_append, h3, hnew, List.size_toArray, hz, ← Nat.add_mul]
      congr 1; omega

/-- What is appended lies in a block. -/
theorem Src.blk {b n c i : Nat} {C : List Value} {xt : TypeId} {by_ : Nat} {zs : List Value} (h : Sep E L w) (hi : L[i]? = Option.some (Sp.blk b C)) (hq : slQ P xt = Option.some (by_, m, zs)) (hl : C.length = n * m) (h1 : ∀ u ∈ C, u.oneCell' = true) :
    Src P m xt (.slice (Option.some ⟨b, 0, none⟩) n c) n C w := by
  obtain ⟨e, ti, z, ht, _⟩ := slQ_of hq
  exact Src.ofSlice w ht ⟨b, 0, none⟩ n c C hl (fun j u hu => by rw [add_mk, h.cellAt i hi, Nat.zero_add]; exact hu) h1

end
end Go.Sp
