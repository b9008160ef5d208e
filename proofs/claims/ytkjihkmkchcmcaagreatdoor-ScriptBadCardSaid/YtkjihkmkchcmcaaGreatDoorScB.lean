/- Rows of bytes that can be read; texts out of them, and they out of texts. -/
import Derived.Test.YtkjihkmkchcmcaaGreatDoorRowQ
import Derived.Lib.ConvBytes
import Derived.Laws.BytesString
import Derived.DataElems
namespace Go.Sp
open Go Go.Vc Go.Proofs

section
variable {E : Env} {L : List Asn} {w W : World} {P : Program}

structure Byt (w : World) (s : Sl) (l : List UInt8) : Prop where
  n : s.n = l.length
  rd : ∀ (i : Nat) c, l[i]? = some c → ∃ a, s.p = some a ∧ w.cell? (a.add i) = some (.int .u8 (c.toNat : Int))
theorem Byt.grow {s : Sl} {l : List UInt8} (h : Byt W s l) (g : Grow W w) : Byt w s l := ⟨h.n, fun i x hx => let ⟨a, h1, h2⟩ := h.rd i x hx; ⟨a, h1, g.cell h2⟩⟩
theorem Byt.nil : Byt w ⟨none, 0, 0⟩ [] := ⟨rfl, fun i c h => by simp at h⟩
theorem Byt.at_ {s : Sl} {l : List UInt8} {i : Int} {f : Addr → Prop} (h : Byt w s l) (k : Nat) (hi : i = k) {c : UInt8} (hx : l[k]? = some c) (kk : ∀ a, (∀ w', Grow w w' → w'.cell? a = some (.int .u8 (c.toNat : Int))) → f a) : elAt s.p s.n i 1 f := by
  have hlt := (List.getElem?_eq_some_iff.1 hx).1
  obtain ⟨a, hp, ha⟩ := h.rd k c hx
  have := h.n
  refine ⟨a, hp, ⟨by omega, by omega⟩, kk _ (fun w' g => ?_)⟩
  have e : i.toNat * 1 = k := by omega
  rw [e]; exact g.cell ha
theorem Byt.el {s : Sl} {l : List UInt8} {i : Int} {F : Int → Prop} (h : Byt w s l) (k : Nat) (hi : i = k) {c : UInt8} (hx : l[k]? = some c) (f : F (c.toNat : Int)) : elAt s.p s.n i 1 fun a => ∃ v : Int, w.cell? a = some (.int .u8 v) ∧ F v :=
  h.at_ k hi hx (fun _ ha => ⟨_, ha w (Grow.refl w), f⟩)

theorem Addr.add_zero_ (a : Addr) : a.add 0 = a := by cases a; simp [Addr.add]
theorem Byt.drop {s : Sl} {l : List UInt8} {k : Nat} (h : Byt w s l) (hc : s.n ≤ s.c) : Byt w ⟨slA s.p k s.c 1, s.n - k, s.c - k⟩ (l.drop k) := by
  have hn := h.n
  refine ⟨by show s.n - k = _; rw [List.length_drop]; omega, fun i o ho => ?_⟩
  rw [List.getElem?_drop] at ho
  have hlt := (List.getElem?_eq_some_iff.1 ho).1
  obtain ⟨a, hp, ha⟩ := h.rd (k + i) o ho
  refine ⟨a.add (k * 1), ?_, ?_⟩
  · show slA s.p k s.c 1 = _
    rw [hp]
    unfold slA
    rw [if_neg (by omega)]; rfl
  · rw [Nat.mul_one, Addr.add_add]; exact ha
theorem Byt.take {s : Sl} {l : List UInt8} {k : Nat} (h : Byt w s l) (hk : k ≤ l.length) : Byt w ⟨slA s.p 0 s.c 1, k - 0, s.c - 0⟩ (l.take k) := by
  refine ⟨by show k - 0 = _; rw [List.length_take]; omega, fun i o ho => ?_⟩
  rw [List.getElem?_take] at ho
  split at ho
  · obtain ⟨a, hp, ha⟩ := h.rd i o ho
    refine ⟨a, ?_, ha⟩
    show slA s.p 0 s.c 1 = some a
    rw [hp]
    unfold slA
    split
    · rfl
    · rw [Nat.zero_mul, Option.map_some, Addr.add_zero_]
  · cases ho
theorem Byt.row {s : Sl} {l : List UInt8} {q : Nat} (h : Sep E L w) (hq : L[q]? = some (rowA s 1 (u8s l))) (hn : s.n = l.length) : Byt w s l := by
  refine ⟨hn, fun i c hc => ?_⟩
  have hlt := (List.getElem?_eq_some_iff.1 hc).1
  have h1 := h.fr q hq
  obtain ⟨b, spare, hp, g1, g2, g3, h2⟩ := rowA.get_ h1 (by omega)
  refine ⟨_, hp, ?_⟩
  rw [add_mk, Nat.zero_add, rowA.cell h2 (by simpa using hlt)]
  simp [hc]

theorem convert0 (w : World) {src e : TypeId} (hs : P.underlying src = some (.slice e)) (he : P.underlying e = some (.int .u8)) (p : Option Addr) (c : Nat) {dst : TypeId} (hd : P.underlying dst = some .string) :
    (convert src dst (.slice p 0 c)).run P w = .ok (.string ByteArray.empty) w := by
  rw [run_convert_bytes_string w src dst e _ 0 c hs he hd]
  cases p <;> simp [Conv.bytesToString, loadCells]
  all_goals rfl

/-- A text out of bytes. -/
theorem Byt.str {s : Sl} {l : List UInt8} {st d : TypeId} (h : Byt w s l) (hs : bsQ P st = true) (hd : isStrT P d = true) {G : ByteArray → World → Prop} (k : G ⟨l.toArray⟩ w) :
    ∃ x : ByteArray, ∃ w1, Sem.run P (convert st d (.slice s.p s.n s.c)) w = .ok (.string x) w1 ∧ G x w1 := by
  obtain ⟨e, h1, h2⟩ := bsQ_of hs
  have hn := h.n
  cases l with
  | nil =>
    have hn0 : s.n = 0 := hn
    rw [hn0]
    exact ⟨_, _, convert0 w h1 h2 s.p s.c (isStrT_of hd), k⟩
  | cons c r =>
    obtain ⟨a, hp, _⟩ := h.rd 0 c rfl
    rw [hn, hp]
    refine ⟨_, _, run_convert_bytes_back w st d e a s.c (c :: r) h1 h2 (isStrT_of hd) (fun j hj => ?_), k⟩
    obtain ⟨a', hp', ha'⟩ := h.rd j _ (List.getElem?_eq_getElem hj)
    rw [hp] at hp'
    rw [Option.some.inj hp']; exact ha'

theorem Grow.bytesWorld (w : World) (e : TypeId) (s : ByteArray) : Grow w (Lib.bytesWorld w e s) :=
  ⟨rfl, rfl, rfl, by rw [Lib.bytesWorld_size]; omega, fun b hb => Lib.bytesWorld_at_old w e s b hb⟩

/-- Bytes out of a text: a new row. -/
theorem bytesOf {t : ByteArray} {d s : TypeId} (h : Sep E L w) (hs : bsQ P s = true) (hd : isStrT P d = true) {G : Sl → World → Prop}
    (k : ∀ x w1, x.n ≤ x.c → Byt w1 x t.data.toList → Grow w w1 → Sep E L w1 → G x w1) :
    ∃ x : Sl, ∃ w1, Sem.run P (convert d s (.string t)) w = .ok (.slice x.p x.n x.c) w1 ∧ G x w1 := by
  obtain ⟨e, h1, h2⟩ := bsQ_of hs
  have g := Grow.bytesWorld w e t
  have hsz : t.data.toList.length = t.size := (Lib.size_eq t).symm
  refine ⟨⟨some ⟨w.heap.size, 0, none⟩, t.size, grownCap w t.size 0 e⟩, _, Lib.run_convert_string_bytes w d s e t (isStrT_of hd) h1 h2, k _ _ ?_ ⟨?_, fun i c hc => ⟨_, rfl, ?_⟩⟩ g (h.grow g)⟩
  · show t.size ≤ t.size + _; omega
  · exact hsz.symm
  · have hi := (List.getElem?_eq_some_iff.1 hc).1
    rw [add_mk, Nat.zero_add, Lib.bytesWorld_cell w e t i (by omega), List.getD_eq_getElem?_getD, hc]; rfl

/-- Bytes, to be appended. -/
theorem Byt.src {s : Sl} {l : List UInt8} {xt : TypeId} {by_ : Nat} {zs : List Value} (h : Byt w s l) (hq : slQ P xt = some (by_, 1, zs)) : Src P 1 xt (.slice s.p s.n s.c) l.length (u8s l) w := by
  obtain ⟨e, ti, z, ht, _⟩ := slQ_of hq
  have hn := h.n
  have hone : ∀ u ∈ u8s l, u.oneCell' = true := by
    intro u hu
    obtain ⟨x, _, rfl⟩ := List.mem_map.1 hu
    rfl
  cases l with
  | nil =>
    have hn0 : s.n = 0 := hn
    rw [hn0]
    refine ⟨.inl ⟨e, ht⟩, fun w' => by simp [Builtin.lenOf], ?_, ?_, by simp [u8s], fun u hu => by cases hu⟩
    · cases s.p with
      | none => exact run_firstCells_none w 1 0 0 s.c
      | some a => exact run_firstCells_some w 1 0 a 0 s.c [] (by simp) (fun j v hj => by simp at hj)
    · cases s.p with
      | none => exact run_firstCells_none w.drew 1 0 0 s.c
      | some a => exact run_firstCells_some w.drew 1 0 a 0 s.c [] (by simp) (fun j v hj => by simp at hj)
  | cons x xs =>
    obtain ⟨a, ha, _⟩ := h.rd 0 x rfl
    rw [ha, hn]
    refine Src.ofSlice w ht a _ _ _ (by simp) (fun j u hu => ?_) hone
    rw [u8s_get] at hu
    obtain ⟨y, hy, rfl⟩ := Option.map_eq_some_iff.1 hu
    obtain ⟨a', ha', hc⟩ := h.rd j y hy
    have e : a' = a := by rw [ha] at ha'; exact (Option.some.inj ha').symm
    subst e
    exact hc

end
end Go.Sp
