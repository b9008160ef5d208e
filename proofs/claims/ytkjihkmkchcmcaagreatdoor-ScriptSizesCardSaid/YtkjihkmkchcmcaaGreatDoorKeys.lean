/- The sorted keys of a map whose keys are numbers. -/
import Derived.Test.YtkjihkmkchcmcaaGreatDoorRowP
import Derived.Shelf.SlIterI.Nil
import Derived.Shelf.SortM.Plain
import Derived.Shelf.SortM.SortNone
namespace Go.Sp
open Go Go.Vc Go.WideElems Go.WideShapes Go.RowKit

/-- The numbers of which a map tells something: each once, rising. -/
structure KeysOf (f : Int → Option Value) (l : List Int) : Prop where
  rise : l.Pairwise (· < ·)
  mem : ∀ k, k ∈ l ↔ (f k).isSome = true

def intL (l : List Int) : List Value := l.map (Value.int .i64)
@[simp] theorem intL_length (l : List Int) : (intL l).length = l.length := by simp [intL]
@[simp] theorem intL_get (l : List Int) (i : Nat) : (intL l)[i]? = l[i]?.map (Value.int .i64) := by simp [intL]

theorem ids_le : ∀ (N : Nat) (l : List Int), l.Nodup → (∀ x ∈ l, 0 ≤ x ∧ x < N) → l.length ≤ N
  | 0, l, _, h => by
    cases l with
    | nil => simp
    | cons x l => have := h x (by simp); omega
  | N + 1, l, hd, h => by
    have h1 := ids_le N (l.filter (· ≠ (N : Int))) (hd.filter _) (fun x hx => by
      simp only [List.mem_filter, decide_eq_true_eq] at hx
      have := h x hx.1; omega)
    by_cases hm : (N : Int) ∈ l
    · have h2 : (l.filter (· ≠ (N : Int))).length = l.length - 1 := by
        have : l.filter (· ≠ (N : Int)) = l.erase (N : Int) := by rw [hd.erase_eq_filter]; congr 1; funext x; simp [bne, decide_not]; rfl
        rw [this, List.length_erase_of_mem hm]
      omega
    · have : l.filter (· ≠ (N : Int)) = l := by
        rw [List.filter_eq_self]
        intro a ha
        simp only [ne_eq, decide_eq_true_eq]
        rintro rfl; exact hm ha
      rw [this] at h1; omega

section
variable {E : Env} {L : List Asn} {w : World} {P : Program} {f : Int → Option Value} {b : Nat}

def trueR : Value → Option (DataW Unit × List MemPlace) := fun _ => some (.lit (.bool true), [])

theorem mapF.owns {i : Nat} {kt : TypeId} (h : Sep E L w) (hi : L[i]? = some (mapF b (Value.int .i64) f)) (hk : P.underlying kt = some (.int .i64)) {N : Nat} (hN : ∀ k v, f k = some v → 0 ≤ k ∧ k < N) (hb : N ≤ 17592186044416) :
    ∃ D : DataW Unit, w.ownsMap P kt trueR b N D ∧ Maps.size D ≤ N ∧ ∀ ss : List Int, ss.Perm (intKeys D) → ss.Nodup ∧ ∀ k, k ∈ ss ↔ (f k).isSome = true := by
  obtain ⟨es, ck, hb', M⟩ := mapF.at_ h hi
  -- the keys, as numbers
  have hkey : ∀ e ∈ es, ∃ k : Int, e.key = .int .i64 k ∧ f k = some e.val ∧ (Lit.int .i64 k).wf = true := by
    intro e he
    obtain ⟨k, h1, h2⟩ := M.key e he
    refine ⟨k, h1, h2, ?_⟩
    have := hN k _ h2
    simp only [Lit.wf, IntKind.min, IntKind.max, IntKind.signed, IntKind.bits, Bool.and_eq_true, decide_eq_true_eq]
    constructor <;> simp <;> omega
  let kn : MapEntry → Int := fun e => match e.key with | .int _ n => n | _ => 0
  have hkn : ∀ e ∈ es, e.key = .int .i64 (kn e) ∧ f (kn e) = some e.val ∧ (Lit.int .i64 (kn e)).wf = true := by
    intro e he
    obtain ⟨k, h1, h2, h3⟩ := hkey e he
    have : kn e = k := by simp only [kn, h1]
    rw [this]; exact ⟨h1, h2, h3⟩
  have hnd : (es.map kn).Nodup := by
    rw [List.nodup_iff_pairwise_ne, List.pairwise_map]
    refine List.Pairwise.imp_of_mem ?_ M.one
    intro a b ha hb hne he
    exact hne (by rw [(hkn a ha).1, (hkn b hb).1, he])
  have hlen : es.length ≤ N := by
    have := ids_le N (es.map kn) hnd (fun x hx => by
      obtain ⟨e, he, rfl⟩ := List.mem_map.1 hx
      exact hN _ _ (hkn e he).2.1)
    simpa using this
  have hrd : ∀ e ∈ es, rd P kt trueR e = some (.int .i64 (kn e), .lit (.bool true)) := by
    intro e he
    have hh := hkn e he
    unfold rd
    rw [hh.1, Maps.keyOf_int_mk hk hh.2.2]; rfl
  have hrg : es.map (rg P kt trueR) = es.map fun e => (Lit.int .i64 (kn e), (DataW.lit (.bool true) : DataW Unit)) := by
    apply List.map_congr_left
    intro e he
    unfold rg; rw [hrd e he]; rfl
  refine ⟨.map ((es.map (rg P kt trueR)).foldr DataW.insert []), ⟨es.toArray, ck, hb', ⟨?_, ?_, ?_⟩, by simpa using hlen, by simp⟩, ?_, ?_⟩
  · simp [maxLen]; omega
  · refine ⟨by simpa using M.born, ?_, ?_⟩
    · simp only [List.nodup_iff_pairwise_ne, List.pairwise_map]; exact M.bone
    · simp only [List.nodup_iff_pairwise_ne, List.pairwise_map]; exact M.one
  · intro x hx
    exact ⟨_, hrd x (by simpa using hx)⟩
  · show ((es.map (rg P kt trueR)).foldr DataW.insert []).length ≤ N
    rw [(sorted_perm _).length_eq]; simpa using hlen
  · intro ss hss
    have hp : ss.Perm (es.map kn) := by
      refine hss.trans ?_
      show (((es.map (rg P kt trueR)).foldr DataW.insert []).map fun p => intOf p.1).Perm _
      refine ((sorted_perm _).map _).trans ?_
      rw [hrg, List.map_map]
      exact List.Perm.of_eq (List.map_congr_left (fun e _ => rfl))
    refine ⟨hp.nodup_iff.2 hnd, fun k => ?_⟩
    rw [hp.mem_iff, List.mem_map]
    constructor
    · rintro ⟨e, he, rfl⟩
      rw [(hkn e he).2.1]; rfl
    · intro hs
      obtain ⟨v, hv⟩ := Option.isSome_iff_exists.1 hs
      obtain ⟨e, he, h1, h2⟩ := M.has k v hv
      refine ⟨e, he, ?_⟩
      have := (hkn e he).1
      rw [h1] at this
      simpa using this.symm

theorem rising_sort {ss : List Int} (hn : ss.Nodup) : (ss.mergeSort fun x y => decide (x ≤ y)).Pairwise (· < ·) := by
  have h1 := List.pairwise_mergeSort (le := fun x y : Int => decide (x ≤ y)) (by simpa using fun a b c => Int.le_trans) (by simpa using fun a b => Int.le_total a b) ss
  have h2 : (ss.mergeSort fun x y => decide (x ≤ y)).Nodup := (List.mergeSort_perm _ _).nodup_iff.2 hn
  rw [List.nodup_iff_pairwise_ne] at h2
  exact (h1.and h2).imp (fun {a b} h => by have := h.1; simp at this; have := h.2; omega)

/-- What slices.Sorted hands back, as a piece. -/
theorem rows_of {W : World} {v : Value} {l : List Int} {et : TypeId} (h : Sep E L w) (hw : W.ownsRow w.heap.size et 1 v l.length (l.map encZ)) (hb : RowKit.Below w.heap.size w W) :
    ∃ s : Sl, v = .slice s.p s.n s.c ∧ s.n = l.length ∧ Sep E (rowA s 1 (intL l) :: L) W := by
  obtain ⟨hl, h0 | ⟨g, cap, cur, hv, hg, hcell, hle, hmax, hsz, htake⟩⟩ := hw
  · obtain ⟨rfl, h1⟩ := h0
    have : l = [] := List.eq_nil_of_length_eq_zero h1
    subst this
    refine ⟨⟨none, 0, 0⟩, rfl, rfl, rowA.none_ (h.grow ⟨hb.os, hb.tape, hb.output, hb.size, hb.block⟩)⟩
  · refine ⟨⟨some ⟨g, 0, none⟩, l.length, cap⟩, hv, rfl, ?_⟩
    have hcur : cur.toList = intL l ++ cur.toList.drop l.length := by
      have : intL l = cur.toList.take l.length := by rw [Nat.mul_one] at htake; exact htake.symm
      rw [this, List.take_append_drop]
    have hsz' : cur.toList.length = cap := by simpa using hsz
    have hS : Sep E (blk g (intL l ++ cur.toList.drop l.length) :: L) W := by
      refine h.new ⟨hb.os, hb.tape, hb.output, hb.size, hb.block⟩ (F' := fun x => x = g) ⟨⟨et, (0, 0), ?_, fun _ _ hh => by omega⟩, fun _ => Iff.rfl⟩ (fun x hx => ?_)
      · rw [hcell, ← hcur]
      · subst hx; exact ⟨hg, (Array.getElem?_eq_some_iff.1 hcell).1⟩
    exact rowA.make hS (by simp) (by simp; omega) hle

end
end Go.Sp
