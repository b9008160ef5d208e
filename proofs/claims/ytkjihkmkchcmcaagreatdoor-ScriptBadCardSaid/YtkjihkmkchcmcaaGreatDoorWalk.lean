/- Steps of a walk, in short. -/
import Derived.Test.YtkjihkmkchcmcaaGreatDoorLeaf
import Derived.Test.YtkjihkmkchcmcaaGreatDoorRecs
import Derived.Test.YtkjihkmkchcmcaaGreatDoorKeys
namespace Go.Sp
open Go Go.Vc

theorem bT {b : Bool} {A B : Prop} (h : b = true) (k : A) : bif b then A else B := by subst h; exact k
theorem bF {b : Bool} {A B : Prop} (h : b = false) (k : B) : bif b then A else B := by subst h; exact k
theorem bLt {n i : Int} {A B : Prop} (h1 : n < i → A) (h2 : i ≤ n → B) : bif decide (n < i) then A else B :=
  bifI (fun h => h1 (by simpa using h)) (fun h => h2 (by simpa using h))
theorem bLe {n i : Int} {A B : Prop} (h1 : n ≤ i → A) (h2 : i < n → B) : bif decide (n ≤ i) then A else B :=
  bifI (fun h => h1 (by simpa using h)) (fun h => h2 (by simpa using h))
theorem bGe {n i : Int} {A B : Prop} (h1 : i ≤ n → A) (h2 : n < i → B) : bif decide (n ≥ i) then A else B :=
  bifI (fun h => h1 (by simpa using h)) (fun h => h2 (by simpa using h))
theorem bGt {n i : Int} {A B : Prop} (h1 : i < n → A) (h2 : n ≤ i → B) : bif decide (n > i) then A else B :=
  bifI (fun h => h1 (by simpa using h)) (fun h => h2 (by simpa using h))
theorem bNe {n i : Int} {A B : Prop} (h1 : n ≠ i → A) (h2 : n = i → B) : bif (n != i) then A else B :=
  bifI (fun h => h1 (by simpa using h)) (fun h => h2 (by simpa using h))
theorem bEq {n i : Int} {A B : Prop} (h1 : n = i → A) (h2 : n ≠ i → B) : bif (n == i) then A else B :=
  bifI (fun h => h1 (by simpa using h)) (fun h => h2 (by simpa using h))

section
variable {E : Env} {L : List Asn} {w : World} {P : Program}

/-- A cell is read. -/
theorem ld {α : Type} {mk : α → Value} {F : α → Prop} {a : Addr} {b o : Nat} {c : List Value} {x : α} (h : Sep E L w) (i : Nat) (ha : a = ⟨b, o, none⟩) (hi : L[i]? = some (blk b c)) (hv : c[o]? = some (mk x)) (k : F x) :
    ∃ x, w.cell? a = some (mk x) ∧ F x := ⟨x, by rw [ha, h.cellAt i hi]; exact hv, k⟩
/-- A cell that lay there. -/
theorem ldO {α : Type} {mk : α → Value} {F : α → Prop} {a : Addr} {W : World} {x : α} (h : Sep E L w) (i : Nat) (hi : L[i]? = some (old W.heap)) (hv : W.cell? a = some (mk x)) (k : F x) : ∃ x, w.cell? a = some (mk x) ∧ F x :=
  ⟨x, h.oldCell hi hv, k⟩
/-- An element of a row of owned cells, one cell each. -/
theorem ldR {α : Type} {mk : α → Value} {F : α → Prop} {a : Addr} {b o : Nat} {x : α} {s : Sl} {vs : List Value} (ha : a = ⟨b, o, none⟩) (hc : w.cell? ⟨b, o, none⟩ = vs[o]?) (hv : vs[o]? = some (mk x)) (k : F x) :
    ∃ x, w.cell? a = some (mk x) ∧ F x := by
  have _ := s
  exact ⟨x, by rw [ha, hc]; exact hv, k⟩

/-- All of a block is written anew. -/
theorem zst (f : World → Prop) {b : Nat} {C : List Value} {vs : List Value} (h : Sep E (blk b C :: L) w) (hC : C.length = vs.length) (k : ∀ w1, Sep E (blk b vs :: L) w1 → f w1) : StN vs ⟨b, 0, none⟩ f w := by
  refine StN.i h (by omega) (fun w1 h1 => k w1 ?_)
  rw [setAll_eq _ _ _ (by omega)] at h1
  simpa [← hC] using h1

/-- An element of an int slice that is owned. -/
theorem elI {s : Sl} {l : List Int} {i : Int} {f : Addr → Prop} (q : Nat) (h : Sep E L w) (hq : L[q]? = some (rowA s 1 (intL l))) (hn : s.n = l.length) (h0 : 0 ≤ i) (h1 : i < l.length)
    (k : ∀ a, w.cell? a = some (.int .i64 (l.getD i.toNat 0)) → f a) : elAt s.p s.n i 1 f := by
  refine rowA.el q h hq h0 (by omega) (fun b _ hc => k _ ?_)
  have := hc 0 (by omega)
  rw [Nat.add_zero] at this
  rw [this, Nat.mul_one]
  have hlt : i.toNat < l.length := by omega
  simp [hlt, List.getD, intL]

/-- .. its address stays good. -/
theorem elJ {s : Sl} {l : List Int} {i : Int} {f : Addr → Prop} (q : Nat) (h : Sep E L w) (hq : L[q]? = some (rowA s 1 (intL l))) (hn : s.n = l.length) (h0 : 0 ≤ i) (h1 : i < l.length)
    (k : ∀ a, (∀ {L' : List Asn} {w' : World} (q' : Nat), Sep E L' w' → L'[q']? = some (rowA s 1 (intL l)) → w'.cell? a = some (.int .i64 (l.getD i.toNat 0))) → f a) : elAt s.p s.n i 1 f := by
  refine rowA.el q h hq h0 (by omega) (fun b hb _ => k _ (fun {L' w'} q' h' hq' => ?_))
  have h2 := h'.fr q' hq'
  obtain ⟨b', spare, hb', hl, _, _, h2⟩ := rowA.get_ h2 (by omega)
  have e : b' = b := by rw [hb] at hb'; simpa using hb'.symm
  subst e
  have := rowA.cell h2 (j := i.toNat) (by rw [hl, hn]; omega)
  rw [Nat.mul_one, this]
  have hlt : i.toNat < l.length := by omega
  simp [hlt, List.getD, intL]

end
end Go.Sp
