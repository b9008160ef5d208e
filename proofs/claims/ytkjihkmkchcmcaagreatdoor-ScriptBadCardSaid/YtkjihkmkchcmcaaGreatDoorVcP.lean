/- All orders of a region that draws, by one invariant. -/
import Derived.Test.YtkjihkmkchcmcaaGreatDoorVcG
namespace Go.Vc
open Go

section
variable {P : Program} {τ : TypeId → K1} {ρ : TypeId → Kd} {pan : FuncId → Bool} {A : Ann}

theorem vEach_of {f : Nat → Prop} : ∀ {l : List Nat}, (∀ i ∈ l, f i) → vEach f l
  | [], _ => trivial
  | _ :: _, h => ⟨h _ (List.mem_cons_self ..), vEach_of (fun i hi => h i (List.mem_cons_of_mem _ hi))⟩

theorem ready_of_mem {ops : Array Oper} {listed : Array Bool} {i : Nat} (h : i ∈ Region.ready .any ops listed) : i < ops.size ∧ listed.getD i true = false ∧
    ∀ o, ops[i]? = some o → ∀ e ∈ o.after.toList, Region.binds .any e = true → listed.getD e.on false = true := by
  unfold Region.ready at h
  rw [List.mem_filter, List.mem_range] at h
  obtain ⟨h1, h2⟩ := h
  simp only [Bool.and_eq_true, Bool.not_eq_true'] at h2
  refine ⟨h1, h2.1, fun o ho e he hb => ?_⟩
  have h3 := h2.2
  rw [ho] at h3
  simp only [Option.map_some, Option.getD_some] at h3
  rw [← Array.all_toList] at h3
  have := List.all_eq_true.1 h3 e he
  rw [hb] at this
  simpa using this

/-- What an operation waits for lies ahead of it. -/
def backB (ops : Array Oper) : Bool := (List.range ops.size).all fun i => match ops[i]? with
  | some o => o.after.toList.all fun e => Nat.blt e.on i
  | none => true

theorem all_listed {ops : Array Oper} {listed : Array Bool} (hb : backB ops = true) (hr : Region.ready .any ops listed = []) : ∀ i, i < ops.size → listed.getD i true = true := by
  intro i
  induction i using Nat.strongRecOn with
  | _ i ih =>
    intro hi
    cases hl : listed.getD i true with
    | true => rfl
    | false =>
      exfalso
      have ho : ops[i]? = some ops[i] := Array.getElem?_eq_getElem hi
      have hm : i ∈ Region.ready .any ops listed := by
        unfold Region.ready
        rw [List.mem_filter, List.mem_range]
        refine ⟨hi, ?_⟩
        rw [hl, ho]
        simp only [Bool.not_false, Bool.true_and, Option.map_some, Option.getD_some]
        rw [← Array.all_toList, List.all_eq_true]
        intro e he
        have hlt : e.on < i := by
          unfold backB at hb
          have := List.all_eq_true.1 hb i (List.mem_range.2 hi)
          rw [ho] at this
          exact Nat.le_of_ble_eq_true (List.all_eq_true.1 this e he)
        have h1 := ih e.on hlt (by omega)
        have h2 : listed.getD e.on false = true := by
          rw [Array.getD_eq_getD_getElem?] at h1 ⊢
          cases h3 : listed[e.on]? with
          | some b => rw [h3] at h1; simpa using h1
          | none =>
            exfalso
            have h4 : listed.size ≤ e.on := Array.getElem?_eq_none_iff.1 h3
            rw [Array.getD_eq_getD_getElem?, Array.getElem?_eq_none (by omega)] at hl
            cases hl
        rw [h2]; simp
      rw [hr] at hm; cases hm

def unlO (n : Nat) (listed : Array Bool) : Nat := ((List.range n).filter fun j => !listed.getD j true).length
theorem filter_lt {p q : Nat → Bool} : ∀ {l : List Nat} {i : Nat}, (∀ x, q x = true → p x = true) → i ∈ l → p i = true → q i = false → (l.filter q).length < (l.filter p).length
  | [], _, _, h, _, _ => by cases h
  | x :: l, i, hpq, hi, hp, hq => by
    have hle : ∀ l : List Nat, (l.filter q).length ≤ (l.filter p).length := by
      intro l
      induction l with
      | nil => simp
      | cons y l ih =>
        rw [List.filter_cons, List.filter_cons]
        split
        · next h => rw [if_pos (hpq _ h)]; simpa using ih
        · split
          · simp; omega
          · exact ih
    rw [List.filter_cons, List.filter_cons]
    rcases List.mem_cons.1 hi with rfl | hi
    · rw [if_neg (by rw [hq]; simp), if_pos hp]
      have := hle l
      simp; omega
    · have ih := filter_lt hpq hi hp hq
      split
      · next h => rw [if_pos (hpq _ h)]; simpa using ih
      · split
        · simp; omega
        · exact ih

theorem unl_step {n i : Nat} {listed : Array Bool} (hi : i < n) (hs : listed.size = n) (h : listed.getD i true = false) : unlO n (listed.setIfInBounds i true) < unlO n listed := by
  unfold unlO
  refine filter_lt (p := fun j => !listed.getD j true) (q := fun j => !(listed.setIfInBounds i true).getD j true) (i := i) (fun x hx => ?_) (List.mem_range.2 hi) (by simp only [h]; rfl) ?_
  · by_cases e : x = i
    · subst e; simp only [h]; rfl
    · have : (listed.setIfInBounds i true).getD x true = listed.getD x true := by
        rw [Array.getD_eq_getD_getElem?, Array.getD_eq_getD_getElem?, Array.getElem?_setIfInBounds_ne (Ne.symm e)]
      simp only [this] at hx; exact hx
  · have : (listed.setIfInBounds i true).getD i true = true := by
      rw [Array.getD_eq_getD_getElem?, Array.getElem?_setIfInBounds_self_of_lt (by omega)]; rfl
    simp only [this]; rfl

/-- ALL ORDERS, BY AN INVARIANT: of which operations were carried out, the frame and the world. -/
theorem vAny_inv {ops : Array Oper} {Q : Exit → Tr → World → Prop} (J : Array Bool → Tr → World → Prop)
    (step : ∀ listed T w i o, listed.size = ops.size → J listed T w → i ∈ Region.ready .any ops listed → ops[i]? = some o → ∀ next : Tr → World → Prop, (∀ T' w', J (listed.setIfInBounds i true) T' w' → next T' w') →
      vGuard ops o T (fun T => vOp P τ ρ pan A o T w next Q) (fun T => next (T.put o.dst undef) w))
    (fin : ∀ listed T w, J listed T w → Region.ready .any ops listed = [] → Q .normal T w) :
    ∀ (fuel : Nat) (listed : Array Bool) (T : Tr) (w : World), listed.size = ops.size → unlO ops.size listed ≤ fuel → J listed T w → vAny P τ ρ pan A ops Q fuel listed T w := by
  intro fuel
  induction fuel with
  | zero =>
    intro listed T w hs hu hJ
    unfold vAny
    split
    · next e => exact fin _ _ _ hJ e
    · next e =>
      cases hr : Region.ready .any ops listed with
      | nil => exact absurd hr e
      | cons i l =>
        have hm : i ∈ Region.ready .any ops listed := by rw [hr]; exact List.mem_cons_self ..
        obtain ⟨h1, h2, _⟩ := ready_of_mem hm
        have := unl_step h1 hs h2
        omega
  | succ fuel ih =>
    intro listed T w hs hu hJ
    unfold vAny
    split
    · next e => exact fin _ _ _ hJ e
    · next i0 l0 e =>
      refine vEach_of (fun i hi => ?_)
      rw [← e] at hi
      obtain ⟨h1, h2, _⟩ := ready_of_mem hi
      have ho : ops[i]? = some ops[i] := Array.getElem?_eq_getElem h1
      rw [ho]
      have hstep := unl_step h1 hs h2
      exact step listed T w i ops[i] hs hJ hi ho _ (fun T' w' hJ' => ih _ _ _ (by simpa using hs) (by omega) hJ')

end
end Go.Vc
