/- All orders of a region that draws: what each operation gives, and owns, by itself. -/
import Derived.Test.YtkjihkmkchcmcaaGreatDoorVcP
import Derived.Test.YtkjihkmkchcmcaaGreatDoorSep
namespace Go.Vc
open Go Go.Sp

section
variable {P : Program} {τ : TypeId → K1} {ρ : TypeId → Kd} {pan : FuncId → Bool} {A : Ann}

def dstO (ops : Array Oper) (i : Nat) : Nat := match ops[i]? with | some o => o.dst.getD 0 | none => 0
/-- No guards; each writes a slot of its own; what it waits for lies ahead of it. -/
def ownB (ops : Array Oper) : Bool :=
  backB ops && ((List.range ops.size).all fun i => match ops[i]? with
    | some o => o.guard.isNone && o.dst.isSome && Nat.blt (o.dst.getD 0) 8000 && (List.range i).all fun j => !(Nat.beq (dstO ops j) (dstO ops i))
    | none => false)
theorem ownB_of {ops : Array Oper} (h : ownB ops = true) : backB ops = true ∧ (∀ i o, ops[i]? = some o → o.guard = none ∧ o.dst = some (dstO ops i) ∧ dstO ops i < 8000) ∧ ∀ i j, i < ops.size → j < ops.size → i ≠ j → dstO ops i ≠ dstO ops j := by
  unfold ownB at h
  rw [Bool.and_eq_true] at h
  obtain ⟨h1, h2⟩ := h
  have h3 : ∀ i o, ops[i]? = some o → o.guard = none ∧ o.dst = some (dstO ops i) ∧ dstO ops i < 8000 ∧ ∀ j, j < i → dstO ops j ≠ dstO ops i := by
    intro i o ho
    have hi : i < ops.size := (Array.getElem?_eq_some_iff.1 ho).1
    have := List.all_eq_true.1 h2 i (List.mem_range.2 hi)
    rw [ho] at this
    simp only [Bool.and_eq_true, List.all_eq_true, Bool.not_eq_true'] at this
    obtain ⟨⟨⟨a, b⟩, c⟩, d⟩ := this
    obtain ⟨d', hd'⟩ := Option.isSome_iff_exists.1 b
    have e : dstO ops i = d' := by unfold dstO; rw [ho]; simp [hd']
    refine ⟨Option.isNone_iff_eq_none.1 a, by rw [hd', e], ?_, fun j hj hh => ?_⟩
    · rw [hd'] at c; rw [e]; simpa using c
    · have := d j (List.mem_range.2 hj)
      rw [hh] at this
      simp at this
  refine ⟨h1, fun i o ho => let ⟨a, b, c, _⟩ := h3 i o ho; ⟨a, b, c⟩, fun i j hi hj hne => ?_⟩
  rcases Nat.lt_or_gt_of_ne hne with h' | h'
  · exact (h3 j ops[j] (Array.getElem?_eq_getElem hj)).2.2.2 i h'
  · exact fun e => (h3 i ops[i] (Array.getElem?_eq_getElem hi)).2.2.2 j h' e.symm

theorem flatMap_one {α : Type} {f f' : Nat → List α} {i : Nat} {X : List α} : ∀ {l : List Nat}, l.Nodup → i ∈ l → f i = [] → f' i = X → (∀ j ∈ l, j ≠ i → f' j = f j) → (X ++ l.flatMap f).Perm (l.flatMap f')
  | [], _, hi, _, _, _ => by cases hi
  | a :: l, hnd, hi, h0, hX, hr => by
    rw [List.flatMap_cons, List.flatMap_cons]
    obtain ⟨hna, hnd'⟩ := List.nodup_cons.1 hnd
    by_cases e : a = i
    · subst e
      rw [h0, hX, List.nil_append]
      have : l.flatMap f' = l.flatMap f := by
        have : ∀ {m : List Nat}, (∀ j ∈ m, f' j = f j) → m.flatMap f' = m.flatMap f := by
          intro m hm
          induction m with
          | nil => rfl
          | cons b m ih => rw [List.flatMap_cons, List.flatMap_cons, hm b (List.mem_cons_self ..), ih (fun j hj => hm j (List.mem_cons_of_mem _ hj))]
        exact this (fun j hj => hr j (List.mem_cons_of_mem _ hj) (fun e => hna (e ▸ hj)))
      rw [this]
    · rw [hr a (List.mem_cons_self ..) e]
      have hi' : i ∈ l := by
        rcases List.mem_cons.1 hi with h | h
        · exact absurd h.symm e
        · exact h
      have ih := flatMap_one hnd' hi' h0 hX (fun j hj => hr j (List.mem_cons_of_mem _ hj))
      refine List.Perm.trans ?_ (List.Perm.append_left (f a) ih)
      rw [← List.append_assoc, ← List.append_assoc]
      exact List.Perm.append_right _ List.perm_append_comm

/-- What is owned so far. -/
def pieces (ops : Array Oper) (Ow : Nat → Tr → List Asn) (listed : Array Bool) (T : Tr) : List Asn :=
  (List.range ops.size).flatMap fun i => if listed.getD i true = true then Ow i T else []

/-- What an operation waits for. -/
def waits (ops : Array Oper) (i j : Nat) : Prop := ∃ o, ops[i]? = some o ∧ ∃ e ∈ o.after.toList, Region.binds .any e = true ∧ e.on = j

theorem vAny_own {ops : Array Oper} {Q : Exit → Tr → World → Prop} {E : Env} {L : List Asn} (Fx : Tr → Prop) (F : Nat → Tr → Prop) (Ow : Nat → Tr → List Asn) (hok : ownB ops = true)
    (hFx : ∀ T i v, i < ops.size → Fx T → Fx (T.put (some (dstO ops i)) v))
    (hF : ∀ i j T v, i < ops.size → j < ops.size → i ≠ j → ¬ waits ops i j → F i T → F i (T.put (some (dstO ops j)) v))
    (hOw : ∀ i j T v, i < ops.size → j < ops.size → i ≠ j → ¬ waits ops i j → Ow i (T.put (some (dstO ops j)) v) = Ow i T)
    (step : ∀ T w i o R, Fx T → ops[i]? = some o → (∀ e ∈ o.after.toList, Region.binds .any e = true → F e.on T) → Sep E R w →
      ∀ next : Tr → World → Prop, (∀ v w', F i (T.put (some (dstO ops i)) v) → Sep E (Ow i (T.put (some (dstO ops i)) v) ++ R) w' → next (T.put (some (dstO ops i)) v) w') → vOp P τ ρ pan A o T w next Q)
    (fin : ∀ T w M, Fx T → (∀ i, i < ops.size → F i T) → Sep E (M ++ L) w → M.Perm ((List.range ops.size).flatMap fun i => Ow i T) → Q .normal T w)
    {T : Tr} {w : World} (h0 : Fx T) (hS : Sep E L w) : vAny P τ ρ pan A ops Q ops.size (Array.replicate ops.size false) T w := by
  obtain ⟨hb, ho1, ho2⟩ := ownB_of hok
  have hon : ∀ {i : Nat} {o : Oper} {e}, i < ops.size → ops[i]? = some o → e ∈ o.after.toList → e.on < i := by
    intro i o e hil ho he
    unfold backB at hb
    have := List.all_eq_true.1 hb i (List.mem_range.2 hil)
    rw [ho] at this
    exact Nat.le_of_ble_eq_true (List.all_eq_true.1 this e he)
  have tf : ∀ {listed : Array Bool} {j : Nat}, listed.getD j false = true → listed.getD j true = true := by
    intro listed j h
    rw [Array.getD_eq_getD_getElem?] at h ⊢
    cases h3 : listed[j]? with
    | some b => rw [h3] at h; simpa using h
    | none => rfl
  refine vAny_inv (fun listed T w => listed.size = ops.size ∧ Fx T ∧ (∀ i, i < ops.size → listed.getD i true = true → F i T) ∧ (∀ i j, i < ops.size → listed.getD i true = true → waits ops i j → listed.getD j true = true) ∧
    ∃ M, Sep E (M ++ L) w ∧ M.Perm (pieces ops Ow listed T)) ?_ ?_ ops.size _ T w (by simp) ?_ ?_
  · rintro listed T w i o hs ⟨_, hx, hFF, hcl, M, hM, hp⟩ hi ho next hn
    obtain ⟨hil, hli, hdep⟩ := ready_of_mem hi
    obtain ⟨hg, hd, hd8⟩ := ho1 i o ho
    unfold vGuard
    rw [hg]
    dsimp only
    refine step T w i o (M ++ L) hx ho (fun e he hbd => ?_) hM next (fun v w' hv hS' => ?_)
    · have hlt := hon hil ho he
      exact hFF e.on (by omega) (tf (hdep o ho e he hbd))
    · have hset : ∀ j, j < ops.size → (listed.setIfInBounds i true).getD j true = if j = i then true else listed.getD j true := by
        intro j hj
        rw [Array.getD_eq_getD_getElem?, Array.getD_eq_getD_getElem?]
        by_cases e : j = i
        · subst e; rw [if_pos rfl, Array.getElem?_setIfInBounds_self_of_lt (by omega)]; rfl
        · rw [if_neg e, Array.getElem?_setIfInBounds_ne (Ne.symm e)]
      have hwl : ∀ j k, waits ops j k → k < ops.size := by
        rintro j k ⟨o', ho', e, he, _, rfl⟩
        have hj := (Array.getElem?_eq_some_iff.1 ho').1
        have := hon hj ho' he
        omega
      refine hn _ _ ⟨by simpa using hs, hFx _ _ _ hil hx, fun j hj hl => ?_, fun j k hj hl hw => ?_, Ow i (T.put (some (dstO ops i)) v) ++ M, by rw [List.append_assoc]; exact hS', ?_⟩
      · by_cases e : j = i
        · subst e; exact hv
        · rw [hset j hj, if_neg e] at hl
          refine hF j i T v hj hil e (fun hw => ?_) (hFF j hj hl)
          have := hcl j i hj hl hw
          rw [hli] at this; cases this
      · have hk := hwl j k hw
        rw [hset k hk]
        by_cases e : j = i
        · subst e
          obtain ⟨o', ho', e, he, hbd, rfl⟩ := hw
          rw [ho] at ho'
          cases ho'
          split
          · rfl
          · exact tf (hdep o ho e he hbd)
        · rw [hset j hj, if_neg e] at hl
          split
          · rfl
          · exact hcl j k hj hl hw
      · refine (List.Perm.append_left _ hp).trans ?_
        unfold pieces
        refine flatMap_one List.nodup_range (List.mem_range.2 hil) ?_ ?_ (fun j hj hji => ?_)
        · rw [hli]; rfl
        · rw [hset i hil, if_pos rfl, if_pos rfl]
        · have hj' := List.mem_range.1 hj
          rw [hset j hj', if_neg hji]
          split
          · next hl => exact hOw j i T v hj' hil hji (fun hw => by have := hcl j i hj' hl hw; rw [hli] at this; cases this)
          · rfl
  · rintro listed T w ⟨hs, hx, hFF, _, M, hM, hp⟩ hr
    have hall := all_listed hb hr
    refine fin T w M hx (fun i hi => hFF i hi (hall i hi)) hM (hp.trans ?_)
    unfold pieces
    have : ∀ {m : List Nat}, (∀ j ∈ m, j < ops.size) → (m.flatMap fun i => if listed.getD i true = true then Ow i T else []) = m.flatMap fun i => Ow i T := by
      intro m hm
      induction m with
      | nil => rfl
      | cons b m ih => rw [List.flatMap_cons, List.flatMap_cons, ih (fun j hj => hm j (List.mem_cons_of_mem _ hj)), if_pos (hall b (hm b (List.mem_cons_self ..)))]
    rw [this (fun j hj => List.mem_range.1 hj)]
  · unfold unlO
    exact Nat.le_trans (List.length_filter_le _ _) (by rw [List.length_range]; exact Nat.le_refl _)
  · have no : ∀ i, i < ops.size → (Array.replicate ops.size false).getD i true = false := by
      intro i hi
      rw [Array.getD_eq_getD_getElem?, Array.getElem?_replicate, if_pos hi]; rfl
    refine ⟨by simp, h0, fun i hi hl => ?_, fun i j hi hl => ?_, [], hS, ?_⟩
    · rw [no i hi] at hl; cases hl
    · rw [no i hi] at hl; cases hl
    · unfold pieces
      have : ∀ {m : List Nat}, (∀ j ∈ m, j < ops.size) → (m.flatMap fun i => if (Array.replicate ops.size false).getD i true = true then Ow i T else []) = [] := by
        intro m hm
        induction m with
        | nil => rfl
        | cons b m ih =>
          rw [List.flatMap_cons, ih (fun j hj => hm j (List.mem_cons_of_mem _ hj)), no b (hm b (List.mem_cons_self ..))]
          rfl
      rw [this (fun j hj => List.mem_range.1 hj)]
end
end Go.Vc
