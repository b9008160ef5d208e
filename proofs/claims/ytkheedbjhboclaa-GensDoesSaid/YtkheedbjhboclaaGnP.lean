/- The laws of gens: what they say, plainly. -/
import Derived.Test.YtkheedbjhboclaaGnA
set_option maxRecDepth 100000
namespace Go.Mp
open Go Go.Vc Go.Sp Go.Stab

variable {R : List Ent}

theorem gGroup_some {id : Int} {e : Ent} (h : fnd R id = some e) : gGroup R id = e.group := by unfold gGroup; rw [h]
theorem gAge_some {id : Int} {e : Ent} (h : fnd R id = some e) : gAge R id = e.age := by unfold gAge; rw [h]
theorem gGroup_none {id : Int} (h : fnd R id = none) : gGroup R id = -1 := by unfold gGroup; rw [h]
theorem gAge_none {id : Int} (h : fnd R id = none) : gAge R id = -1 := by unfold gAge; rw [h]
theorem gAge_map (F : Ent → Ent) (hF : ∀ e, (F e).id = e.id) (id : Int) : gAge (R.map F) id = match fnd R id with | some e => (F e).age | none => -1 := by
  unfold gAge; rw [fnd_map F hF]; cases fnd R id <;> rfl
theorem gGroup_map (F : Ent → Ent) (hF : ∀ e, (F e).id = e.id) (id : Int) : gGroup (R.map F) id = match fnd R id with | some e => (F e).group | none => -1 := by
  unfold gGroup; rw [fnd_map F hF]; cases fnd R id <;> rfl

/-! ### aging -/

def aged (g : Int) (i : Nat) (e : Ent) : Ent := if e.group = g then { e with age := if e.age + i < 3 then e.age + i else 3 } else e
theorem aged_id (g : Int) (i : Nat) (e : Ent) : (aged g i e).id = e.id := by unfold aged; split <;> rfl
theorem aged_group (g : Int) (i : Nat) (e : Ent) : (aged g i e).group = e.group := by unfold aged; split <;> rfl
theorem aged_zero (G : Good R) (g : Int) : R.map (aged g 0) = R := by
  have : ∀ e ∈ R, aged g 0 e = e := by
    intro e he
    have := (G.ok e he).2.2
    unfold aged
    split
    · have h : (if e.age + ((0 : Nat) : Int) < 3 then e.age + ((0 : Nat) : Int) else 3) = e.age := by split <;> omega
      rw [h]
    · rfl
  calc R.map (aged g 0) = R.map id := List.map_congr_left this
    _ = R := List.map_id R
theorem aged_succ (G : Good R) (g : Int) (i : Nat) : (gEach (R.map (aged g i)) g chAge).1 = R.map (aged g (i + 1)) := by
  unfold gEach
  rw [List.map_map]
  refine List.map_congr_left (fun e he => ?_)
  have := (G.ok e he).2.2
  simp only [Function.comp]
  unfold chg
  rw [aged_group, aged_id]
  by_cases hg : e.group = g
  · rw [if_pos hg]
    unfold aged
    rw [if_pos hg, if_pos hg]
    simp only
    rw [chAge_ok (by split <;> omega) (by split <;> omega)]
    simp only
    congr 1
    have c : ((i + 1 : Nat) : Int) = i + 1 := by omega
    rw [c]
    split <;> split <;> (try split) <;> omega
  · rw [if_neg hg]
    unfold aged
    rw [if_neg hg, if_neg hg]
theorem aged_more (G : Good R) (g : Int) : (gEach (R.map (aged g 3)) g chAge).2 = 0 := by
  unfold gEach
  simp only
  have : (R.map (aged g 3)).filter (isChg g chAge) = [] := by
    rw [List.filter_eq_nil_iff]
    intro e he
    obtain ⟨x, hx, rfl⟩ := List.mem_map.1 he
    have := (G.ok x hx).2.2
    unfold isChg
    rw [aged_group]
    by_cases hg : x.group = g
    · have h3 : (aged g 3 x).age = 3 := by
        unfold aged; rw [if_pos hg]; simp only; rw [if_neg]; omega
      rw [h3, chAge_ok (by decide) (by decide)]
      simp
    · simp [hg]
  rw [this]; rfl
theorem aged_same (G : Good R) (g : Int) : R.map (aged g 4) = R.map (aged g 3) := by
  refine List.map_congr_left (fun e he => ?_)
  have := (G.ok e he).2.2
  unfold aged
  by_cases hg : e.group = g
  · rw [if_pos hg, if_pos hg, if_neg (by omega), if_neg (by omega)]
  · rw [if_neg hg, if_neg hg]

/-! ### moving -/

def mvd (f t : Int) (e : Ent) : Ent := if e.group = f then ⟨e.id, t, e.age⟩ else e
theorem mvd_id (f t : Int) (e : Ent) : (mvd f t e).id = e.id := by unfold mvd; split <;> rfl
theorem mvd_age (f t : Int) (e : Ent) : (mvd f t e).age = e.age := by unfold mvd; split <;> rfl
theorem gMove_eq (f t : Int) (h0 : 0 ≤ t) (h1 : t ≤ 16777216) (hft : f ≠ t) : gMove R f t = (R.map (mvd f t), gCount R f) := by
  unfold gMove
  rw [if_neg (by omega)]
  unfold gEach
  refine Prod.ext (List.map_congr_left (fun e _ => ?_)) ?_
  · unfold chg mvd; rfl
  · simp only
    unfold gCount
    congr 2
    apply List.filter_congr
    intro e _
    unfold isChg
    by_cases hg : e.group = f
    · have : ((t, e.age) == (e.group, e.age)) = false := by
        rw [hg]; simp; omega
      rw [this]; simp
    · simp [hg]
theorem count_from (f t : Int) (hft : f ≠ t) : gCount (R.map (mvd f t)) f = 0 := by
  unfold gCount
  have : (R.map (mvd f t)).filter (fun e => e.group == f) = [] := by
    rw [List.filter_eq_nil_iff]
    intro e he
    obtain ⟨x, hx, rfl⟩ := List.mem_map.1 he
    unfold mvd
    split
    · simp; omega
    · next h => simpa using h
  rw [this]; rfl
theorem count_to (f t : Int) (hft : f ≠ t) : gCount (R.map (mvd f t)) t = gCount R t + gCount R f := by
  unfold gCount
  have : ((R.map (mvd f t)).filter (fun e => e.group == t)).length = (R.filter (fun e => e.group == t)).length + (R.filter (fun e => e.group == f)).length := by
    induction R with
    | nil => rfl
    | cons x R ih =>
      rw [List.map_cons, List.filter_cons, List.filter_cons, List.filter_cons]
      by_cases h1 : x.group = f
      · have e1 : ((mvd f t x).group == t) = true := by unfold mvd; rw [if_pos h1]; simp
        have e2 : (x.group == t) = false := by simp; omega
        have e3 : (x.group == f) = true := by simpa using h1
        rw [e1, e2, e3]; simp [ih]; omega
      · have e0 : mvd f t x = x := by unfold mvd; rw [if_neg h1]
        have e3 : (x.group == f) = false := by simpa using h1
        rw [e0, e3]
        cases (x.group == t)
        · simpa using ih
        · simp [ih]; omega
  omega
/-- Moved back, if the other one was empty. -/
theorem back (f t : Int) (h : gCount R t = 0) : (R.map (mvd f t)).map (mvd t f) = R := by
  have hno : ∀ e ∈ R, e.group ≠ t := by
    intro e he hg
    unfold gCount at h
    have : e ∈ R.filter (fun e => e.group == t) := List.mem_filter.2 ⟨he, by simpa using hg⟩
    have := List.length_pos_of_mem this
    omega
  rw [List.map_map]
  have : ∀ e ∈ R, (mvd t f ∘ mvd f t) e = e := by
    intro e he
    simp only [Function.comp]
    by_cases h1 : e.group = f
    · have e1 : mvd f t e = ⟨e.id, t, e.age⟩ := by unfold mvd; rw [if_pos h1]
      rw [e1]; unfold mvd; rw [if_pos rfl]; simp only; rw [← h1]
    · have e1 : mvd f t e = e := by unfold mvd; rw [if_neg h1]
      rw [e1]; unfold mvd; rw [if_neg (hno e he)]
  calc R.map (mvd t f ∘ mvd f t) = R.map id := List.map_congr_left this
    _ = R := List.map_id R

/-! ### orders -/

theorem OrdOf.nodup {gs o : List Int} (h : OrdOf R gs o) : o.Nodup :=
  List.nodup_iff_pairwise_ne.2 (h.ord.imp (fun hlt he => by subst he; exact (askedZ R).ord.irr _ hlt))

theorem nodup_len {a b : List Int} (ha : a.Nodup) (hb : b.Nodup) (h : ∀ k, k ∈ a ↔ k ∈ b) : a.length = b.length := ((List.perm_ext_iff_of_nodup ha hb).2 h).length_eq

theorem ids_nodup (G : Good R) (p : Ent → Bool) : ((R.filter p).map (·.id)).Nodup := by
  rw [List.nodup_iff_pairwise_ne, List.pairwise_map]
  exact (G.rise.filter p).imp (fun h => by omega)

theorem OrdOf.len (G : Good R) {gs o : List Int} (h : OrdOf R gs o) : o.length = (R.filter (fun e => gs.contains e.group)).length := by
  have hl : (R.filter (fun e => gs.contains e.group)).length = ((R.filter (fun e => gs.contains e.group)).map (fun e : Ent => e.id)).length := (List.length_map _).symm
  rw [hl]
  refine nodup_len h.nodup (ids_nodup G _) (fun k => ?_)
  rw [h.mem, List.mem_map]
  constructor
  · rintro ⟨e, he, hg⟩
    obtain ⟨h1, h2⟩ := (fnd_iff G.rise).1 he
    exact ⟨e, List.mem_filter.2 ⟨h1, by simpa using hg⟩, h2⟩
  · rintro ⟨e, he, hk⟩
    obtain ⟨h1, h2⟩ := List.mem_filter.1 he
    exact ⟨e, (fnd_iff G.rise).2 ⟨h1, hk⟩, by simpa using h2⟩
theorem OrdOf.len1 (G : Good R) {f : Int} {o : List Int} (h : OrdOf R [f] o) : (o.length : Int) = gCount R f := by
  rw [h.len G]
  unfold gCount
  congr 2
  apply List.filter_congr
  intro e _
  by_cases hg : e.group = f <;> simp [hg]

theorem ageZ_mem {gs o : List Int} (h : OrdOf R gs o) {k : Int} (hk : k ∈ o) : ageZ R k = gAge R k := by
  obtain ⟨e, he, _⟩ := (h.mem k).1 hk
  unfold ageZ gAge; rw [he]; rfl
/-- One behind the other. -/
theorem OrdOf.step {gs o : List Int} (h : OrdOf R gs o) {i j : Nat} {x y : Int} (hij : i < j) (hx : o[i]? = some x) (hy : o[j]? = some y) : gAge R y < gAge R x ∨ (gAge R x = gAge R y ∧ x < y) := by
  have := pw_get h.ord hx hy hij
  unfold olderZ at this
  rw [ageZ_mem h (List.mem_of_getElem? hx), ageZ_mem h (List.mem_of_getElem? hy)] at this
  exact this

/-- Without one. -/
theorem OrdOf.less (G : Good R) {gs o o' : List Int} {id : Int} (h : OrdOf R gs o) (h' : OrdOf (R.filter (fun e => e.id != id)) gs o') : o' = o.filter (· != id) := by
  have G' := G.filter (fun e => e.id != id)
  have hf : ∀ k, k ≠ id → fnd (R.filter (fun e => e.id != id)) k = fnd R k := fun k hk =>
    fnd_congr G.rise G'.rise (fun e he => by rw [List.mem_filter]; exact ⟨fun h => h.1, fun h => ⟨h, by simp; omega⟩⟩)
  refine h'.eq ⟨?_, fun k => ?_⟩
  · have h1 : (o.filter (· != id)).Pairwise (olderZ R) := h.ord.filter _
    refine (List.Pairwise.and_mem.1 h1).imp (fun {a b} hab => ?_)
    obtain ⟨ha, hb, hr⟩ := hab
    have ha' : a ≠ id := by have := (List.mem_filter.1 ha).2; simpa using this
    have hb' : b ≠ id := by have := (List.mem_filter.1 hb).2; simpa using this
    unfold olderZ ageZ at *
    rw [hf a ha', hf b hb']; exact hr
  · rw [List.mem_filter, h.mem]
    constructor
    · rintro ⟨⟨e, he, hg⟩, hk⟩
      exact ⟨e, by rw [hf k (by simpa using hk)]; exact he, hg⟩
    · rintro ⟨e, he, hg⟩
      obtain ⟨h1, h2⟩ := (fnd_iff G'.rise).1 he
      obtain ⟨h3, h4⟩ := List.mem_filter.1 h1
      have hk : k ≠ id := by simp at h4; omega
      exact ⟨⟨e, by rw [← hf k hk]; exact he, hg⟩, by simpa using hk⟩
theorem filter_ne_len : ∀ {l : List Int} {id : Int}, l.Nodup → (l.filter (· != id)).length + (if id ∈ l then 1 else 0) = l.length
  | [], _, _ => rfl
  | x :: l, id, h => by
    obtain ⟨h1, h2⟩ := List.nodup_cons.1 h
    have ih := filter_ne_len (id := id) h2
    rw [List.filter_cons]
    by_cases hx : x = id
    · subst hx
      rw [if_neg h1] at ih
      simp only [bne_self_eq_false, Bool.false_eq_true, if_false, List.mem_cons, true_or, if_true, List.length_cons]; omega
    · have e1 : (x != id) = true := by simpa using hx
      have e2 : (id ∈ x :: l) ↔ id ∈ l := by
        rw [List.mem_cons]; exact ⟨fun h => h.resolve_left (fun e => hx e.symm), .inr⟩
      rw [e1, if_pos rfl, List.length_cons]
      by_cases hm : id ∈ l
      · rw [if_pos (e2.2 hm)]; rw [if_pos hm] at ih; simp only [List.length_cons]; omega
      · rw [if_neg (fun h => hm (e2.1 h))]; rw [if_neg hm] at ih; simp only [List.length_cons]; omega

theorem gTouch_facts (G : Good R) (id : Int) : ((gTouch R id).2 = 0 ↔ 0 ≤ gGroup R id) ∧ (∀ k, k ≠ id → gAge (gTouch R id).1 k = gAge R k) ∧ ((gTouch R id).2 = 0 → gAge (gTouch R id).1 id = 0) ∧ gGroup (gTouch R id).1 id = gGroup R id ∧
    ((gTouch R id).2 = if (fnd R id).isSome then 0 else 2) ∧ (fnd (gTouch R id).1 id).isSome = (fnd R id).isSome := by
  unfold gTouch
  cases hf : fnd R id with
  | none =>
    rw [gGroup_none hf]
    refine ⟨⟨fun h => absurd h (by simp), fun h => absurd h (by decide)⟩, fun k _ => rfl, fun h => absurd h (by simp), ?_, rfl, ?_⟩
    · show gGroup R id = -1; exact gGroup_none hf
    · show (fnd R id).isSome = _; rw [hf]
  | some e =>
    have hF : ∀ x : Ent, (if x.id = id then { x with age := 0 } else x).id = x.id := fun x => by split <;> rfl
    obtain ⟨h1, h2⟩ := (fnd_iff G.rise).1 hf
    rw [gGroup_some hf]
    refine ⟨⟨fun _ => (G.ok e h1).2.1.1, fun _ => rfl⟩, fun k hk => ?_, fun _ => ?_, ?_, rfl, ?_⟩
    · show gAge (R.map _) k = _
      rw [gAge_map _ hF]
      unfold gAge
      cases hk' : fnd R k with
      | none => rfl
      | some x =>
        have := ((fnd_iff G.rise).1 hk').2
        simp only; rw [if_neg (by omega)]
    · show gAge (R.map _) id = _
      rw [gAge_map _ hF, hf]; simp only; rw [if_pos h2]
    · show gGroup (R.map _) id = _
      rw [gGroup_map _ hF, hf]; simp only; rw [if_pos h2]
    · show (fnd (R.map _) id).isSome = _
      rw [fnd_map _ hF, hf]; rfl
theorem gDrop_facts (G : Good R) (id : Int) : ((gDrop R id).2 = if (fnd R id).isSome then 0 else 2) ∧ fnd (gDrop R id).1 id = none ∧ (gDrop R id).1 = R.filter (fun e => e.id != id) := by
  unfold gDrop
  cases hf : fnd R id with
  | none =>
    refine ⟨rfl, hf, ?_⟩
    show R = _
    have := (fnd_none G.rise).1 hf
    exact (List.filter_eq_self.2 (fun e he => by simpa using this e he)).symm
  | some e =>
    refine ⟨rfl, ?_, rfl⟩
    exact (fnd_none (G.filter _).rise).2 (fun e he => by have := (List.mem_filter.1 he).2; simpa using this)

end Go.Mp
