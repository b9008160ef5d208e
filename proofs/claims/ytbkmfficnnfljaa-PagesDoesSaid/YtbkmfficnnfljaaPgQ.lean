/- The last laws of pages. -/
import Derived.Test.YtbkmfficnnfljaaPgO
set_option maxRecDepth 100000
namespace Go.Mp
open Go Go.Vc Go.Sp

variable {E : Env} {L : List Asn} {w : World}

theorem TS.put_ok {S : TS} {R : List One} (I : Inv S R) {id place at_ : Int} (h : (S.put id place at_).2 = 0) : ∃ p, S.pg id = some p ∧ (S.put id place at_).1.pg = upd S.pg id (some { p with place := place, at_ := at_ }) := by
  have _ := I
  unfold TS.put at h ⊢
  cases hp : S.pg id with
  | none => rw [hp] at h; simp at h
  | some p =>
    rw [hp] at h
    simp only at h ⊢
    refine ⟨p, rfl, ?_⟩
    split
    · next h1 => rw [if_pos h1] at h; simp at h
    · next h1 =>
      rw [if_neg h1] at h
      split
      · next h2 => rw [if_pos h2] at h; simp at h
      · rfl
theorem TS.put_err {S : TS} {id place at_ : Int} (h : (S.put id place at_).2 ≠ 0) : (S.put id place at_).1 = S := by
  have := TS.act_err (S := S) (a := ⟨1, id, 0, 0, place, at_⟩) (by
    unfold TS.act
    rw [if_neg (by show ¬ Int.tmod 1 6 = 0; decide), if_pos (by show Int.tmod 1 6 = 1; decide)]; exact h)
  unfold TS.act at this
  rw [if_neg (by show ¬ Int.tmod 1 6 = 0; decide), if_pos (by show Int.tmod 1 6 = 1; decide)] at this
  exact this
theorem upd_at {α : Type} (f : Int → Option α) (k : Int) (v : Option α) : upd f k v k = v := by unfold upd; exact if_pos rfl
theorem upd_ne {α : Type} (f : Int → Option α) {k j : Int} (v : Option α) (h : j ≠ k) : upd f k v j = f j := by unfold upd; exact if_neg h
theorem TS.get_of {S S' : TS} {id : Int} (h : S'.pg id = S.pg id) : S'.get id = S.get id := by unfold TS.get; rw [h]

theorem law_PagesMoves {W : World} (l : Sl) (id place at_ other : Int) (hl : ActsAt W l.p l.n) :
    Calls P fn_millpondlaw14_PagesMoves #[.slice l.p l.n l.c, .int .i64 id, .int .i64 place, .int .i64 at_, .int .i64 other] W (Ret fun v w' => v = .bool true ∧ ∃ (L : List Asn) (i : Nat), L[i]? = some (old W.heap) ∧ Sep (World.env W) L w') := by
  apply of_millpondlaw14_PagesMoves
  unfold sh_millpondlaw14_PagesMoves
  refine use (c_works (Sep.start W)) ?_
  rintro _ w1 ⟨rfl, h1⟩
  refine ⟨_, rfl, bifF (bGt (fun _ => ⟨rfl, _, 0, rfl, h1⟩) (fun h80 => use (c_New h1) ?_))⟩
  rintro _ w2 ⟨t, rfl, h2⟩
  refine ⟨_, rfl, runActs hl (by omega) h2 (fun i S R w3 I hR h3 => ?_)⟩
  refine got h3 id (fun b1 w4 h4 => got (h4.fr 1 rfl) other (fun b2 w5 h5 => ?_))
  have h5 : Sep (World.env W) (Tab t S :: blk b1 (S.get id).1.vs :: blk b2 (S.get other).1.vs :: [old W.heap]) w5 := h5.ro 4 [1, 2, 0, 3] rfl
  refine use (c_Put id place at_ h5) ?_
  rintro _ w6 ⟨rfl, h6⟩
  refine ⟨_, rfl, got h6 id (fun b3 w7 h7 => got (h7.fr 1 rfl) other (fun b4 w8 h8 => ?_))⟩
  obtain ⟨vo, hvo⟩ := atSpec_ex R (place, at_)
  obtain ⟨_, I'⟩ := I.put id place at_ hvo
  generalize hp1 : (S.put id place at_).1 = S' at h8 I'
  have h8 : Sep (World.env W) (Tab t S' :: blk b1 (S.get id).1.vs :: blk b2 (S.get other).1.vs :: blk b3 (S'.get id).1.vs :: blk b4 (S'.get other).1.vs :: [old W.heap]) w8 := h8.ro 6 [1, 3, 4, 2, 0, 5] rfl
  refine bNe (fun hne => bifT ?_) (fun he => ?_)
  · have e : S' = S := by rw [← hp1]; exact TS.put_err hne
    subst e
    refine eqPg 3 1 h8 rfl rfl (fun r hr => ?_)
    rw [hr.2 rfl]
    refine bifT (eqPg 4 2 h8 rfl rfl (fun r2 hr2 => ?_))
    rw [hr2.2 rfl]
    exact ⟨rfl, _, 5, rfl, h8⟩
  · obtain ⟨p, hp, hS'⟩ := TS.put_ok I he
    rw [hp1] at hS'
    have hg := TS.get_some hp
    have hp' : S'.pg id = some { p with place := place, at_ := at_ } := by rw [hS', upd_at]
    have hg' := TS.get_some hp'
    have hrp : rpg R id = some p := by rw [← I.pg]; exact hp
    have hrp' : rpg (RS.put R id place at_ vo).1 id = some { p with place := place, at_ := at_ } := by rw [← I'.pg]; exact hp'
    rw [hg, hg'] at h8
    rw [hg]
    have hst : ∀ w, Sep (World.env W) (Tab t S' :: blk b1 p.vs :: blk b2 (S.get other).1.vs :: blk b3 ({ p with place := place, at_ := at_ } : Pg).vs :: blk b4 (S'.get other).1.vs :: [old W.heap]) w → True := fun _ _ => trivial
    refine ⟨fun m w => m = (p.place != place || p.at_ != at_) ∧ Sep (World.env W) (Tab t S' :: blk b1 p.vs :: blk b2 (S.get other).1.vs :: blk b3 ({ p with place := place, at_ := at_ } : Pg).vs :: blk b4 (S'.get other).1.vs :: [old W.heap]) w, ?_, ?_⟩
    · refine ld h8 1 rfl rfl rfl (bNe (fun hz => ⟨by simp [hz], h8⟩) (fun hz => ld h8 1 rfl rfl rfl ⟨by rw [hz]; simp, h8⟩))
    rintro _ m w9 ⟨rfl, h9⟩
    refine ⟨fun m w => m = true ∧ Sep (World.env W) (Tab t S' :: blk b1 p.vs :: blk b2 (S.get other).1.vs :: blk b3 ({ p with place := place, at_ := at_ } : Pg).vs :: blk b4 (S'.get other).1.vs :: [old W.heap]) w, ?_, ?_⟩
    · refine ld h9 1 rfl rfl rfl (bEq (fun hz => ⟨rfl, h9⟩) (fun hz => bifI (fun _ => ⟨rfl, h9⟩) (fun hm => ?_)))
      refine ld h9 1 rfl rfl rfl (ld h9 1 rfl rfl rfl (use (c_At _ _ h9) ?_))
      rintro _ w10 ⟨rfl, rfl⟩
      refine ⟨_, rfl, ?_, h9⟩
      have : S'.at_ (p.place, p.at_) = -1 := I'.at_ (.inr ⟨rfl, fun _ j x hx e => ?_⟩)
      · rw [this]; rfl
      · rw [← I'.pg, hS'] at hx
        by_cases hj : j = id
        · subst hj
          rw [upd_at] at hx
          simp only [Option.some.injEq] at hx
          subst hx
          simp at e
          simp [e] at hm
        · rw [upd_ne _ _ hj, I.pg] at hx
          exact (I.apart hrp hx (Ne.symm hj)).2 (by rw [(Prod.mk.inj e).1]; exact hz) (Prod.mk.inj e).1 (Prod.mk.inj e).2
    rintro _ lf w10 ⟨rfl, h10⟩
    refine ⟨fun m w => m = true ∧ Sep (World.env W) (Tab t S' :: blk b1 p.vs :: blk b2 (S.get other).1.vs :: blk b3 ({ p with place := place, at_ := at_ } : Pg).vs :: blk b4 (S'.get other).1.vs :: [old W.heap]) w, ?_, ?_⟩
    · refine bEq (fun hz => ⟨rfl, h10⟩) (fun hz => use (c_At _ _ h10) ?_)
      rintro _ w11 ⟨rfl, rfl⟩
      refine ⟨_, rfl, ?_, h10⟩
      have : S'.at_ (place, at_) = id := I'.at_ (.inl ⟨hz, _, hrp', rfl⟩)
      rw [this]; simp
    rintro _ th w11 ⟨rfl, h11⟩
    refine bifT (bEq (fun _ => ?_) (fun e => absurd rfl e))
    refine ld h11 3 rfl rfl rfl (bEq (fun _ => ?_) (fun e => absurd rfl e))
    refine ld h11 3 rfl rfl rfl (bEq (fun _ => ?_) (fun e => absurd rfl e))
    refine ld h11 3 rfl rfl rfl (ld h11 3 rfl rfl rfl (ld h11 1 rfl rfl rfl (ld h11 1 rfl rfl rfl ?_)))
    obtain ⟨r, hr1, hr2⟩ := key_eq (p.kf, p.ki) (p.kf, p.ki)
    have := hr2.2 rfl
    subst this
    refine ⟨true, hr1, bifT (ld h11 3 rfl rfl rfl (ld h11 1 rfl rfl rfl (bEq (fun _ => bifT (bifT ?_)) (fun e => absurd rfl e))))⟩
    refine bEq (fun _ => ⟨rfl, _, 5, rfl, h11⟩) (fun hio => eqPg 4 2 h11 rfl rfl (fun r2 hr3 => ?_))
    rw [hr3.2 (congrArg Prod.fst (TS.get_of (S := S) (S' := S') (id := other) (by rw [hS', upd_ne _ _ hio])))]
    exact ⟨rfl, _, 5, rfl, h11⟩

theorem TS.own_pg (S : TS) (id o : Int) : (S.own id o).1.pg = match S.pg id with | some p => upd S.pg id (some { p with owner := o }) | none => S.pg := by
  unfold TS.own; cases h : S.pg id <;> rfl
theorem TS.mark_pg (S : TS) (id : Int) (d : Bool) : (S.mark id d).1.pg = match S.pg id with | some p => upd S.pg id (some { p with dirty := d }) | none => S.pg := by
  unfold TS.mark; cases h : S.pg id <;> rfl
theorem TS.own_e (S : TS) (id o : Int) : (S.own id o).2 = if (S.pg id).isSome then 0 else 2 := by
  unfold TS.own; cases h : S.pg id <;> rfl
theorem TS.mark_e (S : TS) (id : Int) (d : Bool) : (S.mark id d).2 = if (S.pg id).isSome then 0 else 2 := by
  unfold TS.mark; cases h : S.pg id <;> rfl

theorem law_PagesFields {W : World} (l : Sl) (id owner : Int) (dirty : Bool) (other : Int) (hl : ActsAt W l.p l.n) :
    Calls P fn_millpondlaw14_PagesFields #[.slice l.p l.n l.c, .int .i64 id, .int .i64 owner, .bool dirty, .int .i64 other] W (Ret fun v w' => v = .bool true ∧ ∃ (L : List Asn) (i : Nat), L[i]? = some (old W.heap) ∧ Sep (World.env W) L w') := by
  apply of_millpondlaw14_PagesFields
  unfold sh_millpondlaw14_PagesFields
  refine use (c_works (Sep.start W)) ?_
  rintro _ w1 ⟨rfl, h1⟩
  refine ⟨_, rfl, bifF (bGt (fun _ => ⟨rfl, _, 0, rfl, h1⟩) (fun h80 => use (c_New h1) ?_))⟩
  rintro _ w2 ⟨t, rfl, h2⟩
  refine ⟨_, rfl, runActs hl (by omega) h2 (fun i S R w3 I hR h3 => ?_)⟩
  refine got h3 id (fun b1 w4 h4 => got (h4.fr 1 rfl) other (fun b2 w5 h5 => ?_))
  have h5 : Sep (World.env W) (Tab t S :: blk b1 (S.get id).1.vs :: blk b2 (S.get other).1.vs :: [old W.heap]) w5 := h5.ro 4 [1, 2, 0, 3] rfl
  refine use (c_Own id owner h5) ?_
  rintro _ w6 ⟨rfl, h6⟩
  refine ⟨_, rfl, use (c_Mark id dirty h6) ?_⟩
  rintro _ w7 ⟨rfl, h7⟩
  have eo := TS.own_e S id owner
  have em := TS.mark_e (S.own id owner).1 id dirty
  have po := TS.own_pg S id owner
  have pm := TS.mark_pg (S.own id owner).1 id dirty
  generalize hS' : ((S.own id owner).1.mark id dirty).1 = S' at h7 pm
  refine ⟨_, rfl, got h7 id (fun b3 w8 h8 => got (h8.fr 1 rfl) other (fun b4 w9 h9 => ?_))⟩
  have h9 : Sep (World.env W) (Tab t S' :: blk b1 (S.get id).1.vs :: blk b2 (S.get other).1.vs :: blk b3 (S'.get id).1.vs :: blk b4 (S'.get other).1.vs :: [old W.heap]) w9 := h9.ro 6 [1, 3, 4, 2, 0, 5] rfl
  cases hp : S.pg id with
  | none =>
    rw [hp] at eo po
    simp only at po
    rw [po, hp] at em pm
    have hg := TS.get_none hp
    rw [hg] at h9 ⊢
    refine bNe (fun _ => bifT ?_) (fun e => absurd e (by decide))
    rw [eo, em]
    refine bEq (fun _ => bEq (fun _ => ?_) (fun e => absurd rfl e)) (fun e => absurd rfl e)
    refine eqPg 2 4 h9 rfl rfl (fun r hr => ?_)
    rw [hr.2 (congrArg Prod.fst (TS.get_of (S := S) (S' := S') (id := other) (by rw [pm])).symm)]
    exact ⟨rfl, _, 5, rfl, h9⟩
  | some p =>
    rw [hp] at eo po
    simp only at po
    have h2 : (S.own id owner).1.pg id = some { p with owner := owner } := by rw [po, upd_at]
    rw [h2] at em pm
    simp only at pm
    have hg := TS.get_some hp
    rw [hg] at h9 ⊢
    have h3' : S'.pg id = some { p with owner := owner, dirty := dirty } := by rw [pm, upd_at]
    have hg' := TS.get_some h3'
    rw [hg'] at h9
    refine bNe (fun e => absurd rfl e) (fun _ => ?_)
    refine St.i (h9.fr 1 rfl) (show 0 + 4 < 9 by decide) (fun w10 h10 => St.i h10 (show 0 + 8 < 9 by decide) (fun w11 h11 => bifT ?_))
    have h11 : Sep (World.env W) (blk b1 ({ p with owner := owner, dirty := dirty } : Pg).vs :: Tab t S' :: blk b2 (S.get other).1.vs :: blk b3 ({ p with owner := owner, dirty := dirty } : Pg).vs :: blk b4 (S'.get other).1.vs :: [old W.heap]) w11 := h11
    rw [eo, em]
    refine bEq (fun _ => bEq (fun _ => ?_) (fun e => absurd rfl e)) (fun e => absurd rfl e)
    refine eqPg 0 3 h11 rfl rfl (fun r hr => ?_)
    rw [hr.2 rfl]
    refine bifT (bEq (fun _ => ⟨rfl, _, 5, rfl, h11⟩) (fun hio => eqPg 2 4 h11 rfl rfl (fun r2 hr2 => ?_)))
    rw [hr2.2 (congrArg Prod.fst (TS.get_of (S := S) (S' := S') (id := other) (by rw [pm, upd_ne _ _ hio, po, upd_ne _ _ hio])).symm)]
    exact ⟨rfl, _, 5, rfl, h11⟩

theorem TS.act_next {S : TS} {R : List One} (I : Inv S R) (hb : R.length < 1000000) (a : Act) : (a.k.tmod 6 = 0 → (S.act a).2.2 = 0 → (S.act a).2.1 = R.length ∧ (S.act a).1.next = R.length + 1) ∧ (¬ (a.k.tmod 6 = 0 ∧ (S.act a).2.2 = 0) → (S.act a).1.next = R.length) := by
  constructor
  · intro h0 h1
    unfold TS.act at h1 ⊢
    rw [if_pos h0] at h1 ⊢
    unfold TS.make TS.new_ at h1 ⊢
    have e : IntKind.i64.wrap (S.next + 1) = R.length + 1 := by rw [I.next, w64 (by omega) (by omega)]
    split
    · exact ⟨I.next, e⟩
    · next h2 =>
      rw [if_neg h2] at h1
      split
      · next h3 => rw [if_pos h3] at h1; simp at h1
      · exact ⟨I.next, e⟩
  · intro h
    by_cases h0 : a.k.tmod 6 = 0
    · have h1 : (S.act a).2.2 ≠ 0 := fun e => h ⟨h0, e⟩
      rw [TS.act_err h1]; exact I.next
    · unfold TS.act
      rw [if_neg h0]
      split
      · unfold TS.put; repeat' split
        all_goals exact I.next
      split
      · unfold TS.refer; repeat' split
        all_goals exact I.next
      split
      · unfold TS.drop; repeat' split
        all_goals exact I.next
      split
      · unfold TS.own; repeat' split
        all_goals exact I.next
      · unfold TS.mark; repeat' split
        all_goals exact I.next

theorem TS.act_gone {S : TS} {a : Act} (h0 : a.k.tmod 6 = 3) (h1 : (S.act a).2.2 = 0) : (S.act a).1.pg a.id = none := by
  unfold TS.act at h1 ⊢
  rw [if_neg (by omega), if_neg (by omega), if_neg (by omega), if_pos h0] at h1 ⊢
  unfold TS.drop at h1 ⊢
  cases hp : S.pg a.id with
  | none => exact hp
  | some p =>
    rw [hp] at h1
    simp only at h1 ⊢
    split
    · next h2 => rw [if_pos h2] at h1; simp at h1
    · exact upd_at _ _ _

theorem law_PagesIds {W : World} (l : Sl) (hl : ActsAt W l.p l.n) :
    Calls P fn_millpondlaw14_PagesIds #[.slice l.p l.n l.c] W (Ret fun v w' => v = .bool true ∧ ∃ (L : List Asn) (i : Nat), L[i]? = some (old W.heap) ∧ Sep (World.env W) L w') := by
  apply of_millpondlaw14_PagesIds
  unfold sh_millpondlaw14_PagesIds
  refine use (c_works (Sep.start W)) ?_
  rintro _ w1 ⟨rfl, h1⟩
  refine ⟨_, rfl, bifF (bGt (fun _ => ⟨rfl, _, 0, rfl, h1⟩) (fun h80 => use (c_New h1) ?_))⟩
  rintro _ w2 ⟨t, rfl, h2⟩
  refine ⟨_, rfl, fun nx i w => (0 ≤ i ∧ i ≤ l.n) ∧ ∃ S R, Inv S R ∧ (R.length : Int) ≤ i ∧ nx = R.length ∧ Sep (World.env W) (Tab t S :: old W.heap :: []) w, fun _ i _ => (l.n - i).toNat, ⟨⟨by omega, by omega⟩, _, _, Inv.zero, Int.le_refl _, rfl, h2⟩, ?_⟩
  rintro _ nx i w3 ⟨⟨hi0, hi1⟩, S, R, I, hR, rfl, h3⟩
  refine bLt (fun hlt => ?_) (fun _ => ?_)
  · obtain ⟨a, x, hp, hx⟩ := hl i.toNat (by omega)
    have here : ∀ {f : Addr → Prop}, f (a.add (i.toNat * 6)) → elAt l.p l.n i 6 f := fun h => ⟨a, hp, ⟨hi0, hlt⟩, h⟩
    refine here (ldO h3 1 rfl (hx 0 _ rfl) (ldO h3 1 rfl (hx 1 _ rfl) (ldO h3 1 rfl (hx 2 _ rfl) (ldO h3 1 rfl (hx 3 _ rfl) (ldO h3 1 rfl (hx 4 _ rfl) (ldO h3 1 rfl (hx 5 _ rfl) (use (c_do I x h3) ?_)))))))
    rintro _ w4 ⟨rfl, h4⟩
    obtain ⟨R', I', hR'⟩ := I.step (by omega) x
    obtain ⟨hn1, hn2⟩ := TS.act_next I (by omega) x
    have hgone := TS.act_gone (S := S) (a := x)
    have hI'n := I'.next
    generalize (S.act x).1 = S' at h4 I' hn1 hn2 hgone hI'n
    generalize (S.act x).2.1 = y at hn1
    generalize (S.act x).2.2 = z at hn1 hn2 hgone
    refine ⟨_, _, rfl, fun nx w => nx = R'.length ∧ Sep (World.env W) (Tab t S' :: old W.heap :: []) w, ?_, ?_⟩
    · refine ⟨fun b w => b = (x.k.tmod 6 == 0 && z == 0) ∧ Sep (World.env W) (Tab t S' :: old W.heap :: []) w, ?_, ?_⟩
      · exact here (ldO h4 1 rfl (hx 0 _ rfl) ⟨by decide, bEq (fun e => ⟨by simp [e], h4⟩) (fun e => ⟨by simp [e], h4⟩)⟩)
      · rintro _ b w5 ⟨rfl, h5⟩
        refine bifI (fun hb => ?_) (fun hb => ?_)
        · simp at hb
          have := hn1 hb.1 hb.2
          refine bNe (fun hne => absurd this.1 hne) (fun _ => ⟨?_, h5⟩)
          rw [w64 (by omega) (by omega)]; omega
        · have := hn2 (by simpa using hb)
          exact ⟨by omega, h5⟩
    rintro _ nx w5 ⟨rfl, h5⟩
    have fin : ∀ {w : World}, Sep (World.env W) (Tab t S' :: old W.heap :: []) w → (((0 ≤ IntKind.i64.wrap (i + 1) ∧ IntKind.i64.wrap (i + 1) ≤ l.n) ∧ ∃ S R, Inv S R ∧ (R.length : Int) ≤ IntKind.i64.wrap (i + 1) ∧ (R'.length : Int) = R.length ∧ Sep (World.env W) (Tab t S :: old W.heap :: []) w) ∧ (l.n - IntKind.i64.wrap (i + 1)).toNat < (l.n - i).toNat) := by
      intro w h
      rw [w64 (by omega) (by omega)]
      exact ⟨⟨⟨by omega, by omega⟩, S', R', I', by omega, rfl, h⟩, by omega⟩
    refine ⟨fun b w => b = (x.k.tmod 6 == 3 && z == 0) ∧ Sep (World.env W) (Tab t S' :: old W.heap :: []) w, ?_, ?_⟩
    · exact here (ldO h5 1 rfl (hx 0 _ rfl) ⟨by decide, bEq (fun e => ⟨by simp [e], h5⟩) (fun e => ⟨by simp [e], h5⟩)⟩)
    · rintro _ b w6 ⟨rfl, h6⟩
      refine bifI (fun hb => ?_) (fun hb => fin h6)
      simp at hb
      refine here (ldO h6 1 rfl (hx 1 _ rfl) (got h6 x.id (fun b2 w7 h7 => ?_)))
      rw [TS.get_none (hgone hb.1 hb.2)]
      exact bNe (fun e => absurd rfl e) (fun _ => fin h7.tail)
  · refine use (c_All' I.few (by omega) h3) ?_
    rintro _ w4 ⟨s, al, rfl, hn, hal, h4⟩
    have hle := hal.le I.few
    refine ⟨s, rfl, bifT (bifI (fun _ => ?_) (fun e => ?_))⟩
    · refine bEq (fun _ => ⟨rfl, _, 2, rfl, h4⟩) (fun hne => ?_)
      rw [w64 (by omega) (by omega)]
      refine elI 0 h4 rfl hn (by omega) (by omega) (fun a ha => ⟨_, ha, ?_, _, 2, rfl, h4⟩)
      have hm : al.getD ((s.n : Int) - 1).toNat 0 ∈ al := by
        have : ((s.n : Int) - 1).toNat < al.length := by omega
        rw [List.getD, List.getElem?_eq_getElem this, Option.getD_some]
        exact List.getElem_mem _
      have := I.few _ ((hal.mem _).1 hm)
      congr 1
      simpa using this.2
    · simp at e; omega

end Go.Mp
