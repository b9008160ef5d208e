/- The code's pages are the document's: plainly. -/
import Derived.Test.YtbkmfficnnfljaaPgR
set_option maxRecDepth 100000
namespace Go.Mp
open Go Go.Vc Go.Sp

structure Inv (S : TS) (R : List One) : Prop where
  pg : ∀ id, S.pg id = rpg R id
  next : S.next = R.length
  files : ∀ k id, S.files k = some id ↔ 0 ≤ k.1 ∧ ∃ p, rpg R id = some p ∧ (p.kf, p.ki) = k
  spots : ∀ k id, S.spots k = some id ↔ k.1 ≠ 0 ∧ ∃ p, rpg R id = some p ∧ (p.place, p.at_) = k
  own : ∀ id p, rpg R id = some p → p.kf < 0 → p.kf = -1 ∧ p.ki = id
  ok : ∀ id p, rpg R id = some p → 0 ≤ p.place ∧ p.place ≤ 2 ∧ 0 ≤ p.at_ ∧ 0 ≤ p.refs

variable {S : TS} {R : List One}

theorem rpg_nil (id : Int) : rpg [] id = none := by unfold rpg; split <;> simp

theorem Inv.zero : Inv TS.zero [] := by
  refine ⟨fun id => (rpg_nil id).symm, rfl, fun k id => ?_, fun k id => ?_, fun id p h => ?_, fun id p h => ?_⟩
  · simp [TS.zero, rpg_nil]
  · simp [TS.zero, rpg_nil]
  · rw [rpg_nil] at h; cases h
  · rw [rpg_nil] at h; cases h

theorem Inv.of_ (I : Inv S R) {k : Int × Int} {v : Int} (h : RS.ofSpec R k v) : S.of k = v := by
  unfold TS.of
  rcases h with ⟨h1, p, h2, h3⟩ | ⟨rfl, h2⟩
  · rw [(I.files k v).2 ⟨h1, p, h2, h3⟩]; rfl
  · cases hf : S.files k with
    | none => rfl
    | some id =>
      obtain ⟨g1, p, g2, g3⟩ := (I.files k id).1 hf
      exact absurd g3 (h2 g1 id p g2)
theorem Inv.at_ (I : Inv S R) {k : Int × Int} {v : Int} (h : RS.atSpec R k v) : S.at_ k = v := by
  unfold TS.at_
  rcases h with ⟨h1, p, h2, h3⟩ | ⟨rfl, h2⟩
  · rw [(I.spots k v).2 ⟨h1, p, h2, h3⟩]; rfl
  · cases hf : S.spots k with
    | none => rfl
    | some id =>
      obtain ⟨g1, p, g2, g3⟩ := (I.spots k id).1 hf
      exact absurd g3 (h2 g1 id p g2)

theorem Inv.free (I : Inv S R) : S.pg S.next = none := by
  rw [I.pg, I.next]
  cases h : rpg R (R.length : Int) with
  | none => rfl
  | some p => have := (rpg_some h).2.1; omega
theorem Inv.few (I : Inv S R) : S.few R.length := by
  intro k hk
  rw [I.pg] at hk
  obtain ⟨p, hp⟩ := Option.isSome_iff_exists.1 hk
  exact ⟨(rpg_some hp).1, (rpg_some hp).2.1⟩

theorem Inv.get (I : Inv S R) (id : Int) : S.get id = RS.get R id := by
  unfold TS.get RS.get; rw [I.pg]; cases rpg R id <;> rfl

/-- One that is there has another field, which is neither its key nor its place. -/
theorem Inv.setP (I : Inv S R) {id : Int} {p q : Pg} (hp : rpg R id = some p) (h1 : q.kf = p.kf ∧ q.ki = p.ki) (h2 : q.place = p.place ∧ q.at_ = p.at_) (h3 : 0 ≤ q.refs) : Inv (S.setPg id q) (RS.setP R id q) := by
  have hr := rpg_setP (q := q) hp
  refine ⟨fun j => ?_, by simpa [TS.setPg] using I.next, fun k j => ?_, fun k j => ?_, fun j x hx => ?_, fun j x hx => ?_⟩
  · rw [hr]; show upd S.pg id (some q) j = _; unfold upd; rw [I.pg]
  · show S.files k = some j ↔ _
    rw [I.files, hr]
    by_cases he : j = id
    · subst he; rw [if_pos rfl, hp]; simp [h1.1, h1.2]
    · rw [if_neg he]
  · show S.spots k = some j ↔ _
    rw [I.spots, hr]
    by_cases he : j = id
    · subst he; rw [if_pos rfl, hp]; simp [h2.1, h2.2]
    · rw [if_neg he]
  · rw [hr] at hx
    by_cases he : j = id
    · subst he; rw [if_pos rfl] at hx; simp only [Option.some.injEq] at hx; subst hx
      rw [h1.1, h1.2]; exact I.own j p hp
    · rw [if_neg he] at hx; exact I.own j x hx
  · rw [hr] at hx
    by_cases he : j = id
    · subst he; rw [if_pos rfl] at hx; simp only [Option.some.injEq] at hx; subst hx
      have := I.ok j p hp
      rw [h2.1, h2.2]; exact ⟨this.1, this.2.1, this.2.2.1, h3⟩
    · rw [if_neg he] at hx; exact I.ok j x hx

theorem Inv.own_ (I : Inv S R) (id o : Int) : (S.own id o).2 = (RS.own R id o).2 ∧ Inv (S.own id o).1 (RS.own R id o).1 := by
  unfold TS.own RS.own; rw [I.pg]
  cases hp : rpg R id with
  | none => exact ⟨rfl, I⟩
  | some p => exact ⟨rfl, I.setP hp ⟨rfl, rfl⟩ ⟨rfl, rfl⟩ (I.ok id p hp).2.2.2⟩
theorem Inv.mark (I : Inv S R) (id : Int) (o : Bool) : (S.mark id o).2 = (RS.mark R id o).2 ∧ Inv (S.mark id o).1 (RS.mark R id o).1 := by
  unfold TS.mark RS.mark; rw [I.pg]
  cases hp : rpg R id with
  | none => exact ⟨rfl, I⟩
  | some p => exact ⟨rfl, I.setP hp ⟨rfl, rfl⟩ ⟨rfl, rfl⟩ (I.ok id p hp).2.2.2⟩
theorem Inv.refer (I : Inv S R) (id n : Int) : (S.refer id n).2 = (RS.refer R id n).2 ∧ Inv (S.refer id n).1 (RS.refer R id n).1 := by
  unfold TS.refer RS.refer; rw [I.pg]
  cases hp : rpg R id with
  | none => exact ⟨rfl, I⟩
  | some p =>
    dsimp only
    split
    · exact ⟨rfl, I⟩
    · next h => exact ⟨rfl, I.setP hp ⟨rfl, rfl⟩ ⟨rfl, rfl⟩ (by show 0 ≤ IntKind.i64.wrap (p.refs + n); omega)⟩

theorem Inv.drop (I : Inv S R) (id : Int) : (S.drop id).2 = (RS.drop R id).2 ∧ Inv (S.drop id).1 (RS.drop R id).1 := by
  unfold TS.drop RS.drop; rw [I.pg]
  cases hp : rpg R id with
  | none => exact ⟨rfl, I⟩
  | some p =>
    dsimp only
    split
    · exact ⟨rfl, I⟩
    · next h =>
      have hr := rpg_setG (q := p) hp
      refine ⟨rfl, fun j => ?_, by simpa using I.next, fun k j => ?_, fun k j => ?_, fun j x hx => ?_, fun j x hx => ?_⟩
      · rw [hr]; show upd S.pg id none j = _; unfold upd; rw [I.pg]
      · show upd S.files (p.kf, p.ki) none k = some j ↔ _
        unfold upd
        rw [hr]
        by_cases hk : k = (p.kf, p.ki)
        · rw [if_pos hk]
          constructor
          · intro h; cases h
          · rintro ⟨g1, x, g2, g3⟩
            by_cases he : j = id
            · rw [if_pos he] at g2; cases g2
            · rw [if_neg he] at g2
              have e1 := (I.files k j).2 ⟨g1, x, g2, g3⟩
              have e2 := (I.files k id).2 ⟨g1, p, hp, hk.symm⟩
              rw [e1] at e2; exact absurd (Option.some.inj e2) he
        · rw [if_neg hk, I.files]
          by_cases he : j = id
          · subst he; rw [if_pos rfl, hp]; simp; intro _ h; exact hk h.symm
          · rw [if_neg he]
      · show S.spots k = some j ↔ _
        rw [I.spots, hr]
        by_cases he : j = id
        · subst he; rw [if_pos rfl, hp]; simp
          intro hk e
          have : p.place = 0 := by omega
          rw [← e] at hk; exact hk this
        · rw [if_neg he]
      · rw [hr] at hx
        by_cases he : j = id
        · rw [if_pos he] at hx; cases hx
        · rw [if_neg he] at hx; exact I.own j x hx
      · rw [hr] at hx
        by_cases he : j = id
        · rw [if_pos he] at hx; cases hx
        · rw [if_neg he] at hx; exact I.ok j x hx

theorem rpg_push (a : Pg) (j : Int) : rpg (R ++ [(a, false)]) j = if j = R.length then some a else rpg R j := by
  unfold rpg
  by_cases hj : 0 ≤ j
  · rw [if_pos hj, if_pos hj]
    by_cases he : j = R.length
    · subst he; simp
    · rw [if_neg he]
      by_cases hlt : j < R.length
      · rw [List.getElem?_append_left (by omega)]
      · rw [List.getElem?_eq_none (by simp; omega), List.getElem?_eq_none (by omega)]
  · rw [if_neg hj, if_neg hj, if_neg (by omega)]

theorem Inv.make (I : Inv S R) (hb : R.length < 1000000) (kf ki o : Int) {i : Int} (hi : RS.ofSpec R (kf, ki) i) : (S.make kf ki o).2 = (RS.make R kf ki o i).2 ∧ Inv (S.make kf ki o).1 (RS.make R kf ki o i).1 := by
  have hof := I.of_ hi
  have key : ∀ (kf' ki' : Int) (fs : Int × Int → Option Int), (kf' < 0 → kf' = -1 ∧ ki' = R.length) → (∀ k j, fs k = some j ↔ 0 ≤ k.1 ∧ ∃ p, rpg (R ++ [(⟨kf', ki', 0, 0, o, 0, 0, false, false⟩, false)]) j = some p ∧ (p.kf, p.ki) = k) →
      Inv (({ S with files := fs } : TS).new_ kf' ki' o) (R ++ [(⟨kf', ki', 0, 0, o, 0, 0, false, false⟩, false)]) := by
    intro kf' ki' fs hown hfs
    have hr := rpg_push (R := R) ⟨kf', ki', 0, 0, o, 0, 0, false, false⟩
    refine ⟨fun j => ?_, ?_, hfs, fun k j => ?_, fun j x hx hneg => ?_, fun j x hx => ?_⟩
    · rw [hr]; show upd S.pg S.next _ j = _; unfold upd; rw [I.pg, I.next]
    · show IntKind.i64.wrap (S.next + 1) = _
      rw [I.next, w64 (by omega) (by omega)]; simp
    · show S.spots k = some j ↔ _
      rw [I.spots, hr]
      by_cases he : j = R.length
      · rw [if_pos he]
        have hno : rpg R j = none := by rw [he, ← I.next, ← I.pg]; exact I.free
        rw [hno]; simp
        intro hk e; rw [← e] at hk; exact hk rfl
      · rw [if_neg he]
    · rw [hr] at hx
      by_cases he : j = R.length
      · rw [if_pos he] at hx; simp only [Option.some.injEq] at hx; subst hx
        rw [he]; exact hown hneg
      · rw [if_neg he] at hx; exact I.own j x hx hneg
    · rw [hr] at hx
      by_cases he : j = R.length
      · rw [if_pos he] at hx; simp only [Option.some.injEq] at hx; subst hx
        exact ⟨Int.le_refl 0, show (0 : Int) ≤ 2 by decide, Int.le_refl 0, Int.le_refl 0⟩
      · rw [if_neg he] at hx; exact I.ok j x hx
  have hno : rpg R R.length = none := by rw [← I.next, ← I.pg]; exact I.free
  unfold TS.make RS.make
  by_cases hk : kf < 0
  · have hneg : ¬ 0 ≤ i := by
      rcases hi with ⟨h1, _⟩ | ⟨rfl, _⟩
      · exact absurd h1 (by show ¬ 0 ≤ kf; omega)
      · omega
    rw [if_pos hk, if_neg hneg]
    simp only [if_pos hk]
    refine ⟨by rw [I.next], ?_⟩
    rw [I.next]
    refine key (-1) R.length S.files (fun _ => ⟨rfl, rfl⟩) (fun k j => ?_)
    rw [I.files, rpg_push]
    by_cases he : j = R.length
    · subst he; rw [if_pos rfl, hno]; simp
      intro h1 e; rw [← e] at h1; exact absurd h1 (show ¬ (0 : Int) ≤ -1 by decide)
    · rw [if_neg he]
  · rw [if_neg hk, hof]
    by_cases hi0 : 0 ≤ i
    · rw [if_pos hi0, if_pos hi0]; exact ⟨rfl, I⟩
    · rw [if_neg hi0, if_neg hi0]
      simp only [if_neg hk]
      refine ⟨by rw [I.next], ?_⟩
      refine key kf ki (upd S.files (kf, ki) (some S.next)) (fun h => absurd h hk) (fun k j => ?_)
      rw [rpg_push]
      unfold upd
      by_cases hkk : k = (kf, ki)
      · rw [if_pos hkk, I.next]
        constructor
        · intro e
          simp only [Option.some.injEq] at e
          rw [← e, if_pos rfl]
          exact ⟨by rw [hkk]; show 0 ≤ kf; omega, _, rfl, hkk.symm⟩
        · rintro ⟨g1, p, g2, g3⟩
          by_cases he : j = R.length
          · rw [he]
          · rw [if_neg he] at g2
            have := (I.files k j).2 ⟨g1, p, g2, g3⟩
            have h2 : S.of (kf, ki) = j := by unfold TS.of; rw [← hkk, this]; rfl
            have := (rpg_some g2).1
            omega
      · rw [if_neg hkk, I.files]
        by_cases he : j = R.length
        · subst he; rw [if_pos rfl, hno]; simp
          intro _ e; exact hkk e.symm
        · rw [if_neg he]

theorem Inv.put (I : Inv S R) (id place at_ : Int) {v : Int} (hv : RS.atSpec R (place, at_) v) : (S.put id place at_).2 = (RS.put R id place at_ v).2 ∧ Inv (S.put id place at_).1 (RS.put R id place at_ v).1 := by
  have hat := I.at_ hv
  unfold TS.put RS.put; rw [I.pg]
  cases hp : rpg R id with
  | none => exact ⟨rfl, I⟩
  | some p =>
    dsimp only
    split
    · exact ⟨rfl, I⟩
    · next hbad =>
      rw [hat]
      split
      · exact ⟨rfl, I⟩
      · next hbusy =>
        have hr := rpg_setP (q := { p with place := place, at_ := at_ }) hp
        have hokp := I.ok id p hp
        refine ⟨rfl, fun j => ?_, by simpa using I.next, fun k j => ?_, fun k j => ?_, fun j x hx => ?_, fun j x hx => ?_⟩
        · rw [hr]; show upd S.pg id _ j = _; unfold upd; rw [I.pg]
        · show S.files k = some j ↔ _
          rw [I.files, hr]
          by_cases he : j = id
          · subst he; rw [if_pos rfl, hp]; simp
          · rw [if_neg he]
        · -- who else is there
          have other : ∀ j x, j ≠ id → rpg R j = some x → place ≠ 0 → (x.place, x.at_) ≠ (place, at_) := by
            intro j x hj hx hz e
            have e1 := (I.spots (place, at_) j).2 ⟨hz, x, hx, e⟩
            have e2 : S.at_ (place, at_) = j := by unfold TS.at_; rw [e1]; rfl
            rw [hat] at e2
            subst e2
            exact hbusy ⟨(rpg_some hx).1, hj⟩
          have old : ∀ j x, j ≠ id → rpg R j = some x → p.place ≠ 0 → (x.place, x.at_) ≠ (p.place, p.at_) := by
            intro j x hj hx hz e
            have e1 := (I.spots (p.place, p.at_) j).2 ⟨hz, x, hx, e⟩
            have e2 := (I.spots (p.place, p.at_) id).2 ⟨hz, p, hp, rfl⟩
            rw [e1] at e2; exact hj (Option.some.inj e2)
          have del : ∀ k j, upd S.spots (p.place, p.at_) none k = some j ↔ k.1 ≠ 0 ∧ j ≠ id ∧ ∃ x, rpg R j = some x ∧ (x.place, x.at_) = k := by
            intro k j
            unfold upd
            by_cases hk : k = (p.place, p.at_)
            · rw [if_pos hk]
              constructor
              · intro h; cases h
              · rintro ⟨g1, g2, x, g3, g4⟩
                exact absurd (g4.trans hk) (old j x g2 g3 (by rw [hk] at g1; exact g1))
            · rw [if_neg hk, I.spots]
              constructor
              · rintro ⟨g1, x, g3, g4⟩
                refine ⟨g1, ?_, x, g3, g4⟩
                rintro rfl
                rw [hp] at g3; simp only [Option.some.injEq] at g3; subst g3
                exact hk g4.symm
              · rintro ⟨g1, _, g⟩; exact ⟨g1, g⟩
          have hgoal : (if place ≠ 0 then upd (upd S.spots (p.place, p.at_) none) (place, at_) (some id) else upd S.spots (p.place, p.at_) none) k = some j ↔ k.1 ≠ 0 ∧ ∃ x, (if j = id then some { p with place := place, at_ := at_ } else rpg R j) = some x ∧ (x.place, x.at_) = k := by
            by_cases hz : place ≠ 0
            · rw [if_pos hz]
              show (if k = (place, at_) then some id else upd S.spots (p.place, p.at_) none k) = some j ↔ _
              by_cases hk : k = (place, at_)
              · rw [if_pos hk]
                constructor
                · intro e
                  simp only [Option.some.injEq] at e
                  rw [if_pos e.symm]
                  exact ⟨by rw [hk]; exact hz, _, rfl, hk.symm⟩
                · rintro ⟨g1, x, g2, g3⟩
                  by_cases he : j = id
                  · rw [he]
                  · rw [if_neg he] at g2
                    exact absurd (g3.trans hk) (other j x he g2 hz)
              · rw [if_neg hk, del]
                constructor
                · rintro ⟨g1, g2, g3⟩; rw [if_neg g2]; exact ⟨g1, g3⟩
                · rintro ⟨g1, x, g2, g3⟩
                  by_cases he : j = id
                  · rw [if_pos he] at g2; simp only [Option.some.injEq] at g2; subst g2
                    exact absurd g3.symm hk
                  · rw [if_neg he] at g2; exact ⟨g1, he, x, g2, g3⟩
            · rw [if_neg hz, del]
              constructor
              · rintro ⟨g1, g2, g3⟩; rw [if_neg g2]; exact ⟨g1, g3⟩
              · rintro ⟨g1, x, g2, g3⟩
                by_cases he : j = id
                · rw [if_pos he] at g2; simp only [Option.some.injEq] at g2; subst g2
                  have hz' : place = 0 := by simpa using hz
                  rw [← g3] at g1; exact absurd hz' g1
                · rw [if_neg he] at g2; exact ⟨g1, he, x, g2, g3⟩
          rw [hr]; exact hgoal
        · rw [hr] at hx
          by_cases he : j = id
          · subst he; rw [if_pos rfl] at hx; simp only [Option.some.injEq] at hx; subst hx
            exact I.own j p hp
          · rw [if_neg he] at hx; exact I.own j x hx
        · rw [hr] at hx
          by_cases he : j = id
          · subst he; rw [if_pos rfl] at hx; simp only [Option.some.injEq] at hx; subst hx
            exact ⟨by show 0 ≤ place; omega, by show place ≤ 2; omega, by show 0 ≤ at_; omega, hokp.2.2.2⟩
          · rw [if_neg he] at hx; exact I.ok j x hx

end Go.Mp
