/- What each function of the document's answer for pages does. -/
import Derived.Test.YtbkmfficnnfljaaPgE
import Derived.Test.YtbkmfficnnfljaaRecs
set_option maxRecDepth 100000
namespace Go.Mp
open Go Go.Vc Go.Sp

/-- One: a page, and whether it is gone. -/
abbrev One := Pg × Bool
def oneVs (o : One) : List Value := o.1.vs ++ [.bool o.2]
theorem oneVs_length (o : One) : (oneVs o).length = 10 := rfl

def rpg (R : List One) (id : Int) : Option Pg := if 0 ≤ id then (R[id.toNat]?).bind fun o => if o.2 then none else some o.1 else none

theorem rpg_some {R : List One} {id : Int} {p : Pg} (h : rpg R id = some p) : 0 ≤ id ∧ id < R.length ∧ R[id.toNat]? = some (p, false) := by
  unfold rpg at h
  split at h
  · next h0 =>
    cases hr : R[id.toNat]? with
    | none => rw [hr] at h; cases h
    | some o =>
      rw [hr] at h
      obtain ⟨q, g⟩ := o
      cases g
      · simp at h; subst h
        have := (List.getElem?_eq_some_iff.1 hr).1
        exact ⟨h0, by omega, rfl⟩
      · simp at h
  · cases h

def RTab (r : Nat) (R : List One) : Asn := exA fun s : Sl => pur (s.n = R.length) (star (blk r [.slice s.p s.n s.c]) (rowA s 10 (recs oneVs R)))

variable {E : Env} {L : List Asn} {w : World} {R : List One} {r : Nat}

theorem RTab.open (h : Sep E (RTab r R :: L) w) : ∃ s : Sl, s.n = R.length ∧ Sep E (blk r [.slice s.p s.n s.c] :: rowA s 10 (recs oneVs R) :: L) w := by
  obtain ⟨s, h⟩ := Sep.ex.1 h
  obtain ⟨h1, h⟩ := Sep.pur.1 h
  exact ⟨s, h1, Sep.star.1 h⟩
theorem RTab.shut {s : Sl} (hn : s.n = R.length) (h : Sep E (blk r [.slice s.p s.n s.c] :: rowA s 10 (recs oneVs R) :: L) w) : Sep E (RTab r R :: L) w :=
  Sep.ex.2 ⟨s, Sep.pur.2 ⟨hn, Sep.star.2 h⟩⟩

theorem r_Has (id : Int) (h : Sep E (RTab r R :: L) w) : Calls P fn_millpondref14_Table_Has #[.pointer (some ⟨r, 0, none⟩), .int .i64 id] w (Ret fun v w' => w' = w ∧ v = .bool (rpg R id).isSome) := by
  obtain ⟨s, hn, h⟩ := RTab.open h
  apply of_millpondref14_Table_Has
  unfold sh_millpondref14_Table_Has
  refine bGe (fun h0 => ?_) (fun h0 => ?_)
  · refine ⟨_, rfl, s, (h.cell _).trans rfl, bLt (fun h1 => ?_) (fun h1 => ?_)⟩
    · refine ⟨_, rfl, s, (h.cell _).trans rfl, rowA.el 1 h rfl h0 h1 (fun b hp hc => ?_)⟩
      have hlt : id.toNat < R.length := by omega
      have hr : R[id.toNat]? = some R[id.toNat] := List.getElem?_eq_getElem hlt
      refine ⟨R[id.toNat].2, ?_, rfl, ?_⟩
      · rw [add_mk, hc 9 (by omega), recs_at oneVs_length hr 9 (by omega)]; rfl
      · congr 1
        unfold rpg; rw [if_pos h0, hr]
        cases hg : R[id.toNat].2 <;> simp [hg]
    · refine ⟨rfl, ?_⟩
      have : R[id.toNat]? = none := List.getElem?_eq_none (by omega)
      unfold rpg; rw [if_pos h0, this]; rfl
  · refine ⟨rfl, ?_⟩
    unfold rpg; rw [if_neg (by omega)]; rfl

/-- A field of one that is there. -/
theorem r_fld {s : Sl} {id : Int} {p : Pg} (hn : s.n = R.length) (hp : rpg R id = some p) {q : Nat} (h : Sep E L w) (hq : L[q]? = some (rowA s 10 (recs oneVs R))) {f : Addr → Prop}
    (k : ∀ b, s.p = some ⟨b, 0, none⟩ → (∀ j, j < 10 → w.cell? ⟨b, id.toNat * 10 + j, none⟩ = (oneVs (p, false))[j]?) → f ⟨b, id.toNat * 10, none⟩) : elAt s.p s.n id 10 f := by
  obtain ⟨h0, h1, h2⟩ := rpg_some hp
  refine rowA.el q h hq h0 (by omega) (fun b hb hc => k b hb (fun j hj => ?_))
  rw [hc j hj, recs_at oneVs_length h2 j hj]

/-- One that is there, with another field. -/
theorem r_set {s : Sl} {id : Int} {p p' : Pg} {g : Bool} {b j : Nat} {v : Value} (hp : rpg R id = some p) (hb : s.p = some ⟨b, 0, none⟩) (hj : j < 10) (hv : oneVs (p', g) = (oneVs (p, false)).set j v) {f : World → Prop}
    (h : Sep E (blk r [.slice s.p s.n s.c] :: rowA s 10 (recs oneVs R) :: L) w) (k : ∀ w1, Sep E (blk r [.slice s.p s.n s.c] :: rowA s 10 (recs oneVs (R.set id.toNat (p', g))) :: L) w1 → f w1) : St ⟨b, id.toNat * 10 + j, none⟩ v f w := by
  obtain ⟨h0, h1, h2⟩ := rpg_some hp
  refine rowA.st h.swap hb ?_ (fun w1 h3 => k w1 ?_)
  · have := recs_length oneVs_length R
    omega
  · rw [recs_set oneVs_length h2 hj hv] at h3
    exact h3.swap

def RS.ofSpec (R : List One) (k : Int × Int) (v : Int) : Prop := (0 ≤ k.1 ∧ ∃ p, rpg R v = some p ∧ (p.kf, p.ki) = k) ∨ (v = -1 ∧ (0 ≤ k.1 → ∀ id p, rpg R id = some p → (p.kf, p.ki) ≠ k))
def RS.atSpec (R : List One) (k : Int × Int) (v : Int) : Prop := (k.1 ≠ 0 ∧ ∃ p, rpg R v = some p ∧ (p.place, p.at_) = k) ∨ (v = -1 ∧ (k.1 ≠ 0 → ∀ id p, rpg R id = some p → (p.place, p.at_) ≠ k))

theorem key_eq (a b : Int × Int) : ∃ q, EqV P .eql ty_api_Key (encK a) (encK b) q ∧ (q = true ↔ a = b) := by
  have ht : ∀ k : Int × Int, Typed P ty_api_Key [.int .i64, .int .i64] (encK k) := fun k => by
    unfold Typed; rw [show aggQ P ty_api_Key = some true by kernel_rfl]
    exact ⟨_, rfl, ⟨_, rfl⟩, ⟨_, rfl⟩, trivial⟩
  obtain ⟨q, h1, h2⟩ := EqV.eql (d := 3) (l := [.int .i64, .int .i64]) (by kernel_rfl : eqT P 3 ty_api_Key = _) (by decide) (by kernel_rfl) (by kernel_rfl) (ht a) (ht b)
  exact ⟨q, h1, h2.trans ⟨encK_inj a b, fun e => by rw [e]⟩⟩

theorem r_Of (k : Int × Int) (hb : R.length < 4611686018427387904) (h : Sep E (RTab r R :: L) w) : Calls P fn_millpondref14_Table_Of #[.pointer (some ⟨r, 0, none⟩), encK k] w (Ret fun v w' => ∃ i : Int, v = .int .i64 i ∧ RS.ofSpec R k i ∧ Sep E (RTab r R :: L) w') := by
  apply of_millpondref14_Table_Of
  unfold sh_millpondref14_Table_Of
  refine Al.i h (fun p1 w1 h1 => ?_)
  refine ⟨fun i w => (0 ≤ i ∧ i ≤ R.length) ∧ (0 ≤ k.1 → ∀ id p, id < i → rpg R id = some p → (p.kf, p.ki) ≠ k) ∧ Sep E (RTab r R :: blk p1 [.int .i64 k.1, .int .i64 k.2] :: L) w, fun i _ => (R.length - i).toNat,
    ⟨⟨by omega, by omega⟩, fun _ id p hi hp => by have := (rpg_some hp).1; omega, h1.swap⟩, ?_⟩
  rintro _ i w2 ⟨⟨hi0, hi1⟩, hno, h2⟩
  obtain ⟨s, hn, h3⟩ := RTab.open h2
  have drop : ∀ {w : World}, Sep E (RTab r R :: blk p1 [.int .i64 k.1, .int .i64 k.2] :: L) w → Sep E (RTab r R :: L) w := fun h => (h.fr 1 rfl).tail
  refine ⟨_, rfl, s, (h3.cell _).trans rfl, bLt (fun hlt => ?_) (fun hge => ?_)⟩
  · refine ⟨k.1, (h3.cellAt 2 rfl _).trans rfl, bGe (fun hk => ?_) (fun hk => ?_)⟩
    · refine Dr.i h2 (fun w3 h4 => ?_)
      refine use (r_Has i h4) ?_
      rintro _ w4 ⟨rfl, rfl⟩
      have next : (∀ p, rpg R i = some p → (p.kf, p.ki) ≠ k) → ((0 ≤ IntKind.i64.wrap (i + 1) ∧ IntKind.i64.wrap (i + 1) ≤ R.length) ∧ (0 ≤ k.1 → ∀ id p, id < IntKind.i64.wrap (i + 1) → rpg R id = some p → (p.kf, p.ki) ≠ k) ∧ Sep E (RTab r R :: blk p1 [.int .i64 k.1, .int .i64 k.2] :: L) w4) ∧ (R.length - IntKind.i64.wrap (i + 1)).toNat < (R.length - i).toNat := by
        intro hne
        rw [w64 (by omega) (by omega)]
        refine ⟨⟨⟨by omega, by omega⟩, fun hk id p hid hp => ?_, h4⟩, by omega⟩
        by_cases he : id = i
        · subst he; exact hne p hp
        · exact hno hk id p (by omega) hp
      cases hp : rpg R i with
      | none => exact ⟨_, rfl, bifF (next (fun p h => by rw [hp] at h; cases h))⟩
      | some p =>
        obtain ⟨s, hn, h5⟩ := RTab.open h4
        refine ⟨_, rfl, bifT ⟨_, rfl, s, (h5.cell _).trans rfl, r_fld hn hp (q := 1) h5 rfl (fun b hb' hc => ?_)⟩⟩
        refine ⟨p.kf, by rw [add_mk, add_mk, add_mk]; exact (hc 0 (by omega)).trans rfl, p.ki, by rw [add_mk, add_mk, add_mk]; exact (hc 1 (by omega)).trans rfl, k.1, (h5.cellAt 2 rfl _).trans rfl, k.2, by rw [add_mk]; exact (h5.cellAt 2 rfl _).trans rfl, ?_⟩
        obtain ⟨q, hq1, hq2⟩ := key_eq (p.kf, p.ki) k
        refine ⟨q, hq1, bifI (fun ht => ⟨i, rfl, .inl ⟨hk, p, hp, hq2.1 ht⟩, drop h4⟩) (fun hf => next (fun p' hp' => ?_))⟩
        rw [hp] at hp'
        simp only [Option.some.injEq] at hp'
        subst hp'
        intro e; rw [hq2.2 e] at hf; cases hf
    · exact ⟨-1, rfl, .inr ⟨rfl, fun hh => by omega⟩, drop h2⟩
  · refine ⟨-1, rfl, .inr ⟨rfl, fun hk id p hp => ?_⟩, drop h2⟩
    have := (rpg_some hp).2.1
    exact hno hk id p (by omega) hp

theorem r_At (place at_ : Int) (hb : R.length < 4611686018427387904) (h : Sep E (RTab r R :: L) w) : Calls P fn_millpondref14_Table_At #[.pointer (some ⟨r, 0, none⟩), .int .i64 place, .int .i64 at_] w (Ret fun v w' => ∃ i : Int, v = .int .i64 i ∧ RS.atSpec R (place, at_) i ∧ Sep E (RTab r R :: L) w') := by
  apply of_millpondref14_Table_At
  unfold sh_millpondref14_Table_At
  refine ⟨fun i w => (0 ≤ i ∧ i ≤ R.length) ∧ (place ≠ 0 → ∀ id p, id < i → rpg R id = some p → (p.place, p.at_) ≠ (place, at_)) ∧ Sep E (RTab r R :: L) w, fun i _ => (R.length - i).toNat,
    ⟨⟨by omega, by omega⟩, fun _ id p hi hp => by have := (rpg_some hp).1; omega, h⟩, ?_⟩
  rintro _ i w2 ⟨⟨hi0, hi1⟩, hno, h2⟩
  obtain ⟨s, hn, h3⟩ := RTab.open h2
  refine ⟨_, rfl, s, (h3.cell _).trans rfl, bLt (fun hlt => ?_) (fun hge => ?_)⟩
  · refine bNe (fun hk => ?_) (fun hk => ⟨-1, rfl, .inr ⟨rfl, fun hh => absurd hk hh⟩, h2⟩)
    refine use (r_Has i h2) ?_
    rintro _ w4 ⟨rfl, rfl⟩
    have next : (∀ p, rpg R i = some p → (p.place, p.at_) ≠ (place, at_)) → ((0 ≤ IntKind.i64.wrap (i + 1) ∧ IntKind.i64.wrap (i + 1) ≤ R.length) ∧ (place ≠ 0 → ∀ id p, id < IntKind.i64.wrap (i + 1) → rpg R id = some p → (p.place, p.at_) ≠ (place, at_)) ∧ Sep E (RTab r R :: L) w4) ∧ (R.length - IntKind.i64.wrap (i + 1)).toNat < (R.length - i).toNat := by
      intro hne
      rw [w64 (by omega) (by omega)]
      refine ⟨⟨⟨by omega, by omega⟩, fun hk id p hid hp => ?_, h2⟩, by omega⟩
      by_cases he : id = i
      · subst he; exact hne p hp
      · exact hno hk id p (by omega) hp
    cases hp : rpg R i with
    | none => exact ⟨_, rfl, bifF (next (fun p h => by rw [hp] at h; cases h))⟩
    | some p =>
      have one : ∀ {c : Prop}, (¬ c) → (c ↔ (p.place, p.at_) = (place, at_)) → ∀ p', rpg R i = some p' → (p'.place, p'.at_) ≠ (place, at_) := by
        intro c hc hiff p' hp' e
        rw [hp] at hp'; simp only [Option.some.injEq] at hp'; subst hp'
        exact hc (hiff.2 e)
      refine ⟨_, rfl, bifT ⟨_, rfl, s, (h3.cell _).trans rfl, r_fld hn hp (q := 1) h3 rfl (fun b hb' hc => ?_)⟩⟩
      refine ⟨p.place, by rw [add_mk, add_mk]; exact (hc 2 (by omega)).trans rfl, bEq (fun e1 => ?_) (fun e1 => next (fun p' hp' e => ?_))⟩
      · refine ⟨_, rfl, s, (h3.cell _).trans rfl, r_fld hn hp (q := 1) h3 rfl (fun b hb' hc => ?_)⟩
        refine ⟨p.at_, by rw [add_mk, add_mk]; exact (hc 3 (by omega)).trans rfl, bEq (fun e2 => ⟨i, rfl, .inl ⟨hk, p, hp, by rw [e1, e2]⟩, h2⟩) (fun e2 => next (fun p' hp' e => ?_))⟩
        rw [hp] at hp'; simp only [Option.some.injEq] at hp'; subst hp'
        exact e2 (Prod.mk.inj e).2
      · rw [hp] at hp'; simp only [Option.some.injEq] at hp'; subst hp'
        exact e1 (Prod.mk.inj e).1
  · refine ⟨-1, rfl, .inr ⟨rfl, fun hk id p hp => ?_⟩, h2⟩
    have := (rpg_some hp).2.1
    exact hno hk id p (by omega) hp

def RS.get (R : List One) (id : Int) : Pg × Int := match rpg R id with
  | some p => (p, 0)
  | none => (Pg.zero, 2)

theorem r_Get (id : Int) (h : Sep E (RTab r R :: L) w) : Calls P fn_millpondref14_Table_Get #[.pointer (some ⟨r, 0, none⟩), .int .i64 id] w (Ret fun v w' => v = .tuple #[.agg (RS.get R id).1.vs.toArray, .int .i64 (RS.get R id).2] ∧ Sep E (RTab r R :: L) w') := by
  apply of_millpondref14_Table_Get
  unfold sh_millpondref14_Table_Get
  refine Al.i h (fun q w1 h1 => ?_)
  refine use (r_Has id h1.swap) ?_
  rintro _ w2 ⟨rfl, rfl⟩
  refine ⟨_, rfl, ?_⟩
  unfold RS.get
  cases hp : rpg R id with
  | none =>
    refine bifT (StN.i h1 (Nat.le_refl 9) (fun w2 h2 => ?_))
    have f : ∀ (j : Nat) (v : Value), Pg.zero.vs[j]? = some v → w2.cell? (Addr.add ⟨q, 0, none⟩ j) = some v := fun j v hv => by
      rw [add_mk, h2.cell, Nat.zero_add]; exact hv
    exact ⟨_, f 0 _ rfl, _, f 1 _ rfl, _, f 2 _ rfl, _, f 3 _ rfl, _, f 4 _ rfl, _, f 5 _ rfl, _, f 6 _ rfl, _, f 7 _ rfl, _, f 8 _ rfl, rfl, h2.tail⟩
  | some p =>
    obtain ⟨s, hn, h3⟩ := RTab.open h1.swap
    refine bifF ⟨_, rfl, s, (h3.cell _).trans rfl, r_fld hn hp (q := 1) h3 rfl (fun b hb hc => ?_)⟩
    have ld : ∀ (j : Nat) (v : Value), j < 10 → (oneVs (p, false))[j]? = some v → w2.cell? ((Addr.add ⟨b, id.toNat * 10, none⟩ 0).add j) = some v := fun j v hj hv => by
      rw [add_mk, add_mk]; exact (hc j hj).trans hv
    refine ⟨_, ld 0 _ (by decide) rfl, _, ld 1 _ (by decide) rfl, _, ld 2 _ (by decide) rfl, _, ld 3 _ (by decide) rfl, _, ld 4 _ (by decide) rfl, _, ld 5 _ (by decide) rfl, _, ld 6 _ (by decide) rfl, _, ld 7 _ (by decide) rfl, _, ld 8 _ (by decide) rfl, ?_⟩
    refine StN.i h1 (Nat.le_refl 9) (fun w3 h2 => ?_)
    have f : ∀ (j : Nat) (v : Value), p.vs[j]? = some v → w3.cell? (Addr.add ⟨q, 0, none⟩ j) = some v := fun j v hv => by
      rw [add_mk, h2.cell, Nat.zero_add]; exact hv
    exact ⟨_, f 0 _ rfl, _, f 1 _ rfl, _, f 2 _ rfl, _, f 3 _ rfl, _, f 4 _ rfl, _, f 5 _ rfl, _, f 6 _ rfl, _, f 7 _ rfl, _, f 8 _ rfl, rfl, h2.tail⟩

def RS.make (R : List One) (kf ki o v : Int) : List One × Int × Int :=
  if 0 ≤ v then (R, -1, 4) else (R ++ [(⟨if kf < 0 then -1 else kf, if kf < 0 then R.length else ki, 0, 0, o, 0, 0, false, false⟩, false)], R.length, 0)

theorem r_push {s : Sl} {q : Nat} {a : Pg} (hn : s.n = R.length) (hb : R.length < 1000000) (h : Sep E (blk q (oneVs (a, false)) :: blk r [.slice s.p s.n s.c] :: rowA s 10 (recs oneVs R) :: L) w) {G : Sl → World → Prop}
    (g : ∀ s' w1, s'.n = (R ++ [(a, false)]).length → Sep E (rowA s' 10 (recs oneVs (R ++ [(a, false)])) :: blk r [.slice s.p s.n s.c] :: L) w1 → G s' w1) :
    ∃ x1 : Sl, ∃ w1, Sem.run P (Builtin.append_ #[ty_sl_millpondref14_One, ty_sl_millpondref14_One] ty_sl_millpondref14_One #[.slice s.p s.n s.c, .slice (some ⟨q, 0, none⟩) 1 1]) w = .ok (.slice x1.p x1.n x1.c) w1 ∧ G x1 w1 := by
  have hq : slQ P ty_sl_millpondref14_One = some (72, 10, oneVs (Pg.zero, false)) := by kernel_rfl
  have hs := Src.blk (n := 1) (c := 1) h (i := 0) rfl hq rfl (fun u hu => by
    simp [oneVs, Pg.vs] at hu
    rcases hu with rfl | rfl | rfl | rfl | rfl | rfl | rfl | rfl | rfl | rfl <;> rfl)
  refine rowA.append (h.fr 2 rfl) hq rfl hs (by omega) (by rw [hn]; omega) (fun s' w1 hs' h1 => g s' w1 (by rw [hs', hn]; simp) ?_)
  rw [recs_append, recs_one]
  exact (h1.fr 1 rfl).tail

theorem r_Make (kf ki o : Int) (hb : R.length < 1000000) (h : Sep E (RTab r R :: L) w) : Calls P fn_millpondref14_Table_Make #[.pointer (some ⟨r, 0, none⟩), encK (kf, ki), .int .i64 o] w
    (Ret fun v w' => ∃ i, RS.ofSpec R (kf, ki) i ∧ v = .tuple #[.int .i64 (RS.make R kf ki o i).2.1, .int .i64 (RS.make R kf ki o i).2.2] ∧ Sep E (RTab r (RS.make R kf ki o i).1 :: L) w') := by
  apply of_millpondref14_Table_Make
  unfold sh_millpondref14_Table_Make
  refine Al.i h (fun p w1 h1 => ?_)
  refine ⟨kf, (h1.cellAt 0 rfl _).trans rfl, ki, by rw [add_mk]; exact (h1.cellAt 0 rfl _).trans rfl, ?_⟩
  refine use (r_Of (kf, ki) (by omega) h1.swap) ?_
  rintro _ w2 ⟨i, rfl, hi, h2⟩
  refine ⟨_, rfl, bGe (fun hge => ?_) (fun hlt => ?_)⟩
  · have e : RS.make R kf ki o i = (R, -1, 4) := if_pos hge
    exact ⟨i, hi, by rw [e], by rw [e]; exact (h2.fr 1 rfl).tail⟩
  · have e : RS.make R kf ki o i = (R ++ [(⟨if kf < 0 then -1 else kf, if kf < 0 then R.length else ki, 0, 0, o, 0, 0, false, false⟩, false)], (R.length : Int), (0 : Int)) := if_neg (by omega)
    have fin : ∀ {w5 : World} {kf' ki' : Int} {s : Sl} {pc : List Value} {q : Nat}, s.n = R.length → kf' = (if kf < 0 then -1 else kf) → ki' = (if kf < 0 then (R.length : Int) else ki) →
        Sep E (blk q (oneVs (⟨kf', ki', 0, 0, o, 0, 0, false, false⟩, false)) :: blk r [.slice s.p s.n s.c] :: rowA s 10 (recs oneVs R) :: blk p pc :: L) w5 →
        ∃ x21 : Sl, ∃ w20, Sem.run P (Builtin.append_ #[ty_sl_millpondref14_One, ty_sl_millpondref14_One] ty_sl_millpondref14_One #[.slice s.p s.n s.c, .slice (some ⟨q, 0, none⟩) 1 1]) w5 = .ok (.slice x21.p x21.n x21.c) w20 ∧
          NN (some ⟨r, 0, none⟩) fun a22 => St (a22.add 0) (.slice x21.p x21.n x21.c) (fun w23 => NN (some ⟨r, 0, none⟩) fun a24 => ∃ x25 : Sl, w23.cell? (a24.add 0) = some (.slice x25.p x25.n x25.c) ∧
            (∃ i, RS.ofSpec R (kf, ki) i ∧ Value.tuple #[.int .i64 (IntKind.i64.wrap (((x25.n : Nat) : Int) - 1)), .int .i64 0] = .tuple #[.int .i64 (RS.make R kf ki o i).2.1, .int .i64 (RS.make R kf ki o i).2.2] ∧ Sep E (RTab r (RS.make R kf ki o i).1 :: L) w23)) w20 := by
      intro w5 kf' ki' s pc q hn ek ek2 h5
      refine r_push hn hb h5 (fun s' w6 hs' h6 => ?_)
      refine ⟨_, rfl, St.j h6.swap (show 0 < 1 by decide) (fun w7 h7 => ⟨_, rfl, s', (h7.cell _).trans rfl, i, hi, ?_, ?_⟩)⟩
      · rw [e]; dsimp only
        have : (s'.n : Int) - 1 = R.length := by rw [hs']; simp
        rw [this, w64 (by omega) (by omega)]
      · rw [e, ← ek, ← ek2]
        exact RTab.shut hs' ((h7.fr 2 rfl).tail)
    refine ⟨kf, (h2.cellAt 1 rfl _).trans rfl, bLt (fun hk => ?_) (fun hk => ?_)⟩
    · obtain ⟨s, hn, h3⟩ := RTab.open h2
      refine ⟨_, rfl, s, (h3.cell _).trans rfl, StN.i (h3.ro 3 [2, 0, 1] rfl) (Nat.le_refl 2) (fun w4 h4 => ?_)⟩
      refine Dr.i h4 (fun w5 h5 => ⟨_, rfl, s, (h5.cellAt 1 rfl _).trans rfl, -1, (h5.cell _).trans rfl, s.n, by rw [add_mk]; exact (h5.cell _).trans rfl, ?_⟩)
      refine Al.i h5 (fun q w6 h6 => ⟨s, (h6.cellAt 2 rfl _).trans rfl, rfl, ?_⟩)
      exact fin hn (by rw [if_pos hk]) (by rw [if_pos hk, hn]) (h6.ro 4 [0, 2, 3, 1] rfl)
    · obtain ⟨s, hn, h3⟩ := RTab.open h2
      refine Dr.i (h3.ro 3 [2, 0, 1] rfl) (fun w5 h5 => ⟨_, rfl, s, (h5.cellAt 1 rfl _).trans rfl, kf, (h5.cell _).trans rfl, ki, by rw [add_mk]; exact (h5.cell _).trans rfl, ?_⟩)
      refine Al.i h5 (fun q w6 h6 => ⟨s, (h6.cellAt 2 rfl _).trans rfl, rfl, ?_⟩)
      exact fin hn (by rw [if_neg (by omega)]) (by rw [if_neg (by omega)]) (h6.ro 4 [0, 2, 3, 1] rfl)

def RS.setP (R : List One) (id : Int) (p : Pg) : List One := R.set id.toNat (p, false)
@[simp] theorem RS.setP_length (id : Int) (p : Pg) : (RS.setP R id p).length = R.length := by simp [RS.setP]

theorem atSpec_ex (R : List One) (k : Int × Int) : ∃ v, RS.atSpec R k v := by
  by_cases h : k.1 ≠ 0 ∧ ∃ id p, rpg R id = some p ∧ (p.place, p.at_) = k
  · obtain ⟨h1, id, h2⟩ := h
    exact ⟨id, .inl ⟨h1, h2⟩⟩
  · exact ⟨-1, .inr ⟨rfl, fun h1 id p hp e => h ⟨h1, id, p, hp, e⟩⟩⟩

def RS.put (R : List One) (id place at_ v : Int) : List One × Int := match rpg R id with
  | none => (R, 2)
  | some p =>
    if place < 0 ∨ 2 < place ∨ at_ < 0 ∨ (place = 0 ∧ at_ ≠ 0) then (R, 1)
    else if 0 ≤ v ∧ v ≠ id then (R, 4)
    else (RS.setP R id { p with place := place, at_ := at_ }, 0)
def RS.refer (R : List One) (id n : Int) : List One × Int × Int := match rpg R id with
  | none => (R, 0, 2)
  | some p => if n < -1000 ∨ 1000 < n ∨ IntKind.i64.wrap (p.refs + n) < 0 then (R, 0, 1) else (RS.setP R id { p with refs := IntKind.i64.wrap (p.refs + n) }, IntKind.i64.wrap (p.refs + n), 0)
def RS.drop (R : List One) (id : Int) : List One × Int := match rpg R id with
  | none => (R, 2)
  | some p => if 0 < p.refs ∨ p.place ≠ 0 then (R, 4) else (R.set id.toNat (p, true), 0)
def RS.own (R : List One) (id o : Int) : List One × Int := match rpg R id with
  | none => (R, 2)
  | some p => (RS.setP R id { p with owner := o }, 0)
def RS.mark (R : List One) (id : Int) (d : Bool) : List One × Int := match rpg R id with
  | none => (R, 2)
  | some p => (RS.setP R id { p with dirty := d }, 0)

theorem rpg_setP {id : Int} {p q : Pg} (h : rpg R id = some p) (j : Int) : rpg (RS.setP R id q) j = if j = id then some q else rpg R j := by
  obtain ⟨h0, h1, h2⟩ := rpg_some h
  unfold rpg RS.setP
  by_cases hj : 0 ≤ j
  · rw [if_pos hj, if_pos hj, List.getElem?_set]
    by_cases he : j = id
    · subst he
      have : j.toNat < R.length := by omega
      simp [this]
    · rw [if_neg (by omega), if_neg he]
  · rw [if_neg hj, if_neg hj, if_neg (by omega)]
theorem rpg_setG {id : Int} {p q : Pg} (h : rpg R id = some p) (j : Int) : rpg (R.set id.toNat (q, true)) j = if j = id then none else rpg R j := by
  obtain ⟨h0, h1, h2⟩ := rpg_some h
  unfold rpg
  by_cases hj : 0 ≤ j
  · rw [if_pos hj, if_pos hj, List.getElem?_set]
    by_cases he : j = id
    · subst he
      have : j.toNat < R.length := by omega
      simp [this]
    · rw [if_neg (by omega), if_neg he]
  · rw [if_neg hj, if_neg hj, if_neg (by omega)]

theorem r_Own (id o : Int) (h : Sep E (RTab r R :: L) w) : Calls P fn_millpondref14_Table_Own #[.pointer (some ⟨r, 0, none⟩), .int .i64 id, .int .i64 o] w
    (Ret fun v w' => v = .int .i64 (RS.own R id o).2 ∧ Sep E (RTab r (RS.own R id o).1 :: L) w') := by
  apply of_millpondref14_Table_Own
  unfold sh_millpondref14_Table_Own
  refine use (r_Has id h) ?_
  rintro _ w2 ⟨rfl, rfl⟩
  refine ⟨_, rfl, ?_⟩
  unfold RS.own
  cases hp : rpg R id with
  | none => exact bifT ⟨rfl, h⟩
  | some p =>
    obtain ⟨s, hn, h3⟩ := RTab.open h
    refine bifF ⟨_, rfl, s, (h3.cell _).trans rfl, r_fld hn hp (q := 1) h3 rfl (fun b hb hc => ?_)⟩
    rw [add_mk, add_mk]
    exact r_set hp hb (j := 4) (by decide) (p' := { p with owner := o }) (g := false) rfl h3 (fun w1 h4 => ⟨rfl, RTab.shut (R := RS.setP R id { p with owner := o }) (by simpa using hn) h4⟩)

theorem r_Mark (id : Int) (o : Bool) (h : Sep E (RTab r R :: L) w) : Calls P fn_millpondref14_Table_Mark #[.pointer (some ⟨r, 0, none⟩), .int .i64 id, .bool o] w
    (Ret fun v w' => v = .int .i64 (RS.mark R id o).2 ∧ Sep E (RTab r (RS.mark R id o).1 :: L) w') := by
  apply of_millpondref14_Table_Mark
  unfold sh_millpondref14_Table_Mark
  refine use (r_Has id h) ?_
  rintro _ w2 ⟨rfl, rfl⟩
  refine ⟨_, rfl, ?_⟩
  unfold RS.mark
  cases hp : rpg R id with
  | none => exact bifT ⟨rfl, h⟩
  | some p =>
    obtain ⟨s, hn, h3⟩ := RTab.open h
    refine bifF ⟨_, rfl, s, (h3.cell _).trans rfl, r_fld hn hp (q := 1) h3 rfl (fun b hb hc => ?_)⟩
    rw [add_mk, add_mk]
    exact r_set hp hb (j := 8) (by decide) (p' := { p with dirty := o }) (g := false) rfl h3 (fun w1 h4 => ⟨rfl, RTab.shut (R := RS.setP R id { p with dirty := o }) (by simpa using hn) h4⟩)

theorem r_Drop (id : Int) (h : Sep E (RTab r R :: L) w) : Calls P fn_millpondref14_Table_Drop #[.pointer (some ⟨r, 0, none⟩), .int .i64 id] w
    (Ret fun v w' => v = .int .i64 (RS.drop R id).2 ∧ Sep E (RTab r (RS.drop R id).1 :: L) w') := by
  apply of_millpondref14_Table_Drop
  unfold sh_millpondref14_Table_Drop
  refine use (r_Has id h) ?_
  rintro _ w2 ⟨rfl, rfl⟩
  refine ⟨_, rfl, ?_⟩
  unfold RS.drop
  cases hp : rpg R id with
  | none => exact bifT ⟨rfl, h⟩
  | some p =>
    obtain ⟨s, hn, h3⟩ := RTab.open h
    refine bifF ⟨_, rfl, s, (h3.cell _).trans rfl, r_fld hn hp (q := 1) h3 rfl (fun b hb hc => ?_)⟩
    refine ⟨p.refs, by rw [add_mk, add_mk]; exact (hc 5 (by omega)).trans rfl, bGt (fun h1 => ?_) (fun h1 => ?_)⟩
    · dsimp only; rw [if_pos (.inl h1)]; exact ⟨rfl, h⟩
    · refine ⟨_, rfl, s, (h3.cell _).trans rfl, r_fld hn hp (q := 1) h3 rfl (fun b hb hc => ?_)⟩
      refine ⟨p.place, by rw [add_mk, add_mk]; exact (hc 2 (by omega)).trans rfl, bNe (fun h2 => ?_) (fun h2 => ?_)⟩
      · dsimp only; rw [if_pos (.inr h2)]; exact ⟨rfl, h⟩
      · dsimp only; rw [if_neg (by omega)]
        refine ⟨_, rfl, s, (h3.cell _).trans rfl, r_fld hn hp (q := 1) h3 rfl (fun b hb hc => ?_)⟩
        rw [add_mk]
        exact r_set hp hb (j := 9) (by decide) (p' := p) (g := true) rfl h3 (fun w1 h4 => ⟨rfl, RTab.shut (R := R.set id.toNat (p, true)) (by simpa using hn) h4⟩)

theorem r_Refer (id n : Int) (h : Sep E (RTab r R :: L) w) : Calls P fn_millpondref14_Table_Refer #[.pointer (some ⟨r, 0, none⟩), .int .i64 id, .int .i64 n] w
    (Ret fun v w' => v = .tuple #[.int .i64 (RS.refer R id n).2.1, .int .i64 (RS.refer R id n).2.2] ∧ Sep E (RTab r (RS.refer R id n).1 :: L) w') := by
  apply of_millpondref14_Table_Refer
  unfold sh_millpondref14_Table_Refer
  refine use (r_Has id h) ?_
  rintro _ w2 ⟨rfl, rfl⟩
  refine ⟨_, rfl, ?_⟩
  unfold RS.refer
  cases hp : rpg R id with
  | none => exact bifT ⟨rfl, h⟩
  | some p =>
    obtain ⟨s, hn, h3⟩ := RTab.open h
    refine bifF (bLt (fun h1 => ?_) (fun h1 => bGt (fun h2 => ?_) (fun h2 => ?_)))
    · dsimp only; rw [if_pos (.inl h1)]; exact ⟨rfl, h⟩
    · dsimp only; rw [if_pos (.inr (.inl h2))]; exact ⟨rfl, h⟩
    · refine ⟨_, rfl, s, (h3.cell _).trans rfl, r_fld hn hp (q := 1) h3 rfl (fun b hb hc => ?_)⟩
      refine ⟨p.refs, by rw [add_mk, add_mk]; exact (hc 5 (by omega)).trans rfl, bLt (fun h4 => ?_) (fun h4 => ?_)⟩
      · dsimp only; rw [if_pos (.inr (.inr h4))]; exact ⟨rfl, h⟩
      · dsimp only; rw [if_neg (by omega)]
        refine Dr.i h3 (fun w5 h5 => ⟨_, rfl, s, (h5.cell _).trans rfl, _, rfl, s, (h5.cell _).trans rfl, r_fld hn hp (q := 1) h5 rfl (fun b hb hc => ?_)⟩)
        refine ⟨p.refs, by rw [add_mk, add_mk]; exact (hc 5 (by omega)).trans rfl, r_fld hn hp (q := 1) h5 rfl (fun b hb hc => ?_)⟩
        rw [add_mk, add_mk]
        refine r_set hp hb (j := 5) (by decide) (p' := { p with refs := IntKind.i64.wrap (p.refs + n) }) (g := false) rfl h5 (fun w1 h6 => ?_)
        have hp' : rpg (R.set id.toNat ({ p with refs := IntKind.i64.wrap (p.refs + n) }, false)) id = some { p with refs := IntKind.i64.wrap (p.refs + n) } := by
          have := rpg_setP (q := { p with refs := IntKind.i64.wrap (p.refs + n) }) hp id
          rw [if_pos rfl] at this; exact this
        refine ⟨_, rfl, s, (h6.cell _).trans rfl, r_fld (R := R.set id.toNat ({ p with refs := IntKind.i64.wrap (p.refs + n) }, false)) (by simpa using hn) hp' (q := 1) h6 rfl (fun b hb hc => ?_)⟩
        refine ⟨IntKind.i64.wrap (p.refs + n), by rw [add_mk, add_mk]; exact (hc 5 (by omega)).trans rfl, rfl, ?_⟩
        exact RTab.shut (R := RS.setP R id { p with refs := IntKind.i64.wrap (p.refs + n) }) (by simpa using hn) h6

theorem r_Put (id place at_ : Int) (hb : R.length < 1000000) (h : Sep E (RTab r R :: L) w) : Calls P fn_millpondref14_Table_Put #[.pointer (some ⟨r, 0, none⟩), .int .i64 id, .int .i64 place, .int .i64 at_] w
    (Ret fun v w' => ∃ o, RS.atSpec R (place, at_) o ∧ v = .int .i64 (RS.put R id place at_ o).2 ∧ Sep E (RTab r (RS.put R id place at_ o).1 :: L) w') := by
  apply of_millpondref14_Table_Put
  unfold sh_millpondref14_Table_Put
  refine use (r_Has id h) ?_
  rintro _ w2 ⟨rfl, rfl⟩
  refine ⟨_, rfl, ?_⟩
  obtain ⟨o0, ho0⟩ := atSpec_ex R (place, at_)
  cases hp : rpg R id with
  | none =>
    have e : RS.put R id place at_ o0 = (R, 2) := by unfold RS.put; rw [hp]
    exact bifT ⟨o0, ho0, by rw [e], by rw [e]; exact h⟩
  | some p =>
    have bad : (place < 0 ∨ 2 < place ∨ at_ < 0 ∨ (place = 0 ∧ at_ ≠ 0)) → ∃ o, RS.atSpec R (place, at_) o ∧ Value.int .i64 1 = .int .i64 (RS.put R id place at_ o).2 ∧ Sep E (RTab r (RS.put R id place at_ o).1 :: L) w2 := by
      intro hb
      have e : RS.put R id place at_ o0 = (R, 1) := by unfold RS.put; rw [hp]; exact if_pos hb
      exact ⟨o0, ho0, by rw [e], by rw [e]; exact h⟩
    refine bifF (bLt (fun c => bad (.inl c)) (fun c1 => bGt (fun c => bad (.inr (.inl c))) (fun c2 => bLt (fun c => bad (.inr (.inr (.inl c)))) (fun c3 => bEq (fun e => bNe (fun c => bad (.inr (.inr (.inr ⟨e, c⟩)))) (fun e2 => ?_)) (fun e => ?_)))))
    all_goals
      have hno : ¬ (place < 0 ∨ 2 < place ∨ at_ < 0 ∨ (place = 0 ∧ at_ ≠ 0)) := by omega
      refine use (r_At place at_ (by omega) h) ?_
      rintro _ w3 ⟨o, rfl, ho, h1⟩
      refine ⟨_, rfl, ?_⟩
      have e0 : RS.put R id place at_ o = if 0 ≤ o ∧ o ≠ id then (R, 4) else (RS.setP R id { p with place := place, at_ := at_ }, 0) := by unfold RS.put; rw [hp]; exact if_neg hno
      refine bGe (fun g1 => bNe (fun g2 => ?_) (fun g2 => ?_)) (fun g1 => ?_)
      · rw [if_pos ⟨g1, g2⟩] at e0
        exact ⟨o, ho, by rw [e0], by rw [e0]; exact h1⟩
      all_goals
        rw [if_neg (by omega)] at e0
        obtain ⟨s, hn, h3⟩ := RTab.open h1
        refine ⟨_, rfl, s, (h3.cell _).trans rfl, r_fld hn hp (q := 1) h3 rfl (fun b hb hc => ?_)⟩
        rw [add_mk, add_mk]
        refine r_set hp hb (j := 2) (by decide) (p' := { p with place := place }) (g := false) rfl h3 (fun w4 h4 => ?_)
        have hp' : rpg (R.set id.toNat ({ p with place := place }, false)) id = some { p with place := place } := by
          have := rpg_setP (q := { p with place := place }) hp id
          rw [if_pos rfl] at this; exact this
        refine ⟨_, rfl, s, (h4.cell _).trans rfl, r_fld (R := R.set id.toNat ({ p with place := place }, false)) (by simpa using hn) hp' (q := 1) h4 rfl (fun b hb hc => ?_)⟩
        rw [add_mk, add_mk]
        refine r_set (R := R.set id.toNat ({ p with place := place }, false)) hp' hb (j := 3) (by decide) (p' := { p with place := place, at_ := at_ }) (g := false) rfl h4 (fun w5 h5 => ⟨o, ho, by rw [e0], ?_⟩)
        rw [List.set_set] at h5
        rw [e0]
        exact RTab.shut (R := RS.setP R id { p with place := place, at_ := at_ }) (by simpa using hn) h5

/-- The ids below n of those that are asked for. -/
def idsR (R : List One) (own : Int) (any : Bool) (n : Nat) : List Int :=
  ((List.range n).filter fun (i : Nat) => match rpg R (i : Int) with | some p => any || p.owner == own | none => false).map fun (i : Nat) => (i : Int)

theorem idsR_succ (own : Int) (any : Bool) (n : Nat) : idsR R own any (n + 1) = idsR R own any n ++ (if (match rpg R (n : Int) with | some p => any || p.owner == own | none => false) then [(n : Int)] else []) := by
  unfold idsR
  rw [List.range_succ, List.filter_append, List.map_append]
  congr 1
  simp only [List.filter_cons, List.filter_nil]
  generalize (match rpg R (n : Int) with | some p => any || p.owner == own | none => false) = c
  cases c <;> simp
theorem idsR_le (own : Int) (any : Bool) (n : Nat) : (idsR R own any n).length ≤ n := by
  unfold idsR
  rw [List.length_map]
  exact Nat.le_trans (List.length_filter_le _ _) (by simp)

theorem int_push {s : Sl} {q : Nat} {l : List Int} {x : Int} (hn : s.n = l.length) (hb : l.length < 1000000) (h : Sep E (blk q [.int .i64 x] :: rowA s 1 (intL l) :: L) w) {G : Sl → World → Prop}
    (g : ∀ s' w1, s'.n = (l ++ [x]).length → Sep E (rowA s' 1 (intL (l ++ [x])) :: L) w1 → G s' w1) :
    ∃ x1 : Sl, ∃ w1, Sem.run P (Builtin.append_ #[ty_sl_int, ty_sl_int] ty_sl_int #[.slice s.p s.n s.c, .slice (some ⟨q, 0, none⟩) 1 1]) w = .ok (.slice x1.p x1.n x1.c) w1 ∧ G x1 w1 := by
  have hq : slQ P ty_sl_int = some (8, 1, [.int .i64 0]) := by kernel_rfl
  have hs := Src.blk (n := 1) (c := 1) h (i := 0) rfl hq rfl (fun u hu => by
    simp at hu; subst hu; rfl)
  refine rowA.append h.swap hq rfl hs (by omega) (by rw [hn]; omega) (fun s' w1 hs' h1 => g s' w1 (by rw [hs', hn]; simp) ?_)
  have e : intL (l ++ [x]) = intL l ++ [.int .i64 x] := by simp [intL]
  rw [e]
  exact (h1.fr 1 rfl).tail

theorem r_Those (own : Int) (any : Bool) (hb : R.length < 1000000) (h : Sep E (RTab r R :: L) w) : Calls P fn_millpondref14_Table_Those #[.pointer (some ⟨r, 0, none⟩), .int .i64 own, .bool any] w
    (Ret fun v w' => ∃ s : Sl, v = .slice s.p s.n s.c ∧ s.n = (idsR R own any R.length).length ∧ Sep E (rowA s 1 (intL (idsR R own any R.length)) :: RTab r R :: L) w') := by
  apply of_millpondref14_Table_Those
  unfold sh_millpondref14_Table_Those
  refine ⟨fun s i w => (0 ≤ i ∧ i ≤ R.length) ∧ s.n = (idsR R own any i.toNat).length ∧ Sep E (rowA s 1 (intL (idsR R own any i.toNat)) :: RTab r R :: L) w, fun _ i _ => (R.length - i).toNat, ⟨⟨by omega, by omega⟩, rfl, rowA.none_ h⟩, ?_⟩
  rintro _ s i w2 ⟨⟨hi0, hi1⟩, hs, h2⟩
  obtain ⟨t, hn, h3⟩ := RTab.open h2.swap
  refine ⟨_, rfl, t, (h3.cell _).trans rfl, bLt (fun hlt => ?_) (fun hge => ?_)⟩
  · refine use (r_Has i h2.swap) ?_
    rintro _ w4 ⟨rfl, rfl⟩
    have hle := idsR_le (R := R) own any i.toNat
    have e1 : (IntKind.i64.wrap (i + 1)) = i + 1 := w64 (by omega) (by omega)
    have e2 : (i + 1).toNat = i.toNat + 1 := by omega
    have e3 : ((i.toNat : Nat) : Int) = i := by omega
    have no : (match rpg R i with | some p => any || p.owner == own | none => false) = false → ((0 ≤ IntKind.i64.wrap (i + 1) ∧ IntKind.i64.wrap (i + 1) ≤ R.length) ∧ s.n = (idsR R own any (IntKind.i64.wrap (i + 1)).toNat).length ∧ Sep E (rowA s 1 (intL (idsR R own any (IntKind.i64.wrap (i + 1)).toNat)) :: RTab r R :: L) w4) ∧ (R.length - IntKind.i64.wrap (i + 1)).toNat < (R.length - i).toNat := by
      intro hf
      have e4 : idsR R own any (i.toNat + 1) = idsR R own any i.toNat := by rw [idsR_succ, e3, hf]; simp
      rw [e1, e2, e4]
      exact ⟨⟨⟨by omega, by omega⟩, hs, h2⟩, by omega⟩
    have yes : (match rpg R i with | some p => any || p.owner == own | none => false) = true → Al (.cells #[.int .i64 i] 3) (fun p12 w13 => ∃ x15 : Sl, ∃ w14, Sem.run P (Builtin.append_ #[ty_sl_int, ty_sl_int] ty_sl_int #[.slice s.p s.n s.c, .slice (some p12) 1 1]) w13 = .ok (.slice x15.p x15.n x15.c) w14 ∧
        (((0 ≤ IntKind.i64.wrap (i + 1) ∧ IntKind.i64.wrap (i + 1) ≤ R.length) ∧ x15.n = (idsR R own any (IntKind.i64.wrap (i + 1)).toNat).length ∧ Sep E (rowA x15 1 (intL (idsR R own any (IntKind.i64.wrap (i + 1)).toNat)) :: RTab r R :: L) w14) ∧ (R.length - IntKind.i64.wrap (i + 1)).toNat < (R.length - i).toNat)) w4 := by
      intro ht
      have e4 : idsR R own any (i.toNat + 1) = idsR R own any i.toNat ++ [i] := by rw [idsR_succ, e3, ht]; simp
      refine Al.i h2 (fun q w5 h5 => int_push hs (by omega) h5 (fun s' w6 hs' h6 => ?_))
      rw [e1, e2, e4]
      exact ⟨⟨⟨by omega, by omega⟩, hs', h6⟩, by omega⟩
    cases hp : rpg R i with
    | none =>
      rw [hp] at no
      exact ⟨_, rfl, bifF (no rfl)⟩
    | some p =>
      rw [hp] at no yes
      refine ⟨_, rfl, bifT (bifI (fun ha => ?_) (fun ha => ?_))⟩
      · exact yes (by rw [ha]; rfl)
      · refine ⟨_, rfl, t, (h3.cell _).trans rfl, r_fld hn hp (q := 1) h3 rfl (fun b hb' hc => ?_)⟩
        refine ⟨p.owner, by rw [add_mk, add_mk]; exact (hc 4 (by omega)).trans rfl, bEq (fun e => ?_) (fun e => ?_)⟩
        · exact yes (by rw [ha]; simp [e])
        · exact no (by rw [ha]; simp [e])
  · have : i.toNat = R.length := by omega
    rw [this] at h2 hs
    exact ⟨s, rfl, hs, h2⟩

end Go.Mp
