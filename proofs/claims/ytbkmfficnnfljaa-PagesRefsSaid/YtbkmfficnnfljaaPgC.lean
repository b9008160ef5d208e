/- What each function of pages does. -/
import Derived.Test.YtbkmfficnnfljaaPgK
set_option maxRecDepth 100000
namespace Go.Mp
open Go Go.Vc Go.Sp

/-- A page. -/
structure Pg where
  kf : Int
  ki : Int
  place : Int
  at_ : Int
  owner : Int
  refs : Int
  gen : Int
  hot : Bool
  dirty : Bool

def Pg.vs (p : Pg) : List Value := [.int .i64 p.kf, .int .i64 p.ki, .int .i64 p.place, .int .i64 p.at_, .int .i64 p.owner, .int .i64 p.refs, .int .i64 p.gen, .bool p.hot, .bool p.dirty]
def Pg.zero : Pg := ⟨0, 0, 0, 0, 0, 0, 0, false, false⟩

abbrev encI : Int → Value := Value.int .i64
def encK (k : Int × Int) : Value := .agg #[.int .i64 k.1, .int .i64 k.2]

theorem encK_inj (a b : Int × Int) (h : encK a = encK b) : a = b := by
  obtain ⟨a1, a2⟩ := a; obtain ⟨b1, b2⟩ := b
  simpa [encK] using h

theorem K_int : KeyOf P ty_int encI := KeyOf.int (by kernel_rfl)
theorem K_key : KeyOf P ty_api_Key encK := KeyOf.agg (d := 3) (l := [.int .i64, .int .i64]) encK_inj (by kernel_rfl) (by decide) (by kernel_rfl) (fun k => by
  unfold Typed; rw [show aggQ P ty_api_Key = some true by kernel_rfl]
  exact ⟨_, rfl, ⟨_, rfl⟩, ⟨_, rfl⟩, trivial⟩)
theorem K_spot : KeyOf P ty_pages_spot encK := KeyOf.agg (d := 3) (l := [.int .i64, .int .i64]) encK_inj (by kernel_rfl) (by decide) (by kernel_rfl) (fun k => by
  unfold Typed; rw [show aggQ P ty_pages_spot = some true by kernel_rfl]
  exact ⟨_, rfl, ⟨_, rfl⟩, ⟨_, rfl⟩, trivial⟩)

/-- All pages, as the code has them. -/
structure TS where
  pg : Int → Option Pg
  files : Int × Int → Option Int
  spots : Int × Int → Option Int
  next : Int

def TS.zero : TS := ⟨fun _ => none, fun _ => none, fun _ => none, 0⟩

/-- Where a page's cells lie. -/
def pgF (S : TS) (a : Int → Nat) : Int → Asn := fun id => match S.pg id with
  | some p => blk (a id) p.vs
  | none => emp
def ptrF (S : TS) (a : Int → Nat) : Int → Option Value := fun id => (S.pg id).map fun _ => .pointer (some ⟨a id, 0, none⟩)

def TabL (t mp mf ms : Nat) (a : Int → Nat) (S : TS) : List Asn :=
  [blk t [.map (some mp), .map (some mf), .map (some ms), .int .i64 S.next], mapF mp encI (ptrF S a), mapF mf encK (fun k => (S.files k).map encI), mapF ms encK (fun k => (S.spots k).map encI), famA (pgF S a)]

def Tab (t : Nat) (S : TS) : Asn := exA fun mp : Nat => exA fun mf : Nat => exA fun ms : Nat => exA fun a : Int → Nat => starL (TabL t mp mf ms a S)

variable {E : Env} {L : List Asn} {w : World}

theorem Tab.open {t : Nat} {S : TS} (h : Sep E (Tab t S :: L) w) : ∃ mp mf ms a, Sep E (blk t [.map (some mp), .map (some mf), .map (some ms), .int .i64 S.next] :: mapF mp encI (ptrF S a) ::
    mapF mf encK (fun k => (S.files k).map encI) :: mapF ms encK (fun k => (S.spots k).map encI) :: famA (pgF S a) :: L) w := by
  obtain ⟨mp, h⟩ := Sep.ex.1 h
  obtain ⟨mf, h⟩ := Sep.ex.1 h
  obtain ⟨ms, h⟩ := Sep.ex.1 h
  obtain ⟨a, h⟩ := Sep.ex.1 h
  exact ⟨mp, mf, ms, a, Sep.starL.1 h⟩
theorem Tab.shut {t mp mf ms : Nat} {a : Int → Nat} {S : TS} (h : Sep E (blk t [.map (some mp), .map (some mf), .map (some ms), .int .i64 S.next] :: mapF mp encI (ptrF S a) ::
    mapF mf encK (fun k => (S.files k).map encI) :: mapF ms encK (fun k => (S.spots k).map encI) :: famA (pgF S a) :: L) w) : Sep E (Tab t S :: L) w :=
  Sep.ex.2 ⟨mp, Sep.ex.2 ⟨mf, Sep.ex.2 ⟨ms, Sep.ex.2 ⟨a, Sep.starL.2 h⟩⟩⟩⟩

theorem bT {b : Bool} {A B : Prop} (h : b = true) (k : A) : bif b then A else B := by subst h; exact k
theorem bF {b : Bool} {A B : Prop} (h : b = false) (k : B) : bif b then A else B := by subst h; exact k
theorem bLt {n i : Int} {A B : Prop} (h1 : n < i → A) (h2 : i ≤ n → B) : bif decide (n < i) then A else B :=
  bifI (fun h => h1 (by simpa using h)) (fun h => h2 (by simpa using h))
theorem bGe {n i : Int} {A B : Prop} (h1 : i ≤ n → A) (h2 : n < i → B) : bif decide (n ≥ i) then A else B :=
  bifI (fun h => h1 (by simpa using h)) (fun h => h2 (by simpa using h))
theorem bGt {n i : Int} {A B : Prop} (h1 : i < n → A) (h2 : n ≤ i → B) : bif decide (n > i) then A else B :=
  bifI (fun h => h1 (by simpa using h)) (fun h => h2 (by simpa using h))
theorem bNe {n i : Int} {A B : Prop} (h1 : n ≠ i → A) (h2 : n = i → B) : bif (n != i) then A else B :=
  bifI (fun h => h1 (by simpa using h)) (fun h => h2 (by simpa using h))
theorem bEq {n i : Int} {A B : Prop} (h1 : n = i → A) (h2 : n ≠ i → B) : bif (n == i) then A else B :=
  bifI (fun h => h1 (by simpa using h)) (fun h => h2 (by simpa using h))

/-! ### what each does, plainly -/

def TS.of (S : TS) (k : Int × Int) : Int := (S.files k).getD (-1)
def TS.at_ (S : TS) (k : Int × Int) : Int := (S.spots k).getD (-1)
def TS.new_ (S : TS) (kf ki o : Int) : TS := { S with pg := upd S.pg S.next (some ⟨kf, ki, 0, 0, o, 0, 0, false, false⟩), next := IntKind.i64.wrap (S.next + 1) }
def TS.make (S : TS) (kf ki o : Int) : TS × Int × Int :=
  if kf < 0 then (S.new_ (-1) S.next o, S.next, 0)
  else if S.of (kf, ki) ≥ 0 then (S, -1, 4)
  else ({ S with files := upd S.files (kf, ki) (some S.next) }.new_ kf ki o, S.next, 0)
def TS.get (S : TS) (id : Int) : Pg × Int := match S.pg id with
  | some p => (p, 0)
  | none => (Pg.zero, 2)
def TS.setPg (S : TS) (id : Int) (p : Pg) : TS := { S with pg := upd S.pg id (some p) }
def TS.put (S : TS) (id place at_ : Int) : TS × Int := match S.pg id with
  | none => (S, 2)
  | some p =>
    if place < 0 ∨ 2 < place ∨ at_ < 0 ∨ (place = 0 ∧ at_ ≠ 0) then (S, 1)
    else if 0 ≤ S.at_ (place, at_) ∧ S.at_ (place, at_) ≠ id then (S, 4)
    else ({ pg := upd S.pg id (some { p with place := place, at_ := at_ }), files := S.files, spots := if place ≠ 0 then upd (upd S.spots (p.place, p.at_) none) (place, at_) (some id) else upd S.spots (p.place, p.at_) none, next := S.next }, 0)
def TS.refer (S : TS) (id n : Int) : TS × Int × Int := match S.pg id with
  | none => (S, 0, 2)
  | some p => if n < -1000 ∨ 1000 < n ∨ IntKind.i64.wrap (p.refs + n) < 0 then (S, 0, 1) else (S.setPg id { p with refs := IntKind.i64.wrap (p.refs + n) }, IntKind.i64.wrap (p.refs + n), 0)
def TS.drop (S : TS) (id : Int) : TS × Int := match S.pg id with
  | none => (S, 2)
  | some p => if 0 < p.refs ∨ p.place ≠ 0 then (S, 4) else ({ S with pg := upd S.pg id none, files := upd S.files (p.kf, p.ki) none }, 0)
def TS.own (S : TS) (id o : Int) : TS × Int := match S.pg id with
  | none => (S, 2)
  | some p => (S.setPg id { p with owner := o }, 0)
def TS.mark (S : TS) (id : Int) (d : Bool) : TS × Int := match S.pg id with
  | none => (S, 2)
  | some p => (S.setPg id { p with dirty := d }, 0)

theorem c_New (h : Sep E L w) : Calls P fn_pages_New #[] w (Ret fun v w' => ∃ t, v = .pointer (some ⟨t, 0, none⟩) ∧ Sep E (Tab t TS.zero :: L) w') := by
  apply of_pages_New
  unfold sh_pages_New
  refine mapF.new (enc := encI) h (fun mp w1 h1 => mapF.new (enc := encK) h1 (fun mf w2 h2 => mapF.new (enc := encK) h2 (fun ms w3 h3 => Al.i h3 (fun t w4 h4 => ?_))))
  refine ⟨t, rfl, Tab.shut (mp := mp) (mf := mf) (ms := ms) (a := fun _ => 0) ?_⟩
  have h5 : Sep E (famA (pgF TS.zero fun _ => 0) :: _) w4 := famA.nil h4 (fun i => rfl)
  exact h5.ro 5 [1, 4, 3, 2, 0] rfl

theorem look_int {κ : Type} {enc : κ → Value} {b : Nat} {t kt : TypeId} {g : κ → Option Int} (i : Nat) (h : Sep E L w) (hi : L[i]? = some (mapF b enc (fun k => (g k).map encI))) (K : KeyOf P kt enc) (hq : mQ P t = some (kt, .int .i64 0)) (k : κ) :
    LookV P t (.map (some b)) (enc k) true w (.tuple #[.int .i64 ((g k).getD 0), .bool (g k).isSome]) := by
  have := LookV.i true i h hi K hq k
  cases hg : g k with
  | none => simpa [hg] using this
  | some v => simpa [hg] using this
theorem look_ptr {b : Nat} {S : TS} {a : Int → Nat} (i : Nat) (h : Sep E L w) (hi : L[i]? = some (mapF b encI (ptrF S a))) (k : Int) :
    LookV P ty_map_int_ptr_api_Page (.map (some b)) (.int .i64 k) false w (.pointer ((S.pg k).map fun _ => ⟨a k, 0, none⟩)) := by
  have := LookV.i false i h hi K_int (t := ty_map_int_ptr_api_Page) (z := .pointer none) (by kernel_rfl) k
  unfold ptrF at this
  cases hg : S.pg k with
  | none => simpa [hg] using this
  | some v => simpa [hg] using this

theorem c_Of {t : Nat} {S : TS} (k : Int × Int) (h : Sep E (Tab t S :: L) w) : Calls P fn_pages_Table_Of #[.pointer (some ⟨t, 0, none⟩), encK k] w (Ret fun v w' => v = .int .i64 (S.of k) ∧ Sep E (Tab t S :: L) w') := by
  obtain ⟨mp, mf, ms, a, h⟩ := Tab.open h
  apply of_pages_Table_Of
  unfold sh_pages_Table_Of
  refine Al.i h (fun p w1 h1 => Dr.i h1 (fun w2 h2 => ?_))
  have hs := Tab.shut (h2.tail)
  refine ⟨_, rfl, some mf, by rw [add_mk]; exact (h2.cellAt 1 rfl _).trans rfl, k.1, (h2.cellAt 0 rfl _).trans rfl, k.2, by rw [add_mk]; exact (h2.cellAt 0 rfl _).trans rfl, _, _, look_int 3 h2 rfl K_key (by kernel_rfl) k, ?_⟩
  unfold TS.of
  cases hg : S.files k with
  | none => exact bifF ⟨rfl, hs⟩
  | some v => exact bifT ⟨rfl, hs⟩

theorem c_At {t : Nat} {S : TS} (place at_ : Int) (h : Sep E (Tab t S :: L) w) : Calls P fn_pages_Table_At #[.pointer (some ⟨t, 0, none⟩), .int .i64 place, .int .i64 at_] w (Ret fun v w' => w' = w ∧ v = .int .i64 (S.at_ (place, at_))) := by
  obtain ⟨mp, mf, ms, a, h⟩ := Tab.open h
  apply of_pages_Table_At
  unfold sh_pages_Table_At
  refine ⟨_, rfl, some ms, by rw [add_mk]; exact (h.cellAt 0 rfl _).trans rfl, _, _, look_int 3 h rfl K_spot (by kernel_rfl) (place, at_), ?_⟩
  unfold TS.at_
  cases hg : S.spots (place, at_) with
  | none => exact bifF ⟨rfl, rfl⟩
  | some v => exact bifT ⟨rfl, rfl⟩

theorem pgF_upd {S : TS} {a : Int → Nat} {id : Int} {p : Pg} {S' : TS} (hS : S'.pg = upd S.pg id (some p)) (b : Nat) (hb : ∀ j, j ≠ id → S.pg j ≠ none → (fun j => if j = id then b else a j) j = a j) : pgF S' (fun j => if j = id then b else a j) = setA (pgF S a) id (blk b p.vs) := by
  have _ := hb
  funext j
  unfold pgF setA
  rw [hS]; unfold upd
  by_cases h : j = id
  · simp [h]
  · simp [h]
theorem ptrF_upd {S : TS} {a : Int → Nat} {id : Int} {p : Pg} {S' : TS} (hS : S'.pg = upd S.pg id (some p)) (b : Nat) : ptrF S' (fun j => if j = id then b else a j) = upd (ptrF S a) id (some (.pointer (some ⟨b, 0, none⟩))) := by
  funext j
  unfold ptrF upd
  rw [hS]; unfold upd
  by_cases h : j = id
  · simp [h]
  · simp [h]
/-- A page that is there has other fields now. -/
theorem pgF_set {S : TS} {a : Int → Nat} {id : Int} {p : Pg} {S' : TS} (hS : S'.pg = upd S.pg id (some p)) : pgF S' a = setA (pgF S a) id (blk (a id) p.vs) := by
  funext j
  unfold pgF setA
  rw [hS]; unfold upd
  by_cases h : j = id
  · simp [h]
  · simp [h]
theorem ptrF_set {S : TS} {a : Int → Nat} {id : Int} {p q : Pg} {S' : TS} (hS : S'.pg = upd S.pg id (some p)) (hq : S.pg id = some q) : ptrF S' a = ptrF S a := by
  funext j
  unfold ptrF
  rw [hS]; unfold upd
  by_cases h : j = id
  · simp [h, hq]
  · simp [h]
theorem pgF_at {S : TS} {a : Int → Nat} {id : Int} {p : Pg} (h : S.pg id = some p) : pgF S a id = blk (a id) p.vs := by unfold pgF; rw [h]

theorem c_Get {t : Nat} {S : TS} (id : Int) (h : Sep E (Tab t S :: L) w) : Calls P fn_pages_Table_Get #[.pointer (some ⟨t, 0, none⟩), .int .i64 id] w (Ret fun v w' => v = .tuple #[.agg (S.get id).1.vs.toArray, .int .i64 (S.get id).2] ∧ Sep E (Tab t S :: L) w') := by
  obtain ⟨mp, mf, ms, a, h⟩ := Tab.open h
  apply of_pages_Table_Get
  unfold sh_pages_Table_Get
  refine Al.i h (fun r w1 h1 => ?_)
  refine ⟨_, rfl, some mp, by rw [add_mk]; exact (h1.cellAt 1 rfl _).trans rfl, _, look_ptr 2 h1 rfl id, ?_⟩
  have fin : ∀ {w2 : World} (p : Pg), Sep E (blk r p.vs :: Tab t S :: L) w2 → ∀ (j : Nat) (v : Value), p.vs[j]? = some v → w2.cell? (Addr.add ⟨r, 0, none⟩ j) = some v := by
    intro w2 p h2 j v hv
    rw [add_mk, h2.cell, Nat.zero_add]; exact hv
  unfold TS.get
  cases hg : S.pg id with
  | none =>
    refine bifF (StN.i (h1.ro 6 [0, 1, 2, 3, 4, 5] rfl) (by decide) (fun w2 h2 => ?_))
    have h3 : Sep E (Tab t S :: L) w2 := Tab.shut h2.tail
    have f := fin Pg.zero (w2 := w2) ((Tab.shut (L := blk r Pg.zero.vs :: L) (h2.ro 6 [1, 2, 3, 4, 5, 0] rfl)).swap)
    exact ⟨_, f 0 _ rfl, _, f 1 _ rfl, _, f 2 _ rfl, _, f 3 _ rfl, _, f 4 _ rfl, _, f 5 _ rfl, _, f 6 _ rfl, _, f 7 _ rfl, _, f 8 _ rfl, rfl, h3⟩
  | some p =>
    have h4 := famA.out (h1.fr 5 rfl) id
    rw [pgF_at hg] at h4
    have ld : ∀ (j : Nat) (v : Value), p.vs[j]? = some v → w1.cell? (Addr.add ⟨a id, 0, none⟩ j) = some v := by
      intro j v hv
      rw [add_mk, h4.cell, Nat.zero_add]; exact hv
    refine bifT ⟨_, rfl, _, ld 0 _ rfl, _, ld 1 _ rfl, _, ld 2 _ rfl, _, ld 3 _ rfl, _, ld 4 _ rfl, _, ld 5 _ rfl, _, ld 6 _ rfl, _, ld 7 _ rfl, _, ld 8 _ rfl, ?_⟩
    refine StN.i (h1.ro 6 [0, 1, 2, 3, 4, 5] rfl) (Nat.le_refl 9) (fun w2 h2 => ?_)
    have h3 : Sep E (Tab t S :: L) w2 := Tab.shut h2.tail
    have f := fin p (w2 := w2) ((Tab.shut (L := blk r p.vs :: L) (h2.ro 6 [1, 2, 3, 4, 5, 0] rfl)).swap)
    exact ⟨_, f 0 _ rfl, _, f 1 _ rfl, _, f 2 _ rfl, _, f 3 _ rfl, _, f 4 _ rfl, _, f 5 _ rfl, _, f 6 _ rfl, _, f 7 _ rfl, _, f 8 _ rfl, rfl, h3⟩

theorem new_end {t mp mf ms q p : Nat} {a : Int → Nat} {S : TS} {kf ki o : Int} {pc : List Value} (hfree : S.pg S.next = none)
    (h : Sep E (mapF mp encI (upd (ptrF S a) S.next (some (.pointer (some ⟨q, 0, none⟩)))) :: blk q [.int .i64 kf, .int .i64 ki, .int .i64 0, .int .i64 0, .int .i64 o, .int .i64 0, .int .i64 0, .bool false, .bool false] ::
      blk t [.map (some mp), .map (some mf), .map (some ms), .int .i64 (IntKind.i64.wrap (S.next + 1))] :: blk p pc :: mapF mf encK (fun k => (S.files k).map encI) :: mapF ms encK (fun k => (S.spots k).map encI) :: famA (pgF S a) :: L) w) :
    Sep E (Tab t (S.new_ kf ki o) :: L) w := by
  have h1 := h.ro 7 [1, 6, 2, 0, 4, 5, 3] rfl
  have h2 := famA.in_ (i := S.next) h1 (by unfold pgF; rw [hfree])
  have e1 := pgF_upd (S := S) (a := a) (id := S.next) (p := ⟨kf, ki, 0, 0, o, 0, 0, false, false⟩) (S' := S.new_ kf ki o) rfl q (fun j hj _ => by simp [hj])
  have e2 := ptrF_upd (S := S) (a := a) (id := S.next) (p := ⟨kf, ki, 0, 0, o, 0, 0, false, false⟩) (S' := S.new_ kf ki o) rfl q
  have e3 : setA (pgF S a) S.next (blk q [.int .i64 kf, .int .i64 ki, .int .i64 0, .int .i64 0, .int .i64 o, .int .i64 0, .int .i64 0, .bool false, .bool false]) = pgF (S.new_ kf ki o) (fun j => if j = S.next then q else a j) := e1.symm
  rw [e3, ← e2] at h2
  have h3 := (h2.fr 5 rfl).tail
  exact Tab.shut (S := S.new_ kf ki o) (h3.ro 5 [1, 2, 3, 4, 0] rfl)

theorem c_Make {t : Nat} {S : TS} (kf ki o : Int) (hfree : S.pg S.next = none) (h : Sep E (Tab t S :: L) w) : Calls P fn_pages_Table_Make #[.pointer (some ⟨t, 0, none⟩), encK (kf, ki), .int .i64 o] w
    (Ret fun v w' => v = .tuple #[.int .i64 (S.make kf ki o).2.1, .int .i64 (S.make kf ki o).2.2] ∧ Sep E (Tab t (S.make kf ki o).1 :: L) w') := by
  obtain ⟨mp, mf, ms, a, h⟩ := Tab.open h
  apply of_pages_Table_Make
  unfold sh_pages_Table_Make
  refine Al.i h (fun p w1 h1 => ?_)
  refine ⟨_, rfl, S.next, by rw [add_mk]; exact (h1.cellAt 1 rfl _).trans rfl, kf, (h1.cellAt 0 rfl _).trans rfl, ?_⟩
  unfold TS.make
  refine bLt (fun hk => ?_) (fun hk => ?_)
  · rw [if_pos hk]
    refine StN.i h1 (Nat.le_refl 2) (fun w2 h2 => ?_)
    refine ⟨_, rfl, S.next, by rw [add_mk]; exact (h2.cellAt 1 rfl _).trans rfl, _, rfl, ?_⟩
    rw [add_mk]
    refine St.i h2.swap (show 3 < 4 by decide) (fun w3 h3 => Dr.i h3 (fun w4 h4 => ?_))
    refine ⟨_, rfl, some mp, by rw [add_mk]; exact (h4.cellAt 0 rfl _).trans rfl, -1, (h4.cellAt 1 rfl _).trans rfl, S.next, by rw [add_mk]; exact (h4.cellAt 1 rfl _).trans rfl, ?_⟩
    refine Al.i h4 (fun q w5 h5 => ?_)
    refine ⟨some mp, by rw [add_mk]; exact (h5.cellAt 1 rfl _).trans rfl, rfl, ?_⟩
    refine mapUpdate.i (h5.ro 7 [3, 0, 1, 2, 4, 5, 6] rfl) K_int (z := .pointer none) (by kernel_rfl) S.next _ (fun w6 h6 => ⟨rfl, ?_⟩)
    exact new_end hfree h6
  · rw [if_neg (by omega)]
    refine ⟨kf, (h1.cellAt 0 rfl _).trans rfl, ki, by rw [add_mk]; exact (h1.cellAt 0 rfl _).trans rfl, ?_⟩
    refine use (c_Of (L := blk p [.int .i64 kf, .int .i64 ki] :: L) (S := S) (t := t) (kf, ki) (Tab.shut (h1.ro 6 [1, 2, 3, 4, 5, 0] rfl))) ?_
    rintro _ w2 ⟨rfl, h2⟩
    refine ⟨_, rfl, bGe (fun hge => ?_) (fun hlt => ?_)⟩
    · rw [if_pos hge]; exact ⟨rfl, (h2.fr 1 rfl).tail⟩
    · rw [if_neg (by omega)]
      obtain ⟨mp, mf, ms, a, h2⟩ := Tab.open h2
      refine Dr.i h2 (fun w3 h3 => ?_)
      refine ⟨_, rfl, some mf, by rw [add_mk]; exact (h3.cellAt 0 rfl _).trans rfl, kf, (h3.cellAt 5 rfl _).trans rfl, ki, by rw [add_mk]; exact (h3.cellAt 5 rfl _).trans rfl, ?_⟩
      refine mapUpdate.i (h3.ro 6 [2, 0, 1, 3, 4, 5] rfl) K_key (z := .int .i64 0) (by kernel_rfl) (kf, ki) _ (fun w4 h4 => ?_)
      refine ⟨_, rfl, S.next, by rw [add_mk]; exact (h4.cellAt 1 rfl _).trans rfl, _, rfl, ?_⟩
      rw [add_mk]
      refine St.i h4.swap (show 3 < 4 by decide) (fun w5 h5 => Dr.i h5 (fun w6 h6 => ?_))
      refine ⟨_, rfl, some mp, by rw [add_mk]; exact (h6.cellAt 0 rfl _).trans rfl, kf, (h6.cellAt 5 rfl _).trans rfl, ki, by rw [add_mk]; exact (h6.cellAt 5 rfl _).trans rfl, ?_⟩
      refine Al.i h6 (fun q w7 h7 => ?_)
      refine ⟨some mp, by rw [add_mk]; exact (h7.cellAt 1 rfl _).trans rfl, rfl, ?_⟩
      refine mapUpdate.i (h7.ro 7 [3, 0, 1, 6, 2, 4, 5] rfl) K_int (z := .pointer none) (by kernel_rfl) S.next _ (fun w8 h8 => ⟨rfl, ?_⟩)
      have e : (upd (fun k => (S.files k).map encI) (kf, ki) (some (.int .i64 S.next))) = fun k => (upd S.files (kf, ki) (some S.next) k).map encI := by
        funext k; unfold upd; split <;> rfl
      rw [e] at h8
      exact new_end (S := { S with files := upd S.files (kf, ki) (some S.next) }) hfree h8

/-- A page's block, out of the table. -/
theorem Tab.page {mp : Nat} {a : Int → Nat} {S : TS} {id : Int} {p : Pg} {A B C D : Asn} (hg : S.pg id = some p) (h : Sep E (A :: B :: C :: D :: famA (pgF S a) :: L) w) : Sep E (blk (a id) p.vs :: famA (setA (pgF S a) id emp) :: A :: B :: C :: D :: L) w := by
  have _ := mp
  have h1 := famA.out (h.fr 4 rfl) id
  rw [pgF_at hg] at h1
  exact h1

theorem c_Refer {t : Nat} {S : TS} (id n : Int) (h : Sep E (Tab t S :: L) w) : Calls P fn_pages_Table_Refer #[.pointer (some ⟨t, 0, none⟩), .int .i64 id, .int .i64 n] w
    (Ret fun v w' => v = .tuple #[.int .i64 (S.refer id n).2.1, .int .i64 (S.refer id n).2.2] ∧ Sep E (Tab t (S.refer id n).1 :: L) w') := by
  have h0 := h
  obtain ⟨mp, mf, ms, a, h⟩ := Tab.open h
  apply of_pages_Table_Refer
  unfold sh_pages_Table_Refer
  refine ⟨_, rfl, some mp, by rw [add_mk]; exact (h.cellAt 0 rfl _).trans rfl, _, look_ptr 1 h rfl id, ?_⟩
  unfold TS.refer
  cases hg : S.pg id with
  | none => exact bifT ⟨rfl, h0⟩
  | some p =>
    refine bifF (bLt (fun h1 => ?_) (fun h1 => bGt (fun h2 => ?_) (fun h2 => ?_)))
    · dsimp only; rw [if_pos (.inl h1)]; exact ⟨rfl, h0⟩
    · dsimp only; rw [if_pos (.inr (.inl h2))]; exact ⟨rfl, h0⟩
    · have h3 := Tab.page (mp := mp) hg h
      refine ⟨_, rfl, p.refs, by rw [add_mk]; exact (h3.cellAt 0 rfl _).trans rfl, bLt (fun h4 => ?_) (fun h4 => ?_)⟩
      · dsimp only; rw [if_pos (.inr (.inr h4))]; exact ⟨rfl, h0⟩
      · dsimp only; rw [if_neg (by omega)]
        refine ⟨_, rfl, p.refs, by rw [add_mk]; exact (h3.cellAt 0 rfl _).trans rfl, _, rfl, ?_⟩
        refine St.j h3 (show 5 < 9 by decide) (fun w2 h5 => ?_)
        refine ⟨_, rfl, IntKind.i64.wrap (p.refs + n), by rw [add_mk]; exact (h5.cellAt 0 rfl _).trans rfl, rfl, ?_⟩
        have h6 := famA.back h5
        have e : setA (pgF S a) id (blk (a id) (p.vs.set (0 + 5) (.int .i64 (IntKind.i64.wrap (p.refs + n))))) = pgF (S.setPg id { p with refs := IntKind.i64.wrap (p.refs + n) }) a := (pgF_set (S' := S.setPg id { p with refs := IntKind.i64.wrap (p.refs + n) }) rfl).symm
        have e2 : ptrF S a = ptrF (S.setPg id { p with refs := IntKind.i64.wrap (p.refs + n) }) a := (ptrF_set rfl hg).symm
        rw [e, e2] at h6
        exact Tab.shut (S := S.setPg id { p with refs := IntKind.i64.wrap (p.refs + n) }) (h6.ro 5 [1, 2, 3, 4, 0] rfl)

theorem c_Drop {t : Nat} {S : TS} (id : Int) (h : Sep E (Tab t S :: L) w) : Calls P fn_pages_Table_Drop #[.pointer (some ⟨t, 0, none⟩), .int .i64 id] w
    (Ret fun v w' => v = .int .i64 (S.drop id).2 ∧ Sep E (Tab t (S.drop id).1 :: L) w') := by
  have h0 := h
  obtain ⟨mp, mf, ms, a, h⟩ := Tab.open h
  apply of_pages_Table_Drop
  unfold sh_pages_Table_Drop
  refine ⟨_, rfl, some mp, by rw [add_mk]; exact (h.cellAt 0 rfl _).trans rfl, _, look_ptr 1 h rfl id, ?_⟩
  unfold TS.drop
  cases hg : S.pg id with
  | none => exact bifT ⟨rfl, h0⟩
  | some p =>
    have h3 := Tab.page (mp := mp) hg h
    refine bifF ⟨_, rfl, p.refs, by rw [add_mk]; exact (h3.cellAt 0 rfl _).trans rfl, bGt (fun h4 => ?_) (fun h4 => ?_)⟩
    · dsimp only; rw [if_pos (.inl h4)]; exact ⟨rfl, h0⟩
    · refine ⟨_, rfl, p.place, by rw [add_mk]; exact (h3.cellAt 0 rfl _).trans rfl, bNe (fun h5 => ?_) (fun h5 => ?_)⟩
      · dsimp only; rw [if_pos (.inr h5)]; exact ⟨rfl, h0⟩
      · dsimp only; rw [if_neg (by omega)]
        refine Dr.i h3 (fun w1 h6 => ?_)
        refine ⟨_, rfl, some mf, by rw [add_mk]; exact (h6.cellAt 2 rfl _).trans rfl, _, rfl, p.kf, by rw [add_mk, add_mk]; exact (h6.cellAt 0 rfl _).trans rfl, p.ki, by rw [add_mk, add_mk]; exact (h6.cellAt 0 rfl _).trans rfl, ?_⟩
        refine mapDelete.i (h6.ro 6 [4, 0, 1, 2, 3, 5] rfl) K_key (z := .int .i64 0) (by kernel_rfl) (p.kf, p.ki) (fun w2 h7 => ?_)
        refine ⟨_, rfl, some mp, by rw [add_mk]; exact (h7.cellAt 3 rfl _).trans rfl, ?_⟩
        refine mapDelete.i (h7.ro 6 [4, 0, 1, 2, 3, 5] rfl) K_int (z := .pointer none) (by kernel_rfl) id (fun w3 h8 => ⟨rfl, ?_⟩)
        have e1 : upd (ptrF S a) id none = ptrF { S with pg := upd S.pg id none, files := upd S.files (p.kf, p.ki) none } a := by
          funext j; unfold ptrF upd; dsimp only; split <;> rfl
        have e2 : (upd (fun k => (S.files k).map encI) (p.kf, p.ki) none) = fun k => (upd S.files (p.kf, p.ki) none k).map encI := by
          funext k; unfold upd; split <;> rfl
        have e3 : setA (pgF S a) id emp = pgF { S with pg := upd S.pg id none, files := upd S.files (p.kf, p.ki) none } a := by
          funext j; unfold pgF setA upd; dsimp only; split <;> rfl
        rw [e1, e2, e3] at h8
        exact Tab.shut (S := { S with pg := upd S.pg id none, files := upd S.files (p.kf, p.ki) none }) ((h8.fr 2 rfl).tail.ro 5 [3, 0, 1, 4, 2] rfl)

theorem c_change_own {t : Nat} {S : TS} (id o : Int) (b : Nat) (h : Sep E (Tab t S :: blk b [.int .i64 o] :: L) w) : Calls P fn_pages_Table_change #[.pointer (some ⟨t, 0, none⟩), .int .i64 id, .func (.func fn_pages_Table_Own_1) #[] #[.pointer (some ⟨b, 0, none⟩)]] w
    (Ret fun v w' => v = .int .i64 (S.own id o).2 ∧ Sep E (Tab t (S.own id o).1 :: L) w') := by
  have h0 := h
  obtain ⟨mp, mf, ms, a, h⟩ := Tab.open h
  apply of_pages_Table_change
  unfold sh_pages_Table_change
  refine ⟨_, rfl, some mp, by rw [add_mk]; exact (h.cellAt 0 rfl _).trans rfl, _, look_ptr 1 h rfl id, ?_⟩
  unfold TS.own
  cases hg : S.pg id with
  | none => exact bifT ⟨rfl, (h0.fr 1 rfl).tail⟩
  | some p =>
    refine bifF ⟨fn_pages_Table_Own_1, _, rfl, by kernel_rfl, ?_⟩
    have h3 := Tab.page (mp := mp) hg h
    refine use (K := fun v w' => v = .tuple #[] ∧ Sep E (Tab t (S.setPg id { p with owner := o }) :: L) w') (of_pages_Table_Own_1 (some ⟨a id, 0, none⟩) ⟨b, 0, none⟩ ?_) ?_
    · unfold sh_pages_Table_Own_1
      refine ⟨o, (h3.cellAt 6 rfl _).trans rfl, _, rfl, ?_⟩
      refine St.j h3 (show 4 < 9 by decide) (fun w2 h5 => ⟨rfl, ?_⟩)
      have h6 := famA.back h5
      have e : setA (pgF S a) id (blk (a id) (p.vs.set (0 + 4) (.int .i64 o))) = pgF (S.setPg id { p with owner := o }) a := (pgF_set (S' := S.setPg id { p with owner := o }) rfl).symm
      have e2 : ptrF S a = ptrF (S.setPg id { p with owner := o }) a := (ptrF_set rfl hg).symm
      rw [e, e2] at h6
      exact Tab.shut (S := S.setPg id { p with owner := o }) ((h6.fr 5 rfl).tail.ro 5 [1, 2, 3, 4, 0] rfl)
    · rintro v w' ⟨rfl, h4⟩
      exact ⟨rfl, rfl, h4⟩

theorem c_Own {t : Nat} {S : TS} (id o : Int) (h : Sep E (Tab t S :: L) w) : Calls P fn_pages_Table_Own #[.pointer (some ⟨t, 0, none⟩), .int .i64 id, .int .i64 o] w
    (Ret fun v w' => v = .int .i64 (S.own id o).2 ∧ Sep E (Tab t (S.own id o).1 :: L) w') := by
  apply of_pages_Table_Own
  unfold sh_pages_Table_Own
  refine Al.i h (fun b w1 h1 => use (c_change_own id o b h1.swap) ?_)
  rintro v w' ⟨rfl, h2⟩
  exact ⟨_, rfl, rfl, h2⟩

theorem c_change_mark {t : Nat} {S : TS} (id : Int) (o : Bool) (b : Nat) (h : Sep E (Tab t S :: blk b [.bool o] :: L) w) : Calls P fn_pages_Table_change #[.pointer (some ⟨t, 0, none⟩), .int .i64 id, .func (.func fn_pages_Table_Mark_1) #[] #[.pointer (some ⟨b, 0, none⟩)]] w
    (Ret fun v w' => v = .int .i64 (S.mark id o).2 ∧ Sep E (Tab t (S.mark id o).1 :: L) w') := by
  have h0 := h
  obtain ⟨mp, mf, ms, a, h⟩ := Tab.open h
  apply of_pages_Table_change
  unfold sh_pages_Table_change
  refine ⟨_, rfl, some mp, by rw [add_mk]; exact (h.cellAt 0 rfl _).trans rfl, _, look_ptr 1 h rfl id, ?_⟩
  unfold TS.mark
  cases hg : S.pg id with
  | none => exact bifT ⟨rfl, (h0.fr 1 rfl).tail⟩
  | some p =>
    refine bifF ⟨fn_pages_Table_Mark_1, _, rfl, by kernel_rfl, ?_⟩
    have h3 := Tab.page (mp := mp) hg h
    refine use (K := fun v w' => v = .tuple #[] ∧ Sep E (Tab t (S.setPg id { p with dirty := o }) :: L) w') (of_pages_Table_Mark_1 (some ⟨a id, 0, none⟩) ⟨b, 0, none⟩ ?_) ?_
    · unfold sh_pages_Table_Mark_1
      refine ⟨o, (h3.cellAt 6 rfl _).trans rfl, _, rfl, ?_⟩
      refine St.j h3 (show 8 < 9 by decide) (fun w2 h5 => ⟨rfl, ?_⟩)
      have h6 := famA.back h5
      have e : setA (pgF S a) id (blk (a id) (p.vs.set (0 + 8) (.bool o))) = pgF (S.setPg id { p with dirty := o }) a := (pgF_set (S' := S.setPg id { p with dirty := o }) rfl).symm
      have e2 : ptrF S a = ptrF (S.setPg id { p with dirty := o }) a := (ptrF_set rfl hg).symm
      rw [e, e2] at h6
      exact Tab.shut (S := S.setPg id { p with dirty := o }) ((h6.fr 5 rfl).tail.ro 5 [1, 2, 3, 4, 0] rfl)
    · rintro v w' ⟨rfl, h4⟩
      exact ⟨rfl, rfl, h4⟩

theorem c_Mark {t : Nat} {S : TS} (id : Int) (o : Bool) (h : Sep E (Tab t S :: L) w) : Calls P fn_pages_Table_Mark #[.pointer (some ⟨t, 0, none⟩), .int .i64 id, .bool o] w
    (Ret fun v w' => v = .int .i64 (S.mark id o).2 ∧ Sep E (Tab t (S.mark id o).1 :: L) w') := by
  apply of_pages_Table_Mark
  unfold sh_pages_Table_Mark
  refine Al.i h (fun b w1 h1 => use (c_change_mark id o b h1.swap) ?_)
  rintro v w' ⟨rfl, h2⟩
  exact ⟨_, rfl, rfl, h2⟩

theorem upd_encI (g : Int × Int → Option Int) (k : Int × Int) (v : Option Int) : upd (fun k => (g k).map encI) k (v.map encI) = fun x => (upd g k v x).map encI := by
  funext x; unfold upd; split <;> rfl

theorem upd_encN (g : Int × Int → Option Int) (k : Int × Int) : upd (fun k => (g k).map encI) k none = fun x => (upd g k none x).map encI := upd_encI g k none
theorem upd_encS (g : Int × Int → Option Int) (k : Int × Int) (v : Int) : upd (fun k => (g k).map encI) k (some (Value.int .i64 v)) = fun x => (upd g k (some v) x).map encI := upd_encI g k (some v)

theorem c_Put {t : Nat} {S : TS} (id place at_ : Int) (h : Sep E (Tab t S :: L) w) : Calls P fn_pages_Table_Put #[.pointer (some ⟨t, 0, none⟩), .int .i64 id, .int .i64 place, .int .i64 at_] w
    (Ret fun v w' => v = .int .i64 (S.put id place at_).2 ∧ Sep E (Tab t (S.put id place at_).1 :: L) w') := by
  have h0 := h
  obtain ⟨mp, mf, ms, a, h⟩ := Tab.open h
  apply of_pages_Table_Put
  unfold sh_pages_Table_Put
  refine ⟨_, rfl, some mp, by rw [add_mk]; exact (h.cellAt 0 rfl _).trans rfl, _, look_ptr 1 h rfl id, ?_⟩
  unfold TS.put
  cases hg : S.pg id with
  | none => exact bifT ⟨rfl, h0⟩
  | some p =>
    dsimp only
    have bad : ∀ {r : TS × Int}, (place < 0 ∨ 2 < place ∨ at_ < 0 ∨ (place = 0 ∧ at_ ≠ 0)) → (Value.int .i64 1 = .int .i64 (if place < 0 ∨ 2 < place ∨ at_ < 0 ∨ (place = 0 ∧ at_ ≠ 0) then (S, (1 : Int)) else r).2 ∧ Sep E (Tab t (if place < 0 ∨ 2 < place ∨ at_ < 0 ∨ (place = 0 ∧ at_ ≠ 0) then (S, (1 : Int)) else r).1 :: L) w) := by
      intro r hb; rw [if_pos hb]; exact ⟨rfl, h0⟩
    refine bifF (bLt (fun c => bad (.inl c)) (fun c1 => bGt (fun c => bad (.inr (.inl c))) (fun c2 => bLt (fun c => bad (.inr (.inr (.inl c)))) (fun c3 => bEq (fun e => bNe (fun c => bad (.inr (.inr (.inr ⟨e, c⟩)))) (fun e2 => ?_)) (fun e => ?_)))))
    all_goals
      have hno : ¬ (place < 0 ∨ 2 < place ∨ at_ < 0 ∨ (place = 0 ∧ at_ ≠ 0)) := by omega
      rw [if_neg hno]
      refine use (c_At place at_ h0) ?_
      rintro _ w1 ⟨rfl, rfl⟩
      refine ⟨_, rfl, ?_⟩
      refine bGe (fun g1 => bNe (fun g2 => ?_) (fun g2 => ?_)) (fun g1 => ?_)
      · rw [if_pos ⟨g1, g2⟩]; exact ⟨rfl, h0⟩
      all_goals
        rw [if_neg (by omega)]
        have h3 := Tab.page (mp := mp) hg h
        refine Dr.i h3 (fun w2 h4 => ?_)
        refine ⟨_, rfl, some ms, by rw [add_mk]; exact (h4.cellAt 2 rfl _).trans rfl, _, rfl, p.place, by rw [add_mk]; exact (h4.cellAt 0 rfl _).trans rfl, _, rfl, p.at_, by rw [add_mk]; exact (h4.cellAt 0 rfl _).trans rfl, ?_⟩
        refine mapDelete.i (h4.ro 6 [5, 0, 1, 2, 3, 4] rfl) K_spot (z := .int .i64 0) (by kernel_rfl) (p.place, p.at_) (fun w3 h5 => ?_)
        rw [upd_encN S.spots (p.place, p.at_)] at h5
        refine ⟨_, rfl, St.j h5.swap (show 2 < 9 by decide) (fun w4 h6 => ?_)⟩
        refine ⟨_, rfl, St.j h6 (show 3 < 9 by decide) (fun w5 h7 => ?_)⟩
        have h8 := famA.back (h7.ro 6 [0, 2, 1, 3, 4, 5] rfl)
        have fin : ∀ {sp : Int × Int → Option Int} {w6 : World}, Sep E (famA (setA (pgF S a) id (blk (a id) ((p.vs.set (0 + 2) (.int .i64 place)).set (0 + 3) (.int .i64 at_)))) ::
            mapF ms encK (fun k => (sp k).map encI) :: blk t [.map (some mp), .map (some mf), .map (some ms), .int .i64 S.next] :: mapF mp encI (ptrF S a) :: mapF mf encK (fun k => (S.files k).map encI) :: L) w6 →
            Sep E (Tab t { pg := upd S.pg id (some { p with place := place, at_ := at_ }), files := S.files, spots := sp, next := S.next } :: L) w6 := by
          intro sp w6 h9
          have e : setA (pgF S a) id (blk (a id) ((p.vs.set (0 + 2) (.int .i64 place)).set (0 + 3) (.int .i64 at_))) = pgF { pg := upd S.pg id (some { p with place := place, at_ := at_ }), files := S.files, spots := sp, next := S.next } a :=
            (pgF_set (S' := { pg := upd S.pg id (some { p with place := place, at_ := at_ }), files := S.files, spots := sp, next := S.next }) rfl).symm
          have e2 : ptrF S a = ptrF { pg := upd S.pg id (some { p with place := place, at_ := at_ }), files := S.files, spots := sp, next := S.next } a := (ptrF_set rfl hg).symm
          rw [e, e2] at h9
          exact Tab.shut (S := { pg := upd S.pg id (some { p with place := place, at_ := at_ }), files := S.files, spots := sp, next := S.next }) (h9.ro 5 [2, 3, 4, 1, 0] rfl)
        refine bNe (fun hz => ?_) (fun hz => ?_)
        · refine ⟨_, rfl, some ms, by rw [add_mk]; exact (h8.cellAt 2 rfl _).trans rfl, ?_⟩
          refine mapUpdate.i (h8.ro 5 [1, 0, 2, 3, 4] rfl) K_spot (z := .int .i64 0) (by kernel_rfl) (place, at_) _ (fun w6 h9 => ⟨rfl, ?_⟩)
          rw [upd_encS (upd S.spots (p.place, p.at_) none) (place, at_) id] at h9
          rw [if_pos hz]
          exact fin h9.swap
        · rw [if_neg (by simpa using hz)]
          exact ⟨rfl, fin h8⟩

end Go.Mp
