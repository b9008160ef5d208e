/- Acts on pages; the steps that all laws of pages share. -/
import Derived.Test.YtbkmfficnnfljaaPgI
import Derived.Test.YtbkmfficnnfljaaWalk
set_option maxRecDepth 100000
namespace Go.Mp
open Go Go.Vc Go.Sp

/-- An act. -/
structure Act where
  k : Int
  id : Int
  kf : Int
  ki : Int
  place : Int
  n : Int

def Act.vs (a : Act) : List Value := [.int .i64 a.k, .int .i64 a.id, .int .i64 a.kf, .int .i64 a.ki, .int .i64 a.place, .int .i64 a.n]

def TS.act (S : TS) (a : Act) : TS × Int × Int :=
  if a.k.tmod 6 = 0 then S.make a.kf a.ki a.n
  else if a.k.tmod 6 = 1 then ((S.put a.id a.place a.n).1, 0, (S.put a.id a.place a.n).2)
  else if a.k.tmod 6 = 2 then S.refer a.id a.n
  else if a.k.tmod 6 = 3 then ((S.drop a.id).1, 0, (S.drop a.id).2)
  else if a.k.tmod 6 = 4 then ((S.own a.id a.n).1, 0, (S.own a.id a.n).2)
  else ((S.mark a.id (decide (a.n > 0))).1, 0, (S.mark a.id (decide (a.n > 0))).2)

def RS.act (R : List One) (a : Act) (v o : Int) : List One × Int × Int :=
  if a.k.tmod 6 = 0 then RS.make R a.kf a.ki a.n v
  else if a.k.tmod 6 = 1 then ((RS.put R a.id a.place a.n o).1, 0, (RS.put R a.id a.place a.n o).2)
  else if a.k.tmod 6 = 2 then RS.refer R a.id a.n
  else if a.k.tmod 6 = 3 then ((RS.drop R a.id).1, 0, (RS.drop R a.id).2)
  else if a.k.tmod 6 = 4 then ((RS.own R a.id a.n).1, 0, (RS.own R a.id a.n).2)
  else ((RS.mark R a.id (decide (a.n > 0))).1, 0, (RS.mark R a.id (decide (a.n > 0))).2)

theorem ofSpec_ex (R : List One) (k : Int × Int) : ∃ v, RS.ofSpec R k v := by
  by_cases h : 0 ≤ k.1 ∧ ∃ id p, rpg R id = some p ∧ (p.kf, p.ki) = k
  · obtain ⟨h1, id, h2⟩ := h
    exact ⟨id, .inl ⟨h1, h2⟩⟩
  · exact ⟨-1, .inr ⟨rfl, fun h1 id p hp e => h ⟨h1, id, p, hp, e⟩⟩⟩

theorem pair3 {α β : Type} {a b : α × β} {x : β} {c : Int} (h : a.2 = b.2) (_ : x = a.2) : (a.1, c, a.2).2 = (b.1, c, b.2).2 := by simp [h]

theorem Inv.act {S : TS} {R : List One} (I : Inv S R) (hb : R.length < 1000000) (a : Act) {v o : Int} (hv : RS.ofSpec R (a.kf, a.ki) v) (ho : RS.atSpec R (a.place, a.n) o) :
    (S.act a).2 = (RS.act R a v o).2 ∧ Inv (S.act a).1 (RS.act R a v o).1 := by
  unfold TS.act RS.act
  split
  · exact I.make hb _ _ _ hv
  split
  · have := I.put a.id a.place a.n ho; exact ⟨by simp [this.1], this.2⟩
  split
  · exact I.refer _ _
  split
  · have := I.drop a.id; exact ⟨by simp [this.1], this.2⟩
  split
  · have := I.own_ a.id a.n; exact ⟨by simp [this.1], this.2⟩
  · have := I.mark a.id (decide (a.n > 0)); exact ⟨by simp [this.1], this.2⟩

theorem RS.act_length (R : List One) (a : Act) (v o : Int) : (RS.act R a v o).1.length ≤ R.length + 1 := by
  unfold RS.act RS.make RS.put RS.refer RS.drop RS.own RS.mark
  repeat' split
  all_goals simp

theorem Inv.step {S : TS} {R : List One} (I : Inv S R) (hb : R.length < 1000000) (a : Act) : ∃ R', Inv (S.act a).1 R' ∧ R'.length ≤ R.length + 1 := by
  obtain ⟨v, hv⟩ := ofSpec_ex R (a.kf, a.ki)
  obtain ⟨o, ho⟩ := atSpec_ex R (a.place, a.n)
  exact ⟨_, (I.act hb a hv ho).2, RS.act_length R a v o⟩

variable {E : Env} {L : List Asn} {w : World}

theorem c_do {t : Nat} {S : TS} {R : List One} (I : Inv S R) (a : Act) (h : Sep E (Tab t S :: L) w) :
    Calls P fn_millpondlaw14_do #[.pointer (some ⟨t, 0, none⟩), .agg a.vs.toArray] w (Ret fun v w' => v = .tuple #[.int .i64 (S.act a).2.1, .int .i64 (S.act a).2.2] ∧ Sep E (Tab t (S.act a).1 :: L) w') := by
  apply of_millpondlaw14_do
  unfold sh_millpondlaw14_do
  refine Al.i h (fun p w1 h1 => ?_)
  refine ld h1 0 rfl rfl rfl ⟨by decide, ?_⟩
  have h2 : Sep E (Tab t S :: L) w1 := h1.tail
  unfold TS.act
  refine bEq (fun e => ?_) (fun e => ?_)
  · rw [if_pos e]
    refine ld h1 0 rfl rfl rfl (ld h1 0 rfl rfl rfl (ld h1 0 rfl rfl rfl (use (c_Make _ _ _ I.free h2) ?_)))
    rintro _ w2 ⟨rfl, h3⟩
    exact ⟨_, _, rfl, rfl, h3⟩
  rw [if_neg e]
  refine bEq (fun e => ?_) (fun e => ?_)
  · rw [if_pos e]
    refine ld h1 0 rfl rfl rfl (ld h1 0 rfl rfl rfl (ld h1 0 rfl rfl rfl (use (c_Put _ _ _ h2) ?_)))
    rintro _ w2 ⟨rfl, h3⟩
    exact ⟨_, rfl, rfl, h3⟩
  rw [if_neg e]
  refine bEq (fun e => ?_) (fun e => ?_)
  · rw [if_pos e]
    refine ld h1 0 rfl rfl rfl (ld h1 0 rfl rfl rfl (use (c_Refer _ _ h2) ?_))
    rintro _ w2 ⟨rfl, h3⟩
    exact ⟨_, _, rfl, rfl, h3⟩
  rw [if_neg e]
  refine bEq (fun e => ?_) (fun e => ?_)
  · rw [if_pos e]
    refine ld h1 0 rfl rfl rfl (use (c_Drop _ h2) ?_)
    rintro _ w2 ⟨rfl, h3⟩
    exact ⟨_, rfl, rfl, h3⟩
  rw [if_neg e]
  refine bEq (fun e => ?_) (fun e => ?_)
  · rw [if_pos e]
    refine ld h1 0 rfl rfl rfl (ld h1 0 rfl rfl rfl (use (c_Own _ _ h2) ?_))
    rintro _ w2 ⟨rfl, h3⟩
    exact ⟨_, rfl, rfl, h3⟩
  · rw [if_neg e]
    refine ld h1 0 rfl rfl rfl (ld h1 0 rfl rfl rfl (use (c_Mark _ _ h2) ?_))
    rintro _ w2 ⟨rfl, h3⟩
    exact ⟨_, rfl, rfl, h3⟩

/-- The acts, as they lie. -/
def ActsAt (W : World) (p : Option Addr) (n : Nat) : Prop := ∀ i, i < n → ∃ (a : Addr) (x : Act), p = some a ∧ ∀ j v, x.vs[j]? = some v → W.cell? ((a.add (i * 6)).add j) = some v

theorem acts_rd {W : World} {v : Value} (h : Rd P W ty_sl_millpondlaw14_Act [v]) : ∃ l : Sl, v = .slice l.p l.n l.c ∧ ActsAt W l.p l.n := by
  obtain ⟨p, n, c, rfl, _, _, hi⟩ := h.slice1 (e := ty_millpondlaw14_Act) (by kernel_rfl)
  refine ⟨⟨p, n, c⟩, rfl, fun i hlt => ?_⟩
  obtain ⟨a, es, rfl, hl, hc, hr⟩ := hi i hlt
  have h5 : P.cellsOf ty_millpondlaw14_Act = 6 := by kernel_rfl
  rw [h5] at hc hl
  have hf := hr.leaves 3 (ts := [ty_int, ty_int, ty_int, ty_int, ty_api_Place, ty_int]) (by kernel_rfl)
  match es, hl, hf with
  | [v0, v1, v2, v3, v4, v5], _, ⟨r0, r1, r2, r3, r4, r5, _⟩ =>
  obtain ⟨k, rfl, _⟩ := r0.int1 (k := .i64) (by kernel_rfl)
  obtain ⟨id, rfl, _⟩ := r1.int1 (k := .i64) (by kernel_rfl)
  obtain ⟨kf, rfl, _⟩ := r2.int1 (k := .i64) (by kernel_rfl)
  obtain ⟨ki, rfl, _⟩ := r3.int1 (k := .i64) (by kernel_rfl)
  obtain ⟨pl, rfl, _⟩ := r4.int1 (k := .i64) (by kernel_rfl)
  obtain ⟨nn, rfl, _⟩ := r5.int1 (k := .i64) (by kernel_rfl)
  refine ⟨a, ⟨k, id, kf, ki, pl, nn⟩, rfl, fun j v hj => ?_⟩
  have hj6 : j < 6 := (List.getElem?_eq_some_iff.1 hj).1
  rw [hc j hj6]; exact hj

/-- An act is read where it lies. -/
theorem actIn {W : World} {q : Nat} (h : Sep E L w) (hq : L[q]? = some (old W.heap)) {p : Option Addr} {n : Nat} (hl : ActsAt W p n) {i : Int} (h0 : 0 ≤ i) (h1 : i < n) {F : Int → Int → Int → Int → Int → Int → Prop}
    (k : ∀ x : Act, F x.k x.id x.kf x.ki x.place x.n) :
    elAt p n i 6 fun a => ∃ x0 : Int, w.cell? (a.add 0) = some (.int .i64 x0) ∧ ∃ x1 : Int, w.cell? (a.add 1) = some (.int .i64 x1) ∧ ∃ x2 : Int, w.cell? (a.add 2) = some (.int .i64 x2) ∧ ∃ x3 : Int, w.cell? (a.add 3) = some (.int .i64 x3) ∧
      ∃ x4 : Int, w.cell? (a.add 4) = some (.int .i64 x4) ∧ ∃ x5 : Int, w.cell? (a.add 5) = some (.int .i64 x5) ∧ F x0 x1 x2 x3 x4 x5 := by
  obtain ⟨a, x, hp, hx⟩ := hl i.toNat (by omega)
  exact ⟨a, hp, ⟨h0, h1⟩, ldO h q hq (hx 0 _ rfl) (ldO h q hq (hx 1 _ rfl) (ldO h q hq (hx 2 _ rfl) (ldO h q hq (hx 3 _ rfl) (ldO h q hq (hx 4 _ rfl) (ldO h q hq (hx 5 _ rfl) (k x))))))⟩

/-- All acts are done. -/
theorem runActs {W : World} {l : Sl} {t : Nat} (hl : ActsAt W l.p l.n) (h80 : l.n ≤ 80) (h : Sep E (Tab t TS.zero :: old W.heap :: L) w) {G : Int → World → Prop}
    (k : ∀ i S R w, Inv S R → R.length ≤ l.n → Sep E (Tab t S :: old W.heap :: L) w → G i w) :
    ∃ (I7 : Int → World → Prop) (M8 : Int → World → Nat), I7 0 w ∧ ∀ _u10 : Nat → Value, ∀ i11 : Int, ∀ w9 : World, I7 i11 w9 → bif (decide (i11 < ((l.n : Nat) : Int))) then (elAt l.p l.n i11 6 fun a12 => ∃ x13 : Int, w9.cell? (a12.add 0) =
      some (.int .i64 x13) ∧ ∃ x14 : Int, w9.cell? (a12.add 1) = some (.int .i64 x14) ∧ ∃ x15 : Int, w9.cell? (a12.add 2) = some (.int .i64 x15) ∧ ∃ x16 : Int, w9.cell? (a12.add 3) =
      some (.int .i64 x16) ∧ ∃ x17 : Int, w9.cell? (a12.add 4) = some (.int .i64 x17) ∧ ∃ x18 : Int, w9.cell? (a12.add 5) = some (.int .i64 x18) ∧ Calls P fn_millpondlaw14_do
      #[(.pointer (some ⟨t, 0, none⟩)), (.agg #[(.int .i64 x13), (.int .i64 x14), (.int .i64 x15), (.int .i64 x16), (.int .i64 x17), (.int .i64 x18)])] w9 fun e20 w19 => ∃ x21 : Int, ∃ x22 : Int, e20
      = .returned (.tuple #[(.int .i64 x21), (.int .i64 x22)]) ∧ (I7 (IntKind.i64.wrap (i11 + 1)) w19 ∧ M8 (IntKind.i64.wrap (i11 + 1)) w19 < M8 i11 w9)) else (G i11 w9) := by
  refine ⟨fun i w => (0 ≤ i ∧ i ≤ l.n) ∧ ∃ S R, Inv S R ∧ (R.length : Int) ≤ i ∧ Sep E (Tab t S :: old W.heap :: L) w, fun i _ => (l.n - i).toNat, ⟨⟨by omega, by omega⟩, _, _, Inv.zero, Int.le_refl _, h⟩, ?_⟩
  rintro _ i w1 ⟨⟨h0, h1⟩, S, R, I, hR, h2⟩
  refine bLt (fun hlt => actIn h2 (q := 1) rfl hl h0 hlt (fun x => use (c_do I x h2) ?_)) (fun _ => k i S R w1 I (by omega) h2)
  rintro _ w2 ⟨rfl, h3⟩
  refine ⟨_, _, rfl, ?_⟩
  rw [w64 (by omega) (by omega)]
  obtain ⟨R', I', hR'⟩ := I.step (by omega) x
  exact ⟨⟨⟨by omega, by omega⟩, _, R', I', by omega, h3⟩, by show (l.n - (i + 1)).toNat < (l.n - i).toNat; omega⟩

/-- A page is got, and laid somewhere. -/
theorem got {F : Addr → Int → World → Prop} {t : Nat} {S : TS} (h : Sep E (Tab t S :: L) w) (id : Int) (k : ∀ b w', Sep E (blk b (S.get id).1.vs :: Tab t S :: L) w' → F ⟨b, 0, none⟩ (S.get id).2 w') :
    Calls P fn_pages_Table_Get #[(.pointer (some ⟨t, 0, none⟩)), (.int .i64 id)] w fun e34 w33 => ∃ x35 : Int, ∃ x36 : Int, ∃ x37 : Int, ∃ x38 : Int, ∃ x39 : Int, ∃ x40 :
    Int, ∃ x41 : Int, ∃ x42 : Bool, ∃ x43 : Bool, ∃ x44 : Int, e34 = .returned (.tuple #[(.agg #[(.int .i64 x35), (.int .i64 x36), (.int .i64 x37), (.int .i64 x38), (.int .i64 x39),
    (.int .i64 x40), (.int .i64 x41), (.bool x42), (.bool x43)]), (.int .i64 x44)]) ∧ Al (.cells #[(.int .i64 0), (.int .i64 0), (.int .i64 0), (.int .i64 0), (.int .i64 0), (.int
    .i64 0), (.int .i64 0), (.bool false), (.bool false)] 45) (fun p45 w46 => StN [(.int .i64 x35), (.int .i64 x36), (.int .i64 x37), (.int .i64 x38), (.int .i64 x39), (.int .i64
    x40), (.int .i64 x41), (.bool x42), (.bool x43)] p45 (fun w47 => F p45 x44 w47) w46) w33 := by
  refine use (c_Get id h) ?_
  rintro _ w1 ⟨rfl, h1⟩
  refine ⟨_, _, _, _, _, _, _, _, _, _, rfl, Al.i h1 (fun p w2 h2 => zst _ (vs := (S.get id).1.vs) h2 rfl (fun w3 h3 => k p w3 h3))⟩

theorem rgot {F : Addr → Int → World → Prop} {t : Nat} {R : List One} (h : Sep E (RTab t R :: L) w) (id : Int) (k : ∀ b w', Sep E (blk b (RS.get R id).1.vs :: RTab t R :: L) w' → F ⟨b, 0, none⟩ (RS.get R id).2 w') :
    Calls P fn_millpondref14_Table_Get #[(.pointer (some ⟨t, 0, none⟩)), (.int .i64 id)] w fun e34 w33 => ∃ x35 : Int, ∃ x36 : Int, ∃ x37 : Int, ∃ x38 : Int, ∃ x39 : Int, ∃ x40 :
    Int, ∃ x41 : Int, ∃ x42 : Bool, ∃ x43 : Bool, ∃ x44 : Int, e34 = .returned (.tuple #[(.agg #[(.int .i64 x35), (.int .i64 x36), (.int .i64 x37), (.int .i64 x38), (.int .i64 x39),
    (.int .i64 x40), (.int .i64 x41), (.bool x42), (.bool x43)]), (.int .i64 x44)]) ∧ Al (.cells #[(.int .i64 0), (.int .i64 0), (.int .i64 0), (.int .i64 0), (.int .i64 0), (.int
    .i64 0), (.int .i64 0), (.bool false), (.bool false)] 45) (fun p45 w46 => StN [(.int .i64 x35), (.int .i64 x36), (.int .i64 x37), (.int .i64 x38), (.int .i64 x39), (.int .i64
    x40), (.int .i64 x41), (.bool x42), (.bool x43)] p45 (fun w47 => F p45 x44 w47) w46) w33 := by
  refine use (r_Get id h) ?_
  rintro _ w1 ⟨rfl, h1⟩
  refine ⟨_, _, _, _, _, _, _, _, _, _, rfl, Al.i h1 (fun p w2 h2 => zst _ (vs := (RS.get R id).1.vs) h2 rfl (fun w3 h3 => k p w3 h3))⟩

theorem pg_inj {a b : Pg} (h : a.vs = b.vs) : a = b := by
  cases a; cases b; simp [Pg.vs] at h; simp [h]

/-- Two pages are told apart. -/
theorem pg_neq (a b : Pg) : ∃ q, EqV P .neq ty_api_Page (.agg a.vs.toArray) (.agg b.vs.toArray) q ∧ (q = false ↔ a = b) := by
  have ht : ∀ p : Pg, Typed P ty_api_Page [.int .i64, .int .i64, .int .i64, .int .i64, .int .i64, .int .i64, .int .i64, .bool, .bool] (.agg p.vs.toArray) := fun p => by
    unfold Typed; rw [show aggQ P ty_api_Page = some true by kernel_rfl]
    exact ⟨_, rfl, ⟨_, rfl⟩, ⟨_, rfl⟩, ⟨_, rfl⟩, ⟨_, rfl⟩, ⟨_, rfl⟩, ⟨_, rfl⟩, ⟨_, rfl⟩, ⟨_, rfl⟩, ⟨_, rfl⟩, trivial⟩
  obtain ⟨q, h1, h2⟩ := EqV.neq (d := 4) (by kernel_rfl : eqT P 4 ty_api_Page = _) (by decide) (by kernel_rfl) (by kernel_rfl) (ht a) (ht b)
  refine ⟨q, h1, h2.trans ⟨fun e => pg_inj ?_, fun e => by rw [e]⟩⟩
  simpa using e

/-- Two rows of ints are held side by side. -/
theorem c_row {s1 s2 : Sl} {a b : List Int} {i j : Nat} (h : Sep E L w) (hi : L[i]? = some (rowA s1 1 (intL a))) (hj : L[j]? = some (rowA s2 1 (intL b))) (ha : s1.n = a.length) (hb : s2.n = b.length) (hbig : a.length < 1000000) :
    Calls P fn_millpondlaw14_row #[.slice s1.p s1.n s1.c, .slice s2.p s2.n s2.c] w (Ret fun v w' => v = .bool (decide (a = b)) ∧ Sep E L w') := by
  apply of_millpondlaw14_row
  unfold sh_millpondlaw14_row
  rw [ha, hb]
  refine bNe (fun hne => ⟨?_, h⟩) (fun he => ?_)
  · have : a ≠ b := fun e => hne (by rw [e])
    simp [this]
  · refine ⟨fun i w => (0 ≤ i ∧ i ≤ a.length) ∧ (∀ k, k < i.toNat → a[k]? = b[k]?) ∧ Sep E L w, fun i _ => (a.length - i).toNat, ⟨⟨by omega, by omega⟩, fun k hk => absurd hk (Nat.not_lt_zero _), h⟩, ?_⟩
    rintro _ m w1 ⟨⟨h0, h1⟩, hpre, h2⟩
    refine bLt (fun hlt => Dr.i h2 (fun w2 h3 => ?_)) (fun hge => ⟨?_, h2⟩)
    · rw [← ha]
      refine elI i h3 hi ha h0 hlt (fun x hx => ⟨_, hx, ?_⟩)
      rw [← hb]
      refine elI j h3 hj hb h0 (by omega) (fun y hy => ⟨_, hy, bNe (fun hne => ⟨?_, h3⟩) (fun he2 => ?_)⟩)
      · have : a ≠ b := fun e => hne (by rw [e])
        simp [this]
      · rw [w64 (by omega) (by omega)]
        refine ⟨⟨⟨by omega, by omega⟩, fun k hk => ?_, h3⟩, by show ((s1.n : Int) - (m + 1)).toNat < ((s1.n : Int) - m).toNat; omega⟩
        by_cases hkm : k < m.toNat
        · exact hpre k hkm
        · have e : k = m.toNat := by omega
          subst e
          have l1 : m.toNat < a.length := by omega
          have l2 : m.toNat < b.length := by omega
          simp only [List.getD, List.getElem?_eq_getElem l1, List.getElem?_eq_getElem l2, Option.getD_some] at he2
          rw [List.getElem?_eq_getElem l1, List.getElem?_eq_getElem l2, he2]
    · have : a = b := by
        apply List.ext_getElem?
        intro k
        by_cases hk : k < a.length
        · exact hpre k (by omega)
        · rw [List.getElem?_eq_none (by omega), List.getElem?_eq_none (by omega)]
      simp [this]

theorem c_works (h : Sep E L w) : Calls P fn_millpondlaw14_works #[] w (Ret fun v w' => v = .bool true ∧ Sep E L w') := by
  apply of_millpondlaw14_works
  unfold sh_millpondlaw14_works
  refine use (c_New h) ?_
  rintro _ w1 ⟨t, rfl, h1⟩
  refine ⟨_, rfl, bifF (Al.i h1 (fun p w2 h2 => zst _ (vs := [.int .i64 1, .int .i64 2]) h2 rfl (fun w3 h3 => ?_)))⟩
  have b0 : ([] : List One).length < 1000000 := by decide
  obtain ⟨v0, hv0⟩ := ofSpec_ex [] (1, 2)
  have hv0' : v0 = -1 := by
    rcases hv0 with ⟨_, p, hp, _⟩ | ⟨h, _⟩
    · rw [rpg_nil] at hp; cases hp
    · exact h
  obtain ⟨e1, I1⟩ := Inv.zero.make b0 1 2 3 hv0
  subst hv0'
  have hR1 : (RS.make [] 1 2 3 (-1)).1 = [(⟨1, 2, 0, 0, 3, 0, 0, false, false⟩, false)] := rfl
  rw [hR1] at I1
  refine ld h3 0 rfl rfl rfl (ld h3 0 rfl rfl rfl (use (c_Make 1 2 3 Inv.zero.free (h3.fr 1 rfl)) ?_))
  generalize TS.make TS.zero 1 2 3 = M at e1 I1
  obtain ⟨S1, x1, y1⟩ := M
  have e1' : (x1, y1) = ((0 : Int), (0 : Int)) := e1
  injection e1' with ex ey
  subst ex ey
  rintro _ w4 ⟨rfl, h4⟩
  refine ⟨_, _, rfl, ?_⟩
  obtain ⟨o0, ho0⟩ := atSpec_ex [((⟨1, 2, 0, 0, 3, 0, 0, false, false⟩ : Pg), false)] (1, 5)
  have one : ∀ (q : Pg) (id : Int) (p : Pg), rpg [(q, false)] id = some p → id = 0 ∧ p = q := by
    intro q id p hp
    obtain ⟨a1, a2, a3⟩ := rpg_some hp
    have : id = 0 := by simp at a2; omega
    subst this
    simp at a3; exact ⟨rfl, a3.symm⟩
  have ho0' : o0 = -1 := by
    rcases ho0 with ⟨_, p, hp, he⟩ | ⟨h, _⟩
    · have := (one _ _ _ hp).2; subst this; simp at he
    · exact h
  obtain ⟨e2, I2⟩ := I1.put 0 1 5 ho0
  subst ho0'
  have hR2 : RS.put [((⟨1, 2, 0, 0, 3, 0, 0, false, false⟩ : Pg), false)] 0 1 5 (-1) = ([(⟨1, 2, 1, 5, 3, 0, 0, false, false⟩, false)], 0) := rfl
  rw [hR2] at e2 I2
  refine use (c_Put 0 1 5 h4) ?_
  generalize TS.put S1 0 1 5 = M at e2 I2
  obtain ⟨S2, y2⟩ := M
  simp only at e2 I2
  subst e2
  rintro _ w5 ⟨rfl, h5⟩
  have hg : S2.get 0 = (⟨1, 2, 1, 5, 3, 0, 0, false, false⟩, 0) := by rw [I2.get]; rfl
  refine ⟨_, rfl, got h5 0 (fun b w6 h6 => ?_)⟩
  rw [hg] at h6 ⊢
  obtain ⟨e3, I3⟩ := I2.refer 0 2
  have hR3 : RS.refer [((⟨1, 2, 1, 5, 3, 0, 0, false, false⟩ : Pg), false)] 0 2 = ([(⟨1, 2, 1, 5, 3, 2, 0, false, false⟩, false)], 2, 0) := by
    unfold RS.refer
    have : rpg [((⟨1, 2, 1, 5, 3, 0, 0, false, false⟩ : Pg), false)] 0 = some ⟨1, 2, 1, 5, 3, 0, 0, false, false⟩ := rfl
    rw [this]; dsimp only; rw [w64 (by omega) (by omega)]; rfl
  rw [hR3] at e3 I3
  refine use (c_Refer 0 2 (h6.fr 1 rfl)) ?_
  generalize TS.refer S2 0 2 = M at e3 I3
  obtain ⟨S3, x3, y3⟩ := M
  have e3' : (x3, y3) = ((2 : Int), (0 : Int)) := e3
  injection e3' with ex ey
  subst ex ey
  rintro _ w7 ⟨rfl, h7⟩
  simp only at h7
  refine ⟨_, _, rfl, use (c_Those 3 I3.few (by decide) h7) ?_⟩
  rintro _ w8 ⟨s, l, rfl, hl, hn, h8⟩
  have hlen : l = [0] := by
    have hm : ∀ k, k ∈ l ↔ k = 0 := by
      intro k; rw [hl.mem k, I3.pg]
      constructor
      · intro hk; obtain ⟨p, hp⟩ := Option.isSome_iff_exists.1 hk; exact (one _ _ _ hp).1
      · rintro rfl; rfl
    have hr := hl.rise
    match l, hm, hr with
    | [], hm, _ => have := (hm 0).2 rfl; cases this
    | [x], hm, _ => rw [(hm x).1 (by simp)]
    | x :: y :: r, hm, hr =>
      have := List.rel_of_pairwise_cons hr (show y ∈ y :: r by simp)
      have h1 := (hm x).1 (by simp); have h2 := (hm y).1 (by simp); omega
  subst hlen
  have hf : ([0] : List Int).filter (fun x => !S3.notOf 3 x) = [0] := by
    have : S3.notOf 3 0 = false := by unfold TS.notOf; rw [I3.pg]; rfl
    simp [this]
  rw [hf] at hn h8
  refine ⟨s, rfl, bEq (fun _ => bEq (fun _ => ?_) (fun e => absurd rfl e)) (fun e => absurd rfl e)⟩
  refine ld h8 3 rfl rfl rfl (ld h8 3 rfl rfl rfl (use (c_Of (1, 2) (h8.fr 1 rfl)) ?_))
  rintro _ w9 ⟨rfl, h9⟩
  have hof : S3.of (1, 2) = 0 := I3.of_ (.inl ⟨by decide, _, rfl, rfl⟩)
  have hat : S3.at_ (1, 5) = 0 := I3.at_ (.inl ⟨by decide, _, rfl, rfl⟩)
  refine ⟨_, rfl, bEq (fun _ => bEq (fun _ => ?_) (fun e => absurd rfl e)) (fun e => absurd hof e)⟩
  refine use (c_At 1 5 h9) ?_
  rintro _ w10 ⟨rfl, rfl⟩
  refine ⟨_, rfl, bEq (fun _ => bEq (fun _ => ?_) (fun e => absurd rfl e)) (fun e => absurd hat e)⟩
  refine ld h9 2 rfl rfl rfl (bEq (fun _ => bEq (fun _ => bEq (fun _ => bEq (fun _ => ?_) (fun e => absurd (by rw [hn]; rfl) e)) (fun e => absurd rfl e)) (fun e => absurd rfl e)) (fun e => absurd rfl e))
  refine use (c_All' I3.few (by decide) h9) ?_
  rintro _ w11 ⟨s2, l2, rfl, hn2, hl2, h11⟩
  have hl2' : l2.length = 1 := by
    have h1 := hl2.le I3.few
    have h2 : (0 : Int) ∈ l2 := (hl2.mem 0).2 (by rw [I3.pg]; rfl)
    have := List.length_pos_of_mem h2
    simp at h1; omega
  refine ⟨s2, rfl, bEq (fun _ => ?_) (fun e => absurd (by rw [hn2, hl2']; rfl) e)⟩
  obtain ⟨e4, I4⟩ := I3.drop 0
  have hR4 : RS.drop [((⟨1, 2, 1, 5, 3, 2, 0, false, false⟩ : Pg), false)] 0 = ([(⟨1, 2, 1, 5, 3, 2, 0, false, false⟩, false)], 4) := rfl
  rw [hR4] at e4 I4
  refine use (c_Drop 0 (h11.fr 1 rfl)) ?_
  rintro _ w12 ⟨rfl, h12⟩
  refine ⟨_, rfl, bEq (fun _ => ?_) (fun e => absurd e4 e)⟩
  obtain ⟨e5, I5⟩ := I4.own_ 0 4
  refine use (c_Own 0 4 h12) ?_
  rintro _ w13 ⟨rfl, h13⟩
  refine ⟨_, rfl, bEq (fun _ => ?_) (fun e => absurd e5 e)⟩
  obtain ⟨e6, I6⟩ := I5.mark 0 true
  refine use (c_Mark 0 true h13) ?_
  rintro _ w14 ⟨rfl, h14⟩
  have e6' : ((TS.mark (TS.own (TS.drop S3 0).1 0 4).1 0 true).2 == 0) = true := by rw [e6]; rfl
  refine ⟨_, rfl, by rw [e6'], h14.tail.tail.tail.tail.tail⟩

end Go.Mp
