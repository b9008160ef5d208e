/- Acts on lists; the steps that all laws of gens share. -/
import Derived.Test.YtkheedbjhboclaaGnO
set_option maxRecDepth 100000
namespace Go.Mp
open Go Go.Vc Go.Sp Go.Stab

variable {E : Env} {L : List Asn} {w : World} {R : List Ent} {l : Nat}

structure Act where
  k : Int
  id : Int
  group : Int
  old : Bool

def Act.vs (a : Act) : List Value := [.int .i64 a.k, .int .i64 a.id, .int .i64 a.group, .bool a.old]

def gAct (R : List Ent) (a : Act) : List Ent × Int :=
  if a.k.tmod 6 = 1 then gDrop R a.id
  else if a.k.tmod 6 = 2 then gTouch R a.id
  else if a.k.tmod 6 = 3 then gEach R a.group chAge
  else if a.k.tmod 6 = 4 then gMove R a.id a.group
  else gAdd R a.id a.group a.old

theorem Good.act (G : Good R) (a : Act) : Good (gAct R a).1 := by
  unfold gAct
  split
  · exact G.drop _
  split
  · exact G.touch _
  split
  · exact G.age _
  split
  · exact G.move _ _
  · exact G.add _ _ _
theorem insR_length (R : List Ent) (x : Ent) : (insR R x).length ≤ R.length + 1 := by
  unfold insR
  rw [List.length_append, List.length_cons]
  have : ∀ (R : List Ent), (R.filter (fun y => decide (y.id < x.id))).length + (R.filter (fun y => decide (x.id < y.id))).length ≤ R.length := by
    intro R
    induction R with
    | nil => simp
    | cons y R ih =>
      rw [List.filter_cons, List.filter_cons]
      by_cases h1 : y.id < x.id
      · rw [if_pos (by simpa using h1), if_neg (by simp; omega)]; simp only [List.length_cons]; omega
      · rw [if_neg (by simpa using h1)]
        split <;> simp only [List.length_cons] <;> omega
  have := this R
  omega
theorem gAct_length (R : List Ent) (a : Act) : (gAct R a).1.length ≤ R.length + 1 := by
  have hf : ∀ p : Ent → Bool, (R.filter p).length ≤ R.length := fun p => List.length_filter_le _ _
  unfold gAct gDrop gTouch gMove gAdd gEach
  repeat' split
  all_goals first
    | exact Nat.le_succ_of_le (hf _)
    | exact insR_length _ _
    | simp

theorem c_do (G : Good R) (hb : R.length < 1000000) (a : Act) (h : Sep E (Lst l R :: L) w) :
    Calls P fn_millpondlaw12_do #[.pointer (some ⟨l, 0, none⟩), .agg a.vs.toArray] w (Ret fun v w' => v = .int .i64 (gAct R a).2 ∧ Sep E (Lst l (gAct R a).1 :: L) w') := by
  apply of_millpondlaw12_do
  unfold sh_millpondlaw12_do
  refine Al.i h (fun p w1 h1 => ?_)
  refine ld h1 0 rfl rfl rfl ⟨by decide, ?_⟩
  have h2 : Sep E (Lst l R :: L) w1 := h1.tail
  unfold gAct
  refine bEq (fun e => ?_) (fun e => ?_)
  · rw [if_pos e]
    refine ld h1 0 rfl rfl rfl (use (c_Drop G _ h2) ?_)
    rintro _ w2 ⟨rfl, h3⟩
    exact ⟨_, rfl, rfl, h3⟩
  rw [if_neg e]
  refine bEq (fun e => ?_) (fun e => ?_)
  · rw [if_pos e]
    refine ld h1 0 rfl rfl rfl (use (c_Touch G _ h2) ?_)
    rintro _ w2 ⟨rfl, h3⟩
    exact ⟨_, rfl, rfl, h3⟩
  rw [if_neg e]
  refine bEq (fun e => ?_) (fun e => ?_)
  · rw [if_pos e]
    refine ld h1 0 rfl rfl rfl (use (c_Age G _ (by omega) h2) ?_)
    rintro _ w2 ⟨rfl, h3⟩
    exact ⟨_, rfl, rfl, h3⟩
  rw [if_neg e]
  refine bEq (fun e => ?_) (fun e => ?_)
  · rw [if_pos e]
    refine ld h1 0 rfl rfl rfl (ld h1 0 rfl rfl rfl (use (c_Move G _ _ (by omega) h2) ?_))
    rintro _ w2 ⟨rfl, h3⟩
    exact ⟨_, rfl, rfl, h3⟩
  · rw [if_neg e]
    refine ld h1 0 rfl rfl rfl (ld h1 0 rfl rfl rfl (ld h1 0 rfl rfl rfl (use (c_Add G _ _ _ h2) ?_)))
    rintro _ w2 ⟨rfl, h3⟩
    exact ⟨_, rfl, rfl, h3⟩

/-- The acts, as they lie. -/
def ActsAt (W : World) (p : Option Addr) (n : Nat) : Prop := ∀ i, i < n → ∃ (a : Addr) (x : Act), p = some a ∧ ∀ j v, x.vs[j]? = some v → W.cell? ((a.add (i * 4)).add j) = some v

theorem acts_rd {W : World} {v : Value} (h : Rd P W ty_sl_millpondlaw12_Act [v]) : ∃ l : Sl, v = .slice l.p l.n l.c ∧ ActsAt W l.p l.n := by
  obtain ⟨p, n, c, rfl, _, _, hi⟩ := h.slice1 (e := ty_millpondlaw12_Act) (by kernel_rfl)
  refine ⟨⟨p, n, c⟩, rfl, fun i hlt => ?_⟩
  obtain ⟨a, es, rfl, hl, hc, hr⟩ := hi i hlt
  have h5 : P.cellsOf ty_millpondlaw12_Act = 4 := by kernel_rfl
  rw [h5] at hc hl
  have hf := hr.leaves 3 (ts := [ty_int, ty_int, ty_int, ty_bool]) (by kernel_rfl)
  match es, hl, hf with
  | [v0, v1, v2, v3], _, ⟨r0, r1, r2, r3, _⟩ =>
  obtain ⟨k, rfl, _⟩ := r0.int1 (k := .i64) (by kernel_rfl)
  obtain ⟨id, rfl, _⟩ := r1.int1 (k := .i64) (by kernel_rfl)
  obtain ⟨g, rfl, _⟩ := r2.int1 (k := .i64) (by kernel_rfl)
  obtain ⟨o, rfl⟩ := r3.bool1 (by kernel_rfl)
  refine ⟨a, ⟨k, id, g, o⟩, rfl, fun j v hj => ?_⟩
  have hj6 : j < 4 := (List.getElem?_eq_some_iff.1 hj).1
  rw [hc j hj6]; exact hj

/-- A slice of ints that lay there. -/
def IntsO (W : World) (s : Sl) (gs : List Int) : Prop := s.n = gs.length ∧ ∀ (i : Nat) x, gs[i]? = some x → ∃ a, s.p = some a ∧ W.cell? (a.add i) = some (.int .i64 x)
theorem ints_rd {W : World} {v : Value} (h : Rd P W ty_sl_int [v]) : ∃ (l : Sl) (gs : List Int), v = .slice l.p l.n l.c ∧ IntsO W l gs := by
  obtain ⟨p, n, c, rfl, _, _, hi⟩ := h.slice1 (e := ty_int) (by kernel_rfl)
  have h1 : P.cellsOf ty_int = 1 := by kernel_rfl
  have hx : ∀ i, i < n → ∃ a x, p = some a ∧ W.cell? (a.add i) = some (.int .i64 x) := by
    intro i hlt
    obtain ⟨a, es, hp, hl, hc, hr⟩ := hi i hlt
    rw [h1] at hc hl
    match es, hl with
    | [v0], _ =>
    obtain ⟨x, rfl, _⟩ := hr.int1 (k := .i64) (by kernel_rfl)
    have := hc 0 (by decide)
    rw [Nat.mul_one] at this
    refine ⟨a, x, hp, ?_⟩
    have e : (a.add i).add 0 = a.add i := by unfold Addr.add; simp
    rw [e] at this; simpa using this
  refine ⟨⟨p, n, c⟩, (List.range n).map (fun i => if h : i < n then (hx i h).choose_spec.choose else 0), rfl, by simp, fun i x hix => ?_⟩
  have hlt : i < n := by
    have := (List.getElem?_eq_some_iff.1 hix).1; simpa using this
  rw [List.getElem?_map, List.getElem?_range hlt] at hix
  simp only [Option.map_some, Option.some.injEq] at hix
  rw [dif_pos hlt] at hix
  obtain ⟨h2, h3⟩ := (hx i hlt).choose_spec.choose_spec
  exact ⟨_, h2, by rw [h3, hix]⟩
theorem IntsO.ints {W : World} {s : Sl} {gs : List Int} (h : IntsO W s gs) {i : Nat} (hi : L[i]? = some (old W.heap)) : Ints E L s gs :=
  ⟨h.1, fun w hs j x hx => by obtain ⟨a, h1, h2⟩ := h.2 j x hx; exact ⟨a, h1, hs.oldCell hi h2⟩⟩
/-- One int in a block of its own. -/
theorem ints_one {b : Nat} {x : Int} {i : Nat} (hi : L[i]? = some (blk b [.int .i64 x])) : Ints E L ⟨some ⟨b, 0, none⟩, 1, 1⟩ [x] :=
  ⟨rfl, fun w hs j y hy => by
    have hj : j = 0 := by
      have := (List.getElem?_eq_some_iff.1 hy).1; simpa using this
    subst hj
    simp at hy; subst hy
    exact ⟨_, rfl, by rw [add_mk, hs.cellAt i hi]; rfl⟩⟩

/-- An act is read where it lies. -/
theorem actIn {W : World} {q : Nat} (h : Sep E L w) (hq : L[q]? = some (old W.heap)) {p : Option Addr} {n : Nat} (hl : ActsAt W p n) {i : Int} (h0 : 0 ≤ i) (h1 : i < n) {F : Int → Int → Int → Bool → Prop}
    (k : ∀ x : Act, F x.k x.id x.group x.old) :
    elAt p n i 4 fun a => ∃ x0 : Int, w.cell? (a.add 0) = some (.int .i64 x0) ∧ ∃ x1 : Int, w.cell? (a.add 1) = some (.int .i64 x1) ∧ ∃ x2 : Int, w.cell? (a.add 2) = some (.int .i64 x2) ∧ ∃ x3 : Bool, w.cell? (a.add 3) = some (.bool x3) ∧ F x0 x1 x2 x3 := by
  obtain ⟨a, x, hp, hx⟩ := hl i.toNat (by omega)
  exact ⟨a, hp, ⟨h0, h1⟩, ldO h q hq (hx 0 _ rfl) (ldO h q hq (hx 1 _ rfl) (ldO h q hq (hx 2 _ rfl) (ldO h q hq (hx 3 _ rfl) (k x))))⟩

/-- All acts are done. -/
theorem runActs {W : World} {s : Sl} (hl : ActsAt W s.p s.n) (h80 : s.n ≤ 80) (h : Sep E (Lst l [] :: old W.heap :: L) w) {G : Int → World → Prop}
    (k : ∀ i R w, Good R → R.length ≤ s.n → Sep E (Lst l R :: old W.heap :: L) w → G i w) :
    ∃ (I10 : Int → World → Prop) (M11 : Int → World → Nat), I10 0 w ∧ ∀ _u13 : Nat → Value, ∀
    i14 : Int, ∀ w12 : World, I10 i14 w12 → bif (decide (i14 < ((s.n : Nat) : Int))) then (elAt s.p s.n i14 4 fun a15 => ∃ x16 : Int, w12.cell? (a15.add 0) = some (.int .i64 x16) ∧
    ∃ x17 : Int, w12.cell? (a15.add 1) = some (.int .i64 x17) ∧ ∃ x18 : Int, w12.cell? (a15.add 2) = some (.int .i64 x18) ∧ ∃ x19 : Bool, w12.cell? (a15.add 3) = some (.bool x19) ∧
    Calls P fn_millpondlaw12_do #[(.pointer (some ⟨l, 0, none⟩)), (.agg #[(.int .i64 x16), (.int .i64 x17), (.int .i64 x18), (.bool x19)])] w12 fun e21 w20 => ∃ x22 : Int, e21 = .returned (.int .i64
    x22) ∧ (I10 (IntKind.i64.wrap (i14 + 1)) w20 ∧ M11 (IntKind.i64.wrap (i14 + 1)) w20 < M11 i14 w12)) else (G i14 w12) := by
  refine ⟨fun i w => (0 ≤ i ∧ i ≤ s.n) ∧ ∃ R, Good R ∧ (R.length : Int) ≤ i ∧ Sep E (Lst l R :: old W.heap :: L) w, fun i _ => (s.n - i).toNat, ⟨⟨by omega, by omega⟩, _, Good.nil, Int.le_refl _, h⟩, ?_⟩
  rintro _ i w1 ⟨⟨h0, h1⟩, R, I, hR, h2⟩
  refine bLt (fun hlt => actIn h2 (q := 1) rfl hl h0 hlt (fun x => use (c_do I (by omega) x h2) ?_)) (fun _ => k i R w1 I (by omega) h2)
  rintro _ w2 ⟨rfl, h3⟩
  refine ⟨_, rfl, ?_⟩
  rw [w64 (by omega) (by omega)]
  have hR' := gAct_length R x
  exact ⟨⟨⟨by omega, by omega⟩, _, I.act x, by omega, h3⟩, by dsimp only; omega⟩

theorem c_row {s1 s2 : Sl} {a b : List Int} {i j : Nat} (h : Sep E L w) (hi : L[i]? = some (rowA s1 1 (intL a))) (hj : L[j]? = some (rowA s2 1 (intL b))) (ha : s1.n = a.length) (hb : s2.n = b.length) (hbig : a.length < 1000000) :
    Calls P fn_millpondlaw12_row #[.slice s1.p s1.n s1.c, .slice s2.p s2.n s2.c] w (Ret fun v w' => v = .bool (decide (a = b)) ∧ Sep E L w') := by
  apply of_millpondlaw12_row
  unfold sh_millpondlaw12_row
  rw [ha, hb]
  refine bNe (fun hne => ⟨?_, h⟩) (fun he => ?_)
  · have : a ≠ b := fun e => hne (by rw [e])
    simp [this]
  · refine ⟨fun i w => (0 ≤ i ∧ i ≤ a.length) ∧ (∀ k, k < i.toNat → a[k]? = b[k]?) ∧ Sep E L w, fun i _ => (a.length - i).toNat, ⟨⟨by omega, by omega⟩, fun k hk => absurd hk (Nat.not_lt_zero _), h⟩, ?_⟩
    rintro _ m w1 ⟨⟨h0, h1⟩, hpre, h2⟩
    refine bLt (fun hlt => Dr.i h2 (fun w2 h3 => ?_)) (fun hge => ⟨?_, h2⟩)
    · rw [← ha]
      refine elI i h3 hi ha h0 hlt (fun x hx => ⟨_, hx, ?_⟩)
      rw [← hb]
      refine elI j h3 hj hb h0 (by omega) (fun y hy => ⟨_, hy, bNe (fun hne => ⟨?_, h3⟩) (fun he2 => ?_)⟩)
      · have : a ≠ b := fun e => hne (by rw [e])
        simp [this]
      · rw [w64 (by omega) (by omega)]
        refine ⟨⟨⟨by omega, by omega⟩, fun k hk => ?_, h3⟩, by dsimp only; omega⟩
        by_cases hkm : k < m.toNat
        · exact hpre k hkm
        · have e : k = m.toNat := by omega
          subst e
          have l1 : m.toNat < a.length := by omega
          have l2 : m.toNat < b.length := by omega
          simp only [List.getD, List.getElem?_eq_getElem l1, List.getElem?_eq_getElem l2, Option.getD_some] at he2
          rw [List.getElem?_eq_getElem l1, List.getElem?_eq_getElem l2, he2]
    · have : a = b := by
        apply List.ext_getElem?
        intro k
        by_cases hk : k < a.length
        · exact hpre k (by omega)
        · rw [List.getElem?_eq_none (by omega), List.getElem?_eq_none (by omega)]
      simp [this]

theorem c_works (h : Sep E L w) : Calls P fn_millpondlaw12_works #[] w (Ret fun v w' => v = .bool true ∧ Sep E L w') := by
  apply of_millpondlaw12_works
  unfold sh_millpondlaw12_works
  refine use (c_New h) ?_
  rintro _ w1 ⟨l, rfl, h1⟩
  refine ⟨_, rfl, bifF (use (c_Add Good.nil 5 1 false h1) ?_)⟩
  have e1 : gAdd [] 5 1 false = ([⟨5, 1, 0⟩], 0) := rfl
  have G1 := Good.nil.add 5 1 false
  rw [e1] at G1 ⊢
  rintro _ w2 ⟨rfl, h2⟩
  refine ⟨_, rfl, use (c_Add G1 3 1 false h2) ?_⟩
  have e2 : gAdd [⟨5, 1, 0⟩] 3 1 false = ([⟨3, 1, 0⟩, ⟨5, 1, 0⟩], 0) := rfl
  have G2 := G1.add 3 1 false
  rw [e2] at G2 ⊢
  rintro _ w3 ⟨rfl, h3⟩
  refine ⟨_, rfl, use (c_Age G2 1 (by decide) h3) ?_⟩
  have e3 : gEach [⟨3, 1, 0⟩, ⟨5, 1, 0⟩] 1 chAge = ([⟨3, 1, 1⟩, ⟨5, 1, 1⟩], 2) := by
    have c0 : chAge 1 0 = (1, 1) := by rw [chAge_ok (by decide) (by decide)]; rfl
    unfold gEach
    simp [chg, isChg, c0]
  have G3 := G2.age 1
  rw [e3] at G3 ⊢
  rintro _ w4 ⟨rfl, h4⟩
  refine ⟨_, rfl, use (c_Add G3 4 1 false h4) ?_⟩
  have e4 : gAdd [⟨3, 1, 1⟩, ⟨5, 1, 1⟩] 4 1 false = ([⟨3, 1, 1⟩, ⟨4, 1, 0⟩, ⟨5, 1, 1⟩], 0) := rfl
  have G4 := G3.add 4 1 false
  rw [e4] at G4 ⊢
  rintro _ w5 ⟨rfl, h5⟩
  refine ⟨_, rfl, Al.i h5 (fun p w6 h6 => use (c_Order G4 (L := blk p [.int .i64 1] :: L) (gs := [1]) (s := ⟨some ⟨p, 0, none⟩, 1, 1⟩) (ints_one (i := 0) rfl) (by decide) h6.swap) ?_)⟩
  rintro _ w7 ⟨t, o, rfl, hn, ho, h7⟩
  have ho' : o = [3, 5, 4] := by
    refine ho.eq ⟨?_, fun k => ?_⟩
    · have a3 : ageZ [⟨3, 1, 1⟩, ⟨4, 1, 0⟩, ⟨5, 1, 1⟩] 3 = 1 := rfl
      have a4 : ageZ [⟨3, 1, 1⟩, ⟨4, 1, 0⟩, ⟨5, 1, 1⟩] 4 = 0 := rfl
      have a5 : ageZ [⟨3, 1, 1⟩, ⟨4, 1, 0⟩, ⟨5, 1, 1⟩] 5 = 1 := rfl
      simp [olderZ, a3, a4, a5]
    · constructor
      · intro hk
        simp at hk
        rcases hk with rfl | rfl | rfl
        · exact ⟨⟨3, 1, 1⟩, rfl, by simp⟩
        · exact ⟨⟨5, 1, 1⟩, rfl, by simp⟩
        · exact ⟨⟨4, 1, 0⟩, rfl, by simp⟩
      · rintro ⟨e, he, _⟩
        obtain ⟨h1, h2⟩ := (fnd_iff G4.rise).1 he
        simp at h1
        rcases h1 with rfl | rfl | rfl <;> simp at h2 <;> simp [← h2]
  subst ho'
  have hn' : t.n = 3 := hn
  refine ⟨t, rfl, bEq (fun _ => bEq (fun _ => bEq (fun _ => bEq (fun _ => bEq (fun _ => ?_) (fun e => absurd (by rw [hn']; rfl) e)) (fun e => absurd rfl e)) (fun e => absurd rfl e)) (fun e => absurd rfl e)) (fun e => absurd rfl e)⟩
  refine elL 0 h7 hn rfl rfl (bEq (fun _ => ?_) (fun e => absurd rfl e))
  refine elL 1 h7 hn rfl rfl (bEq (fun _ => ?_) (fun e => absurd rfl e))
  refine elL 2 h7 hn rfl rfl (bEq (fun _ => ?_) (fun e => absurd rfl e))
  refine use (c_Oldness 5 (h7.fr 1 rfl)) ?_
  rintro _ w8 ⟨rfl, h8⟩
  refine ⟨_, rfl, bEq (fun _ => use (c_Group 5 h8) ?_) (fun e => absurd rfl e)⟩
  rintro _ w9 ⟨rfl, h9⟩
  refine ⟨_, rfl, bEq (fun _ => use (c_Count G4 1 (by decide) h9) ?_) (fun e => absurd rfl e)⟩
  rintro _ w10 ⟨rfl, h10⟩
  refine ⟨_, rfl, bEq (fun _ => use (c_Touch G4 9 h10) ?_) (fun e => absurd rfl e)⟩
  rintro _ w11 ⟨rfl, h11⟩
  exact ⟨_, rfl, rfl, h11.tail.tail.tail⟩

end Go.Mp
