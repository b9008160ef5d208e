/- The laws of pages: what each comes to. -/
import Derived.Test.YtbkmfficnnfljaaPgA
set_option maxRecDepth 100000
namespace Go.Mp
open Go Go.Vc Go.Sp

variable {E : Env} {L : List Asn} {w : World}

theorem pg_eql (a b : Pg) : ∃ q, EqV P .eql ty_api_Page (.agg a.vs.toArray) (.agg b.vs.toArray) q ∧ (q = true ↔ a = b) := by
  have ht : ∀ p : Pg, Typed P ty_api_Page [.int .i64, .int .i64, .int .i64, .int .i64, .int .i64, .int .i64, .int .i64, .bool, .bool] (.agg p.vs.toArray) := fun p => by
    unfold Typed; rw [show aggQ P ty_api_Page = some true by kernel_rfl]
    exact ⟨_, rfl, ⟨_, rfl⟩, ⟨_, rfl⟩, ⟨_, rfl⟩, ⟨_, rfl⟩, ⟨_, rfl⟩, ⟨_, rfl⟩, ⟨_, rfl⟩, ⟨_, rfl⟩, ⟨_, rfl⟩, trivial⟩
  obtain ⟨q, h1, h2⟩ := EqV.eql (d := 4) (by kernel_rfl : eqT P 4 ty_api_Page = _) (by decide) (by kernel_rfl) (by kernel_rfl) (ht a) (ht b)
  refine ⟨q, h1, h2.trans ⟨fun e => pg_inj ?_, fun e => by rw [e]⟩⟩
  simpa using e

theorem eqPg {b1 b2 : Nat} {p q : Pg} (i j : Nat) (h : Sep E L w) (hi : L[i]? = some (blk b1 p.vs)) (hj : L[j]? = some (blk b2 q.vs)) {F : Bool → Prop} (k : ∀ r, (r = true ↔ p = q) → F r) :
    ∃ x86 : Int, w.cell? (Addr.add ⟨b1, 0, none⟩ 0) = some (.int .i64 x86) ∧ ∃ x87 : Int, w.cell? (Addr.add ⟨b1, 0, none⟩ 1) = some (.int .i64 x87) ∧ ∃ x88 : Int, w.cell? (Addr.add ⟨b1, 0, none⟩ 2) =
    some (.int .i64 x88) ∧ ∃ x89 : Int, w.cell? (Addr.add ⟨b1, 0, none⟩ 3) = some (.int .i64 x89) ∧ ∃ x90 : Int, w.cell? (Addr.add ⟨b1, 0, none⟩ 4) = some (.int .i64 x90) ∧ ∃ x91 : Int, w.cell? (Addr.add ⟨b1, 0, none⟩ 5)
    = some (.int .i64 x91) ∧ ∃ x92 : Int, w.cell? (Addr.add ⟨b1, 0, none⟩ 6) = some (.int .i64 x92) ∧ ∃ x93 : Bool, w.cell? (Addr.add ⟨b1, 0, none⟩ 7) = some (.bool x93) ∧ ∃ x94 : Bool, w.cell? (Addr.add ⟨b1, 0, none⟩ 8)
    = some (.bool x94) ∧ ∃ x95 : Int, w.cell? (Addr.add ⟨b2, 0, none⟩ 0) = some (.int .i64 x95) ∧ ∃ x96 : Int, w.cell? (Addr.add ⟨b2, 0, none⟩ 1) = some (.int .i64 x96) ∧ ∃ x97 : Int, w.cell? (Addr.add ⟨b2, 0, none⟩ 2) =
    some (.int .i64 x97) ∧ ∃ x98 : Int, w.cell? (Addr.add ⟨b2, 0, none⟩ 3) = some (.int .i64 x98) ∧ ∃ x99 : Int, w.cell? (Addr.add ⟨b2, 0, none⟩ 4) = some (.int .i64 x99) ∧ ∃ x100 : Int, w.cell? (Addr.add ⟨b2, 0, none⟩
    5) = some (.int .i64 x100) ∧ ∃ x101 : Int, w.cell? (Addr.add ⟨b2, 0, none⟩ 6) = some (.int .i64 x101) ∧ ∃ x102 : Bool, w.cell? (Addr.add ⟨b2, 0, none⟩ 7) = some (.bool x102) ∧ ∃ x103 : Bool, w.cell?
    (Addr.add ⟨b2, 0, none⟩ 8) = some (.bool x103) ∧ ∃ q104 : Bool, EqV P .eql 45 (.agg #[(.int .i64 x86), (.int .i64 x87), (.int .i64 x88), (.int .i64 x89), (.int .i64 x90), (.int .i64 x91),
    (.int .i64 x92), (.bool x93), (.bool x94)]) (.agg #[(.int .i64 x95), (.int .i64 x96), (.int .i64 x97), (.int .i64 x98), (.int .i64 x99), (.int .i64 x100), (.int .i64 x101),
    (.bool x102), (.bool x103)]) q104 ∧ F q104 := by
  refine ld h i rfl hi rfl (ld h i rfl hi rfl (ld h i rfl hi rfl (ld h i rfl hi rfl (ld h i rfl hi rfl (ld h i rfl hi rfl (ld h i rfl hi rfl (ld h i rfl hi rfl (ld h i rfl hi rfl ?_))))))))
  refine ld h j rfl hj rfl (ld h j rfl hj rfl (ld h j rfl hj rfl (ld h j rfl hj rfl (ld h j rfl hj rfl (ld h j rfl hj rfl (ld h j rfl hj rfl (ld h j rfl hj rfl (ld h j rfl hj rfl ?_))))))))
  obtain ⟨r, h1, h2⟩ := pg_eql p q
  exact ⟨r, h1, k r h2⟩

theorem nePg {b1 b2 : Nat} {p q : Pg} (i j : Nat) (h : Sep E L w) (hi : L[i]? = some (blk b1 p.vs)) (hj : L[j]? = some (blk b2 q.vs)) {F : Bool → Prop} (k : ∀ r, (r = false ↔ p = q) → F r) :
    ∃ x86 : Int, w.cell? (Addr.add ⟨b1, 0, none⟩ 0) = some (.int .i64 x86) ∧ ∃ x87 : Int, w.cell? (Addr.add ⟨b1, 0, none⟩ 1) = some (.int .i64 x87) ∧ ∃ x88 : Int, w.cell? (Addr.add ⟨b1, 0, none⟩ 2) =
    some (.int .i64 x88) ∧ ∃ x89 : Int, w.cell? (Addr.add ⟨b1, 0, none⟩ 3) = some (.int .i64 x89) ∧ ∃ x90 : Int, w.cell? (Addr.add ⟨b1, 0, none⟩ 4) = some (.int .i64 x90) ∧ ∃ x91 : Int, w.cell? (Addr.add ⟨b1, 0, none⟩ 5)
    = some (.int .i64 x91) ∧ ∃ x92 : Int, w.cell? (Addr.add ⟨b1, 0, none⟩ 6) = some (.int .i64 x92) ∧ ∃ x93 : Bool, w.cell? (Addr.add ⟨b1, 0, none⟩ 7) = some (.bool x93) ∧ ∃ x94 : Bool, w.cell? (Addr.add ⟨b1, 0, none⟩ 8)
    = some (.bool x94) ∧ ∃ x95 : Int, w.cell? (Addr.add ⟨b2, 0, none⟩ 0) = some (.int .i64 x95) ∧ ∃ x96 : Int, w.cell? (Addr.add ⟨b2, 0, none⟩ 1) = some (.int .i64 x96) ∧ ∃ x97 : Int, w.cell? (Addr.add ⟨b2, 0, none⟩ 2) =
    some (.int .i64 x97) ∧ ∃ x98 : Int, w.cell? (Addr.add ⟨b2, 0, none⟩ 3) = some (.int .i64 x98) ∧ ∃ x99 : Int, w.cell? (Addr.add ⟨b2, 0, none⟩ 4) = some (.int .i64 x99) ∧ ∃ x100 : Int, w.cell? (Addr.add ⟨b2, 0, none⟩
    5) = some (.int .i64 x100) ∧ ∃ x101 : Int, w.cell? (Addr.add ⟨b2, 0, none⟩ 6) = some (.int .i64 x101) ∧ ∃ x102 : Bool, w.cell? (Addr.add ⟨b2, 0, none⟩ 7) = some (.bool x102) ∧ ∃ x103 : Bool, w.cell?
    (Addr.add ⟨b2, 0, none⟩ 8) = some (.bool x103) ∧ ∃ q104 : Bool, EqV P .neq 45 (.agg #[(.int .i64 x86), (.int .i64 x87), (.int .i64 x88), (.int .i64 x89), (.int .i64 x90), (.int .i64 x91),
    (.int .i64 x92), (.bool x93), (.bool x94)]) (.agg #[(.int .i64 x95), (.int .i64 x96), (.int .i64 x97), (.int .i64 x98), (.int .i64 x99), (.int .i64 x100), (.int .i64 x101),
    (.bool x102), (.bool x103)]) q104 ∧ F q104 := by
  refine ld h i rfl hi rfl (ld h i rfl hi rfl (ld h i rfl hi rfl (ld h i rfl hi rfl (ld h i rfl hi rfl (ld h i rfl hi rfl (ld h i rfl hi rfl (ld h i rfl hi rfl (ld h i rfl hi rfl ?_))))))))
  refine ld h j rfl hj rfl (ld h j rfl hj rfl (ld h j rfl hj rfl (ld h j rfl hj rfl (ld h j rfl hj rfl (ld h j rfl hj rfl (ld h j rfl hj rfl (ld h j rfl hj rfl (ld h j rfl hj rfl ?_))))))))
  obtain ⟨r, h1, h2⟩ := pg_neq p q
  exact ⟨r, h1, k r h2⟩

/-- Rising lists of the same ids are the same. -/
theorem rise_eq : ∀ {a b : List Int}, a.Pairwise (· < ·) → b.Pairwise (· < ·) → (∀ k, k ∈ a ↔ k ∈ b) → a = b
  | [], [], _, _, _ => rfl
  | [], y :: b, _, _, h => by have := (h y).2 (by simp); cases this
  | x :: a, [], _, _, h => by have := (h x).1 (by simp); cases this
  | x :: a, y :: b, ha, hb, h => by
    have ha' := List.pairwise_cons.1 ha
    have hb' := List.pairwise_cons.1 hb
    have hxy : x = y := by
      rcases List.mem_cons.1 ((h x).1 (by simp)) with e | e
      · exact e
      · rcases List.mem_cons.1 ((h y).2 (by simp)) with e' | e'
        · exact e'.symm
        · have := hb'.1 x e; have := ha'.1 y e'; omega
    subst hxy
    rw [rise_eq ha'.2 hb'.2 (fun k => ⟨fun hk => ?_, fun hk => ?_⟩)]
    · rcases List.mem_cons.1 ((h k).1 (List.mem_cons_of_mem _ hk)) with e | e
      · have := ha'.1 k hk; omega
      · exact e
    · rcases List.mem_cons.1 ((h k).2 (List.mem_cons_of_mem _ hk)) with e | e
      · have := hb'.1 k hk; omega
      · exact e

theorem idsR_rise (R : List One) (own : Int) (any : Bool) (n : Nat) : (idsR R own any n).Pairwise (· < ·) := by
  unfold idsR
  rw [List.pairwise_map]
  refine List.Pairwise.imp (fun h => ?_) (List.Pairwise.filter _ (List.pairwise_lt_range (n := n)))
  omega
theorem idsR_mem (R : List One) (own : Int) (any : Bool) (k : Int) : k ∈ idsR R own any R.length ↔ ∃ p, rpg R k = some p ∧ (any = true ∨ p.owner = own) := by
  unfold idsR
  simp only [List.mem_map, List.mem_filter, List.mem_range]
  constructor
  · rintro ⟨i, ⟨h1, h2⟩, rfl⟩
    cases hp : rpg R (i : Int) with
    | none => rw [hp] at h2; cases h2
    | some p => rw [hp] at h2; exact ⟨p, rfl, by simpa using h2⟩
  · rintro ⟨p, hp, h⟩
    have := rpg_some hp
    refine ⟨k.toNat, ⟨by omega, ?_⟩, by omega⟩
    have e : ((k.toNat : Nat) : Int) = k := by omega
    rw [e, hp]; simpa using h

theorem Inv.all_eq {S : TS} {R : List One} (I : Inv S R) {l : List Int} (hl : IdsOf S l) (own : Int) : l = idsR R own true R.length := by
  refine rise_eq hl.rise (idsR_rise ..) (fun k => ?_)
  rw [hl.mem, I.pg, idsR_mem]
  cases rpg R k <;> simp
theorem Inv.those_eq {S : TS} {R : List One} (I : Inv S R) {l : List Int} (hl : IdsOf S l) (own : Int) : l.filter (fun x => !S.notOf own x) = idsR R own false R.length := by
  refine rise_eq (List.Pairwise.filter _ hl.rise) (idsR_rise ..) (fun k => ?_)
  rw [List.mem_filter, hl.mem, idsR_mem]
  unfold TS.notOf
  rw [I.pg]
  cases rpg R k <;> simp

theorem got' {S : TS} {id : Int} : (S.get id).2 = 0 ∨ (S.get id).2 = 2 := by
  unfold TS.get; cases S.pg id <;> simp

theorem law_PagesDoes {W : World} (l : Sl) (kf ki place at_ : Int) (hl : ActsAt W l.p l.n) :
    Calls P fn_millpondlaw14_PagesDoes #[.slice l.p l.n l.c, .agg #[.int .i64 kf, .int .i64 ki], .int .i64 place, .int .i64 at_] W (Ret fun v w' => v = .bool true ∧ ∃ (L : List Asn) (i : Nat), L[i]? = some (old W.heap) ∧ Sep (World.env W) L w') := by
  apply of_millpondlaw14_PagesDoes
  unfold sh_millpondlaw14_PagesDoes
  refine Al.i (Sep.start W) (fun pk w0 h0 => use (c_works h0) ?_)
  rintro _ w1 ⟨rfl, h1⟩
  refine ⟨_, rfl, bifF (bGt (fun _ => ⟨rfl, _, 1, rfl, h1⟩) (fun h80 => use (c_New h1) ?_))⟩
  rintro _ w2 ⟨t, rfl, h2⟩
  refine ⟨_, rfl, Al.i h2 (fun r w3 h3 => ?_)⟩
  have h3 : Sep (World.env W) (RTab r [] :: Tab t TS.zero :: blk pk [.int .i64 kf, .int .i64 ki] :: [old W.heap]) w3 :=
    RTab.shut (s := ⟨none, 0, 0⟩) rfl (Sep.swap (rowA.none_ (m := 10) h3))
  refine ⟨fun i w => (0 ≤ i ∧ i ≤ l.n) ∧ ∃ S R, Inv S R ∧ (R.length : Int) ≤ i ∧ Sep (World.env W) (RTab r R :: Tab t S :: blk pk [.int .i64 kf, .int .i64 ki] :: [old W.heap]) w, fun i _ => (l.n - i).toNat,
    ⟨⟨by omega, by omega⟩, _, _, Inv.zero, Int.le_refl _, h3⟩, ?_⟩
  rintro _ i w4 ⟨⟨hi0, hi1⟩, S, R, I, hR, h4⟩
  refine bLt (fun hlt => ?_) (fun hge => bifT ?_)
  · obtain ⟨a, x, hp, hx⟩ := hl i.toNat (by omega)
    refine ⟨a, hp, ⟨hi0, hlt⟩, ?_⟩
    refine ldO h4 3 rfl (hx 0 _ rfl) (ldO h4 3 rfl (hx 1 _ rfl) (ldO h4 3 rfl (hx 2 _ rfl) (ldO h4 3 rfl (hx 3 _ rfl) (ldO h4 3 rfl (hx 4 _ rfl) (ldO h4 3 rfl (hx 5 _ rfl) ?_)))))
    refine Al.i h4 (fun p w5 h5 => zst _ (vs := x.vs) h5 rfl (fun w6 h6 => ?_))
    refine ld h6 0 rfl rfl rfl (ld h6 0 rfl rfl rfl (ld h6 0 rfl rfl rfl (ld h6 0 rfl rfl rfl (ld h6 0 rfl rfl rfl (ld h6 0 rfl rfl rfl ?_)))))
    refine use (c_do I x (h6.fr 2 rfl)) ?_
    rintro _ w7 ⟨rfl, h7⟩
    refine ⟨_, _, rfl, ?_⟩
    have h7 : Sep (World.env W) (RTab r R :: blk p x.vs :: Tab t (S.act x).1 :: blk pk [.int .i64 kf, .int .i64 ki] :: [old W.heap]) w7 := h7.ro 5 [2, 1, 0, 3, 4] rfl
    refine ⟨fun y f w => ∃ v o, RS.ofSpec R (x.kf, x.ki) v ∧ RS.atSpec R (x.place, x.n) o ∧ (RS.act R x v o).2 = (y, f) ∧ Sep (World.env W) (RTab r (RS.act R x v o).1 :: blk p x.vs :: Tab t (S.act x).1 :: blk pk [.int .i64 kf, .int .i64 ki] :: [old W.heap]) w, ?_, ?_⟩
    · refine ld h7 1 rfl rfl rfl ⟨by decide, ?_⟩
      obtain ⟨v0, hv0⟩ := ofSpec_ex R (x.kf, x.ki)
      obtain ⟨o0, ho0⟩ := atSpec_ex R (x.place, x.n)
      unfold RS.act
      refine bEq (fun e => ?_) (fun e => ?_)
      · simp only [if_pos e]
        refine ld h7 1 rfl rfl rfl (ld h7 1 rfl rfl rfl (ld h7 1 rfl rfl rfl (use (r_Make _ _ _ (by omega) h7) ?_)))
        rintro _ w8 ⟨v, hv, rfl, h8⟩
        exact ⟨_, _, rfl, v, o0, hv, ho0, rfl, h8⟩
      simp only [if_neg e]
      refine bEq (fun e => ?_) (fun e => ?_)
      · simp only [if_pos e]
        refine ld h7 1 rfl rfl rfl (ld h7 1 rfl rfl rfl (ld h7 1 rfl rfl rfl (use (r_Put _ _ _ (by omega) h7) ?_)))
        rintro _ w8 ⟨o, ho, rfl, h8⟩
        exact ⟨_, rfl, v0, o, hv0, ho, rfl, h8⟩
      simp only [if_neg e]
      refine bEq (fun e => ?_) (fun e => ?_)
      · simp only [if_pos e]
        refine ld h7 1 rfl rfl rfl (ld h7 1 rfl rfl rfl (use (r_Refer _ _ h7) ?_))
        rintro _ w8 ⟨rfl, h8⟩
        exact ⟨_, _, rfl, v0, o0, hv0, ho0, rfl, h8⟩
      simp only [if_neg e]
      refine bEq (fun e => ?_) (fun e => ?_)
      · simp only [if_pos e]
        refine ld h7 1 rfl rfl rfl (use (r_Drop _ h7) ?_)
        rintro _ w8 ⟨rfl, h8⟩
        exact ⟨_, rfl, v0, o0, hv0, ho0, rfl, h8⟩
      simp only [if_neg e]
      refine bEq (fun e => ?_) (fun e => ?_)
      · simp only [if_pos e]
        refine ld h7 1 rfl rfl rfl (ld h7 1 rfl rfl rfl (use (r_Own _ _ h7) ?_))
        rintro _ w8 ⟨rfl, h8⟩
        exact ⟨_, rfl, v0, o0, hv0, ho0, rfl, h8⟩
      · simp only [if_neg e]
        refine ld h7 1 rfl rfl rfl (ld h7 1 rfl rfl rfl (use (r_Mark _ _ h7) ?_))
        rintro _ w8 ⟨rfl, h8⟩
        exact ⟨_, rfl, v0, o0, hv0, ho0, rfl, h8⟩
    · rintro _ y f w8 ⟨v, o, hv, ho, hyf, h8⟩
      obtain ⟨e1, I'⟩ := I.act (by omega) x hv ho
      have hlen := RS.act_length R x v o
      rw [hyf] at e1
      generalize (RS.act R x v o).1 = R' at h8 I' hlen
      generalize (S.act x).1 = S' at h8 I'
      refine ld h8 1 rfl rfl rfl (got (h8.fr 2 rfl) x.id (fun b1 w9 h9 => ?_))
      have h9 : Sep (World.env W) (RTab r R' :: blk b1 (S'.get x.id).1.vs :: Tab t S' :: blk p x.vs :: blk pk [.int .i64 kf, .int .i64 ki] :: [old W.heap]) w9 := h9.ro 6 [2, 0, 1, 3, 4, 5] rfl
      refine ld h9 3 rfl rfl rfl (rgot h9 x.id (fun b2 w10 h10 => Dr.i h10 (fun w11 h11 => ?_)))
      refine bNe (fun hn => absurd (by rw [e1]) hn) (fun _ => bNe (fun hn => absurd (by rw [e1]) hn) (fun _ => ?_))
      refine nePg 2 0 h11 rfl rfl (fun q hq => ?_)
      have : q = false := hq.2 (by rw [I'.get])
      subst this
      refine bifF (bNe (fun hn => absurd (by rw [I'.get]) hn) (fun _ => ?_))
      refine ld h11 5 rfl rfl rfl (ld h11 5 rfl rfl rfl (ld h11 5 rfl rfl rfl (ld h11 5 rfl rfl rfl (use (c_Of (kf, ki) (h11.fr 3 rfl)) ?_))))
      rintro _ w12 ⟨rfl, h12⟩
      have h12 : Sep (World.env W) (RTab r R' :: Tab t S' :: blk p x.vs :: blk pk [.int .i64 kf, .int .i64 ki] :: [old W.heap]) w12 := h12.re [2, 0, 4, 5, 6] rfl
      refine ⟨_, rfl, ld h12 3 rfl rfl rfl (ld h12 3 rfl rfl rfl ⟨rfl, use (r_Of (kf, ki) (by omega) h12) ?_⟩)⟩
      rintro _ w13 ⟨i1, rfl, hi1, h13⟩
      refine ⟨_, rfl, bNe (fun hn => absurd (I'.of_ hi1) hn) (fun _ => use (c_At place at_ (h13.fr 1 rfl)) ?_)⟩
      rintro _ w14 ⟨rfl, rfl⟩
      refine ⟨_, rfl, use (r_At place at_ (by omega) h13) ?_⟩
      rintro _ w15 ⟨i2, rfl, hi2, h15⟩
      refine ⟨_, rfl, bNe (fun hn => absurd (I'.at_ hi2) hn) (fun _ => ?_)⟩
      refine ld h15 2 rfl rfl rfl (ld h15 2 rfl rfl rfl (ld h15 2 rfl rfl rfl (ld h15 2 rfl rfl rfl (use (c_Of (x.kf, x.ki) (h15.fr 1 rfl)) ?_))))
      rintro _ w16 ⟨rfl, h16⟩
      have h16 : Sep (World.env W) (RTab r R' :: Tab t S' :: blk p x.vs :: blk pk [.int .i64 kf, .int .i64 ki] :: [old W.heap]) w16 := h16.swap
      refine ⟨_, rfl, ld h16 2 rfl rfl rfl (ld h16 2 rfl rfl rfl ⟨rfl, use (r_Of (x.kf, x.ki) (by omega) h16) ?_⟩)⟩
      rintro _ w17 ⟨i3, rfl, hi3, h17⟩
      refine ⟨_, rfl, bNe (fun hn => absurd (I'.of_ hi3) hn) (fun _ => ?_)⟩
      rw [w64 (by omega) (by omega)]
      exact ⟨⟨⟨by omega, by omega⟩, S', R', I', by omega, h17.re [0, 1, 3, 4] rfl⟩, by show (l.n - (i + 1)).toNat < (l.n - i).toNat; omega⟩
  · refine use (c_All' I.few (by omega) (h4.fr 1 rfl)) ?_
    rintro _ w5 ⟨s1, l1, rfl, hn1, hl1, h5⟩
    have h5 : Sep (World.env W) (RTab r R :: rowA s1 1 (intL l1) :: Tab t S :: blk pk [.int .i64 kf, .int .i64 ki] :: [old W.heap]) w5 := h5.ro 5 [2, 0, 1, 3, 4] rfl
    refine ⟨s1, rfl, use (r_Those 0 true (by omega) h5) ?_⟩
    rintro _ w6 ⟨s2, rfl, hn2, h6⟩
    have hle := hl1.le I.few
    refine ⟨s2, rfl, use (c_row (i := 2) (j := 0) h6 rfl rfl hn1 hn2 (by omega)) ?_⟩
    rintro _ w7 ⟨rfl, h7⟩
    rw [show decide (l1 = idsR R 0 true R.length) = true from decide_eq_true (I.all_eq hl1 0)]
    refine ⟨_, rfl, bifT (use (c_Those at_ I.few (by omega) (h7.fr 3 rfl)) ?_)⟩
    rintro _ w8 ⟨s3, l3, rfl, hl3, hn3, h8⟩
    have h8 : Sep (World.env W) (RTab r R :: rowA s3 1 (intL (l3.filter fun x => !S.notOf at_ x)) :: [old W.heap]) w8 := h8.re [3, 0, 6] rfl
    refine ⟨s3, rfl, use (r_Those at_ false (by omega) h8) ?_⟩
    rintro _ w9 ⟨s4, rfl, hn4, h9⟩
    have hle3 := hl3.le I.few
    refine ⟨s4, rfl, use (c_row (i := 2) (j := 0) h9 rfl rfl hn3 hn4 (Nat.lt_of_le_of_lt (List.length_filter_le _ _) (by omega))) ?_⟩
    rintro _ w10 ⟨rfl, h10⟩
    exact ⟨_, rfl, by rw [decide_eq_true (I.those_eq hl3 at_)], _, 3, rfl, h10⟩

end Go.Mp
