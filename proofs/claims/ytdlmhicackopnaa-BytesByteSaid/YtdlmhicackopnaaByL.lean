/- The laws of bytes: what each call comes to. -/
import Derived.Test.YtdlmhicackopnaaByR
import Derived.Test.YtdlmhicackopnaaLaw
set_option maxRecDepth 100000
namespace Go.Mp
open Go Go.Vc Go.Sp By

variable {E : Env} {L : List Asn} {w : World}

theorem toList_mk (l : List UInt8) : (⟨l.toArray⟩ : ByteArray).toList = l := by
  rw [ByteArray.toList_eq]

/-- An act. -/
structure Act where
  k : Int
  i : Int
  at_ : Int
  b : UInt8
  t : ByteArray

def Act.vs (a : Act) : List Value := [.int .i64 a.k, .int .i64 a.i, .int .i64 a.at_, .int .u8 a.b.toNat, .string a.t]

def stp (n : Nat) (X : List UInt8) (a : Act) : List UInt8 × Int :=
  if a.k.tmod 4 = 0 then wr n X a.i a.t.data.toList else if a.k.tmod 4 = 1 then pt n X a.i a.at_ a.b else if a.k.tmod 4 = 2 then mv n X a.i a.at_ else if a.k.tmod 4 = 3 then cl n X a.i else (X, 0)

theorem bEq {n i : Int} {A B : Prop} (h1 : n = i → A) (h2 : n ≠ i → B) : bif (n == i) then A else B :=
  bifI (fun h => h1 (by simpa using h)) (fun h => h2 (by simpa using h))

theorem c_do {s n : Nat} {X : List UInt8} (a : Act) (h : Sep E (BSt s n X :: L) w) :
    Calls P fn_millpondlaw03_do #[.pointer (some ⟨s, 0, none⟩), .agg a.vs.toArray] w (Ret fun v w' => v = .int .i64 (stp n X a).2 ∧ Sep E (BSt s n (stp n X a).1 :: L) w') := by
  apply of_millpondlaw03_do
  unfold sh_millpondlaw03_do
  refine Al.i h (fun p w1 h1 => ?_)
  refine ⟨a.k, (h1.cell _).trans rfl, by decide, ?_⟩
  have h2 : Sep E (BSt s n X :: L) w1 := h1.tail
  unfold stp
  refine bEq (fun e => ?_) (fun e => ?_)
  · rw [if_pos e]
    refine ⟨a.i, by rw [add_mk]; exact (h1.cell _).trans rfl, a.t, by rw [add_mk]; exact (h1.cell _).trans rfl, use (c_bytes_Write _ _ h2) ?_⟩
    rintro _ w2 ⟨rfl, h3⟩
    exact ⟨_, rfl, rfl, h3⟩
  · rw [if_neg e]
    refine bEq (fun e => ?_) (fun e => ?_)
    · rw [if_pos e]
      refine ⟨a.i, by rw [add_mk]; exact (h1.cell _).trans rfl, a.at_, by rw [add_mk]; exact (h1.cell _).trans rfl, a.b.toNat, by rw [add_mk]; exact (h1.cell _).trans rfl, use (c_bytes_Put _ _ _ h2) ?_⟩
      rintro _ w2 ⟨rfl, h3⟩
      exact ⟨_, rfl, rfl, h3⟩
    · rw [if_neg e]
      refine bEq (fun e => ?_) (fun e => ?_)
      · rw [if_pos e]
        refine ⟨a.i, by rw [add_mk]; exact (h1.cell _).trans rfl, a.at_, by rw [add_mk]; exact (h1.cell _).trans rfl, use (c_bytes_Move _ _ h2) ?_⟩
        rintro _ w2 ⟨rfl, h3⟩
        exact ⟨_, rfl, rfl, h3⟩
      · rw [if_neg e]
        refine bEq (fun e => ?_) (fun e => ?_)
        · rw [if_pos e]
          refine ⟨a.i, by rw [add_mk]; exact (h1.cell _).trans rfl, use (c_bytes_Clear _ h2) ?_⟩
          rintro _ w2 ⟨rfl, h3⟩
          exact ⟨_, rfl, rfl, h3⟩
        · rw [if_neg e]
          exact ⟨rfl, h2⟩

theorem c_works (h : Sep E L w) : Calls P fn_millpondlaw03_works #[] w (Ret fun v w' => v = .bool true ∧ Sep E L w') := by
  apply of_millpondlaw03_works
  unfold sh_millpondlaw03_works
  refine use (c_bytes_New 2 h) ?_
  rintro _ w1 ⟨s, rfl, h1⟩
  refine ⟨_, rfl, bifF (use (c_bytes_Put 1 3 7 h1) ?_)⟩
  rintro _ w2 ⟨rfl, h2⟩
  refine ⟨_, rfl, use (c_bytes_Move 1 0 h2) ?_⟩
  rintro _ w3 ⟨rfl, h3⟩
  refine ⟨_, rfl, use (c_bytes_Get 0 3 h3) ?_⟩
  rintro _ w4 ⟨rfl, rfl⟩
  refine ⟨_, _, rfl, use (c_bytes_Get 1 3 h3) ?_⟩
  rintro _ w5 ⟨rfl, rfl⟩
  refine ⟨_, _, rfl, ?_⟩
  refine bEq (fun _ => ?_) (fun e => absurd rfl e)
  refine bEq (fun _ => ?_) (fun e => absurd rfl e)
  refine bEq (fun _ => ?_) (fun e => absurd rfl e)
  refine bEq (fun _ => ?_) (fun e => absurd rfl e)
  refine bEq (fun _ => ?_) (fun e => absurd rfl e)
  refine bEq (fun _ => ?_) (fun e => absurd rfl e)
  refine use (c_bytes_Len h3) ?_
  rintro _ w6 ⟨rfl, rfl⟩
  exact ⟨_, rfl, rfl, h3.tail⟩

/-- The acts, as they lie. -/
def ActsAt (W : World) (p : Option Addr) (n : Nat) : Prop := ∀ i, i < n → ∃ (a : Addr) (x : Act), p = some a ∧ ∀ j, j < 5 → W.cell? ((a.add (i * 5)).add j) = x.vs[j]?

theorem acts_rd {W : World} {v : Value} (h : Rd P W ty_sl_millpondlaw03_Act [v]) : ∃ l : Sl, v = .slice l.p l.n l.c ∧ ActsAt W l.p l.n := by
  obtain ⟨p, n, c, rfl, _, _, hi⟩ := h.slice1 (e := ty_millpondlaw03_Act) (by kernel_rfl)
  refine ⟨⟨p, n, c⟩, rfl, fun i hlt => ?_⟩
  obtain ⟨a, es, rfl, hl, hc, hr⟩ := hi i hlt
  have h5 : P.cellsOf ty_millpondlaw03_Act = 5 := by kernel_rfl
  rw [h5] at hc hl
  obtain ⟨hl, hf⟩ := hr.flat (ts := [ty_int, ty_int, ty_int, ty_uint8, ty_string]) (by kernel_rfl)
  obtain ⟨v0, e0, r0⟩ := hf 0 _ rfl
  obtain ⟨v1, e1, r1⟩ := hf 1 _ rfl
  obtain ⟨v2, e2, r2⟩ := hf 2 _ rfl
  obtain ⟨v3, e3, r3⟩ := hf 3 _ rfl
  obtain ⟨v4, e4, r4⟩ := hf 4 _ rfl
  obtain ⟨k, rfl, _⟩ := r0.int1 (k := .i64) (by kernel_rfl)
  obtain ⟨ii, rfl, _⟩ := r1.int1 (k := .i64) (by kernel_rfl)
  obtain ⟨at_, rfl, _⟩ := r2.int1 (k := .i64) (by kernel_rfl)
  obtain ⟨b, rfl⟩ := r3.u8 (by kernel_rfl)
  obtain ⟨t, rfl, _⟩ := r4.str1 (by kernel_rfl)
  refine ⟨a, ⟨k, ii, at_, b, t⟩, rfl, fun j hj => ?_⟩
  rw [hc j hj]
  match j, hj with
  | 0, _ => exact e0
  | 1, _ => exact e1
  | 2, _ => exact e2
  | 3, _ => exact e3
  | 4, _ => exact e4

theorem stp_length {n : Nat} {X : List UInt8} (h : X.length = 16 * n) (a : Act) : (stp n X a).1.length = 16 * n := by
  unfold stp
  split
  · exact wr_length h _
  split
  · exact pt_length h _ _
  split
  · exact mv_length h
  split
  · exact wr_length h _
  · exact h

theorem zcell (f : World → Prop) {b : Nat} {C : List Value} {vs : List Value} (h : Sep E (blk b C :: L) w) (hC : C.length = vs.length) (k : ∀ w1, Sep E (blk b vs :: L) w1 → f w1) : StN vs ⟨b, 0, none⟩ f w := by
  refine StN.i h (by omega) (fun w1 h1 => k w1 ?_)
  rw [setAll_eq _ _ _ (by omega)] at h1
  simpa [← hC] using h1

theorem law_BytesDoes {W : World} (n : Int) (l : Sl) (page at_ : Int) (hl : ActsAt W l.p l.n) :
    Calls P fn_millpondlaw03_BytesDoes #[.int .i64 n, .slice l.p l.n l.c, .int .i64 page, .int .i64 at_] W (Ret fun v w' => v = .bool true ∧ Sep (World.env W) [old W.heap] w') := by
  apply of_millpondlaw03_BytesDoes
  unfold sh_millpondlaw03_BytesDoes
  refine use (c_works (Sep.start W)) ?_
  rintro _ w1 ⟨rfl, h1⟩
  refine ⟨_, rfl, bifF ?_⟩
  have fin : ∀ {b : Bool} {w2 : World}, b = true → Sep (World.env W) [old W.heap] w2 → (Value.bool b = .bool true ∧ Sep (World.env W) [old W.heap] w2) := fun hb h => ⟨by rw [hb], h⟩
  refine bGt (fun _ => bB (fun _ => ⟨rfl, h1⟩) (fun _ => bGt (fun _ => ⟨rfl, h1⟩) (fun hb => ?_))) (fun _ => bGt (fun _ => ⟨rfl, h1⟩) (fun hb => ?_))
  · refine use (c_bytes_New n h1) ?_
    rintro _ w2 ⟨s, rfl, h2⟩
    refine ⟨_, rfl, use (c_r_New n h2) ?_⟩
    rintro _ w3 ⟨r, rfl, h3⟩
    generalize min (max n 0).toNat 1024 = m at h3
    refine ⟨_, rfl, fun i w => (0 ≤ i ∧ i ≤ l.n) ∧ ∃ X, Sep (World.env W) [BSt s m X, RSt r m X, old W.heap] w, fun i _ => (l.n - i).toNat, ⟨⟨by omega, by omega⟩, _, h3.swap⟩, ?_⟩
    rintro _ i w4 ⟨⟨hi0, hi1⟩, X, h4⟩
    have hX : X.length = 16 * m := (BSt.open h4).choose_spec.1
    refine bB (fun hi => ?morea) (fun hi => ?donea)
    case' donea =>
      refine Dr.i h4 (fun w5 h5 => bifT ?_)
      obtain ⟨bl, _, hm, h6⟩ := RSt.open (h5.fr 1 rfl)
      refine ⟨_, rfl, ⟨_, _, _⟩, (h6.cell _).trans rfl, by decide, use (c_bytes_Len h5) ?_⟩
      rintro _ w6 ⟨rfl, rfl⟩
      refine ⟨_, rfl, ⟨_, _, _⟩, (h6.cell _).trans rfl, rfl, ?_, h5.tail.tail⟩
      have e : (((16 * m : Nat) : Int)).tdiv 16 = m := by
        rw [Int.tdiv_eq_ediv_of_nonneg (by omega)]; omega
      dsimp only
      rw [e, w64 (by omega) (by omega)]
      simp
    obtain ⟨a, x, hp, hx⟩ := hl i.toNat (by omega)
    refine ⟨a, hp, ⟨hi0, by omega⟩, ?_⟩
    refine ⟨x.k, h4.oldCell (i := 2) rfl (hx 0 (by omega)), x.i, h4.oldCell (i := 2) rfl (hx 1 (by omega)), x.at_, h4.oldCell (i := 2) rfl (hx 2 (by omega)), x.b.toNat, h4.oldCell (i := 2) rfl (hx 3 (by omega)), x.t, h4.oldCell (i := 2) rfl (hx 4 (by omega)), ?_⟩
    refine Al.i h4 (fun p w5 h5 => zcell _ (vs := x.vs) h5 rfl (fun w6 h6 => ?_))
    refine ⟨x.k, (h6.cellAt 0 rfl _).trans rfl, by decide, ?_⟩
    have h7 := h6.fr 2 rfl
    have hstp : stp m X x = if x.k.tmod 4 = 0 then wr m X x.i x.t.data.toList else if x.k.tmod 4 = 1 then pt m X x.i x.at_ x.b else if x.k.tmod 4 = 2 then mv m X x.i x.at_ else if x.k.tmod 4 = 3 then cl m X x.i else (X, 0) := rfl
    have ld : ∀ {w : World} {L : List Asn} (j : Nat) {v : Value}, Sep (World.env W) (RSt r m (stp m X x).1 :: blk p x.vs :: L) w → x.vs[j]? = some v → w.cell? (Addr.add ⟨p, 0, none⟩ j) = some v := by
      intro w L j v h hv
      rw [add_mk, h.cellAt 1 rfl, Nat.zero_add]; exact hv
    refine bEq (fun e => ?g1a) (fun e => bEq (fun e1 => ?g2a) (fun e1 => bEq (fun e2 => ?g3a) (fun e2 => bEq (fun e3 => ?g4a) (fun e3 => ?g5a))))
    case' g1a =>
      rw [if_pos e] at hstp
      refine ⟨x.i, by rw [add_mk]; exact (h6.cell _).trans rfl, x.t, by rw [add_mk]; exact (h6.cell _).trans rfl, use (c_r_Write _ _ h7) ?_⟩
      rw [← hstp]
      rintro _ w7 ⟨rfl, h8⟩
      refine ⟨_, rfl, ?_⟩
    case' g2a =>
      rw [if_neg e, if_pos e1] at hstp
      refine ⟨x.i, by rw [add_mk]; exact (h6.cell _).trans rfl, x.at_, by rw [add_mk]; exact (h6.cell _).trans rfl, x.b.toNat, by rw [add_mk]; exact (h6.cell _).trans rfl, use (c_r_Put _ _ _ h7) ?_⟩
      rw [← hstp]
      rintro _ w7 ⟨rfl, h8⟩
      refine ⟨_, rfl, ?_⟩
    case' g3a =>
      rw [if_neg e, if_neg e1, if_pos e2] at hstp
      refine ⟨x.i, by rw [add_mk]; exact (h6.cell _).trans rfl, x.at_, by rw [add_mk]; exact (h6.cell _).trans rfl, use (c_r_Move _ _ h7) ?_⟩
      rw [← hstp]
      rintro _ w7 ⟨rfl, h8⟩
      refine ⟨_, rfl, ?_⟩
    case' g4a =>
      rw [if_neg e, if_neg e1, if_neg e2, if_pos e3] at hstp
      refine ⟨x.i, by rw [add_mk]; exact (h6.cell _).trans rfl, use (c_r_Clear _ h7) ?_⟩
      rw [← hstp]
      rintro _ w7 ⟨rfl, h8⟩
      refine ⟨_, rfl, ?_⟩
    case' g5a =>
      rw [if_neg e, if_neg e1, if_neg e2, if_neg e3] at hstp
      have h8 : Sep (World.env W) (RSt r m (stp m X x).1 :: blk p x.vs :: BSt s m X :: [old W.heap]) w6 := by rw [hstp]; exact h7
    all_goals
      refine ⟨_, ld 0 h8 rfl, _, ld 1 h8 rfl, _, ld 2 h8 rfl, _, ld 3 h8 rfl, _, ld 4 h8 rfl, ?_⟩
      refine use (c_do x (h8.fr 2 rfl)) ?_
      rintro _ w8 ⟨rfl, h9⟩
      refine ⟨_, rfl, use (c_bytes_Read _ h9) ?_⟩
      rintro _ w9 ⟨rfl, rfl⟩
      refine ⟨_, _, rfl, use (c_r_Read _ (h9.fr 1 rfl)) ?_⟩
      rintro _ w10 ⟨rfl, rfl⟩
      refine ⟨_, _, rfl, _, (h9.cellAt 2 rfl _).trans rfl, use (c_bytes_Get _ _ h9) ?_⟩
      rintro _ w9 ⟨rfl, rfl⟩
      refine ⟨_, _, rfl, _, (h9.cellAt 2 rfl _).trans rfl, use (c_r_Get _ _ (h9.fr 1 rfl)) ?_⟩
      rintro _ w10 ⟨rfl, rfl⟩
      refine ⟨_, _, rfl, ?_⟩
      refine bNe (fun h => absurd (by first | rfl | rw [hstp]) h) (fun _ => bifI (fun h => by simp at h) (fun _ => bNe (fun h => absurd rfl h) (fun _ => bNe (fun h => absurd rfl h) (fun _ => bNe (fun h => absurd rfl h) (fun _ => ?_)))))
      rw [w64 (by omega) (by omega)]
      exact ⟨⟨⟨by omega, by omega⟩, _, h9.re [0, 1, 3] rfl⟩, by show (l.n - (i + 1)).toNat < (l.n - i).toNat; omega⟩
  · refine use (c_bytes_New n h1) ?_
    rintro _ w2 ⟨s, rfl, h2⟩
    refine ⟨_, rfl, use (c_r_New n h2) ?_⟩
    rintro _ w3 ⟨r, rfl, h3⟩
    generalize min (max n 0).toNat 1024 = m at h3
    refine ⟨_, rfl, fun i w => (0 ≤ i ∧ i ≤ l.n) ∧ ∃ X, Sep (World.env W) [BSt s m X, RSt r m X, old W.heap] w, fun i _ => (l.n - i).toNat, ⟨⟨by omega, by omega⟩, _, h3.swap⟩, ?_⟩
    rintro _ i w4 ⟨⟨hi0, hi1⟩, X, h4⟩
    have hX : X.length = 16 * m := (BSt.open h4).choose_spec.1
    refine bB (fun hi => ?moreb) (fun hi => ?doneb)
    case' doneb =>
      refine Dr.i h4 (fun w5 h5 => bifT ?_)
      obtain ⟨bl, _, hm, h6⟩ := RSt.open (h5.fr 1 rfl)
      refine ⟨_, rfl, ⟨_, _, _⟩, (h6.cell _).trans rfl, by decide, use (c_bytes_Len h5) ?_⟩
      rintro _ w6 ⟨rfl, rfl⟩
      refine ⟨_, rfl, ⟨_, _, _⟩, (h6.cell _).trans rfl, rfl, ?_, h5.tail.tail⟩
      have e : (((16 * m : Nat) : Int)).tdiv 16 = m := by
        rw [Int.tdiv_eq_ediv_of_nonneg (by omega)]; omega
      dsimp only
      rw [e, w64 (by omega) (by omega)]
      simp
    obtain ⟨a, x, hp, hx⟩ := hl i.toNat (by omega)
    refine ⟨a, hp, ⟨hi0, by omega⟩, ?_⟩
    refine ⟨x.k, h4.oldCell (i := 2) rfl (hx 0 (by omega)), x.i, h4.oldCell (i := 2) rfl (hx 1 (by omega)), x.at_, h4.oldCell (i := 2) rfl (hx 2 (by omega)), x.b.toNat, h4.oldCell (i := 2) rfl (hx 3 (by omega)), x.t, h4.oldCell (i := 2) rfl (hx 4 (by omega)), ?_⟩
    refine Al.i h4 (fun p w5 h5 => zcell _ (vs := x.vs) h5 rfl (fun w6 h6 => ?_))
    refine ⟨x.k, (h6.cellAt 0 rfl _).trans rfl, by decide, ?_⟩
    have h7 := h6.fr 2 rfl
    have hstp : stp m X x = if x.k.tmod 4 = 0 then wr m X x.i x.t.data.toList else if x.k.tmod 4 = 1 then pt m X x.i x.at_ x.b else if x.k.tmod 4 = 2 then mv m X x.i x.at_ else if x.k.tmod 4 = 3 then cl m X x.i else (X, 0) := rfl
    have ld : ∀ {w : World} {L : List Asn} (j : Nat) {v : Value}, Sep (World.env W) (RSt r m (stp m X x).1 :: blk p x.vs :: L) w → x.vs[j]? = some v → w.cell? (Addr.add ⟨p, 0, none⟩ j) = some v := by
      intro w L j v h hv
      rw [add_mk, h.cellAt 1 rfl, Nat.zero_add]; exact hv
    refine bEq (fun e => ?g1b) (fun e => bEq (fun e1 => ?g2b) (fun e1 => bEq (fun e2 => ?g3b) (fun e2 => bEq (fun e3 => ?g4b) (fun e3 => ?g5b))))
    case' g1b =>
      rw [if_pos e] at hstp
      refine ⟨x.i, by rw [add_mk]; exact (h6.cell _).trans rfl, x.t, by rw [add_mk]; exact (h6.cell _).trans rfl, use (c_r_Write _ _ h7) ?_⟩
      rw [← hstp]
      rintro _ w7 ⟨rfl, h8⟩
      refine ⟨_, rfl, ?_⟩
    case' g2b =>
      rw [if_neg e, if_pos e1] at hstp
      refine ⟨x.i, by rw [add_mk]; exact (h6.cell _).trans rfl, x.at_, by rw [add_mk]; exact (h6.cell _).trans rfl, x.b.toNat, by rw [add_mk]; exact (h6.cell _).trans rfl, use (c_r_Put _ _ _ h7) ?_⟩
      rw [← hstp]
      rintro _ w7 ⟨rfl, h8⟩
      refine ⟨_, rfl, ?_⟩
    case' g3b =>
      rw [if_neg e, if_neg e1, if_pos e2] at hstp
      refine ⟨x.i, by rw [add_mk]; exact (h6.cell _).trans rfl, x.at_, by rw [add_mk]; exact (h6.cell _).trans rfl, use (c_r_Move _ _ h7) ?_⟩
      rw [← hstp]
      rintro _ w7 ⟨rfl, h8⟩
      refine ⟨_, rfl, ?_⟩
    case' g4b =>
      rw [if_neg e, if_neg e1, if_neg e2, if_pos e3] at hstp
      refine ⟨x.i, by rw [add_mk]; exact (h6.cell _).trans rfl, use (c_r_Clear _ h7) ?_⟩
      rw [← hstp]
      rintro _ w7 ⟨rfl, h8⟩
      refine ⟨_, rfl, ?_⟩
    case' g5b =>
      rw [if_neg e, if_neg e1, if_neg e2, if_neg e3] at hstp
      have h8 : Sep (World.env W) (RSt r m (stp m X x).1 :: blk p x.vs :: BSt s m X :: [old W.heap]) w6 := by rw [hstp]; exact h7
    all_goals
      refine ⟨_, ld 0 h8 rfl, _, ld 1 h8 rfl, _, ld 2 h8 rfl, _, ld 3 h8 rfl, _, ld 4 h8 rfl, ?_⟩
      refine use (c_do x (h8.fr 2 rfl)) ?_
      rintro _ w8 ⟨rfl, h9⟩
      refine ⟨_, rfl, use (c_bytes_Read _ h9) ?_⟩
      rintro _ w9 ⟨rfl, rfl⟩
      refine ⟨_, _, rfl, use (c_r_Read _ (h9.fr 1 rfl)) ?_⟩
      rintro _ w10 ⟨rfl, rfl⟩
      refine ⟨_, _, rfl, _, (h9.cellAt 2 rfl _).trans rfl, use (c_bytes_Get _ _ h9) ?_⟩
      rintro _ w9 ⟨rfl, rfl⟩
      refine ⟨_, _, rfl, _, (h9.cellAt 2 rfl _).trans rfl, use (c_r_Get _ _ (h9.fr 1 rfl)) ?_⟩
      rintro _ w10 ⟨rfl, rfl⟩
      refine ⟨_, _, rfl, ?_⟩
      refine bNe (fun h => absurd (by first | rfl | rw [hstp]) h) (fun _ => bifI (fun h => by simp at h) (fun _ => bNe (fun h => absurd rfl h) (fun _ => bNe (fun h => absurd rfl h) (fun _ => bNe (fun h => absurd rfl h) (fun _ => ?_)))))
      rw [w64 (by omega) (by omega)]
      exact ⟨⟨⟨by omega, by omega⟩, _, h9.re [0, 1, 3] rfl⟩, by show (l.n - (i + 1)).toNat < (l.n - i).toNat; omega⟩

end Go.Mp
