/- What the document's answer is: One, Put, take, Get. -/
import Derived.Test.YtkjihkmkchcmcaaGreatDoorScR
set_option maxRecDepth 100000
namespace Go.Scr
theorem drop_cons {α : Type} {l : List α} {k : Nat} {c : α} (h : l[k]? = some c) : l.drop k = c :: l.drop (k + 1) := by
  obtain ⟨h1, h2⟩ := List.getElem?_eq_some_iff.1 h
  rw [List.drop_eq_getElem_cons h1, h2]
end Go.Scr
namespace Go.Mp
open Go Go.Vc Go.Sp Go.Proofs Go.Ct

variable {E : Env} {L : List Asn} {w W : World}

def fsts (o : Scr.Op) (j : Nat) : Bytes := ((o.vs.drop 1).take j).flatMap (fun v => match v with | .int _ n => Scr.enc n.toNat | _ => [])
theorem c_rOne (o : Scr.Op) (h : Sep E L W) : Calls P fn_millpondref20_One #[o.v] W (Ret fun v w' => v = .string (mk (Scr.codeB o)) ∧ Grow W w' ∧ Sep E L w') := by
  apply of_millpondref20_One
  unfold sh_millpondref20_One
  refine Al.i (Sep.start W) (fun p1 w1 h1 => ?_)
  have h1 : Sep (World.env W) [blk p1 o.vs, old W.heap] w1 := h1
  have bad : ∀ {w' : World} {L' : List Asn} (i : Nat), (Scr.Ok o → False) → Sep (World.env W) L' w' → L'[i]? = some (old W.heap) → Value.string (ByteArray.mk #[]) = .string (mk (Scr.codeB o)) ∧ Grow W w' ∧ Sep E L w' := fun i hno hh hi => by
    have g := grow_old rfl hh hi
    refine ⟨?_, g, h.grow g⟩
    rw [Scr.codeB_nil.2]
    cases hb : Scr.okB o with
    | false => rfl
    | true => exact absurd ((Scr.okB_iff o).1 hb) hno
  refine ⟨fun w' => (0 ≤ o.k ∧ o.k ≤ 13) ∧ Sep (World.env W) [blk p1 o.vs, old W.heap] w', ?_, ?_⟩
  · refine ⟨_, h1.cell 0, ?_⟩
    refine bLt (fun hh => bad 1 (fun hok => by have := hok.k0; omega) h1 rfl) (fun h0 => ?_)
    refine ⟨_, h1.cell 0, ?_⟩
    exact bGt (fun hh => bad 1 (fun hok => by have := hok.k1; omega) h1 rfl) (fun h13 => ⟨⟨h0, h13⟩, h1⟩)
  rintro _ w2 ⟨⟨k0, k1⟩, h2⟩
  refine ⟨_, h2.cell 0, ?_⟩
  refine Al.i h2 (fun p9 w3 h3 => ?_)
  have e0 : IntKind.u8.wrap o.k = (((UInt8.ofNat o.k.toNat).toNat : Nat) : Int) := by
    have : o.k = (o.k.toNat : Nat) := by omega
    rw [this, wrapU8, Scr.u8 (by omega)]
    simp only [Int.toNat_natCast]
    rw [Nat.mod_eq_of_lt (by omega)]
  refine ⟨_, cvI (byt1 e0 h3), ?_⟩
  refine ⟨_, h3.cellAt 1 rfl 1, _, h3.cellAt 1 rfl 2, _, h3.cellAt 1 rfl 3, _, h3.cellAt 1 rfl 4, ?_⟩
  refine Al.i h3 (fun p16 w4 h4 => ?_)
  have h4 : Sep (World.env W) [blk p16 (o.vs.drop 1), blk p9 [.int .u8 (IntKind.u8.wrap o.k)], blk p1 o.vs, old W.heap] w4 := h4
  refine ⟨fun s i w' => ∃ (j : Nat) (l : Bytes), i = j ∧ j ≤ 4 ∧ s = mk l ∧ l.length ≤ 1 + 3 * j ∧ (∀ i v, i < j → (o.vs.drop 1)[i]? = some (.int .i64 v) → Scr.num v = true) ∧ l = UInt8.ofNat o.k.toNat :: fsts o j ∧
    Sep (World.env W) [blk p16 (o.vs.drop 1), blk p9 [.int .u8 (IntKind.u8.wrap o.k)], blk p1 o.vs, old W.heap] w', fun _ i _ => (4 - i).toNat,
    ⟨0, _, rfl, by omega, rfl, by simp, fun i v hi => by omega, rfl, h4⟩, ?_⟩
  rintro _ s i w5 ⟨j, l, rfl, hj, rfl, hll, hnum, hl, h5⟩
  refine bLt (fun hlt => ?_) (fun hge => ?_)
  · have hj4 : j < 4 := by omega
    obtain ⟨v, hv⟩ : ∃ v, (o.vs.drop 1)[j]? = some (.int .i64 v) := by
      match j, hj4 with
      | 0, _ => exact ⟨_, rfl⟩
      | 1, _ => exact ⟨_, rfl⟩
      | 2, _ => exact ⟨_, rfl⟩
      | 3, _ => exact ⟨_, rfl⟩
    have hcell : w5.cell? ⟨p16, j, none⟩ = some (.int .i64 v) := (h5.cell j).trans hv
    refine ⟨⟨p16, 0, none⟩, rfl, ⟨by omega, by omega⟩, v, ?_, ?_⟩
    · rw [add_mk, Nat.zero_add, Int.toNat_natCast, Nat.mul_one]; exact hcell
    refine use (c_rnumber _ v (Nat.lt_succ_self _) h5) ?_
    rintro _ w6 ⟨rfl, _, h6⟩
    refine ⟨_, rfl, ?_⟩
    refine bS (fun he => ?_) (fun hne => ?_)
    · refine bad 3 (fun hok => ?_) h6 rfl
      have hf : Scr.num v = false := Scr.encB_nil.1 he
      have : Scr.num v = true := by
        match j, hj4, hv with
        | 0, _, hv => have := hok.a; cases hv; exact this
        | 1, _, hv => have := hok.b; cases hv; exact this
        | 2, _, hv => have := hok.c; cases hv; exact this
        | 3, _, hv => have := hok.d; cases hv; exact this
      rw [this] at hf; cases hf
    · have hvt : Scr.num v = true := by
        cases hb : Scr.num v with
        | true => rfl
        | false => exact absurd (Scr.encB_nil.2 hb) hne
      have hl3 := Scr.encB_len v
      refine ⟨by rw [mk_size, mk_size]; omega, ⟨j + 1, l ++ Scr.encB v, wrapS (by omega), by omega, mk_append _ _, by rw [List.length_append]; omega, fun i u hi hu => ?_, ?_, h6⟩, by rw [wrapS (by omega)]; dsimp only; omega⟩
      · rcases Nat.lt_or_ge i j with h' | h'
        · exact hnum i u h' hu
        · have : i = j := by omega
          subst this
          rw [hv] at hu; cases hu; exact hvt
      · rw [hl]
        unfold fsts
        rw [take_succ hv, List.flatMap_append, List.cons_append]
        simp only [List.flatMap_cons, List.flatMap_nil, List.append_nil]
        unfold Scr.encB
        rw [if_pos hvt]
  · have g : Grow W w5 := grow_old (i := 3) rfl h5 rfl
    refine ⟨?_, g, h.grow g⟩
    have hok : Scr.Ok o := ⟨k0, k1, hnum 0 _ (by omega) rfl, hnum 1 _ (by omega) rfl, hnum 2 _ (by omega) rfl, hnum 3 _ (by omega) rfl⟩
    have e4 : j = 4 := by omega
    subst e4
    unfold Scr.codeB
    rw [if_pos ((Scr.okB_iff o).2 hok), hl]
    congr 2
    unfold Scr.code fsts Scr.Op.vs
    simp

theorem c_rPut {s : Sl} {l : List Scr.Op} (hO : Ops W s l) (h : Sep E L W) : Calls P fn_millpondref20_Put #[.slice s.p s.n s.c] W (Ret fun v w' =>
    ((PutOk l ∧ v = .tuple #[.string (mk (Scr.text l)), .int .i64 0]) ∨ (¬ PutOk l ∧ v = .tuple #[.string (mk []), .int .i64 1])) ∧ Grow W w' ∧ Sep E L w') := by
  apply of_millpondref20_Put
  unfold sh_millpondref20_Put
  have hsn := hO.n
  have fin : ∀ {w' : World} {L' : List Asn} {i : Nat}, Sep (World.env W) L' w' → L'[i]? = some (old W.heap) → Grow W w' := fun hh hi => grow_old rfl hh hi
  refine ⟨fun t x w' => ∃ j : Nat, x = j ∧ j ≤ l.length ∧ (0 < j → l.length ≤ 1000) ∧ (∀ o ∈ l.take j, Scr.Ok o) ∧ t = mk (Scr.text (l.take j)) ∧ Sep (World.env W) [old W.heap] w',
    fun _ x _ => (l.length - x).toNat, ⟨0, rfl, Nat.zero_le _, fun hh => by omega, by simp, rfl, Sep.start W⟩, ?_⟩
  rintro _ t x w1 ⟨j, rfl, hj, h1000, hok, rfl, h1⟩
  refine bLt (fun hlt => ?_) (fun hge => ?_)
  · obtain ⟨o, ho⟩ : ∃ o, l[j]? = some o := ⟨_, List.getElem?_eq_getElem (by omega)⟩
    have hmo := List.mem_of_getElem? ho
    refine (hO.grow (fin (i := 0) h1 rfl)).at_ j rfl ho (fun p hp => ?_)
    have hp := hp w1 (Grow.refl _)
    refine ⟨_, hp 0 _ rfl, _, hp 1 _ rfl, _, hp 2 _ rfl, _, hp 3 _ rfl, _, hp 4 _ rfl, ?_⟩
    refine use (c_rOne o h1) ?_
    rintro _ w2 ⟨rfl, _, h2⟩
    have g := fin (i := 0) h2 rfl
    refine ⟨_, rfl, ?_⟩
    refine bS (fun he => ⟨.inr ⟨fun hh => ?_, rfl⟩, g, h.grow g⟩) (fun hne => ?_)
    · have := (Scr.okB_iff o).2 (hh.1 o hmo)
      rw [Scr.codeB_nil.1 he] at this; cases this
    refine bGt (fun hgt => ⟨.inr ⟨fun hh => by have := hh.2; omega, rfl⟩, g, h.grow g⟩) (fun hle => ?_)
    have hoo : Scr.okB o = true := by
      cases hb : Scr.okB o with
      | true => rfl
      | false => exact absurd (Scr.codeB_nil.2 hb) hne
    have hl13 := (Scr.text_len hok).2
    have hlo := Scr.codeB_len o
    have htl : (l.take j).length ≤ 1000 := by rw [List.length_take]; omega
    refine ⟨by rw [mk_size, mk_size]; omega, ⟨j + 1, wrapS (by omega), by omega, fun _ => by omega, fun q hq => ?_, ?_, h2⟩, by rw [wrapS (by omega)]; dsimp only; omega⟩
    · rw [take_succ ho] at hq
      rcases List.mem_append.1 hq with hq | hq
      · exact hok q hq
      · rw [List.mem_singleton.1 hq]; exact (Scr.okB_iff o).1 hoo
    · rw [take_succ ho, Scr.text_append, Scr.text_one, mk_append]
      unfold Scr.codeB
      rw [if_pos hoo]
  · have g := fin (i := 0) h1 rfl
    have e : j = l.length := by omega
    subst e
    rw [List.take_length] at hok ⊢
    refine ⟨.inl ⟨⟨hok, ?_⟩, rfl⟩, g, h.grow g⟩
    rcases Nat.eq_zero_or_pos l.length with h0 | h0
    · omega
    · exact h1000 h0

theorem u8lt {x : UInt8} : x.toNat < 256 := x.toNat_lt
theorem dig {n x W_ : Nat} (hx : x < 256) (hn : n + 127 * W_ < 4611686018427387904) : IntKind.i64.wrap ((n : Int) + IntKind.i64.wrap ((IntKind.i64.wrap (x : Int)).tmod 128 * (W_ : Int))) = ((n + x % 128 * W_ : Nat) : Int) := by
  have h1 : x % 128 * W_ ≤ 127 * W_ := Nat.mul_le_mul_right _ (by omega)
  have em : (x : Int).tmod 128 = ((x % 128 : Nat) : Int) := by rw [Int.tmod_eq_emod_of_nonneg (by omega)]; omega
  have e3 : ((x % 128 : Nat) : Int) * (W_ : Int) = ((x % 128 * W_ : Nat) : Int) := by rw [Int.natCast_mul]
  rw [w64 (n := (x : Int)) (by omega) (by omega), em, e3, w64 (n := ((x % 128 * W_ : Nat) : Int)) (by omega) (by omega), w64 (by omega) (by omega)]
  omega
theorem c_rtake {b : Sl} {s : Bytes} (hB : Byt W b s) (hl : s.length < 1000000) {e : Nat} (he : e ≤ s.length + 1) (h : Sep E L W) : Calls P fn_millpondref20_take #[.slice b.p b.n b.c, .int .i64 e] W (Ret fun v w' =>
    v = .tuple #[.int .i64 ((Scr.stepR s e).1 : Nat), .int .i64 ((Scr.stepR s e).2 : Nat)] ∧ w' = W) := by
  apply of_millpondref20_take
  unfold sh_millpondref20_take
  have hbn := hB.n
  refine ⟨fun w' => Scr.rdN (s.drop e) = none ∧ w' = W, ?_, ?_⟩
  · refine ⟨fun n wt i w' => w' = W ∧ ((i = (e : Int) ∧ n = 0 ∧ wt = 1) ∨
      (i = ((e + 1 : Nat) : Int) ∧ wt = 128 ∧ ∃ x r, s.drop e = x :: r ∧ 128 ≤ x.toNat ∧ n = ((x.toNat % 128 : Nat) : Int)) ∨
      (i = ((e + 2 : Nat) : Int) ∧ wt = 16384 ∧ ∃ x y r, s.drop e = x :: y :: r ∧ 128 ≤ x.toNat ∧ 128 ≤ y.toNat ∧ n = ((x.toNat % 128 + y.toNat % 128 * 128 : Nat) : Int)) ∨
      (i = ((e + 3 : Nat) : Int) ∧ ∃ x y z r, s.drop e = x :: y :: z :: r ∧ 128 ≤ x.toNat ∧ 128 ≤ y.toNat ∧ 128 ≤ z.toNat)),
      fun _ _ i _ => (e + 3 - i).toNat, ⟨rfl, .inl ⟨rfl, rfl, rfl⟩⟩, ?_⟩
    rintro _ n wt i w1 ⟨rfl, hst⟩
    have e3 : IntKind.i64.wrap ((e : Int) + 3) = ((e + 3 : Nat) : Int) := by rw [w64 (by omega) (by omega)]; omega
    refine ⟨fun w' => i < (s.length : Int) ∧ i < ((e + 3 : Nat) : Int) ∧ w' = w1, ?_, ?_⟩
    · refine bLt (fun hlt => ?_) (fun hge => ⟨?_, rfl⟩)
      · refine bLt (fun h3 => ⟨by omega, by rw [e3] at h3; exact h3, rfl⟩) (fun h3 => ⟨?_, rfl⟩)
        rw [e3] at h3
        rcases hst with ⟨rfl, _⟩ | ⟨rfl, _⟩ | ⟨rfl, _⟩ | ⟨rfl, x, y, z, r, hd, hx, hy, hz⟩
        · omega
        · omega
        · omega
        · rw [hd]; simp only [Scr.rdN]; rw [if_neg (by omega), if_neg (by omega), if_neg (by omega)]
      · rcases hst with ⟨rfl, _⟩ | ⟨rfl, _, x, r, hd, hx, _⟩ | ⟨rfl, _, x, y, r, hd, hx, hy, _⟩ | ⟨rfl, x, y, z, r, hd, hx, hy, hz⟩
        · rw [List.drop_eq_nil_of_le (by omega)]; rfl
        · have hdl := congrArg List.length hd
          rw [List.length_drop, List.length_cons] at hdl
          have : r = [] := List.eq_nil_of_length_eq_zero (by omega)
          rw [hd, this]; simp only [Scr.rdN]; rw [if_neg (by omega)]
        · have hdl := congrArg List.length hd
          rw [List.length_drop, List.length_cons, List.length_cons] at hdl
          have : r = [] := List.eq_nil_of_length_eq_zero (by omega)
          rw [hd, this]; simp only [Scr.rdN]; rw [if_neg (by omega), if_neg (by omega)]
        · rw [hd]; simp only [Scr.rdN]; rw [if_neg (by omega), if_neg (by omega), if_neg (by omega)]
    · rintro _ w2 ⟨hlt, h3, rfl⟩
      have fin : ∀ {n : Nat} {N I : Int} {k : Nat} {r : Bytes}, Scr.rdN (s.drop e) = some (n, r) → r = (s.drop e).drop k → e + k ≤ s.length → N = (n : Nat) → I = ((e + k : Nat) : Int) → Value.tuple #[.int .i64 N, .int .i64 I] = .tuple #[.int .i64 ((Scr.stepR s e).1 : Nat), .int .i64 ((Scr.stepR s e).2 : Nat)] ∧ w2 = w2 := by
        intro n N I k r hr hk hle hN hI
        refine ⟨?_, rfl⟩
        unfold Scr.stepR
        rw [hr, hN, hI]
        dsimp only
        rw [hk, List.length_drop, List.length_drop, show s.length - (s.length - e - k) = e + k by omega]
      rcases hst with ⟨rfl, rfl, rfl⟩ | ⟨rfl, rfl, x, r, hd, hx, rfl⟩ | ⟨rfl, rfl, x, y, r, hd, hx, hy, rfl⟩ | ⟨rfl, _⟩
      · obtain ⟨x, hx⟩ : ∃ x, s[e]? = some x := ⟨_, List.getElem?_eq_getElem (by omega)⟩
        have hd := Go.Scr.drop_cons hx
        refine hB.el e rfl hx ⟨by decide, ?_⟩
        refine hB.el e rfl hx ?_
        have hdg := dig (n := 0) (x := x.toNat) (W_ := 1) u8lt (by omega)
        have hdg' : IntKind.i64.wrap (0 + IntKind.i64.wrap ((IntKind.i64.wrap (x.toNat : Int)).tmod 128 * 1)) = ((x.toNat % 128 : Nat) : Int) := hdg.trans (by simp)
        rw [hdg', wrapS (by omega)]
        refine bLt (fun hlo => ?_) (fun hhi => ⟨⟨rfl, .inr (.inl ⟨rfl, by decide, x, _, hd, by omega, rfl⟩)⟩, by dsimp only; omega⟩)
        refine fin (n := x.toNat) (k := 1) ?_ rfl (by omega) ?_ rfl
        · rw [hd]; simp only [Scr.rdN]; rw [if_pos (by omega)]; rfl
        · rw [Nat.mod_eq_of_lt (by omega)]
      · have hdl := congrArg List.length hd
        rw [List.length_drop, List.length_cons] at hdl
        obtain ⟨y, r, rfl⟩ := List.exists_cons_of_ne_nil (l := r) (fun e0 => by rw [e0] at hdl; simp at hdl; omega)
        have hy : s[e + 1]? = some y := by
          have : (s.drop e)[1]? = some y := by rw [hd]; rfl
          rwa [List.getElem?_drop] at this
        refine hB.el (e + 1) rfl hy ⟨by decide, ?_⟩
        refine hB.el (e + 1) rfl hy ?_
        have hdg : IntKind.i64.wrap (((x.toNat % 128 : Nat) : Int) + IntKind.i64.wrap ((IntKind.i64.wrap (y.toNat : Int)).tmod 128 * 128)) = ((x.toNat % 128 + y.toNat % 128 * 128 : Nat) : Int) := dig (n := x.toNat % 128) (x := y.toNat) (W_ := 128) u8lt (by omega)
        rw [hdg, wrapS (by omega)]
        refine bLt (fun hlo => ?_) (fun hhi => ⟨⟨rfl, .inr (.inr (.inl ⟨rfl, by decide, x, y, _, hd, hx, by omega, rfl⟩))⟩, by dsimp only; omega⟩)
        simp only [List.length_cons] at hdl
        refine fin (n := x.toNat % 128 + y.toNat * 128) (k := 2) (r := r) ?_ (by rw [hd]; rfl) (by omega) ?_ (by omega)
        · rw [hd]; simp only [Scr.rdN]; rw [if_neg (by omega), if_pos (by omega)]
        · rw [Nat.mod_eq_of_lt (show y.toNat < 128 by omega)]
      · have hdl := congrArg List.length hd
        rw [List.length_drop, List.length_cons, List.length_cons] at hdl
        obtain ⟨z, r, rfl⟩ := List.exists_cons_of_ne_nil (l := r) (fun e0 => by rw [e0] at hdl; simp at hdl; omega)
        have hz : s[e + 2]? = some z := by
          have : (s.drop e)[2]? = some z := by rw [hd]; rfl
          rwa [List.getElem?_drop] at this
        refine hB.el (e + 2) rfl hz ⟨by decide, ?_⟩
        refine hB.el (e + 2) rfl hz ?_
        have hdg : IntKind.i64.wrap (((x.toNat % 128 + y.toNat % 128 * 128 : Nat) : Int) + IntKind.i64.wrap ((IntKind.i64.wrap (z.toNat : Int)).tmod 128 * 16384)) = ((x.toNat % 128 + y.toNat % 128 * 128 + z.toNat % 128 * 16384 : Nat) : Int) := dig (n := x.toNat % 128 + y.toNat % 128 * 128) (x := z.toNat) (W_ := 16384) u8lt (by omega)
        rw [hdg, wrapS (by omega)]
        refine bLt (fun hlo => ?_) (fun hhi => ⟨⟨rfl, .inr (.inr (.inr ⟨rfl, x, y, z, _, hd, hx, hy, by omega⟩))⟩, by dsimp only; omega⟩)
        simp only [List.length_cons] at hdl
        refine fin (n := x.toNat % 128 + y.toNat % 128 * 128 + z.toNat * 16384) (k := 3) (r := r) ?_ (by rw [hd]; rfl) (by omega) ?_ (by omega)
        · rw [hd]; simp only [Scr.rdN]; rw [if_neg (by omega), if_neg (by omega), if_pos (by omega)]
        · rw [Nat.mod_eq_of_lt (show z.toNat < 128 by omega)]
      · omega
  · rintro _ w1 ⟨hr, rfl⟩
    refine ⟨?_, rfl⟩
    unfold Scr.stepR
    rw [hr, hbn, wrapS (by omega)]; rfl

theorem c_rGet {b : Sl} {s : Bytes} (hB : Byt W b s) (hc : b.n ≤ b.c) (hl : s.length < 1000000) (h : Sep E L W) : Calls P fn_millpondref20_Get #[.slice b.p b.n b.c] W (Ret fun v w' => GetEnd s v w' ∧ Grow W w' ∧ Sep E L w') := by
  apply of_millpondref20_Get
  unfold sh_millpondref20_Get
  have hbn := hB.n
  have fin : ∀ {w' : World} {L' : List Asn} {i : Nat}, Sep (World.env W) L' w' → L'[i]? = some (old W.heap) → Grow W w' := fun hh hi => grow_old rfl hh hi
  refine ⟨fun x i w' => ∃ (l : List Scr.Op) (e : Nat), i = e ∧ e ≤ s.length ∧ s = Scr.text l ++ s.drop e ∧ (∀ o ∈ l, Scr.Ok o) ∧ l.length ≤ 1000 ∧ x.n = l.length ∧ Sep (World.env W) [rowA x 5 (recs Scr.Op.vs l), old W.heap] w',
    fun _ i _ => (s.length - i).toNat, ⟨[], 0, rfl, Nat.zero_le _, rfl, by simp, by simp, rfl, rowA.none_ (Sep.start W)⟩, ?_⟩
  rintro _ x i w1 ⟨l, e, rfl, hes, hs, hok, hl1000, hxn, h1⟩
  refine bLt (fun hlt => ?_) (fun hge => ?_)
  · obtain ⟨c, hx⟩ : ∃ c, s[e]? = some c := ⟨_, List.getElem?_eq_getElem (by omega)⟩
    have hd := Go.Scr.drop_cons hx
    have hcl := c.toNat_lt
    refine (hB.grow (fin (i := 1) h1 rfl)).el e rfl hx ?_
    refine Al.i h1 (fun p9 w2 h2 => ?_)
    refine zst _ h2 rfl (fun w3 h3 => ?_)
    rw [w64 (n := (c.toNat : Int)) (by omega) (by omega)] at h3
    rw [wrapS (by omega)]
    have l1 := Scr.stepR_le s (e := e + 1) (by omega)
    refine use (c_rtake (hB.grow (fin (i := 2) h3 rfl)) hl (e := e + 1) (by omega) h3) ?_
    rintro _ w4 ⟨rfl, rfl⟩
    refine ⟨_, _, rfl, St.i h3 (by show 1 < 5; decide) (fun w5 h5 => ?_)⟩
    have l2 := Scr.stepR_le s l1.2
    refine use (c_rtake (hB.grow (fin (i := 2) h5 rfl)) hl l1.2 h5) ?_
    rintro _ w6 ⟨rfl, rfl⟩
    refine ⟨_, _, rfl, St.i h5 (by show 2 < 5; decide) (fun w7 h7 => ?_)⟩
    have l3 := Scr.stepR_le s l2.2
    refine use (c_rtake (hB.grow (fin (i := 2) h7 rfl)) hl l2.2 h7) ?_
    rintro _ w8 ⟨rfl, rfl⟩
    refine ⟨_, _, rfl, St.i h7 (by show 3 < 5; decide) (fun w9 h9 => ?_)⟩
    have l4 := Scr.stepR_le s l3.2
    refine use (c_rtake (hB.grow (fin (i := 2) h9 rfl)) hl l3.2 h9) ?_
    rintro _ w10 ⟨rfl, rfl⟩
    refine ⟨_, _, rfl, St.i h9 (by show 4 < 5; decide) (fun w11 h11 => ?_)⟩
    have h11 : Sep (World.env W) [blk p9 (Scr.opR c (Scr.four s (e + 1))).vs, rowA x 5 (recs Scr.Op.vs l), old W.heap] w11 := h11
    have hf : (Scr.stepR s (Scr.stepR s (Scr.stepR s (Scr.stepR s (e + 1)).2).2).2).2 = (Scr.four s (e + 1)).e := rfl
    have hle := Scr.four_le s (e := e + 1) (by omega)
    have ht := Scr.opR_take hd
    rw [hf]
    generalize hF : Scr.four s (e + 1) = F at *
    have stop : ∀ {w' : World} {i : Nat} {L' : List Asn}, (Scr.takeO (s.drop e) = none ∨ 1000 ≤ l.length) → Sep (World.env W) L' w' → L'[i]? = some (old W.heap) → (∃ q : Nat, L'[q]? = some (rowA x 5 (recs Scr.Op.vs l))) →
        GetEnd s (.tuple #[.slice x.p x.n x.c, .int .i64 20, .int .i64 (e : Nat)]) w' ∧ Grow W w' ∧ Sep E L w' := by
      rintro w' i L' hno hh hi ⟨q, hq⟩
      have g := fin hh hi
      refine ⟨⟨l, s.drop e, x, 20, (e : Nat), ⟨hs, hok, hl1000, ?_⟩, rfl, Ops.row (q := q) hh hq hxn, .inr ⟨?_, rfl, ?_⟩⟩, g, h.grow g⟩
      · rcases hno with hno | hno
        · exact .inr (.inr (Scr.takeO_none hno))
        · exact .inr (.inl (by omega))
      · rw [hd]; simp
      · rw [List.length_drop]; omega
    refine ⟨fun w' => Scr.takeO (s.drop e) = some (Scr.opR c F, s.drop F.e) ∧ F.e ≤ s.length ∧ l.length < 1000 ∧ Sep (World.env W) [blk p9 (Scr.opR c F).vs, rowA x 5 (recs Scr.Op.vs l), old W.heap] w', ?_, ?_⟩
    · refine Dr.i h11 (fun w12 h12 => ?_)
      refine bGt (fun hgt => ?_) (fun hle' => ?_)
      · rcases ht with ht | ht
        · exact stop (i := 2) (.inl ht.1) h12 rfl ⟨1, rfl⟩
        · have := ht.2.1; omega
      · refine ⟨_, h12.cell 0, _, h12.cell 1, _, h12.cell 2, _, h12.cell 3, _, h12.cell 4, ⟨by omega, by omega⟩, ⟨by omega, by omega⟩, ?_⟩
        have hsub : ∀ {w' : World}, Grow W w' → Byt w' ⟨slA b.p e b.c 1, F.e - e, b.c - e⟩ ((s.drop e).take (F.e - e)) := fun g => Byt.sub (hB.grow g) hc (by omega)
        refine ⟨_, cvI (hsub (fin (i := 2) h12 rfl)), ?_⟩
        refine use (c_rOne (Scr.opR c F) h12) ?_
        rintro _ w13 ⟨rfl, _, h13⟩
        refine ⟨_, rfl, _, cvI (hsub (fin (i := 2) h13 rfl)), rfl, ?_⟩
        refine bSn (fun hne => ?_) (fun heq => ?_)
        · rcases ht with ht | ht
          · exact stop (i := 2) (.inl ht.1) h13 rfl ⟨1, rfl⟩
          · exact absurd ht.2.2 hne
        · refine bGe (fun hh => stop (i := 2) (.inr (by omega)) h13 rfl ⟨1, rfl⟩) (fun hh => ?_)
          rcases ht with ht | ht
          · exact absurd heq (ht.2 (by omega))
          · exact ⟨ht.1, by omega, by omega, h13⟩
    · rintro _ w12 ⟨htk, hFe, hfew, h12⟩
      obtain ⟨hoo, hor⟩ := Scr.takeO_some htk
      have hol := congrArg List.length hor
      rw [List.length_append, List.length_drop, List.length_drop] at hol
      have hcl := (Scr.code_len hoo).1
      refine ⟨_, h12.cell 0, _, h12.cell 1, _, h12.cell 2, _, h12.cell 3, _, h12.cell 4, ?_⟩
      refine Al.i h12.tail (fun p51 w13 h13 => ?_)
      have h13 : Sep (World.env W) [blk p51 (Scr.opR c F).vs, rowA x 5 (recs Scr.Op.vs l), old W.heap] w13 := h13
      refine op_push hxn (by omega) h13 (fun x' w14 hn14 h14 => ?_)
      refine ⟨⟨l ++ [Scr.opR c F], F.e, rfl, hFe, ?_, fun q hq => ?_, by simp; omega, hn14, h14⟩, by dsimp only; omega⟩
      · rw [Scr.text_append, Scr.text_one, List.append_assoc, ← hor, ← hs]
      · rcases List.mem_append.1 hq with hq | hq
        · exact hok q hq
        · rw [List.mem_singleton.1 hq]; exact hoo
  · have g := fin (i := 1) h1 rfl
    have he : s.drop e = [] := List.drop_eq_nil_of_le (by omega)
    rw [he] at hs
    exact ⟨⟨l, [], x, 0, 0, ⟨hs, hok, hl1000, .inl rfl⟩, rfl, Ops.row (q := 0) h1 rfl hxn, .inl ⟨rfl, rfl, rfl⟩⟩, g, h.grow g⟩

end Go.Mp
