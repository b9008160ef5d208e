/- What script's functions answer: operations are read. -/
import Derived.Test.YtkjihkmkchcmcaaGreatDoorScC
set_option maxRecDepth 100000
namespace Go.Scr
open Go.Lib Go.Ct
/-- So many numbers, one behind the other. -/
def decs : Nat → Bytes → Option (List Nat × Bytes)
  | 0, s => some ([], s)
  | k + 1, s => match decs k s with
    | none => none
    | some (vs, r) => match dec r with
      | none => none
      | some (n, r) => some (vs ++ [n], r)
theorem decs_len : ∀ {k : Nat} {s r : Bytes} {vs : List Nat}, decs k s = some (vs, r) → vs.length = k
  | 0, s, r, vs, h => by
    simp only [decs, Option.some.injEq, Prod.mk.injEq] at h
    rw [← h.1]; rfl
  | k + 1, s, r, vs, h => by
    simp only [decs] at h
    split at h
    · cases h
    · next vs' r' h1 =>
      split at h
      · cases h
      · next n r2 h2 =>
        simp only [Option.some.injEq, Prod.mk.injEq] at h
        rw [← h.1, List.length_append, decs_len h1]; rfl
theorem takeO_decs (x : UInt8) (s : Bytes) : takeO (x :: s) = if x.toNat ≤ 13 then match decs 4 s with
    | none => none
    | some (vs, r) => some (⟨x.toNat, vs.getD 0 0, vs.getD 1 0, vs.getD 2 0, vs.getD 3 0⟩, r)
    else none := by
  simp only [takeO, decs]
  split
  · cases h1 : dec s with
    | none => rfl
    | some x1 =>
      obtain ⟨a, s1⟩ := x1
      simp only
      cases h2 : dec s1 with
      | none => rfl
      | some x2 =>
        obtain ⟨b, s2⟩ := x2
        simp only
        cases h3 : dec s2 with
        | none => rfl
        | some x3 =>
          obtain ⟨c, s3⟩ := x3
          simp only
          cases h4 : dec s3 with
          | none => rfl
          | some x4 => rfl
  · rfl
end Go.Scr
namespace Go.Mp
open Go Go.Vc Go.Sp Go.Proofs Go.Ct

variable {E : Env} {L : List Asn} {w W V : World}

theorem orStep {n i x : Nat} {I : Int} (hI : I = (i : Nat)) (hi : i < 3) (hn : n < 2 ^ (7 * i)) (hx : x < 256) :
    orI .i64 (n : Int) (IntKind.i64.wrap (andI .i64 (IntKind.i64.wrap (x : Int)) 127 * 2 ^ (min (IntKind.u64.wrap (IntKind.i64.wrap (7 * I))).toNat 64))) = ((n + x % 128 * 2 ^ (7 * i) : Nat) : Int) := by
  subst hI
  have h7 : 2 ^ (7 * i) ≤ 2 ^ 14 := Nat.pow_le_pow_right (by decide) (by omega)
  have h14 : (2 : Nat) ^ 14 = 16384 := by decide
  have e1 : (IntKind.u64.wrap (IntKind.i64.wrap (7 * (i : Int)))).toNat = 7 * i := by
    rw [w64 (by omega) (by omega), wrapU64 (by omega) (by omega)]; omega
  have e2 : min (7 * i) 64 = 7 * i := by omega
  rw [w64 (n := (x : Int)) (by omega) (by omega), and127 hx, e1, e2]
  have e3 : ((x % 128 : Nat) : Int) * 2 ^ (7 * i) = ((x % 128 * 2 ^ (7 * i) : Nat) : Int) := by
    rw [Int.natCast_mul, Int.natCast_pow]; rfl
  have hle : x % 128 * 2 ^ (7 * i) ≤ 127 * 16384 := Nat.mul_le_mul (by omega) (by omega)
  rw [e3, w64 (by omega) (by omega)]
  exact orAdd hn (by omega)

/-- What a number's reading came to. -/
def GetNum (V : World) (l : Bytes) (v : Value) : Prop :=
  ∃ (n : Int) (x : Sl) (ok : Bool), v = .tuple #[.int .i64 n, .slice x.p x.n x.c, .bool ok] ∧ match Scr.dec l with
    | some (m, r) => ok = true ∧ n = (m : Nat) ∧ Byt V x r ∧ x.n ≤ x.c
    | none => ok = false

theorem drop_end {b : Sl} {l : Bytes} (hB : Byt V b l) (hc : b.n ≤ b.c) (k : Nat) {K : Int} (hK : K = (k : Nat)) : Byt V ⟨slA b.p K.toNat b.c 1, b.n - K.toNat, b.c - K.toNat⟩ (l.drop k) ∧ b.n - K.toNat ≤ b.c - K.toNat := by
  subst hK
  rw [Int.toNat_natCast]
  exact ⟨hB.drop hc, by omega⟩

theorem c_get {b : Sl} {l : Bytes} (hB : Byt V b l) (hc : b.n ≤ b.c) (g0 : Grow V W) (hl : l.length < 1000000) (h : Sep E L W) : Calls P fn_script_get #[.slice b.p b.n b.c] W (Ret fun v w' => GetNum V l v ∧ Grow W w' ∧ Sep E L w') := by
  apply of_script_get
  unfold sh_script_get
  have hbn := hB.n
  have fin : ∀ {w' : World} {L' : List Asn} {i : Nat}, Sep (World.env W) L' w' → L'[i]? = some (old W.heap) → Grow W w' := fun hh hi => grow_old rfl hh hi
  have none_ : ∀ {w' : World} {n : Int} {x : Sl}, Scr.dec l = none → Sep (World.env W) [old W.heap] w' → GetNum V l (.tuple #[.int .i64 n, .slice x.p x.n x.c, .bool false]) ∧ Grow W w' ∧ Sep E L w' := by
    intro w' n x hd hh
    have g := fin (i := 0) hh rfl
    refine ⟨⟨n, x, false, rfl, ?_⟩, g, h.grow g⟩
    rw [hd]
  have some_ : ∀ {w' : World} {m k : Nat} {n K : Int}, Scr.dec l = some (m, l.drop k) → n = (m : Nat) → K = (k : Nat) → Sep (World.env W) [old W.heap] w' →
      GetNum V l (.tuple #[.int .i64 n, .slice (slA b.p K.toNat b.c 1) (b.n - K.toNat) (b.c - K.toNat), .bool true]) ∧ Grow W w' ∧ Sep E L w' := by
    intro w' m k n K hd hn hK hh
    have g := fin (i := 0) hh rfl
    obtain ⟨e1, e2⟩ := drop_end hB hc k hK
    refine ⟨⟨n, ⟨slA b.p K.toNat b.c 1, b.n - K.toNat, b.c - K.toNat⟩, true, rfl, ?_⟩, g, h.grow g⟩
    rw [hd]
    exact ⟨rfl, hn, e1, e2⟩
  refine ⟨fun n i w' => Sep (World.env W) [old W.heap] w' ∧ ((i = 1 ∧ ∃ x r, l = x :: r ∧ 128 ≤ x.toNat ∧ n = ((x.toNat % 128 : Nat) : Int)) ∨
      (i = 2 ∧ ∃ x y r, l = x :: y :: r ∧ 128 ≤ x.toNat ∧ 128 ≤ y.toNat ∧ n = ((x.toNat % 128 + y.toNat % 128 * 128 : Nat) : Int)) ∨
      (i = 3 ∧ ∃ x y z r, l = x :: y :: z :: r ∧ 128 ≤ x.toNat ∧ 128 ≤ y.toNat ∧ 128 ≤ z.toNat)),
    fun _ i _ => (3 - i).toNat, ?_, ?_⟩
  · refine ⟨fun w' => l ≠ [] ∧ w' = W, ?_, ?_⟩
    · refine bGe (fun hg => none_ (x := ⟨none, 0, 0⟩) ?_ (Sep.start W)) (fun hlt => ?_)
      · have : l = [] := List.eq_nil_of_length_eq_zero (by omega)
        rw [this]; rfl
      · exact bF (by decide) ⟨fun e => by rw [e] at hbn; simp at hbn; omega, rfl⟩
    · rintro _ w1 ⟨hne, rfl⟩
      obtain ⟨x, r, rfl⟩ := List.exists_cons_of_ne_nil hne
      have hx := x.toNat_lt
      refine (hB.grow g0).el 0 rfl rfl ⟨by decide, ?_⟩
      have eo := orStep (n := 0) (i := 0) (x := x.toNat) (I := 0) rfl (by omega) (by decide) hx
      have e0 : orI .i64 0 (IntKind.i64.wrap (andI .i64 (IntKind.i64.wrap (x.toNat : Int)) 127 * 2 ^ (min (IntKind.u64.wrap (IntKind.i64.wrap (7 * 0))).toNat 64))) = ((x.toNat % 128 : Nat) : Int) := by
        refine eo.trans ?_
        simp
      rw [e0, w64 (n := (x.toNat : Int)) (by omega) (by omega)]
      refine bGe (fun hg => ⟨Sep.start w1, .inl ⟨by decide, x, r, rfl, by omega, rfl⟩⟩) (fun hlt => ?_)
      have hw : IntKind.i64.wrap (0 + 1) = ((1 : Nat) : Int) := by decide
      refine Dr.i (Sep.start w1) (fun w2 h2 => ⟨⟨by rw [hw]; omega, by rw [hw, hbn]; simp only [List.length_cons]; omega⟩, ?_⟩)
      refine bT (by decide) ?_
      refine some_ (m := x.toNat) (k := 1) ?_ ?_ hw h2
      · simp only [Scr.dec]; rw [if_pos (by omega)]; rfl
      · rw [Nat.mod_eq_of_lt (by omega)]
  · rintro _ n i w1 ⟨h1, hst⟩
    refine ⟨fun w' => i < (l.length : Int) ∧ i < 3 ∧ Sep (World.env W) [old W.heap] w', ?_, ?_⟩
    · refine bGe (fun hg => none_ (x := ⟨none, 0, 0⟩) ?_ h1) (fun hlt => ?_)
      · rcases hst with ⟨rfl, x, r, rfl, hx, _⟩ | ⟨rfl, x, y, r, rfl, hx, hy, _⟩ | ⟨rfl, x, y, z, r, rfl, hx, hy, hz⟩
        · have : r = [] := List.eq_nil_of_length_eq_zero (by simp at hbn; omega)
          subst this
          simp only [Scr.dec]; rw [if_neg (by omega)]
        · have : r = [] := List.eq_nil_of_length_eq_zero (by simp at hbn; omega)
          subst this
          simp only [Scr.dec]; rw [if_neg (by omega), if_neg (by omega)]
        · simp only [Scr.dec]; rw [if_neg (by omega), if_neg (by omega), if_neg (by omega)]
      · refine bGe (fun hg => none_ (x := ⟨none, 0, 0⟩) ?_ h1) (fun hlt3 => ⟨by omega, hlt3, h1⟩)
        rcases hst with ⟨rfl, _⟩ | ⟨rfl, _⟩ | ⟨rfl, x, y, z, r, rfl, hx, hy, hz⟩
        · omega
        · omega
        · simp only [Scr.dec]; rw [if_neg (by omega), if_neg (by omega), if_neg (by omega)]
    · rintro _ w2 ⟨hlt, hlt3, h2⟩
      have g2 := fin (i := 0) h2 rfl
      rcases hst with ⟨rfl, x, r, rfl, hx, rfl⟩ | ⟨rfl, x, y, r, rfl, hx, hy, rfl⟩ | ⟨rfl, _⟩
      · obtain ⟨y, r, rfl⟩ := List.exists_cons_of_ne_nil (l := r) (fun e => by rw [e] at hlt; simp at hlt)
        have hyl := y.toNat_lt
        refine (hB.grow (g0.trans g2)).el 1 rfl rfl ⟨by decide, ?_⟩
        have eo := orStep (n := x.toNat % 128) (i := 1) (x := y.toNat) (I := 1) rfl (by omega) (by show _ < 128; omega) hyl
        rw [eo, w64 (n := (y.toNat : Int)) (by omega) (by omega)]
        refine bGe (fun hg => ⟨⟨h2, .inr (.inl ⟨by decide, x, y, r, rfl, hx, by omega, rfl⟩)⟩, by show (3 - IntKind.i64.wrap (1 + 1)).toNat < (3 - (1 : Int)).toNat; decide⟩) (fun hlt => ?_)
        have hw : IntKind.i64.wrap (1 + 1) = ((2 : Nat) : Int) := by decide
        refine Dr.i h2 (fun w3 h3 => ⟨⟨by rw [hw]; omega, by rw [hw, hbn]; simp only [List.length_cons]; omega⟩, ?_⟩)
        refine bF (by decide) ?_
        by_cases hy0 : y.toNat = 0
        · have e : decide ((y.toNat : Int) > 0) = false := decide_eq_false (by omega)
          rw [e]
          refine none_ (x := ⟨_, _, _⟩) ?_ h3
          simp only [Scr.dec]; rw [if_neg (by omega), if_pos (by omega), if_pos hy0]
        · have e : decide ((y.toNat : Int) > 0) = true := decide_eq_true (by omega)
          rw [e]
          refine some_ (m := x.toNat % 128 + y.toNat * 128) (k := 2) ?_ ?_ hw h3
          · simp only [Scr.dec]; rw [if_neg (by omega), if_pos (by omega), if_neg hy0]; rfl
          · rw [Nat.mod_eq_of_lt (show y.toNat < 128 by omega)]
      · obtain ⟨z, r, rfl⟩ := List.exists_cons_of_ne_nil (l := r) (fun e => by rw [e] at hlt; simp at hlt)
        have hzl := z.toNat_lt
        refine (hB.grow (g0.trans g2)).el 2 rfl rfl ⟨by decide, ?_⟩
        have eo := orStep (n := x.toNat % 128 + y.toNat % 128 * 128) (i := 2) (x := z.toNat) (I := 2) rfl (by omega) (by show _ < 16384; omega) hzl
        rw [eo, w64 (n := (z.toNat : Int)) (by omega) (by omega)]
        refine bGe (fun hg => ⟨⟨h2, .inr (.inr ⟨by decide, x, y, z, r, rfl, hx, hy, by omega⟩)⟩, by show (3 - IntKind.i64.wrap (2 + 1)).toNat < (3 - (2 : Int)).toNat; decide⟩) (fun hlt => ?_)
        have hw : IntKind.i64.wrap (2 + 1) = ((3 : Nat) : Int) := by decide
        refine Dr.i h2 (fun w3 h3 => ⟨⟨by rw [hw]; omega, by rw [hw, hbn]; simp only [List.length_cons]; omega⟩, ?_⟩)
        refine bF (by decide) ?_
        by_cases hz0 : z.toNat = 0
        · have e : decide ((z.toNat : Int) > 0) = false := decide_eq_false (by omega)
          rw [e]
          refine none_ (x := ⟨_, _, _⟩) ?_ h3
          simp only [Scr.dec]; rw [if_neg (by omega), if_neg (by omega), if_pos (by omega), if_pos hz0]
        · have e : decide ((z.toNat : Int) > 0) = true := decide_eq_true (by omega)
          rw [e]
          refine some_ (m := x.toNat % 128 + y.toNat % 128 * 128 + z.toNat * 16384) (k := 3) ?_ ?_ hw h3
          · simp only [Scr.dec]; rw [if_neg (by omega), if_neg (by omega), if_pos (by omega), if_neg hz0]; rfl
          · rw [Nat.mod_eq_of_lt (show z.toNat < 128 by omega)]
      · omega

/-! ### an operation -/

def ps (k : Nat) (vs : List Nat) : Scr.Op := ⟨k, vs.getD 0 0, vs.getD 1 0, vs.getD 2 0, vs.getD 3 0⟩
theorem set_any (y : Scr.Op) (j : Nat) (n : Int) : ∃ y' : Scr.Op, y.vs.set (j + 1) (.int .i64 n) = y'.vs := by
  match j with
  | 0 => exact ⟨⟨y.k, n, y.b, y.c, y.d⟩, rfl⟩
  | 1 => exact ⟨⟨y.k, y.a, n, y.c, y.d⟩, rfl⟩
  | 2 => exact ⟨⟨y.k, y.a, y.b, n, y.d⟩, rfl⟩
  | 3 => exact ⟨⟨y.k, y.a, y.b, y.c, n⟩, rfl⟩
  | j + 4 => exact ⟨y, by rw [List.set_eq_of_length_le (by show 5 ≤ _; omega)]⟩
theorem ps_set (k : Nat) (vs : List Nat) (n : Nat) (h : vs.length < 4) : (ps k vs).vs.set (vs.length + 1) (.int .i64 n) = (ps k (vs ++ [n])).vs := by
  match vs, h with
  | [], _ => rfl
  | [_], _ => rfl
  | [_, _], _ => rfl
  | [_, _, _], _ => rfl

def TakeEnd (V : World) (l : Bytes) (v : Value) : Prop :=
  ∃ (o : Scr.Op) (x : Sl) (ok : Bool), v = .tuple #[o.v, .slice x.p x.n x.c, .bool ok] ∧ match Scr.takeO l with
    | some (p, r) => ok = true ∧ o = p ∧ Byt V x r ∧ x.n ≤ x.c
    | none => ok = false

theorem idx4 (b : Nat) {j : Nat} (hj : j < 4) (w : World) : Sem.run P (Instr.index 58 (.agg #[.pointer (some ((⟨b, 0, none⟩ : Addr).add 1)), .pointer (some ((⟨b, 0, none⟩ : Addr).add 2)), .pointer (some ((⟨b, 0, none⟩ : Addr).add 3)), .pointer (some ((⟨b, 0, none⟩ : Addr).add 4))]) (.int .i64 (j : Nat))) w = .ok (.pointer (some ⟨b, j + 1, none⟩)) w := by
  match j, hj with
  | 0, _ => rfl
  | 1, _ => rfl
  | 2, _ => rfl
  | 3, _ => rfl

theorem c_take {b : Sl} {l : Bytes} (hB : Byt V b l) (hc : b.n ≤ b.c) (hne : l ≠ []) (g0 : Grow V W) (hl : l.length < 1000000) (h : Sep E L W) : Calls P fn_script_take #[.slice b.p b.n b.c] W (Ret fun v w' => TakeEnd V l v ∧ Grow W w' ∧ Sep E L w') := by
  apply of_script_take
  unfold sh_script_take
  have hbn := hB.n
  have fin : ∀ {w' : World} {L' : List Asn} {i : Nat}, Sep (World.env W) L' w' → L'[i]? = some (old W.heap) → Grow W w' := fun hh hi => grow_old rfl hh hi
  obtain ⟨x, s, rfl⟩ := List.exists_cons_of_ne_nil hne
  have hx := x.toNat_lt
  refine Al.i (Sep.start W) (fun p1 w1 h1 => ?_)
  refine (hB.grow (g0.trans (fin (i := 1) h1 rfl))).el 0 rfl rfl ?_
  refine Al.i h1 (fun p5 w2 h2 => ?_)
  refine zst _ h2 rfl (fun w3 h3 => ?_)
  rw [w64 (n := (x.toNat : Int)) (by omega) (by omega)] at h3
  refine Dr.i h3 (fun w4 h4 => ?_)
  have h4 : Sep (World.env W) [blk p5 (ps x.toNat []).vs, blk p1 [.int .i64 0, .int .i64 0, .int .i64 0, .int .i64 0, .int .i64 0], old W.heap] w4 := h4
  refine ⟨⟨by decide, by rw [hbn]; simp only [List.length_cons]; omega⟩, _, h4.cell 0, ?_⟩
  obtain ⟨hD, hDc⟩ := drop_end hB hc 1 (K := 1) rfl
  refine ⟨fun rest ok i w' => ∃ (j : Nat) (y : Scr.Op), i = j ∧ j ≤ 4 ∧ Sep (World.env W) [blk p5 y.vs, blk p1 [.int .i64 0, .int .i64 0, .int .i64 0, .int .i64 0, .int .i64 0], old W.heap] w' ∧
      ((ok = true ∧ x.toNat ≤ 13 ∧ ∃ vs r, Scr.decs j s = some (vs, r) ∧ y = ps x.toNat vs ∧ Byt V rest r ∧ rest.n ≤ rest.c ∧ r.length ≤ s.length) ∨ (ok = false ∧ (¬ x.toNat ≤ 13 ∨ ∀ k, j ≤ k → Scr.decs k s = none))),
    fun _ _ i _ => (4 - i).toNat, ⟨0, ps x.toNat [], rfl, by omega, h4, ?_⟩, ?_⟩
  · by_cases h13 : x.toNat ≤ 13
    · exact .inl ⟨decide_eq_true (by show (x.toNat : Int) ≤ 13; omega), h13, [], s, rfl, rfl, hD, hDc, Nat.le_refl _⟩
    · exact .inr ⟨decide_eq_false (by show ¬ (x.toNat : Int) ≤ 13; omega), .inl h13⟩
  rintro _ rest ok i w5 ⟨j, y, rfl, hj, h5, hst⟩
  refine bLt (fun hlt => ?_) (fun hge => ?_)
  · have hlt : j < 4 := by omega
    refine ⟨_, w5, idx4 p5 hlt w5, ?_⟩
    rcases hst with ⟨rfl, h13, vs, r, hds, rfl, hR, hRc, hrl⟩ | ⟨rfl, hno⟩
    · have hvl := Scr.decs_len hds
      refine bifT ?_
      refine use (c_get hR hRc (g0.trans (fin (i := 2) h5 rfl)) (by simp at hl; omega) h5) ?_
      rintro _ w6 ⟨⟨n, z, ok, rfl, hd⟩, _, h6⟩
      refine ⟨n, z, ok, rfl, _, rfl, ?_⟩
      refine St.i h6 (by show j + 1 < 5; omega) (fun w7 h7 => ?_)
      rw [wrapS (by omega)]
      cases hdr : Scr.dec r with
      | some q =>
        obtain ⟨m, r'⟩ := q
        rw [hdr] at hd
        obtain ⟨rfl, rfl, hR', hRc'⟩ := hd
        rw [← hvl, ps_set x.toNat vs m (by omega)] at h7
        have := congrArg List.length (Scr.dec_some hdr).2
        rw [List.length_append] at this
        refine ⟨⟨j + 1, _, rfl, hlt, h7, .inl ⟨rfl, h13, vs ++ [m], r', ?_, rfl, hR', hRc', by omega⟩⟩, by dsimp only; omega⟩
        simp only [Scr.decs, hds, hdr]
      | none =>
        rw [hdr] at hd
        obtain ⟨y', hy'⟩ := set_any (ps x.toNat vs) j n
        rw [hy'] at h7
        refine ⟨⟨j + 1, y', rfl, hlt, h7, .inr ⟨hd, .inr (fun k hk => ?_)⟩⟩, by dsimp only; omega⟩
        obtain ⟨t, rfl⟩ : ∃ t, k = j + 1 + t := ⟨k - (j + 1), by omega⟩
        induction t with
        | zero => simp only [Scr.decs, hds, hdr]
        | succ t ih => rw [← Nat.add_assoc, Scr.decs, ih (by omega)]
    · refine bifF ?_
      rw [wrapS (by omega)]
      refine ⟨⟨j + 1, y, rfl, hlt, h5, .inr ⟨rfl, ?_⟩⟩, by dsimp only; omega⟩
      rcases hno with hno | hno
      · exact .inl hno
      · exact .inr (fun k hk => hno k (by omega))
  · have e : j = 4 := by omega
    subst e
    refine ⟨_, h5.cell 0, _, h5.cell 1, _, h5.cell 2, _, h5.cell 3, _, h5.cell 4, ?_⟩
    refine zst _ (h5.fr 1 rfl) rfl (fun w6 h6 => ?_)
    have g := fin (i := 2) h6 rfl
    refine ⟨_, h6.cell 0, _, h6.cell 1, _, h6.cell 2, _, h6.cell 3, _, h6.cell 4, ⟨y, rest, ok, rfl, ?_⟩, g, h.grow g⟩
    rw [Scr.takeO_decs]
    rcases hst with ⟨rfl, h13, vs, r, hds, rfl, hR, hRc, _⟩ | ⟨rfl, hno⟩
    · rw [if_pos h13, hds]
      exact ⟨rfl, rfl, hR, hRc⟩
    · rcases hno with hno | hno
      · rw [if_neg hno]
      · by_cases h13 : x.toNat ≤ 13
        · rw [if_pos h13, hno 4 (Nat.le_refl _)]
        · rw [if_neg h13]

/-- What came of bytes. -/
def GetEnd (s : Bytes) (v : Value) (w' : World) : Prop :=
  ∃ (l : List Scr.Op) (r : Bytes) (x : Sl) (e n : Int), Scr.Got s l r ∧ v = .tuple #[.slice x.p x.n x.c, .int .i64 e, .int .i64 n] ∧ Ops w' x l ∧ ((r = [] ∧ e = 0 ∧ n = 0) ∨ (r ≠ [] ∧ e = 20 ∧ n = (s.length : Int) - r.length))

theorem c_Get {b : Sl} {s : Bytes} (hB : Byt W b s) (hc : b.n ≤ b.c) (hl : s.length < 1000000) (h : Sep E L W) : Calls P fn_script_Get #[.slice b.p b.n b.c] W (Ret fun v w' => GetEnd s v w' ∧ Grow W w' ∧ Sep E L w') := by
  apply of_script_Get
  unfold sh_script_Get
  have hbn := hB.n
  have fin : ∀ {w' : World} {L' : List Asn} {i : Nat}, Sep (World.env W) L' w' → L'[i]? = some (old W.heap) → Grow W w' := fun hh hi => grow_old rfl hh hi
  refine ⟨fun x rest w' => ∃ (l : List Scr.Op) (r : Bytes), s = Scr.text l ++ r ∧ (∀ o ∈ l, Scr.Ok o) ∧ l.length ≤ 1000 ∧ x.n = l.length ∧ Byt W rest r ∧ rest.n ≤ rest.c ∧ Sep (World.env W) [rowA x 5 (recs Scr.Op.vs l), old W.heap] w',
    fun _ rest _ => rest.n, ⟨[], s, rfl, by simp, by simp, rfl, hB, hc, rowA.none_ (Sep.start W)⟩, ?_⟩
  rintro _ x rest w1 ⟨l, r, hs, hok, hl1000, hxn, hR, hRc, h1⟩
  have hrn := hR.n
  have hrs : r.length ≤ s.length := by rw [hs, List.length_append]; omega
  refine bGt (fun hgt => ?_) (fun hle => ?_)
  · have hne : r ≠ [] := fun e => by rw [e] at hrn; simp at hrn; omega
    refine use (c_take hR hRc hne (fin (i := 1) h1 rfl) (by omega) h1) ?_
    rintro _ w2 ⟨⟨o, z, ok, rfl, ht⟩, _, h2⟩
    refine ⟨_, _, _, _, _, z, ok, rfl, ?_⟩
    refine Al.i h2 (fun p16 w3 h3 => ?_)
    refine zst _ h3 rfl (fun w4 h4 => ?_)
    have h4 : Sep (World.env W) [blk p16 o.vs, rowA x 5 (recs Scr.Op.vs l), old W.heap] w4 := h4
    refine ⟨fun stop w' => stop = (!ok || decide (1000 ≤ l.length)) ∧ Sep (World.env W) [blk p16 o.vs, rowA x 5 (recs Scr.Op.vs l), old W.heap] w', ?_, ?_⟩
    · refine bifI (fun hh => ⟨?_, h4⟩) (fun hh => ⟨?_, h4⟩)
      · have : ok = false := by simpa using hh
        rw [this]; rfl
      · have : ok = true := by simpa using hh
        rw [this]
        simp only [Bool.not_true, Bool.false_or]
        exact decide_eq_decide.2 (by omega)
    · rintro _ stop w5 ⟨rfl, h5⟩
      refine bifI (fun hstop => ?_) (fun hgo => ?_)
      · have g := fin (i := 2) h5 rfl
        refine ⟨⟨l, r, x, 20, (s.length : Int) - r.length, ⟨hs, hok, hl1000, ?_⟩, ?_, Ops.row (q := 1) h5 rfl hxn, .inr ⟨hne, rfl, rfl⟩⟩, g, h.grow g⟩
        · cases htk : Scr.takeO r with
          | none => exact .inr (.inr (Scr.takeO_none htk))
          | some q =>
            rw [htk] at ht
            rw [ht.1] at hstop
            have : 1000 ≤ l.length := by simpa using hstop
            exact .inr (.inl (by omega))
        · rw [hbn, hrn, w64 (by omega) (by omega)]
      · simp only [Bool.or_eq_false_iff, Bool.not_eq_false', decide_eq_false_iff_not] at hgo
        obtain ⟨rfl, hfew⟩ := hgo
        cases htk : Scr.takeO r with
        | none => rw [htk] at ht; cases ht
        | some q =>
          obtain ⟨p, r'⟩ := q
          rw [htk] at ht
          obtain ⟨_, rfl, hR', hRc'⟩ := ht
          obtain ⟨hpo, hpr⟩ := Scr.takeO_some htk
          refine ⟨_, h5.cell 0, _, h5.cell 1, _, h5.cell 2, _, h5.cell 3, _, h5.cell 4, ?_⟩
          refine Al.i h5.tail (fun p28 w6 h6 => ?_)
          have h6 : Sep (World.env W) [blk p28 o.vs, rowA x 5 (recs Scr.Op.vs l), old W.heap] w6 := h6
          refine op_push hxn (by omega) h6 (fun x' w7 hn7 h7 => ?_)
          refine ⟨⟨l ++ [o], r', ?_, fun q hq => ?_, by simp; omega, hn7, hR', hRc', h7⟩, ?_⟩
          · rw [hs, hpr, Scr.text_append, Scr.text_one]; simp
          · rcases List.mem_append.1 hq with hq | hq
            · exact hok q hq
            · rw [List.mem_singleton.1 hq]; exact hpo
          · have h1 := congrArg List.length hpr
            have h2 := (Scr.code_len hpo).1
            rw [List.length_append] at h1
            have hrn' := hR'.n
            show z.n < rest.n
            omega
  · have g := fin (i := 1) h1 rfl
    have he : r = [] := List.eq_nil_of_length_eq_zero (by omega)
    subst he
    exact ⟨⟨l, [], x, 0, 0, ⟨hs, hok, hl1000, .inl rfl⟩, rfl, Ops.row (q := 0) h1 rfl hxn, .inl ⟨rfl, rfl, rfl⟩⟩, g, h.grow g⟩

end Go.Mp
