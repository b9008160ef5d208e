/- The document's answers for lang: numbers, lines. -/
import Derived.Test.YticnchdegmfhlaaDoorLnI
set_option maxRecDepth 100000
namespace Go.Mp
open Go Go.Vc Go.Sp Go.Proofs Go.Ct Go.Lg

variable {E : Env} {L : List Asn} {w W : World}

theorem dec_len {u : Nat} (h : u < 18446744073709551616) : (Lib.decDigits u).length ≤ 20 := by rw [Lib.decDigits_length]; exact Lib.nDigits_le20 u h

theorem bsQ42 : bsQ P 42 = true := by kernel_rfl
theorem str9 : isStrT P 9 = true := by kernel_rfl

theorem r_DigitsN (N : Nat) (hN : (N : Int) ≤ 9223372036854775807) (h : Sep E L w) : Calls P fn_millpondref11_Digits #[.int .i64 N] w (Ret fun v w' => v = .string (mk (Lib.decDigits N)) ∧ Grow w w' ∧ Sep E L w') := by
  apply of_millpondref11_Digits
  unfold sh_millpondref11_Digits
  have h0 := Sep.start w
  have fin : ∀ {w' : World}, Sep (World.env w) [old w.heap] w' → Grow w w' := fun hh => grow_old (i := 0) rfl hh rfl
  refine bEq (fun hh => by omega) (fun _ => ?_)
  refine bLt (fun hh => by omega) (fun _ => ?_)
  refine ⟨fun n s w' => ∃ u : Nat, n = u ∧ u ≤ N ∧ (0 < u ∨ bs s = [] → Lib.decDigits u ++ bs s = Lib.decDigits N) ∧ (u = 0 → bs s ≠ [] → bs s = Lib.decDigits N) ∧ Sep (World.env w) [old w.heap] w',
    fun n s _ => n.toNat + (if bs s = [] then 1 else 0), ⟨N, rfl, Nat.le_refl _, fun _ => by show _ ++ [] = _; simp, fun _ hh => absurd rfl hh, h0⟩, ?_⟩
  rintro _ n s w1 ⟨u, rfl, hu, hA, hB, h1⟩
  refine ⟨fun w' => (0 < u ∨ bs s = []) ∧ Sep (World.env w) [old w.heap] w', ?_, ?_⟩
  · refine bGt (fun hh => ⟨.inl (by omega), h1⟩) (fun hh => ?_)
    refine bS (fun e => ⟨.inr e, h1⟩) (fun hne => ?_)
    have hu0 : u = 0 := by omega
    refine ⟨?_, fin h1, h.grow (fin h1)⟩
    have := hB hu0 hne
    rw [← this, mk_bs]
  · rintro _ w2 ⟨hor, h2⟩
    refine ⟨by decide, ?_⟩
    have hmod : ((u : Int).tmod 10) = ((u % 10 : Nat) : Int) := by rw [Int.tmod_eq_emod_of_nonneg (by omega)]; omega
    have hdiv : ((u : Int).tdiv 10) = ((u / 10 : Nat) : Int) := by rw [Int.tdiv_eq_ediv_of_nonneg (by omega)]; omega
    have hd : IntKind.u8.wrap (IntKind.i64.wrap (48 + (u : Int).tmod 10)) = (((UInt8.ofNat (48 + u % 10)).toNat : Nat) : Int) := by
      rw [hmod, w64 (by omega) (by omega), dig (by omega)]
      unfold IntKind.wrap
      simp only [IntKind.signed, IntKind.bits, Bool.false_and]
      simp
      omega
    rw [hd, hdiv]
    refine Al.i h2 (fun b w3 h3 => ?_)
    refine toStr.i [UInt8.ofNat (48 + u % 10)] 0 h3 rfl bsQ42 str9 rfl (fun j hj => ?_) ?_
    · have : j = 0 := by simpa using hj
      subst this; rfl
    · have hA' := hA hor
      have hlen := dec_len (u := N) (by omega)
      have hsl : (bs s).length ≤ 20 := by rw [← hA', List.length_append] at hlen; omega
      have e1 : ([UInt8.ofNat (48 + u % 10)].toArray : Array UInt8) = #[UInt8.ofNat (48 + u % 10)] := rfl
      have hbs : bs ((⟨[UInt8.ofNat (48 + u % 10)].toArray⟩ : ByteArray) ++ s) = UInt8.ofNat (48 + u % 10) :: bs s := by rw [bs_append]; rfl
      refine ⟨?_, by decide, ⟨u / 10, by rw [w64 (by omega) (by omega)], by omega, ?_, ?_, h3.tail⟩, ?_⟩
      · rw [← bs_len s]
        show 1 + _ ≤ _
        omega
      · rw [hbs]
        intro hh
        have hu10 : ¬ u < 10 := by
          rcases hh with hh | hh
          · omega
          · cases hh
        rw [← hA', dec_big hu10]; simp
      · rw [hbs]
        intro hh _
        have hu10 : u < 10 := by omega
        rw [← hA', dec_small hu10, show u % 10 = u by omega]; rfl
      · dsimp only
        rw [hbs, w64 (by omega) (by omega)]
        rw [if_neg (by simp)]
        rcases hor with hh | hh
        · split <;> omega
        · rw [if_pos hh]; omega

theorem r_Digits {n : Int} (hn : i64 n) (h : Sep E L w) : Calls P fn_millpondref11_Digits #[.int .i64 n] w (Ret fun v w' => v = .string (mk (Lib.itoa n)) ∧ Grow w w' ∧ Sep E L w') := by
  by_cases h0 : n < 0
  · apply of_millpondref11_Digits
    unfold sh_millpondref11_Digits
    refine bEq (fun e => ⟨?_, Grow.refl _, h⟩) (fun hne => ?_)
    · subst e
      have : Lib.itoa (-9223372036854775808) = [45, 57, 50, 50, 51, 51, 55, 50, 48, 51, 54, 56, 53, 52, 55, 55, 53, 56, 48, 56] := by
        unfold Lib.itoa
        rw [if_pos (by decide)]
        have e : (-9223372036854775808 : Int).natAbs = 9223372036854775808 := rfl
        rw [e]
        repeat (first | rw [dec_small (by omega)] | rw [dec_big (by omega)])
        rfl
      rw [this]
    refine bLt (fun _ => ?_) (fun hh => by omega)
    obtain ⟨h1, h2⟩ := hn
    have e1 : IntKind.i64.wrap (0 - n) = ((n.natAbs : Nat) : Int) := by rw [w64 (by omega) (by omega)]; omega
    rw [e1]
    have hb : ((n.natAbs : Nat) : Int) ≤ 9223372036854775807 := by omega
    refine use (r_DigitsN n.natAbs hb h) ?_
    rintro _ w1 ⟨rfl, g, h1'⟩
    have hl := dec_len (u := n.natAbs) (by omega)
    refine ⟨_, rfl, ?_, ?_, g, h1'⟩
    · have e3 := mk_size (Lib.decDigits n.natAbs)
      show 1 + _ ≤ _
      omega
    · have e : (ByteArray.mk #[45]) ++ mk (Lib.decDigits n.natAbs) = mk (Lib.itoa n) := by
        apply bs_inj
        rw [bs_append, bs_mk, bs_mk]
        unfold Lib.itoa
        rw [if_pos h0]; rfl
      rw [e]
  · obtain ⟨N, rfl⟩ : ∃ N : Nat, n = N := ⟨n.toNat, by omega⟩
    have e : Lib.itoa (N : Int) = Lib.decDigits N := Lib.itoa_nonneg N
    rw [e]
    exact r_DigitsN N hn.2 h

theorem r_Show {n : Int} (hn : i64 n) (h : Sep E L w) : Calls P fn_millpondref11_Show #[.int .i64 n] w (Ret fun v w' => v = .string (mk (showB n)) ∧ Grow w w' ∧ Sep E L w') := by
  apply of_millpondref11_Show
  unfold sh_millpondref11_Show showB
  refine bEq (fun e => ⟨by rw [if_pos e]; rfl, Grow.refl _, h⟩) (fun hne => ?_)
  refine use (r_Digits hn h) ?_
  rintro _ w1 ⟨rfl, g, h1⟩
  exact ⟨_, rfl, by rw [if_neg hne], g, h1⟩

/-! ### lines -/

theorem elD {b n m : Nat} {f : Addr → Prop} {i : Int} (k : Nat) (hi : i = k) (hk : k < n) (g : f ⟨b, k * m, none⟩) : elAt (some ⟨b, 0, none⟩) n i m f := by
  subst hi
  refine ⟨⟨b, 0, none⟩, rfl, ⟨by omega, by omega⟩, ?_⟩
  rw [add_mk, Nat.zero_add, Int.toNat_natCast]; exact g

theorem r_Words (h : Sep E L W) : Calls P fn_millpondref21_Words #[] W (Ret fun v w' => ∃ b, v = .slice (some ⟨b, 0, none⟩) 14 14 ∧ Grow W w' ∧ Sep E (blk b (strL words) :: L) w') := by
  apply of_millpondref21_Words
  unfold sh_millpondref21_Words
  refine Al.i (Sep.start W) (fun b w1 h1 => ?_)
  obtain ⟨g, h2⟩ := h.join h1 (i := 0) rfl
  exact ⟨b, rfl, g, h2⟩

theorem told_at {k : Nat} (h : k < 14) : (told.map fun n => Value.int .i64 (n : Nat))[k]? = some (.int .i64 (tl k)) := by
  have hl : k < told.length := h
  unfold tl
  rw [List.getD_eq_getElem?_getD, List.getElem?_eq_getElem hl]
  simp [hl]
theorem r_told {k : Nat} (hk : k < 14) (h : Sep E L W) : Calls P fn_millpondref21_told #[.int .i64 k] W (Ret fun v w' => v = .int .i64 (tl k) ∧ Grow W w' ∧ Sep E L w') := by
  apply of_millpondref21_told
  unfold sh_millpondref21_told
  refine Al.i (Sep.start W) (fun b w1 h1 => ?_)
  obtain ⟨g, h2⟩ := h.join h1 (i := 0) rfl
  refine elD k rfl hk ⟨_, ?_, rfl, g, h2.tail⟩
  rw [Nat.mul_one]
  exact (h2.cell k).trans (told_at hk)

def val4 (o : Lg.Op) : List Value := [.int .i64 o.a, .int .i64 o.b, .int .i64 o.c, .int .i64 o.d]
theorem val4_at (o : Lg.Op) {j : Nat} (hj : j < 4) : (val4 o)[j]? = some (.int .i64 (o.val j)) := by
  match j, hj with
  | 0, _ => rfl
  | 1, _ => rfl
  | 2, _ => rfl
  | 3, _ => rfl

/-- What holds of an operation's first fields. -/
structure Good (o : Lg.Op) (j : Nat) : Prop where
  v : ∀ i, i < j → i < tl o.kd → rng (fld o.kd i) (o.val i) = true
  z : ∀ i, i < j → tl o.kd ≤ i → o.val i = 0
  r : 3 ≤ j → o.k = 2 → o.b = 4 → o.c ≤ 1
theorem Good.len {o : Lg.Op} {j : Nat} (h : Good o j) (hk : o.kd < 14) : (wd o.kd ++ Lib.joinTail [32] ((tells o).take j)).length ≤ 160 := by
  rw [List.length_append]
  have h1 := wd_len hk
  have h2 := tail_len (l := (tells o).take j) (fun s hs => by
    obtain ⟨i, hi⟩ := List.mem_iff_getElem?.1 hs
    rw [List.getElem?_take] at hi
    split at hi
    · next hij =>
      have hlt := (List.getElem?_eq_some_iff.1 hi).1
      rw [tells_len] at hlt
      rw [tells_at hlt] at hi
      rw [← Option.some.inj hi]
      exact shw_len (h.v i hij hlt)
    · cases hi)
  have h3 : ((tells o).take j).length ≤ 4 := by
    rw [List.length_take, tells_len]
    have := (tl_le hk).2
    omega
  omega

theorem r_Line (o : Lg.Op) (h : Sep E L W) : Calls P fn_millpondref21_Line #[o.v] W (Ret fun v w' => v = .string (mk ((lineO o).getD [])) ∧ Grow W w' ∧ Sep E L w') := by
  apply of_millpondref21_Line
  unfold sh_millpondref21_Line
  have fin : ∀ {w' : World} {L' : List Asn} {i : Nat}, Sep (World.env W) L' w' → L'[i]? = some (old W.heap) → Grow W w' := fun hh hi => grow_old rfl hh hi
  have bad : ∀ {w' : World}, ¬ Lg.Ok o → Grow W w' → Value.string (ByteArray.mk #[]) = .string (mk ((lineO o).getD [])) ∧ Grow W w' ∧ Sep E L w' := fun hno g => ⟨by rw [lineO_none hno]; rfl, g, h.grow g⟩
  refine Al.i (Sep.start W) (fun p1 w1 h1 => ?_)
  have h1 : Sep (World.env W) [blk p1 o.vs, old W.heap] w1 := h1
  refine ⟨fun w' => 0 ≤ o.k ∧ o.k ≤ 13 ∧ Sep (World.env W) [blk p1 o.vs, old W.heap] w', ?_, ?_⟩
  · refine ⟨_, h1.cell 0, ?_⟩
    refine bLt (fun hh => bad (fun hok => by have := hok.k0; omega) (fin (i := 1) h1 rfl)) (fun h0 => ?_)
    refine ⟨_, h1.cell 0, ?_⟩
    exact bGt (fun hh => bad (fun hok => by have := hok.k1; omega) (fin (i := 1) h1 rfl)) (fun h13 => ⟨h0, h13, h1⟩)
  rintro _ w2 ⟨hk0, hk1, h2⟩
  have hkd : o.kd < 14 := by unfold Lg.Op.kd; omega
  have hko : o.k = (o.kd : Nat) := by unfold Lg.Op.kd; omega
  have htl := tl_le hkd
  refine ⟨_, h2.cell 1, _, h2.cell 2, _, h2.cell 3, _, h2.cell 4, ?_⟩
  refine Al.i h2 (fun p12 w3 h3 => ?_)
  have h3 : Sep (World.env W) [blk p12 (val4 o), blk p1 o.vs, old W.heap] w3 := h3
  refine Dr.i h3 (fun w4 h4 => ?_)
  refine ⟨_, h4.cellAt 1 rfl 0, ?_⟩
  refine use (r_Words h4) ?_
  rintro _ w5 ⟨bw, rfl, _, h5⟩
  refine ⟨⟨some ⟨bw, 0, none⟩, 14, 14⟩, rfl, _, h5.cellAt 2 rfl 0, rfl, ?_⟩
  refine elD o.kd hko hkd ?_
  refine ⟨mk (wd o.kd), ?_, ?_⟩
  · rw [Nat.mul_one]
    refine (h5.cell _).trans ?_
    have := words_at hkd
    simp [strL, strV, this]
  refine ⟨fun s x w' => ∃ j : Nat, x = j ∧ j ≤ 4 ∧ Good o j ∧ s = mk (wd o.kd ++ Lib.joinTail [32] ((tells o).take j)) ∧ Sep (World.env W) [blk p12 (val4 o), blk p1 o.vs, old W.heap] w', fun _ x _ => (4 - x).toNat,
    ⟨0, rfl, by omega, ⟨fun i hi => by omega, fun i hi => by omega, fun hh => by omega⟩, by rw [List.take_zero, joinTail_nil, List.append_nil], h5.tail⟩, ?_⟩
  rintro _ s x w6 ⟨j, rfl, hj, hG, rfl, h6⟩
  have hlen := hG.len hkd
  refine bLt (fun hlt => ?_) (fun hge => ?_)
  · have hlt : j < 4 := by omega
    refine ⟨_, h6.cellAt 1 rfl 0, ?_⟩
    rw [hko]
    refine use (r_told hkd h6) ?_
    rintro _ w7 ⟨rfl, _, h7⟩
    refine ⟨_, rfl, ?_⟩
    have g7 := fin (i := 2) h7 rfl
    refine bGe (fun hg => ?_) (fun hl => ?_)
    · refine elD j rfl hlt ?_
      refine ⟨o.val j, by rw [Nat.mul_one]; exact (h7.cell j).trans (val4_at o hlt), ?_⟩
      refine bNe (fun hne => bad (fun hok => hne (hok.z j (by omega) hlt)) g7) (fun he => ?_)
      rw [wrapS (by omega)]
      refine ⟨⟨j + 1, rfl, by omega, ⟨fun i hi ht => hG.v i (by omega) ht, fun i hi ht => ?_, fun h3 e2 e4 => ?_⟩, ?_, h7⟩, by dsimp only; omega⟩
      · by_cases e : i = j
        · subst e; exact he
        · exact hG.z i (by omega) ht
      · have e3 : o.kd = 2 := by omega
        have e5 : tl o.kd = 3 := by rw [e3]; rfl
        exact hG.r (by omega) e2 e4
      · rw [List.take_of_length_le (by rw [tells_len]; omega), List.take_of_length_le (by rw [tells_len]; omega)]
    · have hl : j < tl o.kd := by omega
      have s32 : (ByteArray.mk #[32]).size = 1 := rfl
      -- what is next, once a field's text is at hand
      have next : ∀ {w' : World} {x : Bytes}, rng (fld o.kd j) (o.val j) = true → (2 ≤ j → o.k = 2 → o.b = 4 → o.c ≤ 1) → x = shw (fld o.kd j) (o.val j) → Sep (World.env W) [blk p12 (val4 o), blk p1 o.vs, old W.heap] w' →
          (mk (wd o.kd ++ Lib.joinTail [32] ((tells o).take j)) ++ ByteArray.mk #[32]).size + (mk x).size ≤ 9223372036854775807 ∧
          (∃ j_1 : Nat, IntKind.i64.wrap ((j : Int) + 1) = j_1 ∧ j_1 ≤ 4 ∧ Good o j_1 ∧ (mk (wd o.kd ++ Lib.joinTail [32] ((tells o).take j)) ++ ByteArray.mk #[32]) ++ mk x = mk (wd o.kd ++ Lib.joinTail [32] ((tells o).take j_1)) ∧
            Sep (World.env W) [blk p12 (val4 o), blk p1 o.vs, old W.heap] w') ∧ (4 - IntKind.i64.wrap ((j : Int) + 1)).toNat < (4 - (j : Int)).toNat := by
        intro w' x hr hright hx hw'
        have hxl := shw_len hr
        rw [← hx] at hxl
        rw [wrapS (by omega)]
        refine ⟨by rw [ByteArray.size_append, s32, mk_size, mk_size]; omega, ⟨j + 1, rfl, by omega, ⟨fun i hi ht => ?_, fun i hi ht => hG.z i (by omega) ht, fun h3 => hright (by omega)⟩, ?_, hw'⟩, by omega⟩
        · by_cases e : i = j
          · subst e; exact hr
          · exact hG.v i (by omega) ht
        · apply bs_inj
          rw [bs_append, bs_append, bs_mk, bs_mk, bs_mk, Lib.joinTail_take_succ [32] (tells o) j x (by rw [hx]; exact tells_at hl)]
          show _ ++ [32] ++ x = _
          simp
      have hsz : (mk (wd o.kd ++ Lib.joinTail [32] ((tells o).take j))).size + (ByteArray.mk #[32]).size ≤ 9223372036854775807 := by rw [mk_size, s32]; omega
      have notOk : ∀ {p : Prop}, rng (fld o.kd j) (o.val j) = false → Lg.Ok o → p := fun hr hok => by
        have := hok.v j hl
        rw [hr] at this; cases this
      refine ⟨fun b w' => b = decide (o.kd = 2 ∧ j = 1) ∧ Sep (World.env W) [blk p12 (val4 o), blk p1 o.vs, old W.heap] w', ?_, ?_⟩
      · refine ⟨_, h7.cellAt 1 rfl 0, ?_⟩
        refine bEq (fun e => ⟨?_, h7⟩) (fun e => ⟨?_, h7⟩)
        · have e : o.kd = 2 := by have : o.k = 2 := e; omega
          rw [e]
          by_cases e1 : j = 1
          · subst e1; rfl
          · rw [decide_eq_false (by omega), beq_eq_false_iff_ne]; omega
        · have e : ¬ o.kd = 2 := fun h => e (by show o.k = 2; omega)
          rw [decide_eq_false (by omega)]
      rintro _ b w8 ⟨rfl, h8⟩
      have g8 := fin (i := 2) h8 rfl
      refine bifI (fun hb => ?_) (fun hb => ?_)
      · obtain ⟨e2, e1⟩ := of_decide_eq_true hb
        subst e1
        have hf : fld o.kd 1 = 4 := by unfold fld; rw [if_pos ⟨e2, rfl⟩]
        have hrng : rng (fld o.kd 1) (o.val 1) = decide (0 ≤ o.b ∧ o.b < 5) := by rw [hf]; rfl
        refine ⟨fun w' => 0 ≤ o.b ∧ o.b ≤ 4 ∧ Sep (World.env W) [blk p12 (val4 o), blk p1 o.vs, old W.heap] w', ?_, ?_⟩
        · refine elD 1 rfl (by omega) ⟨_, h8.cell 1, ?_⟩
          refine bLt (fun hh => bad (fun hok => notOk (by rw [hrng]; exact decide_eq_false (by omega)) hok) g8) (fun h0 => ?_)
          refine elD 1 rfl (by omega) ⟨_, h8.cell 1, ?_⟩
          exact bGt (fun hh => bad (fun hok => notOk (by rw [hrng]; exact decide_eq_false (by omega)) hok) g8) (fun h4 => ⟨h0, h4, h8⟩)
        · rintro _ w9 ⟨h0, h4, h9⟩
          refine ⟨hsz, ?_⟩
          refine Al.i h9 (fun p46 w10 h10 => ?_)
          refine elD 1 rfl (by omega) ⟨_, h10.cellAt 1 rfl 1, ?_⟩
          have hll : o.b.toNat < limits.length := by show _ < 5; omega
          refine elD o.b.toNat (by omega) hll ?_
          refine ⟨mk (limits.getD o.b.toNat []), ?_, ?_⟩
          · rw [Nat.mul_one]
            refine (h10.cell o.b.toNat).trans ?_
            show (strL limits)[o.b.toNat]? = _
            exact strL_at hll
          · exact next (by rw [hrng]; exact decide_eq_true ⟨h0, by omega⟩) (fun hh => by omega) (by rw [hf]; rfl) h10.tail
      · have hb1 : ¬ (o.kd = 2 ∧ j = 1) := of_decide_eq_false hb
        refine ⟨fun b w' => b = decide (o.kd = 2 ∧ j = 2) ∧ Sep (World.env W) [blk p12 (val4 o), blk p1 o.vs, old W.heap] w', ?_, ?_⟩
        · refine ⟨_, h8.cellAt 1 rfl 0, ?_⟩
          refine bEq (fun e => ⟨?_, h8⟩) (fun e => ⟨?_, h8⟩)
          · have e : o.kd = 2 := by have : o.k = 2 := e; omega
            rw [e]
            by_cases e1 : j = 2
            · subst e1; rfl
            · rw [decide_eq_false (by omega), beq_eq_false_iff_ne]; omega
          · have e : ¬ o.kd = 2 := fun h => e (by show o.k = 2; omega)
            rw [decide_eq_false (by omega)]
        rintro _ b w9 ⟨rfl, h9⟩
        have g9 := fin (i := 2) h9 rfl
        refine bifI (fun hb => ?_) (fun hb => ?_)
        · obtain ⟨e2, e1⟩ := of_decide_eq_true hb
          subst e1
          have hk2 : o.k = 2 := by omega
          have hf : fld o.kd 2 = 5 := by unfold fld; rw [if_neg (by omega), if_pos ⟨e2, rfl⟩]
          have hrng : rng (fld o.kd 2) (o.val 2) = decide (0 ≤ o.c ∧ o.c ≤ 1099511627776) := by rw [hf]; rfl
          refine ⟨fun w' => 0 ≤ o.c ∧ o.c ≤ 1099511627776 ∧ (o.b = 4 → o.c ≤ 1) ∧ Sep (World.env W) [blk p12 (val4 o), blk p1 o.vs, old W.heap] w', ?_, ?_⟩
          · refine elD 2 rfl (by omega) ⟨_, h9.cell 2, ?_⟩
            refine bLt (fun hh => bad (fun hok => notOk (by rw [hrng]; exact decide_eq_false (by omega)) hok) g9) (fun h0 => ?_)
            refine elD 2 rfl (by omega) ⟨_, h9.cell 2, ?_⟩
            refine bGt (fun hh => bad (fun hok => notOk (by rw [hrng]; exact decide_eq_false (by omega)) hok) g9) (fun h4 => ?_)
            refine elD 1 rfl (by omega) ⟨_, h9.cell 1, ?_⟩
            refine bEq (fun eb => ?_) (fun eb => ⟨h0, h4, fun hh => absurd hh eb, h9⟩)
            refine elD 2 rfl (by omega) ⟨_, h9.cell 2, ?_⟩
            exact bGt (fun hh => bad (fun hok => by have := hok.r hk2 eb; omega) g9) (fun hle => ⟨h0, h4, fun _ => hle, h9⟩)
          · rintro _ w10 ⟨h0, h4, hr, h10⟩
            refine ⟨hsz, ?_⟩
            refine elD 2 rfl (by omega) ⟨_, h10.cell 2, ?_⟩
            refine use (r_Show (n := o.c) ⟨by omega, by omega⟩ h10) ?_
            rintro _ w11 ⟨rfl, _, h11⟩
            refine ⟨_, rfl, ?_⟩
            exact next (by rw [hrng]; exact decide_eq_true ⟨h0, h4⟩) (fun _ _ => hr) (by rw [hf]; rfl) h11
        · have hb2 : ¬ (o.kd = 2 ∧ j = 2) := of_decide_eq_false hb
          have hf : fld o.kd j = j := by unfold fld; rw [if_neg hb1, if_neg hb2]
          have hrng : rng (fld o.kd j) (o.val j) = decide (0 ≤ o.val j ∧ o.val j < 2097152) := by
            rw [hf]; unfold rng; rw [if_neg (by omega), if_neg (by omega)]
          have hshw : shw (fld o.kd j) (o.val j) = Lib.itoa (o.val j) := by
            rw [hf]; unfold shw; rw [if_neg (by omega), if_neg (by omega)]
          refine ⟨fun w' => 0 ≤ o.val j ∧ o.val j < 2097152 ∧ Sep (World.env W) [blk p12 (val4 o), blk p1 o.vs, old W.heap] w', ?_, ?_⟩
          · refine elD j rfl hlt ⟨o.val j, by rw [Nat.mul_one]; exact (h9.cell j).trans (val4_at o hlt), ?_⟩
            refine bLt (fun hh => bad (fun hok => notOk (by rw [hrng]; exact decide_eq_false (by omega)) hok) g9) (fun h0 => ?_)
            refine elD j rfl hlt ⟨o.val j, by rw [Nat.mul_one]; exact (h9.cell j).trans (val4_at o hlt), ?_⟩
            exact bGe (fun hh => bad (fun hok => notOk (by rw [hrng]; exact decide_eq_false (by omega)) hok) g9) (fun h4 => ⟨h0, h4, h9⟩)
          · rintro _ w10 ⟨h0, h4, h10⟩
            refine ⟨hsz, ?_⟩
            refine elD j rfl hlt ⟨o.val j, by rw [Nat.mul_one]; exact (h10.cell j).trans (val4_at o hlt), ?_⟩
            refine use (r_Digits (n := o.val j) ⟨by omega, by omega⟩ h10) ?_
            rintro _ w11 ⟨rfl, _, h11⟩
            refine ⟨_, rfl, ?_⟩
            refine next (by rw [hrng]; exact decide_eq_true ⟨h0, h4⟩) (fun hj2 hk2 => ?_) hshw.symm h11
            have e2 : o.kd = 2 := by omega
            have e5 : tl o.kd = 3 := by rw [e2]; rfl
            exact absurd ⟨e2, by omega⟩ hb2
  · have e : j = 4 := by omega
    subst e
    have g := fin (i := 2) h6 rfl
    have hok : Lg.Ok o := ⟨hk0, hk1, fun i hi => hG.v i (by omega) hi, fun i hi hi4 => hG.z i hi4 hi, hG.r (by omega)⟩
    refine ⟨?_, g, h.grow g⟩
    rw [lineO_some hok, List.take_of_length_le (by rw [tells_len]; omega), ← text_cons]; rfl

theorem r_Print {s : Sl} {l : List Lg.Op} (hO : Ops W s l) (h : Sep E L W) :
    Calls P fn_millpondref21_Print #[.slice s.p s.n s.c] W (Ret fun v w' => PrintEnd l v ∧ Grow W w' ∧ Sep E L w') := by
  apply of_millpondref21_Print
  unfold sh_millpondref21_Print
  have hsn := hO.n
  refine ⟨fun t x w' => ∃ j : Nat, x = j ∧ j ≤ l.length ∧ (0 < j → l.length ≤ 1000) ∧ (∀ o ∈ l.take j, Lg.Ok o) ∧ bs t = printT (l.take j) ∧ Grow W w', fun _ x _ => (l.length - x).toNat, ⟨0, rfl, Nat.zero_le _, fun hh => by omega, by simp, rfl, Grow.refl _⟩, ?_⟩
  rintro _ t x w1 ⟨j, rfl, hj, h1000, hok, ht, g1⟩
  refine bLt (fun hlt => ?_) (fun hge => ?_)
  · obtain ⟨o, ho⟩ : ∃ o, l[j]? = some o := ⟨_, List.getElem?_eq_getElem (by omega)⟩
    refine (hO.grow g1).at_ j rfl ho (fun p hp => ?_)
    refine ⟨_, hp 0 _ rfl, _, hp 1 _ rfl, _, hp 2 _ rfl, _, hp 3 _ rfl, _, hp 4 _ rfl, ?_⟩
    refine use (r_Line o (h.grow g1)) ?_
    rintro _ w2 ⟨rfl, g2, h2⟩
    have g := g1.trans g2
    refine ⟨_, rfl, ?_⟩
    refine bS (fun e => ⟨?_, g, h2⟩) (fun hne => ?_)
    · unfold PrintEnd
      rw [printO_none (.inl ⟨o, List.mem_of_getElem? ho, fun hoo => ?_⟩)]
      · rfl
      · rw [lineO_some hoo] at e
        exact text_ne hoo e
    · have hoo : Lg.Ok o := Classical.byContradiction fun hno => hne (by rw [lineO_none hno]; rfl)
      have hlo := ok_len hoo
      refine bGt (fun hgt => ⟨?_, g, h2⟩) (fun hle => ?_)
      · unfold PrintEnd
        rw [printO_none (.inr (by omega))]; rfl
      · have hpl := printT_len hok
        have htl : (l.take j).length ≤ 1000 := by rw [List.length_take]; omega
        have s10 : (ByteArray.mk #[10]).size = 1 := rfl
        have hts : t.size = (printT (l.take j)).length := by rw [← bs_len, ht]
        rw [lineO_some hoo]
        show _ + (mk (text o)).size ≤ _ ∧ (t ++ mk (text o)).size + _ ≤ _ ∧ _
        have hms : (mk (text o)).size = (text o).length := mk_size _
        refine ⟨by omega, by rw [ByteArray.size_append, s10]; omega, ⟨j + 1, wrapS (by omega), by omega, fun _ => by omega, fun q hq => ?_, ?_, g⟩, by rw [wrapS (by omega)]; dsimp only; omega⟩
        · rw [take_succ ho] at hq
          rcases List.mem_append.1 hq with hq | hq
          · exact hok q hq
          · rw [List.mem_singleton.1 hq]; exact hoo
        · rw [take_succ ho, printT_append, printT_one, bs_append, bs_append, ht]
          show _ ++ text o ++ [10] = _
          simp
  · have e : j = l.length := by omega
    subst e
    rw [List.take_length] at hok ht
    refine ⟨?_, g1, h.grow g1⟩
    unfold PrintEnd
    rcases Nat.eq_zero_or_pos l.length with h0 | h0
    · rw [printO_some hok (by omega)]
      show Value.tuple #[.string t, _] = _
      rw [← mk_bs t, ht]; rfl
    · rw [printO_some hok (h1000 h0)]
      show Value.tuple #[.string t, _] = _
      rw [← mk_bs t, ht]; rfl

end Go.Mp
