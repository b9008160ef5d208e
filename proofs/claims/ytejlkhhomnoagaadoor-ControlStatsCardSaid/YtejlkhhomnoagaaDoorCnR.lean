/- The document's answers for control. -/
import Derived.Test.YtejlkhhomnoagaaDoorCnE
import Derived.Test.YtejlkhhomnoagaaDoorCnU
set_option maxRecDepth 100000
namespace Go.Mp
open Go Go.Vc Go.Sp Go.Proofs Go.Ct

variable {E : Env} {L : List Asn} {w : World}

theorem r_Word (s : ByteArray) (hs : (bs s).length < 4611686018427387904) : Calls P fn_millpondref11_Word #[.string s] w (Ret fun v w' => v = .bool (word (bs s)) ∧ w' = w) := by
  apply of_millpondref11_Word
  unfold sh_millpondref11_Word
  refine ⟨fun x w' => ∃ k : Nat, x = k ∧ k ≤ (bs s).length ∧ (∀ c ∈ (bs s).take k, wc c = true) ∧ w' = w, fun x _ => ((bs s).length - x).toNat, ⟨0, rfl, Nat.zero_le _, by simp, rfl⟩, ?_⟩
  rintro _ x w1 ⟨k, rfl, hk, hg, rfl⟩
  rw [← bs_len]
  refine bLt (fun hlt => ?_) (fun hge => ?_)
  · obtain ⟨c, hc⟩ : ∃ c, (bs s)[k]? = some c := ⟨_, List.getElem?_eq_getElem (by omega)⟩
    refine strI k rfl hc ?_
    rw [wrapS (by omega)]
    have good : wc c = true → ∀ d ∈ (bs s).take (k + 1), wc d = true := by
      intro h d hd
      rw [take_succ hc] at hd
      rcases List.mem_append.1 hd with hd | hd
      · exact hg d hd
      · rw [List.mem_singleton.1 hd]; exact h
    have bN : ∀ {A B : Prop}, ((c.toNat : Int) ≠ 95 → A) → ((c.toNat : Int) = 95 → B) → bif (!((c.toNat : Int) == 95)) then A else B := fun h1 h2 =>
      bifI (fun hh => h1 (by simpa using hh)) (fun hh => h2 (by simpa using hh))
    repeat' first
      | refine bGe (fun _ => ?_) (fun _ => ?_)
      | refine bLe (fun _ => ?_) (fun _ => ?_)
      | refine bN (fun _ => ?_) (fun _ => ?_)
    all_goals first
      | exact ⟨by rw [word_bad hc (by simp [wc]; omega)], rfl⟩
      | exact ⟨⟨k + 1, rfl, by omega, good (by simp [wc]; omega), rfl⟩, by dsimp only; omega⟩
  · have e : k = (bs s).length := by omega
    subst e
    have := word_end hg
    refine bGe (fun h1 => ?_) (fun h1 => ?_)
    · refine ⟨by rw [this, decide_eq_true (show 1 ≤ (bs s).length by omega), Bool.true_and]; congr 1; exact decide_eq_decide.2 (by omega), rfl⟩
    · exact ⟨by rw [this, decide_eq_false (show ¬ 1 ≤ (bs s).length by omega)]; rfl, rfl⟩

theorem dec_len {u : Nat} (h : u < 18446744073709551616) : (Lib.decDigits u).length ≤ 20 := by rw [Lib.decDigits_length]; exact Lib.nDigits_le20 u h

theorem bsQ42 : bsQ P 42 = true := by kernel_rfl
theorem str9 : isStrT P 9 = true := by kernel_rfl

theorem r_DigitsN (N : Nat) (hN : (N : Int) ≤ 9223372036854775807) (h : Sep E L w) : Calls P fn_millpondref11_Digits #[.int .i64 N] w (Ret fun v w' => v = .string (mk (Lib.decDigits N)) ∧ Grow w w' ∧ Sep E L w') := by
  apply of_millpondref11_Digits
  unfold sh_millpondref11_Digits
  have h0 := Sep.start w
  have fin : ∀ {w' : World}, Sep (World.env w) [old w.heap] w' → Grow w w' := fun hh => grow_old (i := 0) rfl hh rfl
  refine bEq (fun hh => by omega) (fun _ => ?_)
  refine bLt (fun hh => by omega) (fun _ => ?_)
  refine ⟨fun n s w' => ∃ u : Nat, n = u ∧ u ≤ N ∧ (0 < u ∨ bs s = [] → Lib.decDigits u ++ bs s = Lib.decDigits N) ∧ (u = 0 → bs s ≠ [] → bs s = Lib.decDigits N) ∧ Sep (World.env w) [old w.heap] w',
    fun n s _ => n.toNat + (if bs s = [] then 1 else 0), ⟨N, rfl, Nat.le_refl _, fun _ => by show _ ++ [] = _; simp, fun _ hh => absurd rfl hh, h0⟩, ?_⟩
  rintro _ n s w1 ⟨u, rfl, hu, hA, hB, h1⟩
  refine ⟨fun w' => (0 < u ∨ bs s = []) ∧ Sep (World.env w) [old w.heap] w', ?_, ?_⟩
  · refine bGt (fun hh => ⟨.inl (by omega), h1⟩) (fun hh => ?_)
    refine bS (fun e => ⟨.inr e, h1⟩) (fun hne => ?_)
    have hu0 : u = 0 := by omega
    refine ⟨?_, fin h1, h.grow (fin h1)⟩
    have := hB hu0 hne
    rw [← this, mk_bs]
  · rintro _ w2 ⟨hor, h2⟩
    refine ⟨by decide, ?_⟩
    have hmod : ((u : Int).tmod 10) = ((u % 10 : Nat) : Int) := by rw [Int.tmod_eq_emod_of_nonneg (by omega)]; omega
    have hdiv : ((u : Int).tdiv 10) = ((u / 10 : Nat) : Int) := by rw [Int.tdiv_eq_ediv_of_nonneg (by omega)]; omega
    have hd : IntKind.u8.wrap (IntKind.i64.wrap (48 + (u : Int).tmod 10)) = (((UInt8.ofNat (48 + u % 10)).toNat : Nat) : Int) := by
      rw [hmod, w64 (by omega) (by omega), dig (by omega)]
      unfold IntKind.wrap
      simp only [IntKind.signed, IntKind.bits, Bool.false_and]
      simp
      omega
    rw [hd, hdiv]
    refine Al.i h2 (fun b w3 h3 => ?_)
    refine toStr.i [UInt8.ofNat (48 + u % 10)] 0 h3 rfl bsQ42 str9 rfl (fun j hj => ?_) ?_
    · have : j = 0 := by simpa using hj
      subst this; rfl
    · have hA' := hA hor
      have hlen := dec_len (u := N) (by omega)
      have hsl : (bs s).length ≤ 20 := by rw [← hA', List.length_append] at hlen; omega
      have e1 : ([UInt8.ofNat (48 + u % 10)].toArray : Array UInt8) = #[UInt8.ofNat (48 + u % 10)] := rfl
      have hbs : bs ((⟨[UInt8.ofNat (48 + u % 10)].toArray⟩ : ByteArray) ++ s) = UInt8.ofNat (48 + u % 10) :: bs s := by rw [bs_append]; rfl
      refine ⟨?_, by decide, ⟨u / 10, by rw [w64 (by omega) (by omega)], by omega, ?_, ?_, h3.tail⟩, ?_⟩
      · rw [← bs_len s]
        show 1 + _ ≤ _
        omega
      · rw [hbs]
        intro hh
        have hu10 : ¬ u < 10 := by
          rcases hh with hh | hh
          · omega
          · cases hh
        rw [← hA', dec_big hu10]; simp
      · rw [hbs]
        intro hh _
        have hu10 : u < 10 := by omega
        rw [← hA', dec_small hu10, show u % 10 = u by omega]; rfl
      · dsimp only
        rw [hbs, w64 (by omega) (by omega)]
        rw [if_neg (by simp)]
        rcases hor with hh | hh
        · split <;> omega
        · rw [if_pos hh]; omega

theorem r_Digits {n : Int} (hn : i64 n) (h : Sep E L w) : Calls P fn_millpondref11_Digits #[.int .i64 n] w (Ret fun v w' => v = .string (mk (Lib.itoa n)) ∧ Grow w w' ∧ Sep E L w') := by
  by_cases h0 : n < 0
  · apply of_millpondref11_Digits
    unfold sh_millpondref11_Digits
    refine bEq (fun e => ⟨?_, Grow.refl _, h⟩) (fun hne => ?_)
    · subst e
      have : Lib.itoa (-9223372036854775808) = [45, 57, 50, 50, 51, 51, 55, 50, 48, 51, 54, 56, 53, 52, 55, 55, 53, 56, 48, 56] := by
        unfold Lib.itoa
        rw [if_pos (by decide)]
        have e : (-9223372036854775808 : Int).natAbs = 9223372036854775808 := rfl
        rw [e]
        repeat (first | rw [dec_small (by omega)] | rw [dec_big (by omega)])
        rfl
      rw [this]
    refine bLt (fun _ => ?_) (fun hh => by omega)
    obtain ⟨h1, h2⟩ := hn
    have e1 : IntKind.i64.wrap (0 - n) = ((n.natAbs : Nat) : Int) := by rw [w64 (by omega) (by omega)]; omega
    rw [e1]
    have hb : ((n.natAbs : Nat) : Int) ≤ 9223372036854775807 := by omega
    refine use (r_DigitsN n.natAbs hb h) ?_
    rintro _ w1 ⟨rfl, g, h1'⟩
    have hl := dec_len (u := n.natAbs) (by omega)
    refine ⟨_, rfl, ?_, ?_, g, h1'⟩
    · have e3 := mk_size (Lib.decDigits n.natAbs)
      show 1 + _ ≤ _
      omega
    · have e : (ByteArray.mk #[45]) ++ mk (Lib.decDigits n.natAbs) = mk (Lib.itoa n) := by
        apply bs_inj
        rw [bs_append, bs_mk, bs_mk]
        unfold Lib.itoa
        rw [if_pos h0]; rfl
      rw [e]
  · obtain ⟨N, rfl⟩ : ∃ N : Nat, n = N := ⟨n.toNat, by omega⟩
    have e : Lib.itoa (N : Int) = Lib.decDigits N := Lib.itoa_nonneg N
    rw [e]
    exact r_DigitsN N hn.2 h

theorem r_Show {n : Int} (hn : i64 n) (h : Sep E L w) : Calls P fn_millpondref11_Show #[.int .i64 n] w (Ret fun v w' => v = .string (mk (showB n)) ∧ Grow w w' ∧ Sep E L w') := by
  apply of_millpondref11_Show
  unfold sh_millpondref11_Show showB
  refine bEq (fun e => ⟨by rw [if_pos e]; rfl, Grow.refl _, h⟩) (fun hne => ?_)
  refine use (r_Digits hn h) ?_
  rintro _ w1 ⟨rfl, g, h1⟩
  exact ⟨_, rfl, by rw [if_neg hne], g, h1⟩

/-! ### limits -/

theorem suffix_last {s : Bytes} {k : Nat} (hk : s.length = k + 1) {c : UInt8} (hc : s[k]? = some c) (d : UInt8) : Lib.hasSuffix s [d] = decide (c = d) ∧ (c = d → s.take k = Lib.trimSuffix s [d]) := by
  rcases List.eq_nil_or_concat s with rfl | ⟨t, e, rfl⟩
  · simp at hk
  · rw [List.concat_eq_append] at *
    have hk' : t.length = k := by simpa using hk
    subst hk'
    have hce : e = c := by simpa using hc
    subst hce
    by_cases h : e = d
    · subst h
      rw [suffix_hit, trim_hit]
      simp
    · rw [suffix_miss h]
      exact ⟨by rw [decide_eq_false h], fun hh => absurd hh h⟩

theorem last_wrap {s : ByteArray} (hs : (bs s).length < 4611686018427387904) {k : Nat} (hk : (bs s).length = k + 1) : IntKind.i64.wrap ((((bs s).length : Nat) : Int) - 1) = (k : Int) := by
  rw [hk, w64 (by omega) (by omega)]; omega

def LimR (s : Bytes) (v : Value) : Prop := v = .int .i64 ((lim s).getD (-1))
theorem LimR.bad {s : Bytes} (hm : s ≠ maxB) (hd : digs (Lib.trimSuffix s [75]) = none) : LimR s (.int .i64 (-1)) := by
  unfold LimR lim
  rw [if_neg hm, hd]; rfl

theorem r_limit (s : ByteArray) (hs : (bs s).length < 4611686018427387904) (h : Sep E L w) : Calls P fn_millpondref11_limit #[.string s] w (Ret fun v w' => LimR (bs s) v ∧ Sep E L w') := by
  apply of_millpondref11_limit
  unfold sh_millpondref11_limit
  refine bS (fun (e : bs s = maxB) => ⟨by unfold LimR lim; rw [if_pos e]; rfl, h⟩) (fun (hm : bs s ≠ maxB) => ?_)
  refine ⟨fun x k w' => bs x = Lib.trimSuffix (bs s) [75] ∧ k = (if Lib.hasSuffix (bs s) [75] then 1024 else 1) ∧ Sep E L w', ?_, ?_⟩
  · refine ⟨fun b w' => b = Lib.hasSuffix (bs s) [75] ∧ Sep E L w', ?_, ?_⟩
    · rw [← bs_len]
      refine bGt (fun hgt => ?_) (fun hle => ?_)
      · obtain ⟨k, hk⟩ : ∃ k, (bs s).length = k + 1 := ⟨(bs s).length - 1, by omega⟩
        rw [last_wrap hs hk]
        obtain ⟨c, hc⟩ : ∃ c, (bs s)[k]? = some c := ⟨_, List.getElem?_eq_getElem (by omega)⟩
        refine strI k rfl hc ⟨?_, h⟩
        rw [(suffix_last hk hc 75).1]
        rw [Bool.eq_iff_iff]
        have e9 : (75 : UInt8).toNat = 75 := rfl
        simp only [beq_iff_eq, decide_eq_true_eq]
        exact ⟨fun hh => UInt8.toNat_inj.1 (by omega), fun hh => by rw [hh]; rfl⟩
      · have e : bs s = [] := List.eq_nil_of_length_eq_zero (by omega)
        exact ⟨by rw [e]; rfl, h⟩
    · rintro _ x w1 ⟨rfl, h1⟩
      rw [← bs_len]
      refine bifI (fun hk => ?_) (fun hk => ?_)
      · have hne : (bs s).length ≠ 0 := fun hh => by
          rw [List.eq_nil_of_length_eq_zero hh] at hk; cases hk
        obtain ⟨k, hk2⟩ : ∃ k, (bs s).length = k + 1 := ⟨(bs s).length - 1, by omega⟩
        rw [last_wrap hs hk2]
        obtain ⟨c, hc⟩ : ∃ c, (bs s)[k]? = some c := ⟨_, List.getElem?_eq_getElem (by omega)⟩
        obtain ⟨e1, e2⟩ := suffix_last hk2 hc 75
        rw [hk] at e1
        refine ⟨⟨by omega, by omega⟩, ?_, by rw [if_pos hk], h1⟩
        rw [bs_sub, ← e2 (by simpa using e1.symm)]
        simp
      · refine ⟨?_, by rw [if_neg (by rw [hk]; simp)], h1⟩
        unfold Lib.trimSuffix
        rw [hk]; simp
  · rintro _ x k w1 ⟨hx, rfl, h1⟩
    refine ⟨fun w' => bs x ≠ [] ∧ (bs x).length ≤ 13 ∧ ¬ ((bs x)[0]? = some 48 ∧ 1 < (bs x).length) ∧ Sep E L w', ?_, ?_⟩
    · refine bS (fun e => ⟨.bad hm (digs_no (.inl (by rw [← hx]; exact e))), h1⟩) (fun (hne : bs x ≠ []) => ?_)
      rw [← bs_len]
      refine bGt (fun hgt => ⟨.bad hm (digs_no (.inr (.inl (by rw [← hx]; omega)))), h1⟩) (fun hle => ?_)
      have hpos : 0 < (bs x).length := by
        rcases Nat.eq_zero_or_pos (bs x).length with h0 | h0
        · exact absurd (List.eq_nil_of_length_eq_zero h0) hne
        · exact h0
      obtain ⟨c, hc⟩ : ∃ c, (bs x)[0]? = some c := ⟨_, List.getElem?_eq_getElem hpos⟩
      refine strI 0 rfl hc ?_
      refine bEq (fun e48 => ?_) (fun hne48 => ?_)
      · have hc48 : (bs x)[0]? = some 48 := by rw [hc]; congr 1; exact UInt8.toNat_inj.1 (by have e9 : (48 : UInt8).toNat = 48 := rfl; omega)
        refine bGt (fun hgt => ⟨.bad hm (digs_no (.inr (.inr ⟨by rw [← hx]; exact hc48, by rw [← hx]; omega⟩))), h1⟩) (fun hle2 => ⟨hne, by omega, fun hh => by omega, h1⟩)
      · refine ⟨hne, by omega, fun hh => ?_, h1⟩
        rw [hc] at hh
        have := Option.some.inj hh.1
        subst this
        exact hne48 rfl
    · rintro _ w2 ⟨hne, hlen, h48, h2⟩
      refine ⟨fun n i w' => ∃ j : Nat, i = j ∧ j ≤ (bs x).length ∧ (∀ d ∈ (bs x).take j, isDig d = true) ∧ n = (dec ((bs x).take j) : Int) ∧ Sep E L w', fun _ i _ => ((bs x).length - i).toNat,
        ⟨0, rfl, Nat.zero_le _, by simp, by simp [dec], h2⟩, ?_⟩
      rintro _ n i w3 ⟨j, rfl, hj, hg, rfl, h3⟩
      rw [← bs_len]
      refine bLt (fun hlt => ?_) (fun hge => ?_)
      · obtain ⟨c, hc⟩ : ∃ c, (bs x)[j]? = some c := ⟨_, List.getElem?_eq_getElem (by omega)⟩
        refine strI j rfl hc ?_
        refine bLt (fun hh => ⟨.bad hm (by rw [← hx]; exact digs_bad hc (by simp [isDig]; omega)), h3⟩) (fun h48' => ?_)
        refine strI j rfl hc ?_
        refine bGt (fun hh => ⟨.bad hm (by rw [← hx]; exact digs_bad hc (by simp [isDig]; omega)), h3⟩) (fun h57 => ?_)
        refine strI j rfl hc ?_
        have hd : isDig c = true := by simp [isDig]; omega
        obtain ⟨e1, e2⟩ := dec_take (by omega) hc hg hd
        rw [wrapS (by omega)]
        exact ⟨⟨j + 1, rfl, by omega, e2, e1, h3⟩, by dsimp only; omega⟩
      · have e : j = (bs x).length := by omega
        subst e
        obtain ⟨e1, e2⟩ := digs_all hne hlen h48 hg
        rw [hx] at e1
        have e2' : dec ((Lib.trimSuffix (bs s) [75]).take (Lib.trimSuffix (bs s) [75]).length) < 10000000000000 := by rw [← hx]; exact e2
        rw [hx]
        generalize dec ((Lib.trimSuffix (bs s) [75]).take (Lib.trimSuffix (bs s) [75]).length) = q at *
        have hlim : (lim (bs s)).getD (-1) = if (if Lib.hasSuffix (bs s) [75] then q * 1024 else q) ≤ 1099511627776 then ((if Lib.hasSuffix (bs s) [75] then q * 1024 else q : Nat) : Int) else -1 := by
          unfold lim
          rw [if_neg hm, e1]
          dsimp only
          generalize (if Lib.hasSuffix (bs s) [75] then q * 1024 else q) = z
          split <;> rfl
        unfold LimR
        rw [hlim]
        cases hk : Lib.hasSuffix (bs s) [75] with
        | true =>
          simp only [if_true]
          rw [w64 (by omega) (by omega)]
          refine bGt (fun hh => ⟨by rw [if_neg (by omega)], h3⟩) (fun hh => ⟨by rw [if_pos (by omega)]; congr 1, h3⟩)
        | false =>
          simp only [Bool.false_eq_true, if_false]
          rw [w64 (by omega) (by omega)]
          refine bGt (fun hh => ⟨by rw [if_neg (by omega)], h3⟩) (fun hh => ⟨by rw [if_pos (by omega)]; congr 1; omega, h3⟩)

end Go.Mp
