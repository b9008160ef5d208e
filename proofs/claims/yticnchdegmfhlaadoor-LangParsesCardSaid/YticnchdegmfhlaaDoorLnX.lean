/- The laws of lang: what is printed is parsed again; each operation has one line. -/
import Derived.Test.YticnchdegmfhlaaDoorLnW
import Derived.DataElems
set_option maxRecDepth 100000
namespace Go.Mp
open Go Go.Vc Go.Sp Go.Proofs Go.Ct Go.Lg

variable {E : Env} {L : List Asn} {w W : World}

theorem slA_get {a : Addr} {k c : Nat} : slA (some a) k c 5 = some a ∨ slA (some a) k c 5 = some (a.add (k * 5)) := by
  unfold slA
  split
  · exact .inl rfl
  · exact .inr rfl
theorem add_zero' (a : Addr) : a.add 0 = a := by unfold Addr.add; simp

theorem Ops.take {s : Sl} {l : List Lg.Op} {k : Nat} (h : Ops w s l) (hk : k ≤ l.length) : Ops w ⟨slA s.p 0 s.c 5, k - 0, s.c - 0⟩ (l.take k) := by
  refine ⟨by show k - 0 = _; rw [List.length_take]; omega, fun i o ho => ?_⟩
  rw [List.getElem?_take] at ho
  split at ho
  · obtain ⟨a, hp, ha⟩ := h.rd i o ho
    refine ⟨a, ?_, ha⟩
    show slA s.p 0 s.c 5 = some a
    rw [hp]
    rcases slA_get (a := a) (k := 0) (c := s.c) with e | e
    · exact e
    · rw [e, Nat.zero_mul, add_zero']
  · cases ho
theorem Ops.drop {s : Sl} {l : List Lg.Op} {k : Nat} (h : Ops w s l) (hc : s.n ≤ s.c) : Ops w ⟨slA s.p k s.c 5, s.n - k, s.c - k⟩ (l.drop k) := by
  have hn := h.n
  refine ⟨by show s.n - k = _; rw [List.length_drop]; omega, fun i o ho => ?_⟩
  rw [List.getElem?_drop] at ho
  have hlt := (List.getElem?_eq_some_iff.1 ho).1
  obtain ⟨a, hp, ha⟩ := h.rd (k + i) o ho
  refine ⟨a.add (k * 5), ?_, fun j v hv => ?_⟩
  · show slA s.p k s.c 5 = _
    rw [hp]
    unfold slA
    rw [if_neg (by omega)]; rfl
  · have e : (a.add (k * 5)).add (i * 5) = a.add ((k + i) * 5) := by rw [Addr.add_add, Nat.add_mul]
    rw [e]; exact ha j v hv

theorem mem_take {α : Type} {l : List α} {k : Nat} {p : α → Prop} (h : ∀ x ∈ l, p x) : ∀ x ∈ l.take k, p x := fun x hx => h x (List.mem_of_mem_take hx)
theorem mem_drop {α : Type} {l : List α} {k : Nat} {p : α → Prop} (h : ∀ x ∈ l, p x) : ∀ x ∈ l.drop k, p x := fun x hx => h x (List.mem_of_mem_drop hx)

theorem law_Back {s : Sl} {l : List Lg.Op} {k : Int} (note : ByteArray) (hO : Ops W s l) (hI : ∀ o ∈ l, Lg.Op.I o) (hc : s.n ≤ s.c) (lib : Libs W) :
    Calls P fn_millpondlaw21_LangBack #[.slice s.p s.n s.c, .int .i64 k, .string note] W (Ret fun v w' => End W v w') := by
  apply of_millpondlaw21_LangBack
  unfold sh_millpondlaw21_LangBack
  have hsn := hO.n
  have fin : ∀ {w' : World}, Sep (World.env W) [old W.heap] w' → Grow W w' := fun hh => grow_old (i := 0) rfl hh rfl
  refine use (l_works lib (Sep.start W)) ?_
  rintro _ w1 ⟨rfl, _, h1⟩
  refine ⟨_, rfl, bifF ?_⟩
  rw [← bs_len]
  refine ⟨fun w' => l.length ≤ 200 ∧ (bs note).length ≤ 100 ∧ 0 ≤ k ∧ k ≤ l.length ∧ Sep (World.env W) [old W.heap] w', ?_, ?_⟩
  · refine bGt (fun _ => End.of (i := 0) h1 rfl) (fun _ => ?_)
    refine bGt (fun _ => End.of (i := 0) h1 rfl) (fun _ => ?_)
    refine bLt (fun _ => End.of (i := 0) h1 rfl) (fun _ => ?_)
    exact bGt (fun _ => End.of (i := 0) h1 rfl) (fun _ => ⟨by omega, by omega, by omega, by omega, h1⟩)
  rintro _ w2 ⟨hl200, hn100, hk0, hkl, h2⟩
  refine ⟨fun x w' => ∃ j : Nat, x = j ∧ j ≤ (bs note).length ∧ 10 ∉ (bs note).take j ∧ Sep (World.env W) [old W.heap] w', fun x _ => ((bs note).length - x).toNat, ⟨0, rfl, Nat.zero_le _, by simp, h2⟩, ?_⟩
  rintro _ x w3 ⟨j, rfl, hj, hno, h3⟩
  refine bLt (fun hlt => ?_) (fun hge => ?_)
  · obtain ⟨c, hcc⟩ : ∃ c, (bs note)[j]? = some c := ⟨_, List.getElem?_eq_getElem (by omega)⟩
    refine strI j rfl hcc ?_
    refine bEq (fun _ => End.of (i := 0) h3 rfl) (fun hne => ?_)
    rw [wrapS (by omega)]
    refine ⟨⟨j + 1, rfl, by omega, ?_, h3⟩, by dsimp only; omega⟩
    rw [take_succ hcc]
    intro hm
    rcases List.mem_append.1 hm with hm | hm
    · exact hno hm
    · rw [← List.mem_singleton.1 hm] at hne; exact hne rfl
  have e : j = (bs note).length := by omega
  subst e
  rw [List.take_length] at hno
  have g3 := fin h3
  refine use (c_Print (hO.grow g3) hI (lib.grow g3) h3) ?_
  rintro v w4 ⟨hv4, _, h4⟩
  rcases printO_cases l with ⟨hok, _, hp⟩ | ⟨_, hp⟩
  · obtain rfl := printE hv4 (s := printT l) (e := 0) (by rw [hp]; rfl) (by rw [hp]; rfl)
    refine ⟨_, _, rfl, ?_⟩
    refine bNe (fun hh => absurd rfl hh) (fun _ => ?_)
    obtain ⟨m, rfl⟩ : ∃ m : Nat, k = m := ⟨k.toNat, by omega⟩
    have hm : m ≤ l.length := by omega
    refine ⟨⟨by omega, by omega⟩, ?_⟩
    rw [Int.toNat_natCast]
    have g4 := fin h4
    refine use (c_Print (s := ⟨slA s.p 0 s.c 5, m - 0, s.c - 0⟩) ((hO.grow g4).take hm) (mem_take hI) (lib.grow g4) h4) ?_
    rintro v w5 ⟨hv5, _, h5⟩
    have hokt := mem_take (k := m) hok
    have hokd := mem_drop (k := m) hok
    have hlt : (l.take m).length ≤ 200 := by rw [List.length_take]; omega
    have hld : (l.drop m).length ≤ 200 := by rw [List.length_drop]; omega
    have hpt := printO_some hokt (by omega)
    have hpd := printO_some hokd (by omega)
    obtain rfl := printE hv5 (s := printT (l.take m)) (e := 0) (by rw [hpt]; rfl) (by rw [hpt]; rfl)
    refine ⟨_, _, rfl, ⟨by omega, by omega⟩, ?_⟩
    have g5 := fin h5
    refine use (c_Print (s := ⟨slA s.p m s.c 5, s.n - m, s.c - m⟩) ((hO.grow g5).drop hc) (mem_drop hI) (lib.grow g5) h5) ?_
    rintro v w6 ⟨hv6, _, h6⟩
    obtain rfl := printE hv6 (s := printT (l.drop m)) (e := 0) (by rw [hpd]; rfl) (by rw [hpd]; rfl)
    refine ⟨_, _, rfl, ?_⟩
    have hL := printT_len hok
    have hLt := printT_len hokt
    have hLd := printT_len hokd
    refine use (c_Parse (mk (printT l)) (by rw [bs_mk]; omega) (lib.grow (fin h6)) h6) ?_
    rintro _ w7 ⟨⟨x, e, n, rfl, hx⟩, g7, h7⟩
    rw [bs_mk, parse_print hok (by omega)] at hx
    obtain ⟨rfl, rfl, hx⟩ := hx
    refine ⟨x, _, _, rfl, ?_⟩
    have s2 : (ByteArray.mk #[10, 35]).size = 2 := rfl
    have s1 : (ByteArray.mk #[10]).size = 1 := rfl
    have sa : (mk (printT (l.take m))).size = (printT (l.take m)).length := mk_size _
    have sb : (mk (printT (l.drop m))).size = (printT (l.drop m)).length := mk_size _
    have sn := bs_len note
    have eb : bs ((((mk (printT (l.take m)) ++ ByteArray.mk #[10, 35]) ++ note) ++ ByteArray.mk #[10]) ++ mk (printT (l.drop m))) = printT (l.take m) ++ (10 :: 35 :: (bs note ++ 10 :: printT (l.drop m))) := by
      rw [bs_append, bs_append, bs_append, bs_append, bs_mk, bs_mk]
      show printT (l.take m) ++ [10, 35] ++ bs note ++ [10] ++ printT (l.drop m) = _
      simp
    refine ⟨by omega, by rw [ByteArray.size_append]; omega, by rw [ByteArray.size_append, ByteArray.size_append]; omega, by rw [ByteArray.size_append, ByteArray.size_append, ByteArray.size_append]; omega, ?_⟩
    refine use (c_Parse _ (by rw [eb]; simp; omega) (lib.grow (fin h7)) h7) ?_
    rintro _ w8 ⟨⟨y, e, n, rfl, hy⟩, g8, h8⟩
    have htd : l.take m ++ l.drop m = l := List.take_append_drop m l
    rw [eb, parse_mixed (by rw [htd]; exact hok) (by rw [htd]; omega) hno, htd] at hy
    obtain ⟨rfl, rfl, hy⟩ := hy
    refine ⟨y, _, _, rfl, bT rfl (bT rfl (bT rfl ⟨by omega, ?_⟩))⟩
    have es : bs (mk (printT (l.take m)) ++ mk (printT (l.drop m))) = bs (mk (printT l)) := by
      rw [bs_append, bs_mk, bs_mk, bs_mk, ← printT_append, htd]
    refine bS (fun _ => ?_) (fun hh => absurd es hh)
    refine bT rfl ?_
    have g8' := fin h8
    refine use (c_same (hx.grow g8) (hO.grow g8') (by omega) h8) ?_
    rintro _ w9 ⟨⟨r, rfl, hr⟩, g9, h9⟩
    refine ⟨r, rfl, bT (hr.2 rfl) (bT rfl ?_)⟩
    refine use (c_same (hy.grow g9) (hO.grow (g8'.trans g9)) (by omega) h9) ?_
    rintro _ w10 ⟨⟨r', rfl, hr'⟩, _, h10⟩
    refine ⟨r', rfl, ?_⟩
    rw [hr'.2 rfl]
    exact End.of (i := 0) h10 rfl
  · obtain rfl := printE hv4 (s := []) (e := 1) (by rw [hp]; rfl) (by rw [hp]; rfl)
    refine ⟨_, _, rfl, ?_⟩
    refine bNe (fun _ => ?_) (fun hh => absurd hh (by decide))
    refine bT rfl ?_
    rw [beq_bs, decide_eq_true rfl]
    exact End.of (i := 0) h4 rfl

theorem law_Once {a b : Lg.Op} (text : ByteArray) (haI : Lg.Op.I a) (hbI : Lg.Op.I b) (lib : Libs W) : Calls P fn_millpondlaw21_LangOnce #[a.v, b.v, .string text] W (Ret fun v w' => End W v w') := by
  apply of_millpondlaw21_LangOnce
  unfold sh_millpondlaw21_LangOnce
  have fin : ∀ {w' : World} {L' : List Asn} {i : Nat}, Sep (World.env W) L' w' → L'[i]? = some (old W.heap) → Grow W w' := fun hh hi => grow_old rfl hh hi
  refine Al.i (Sep.start W) (fun p1 w1 h1 => ?_)
  refine Al.i h1 (fun p3 w2 h2 => ?_)
  have h2 : Sep (World.env W) [blk p3 b.vs, blk p1 a.vs, old W.heap] w2 := h2
  refine use (l_works (lib.old (i := 2) rfl h2) h2) ?_
  rintro _ w3 ⟨rfl, _, h3⟩
  refine ⟨_, rfl, bifF ?_⟩
  rw [← bs_len]
  refine bGt (fun _ => End.of (i := 2) h3 rfl) (fun hle => ?_)
  refine ⟨_, h3.cellAt 1 rfl 0, _, h3.cellAt 1 rfl 1, _, h3.cellAt 1 rfl 2, _, h3.cellAt 1 rfl 3, _, h3.cellAt 1 rfl 4, ?_⟩
  refine use (c_Line haI (lib.old (i := 2) rfl h3) h3) ?_
  rintro v w4 ⟨hv4, _, h4⟩
  refine ⟨mk ((lineO a).getD []), (if (lineO a).isSome then 0 else 1), by rw [hv4], ?_⟩
  refine ⟨_, h4.cell 0, _, h4.cell 1, _, h4.cell 2, _, h4.cell 3, _, h4.cell 4, ?_⟩
  refine use (c_Line hbI (lib.old (i := 2) rfl h4) h4) ?_
  rintro v w5 ⟨hv5, _, h5⟩
  refine ⟨mk ((lineO b).getD []), (if (lineO b).isSome then 0 else 1), by rw [hv5], ?_⟩
  refine ⟨fun w' => Sep (World.env W) [blk p3 b.vs, blk p1 a.vs, old W.heap] w', ?_, ?_⟩
  · refine bEq (fun ea => ?_) (fun _ => h5)
    refine bEq (fun eb => ?_) (fun _ => h5)
    have hoa : Lg.Ok a := Classical.byContradiction fun hn => by
      rw [lineO_none hn] at ea; exact absurd ea (by decide)
    have hob : Lg.Ok b := Classical.byContradiction fun hn => by
      rw [lineO_none hn] at eb; exact absurd eb (by decide)
    refine ⟨_, h5.cellAt 1 rfl 0, _, h5.cellAt 1 rfl 1, _, h5.cellAt 1 rfl 2, _, h5.cellAt 1 rfl 3, _, h5.cellAt 1 rfl 4, ?_⟩
    refine ⟨_, h5.cell 0, _, h5.cell 1, _, h5.cell 2, _, h5.cell 3, _, h5.cell 4, ?_⟩
    obtain ⟨q, hq1, hq2⟩ := op_eql a.v b.v (op_vt a) (op_vt b)
    refine ⟨q, hq1, ?_⟩
    have e : ((mk ((lineO a).getD [])).toList == (mk ((lineO b).getD [])).toList) = q := by
      rw [beq_bs, bs_mk, bs_mk, lineO_some hoa, lineO_some hob]
      show decide (Lg.text a = Lg.text b) = q
      by_cases hab : a = b
      · subst hab
        rw [decide_eq_true rfl, hq2.2 rfl]
      · have h1 : ¬ Lg.text a = Lg.text b := fun hh => hab (text_inj hoa hob hh)
        rw [decide_eq_false h1]
        cases q with
        | false => rfl
        | true => exact absurd (op_inj (hq2.1 rfl)) hab
    rw [e, beq_self_eq_true]
    exact bF rfl h5
  rintro _ w6 h6
  refine use (c_Parse text (by omega) (lib.old (i := 2) rfl h6) h6) ?_
  rintro _ w7 ⟨⟨x, e, n, rfl, hx⟩, g7, h7⟩
  refine ⟨x, e, n, rfl, ?_⟩
  cases hp : Lg.parse (bs text) with
  | inl no =>
    rw [hp] at hx
    obtain ⟨rfl, rfl, rfl⟩ := hx
    exact bNe (fun _ => bT rfl (End.of (i := 2) h7 rfl)) (fun hh => absurd hh (by decide))
  | inr l =>
    rw [hp] at hx
    obtain ⟨rfl, rfl, hx⟩ := hx
    obtain ⟨hok, hl, hw⟩ := parse_want hp
    refine bNe (fun hh => absurd rfl hh) (fun _ => ?_)
    refine ⟨fun t f i w' => ∃ (m j : Nat), f = m ∧ i = j ∧ m ≤ j ∧ j ≤ (bs text).length ∧ (bs t).length ≤ m ∧ want (sp 10 (bs text)) = bs t ++ want (sp 10 ((bs text).drop m)) ∧ 10 ∉ ((bs text).drop m).take (j - m) ∧ w' = w7,
      fun _ _ i _ => ((bs text).length - i).toNat, ⟨0, 0, rfl, rfl, Nat.le_refl _, Nat.zero_le _, Nat.zero_le _, rfl, by simp, rfl⟩, ?_⟩
    rintro _ t f i w8 ⟨m, j, rfl, rfl, hmj, hj, htl, hwant, hno, rfl⟩
    refine bLt (fun hlt => ?_) (fun hge => ?_)
    · have hlt : j < (bs text).length := by omega
      obtain ⟨c, hc⟩ : ∃ c, (bs text)[j]? = some c := ⟨_, List.getElem?_eq_getElem hlt⟩
      have e1 : ((bs text).drop m)[j - m]? = some c := by rw [List.getElem?_drop, show m + (j - m) = j by omega]; exact hc
      refine strI j rfl hc ?_
      rw [wrapS (by omega)]
      refine bEq (fun e10 => ?_) (fun hne => ?_)
      · have hc10 : c = 10 := UInt8.toNat_inj.1 (by have e9 : (10 : UInt8).toNat = 10 := rfl; omega)
        subst hc10
        have hcut : (bs text).drop m = ((bs text).drop m).take (j - m) ++ 10 :: (bs text).drop (j + 1) := by
          have e2 : ((bs text).drop m).drop (j - m) = 10 :: (bs text).drop (j + 1) := by
            rw [List.drop_drop, show m + (j - m) = j by omega]
            have hg : (bs text)[j] = 10 := by rw [List.getElem?_eq_getElem hlt] at hc; exact Option.some.inj hc
            rw [List.drop_eq_getElem_cons hlt, hg]
          rw [← e2, List.take_append_drop]
        have hw1 : want (sp 10 ((bs text).drop m)) = (if skip (((bs text).drop m).take (j - m)) then [] else ((bs text).drop m).take (j - m) ++ [10]) ++ want (sp 10 ((bs text).drop (j + 1))) := by
          conv => lhs; rw [hcut]
          rw [want_hit hno]
        have hskip : skip (((bs text).drop m).take (j - m)) = true → want (sp 10 (bs text)) = bs t ++ want (sp 10 ((bs text).drop (j + 1))) := fun hs => by
          rw [hwant, hw1, if_pos hs, List.nil_append]
        refine bGt (fun hgt => ?_) (fun hle2 => ?_)
        · have hmj' : m < j := by omega
          obtain ⟨d, hd⟩ : ∃ d, (bs text)[m]? = some d := ⟨_, List.getElem?_eq_getElem (by omega)⟩
          have hx0 : (((bs text).drop m).take (j - m))[0]? = some d := by
            rw [List.getElem?_take, if_pos (by omega), List.getElem?_drop]; exact hd
          refine strI m rfl hd ?_
          refine bNe (fun h35 => ?_) (fun h35 => ?_)
          · have hd35 : d ≠ 35 := fun e => h35 (by rw [e]; rfl)
            have hs : skip (((bs text).drop m).take (j - m)) = false := by
              have hne : ((bs text).drop m).take (j - m) ≠ [] := fun e => by rw [e] at hx0; cases hx0
              unfold skip
              rw [decide_eq_false hne, decide_eq_false (by rw [hx0]; simpa using hd35)]; rfl
            have ee : bs (text.extract (m : Int).toNat (((j + 1 : Nat) : Int)).toNat) = ((bs text).drop m).take (j - m) ++ [10] := by
              rw [Int.toNat_natCast, Int.toNat_natCast, bs_sub, show j + 1 - m = j - m + 1 by omega, take_succ e1]
            have el : (text.extract (m : Int).toNat (((j + 1 : Nat) : Int)).toNat).size = j - m + 1 := by
              rw [← bs_len, ee, List.length_append, List.length_take, List.length_drop]
              show min (j - m) ((bs text).length - m) + 1 = _
              omega
            have hts := bs_len t
            refine ⟨⟨by omega, by omega⟩, ⟨by omega, by rw [Int.toNat_natCast]; omega⟩, by omega, ⟨j + 1, j + 1, rfl, rfl, Nat.le_refl _, by omega, ?_, ?_, by simp, rfl⟩, by dsimp only; omega⟩
            · rw [bs_append, List.length_append, bs_len (text.extract _ _), el]; omega
            · rw [hwant, hw1, hs, bs_append, ee]; simp
          · have hd35 : d = 35 := UInt8.toNat_inj.1 (by have e9 : (35 : UInt8).toNat = 35 := rfl; omega)
            have hs : skip (((bs text).drop m).take (j - m)) = true := by unfold skip; rw [hx0, hd35]; simp
            exact ⟨⟨j + 1, j + 1, rfl, rfl, Nat.le_refl _, by omega, by omega, hskip hs, by simp, rfl⟩, by dsimp only; omega⟩
        · have hs : skip (((bs text).drop m).take (j - m)) = true := by rw [show j - m = 0 by omega]; rfl
          exact ⟨⟨j + 1, j + 1, rfl, rfl, Nat.le_refl _, by omega, by omega, hskip hs, by simp, rfl⟩, by dsimp only; omega⟩
      · have hc10 : c ≠ 10 := fun e => hne (by rw [e]; rfl)
        refine ⟨⟨m, j + 1, rfl, rfl, by omega, by omega, htl, hwant, ?_, rfl⟩, by dsimp only; omega⟩
        rw [show j + 1 - m = j - m + 1 by omega, take_succ e1]
        intro hm
        rcases List.mem_append.1 hm with hm | hm
        · exact hno hm
        · exact hc10 (List.mem_singleton.1 hm).symm
    · have e : j = (bs text).length := by omega
      subst e
      rw [List.take_of_length_le (by rw [List.length_drop]; omega)] at hno
      rw [want_miss hno, List.append_nil] at hwant
      refine use (c_Print hx (fun o ho => ok_I (hok o ho)) (lib.old (i := 2) rfl h7) h7) ?_
      rintro v w9 ⟨hv9, _, h9⟩
      have hpo := printO_some hok hl
      obtain rfl := printE hv9 (s := printT l) (e := 0) (by rw [hpo]; rfl) (by rw [hpo]; rfl)
      refine ⟨_, _, rfl, bT rfl (bT rfl ?_)⟩
      rw [beq_bs, bs_mk, hw, hwant, decide_eq_true rfl]
      exact End.of (i := 2) h9 rfl

end Go.Mp
