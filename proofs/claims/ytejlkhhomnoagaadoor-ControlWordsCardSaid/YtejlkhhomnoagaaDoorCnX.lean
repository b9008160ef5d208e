/- The laws of control. -/
import Derived.Test.YtejlkhhomnoagaaDoorCnW
set_option maxRecDepth 100000
namespace Go.Mp
open Go Go.Vc Go.Sp Go.Proofs Go.Ct

variable {E : Env} {L : List Asn} {w W : World}

/-- A law's end. -/
def End (W : World) (v : Value) (w' : World) : Prop := v = .bool true ∧ ∃ (L : List Asn) (i : Nat), L[i]? = some (old W.heap) ∧ Sep (World.env W) L w'
theorem End.of {i : Nat} (h : Sep (World.env W) L w) (hi : L[i]? = some (old W.heap)) : End W (.bool true) w := ⟨rfl, L, i, hi, h⟩

theorem law_Reads (name text : ByteArray) (n : Int) (hn : i64 n) (l : Libs W) : Calls P fn_millpondlaw11_ControlReads #[.string name, .string text, .int .i64 n] W (Ret fun v w' => End W v w') := by
  apply of_millpondlaw11_ControlReads
  unfold sh_millpondlaw11_ControlReads
  refine use (l_works l (Sep.start W)) ?_
  rintro _ w1 ⟨rfl, h1⟩
  refine ⟨_, rfl, bifF ?_⟩
  rw [← bs_len]
  refine bGt (fun _ => End.of (i := 0) h1 rfl) (fun hle => ?_)
  refine use (c_Read name text (by omega) h1) ?_
  rintro _ w2 ⟨rfl, h2⟩
  refine ⟨_, _, _, rfl, ?_⟩
  refine use (r_Read name text (by omega) h2) ?_
  rintro _ w3 ⟨rfl, h3⟩
  refine ⟨_, _, _, rfl, bifT ?_⟩
  refine bEq (fun _ => ?_) (fun hh => absurd rfl hh)
  refine bEq (fun _ => ?_) (fun hh => absurd rfl hh)
  refine bEq (fun _ => ?_) (fun hh => absurd rfl hh)
  refine use (c_Show hn (l.old (i := 0) rfl h3) h3) ?_
  rintro _ w4 ⟨rfl, _, h4⟩
  refine ⟨_, rfl, ?_⟩
  refine use (r_Show hn h4) ?_
  rintro _ w5 ⟨rfl, _, h5⟩
  refine ⟨_, rfl, ?_⟩
  rw [beq_bs, decide_eq_true rfl]
  exact End.of (i := 0) h5 rfl

theorem law_Stats {names values : Sl} {ns : List Bytes} {vs : List Int} (text : ByteArray) (hN : Strs W names ns) (hV : Intz W values vs) (hv : ∀ v ∈ vs, i64 v) (l : Libs W) :
    Calls P fn_millpondlaw11_ControlStats #[.slice names.p names.n names.c, .slice values.p values.n values.c, .string text] W (Ret fun v w' => End W v w') := by
  apply of_millpondlaw11_ControlStats
  unfold sh_millpondlaw11_ControlStats
  have fin : ∀ {w' : World}, Sep (World.env W) [old W.heap] w' → Grow W w' := fun hh => grow_old (i := 0) rfl hh rfl
  refine use (l_works l (Sep.start W)) ?_
  rintro _ w1 ⟨rfl, h1⟩
  refine ⟨_, rfl, bifF ?_⟩
  refine ⟨fun w' => ns.length ≤ 120 ∧ (∀ x ∈ ns, x.length ≤ 120) ∧ (bs text).length ≤ 1000 ∧ Sep (World.env W) [old W.heap] w', ?_, ?_⟩
  · refine use (l_over (hN.grow (fin h1))) ?_
    rintro _ w2 ⟨⟨b, rfl, hb⟩, rfl⟩
    refine ⟨_, rfl, bifI (fun _ => End.of (i := 0) h1 rfl) (fun hb0 => ?_)⟩
    obtain ⟨hb1, hb2⟩ := hb hb0
    refine bGt (fun _ => End.of (i := 0) h1 rfl) (fun _ => ?_)
    rw [← bs_len]
    exact bGt (fun _ => End.of (i := 0) h1 rfl) (fun ht => ⟨hb1, hb2, by omega, h1⟩)
  · rintro _ w2 ⟨hb1, hb2, ht, h2⟩
    have g2 := fin h2
    have hb3 : ∀ s ∈ ns, s.length < 1000000 := fun s hs => by have := hb2 s hs; omega
    obtain ⟨st, se, hse⟩ : ∃ (st : ByteArray) (se : Int), ∀ v, StatEnd ns vs v → v = .tuple #[.string st, .int .i64 se] := ⟨_, _, fun v h => h⟩
    have hc := c_Stat (l.grow g2) (hN.grow g2) (hV.grow g2) hv hb3 (by omega) h2
    refine use hc ?_
    rintro v w3 ⟨hv3, g3, h3⟩
    have hv3 := hse v hv3
    subst hv3
    refine ⟨_, _, rfl, ?_⟩
    have g3 := fin h3
    have hc := r_Stat (hN.grow g3) (hV.grow g3) hv hb3 (by omega) h3
    refine use hc ?_
    rintro v w4 ⟨hv4, g4, h4⟩
    have hv4 := hse v hv4
    subst hv4
    refine ⟨_, _, rfl, ?_⟩
    refine use (c_Parse (i := 0) rfl l text (by omega) h4) ?_
    rintro v w5 ⟨s1, s2, hv5, hn1, hn2, h5⟩
    subst hv5
    refine ⟨s1, s2, _, rfl, ?_⟩
    refine use (r_Parse text (by omega) h5) ?_
    rintro v w6 ⟨t1, t2, hv6, hm1, hm2, h6⟩
    subst hv6
    refine ⟨t1, t2, _, rfl, bifT ?_⟩
    refine bS (fun _ => ?_) (fun hh => absurd rfl hh)
    refine bEq (fun _ => ?_) (fun hh => absurd rfl hh)
    have hln : ((parse (bs text)).getD []).length < 4611686018427387904 := by
      cases hp : parse (bs text) with
      | none => show 0 < _; omega
      | some R => have := (parse_some hp).1.len; show R.length < _; omega
    generalize (parse (bs text)).getD [] = R at hn1 hn2 hm1 hm2 h5 h6 hln
    have hc := l_texts (Strs.row (q := 2) h6 rfl (hn1.trans (by simp))) (Strs.row (q := 0) h6 rfl (hm1.trans (by simp))) (by simpa using hln) h6
    refine use hc ?_
    rintro _ w7 ⟨rfl, _, h7⟩
    refine ⟨_, rfl, bT (by simp) ?_⟩
    have hc := l_row (Intz.row (q := 3) h7 rfl (hn2.trans (by simp))) (Intz.row (q := 1) h7 rfl (hm2.trans (by simp))) (by simpa using hln) h7
    refine use hc ?_
    rintro _ w8 ⟨rfl, _, h8⟩
    refine ⟨_, rfl, bT (by simp) (bEq (fun _ => ?_) (fun hh => absurd rfl hh))⟩
    refine use (c_Word text (by omega)) ?_
    rintro _ w9 ⟨rfl, rfl⟩
    refine ⟨_, rfl, ?_⟩
    refine use (r_Word text (by omega)) ?_
    rintro _ w10 ⟨rfl, rfl⟩
    refine ⟨_, rfl, ?_⟩
    rw [beq_self_eq_true]
    exact End.of (i := 4) h8 rfl

theorem read_low (n : Int) : Ct.read fLow (showB n) = if 0 ≤ n ∧ n ≤ 1099511627776 then (1, n, 0) else (-1, 0, 20) := by
  unfold Ct.read
  have e1 : fileN fLow = 1 := rfl
  rw [e1, (showB_noK n (c := 10) (by decide) (by decide)).2, lim_show]
  by_cases h : 0 ≤ n ∧ n ≤ 1099511627776
  · rw [if_neg (by omega), if_pos h, if_pos h]
    dsimp only
    rw [if_neg (by omega)]
  · rw [if_neg (by omega), if_neg h, if_neg h]

theorem showB_len {n : Int} (hn : i64 n) : (showB n).length ≤ 21 := by
  unfold showB
  split
  · show 3 ≤ _; omega
  · exact Lib.itoa_length_le n hn.1 hn.2

theorem law_Back {names values : Sl} {ns : List Bytes} {vs : List Int} (n : Int) (text : ByteArray) (hn : i64 n) (hN : Strs W names ns) (hV : Intz W values vs) (hv : ∀ v ∈ vs, i64 v) (l : Libs W) :
    Calls P fn_millpondlaw11_ControlBack #[.int .i64 n, .slice names.p names.n names.c, .slice values.p values.n values.c, .string text] W (Ret fun v w' => End W v w') := by
  apply of_millpondlaw11_ControlBack
  unfold sh_millpondlaw11_ControlBack
  have fin : ∀ {w' : World}, Sep (World.env W) [old W.heap] w' → Grow W w' := fun hh => grow_old (i := 0) rfl hh rfl
  refine use (l_works l (Sep.start W)) ?_
  rintro _ w1 ⟨rfl, h1⟩
  refine ⟨_, rfl, bifF ?_⟩
  refine ⟨fun w' => ns.length ≤ 120 ∧ (∀ x ∈ ns, x.length ≤ 120) ∧ (bs text).length ≤ 1000 ∧ Sep (World.env W) [old W.heap] w', ?_, ?_⟩
  · refine use (l_over (hN.grow (fin h1))) ?_
    rintro _ w2 ⟨⟨b, rfl, hb⟩, rfl⟩
    refine ⟨_, rfl, bifI (fun _ => End.of (i := 0) h1 rfl) (fun hb0 => ?_)⟩
    obtain ⟨hb1, hb2⟩ := hb hb0
    refine bGt (fun _ => End.of (i := 0) h1 rfl) (fun _ => ?_)
    rw [← bs_len]
    exact bGt (fun _ => End.of (i := 0) h1 rfl) (fun ht => ⟨hb1, hb2, by omega, h1⟩)
  · rintro _ w2 ⟨hb1, hb2, ht, h2⟩
    refine use (c_Show hn (l.grow (fin h2)) h2) ?_
    rintro _ w3 ⟨rfl, _, h3⟩
    refine ⟨_, rfl, ?_⟩
    have hsl := showB_len hn
    refine use (c_Read _ _ (by rw [bs_mk]; omega) h3) ?_
    rw [bs_mk]
    have er : Ct.read (bs (ByteArray.mk #[109, 101, 109, 111, 114, 121, 46, 108, 111, 119])) (showB n) = if 0 ≤ n ∧ n ≤ 1099511627776 then (1, n, 0) else (-1, 0, 20) := read_low n
    simp only [er]
    rintro _ w4 ⟨rfl, h4⟩
    refine ⟨_, _, _, rfl, ?_⟩
    refine ⟨fun w' => Sep (World.env W) [old W.heap] w', ?_, ?_⟩
    · by_cases hr : 0 ≤ n ∧ n ≤ 1099511627776
      · simp only [if_pos hr]
        refine bGe (fun _ => ?_) (fun hh => by omega)
        refine bF (by rw [decide_eq_true hr.2]; decide) (bT (by decide) ?_)
        exact bNe (fun hh => absurd rfl hh) (fun _ => bNe (fun hh => absurd rfl hh) (fun _ => h4))
      · simp only [if_neg hr]
        refine bGe (fun h0 => ?_) (fun _ => ?_)
        · refine bF (by rw [decide_eq_false (by omega)]; decide) (bF (by decide) h4)
        · exact bF (by decide) (bF (by decide) h4)
    · rintro _ w5 h5
      have g5 := fin h5
      have hb3 : ∀ s ∈ ns, s.length < 1000000 := fun s hs => by have := hb2 s hs; omega
      have hc := c_Stat (l.grow g5) (hN.grow g5) (hV.grow g5) hv hb3 (by omega) h5
      refine use hc ?_
      rintro v w6 ⟨hv6, g6, h6⟩
      refine ⟨mk ((stat ns vs).getD []), (if (stat ns vs).isSome then 0 else 1), by rw [hv6], ?_⟩
      refine ⟨fun w' => Sep (World.env W) [old W.heap] w', ?_, ?_⟩
      · by_cases hok : statOk ns vs
        · rw [stat_some hok]
          refine bT rfl ?_
          have hO := Ok.of_stat hok hv
          have hrl := render_len hO.ok
          have hlz := hO.len
          have hp : parse (bs (mk ((some (render (ns.zip vs)) : Option Bytes).getD []))) = some (ns.zip vs) := parse_eq hO rfl
          refine use (c_Parse (i := 0) rfl l _ (by show (render (ns.zip vs)).length < _; omega) h6) ?_
          rintro v w7 ⟨s1, s2, hv7, hn1, hn2, h7⟩
          rw [hp] at hv7 hn1 hn2 h7
          refine ⟨s1, s2, 0, by rw [hv7]; rfl, bNe (fun hh => absurd rfl hh) (fun _ => ?_)⟩
          have h7' : Sep (World.env W) (rowA s1 1 (strL ((ns.zip vs).map (·.1))) :: rowA s2 1 (intL ((ns.zip vs).map (·.2))) :: [old W.heap]) w7 := h7
          rw [zip_fst hok.1, zip_snd hok.1] at h7'
          have hlz2 : (ns.zip vs).length = ns.length := by rw [List.length_zip]; have := hok.1; omega
          have e1 : s1.n = ns.length := Eq.trans hn1 hlz2
          have e2 : s2.n = vs.length := Eq.trans hn2 (hlz2.trans hok.1)
          have g7 : Grow W w7 := grow_old (i := 2) rfl h7' rfl
          have hc := l_texts (Strs.row (q := 0) h7' rfl e1) (hN.grow g7) (by omega) h7'
          refine use hc ?_
          rintro _ w8 ⟨rfl, g8, h8⟩
          refine ⟨_, rfl, bF (by simp) ?_⟩
          have hc := l_row (Intz.row (q := 1) h8 rfl e2) (hV.grow (g7.trans g8)) (by have := hok.1; omega) h8
          refine use hc ?_
          rintro _ w9 ⟨rfl, g9, h9⟩
          exact ⟨_, rfl, bF (by simp) h9.tail.tail⟩
        · rw [stat_none hok]
          exact bF (by decide) h6
      · rintro _ w7 h7
        refine use (c_Parse (i := 0) rfl l text (by omega) h7) ?_
        rintro v w8 ⟨s1, s2, hv8, hn1, hn2, h8⟩
        cases hp : parse (bs text) with
        | none =>
          rw [hp] at hv8 hn1 hn2 h8
          refine ⟨s1, s2, 20, by rw [hv8]; rfl, bT (by decide) (bifT ?_)⟩
          have e1 : s1.n = 0 := hn1
          have e2 : s2.n = 0 := hn2
          rw [e1, e2]
          exact bT (by decide) (End.of (i := 2) h8 rfl)
        | some R =>
          rw [hp] at hv8 hn1 hn2 h8
          obtain ⟨hO, hR⟩ := parse_some hp
          refine ⟨s1, s2, 0, by rw [hv8]; rfl, bF (by decide) ?_⟩
          have h8' : Sep (World.env W) (rowA s1 1 (strL (R.map (·.1))) :: rowA s2 1 (intL (R.map (·.2))) :: [old W.heap]) w8 := h8
          have e1 : s1.n = (R.map (·.1)).length := Eq.trans hn1 (by simp)
          have e2 : s2.n = (R.map (·.2)).length := Eq.trans hn2 (by simp)
          have hRl := hO.len
          have hb1 : ∀ s ∈ R.map (·.1), s.length < 1000000 := fun s hs => by
            obtain ⟨x, hx, rfl⟩ := List.mem_map.1 hs
            have := word_len (hO.ok x hx).1; omega
          have hv1 : ∀ v ∈ R.map (·.2), i64 v := fun v hs => by
            obtain ⟨x, hx, rfl⟩ := List.mem_map.1 hs
            exact (hO.ok x hx).2
          have hc := c_Stat (l.old (i := 2) rfl h8') (Strs.row (q := 0) h8' rfl e1) (Intz.row (q := 1) h8' rfl e2) hv1 hb1 (by simp; omega) h8'
          refine use hc ?_
          rintro v w9 ⟨hv9, g9, h9⟩
          unfold StatEnd at hv9
          rw [hO.stat, hR] at hv9
          refine ⟨text, 0, by rw [hv9]; show _ = Ending.returned (.tuple #[.string text, .int .i64 0]); rw [← mk_bs text]; rfl, bifT (bT (by decide) ?_)⟩
          rw [beq_bs, decide_eq_true rfl]
          exact End.of (i := 2) h9 rfl

/-! ### so many K -/

theorem read_of {f t : Bytes} (h0 : ¬ fileN f < 0) {n : Int} (h : lim (Lib.trimSuffix t [10]) = some n) (h4 : fileN f ≠ 4) : Ct.read f t = (fileN f, n, 0) := by
  unfold Ct.read
  rw [if_neg h0, h]
  dsimp only
  rw [if_neg (fun hh => h4 hh.1)]
theorem read_neg {f t : Bytes} (h0 : fileN f < 0) : Ct.read f t = (-1, 0, 2) := by
  unfold Ct.read
  rw [if_pos h0]

theorem fileN_oom {f : Bytes} : fileN f = 4 ↔ f = fOom := by
  constructor
  · intro h
    unfold fileN at h
    repeat' split at h
    all_goals first | omega | assumption
  · rintro rfl; rfl

theorem showB_small {n : Int} (h0 : 0 ≤ n) (h1 : n ≤ 1073741824) : showB n = Lib.itoa n := by unfold showB; rw [if_neg (by omega)]

theorem law_Kilo (n : Int) (file : ByteArray) (hn : i64 n) (l : Libs W) : Calls P fn_millpondlaw11_ControlKilo #[.int .i64 n, .string file] W (Ret fun v w' => End W v w') := by
  apply of_millpondlaw11_ControlKilo
  unfold sh_millpondlaw11_ControlKilo
  refine use (l_works l (Sep.start W)) ?_
  rintro _ w1 ⟨rfl, h1⟩
  refine ⟨_, rfl, bifF ?_⟩
  refine ⟨fun w' => 0 ≤ n ∧ n ≤ 1073741824 ∧ Sep (World.env W) [old W.heap] w', ?_, ?_⟩
  · refine bLt (fun _ => End.of (i := 0) h1 rfl) (fun h0 => ?_)
    exact bGt (fun _ => End.of (i := 0) h1 rfl) (fun h2 => ⟨h0, h2, h1⟩)
  · rintro _ w2 ⟨h0, hle, h2⟩
    have hk : IntKind.i64.wrap (1024 * n) = 1024 * n := w64 (by omega) (by omega)
    have hkn : i64 (1024 * n) := ⟨by omega, by omega⟩
    rw [hk]
    have hl1 := showB_len hn
    have hl2 := showB_len hkn
    have s75 : (ByteArray.mk #[75]).size = 1 := rfl
    have s10 : (ByteArray.mk #[10]).size = 1 := rfl
    have ms1 : (mk (showB n)).size = (showB n).length := mk_size _
    have ms2 : (mk (showB (1024 * n))).size = (showB (1024 * n)).length := mk_size _
    have t1 : bs (mk (showB n) ++ ByteArray.mk #[75]) = showB n ++ [75] := by rw [bs_append]
    have t3 : bs (mk (showB (1024 * n)) ++ ByteArray.mk #[10]) = showB (1024 * n) ++ [10] := by rw [bs_append]
    refine use (c_Show hn (l.old (i := 0) rfl h2) h2) ?_
    rintro _ w3 ⟨rfl, _, h3⟩
    refine ⟨_, rfl, by omega, ?_⟩
    refine use (c_Read file _ (by rw [t1, List.length_append, List.length_singleton]; omega) h3) ?_
    rw [t1]
    rintro _ w4 ⟨rfl, h4⟩
    refine ⟨_, _, _, rfl, ?_⟩
    refine use (c_Show hkn (l.old (i := 0) rfl h4) h4) ?_
    rintro _ w5 ⟨rfl, _, h5⟩
    refine ⟨_, rfl, ?_⟩
    refine use (c_Read file _ (by rw [bs_mk]; omega) h5) ?_
    rw [bs_mk]
    rintro _ w6 ⟨rfl, h6⟩
    refine ⟨_, _, _, rfl, ?_⟩
    refine use (c_Show hkn (l.old (i := 0) rfl h6) h6) ?_
    rintro _ w7 ⟨rfl, _, h7⟩
    refine ⟨_, rfl, by omega, ?_⟩
    refine use (c_Read file _ (by rw [t3, List.length_append, List.length_singleton]; omega) h7) ?_
    rw [t3]
    rintro _ w8 ⟨rfl, h8⟩
    refine ⟨_, _, _, rfl, ?_⟩
    -- what each limit is
    have x1 : lim (Lib.trimSuffix (showB n ++ [75]) [10]) = some (1024 * n) := by
      rw [trim_miss (by decide)]; exact lim_kilo n h0 hle
    have x2 : Lib.trimSuffix (showB (1024 * n)) [10] = showB (1024 * n) := (showB_noK _ (by decide) (by decide)).2
    have x3 : Lib.trimSuffix (showB (1024 * n) ++ [10]) [10] = showB (1024 * n) := trim_hit _ _
    have x4 : lim (showB (1024 * n)) = some (1024 * n) := by rw [lim_show, if_pos ⟨by omega, by omega⟩]
    refine bS (fun (hf : bs file = fOom) => ?_) (fun (hf : bs file ≠ fOom) => ?_)
    · have r1 : Ct.read (bs file) (showB n ++ [75]) = (-1, 0, 20) := by
        unfold Ct.read
        rw [hf]
        have e4 : fileN fOom = 4 := rfl
        rw [e4, if_neg (by omega), x1]
        dsimp only
        rw [if_pos]
        rw [trim_miss (by decide)]
        refine ⟨rfl, fun hh => ?_, fun hh => ?_⟩
        · have := congrArg List.getLast? hh
          simp at this
        · have := congrArg List.getLast? hh
          simp at this
      have r23 : Ct.read (bs file) (showB (1024 * n) ++ [10]) = Ct.read (bs file) (showB (1024 * n)) := by
        unfold Ct.read
        rw [x2, x3]
      have r2 : Ct.read (bs file) (showB (1024 * n)) = if n = 0 then (4, 0, 0) else (-1, 0, 20) := by
        unfold Ct.read
        rw [hf]
        have e4 : fileN fOom = 4 := rfl
        rw [e4, if_neg (by omega), x2, x4]
        dsimp only
        by_cases hz : n = 0
        · subst hz
          have : showB (1024 * 0) = [48] := by
            show showB 0 = _
            unfold showB Lib.itoa
            rw [if_neg (by decide), if_neg (by decide)]
            show Lib.decDigits 0 = _
            rw [dec_small (by omega)]; rfl
          rw [this, if_pos rfl, if_neg (fun hh => hh.2.1 rfl)]
          rfl
        · rw [if_neg hz, if_pos]
          refine ⟨rfl, fun hh => ?_, fun hh => ?_⟩
          · have h48 := lim_show (1024 * n)
            rw [hh, if_pos ⟨by omega, by omega⟩] at h48
            have e0 : lim [48] = some 0 := by decide
            rw [e0] at h48
            have := Option.some.inj h48; omega
          · have h48 := lim_show (1024 * n)
            rw [hh, if_pos ⟨by omega, by omega⟩] at h48
            have e0 : lim [49] = some 1 := by decide
            rw [e0] at h48
            have := Option.some.inj h48; omega
      rw [r23, r1, r2]
      refine bifT (bT (by decide) ?_)
      by_cases hz : n = 0
      · rw [if_pos hz]
        subst hz
        exact bT (by decide) (End.of (i := 0) h8 rfl)
      · rw [if_neg hz]
        refine bT ?_ (End.of (i := 0) h8 rfl)
        have : (n == 0) = false := by simpa using hz
        rw [this]; rfl
    · have hf4 : fileN (bs file) ≠ 4 := fun hh => hf (fileN_oom.1 hh)
      by_cases hneg : fileN (bs file) < 0
      · rw [read_neg hneg, read_neg hneg, read_neg hneg]
        exact bifT (bT (by decide) (bT (by decide) (bT (by decide) (bT (by decide) (bT (by decide) (bT (by decide) (bT (by decide) (End.of (i := 0) h8 rfl))))))))
      · rw [read_of hneg x1 hf4, read_of hneg (by rw [x2]; exact x4) hf4, read_of hneg (by rw [x3]; exact x4) hf4]
        refine bifT ?_
        refine bEq (fun _ => ?_) (fun hh => absurd rfl hh)
        refine bEq (fun _ => ?_) (fun hh => absurd rfl hh)
        refine bEq (fun _ => ?_) (fun hh => absurd rfl hh)
        refine bEq (fun _ => ?_) (fun hh => absurd rfl hh)
        refine bEq (fun _ => ?_) (fun hh => absurd rfl hh)
        refine bEq (fun _ => ?_) (fun hh => absurd rfl hh)
        refine bNe (fun hh => absurd rfl hh) (fun _ => ?_)
        rw [beq_self_eq_true]
        exact End.of (i := 0) h8 rfl

end Go.Mp
