/- What each function of the document's answer for gens does. -/
import Derived.Test.YtkheedbjhboclaaGnM
import Derived.Test.YtkheedbjhboclaaRowQ
set_option maxRecDepth 100000
namespace Go.Mp
open Go Go.Vc Go.Sp Go.Stab

variable {E : Env} {L : List Asn} {w : World} {R : List Ent} {r : Nat}

theorem vs3 (e : Ent) : e.vs.length = 3 := rfl

def RL (r : Nat) (R : List Ent) : Asn := exA fun s : Sl => pur (s.n = R.length) (star (blk r [.slice s.p s.n s.c]) (rowA s 3 (recs Ent.vs R)))
theorem RL.open (h : Sep E (RL r R :: L) w) : ∃ s : Sl, s.n = R.length ∧ Sep E (blk r [.slice s.p s.n s.c] :: rowA s 3 (recs Ent.vs R) :: L) w := by
  obtain ⟨s, h⟩ := Sep.ex.1 h
  obtain ⟨h1, h⟩ := Sep.pur.1 h
  exact ⟨s, h1, Sep.star.1 h⟩
theorem RL.shut {s : Sl} (hn : s.n = R.length) (h : Sep E (blk r [.slice s.p s.n s.c] :: rowA s 3 (recs Ent.vs R) :: L) w) : Sep E (RL r R :: L) w :=
  Sep.ex.2 ⟨s, Sep.pur.2 ⟨hn, Sep.star.2 h⟩⟩

/-- Where an id is. -/
def At (R : List Ent) (id i : Int) : Prop := (i = -1 ∧ fnd R id = none) ∨ ∃ (k : Nat) (e : Ent), i = k ∧ R[k]? = some e ∧ e.id = id

theorem r_Find (G : Good R) (id : Int) (h : Sep E (RL r R :: L) w) : Calls P fn_millpondref12_Lists_Find #[.pointer (some ⟨r, 0, none⟩), .int .i64 id] w (Ret fun v w' => ∃ i, v = .int .i64 i ∧ At R id i ∧ Sep E (RL r R :: L) w') := by
  have hR := G.few
  apply of_millpondref12_Lists_Find
  unfold sh_millpondref12_Lists_Find
  refine ⟨fun i w => ∃ k : Nat, i = k ∧ k ≤ R.length ∧ (∀ j e, j < k → R[j]? = some e → e.id ≠ id) ∧ Sep E (RL r R :: L) w, fun i _ => (R.length - i).toNat, ⟨0, rfl, Nat.zero_le _, fun j e hj => absurd hj (Nat.not_lt_zero _), h⟩, ?_⟩
  rintro _ i w1 ⟨k, rfl, hk, hno, h1⟩
  obtain ⟨s, hn, h2⟩ := RL.open h1
  refine ⟨_, rfl, ld (x := s) h2 0 rfl rfl rfl (bLt (fun hlt => ?_) (fun hge => ⟨-1, rfl, .inl ⟨rfl, ?_⟩, h1⟩))⟩
  · have he : R[k]? = some (R[k]'(by omega)) := List.getElem?_eq_getElem (by omega)
    generalize R[k]'(by omega) = e at he
    refine ⟨_, rfl, ld (x := s) h2 0 rfl rfl rfl (elC vs3 1 h2 rfl hn rfl he (fun b _ hc => ldC (o := k * 3 + 0) rfl (hc 0 _ rfl) (bEq (fun hid => ⟨_, rfl, .inr ⟨k, e, rfl, he, hid⟩, h1⟩) (fun hid => ?_))))⟩
    rw [w64 (by omega) (by omega)]
    refine ⟨⟨k + 1, by omega, by omega, fun j e' hj he' => ?_, h1⟩, by dsimp only; omega⟩
    by_cases hjk : j = k
    · subst hjk; rw [he] at he'; rw [← Option.some.inj he']; exact hid
    · exact hno j e' (by omega) he'
  · rw [fnd_none G.rise]
    intro e he
    obtain ⟨j, hj, rfl⟩ := List.mem_iff_getElem.1 he
    exact hno j _ (by omega) (List.getElem?_eq_getElem hj)

theorem At.some_ {id i : Int} (G : Good R) (h : At R id i) (hi : 0 ≤ i) : ∃ (k : Nat) (e : Ent), i = k ∧ R[k]? = some e ∧ fnd R id = some e ∧ k < R.length := by
  rcases h with ⟨rfl, _⟩ | ⟨k, e, rfl, he, hid⟩
  · omega
  · exact ⟨k, e, rfl, he, (fnd_iff G.rise).2 ⟨List.mem_of_getElem? he, hid⟩, (List.getElem?_eq_some_iff.1 he).1⟩
theorem At.none_ {id i : Int} (h : At R id i) (hi : i < 0) : fnd R id = none := by
  rcases h with ⟨_, h⟩ | ⟨k, e, rfl, _⟩
  · exact h
  · omega

theorem r_Get (G : Good R) (id : Int) (h : Sep E (RL r R :: L) w) : Calls P fn_millpondref12_Lists_Get #[.pointer (some ⟨r, 0, none⟩), .int .i64 id] w (Ret fun v w' => v = .tuple #[.int .i64 (gGroup R id), .int .i64 (gAge R id)] ∧ Sep E (RL r R :: L) w') := by
  apply of_millpondref12_Lists_Get
  unfold sh_millpondref12_Lists_Get
  refine use (r_Find G id h) ?_
  rintro _ w1 ⟨i, rfl, hi, h1⟩
  refine ⟨_, rfl, bLt (fun hneg => ?_) (fun hpos => Dr.i h1 (fun w2 h2 => ?_))⟩
  · have := hi.none_ hneg
    rw [gGroup_none this, gAge_none this]; exact ⟨rfl, h1⟩
  · obtain ⟨k, e, rfl, he, hf, _⟩ := hi.some_ G hpos
    obtain ⟨s, hn, h3⟩ := RL.open h2
    rw [gGroup_some hf, gAge_some hf]
    refine ⟨_, rfl, ld (x := s) h3 0 rfl rfl rfl (elC vs3 1 h3 rfl hn rfl he (fun b _ hc => ldC (o := k * 3 + 1) rfl (hc 1 _ rfl) ⟨_, rfl, ld (x := s) h3 0 rfl rfl rfl (elC vs3 1 h3 rfl hn rfl he (fun b _ hc => ldC (o := k * 3 + 2) rfl (hc 2 _ rfl) ⟨rfl, h2⟩))⟩))⟩

theorem r_Count (G : Good R) (g : Int) (h : Sep E (RL r R :: L) w) : Calls P fn_millpondref12_Lists_Count #[.pointer (some ⟨r, 0, none⟩), .int .i64 g] w (Ret fun v w' => v = .int .i64 (gCount R g) ∧ Sep E (RL r R :: L) w') := by
  have hR := G.few
  apply of_millpondref12_Lists_Count
  unfold sh_millpondref12_Lists_Count
  refine ⟨fun n i w => ∃ k : Nat, i = k ∧ k ≤ R.length ∧ n = gCount (R.take k) g ∧ Sep E (RL r R :: L) w, fun _ i _ => (R.length - i).toNat, ⟨0, rfl, Nat.zero_le _, rfl, h⟩, ?_⟩
  rintro _ n i w1 ⟨k, rfl, hk, rfl, h1⟩
  obtain ⟨s, hn, h2⟩ := RL.open h1
  refine ⟨_, rfl, ld (x := s) h2 0 rfl rfl rfl (bLt (fun hlt => ?_) (fun hge => ⟨by rw [List.take_of_length_le (by omega)], h1⟩))⟩
  have he : R[k]? = some (R[k]'(by omega)) := List.getElem?_eq_getElem (by omega)
  generalize R[k]'(by omega) = e at he
  have ht : R.take (k + 1) = R.take k ++ [e] := by rw [List.take_add_one, he]; rfl
  have hc : gCount (R.take (k + 1)) g = gCount (R.take k) g + (if e.group = g then 1 else 0) := by
    unfold gCount; rw [ht, List.filter_append, List.length_append]
    by_cases hg : e.group = g <;> simp [hg]
  have hle : 0 ≤ gCount (R.take k) g ∧ gCount (R.take k) g ≤ k := by
    have h := List.length_filter_le (fun e : Ent => e.group == g) (R.take k)
    have h2 : (R.take k).length ≤ k := by simp; omega
    unfold gCount; omega
  refine ⟨_, rfl, ld (x := s) h2 0 rfl rfl rfl (elC vs3 1 h2 rfl hn rfl he (fun b _ hcc => ldC (o := k * 3 + 1) rfl (hcc 1 _ rfl) ?_))⟩
  rw [w64 (n := (k : Int) + 1) (by omega) (by omega)]
  refine bEq (fun hg => ?_) (fun hg => ?_)
  · rw [w64 (by omega) (by omega)]
    exact ⟨⟨k + 1, by omega, by omega, by rw [hc, if_pos hg], h1⟩, by dsimp only; omega⟩
  · exact ⟨⟨k + 1, by omega, by omega, by rw [hc, if_neg hg]; omega, h1⟩, by dsimp only; omega⟩

theorem r_Touch (G : Good R) (id : Int) (h : Sep E (RL r R :: L) w) : Calls P fn_millpondref12_Lists_Touch #[.pointer (some ⟨r, 0, none⟩), .int .i64 id] w (Ret fun v w' => v = .int .i64 (gTouch R id).2 ∧ Sep E (RL r (gTouch R id).1 :: L) w') := by
  apply of_millpondref12_Lists_Touch
  unfold sh_millpondref12_Lists_Touch
  refine use (r_Find G id h) ?_
  rintro _ w1 ⟨i, rfl, hi, h1⟩
  unfold gTouch
  refine ⟨_, rfl, bLt (fun hneg => ?_) (fun hpos => ?_)⟩
  · rw [hi.none_ hneg]; exact ⟨rfl, h1⟩
  · obtain ⟨k, e, rfl, he, hf, hlt⟩ := hi.some_ G hpos
    obtain ⟨s, hn, h3⟩ := RL.open h1
    rw [hf]
    refine ⟨_, rfl, ld (x := s) h3 0 rfl rfl rfl (elC vs3 1 h3 rfl hn rfl he (fun b hb _ => ?_))⟩
    have ea : (Addr.add ⟨b, k * 3, none⟩ 2) = ⟨b, k * 3 + 2, none⟩ := rfl
    rw [ea]
    refine stC (f := Ent.vs) vs3 (a' := { e with age := 0 }) h3.swap hb he (by decide) rfl (fun w2 h4 => ⟨rfl, ?_⟩)
    have em : R.set k { e with age := 0 } = R.map (fun e => if e.id = id then { e with age := 0 } else e) := by
      apply List.ext_getElem?
      intro j
      rw [List.getElem?_set, List.getElem?_map]
      have hide := ((fnd_iff G.rise).1 hf).2
      by_cases hj : k = j
      · subst hj; rw [if_pos rfl, if_pos hlt, he]; simp [hide]
      · rw [if_neg hj]
        cases hjj : R[j]? with
        | none => rfl
        | some x =>
          have : x.id ≠ id := by
            intro hx
            rcases Nat.lt_trichotomy k j with h | h | h
            · have := pw_get G.rise he hjj h; omega
            · exact hj h
            · have := pw_get G.rise hjj he h; omega
          simp [this]
    rw [em] at h4
    exact RL.shut (by show s.n = (R.map _).length; rw [List.length_map]; exact hn) h4.swap

/-- The first ones are changed. -/
def part (R : List Ent) (F : Ent → Ent) (k : Nat) : List Ent := (R.take k).map F ++ R.drop k
theorem part_length (R : List Ent) (F : Ent → Ent) (k : Nat) : (part R F k).length = R.length := by
  unfold part; simp only [List.length_append, List.length_map, List.length_take, List.length_drop]; omega
theorem part_at {F : Ent → Ent} {k : Nat} {e : Ent} (he : R[k]? = some e) : (part R F k)[k]? = some e := by
  have hlt := (List.getElem?_eq_some_iff.1 he).1
  unfold part
  rw [List.getElem?_append_right (by simp; omega)]
  simp [Nat.min_eq_left (Nat.le_of_lt hlt), he]
theorem part_set {F : Ent → Ent} {k : Nat} {e : Ent} (he : R[k]? = some e) : (part R F k).set k (F e) = part R F (k + 1) := by
  have hlt := (List.getElem?_eq_some_iff.1 he).1
  have hl : ((R.take k).map F).length = k := by simp; omega
  have ht : R.take (k + 1) = R.take k ++ [e] := by rw [List.take_add_one, he]; rfl
  have hd : R.drop k = e :: R.drop (k + 1) := by
    have := (List.getElem?_eq_some_iff.1 he).2
    rw [← this]; exact List.drop_eq_getElem_cons hlt
  unfold part
  rw [List.set_append_right _ _ (by omega), hl, hd, ht, Nat.sub_self, List.set_cons_zero, List.map_append]
  simp
theorem part_same {F : Ent → Ent} {k : Nat} {e : Ent} (he : R[k]? = some e) (hs : F e = e) : part R F k = part R F (k + 1) := by
  rw [← part_set he, hs]
  apply List.ext_getElem?
  intro j
  rw [List.getElem?_set]
  split
  · next h => subst h; rw [part_at he, if_pos (by rw [part_length]; exact (List.getElem?_eq_some_iff.1 he).1)]
  · rfl
theorem filter_take {p : Ent → Bool} {k : Nat} {e : Ent} (he : R[k]? = some e) : ((R.take (k + 1)).filter p).length = ((R.take k).filter p).length + (if p e then 1 else 0) := by
  have ht : R.take (k + 1) = R.take k ++ [e] := by rw [List.take_add_one, he]; rfl
  rw [ht, List.filter_append, List.length_append]
  cases hp : p e <;> simp [hp]
theorem filter_take_le (p : Ent → Bool) (k : Nat) : ((R.take k).filter p).length ≤ k := by
  have h := List.length_filter_le p (R.take k)
  have h2 : (R.take k).length ≤ k := by simp; omega
  omega

theorem r_Age (G : Good R) (g : Int) (h : Sep E (RL r R :: L) w) : Calls P fn_millpondref12_Lists_Age #[.pointer (some ⟨r, 0, none⟩), .int .i64 g] w (Ret fun v w' => v = .int .i64 (gEach R g chAge).2 ∧ Sep E (RL r (gEach R g chAge).1 :: L) w') := by
  have hR := G.few
  apply of_millpondref12_Lists_Age
  unfold sh_millpondref12_Lists_Age
  refine ⟨fun n i w => ∃ k : Nat, i = k ∧ k ≤ R.length ∧ n = ((R.take k).filter (isChg g chAge)).length ∧ Sep E (RL r (part R (chg g chAge) k) :: L) w, fun _ i _ => (R.length - i).toNat, ⟨0, rfl, Nat.zero_le _, rfl, by unfold part; simpa using h⟩, ?_⟩
  rintro _ n i w1 ⟨k, rfl, hk, rfl, h1⟩
  obtain ⟨s, hn, h2⟩ := RL.open h1
  have hpl := part_length R (chg g chAge) k
  have hle := filter_take_le (R := R) (isChg g chAge) k
  refine ⟨_, rfl, ld (x := s) h2 0 rfl rfl rfl (bLt (fun hlt => ?_) (fun hge => ⟨?_, ?_⟩))⟩
  · have he : R[k]? = some (R[k]'(by omega)) := List.getElem?_eq_getElem (by omega)
    generalize R[k]'(by omega) = e at he
    have hep := part_at (F := chg g chAge) he
    have hok := (G.ok e (List.mem_of_getElem? he)).2.2
    have hch : isChg g chAge e = (e.group == g && decide (e.age < 3)) := by
      unfold isChg
      rw [chAge_ok hok.1 hok.2]
      by_cases hg : e.group = g
      · subst hg
        by_cases h3 : e.age < 3
        · simp only [if_pos h3]; simp [h3]; omega
        · have : e.age = 3 := by omega
          simp only [if_neg h3]; simp [h3, this]
      · have : (e.group == g) = false := by simpa using hg
        rw [this]; rfl
    have hft := filter_take (p := isChg g chAge) he
    refine ⟨fun c w => c = isChg g chAge e ∧ w = w1, ?_, ?_⟩
    · refine ⟨_, rfl, ld (x := s) h2 0 rfl rfl rfl (elC vs3 1 h2 rfl hn rfl hep (fun b _ hc => ldC (o := k * 3 + 1) rfl (hc 1 _ rfl) (bEq (fun hg => ?_) (fun hg => ⟨by rw [hch]; simp [hg], rfl⟩))))⟩
      refine ⟨_, rfl, ld (x := s) h2 0 rfl rfl rfl (elC vs3 1 h2 rfl hn rfl hep (fun b _ hc => ldC (o := k * 3 + 2) rfl (hc 2 _ rfl) ⟨by rw [hch]; simp [hg], rfl⟩))⟩
    rintro _ c w2 ⟨rfl, rfl⟩
    rw [w64 (n := (k : Int) + 1) (by omega) (by omega)]
    refine bifI (fun hc => ?_) (fun hc => ?_)
    · rw [if_pos hc] at hft
      have hc' : e.group = g ∧ e.age < 3 := by rw [hch] at hc; simpa using hc
      refine ⟨_, rfl, ld (x := s) h2 0 rfl rfl rfl (elC vs3 1 h2 rfl hn rfl hep (fun b _ hcc => ldC (o := k * 3 + 2) rfl (hcc 2 _ rfl) (elC vs3 1 h2 rfl hn rfl hep (fun b hb _ => ?_))))⟩
      have ea : (Addr.add ⟨b, k * 3, none⟩ 2) = ⟨b, k * 3 + 2, none⟩ := rfl
      rw [ea, w64 (n := e.age + 1) (by omega) (by omega)]
      have hF : chg g chAge e = { e with age := e.age + 1 } := by
        unfold chg; rw [if_pos hc'.1, chAge_ok hok.1 hok.2, if_pos hc'.2]
      refine stC (f := Ent.vs) vs3 (a' := { e with age := e.age + 1 }) h2.swap hb hep (by decide) rfl (fun w3 h3 => ?_)
      rw [← hF, part_set he] at h3
      rw [w64 (by omega) (by omega)]
      exact ⟨⟨k + 1, by omega, by omega, by omega, RL.shut (by rw [part_length, hn, hpl]) h3.swap⟩, by dsimp only; omega⟩
    · rw [if_neg (by simp [hc])] at hft
      have hF : chg g chAge e = e := by
        unfold chg
        by_cases hg : e.group = g
        · rw [if_pos hg, chAge_ok hok.1 hok.2]
          have : ¬ e.age < 3 := by intro h3; rw [hch] at hc; simp [hg, h3] at hc
          rw [if_neg this]
          have h3 : e.age = 3 := by omega
          cases e; simp only at hg h3 ⊢; rw [hg, h3]
        · rw [if_neg hg]
      rw [part_same he hF] at h1
      exact ⟨⟨k + 1, by omega, by omega, by omega, h1⟩, by dsimp only; omega⟩
  · unfold gEach; rw [List.take_of_length_le (by omega)]
  · have : part R (chg g chAge) k = R.map (chg g chAge) := by
      unfold part; rw [List.take_of_length_le (by omega), List.drop_of_length_le (by omega), List.append_nil]
    rw [this] at h1; exact h1

theorem r_Move (G : Good R) (f t : Int) (h : Sep E (RL r R :: L) w) : Calls P fn_millpondref12_Lists_Move #[.pointer (some ⟨r, 0, none⟩), .int .i64 f, .int .i64 t] w (Ret fun v w' => v = .int .i64 (gMove R f t).2 ∧ Sep E (RL r (gMove R f t).1 :: L) w') := by
  have hR := G.few
  apply of_millpondref12_Lists_Move
  unfold sh_millpondref12_Lists_Move
  -- what is done, whichever way
  let ok : Prop := 0 ≤ t ∧ t ≤ 16777216 ∧ f ≠ t
  let F : Ent → Ent := fun e => if ok ∧ e.group = f then ⟨e.id, t, e.age⟩ else e
  let p : Ent → Bool := fun e => decide (ok ∧ e.group = f)
  have hgm : gMove R f t = (R.map F, ((R.filter p).length : Int)) := by
    by_cases hok : ok
    · rw [gMove_eq f t hok.1 hok.2.1 hok.2.2]
      refine Prod.ext (List.map_congr_left (fun e _ => ?_)) ?_
      · simp only [mvd, F]
        by_cases hg : e.group = f
        · rw [if_pos hg, if_pos ⟨hok, hg⟩]
        · rw [if_neg hg, if_neg (fun h => hg h.2)]
      · simp only [gCount]
        congr 2
        apply List.filter_congr
        intro e _
        simp only [p]
        by_cases hg : e.group = f
        · rw [decide_eq_true ⟨hok, hg⟩]; simpa using hg
        · rw [decide_eq_false (fun h => hg h.2)]; simpa using hg
    · have hF : R.map F = R := by
        calc R.map F = R.map id := List.map_congr_left (fun e _ => by simp only [F]; rw [if_neg (fun h => hok h.1)]; rfl)
          _ = R := List.map_id R
      have hp : R.filter p = [] := List.filter_eq_nil_iff.2 (fun e _ => by simp only [p]; rw [decide_eq_false (fun h => hok h.1)]; simp)
      rw [hF, hp]
      unfold gMove
      split
      · rfl
      · next hb =>
        have hft : f = t := Classical.byContradiction fun hne => hok ⟨by omega, by omega, hne⟩
        subst hft
        unfold gEach
        refine Prod.ext ?_ ?_
        · simp only
          calc R.map (chg f fun _ a => (f, a)) = R.map id := List.map_congr_left (fun e _ => by
                unfold chg; split
                · next hg => cases e; simp only at hg ⊢; subst hg; rfl
                · rfl)
            _ = R := List.map_id R
        · simp only
          rw [List.filter_eq_nil_iff.2 (fun e _ => by
            unfold isChg
            by_cases hg : e.group = f <;> simp [hg])]
  rw [hgm]
  refine ⟨fun n i w => ∃ k : Nat, i = k ∧ k ≤ R.length ∧ n = ((R.take k).filter p).length ∧ Sep E (RL r (part R F k) :: L) w, fun _ i _ => (R.length - i).toNat, ⟨0, rfl, Nat.zero_le _, rfl, by unfold part; simpa using h⟩, ?_⟩
  rintro _ n i w1 ⟨k, rfl, hk, rfl, h1⟩
  obtain ⟨s, hn, h2⟩ := RL.open h1
  have hpl := part_length R F k
  have hle := filter_take_le (R := R) p k
  refine ⟨_, rfl, ld (x := s) h2 0 rfl rfl rfl (bLt (fun hlt => ?_) (fun hge => ⟨?_, ?_⟩))⟩
  · have he : R[k]? = some (R[k]'(by omega)) := List.getElem?_eq_getElem (by omega)
    generalize R[k]'(by omega) = e at he
    have hep := part_at (F := F) he
    have hft := filter_take (p := p) he
    refine ⟨fun c w => c = p e ∧ w = w1, ?_, ?_⟩
    · refine ⟨_, rfl, ld (x := s) h2 0 rfl rfl rfl (elC vs3 1 h2 rfl hn rfl hep (fun b _ hc => ldC (o := k * 3 + 1) rfl (hc 1 _ rfl) (bEq (fun hg => ?_) (fun hg => ⟨?_, rfl⟩))))⟩
      · refine bGe (fun c1 => bLe (fun c2 => ⟨?_, rfl⟩) (fun c2 => ⟨?_, rfl⟩)) (fun c1 => ⟨?_, rfl⟩)
        · by_cases hft' : f = t
          · have : p e = false := decide_eq_false (fun h => h.1.2.2 hft')
            rw [this]; simp [hft']
          · have : p e = true := decide_eq_true ⟨⟨c1, c2, hft'⟩, hg⟩
            rw [this]; simp [hft']
        · exact (decide_eq_false (fun h => by have := h.1.2.1; omega)).symm
        · exact (decide_eq_false (fun h => by have := h.1.1; omega)).symm
      · exact (decide_eq_false (fun h => hg h.2)).symm
    rintro _ c w2 ⟨rfl, rfl⟩
    rw [w64 (n := (k : Int) + 1) (by omega) (by omega)]
    refine bifI (fun hc => ?_) (fun hc => ?_)
    · rw [if_pos hc] at hft
      have hc' : ok ∧ e.group = f := of_decide_eq_true hc
      refine ⟨_, rfl, ld (x := s) h2 0 rfl rfl rfl (elC vs3 1 h2 rfl hn rfl hep (fun b hb _ => ?_))⟩
      have ea : (Addr.add ⟨b, k * 3, none⟩ 1) = ⟨b, k * 3 + 1, none⟩ := rfl
      rw [ea]
      have hF : F e = ⟨e.id, t, e.age⟩ := if_pos hc'
      refine stC (f := Ent.vs) vs3 (a' := ⟨e.id, t, e.age⟩) h2.swap hb hep (by decide) rfl (fun w3 h3 => ?_)
      rw [← hF, part_set he] at h3
      rw [w64 (by omega) (by omega)]
      exact ⟨⟨k + 1, by omega, by omega, by omega, RL.shut (by rw [part_length, hn, hpl]) h3.swap⟩, by dsimp only; omega⟩
    · rw [if_neg (by simp [hc])] at hft
      have hF : F e = e := if_neg (of_decide_eq_false hc)
      rw [part_same he hF] at h1
      exact ⟨⟨k + 1, by omega, by omega, by omega, h1⟩, by dsimp only; omega⟩
  · rw [List.take_of_length_le (by omega)]
  · have : part R F k = R.map F := by
      unfold part; rw [List.take_of_length_le (by omega), List.drop_of_length_le (by omega), List.append_nil]
    rw [this] at h1; exact h1

end Go.Mp
