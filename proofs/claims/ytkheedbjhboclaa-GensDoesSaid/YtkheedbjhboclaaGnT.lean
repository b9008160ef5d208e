/- What each function of the document's answer for gens does: what is added, dropped; the order. -/
import Derived.Test.YtkheedbjhboclaaGnR
set_option maxRecDepth 100000
namespace Go.Mp
open Go Go.Vc Go.Sp Go.Stab

variable {E : Env} {L : List Asn} {w : World} {R : List Ent} {r : Nat}

theorem slEnt : slQ P ty_sl_millpondref12_One = some (24, 3, [.int .i64 0, .int .i64 0, .int .i64 0]) := by kernel_rfl
theorem slInt : slQ P ty_sl_int = some (8, 1, [.int .i64 0]) := by kernel_rfl
theorem ent_one (e : Ent) : ∀ u ∈ e.vs, u.oneCell' = true := by
  intro u hu
  simp [Ent.vs] at hu
  rcases hu with rfl | rfl | rfl <;> rfl
theorem ents_one (R : List Ent) : ∀ u ∈ recs Ent.vs R, u.oneCell' = true := by
  intro u hu
  unfold recs at hu
  obtain ⟨l, hl, hu⟩ := List.mem_flatten.1 hu
  obtain ⟨e, _, rfl⟩ := List.mem_map.1 hl
  exact ent_one e u hu

/-- One more in a row. -/
theorem ent_push {s : Sl} {q i : Nat} {l : List Ent} {a : Ent} (hn : s.n = l.length) (hb : l.length < 100000000) (h : Sep E (rowA s 3 (recs Ent.vs l) :: L) w) (hi : (rowA s 3 (recs Ent.vs l) :: L)[i]? = some (blk q a.vs)) {G : Sl → World → Prop}
    (g : ∀ s' w1, s'.n = (l ++ [a]).length → Sep E (rowA s' 3 (recs Ent.vs (l ++ [a])) :: L) w1 → G s' w1) :
    ∃ x1 : Sl, ∃ w1, Sem.run P (Builtin.append_ #[ty_sl_millpondref12_One, ty_sl_millpondref12_One] ty_sl_millpondref12_One #[.slice s.p s.n s.c, .slice (some ⟨q, 0, none⟩) 1 1]) w = .ok (.slice x1.p x1.n x1.c) w1 ∧ G x1 w1 := by
  have hs := Src.blk (n := 1) (c := 1) h hi slEnt rfl (ent_one a)
  refine rowA.append h slEnt rfl hs (by omega) (by rw [hn]; omega) (fun s' w1 hs' h1 => g s' w1 (by rw [hs', hn]; simp) ?_)
  rw [recs_append, recs_one]; exact h1

theorem int_push {s : Sl} {q : Nat} {l : List Int} {x : Int} (hn : s.n = l.length) (hb : l.length < 100000000) (h : Sep E (blk q [.int .i64 x] :: rowA s 1 (intL l) :: L) w) {G : Sl → World → Prop}
    (g : ∀ s' w1, s'.n = (l ++ [x]).length → Sep E (rowA s' 1 (intL (l ++ [x])) :: L) w1 → G s' w1) :
    ∃ x1 : Sl, ∃ w1, Sem.run P (Builtin.append_ #[ty_sl_int, ty_sl_int] ty_sl_int #[.slice s.p s.n s.c, .slice (some ⟨q, 0, none⟩) 1 1]) w = .ok (.slice x1.p x1.n x1.c) w1 ∧ G x1 w1 := by
  have hs := Src.blk (n := 1) (c := 1) h (i := 0) rfl slInt rfl (fun u hu => by
    simp at hu; subst hu; rfl)
  refine rowA.append h.swap slInt rfl hs (by omega) (by rw [hn]; omega) (fun s' w1 hs' h1 => g s' w1 (by rw [hs', hn]; simp) ?_)
  have e : intL (l ++ [x]) = intL l ++ [.int .i64 x] := by simp [intL]
  rw [e]
  exact (h1.fr 1 rfl).tail

theorem r_Drop (G : Good R) (id : Int) (h : Sep E (RL r R :: L) w) : Calls P fn_millpondref12_Lists_Drop #[.pointer (some ⟨r, 0, none⟩), .int .i64 id] w (Ret fun v w' => v = .int .i64 (gDrop R id).2 ∧ Sep E (RL r (gDrop R id).1 :: L) w') := by
  have hR := G.few
  apply of_millpondref12_Lists_Drop
  unfold sh_millpondref12_Lists_Drop
  refine use (r_Find G id h) ?_
  rintro _ w1 ⟨i, rfl, hi, h1⟩
  unfold gDrop
  refine ⟨_, rfl, bLt (fun hneg => ?_) (fun hpos => ?_)⟩
  · rw [hi.none_ hneg]; exact ⟨rfl, h1⟩
  obtain ⟨k, e, rfl, he, hf, hlt⟩ := hi.some_ G hpos
  have hid := ((fnd_iff G.rise).1 hf).2
  rw [hf]
  obtain ⟨s, hn, h3⟩ := RL.open h1
  have hcap := rowA.cap h3.swap
  have e1 : ((k : Int)).toNat - 0 = k := by omega
  refine ⟨_, rfl, ld (x := s) h3 0 rfl rfl rfl ⟨⟨by omega, by omega⟩, ?_⟩⟩
  rw [e1]
  have h4 := rowA.none_ (m := 3) h3
  have hs1 := Src.sub (P := P) (l := 0) (n' := k) (c' := s.c - 0) h4 (q := 2) rfl slEnt (by omega) (ents_one R)
  refine rowA.app (s := ⟨none, 0, 0⟩) h4 slEnt rfl hs1 (by simp only; omega) (fun s2 w2 hn2 h5 => ?_)
  rw [List.nil_append, Nat.zero_mul, List.drop_zero, recs_take vs3] at h5
  have hn2' : s2.n = k := by rw [hn2]; simp
  rw [w64 (n := (k : Int) + 1) (by omega) (by omega)]
  have e2 : ((k : Int) + 1).toNat = k + 1 := by omega
  rw [e2]
  refine ⟨_, rfl, ld (x := s) h5 1 rfl rfl rfl ⟨⟨by omega, by omega⟩, ?_⟩⟩
  have hs2 := Src.sub (P := P) (l := k + 1) (n' := s.n - (k + 1)) (c' := s.c - (k + 1)) h5 (q := 2) rfl slEnt (by omega) (ents_one R)
  refine rowA.app h5 slEnt rfl hs2 (by omega) (fun s3 w3 hn3 h6 => ⟨_, rfl, ?_⟩)
  rw [recs_drop vs3, hn, recs_take vs3, List.take_of_length_le (l := R.drop (k + 1)) (by simp), ← recs_append] at h6
  refine St.i (h6.fr 1 rfl) (show 0 + 0 < 1 by decide) (fun w4 h7 => ⟨rfl, ?_⟩)
  have em : R.take k ++ R.drop (k + 1) = R.filter (fun e => e.id != id) := by
    have hd : R = R.take k ++ (e :: R.drop (k + 1)) := by
      have h1 : R.drop k = e :: R.drop (k + 1) := by
        have := (List.getElem?_eq_some_iff.1 he).2
        rw [← this]; exact List.drop_eq_getElem_cons hlt
      rw [← h1, List.take_append_drop]
    have hne1 : ∀ x ∈ R.take k, x.id ≠ id := by
      intro x hx
      obtain ⟨j, hj, hjx⟩ := mem_take_get hx
      have := pw_get G.rise hjx he hj; omega
    have hne2 : ∀ x ∈ R.drop (k + 1), x.id ≠ id := by
      intro x hx
      obtain ⟨j, hj, hjx⟩ := mem_drop_get hx
      have := pw_get G.rise he hjx (by omega); omega
    conv => rhs; rw [hd]
    rw [List.filter_append, List.filter_cons, List.filter_eq_self.2 (fun x hx => by simpa using hne1 x hx), List.filter_eq_self.2 (fun x hx => by simpa using hne2 x hx), if_neg (by simp [hid])]
  rw [em] at h7
  refine RL.shut (s := s3) (R := R.filter (fun e => e.id != id)) ?_ ((h7.ro 3 [0, 1] rfl))
  rw [← em, hn3, hn2', List.length_append, List.length_take, List.length_drop]; omega

/-- Has one of the first ones a greater id? -/
def put (R : List Ent) (x : Ent) (k : Nat) : Bool := (R.take k).any (fun e => decide (x.id < e.id))

theorem put_step {x e : Ent} {k : Nat} (he : R[k]? = some e) : put R x (k + 1) = (put R x k || decide (x.id < e.id)) := by
  have ht : R.take (k + 1) = R.take k ++ [e] := by rw [List.take_add_one, he]; rfl
  unfold put
  rw [ht, List.any_append]; simp
theorem put_false {x : Ent} {k : Nat} (hn : ∀ e ∈ R, e.id ≠ x.id) (h : put R x k = false) : ∀ e ∈ R.take k, e.id < x.id := by
  intro e he
  unfold put at h
  have := List.any_eq_false.1 h e he
  have h2 := hn e (List.mem_of_mem_take he)
  simp at this; omega
theorem put_true (G : Good R) {x e : Ent} {k : Nat} (he : R[k]? = some e) (h : put R x k = true) : x.id < e.id := by
  unfold put at h
  obtain ⟨y, hy, hlt⟩ := List.any_eq_true.1 h
  obtain ⟨j, hj, hjy⟩ := mem_take_get hy
  have := pw_get G.rise hjy he hj
  simp at hlt; omega

/-- What is laid so far. -/
def laid (R : List Ent) (x : Ent) (k : Nat) : List Ent := if put R x k then insR (R.take k) x else R.take k
theorem ins_all {l : List Ent} {x : Ent} (h : ∀ e ∈ l, e.id < x.id) : insR l x = l ++ [x] := by
  unfold insR
  rw [List.filter_eq_self.2 (fun e he => by simpa using h e he), List.filter_eq_nil_iff.2 (fun e he => by have := h e he; simp; omega)]
theorem ins_snoc {l : List Ent} {x e : Ent} (h : x.id < e.id) : insR (l ++ [e]) x = insR l x ++ [e] := by
  unfold insR
  have h1 : ¬ e.id < x.id := by omega
  simp [h, h1]
theorem laid_length (R : List Ent) (x : Ent) (k : Nat) : (laid R x k).length ≤ R.length + 1 := by
  unfold laid
  have h1 := insR_length (R.take k) x
  have h2 : (R.take k).length ≤ R.length := by simp; omega
  split <;> omega

theorem r_Add (G : Good R) (id g : Int) (old : Bool) (h : Sep E (RL r R :: L) w) : Calls P fn_millpondref12_Lists_Add #[.pointer (some ⟨r, 0, none⟩), .int .i64 id, .int .i64 g, .bool old] w (Ret fun v w' => v = .int .i64 (gAdd R id g old).2 ∧ Sep E (RL r (gAdd R id g old).1 :: L) w') := by
  have hR := G.few
  apply of_millpondref12_Lists_Add
  unfold sh_millpondref12_Lists_Add
  unfold gAdd
  have bad : gBad id g → (Value.int .i64 1 = .int .i64 (if gBad id g then (R, (1 : Int)) else if (fnd R id).isSome then (R, 4) else (insR R ⟨id, g, if old then 1 else 0⟩, 0)).2 ∧ Sep E (RL r (if gBad id g then (R, (1 : Int)) else if (fnd R id).isSome then (R, 4) else (insR R ⟨id, g, if old then 1 else 0⟩, 0)).1 :: L) w) := by
    intro hb; rw [if_pos hb]; exact ⟨rfl, h⟩
  refine ⟨fun w => ¬ gBad id g ∧ Sep E (RL r R :: L) w, ?_, ?_⟩
  · refine bLt (fun c => bad (.inl c)) (fun c1 => bGt (fun c => bad (.inr (.inl c))) (fun c2 => bLt (fun c => bad (.inr (.inr (.inl c)))) (fun c3 => bGt (fun c => bad (.inr (.inr (.inr c)))) (fun c4 => ⟨?_, h⟩))))
    unfold gBad; omega
  rintro _ w1 ⟨hb, h1⟩
  rw [if_neg hb]
  refine use (r_Find G id h1) ?_
  rintro _ w2 ⟨i, rfl, hi, h2⟩
  refine ⟨_, rfl, bGe (fun hpos => ?_) (fun hneg => ?_)⟩
  · obtain ⟨k, e, rfl, he, hf, hlt⟩ := hi.some_ G hpos
    rw [hf]; exact ⟨rfl, h2⟩
  have hf := hi.none_ hneg
  have hno := (fnd_none G.rise).1 hf
  rw [hf]
  obtain ⟨x, hx⟩ : ∃ x : Ent, x = ⟨id, g, if old then 1 else 0⟩ := ⟨_, rfl⟩
  have hxid : x.id = id := by rw [hx]
  have hnox : ∀ e ∈ R, e.id ≠ x.id := by rw [hxid]; exact hno
  refine Al.i h2 (fun p w3 h3 => zst _ (vs := [.int .i64 id, .int .i64 g, .int .i64 0]) h3 rfl (fun w4 h4 => ?_))
  refine ⟨fun w => Sep E (blk p x.vs :: RL r R :: L) w, ?_, ?_⟩
  · refine bifI (fun ho => ?_) (fun ho => ?_)
    · refine St.i h4 (show 0 + 2 < 3 by decide) (fun w5 h5 => ?_)
      rw [hx, if_pos ho]; exact h5
    · rw [hx, if_neg (by simp [ho])]; exact h4
  rintro _ w5 h5
  obtain ⟨s, hn, h6⟩ := RL.open h5.swap
  have h6 : Sep E (rowA ⟨none, 0, 0⟩ 3 (recs Ent.vs []) :: blk p x.vs :: blk r [.slice s.p s.n s.c] :: rowA s 3 (recs Ent.vs R) :: L) w5 := rowA.none_ (h6.ro 3 [2, 0, 1] rfl)
  refine ⟨fun out pt i w => ∃ k : Nat, i = k ∧ k ≤ R.length ∧ pt = put R x k ∧ out.n = (laid R x k).length ∧ Sep E (rowA out 3 (recs Ent.vs (laid R x k)) :: blk p x.vs :: blk r [.slice s.p s.n s.c] :: rowA s 3 (recs Ent.vs R) :: L) w, fun _ _ i _ => (R.length - i).toNat,
    ⟨0, rfl, Nat.zero_le _, rfl, rfl, h6⟩, ?_⟩
  rintro _ out pt i w6 ⟨k, rfl, hk, rfl, ho, h7⟩
  have hll := laid_length R x k
  refine ⟨_, rfl, ld (x := s) h7 2 rfl rfl rfl (bLt (fun hlt => ?_) (fun hge => ?_))⟩
  · have he : R[k]? = some (R[k]'(by omega)) := List.getElem?_eq_getElem (by omega)
    generalize R[k]'(by omega) = e at he
    have ht : R.take (k + 1) = R.take k ++ [e] := by rw [List.take_add_one, he]; rfl
    have hstep := put_step (x := x) he
    -- behind the first: x is laid, if it is its turn
    refine ⟨fun out pt w => ∃ O : List Ent, pt = put R x (k + 1) ∧ O ++ [e] = laid R x (k + 1) ∧ O.length ≤ R.length + 1 ∧ out.n = O.length ∧ Sep E (rowA out 3 (recs Ent.vs O) :: blk p x.vs :: blk r [.slice s.p s.n s.c] :: rowA s 3 (recs Ent.vs R) :: L) w, ?_, ?_⟩
    · refine ⟨fun c w => c = (!put R x k && decide (x.id < e.id)) ∧ w = w6, ?_, ?_⟩
      · refine bifI (fun hp => ⟨_, rfl, ld (x := s) h7 2 rfl rfl rfl (elC vs3 3 h7 rfl hn rfl he (fun b _ hc => ldC (o := k * 3 + 0) rfl (hc 0 _ rfl) ⟨?_, rfl⟩))⟩) (fun hp => ⟨?_, rfl⟩)
        · rw [hp, ← hxid]; rfl
        · rw [hp]; rfl
      rintro _ c w7 ⟨rfl, rfl⟩
      refine bifI (fun hc => ?_) (fun hc => ?_)
      · have hc' : put R x k = false ∧ x.id < e.id := by simpa using hc
        have hl : laid R x k = R.take k := by unfold laid; rw [hc'.1]; rfl
        have hall := put_false hnox hc'.1
        rw [hl] at h7 ho hll
        refine ld h7 1 rfl rfl rfl (ld h7 1 rfl rfl rfl (ld h7 1 rfl rfl rfl (Al.i h7 (fun q w8 h8 => ?_))))
        have h8 : Sep E (rowA out 3 (recs Ent.vs (R.take k)) :: blk q x.vs :: blk p x.vs :: blk r [.slice s.p s.n s.c] :: rowA s 3 (recs Ent.vs R) :: L) w8 := h8.swap
        refine ent_push (i := 1) ho (by omega) h8 rfl (fun s' w9 hs' h9 => ⟨R.take k ++ [x], ?_, ?_, ?_, hs', (h9.fr 1 rfl).tail⟩)
        · rw [hstep, decide_eq_true hc'.2, Bool.or_true]
        · unfold laid
          rw [hstep, decide_eq_true hc'.2, Bool.or_true, if_pos rfl, ht, ins_snoc hc'.2, ins_all hall]
        · simp; omega
      · refine ⟨laid R x k, ?_, ?_, hll, ho, h7⟩
        · rw [hstep]
          cases hp : put R x k with
          | true => rfl
          | false => rw [hp] at hc; simpa using hc.symm
        · unfold laid
          rw [hstep]
          cases hp : put R x k with
          | true =>
            have := put_true G he hp
            simp only [Bool.true_or, if_true]
            rw [ht, ins_snoc this]
          | false =>
            rw [hp] at hc
            have : decide (x.id < e.id) = false := by simpa using hc
            rw [this, ht]; simp
    rintro _ out2 pt2 w7 ⟨O, rfl, hO, hOl, ho2, h8⟩
    refine ⟨_, rfl, ld (x := s) h8 2 rfl rfl rfl (elC vs3 3 h8 rfl hn rfl he (fun b _ hc => ldC (o := k * 3 + 0) rfl (hc 0 _ rfl) (ldC (o := k * 3 + 1) rfl (hc 1 _ rfl) (ldC (o := k * 3 + 2) rfl (hc 2 _ rfl) (Al.i h8 (fun q w8 h9 => ?_))))))⟩
    have h9 : Sep E (rowA out2 3 (recs Ent.vs O) :: blk q e.vs :: blk p x.vs :: blk r [.slice s.p s.n s.c] :: rowA s 3 (recs Ent.vs R) :: L) w8 := h9.swap
    refine ent_push (i := 1) ho2 (by omega) h9 rfl (fun s' w9 hs' h10 => ?_)
    rw [hO] at hs' h10
    rw [w64 (by omega) (by omega)]
    exact ⟨⟨k + 1, by omega, by omega, rfl, hs', (h10.fr 1 rfl).tail⟩, by dsimp only; omega⟩
  · have hkl : k = R.length := by omega
    subst hkl
    have fin : ∀ {w8 : World} {s' : Sl}, s'.n = (insR R x).length → Sep E (rowA s' 3 (recs Ent.vs (insR R x)) :: blk p x.vs :: blk r [.slice s.p s.n s.c] :: rowA s 3 (recs Ent.vs R) :: L) w8 →
        NN (some ⟨r, 0, none⟩) fun a60 => St (a60.add 0) (.slice s'.p s'.n s'.c) (fun w61 => Value.int .i64 0 = .int .i64 (if (none : Option Ent).isSome then (R, (4 : Int)) else (insR R ⟨id, g, if old then 1 else 0⟩, 0)).2 ∧ Sep E (RL r (if (none : Option Ent).isSome then (R, (4 : Int)) else (insR R ⟨id, g, if old then 1 else 0⟩, 0)).1 :: L) w61) w8 := by
      intro w8 s' hs' h8
      refine ⟨_, rfl, St.i (h8.fr 2 rfl) (show 0 + 0 < 1 by decide) (fun w9 h9 => ⟨rfl, ?_⟩)⟩
      have h10 : Sep E (blk r [.slice s'.p s'.n s'.c] :: rowA s' 3 (recs Ent.vs (insR R x)) :: L) w9 := h9.ro 4 [0, 1] rfl
      rw [hx] at h10 hs'
      exact RL.shut hs' h10
    refine bifI (fun hp => ?_) (fun hp => ?_)
    · have hp' : put R x R.length = false := by simpa using hp
      have hl : laid R x R.length = R := by unfold laid; rw [hp']; simp
      have hall := put_false hnox hp'
      rw [List.take_length] at hall
      rw [hl] at h7 ho
      refine ld h7 1 rfl rfl rfl (ld h7 1 rfl rfl rfl (ld h7 1 rfl rfl rfl (Al.i h7 (fun q w8 h8 => ?_))))
      have h8 : Sep E (rowA out 3 (recs Ent.vs R) :: blk q x.vs :: blk p x.vs :: blk r [.slice s.p s.n s.c] :: rowA s 3 (recs Ent.vs R) :: L) w8 := h8.swap
      refine ent_push (i := 1) ho (by omega) h8 rfl (fun s' w9 hs' h9 => ?_)
      rw [← ins_all hall] at hs' h9
      exact fin hs' ((h9.fr 1 rfl).tail)
    · have hp' : put R x R.length = true := by simpa using hp
      have hl : laid R x R.length = insR R x := by unfold laid; rw [hp', List.take_length]; rfl
      rw [hl] at h7 ho
      exact fin ho h7

/-! ### the order -/

def sel (R : List Ent) (gs : List Int) (a : Int) (k : Nat) : List Int := ((R.take k).filter (fun e => gs.contains e.group && e.age == a)).map (fun e => e.id)
def bigO (R : List Ent) (gs : List Int) : Nat → List Int
  | 0 => []
  | j + 1 => bigO R gs j ++ sel R gs (3 - (j : Int)) R.length

theorem sel_step {gs : List Int} {a : Int} {k : Nat} {e : Ent} (he : R[k]? = some e) : sel R gs a (k + 1) = sel R gs a k ++ (if gs.contains e.group && e.age == a then [e.id] else []) := by
  have ht : R.take (k + 1) = R.take k ++ [e] := by rw [List.take_add_one, he]; rfl
  unfold sel
  rw [ht, List.filter_append, List.map_append]
  congr 1
  rw [List.filter_cons, List.filter_nil]
  split <;> rfl
theorem sel_len (gs : List Int) (a : Int) (k : Nat) : (sel R gs a k).length ≤ R.length := by
  unfold sel
  rw [List.length_map]
  have h1 := List.length_filter_le (fun e : Ent => gs.contains e.group && e.age == a) (R.take k)
  have h2 : (R.take k).length ≤ R.length := by simp; omega
  omega
theorem sel_mem (gs : List Int) (a k : Int) : k ∈ sel R gs a R.length ↔ ∃ e ∈ R, e.id = k ∧ e.group ∈ gs ∧ e.age = a := by
  unfold sel
  rw [List.take_length, List.mem_map]
  constructor
  · rintro ⟨e, he, rfl⟩
    obtain ⟨h1, h2⟩ := List.mem_filter.1 he
    simp at h2
    exact ⟨e, h1, rfl, h2.1, h2.2⟩
  · rintro ⟨e, h1, rfl, h2, h3⟩
    exact ⟨e, List.mem_filter.2 ⟨h1, by simp [h2, h3]⟩, rfl⟩
theorem bigO_mem (gs : List Int) (k : Int) : ∀ j : Nat, k ∈ bigO R gs j ↔ ∃ e ∈ R, e.id = k ∧ e.group ∈ gs ∧ e.age ≤ 3 ∧ 3 - (j : Int) < e.age
  | 0 => by
    unfold bigO
    constructor
    · intro h; cases h
    · rintro ⟨e, _, _, _, h1, h2⟩; omega
  | j + 1 => by
    unfold bigO
    rw [List.mem_append, bigO_mem gs k j, sel_mem]
    constructor
    · rintro (⟨e, h1, h2, h3, h4, h5⟩ | ⟨e, h1, h2, h3, h4⟩)
      · exact ⟨e, h1, h2, h3, h4, by omega⟩
      · exact ⟨e, h1, h2, h3, by omega, by omega⟩
    · rintro ⟨e, h1, h2, h3, h4, h5⟩
      by_cases hc : e.age = 3 - (j : Int)
      · exact .inr ⟨e, h1, h2, h3, hc⟩
      · exact .inl ⟨e, h1, h2, h3, h4, by omega⟩
theorem ageZ_of (G : Good R) {e : Ent} (h : e ∈ R) : ageZ R e.id = e.age := by
  unfold ageZ; rw [(fnd_iff G.rise).2 ⟨h, rfl⟩]; rfl
theorem bigO_ord (G : Good R) (gs : List Int) : ∀ j : Nat, (bigO R gs j).Pairwise (olderZ R)
  | 0 => List.Pairwise.nil
  | j + 1 => by
    unfold bigO
    rw [List.pairwise_append]
    refine ⟨bigO_ord G gs j, ?_, fun a ha b hb => ?_⟩
    · unfold sel
      rw [List.take_length, List.pairwise_map]
      refine (List.Pairwise.and_mem.1 (G.rise.filter _)).imp (fun {a b} hab => ?_)
      obtain ⟨ha, hb, hlt⟩ := hab
      obtain ⟨ha1, ha2⟩ := List.mem_filter.1 ha
      obtain ⟨hb1, hb2⟩ := List.mem_filter.1 hb
      simp at ha2 hb2
      unfold olderZ
      rw [ageZ_of G ha1, ageZ_of G hb1]
      right; exact ⟨by omega, hlt⟩
    · obtain ⟨e, h1, rfl, _, _, h5⟩ := (bigO_mem gs a j).1 ha
      obtain ⟨e', h1', rfl, _, h4'⟩ := (sel_mem gs _ b).1 hb
      unfold olderZ
      rw [ageZ_of G h1, ageZ_of G h1']
      left; omega
theorem bigO_len (gs : List Int) : ∀ j : Nat, (bigO R gs j).length ≤ j * R.length
  | 0 => by simp [bigO]
  | j + 1 => by
    unfold bigO
    rw [List.length_append, Nat.succ_mul]
    have := bigO_len gs j
    have h2 := sel_len (R := R) gs (3 - (j : Int)) R.length
    omega
theorem bigO_ok (G : Good R) (gs : List Int) : OrdOf R gs (bigO R gs 4) := by
  refine ⟨bigO_ord G gs 4, fun k => ?_⟩
  rw [bigO_mem]
  constructor
  · rintro ⟨e, h1, h2, h3, _⟩
    exact ⟨e, (fnd_iff G.rise).2 ⟨h1, h2⟩, h3⟩
  · rintro ⟨e, he, hg⟩
    obtain ⟨h1, h2⟩ := (fnd_iff G.rise).1 he
    have := (G.ok e h1).2.2
    exact ⟨e, h1, h2, hg, this.2, by omega⟩

theorem r_Order (G : Good R) {t : Sl} {gs : List Int} (hI : Ints E L t gs) (hb : gs.length < 4611686018427387904) (hR : R.length ≤ 1000000) (h : Sep E (RL r R :: L) w) :
    Calls P fn_millpondref12_Lists_Order #[.pointer (some ⟨r, 0, none⟩), .slice t.p t.n t.c] w (Ret fun v w' => ∃ (u : Sl) (o : List Int), v = .slice u.p u.n u.c ∧ u.n = o.length ∧ OrdOf R gs o ∧ Sep E (rowA u 1 (intL o) :: RL r R :: L) w') := by
  apply of_millpondref12_Lists_Order
  unfold sh_millpondref12_Lists_Order
  have hgn := hI.1
  refine ⟨fun out a w => ∃ j : Nat, a = 3 - (j : Int) ∧ j ≤ 4 ∧ out.n = (bigO R gs j).length ∧ Sep E (rowA out 1 (intL (bigO R gs j)) :: RL r R :: L) w, fun _ a _ => (a + 1).toNat, ⟨0, by omega, by omega, rfl, rowA.none_ h⟩, ?_⟩
  rintro _ out a w1 ⟨j, rfl, hj, ho, h1⟩
  have hbl := bigO_len (R := R) gs j
  refine bGe (fun hge => ?_) (fun hlt => ⟨out, _, rfl, ho, by
    have : j = 4 := by omega
    subst this; exact bigO_ok G gs, h1⟩)
  have hbl2 : j * R.length ≤ 4 * R.length := Nat.mul_le_mul_right _ hj
  refine ⟨fun out i w => ∃ k : Nat, i = k ∧ k ≤ R.length ∧ out.n = (bigO R gs j ++ sel R gs (3 - (j : Int)) k).length ∧ Sep E (rowA out 1 (intL (bigO R gs j ++ sel R gs (3 - (j : Int)) k)) :: RL r R :: L) w, fun _ i _ => (R.length - i).toNat,
    ⟨0, rfl, Nat.zero_le _, by simpa [sel] using ho, by simpa [sel] using h1⟩, ?_⟩
  rintro _ out2 i w2 ⟨k, rfl, hk, ho2, h2⟩
  have hsl := sel_len (R := R) gs (3 - (j : Int)) k
  obtain ⟨s, hn, h3⟩ := RL.open h2.swap
  refine ⟨_, rfl, ld (x := s) h3 0 rfl rfl rfl (bLt (fun hlt => ?_) (fun hge2 => ?_))⟩
  · have he : R[k]? = some (R[k]'(by omega)) := List.getElem?_eq_getElem (by omega)
    generalize R[k]'(by omega) = e at he
    have hst := sel_step (gs := gs) (a := 3 - (j : Int)) he
    have hI3 : Ints E (blk r [.slice s.p s.n s.c] :: rowA s 3 (recs Ent.vs R) :: rowA out2 1 (intL (bigO R gs j ++ sel R gs (3 - (j : Int)) k)) :: L) t gs := hI.cons.cons.cons
    refine ⟨fun b m w => ∃ n : Nat, m = n ∧ n ≤ gs.length ∧ (b = true ↔ e.group ∈ gs.take n) ∧ Sep E (blk r [.slice s.p s.n s.c] :: rowA s 3 (recs Ent.vs R) :: rowA out2 1 (intL (bigO R gs j ++ sel R gs (3 - (j : Int)) k)) :: L) w, fun _ m _ => (gs.length - m).toNat, ⟨0, rfl, Nat.zero_le _, by simp, h3⟩, ?_⟩
    rintro _ b m w3 ⟨n, rfl, hnl, hbm, h4⟩
    refine bLt (fun hlt2 => Dr.i h4 (fun w4 h5 => ?_)) (fun hge2 => ?_)
    · have hy : gs[n]? = some (gs[n]'(by omega)) := List.getElem?_eq_getElem (by omega)
      generalize gs[n]'(by omega) = y at hy
      have ht2 : gs.take (n + 1) = gs.take n ++ [y] := by rw [List.take_add_one, hy]; rfl
      rw [w64 (n := (n : Int) + 1) (by omega) (by omega)]
      refine bifI (fun hbt => ⟨⟨n + 1, by omega, by omega, ?_, h5⟩, by dsimp only; omega⟩) (fun hbf => ?_)
      · rw [ht2]; simp [hbm.1 hbt]
      · refine hI3.el h5 n rfl hy ⟨_, rfl, ld (x := s) h5 0 rfl rfl rfl (elC vs3 1 h5 rfl hn rfl he (fun b' _ hc => ldC (o := k * 3 + 1) rfl (hc 1 _ rfl) ⟨⟨n + 1, by omega, by omega, ?_, h5⟩, by dsimp only; omega⟩))⟩
        have : ¬ e.group ∈ gs.take n := fun h => by rw [hbm.2 h] at hbf; cases hbf
        rw [ht2]; simp [this]; exact eq_comm
    · have hng : n = gs.length := by omega
      subst hng
      rw [List.take_length] at hbm
      have hbc : b = gs.contains e.group := by
        by_cases hg : e.group ∈ gs
        · rw [hbm.2 hg, List.contains_iff_mem.2 hg]
        · rw [Bool.eq_false_iff.2 (fun h => hg (hbm.1 h)), Bool.eq_false_iff.2 (fun h => hg (List.contains_iff_mem.1 h))]
      refine ⟨fun c w => c = (gs.contains e.group && e.age == 3 - (j : Int)) ∧ w = w3, ?_, ?_⟩
      · refine bifI (fun hbt => ⟨_, rfl, ld (x := s) h4 0 rfl rfl rfl (elC vs3 1 h4 rfl hn rfl he (fun b' _ hc => ldC (o := k * 3 + 2) rfl (hc 2 _ rfl) ⟨?_, rfl⟩))⟩) (fun hbf => ⟨?_, rfl⟩)
        · rw [← hbc, hbt, Bool.true_and]
        · rw [← hbc, hbf, Bool.false_and]
      rintro _ c w4 ⟨rfl, rfl⟩
      rw [w64 (n := (k : Int) + 1) (by omega) (by omega)]
      refine bifI (fun hc => ?_) (fun hc => ?_)
      · rw [hc, if_pos rfl] at hst
        refine ⟨_, rfl, ld (x := s) h4 0 rfl rfl rfl (elC vs3 1 h4 rfl hn rfl he (fun b' _ hcc => ldC (o := k * 3 + 0) rfl (hcc 0 _ rfl) (Al.i h4 (fun q w5 h5 => ?_))))⟩
        have h5 : Sep E (blk q [.int .i64 e.id] :: rowA out2 1 (intL (bigO R gs j ++ sel R gs (3 - (j : Int)) k)) :: blk r [.slice s.p s.n s.c] :: rowA s 3 (recs Ent.vs R) :: L) w5 := h5.ro 4 [0, 3, 1, 2] rfl
        refine int_push ho2 (by rw [List.length_append]; omega) h5 (fun s' w6 hs' h6 => ?_)
        rw [List.append_assoc, ← hst] at hs' h6
        exact ⟨⟨k + 1, by omega, by omega, hs', (RL.shut hn (h6.ro 3 [1, 2, 0] rfl)).swap⟩, by dsimp only; omega⟩
      · rw [hc] at hst
        have hst' : sel R gs (3 - (j : Int)) (k + 1) = sel R gs (3 - (j : Int)) k := by rw [hst]; simp
        have h5 : Sep E (rowA out2 1 (intL (bigO R gs j ++ sel R gs (3 - (j : Int)) (k + 1))) :: RL r R :: L) w4 := by rw [hst']; exact (RL.shut hn h4).swap
        exact ⟨⟨k + 1, by omega, by omega, by rw [hst']; exact ho2, h5⟩, by dsimp only; omega⟩
  · have hkl : k = R.length := by omega
    subst hkl
    rw [w64 (by omega) (by omega)]
    exact ⟨⟨j + 1, by omega, by omega, ho2, h2⟩, by dsimp only; omega⟩

end Go.Mp
