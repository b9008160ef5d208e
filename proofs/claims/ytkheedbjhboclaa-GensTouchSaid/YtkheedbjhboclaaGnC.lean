/- What each function of gens does. -/
import Derived.Test.YtkheedbjhboclaaSortY
import Derived.Test.YtkheedbjhboclaaMapR
set_option maxRecDepth 100000
namespace Go.Mp
open Go Go.Vc Go.Sp

/-- An id, its group, its age. -/
structure Ent where
  id : Int
  group : Int
  age : Int

def Ent.vs (e : Ent) : List Value := [.int .i64 e.id, .int .i64 e.group, .int .i64 e.age]
abbrev encI : Int → Value := Value.int .i64
def oneV (g a : Int) : Value := .agg #[.int .i64 g, .int .i64 a]
def fnd (R : List Ent) (k : Int) : Option Ent := R.find? (fun e => e.id == k)
def gm (R : List Ent) : Int → Option Value := fun k => (fnd R k).map fun e => oneV e.group e.age

theorem encI_inj (a b : Int) (h : encI a = encI b) : a = b := by simpa using h
theorem K_int : KeyOf P ty_int encI := KeyOf.int (by kernel_rfl)

structure Good (R : List Ent) : Prop where
  rise : R.Pairwise (fun a b => a.id < b.id)
  ok : ∀ e ∈ R, (0 ≤ e.id ∧ e.id ≤ 16777216) ∧ (0 ≤ e.group ∧ e.group ≤ 16777216) ∧ 0 ≤ e.age ∧ e.age ≤ 3

variable {R R' : List Ent}

theorem Good.nil : Good [] := ⟨List.Pairwise.nil, fun _ h => by cases h⟩
theorem uniq (G : R.Pairwise (fun a b : Ent => a.id < b.id)) {e e' : Ent} (h : e ∈ R) (h' : e' ∈ R) (hid : e.id = e'.id) : e = e' := by
  obtain ⟨i, hi, rfl⟩ := List.mem_iff_getElem.1 h
  obtain ⟨j, hj, rfl⟩ := List.mem_iff_getElem.1 h'
  rcases Nat.lt_trichotomy i j with hlt | rfl | hlt
  · have := List.pairwise_iff_getElem.1 G i j hi hj hlt; omega
  · rfl
  · have := List.pairwise_iff_getElem.1 G j i hj hi hlt; omega
theorem fnd_iff (G : R.Pairwise (fun a b : Ent => a.id < b.id)) {k : Int} {e : Ent} : fnd R k = some e ↔ e ∈ R ∧ e.id = k := by
  unfold fnd
  constructor
  · intro h; exact ⟨List.mem_of_find?_eq_some h, by simpa using List.find?_some h⟩
  · rintro ⟨h1, h2⟩
    cases hf : R.find? (fun e => e.id == k) with
    | none => have := List.find?_eq_none.1 hf e h1; simp [h2] at this
    | some e' =>
      have h3 := List.mem_of_find?_eq_some hf
      have h4 : e'.id = k := by simpa using List.find?_some hf
      rw [uniq G h3 h1 (by omega)]
theorem fnd_none (G : R.Pairwise (fun a b : Ent => a.id < b.id)) {k : Int} : fnd R k = none ↔ ∀ e ∈ R, e.id ≠ k := by
  unfold fnd; rw [List.find?_eq_none]; simp
theorem fnd_congr (G : R.Pairwise (fun a b : Ent => a.id < b.id)) (G' : R'.Pairwise (fun a b : Ent => a.id < b.id)) {k : Int} (h : ∀ e, e.id = k → (e ∈ R' ↔ e ∈ R)) : fnd R' k = fnd R k := by
  apply Option.ext
  intro e
  rw [fnd_iff G, fnd_iff G']
  exact ⟨fun ⟨h1, h2⟩ => ⟨(h e h2).1 h1, h2⟩, fun ⟨h1, h2⟩ => ⟨(h e h2).2 h1, h2⟩⟩

/-! ### what each does, plainly -/

def insR (R : List Ent) (x : Ent) : List Ent := R.filter (fun y => decide (y.id < x.id)) ++ x :: R.filter (fun y => decide (x.id < y.id))
def gBad (id g : Int) : Prop := id < 0 ∨ 16777216 < id ∨ g < 0 ∨ 16777216 < g
instance (id g : Int) : Decidable (gBad id g) := by unfold gBad; infer_instance
def gAdd (R : List Ent) (id g : Int) (old : Bool) : List Ent × Int :=
  if gBad id g then (R, 1) else if (fnd R id).isSome then (R, 4) else (insR R ⟨id, g, if old then 1 else 0⟩, 0)
def gDrop (R : List Ent) (id : Int) : List Ent × Int := if (fnd R id).isSome then (R.filter (fun e => e.id != id), 0) else (R, 2)
def gTouch (R : List Ent) (id : Int) : List Ent × Int := if (fnd R id).isSome then (R.map (fun e => if e.id = id then { e with age := 0 } else e), 0) else (R, 2)
def gGroup (R : List Ent) (id : Int) : Int := match fnd R id with | some e => e.group | none => -1
def gAge (R : List Ent) (id : Int) : Int := match fnd R id with | some e => e.age | none => -1
def gCount (R : List Ent) (g : Int) : Int := (R.filter (fun e => e.group == g)).length
/-- Those of a group are changed. -/
def chg (g : Int) (ch : Int → Int → Int × Int) (e : Ent) : Ent := if e.group = g then ⟨e.id, (ch e.group e.age).1, (ch e.group e.age).2⟩ else e
def isChg (g : Int) (ch : Int → Int → Int × Int) (e : Ent) : Bool := e.group == g && !(ch e.group e.age == (e.group, e.age))
def gEach (R : List Ent) (g : Int) (ch : Int → Int → Int × Int) : List Ent × Int := (R.map (chg g ch), (R.filter (isChg g ch)).length)
def chAge (g a : Int) : Int × Int := (g, min1 (IntKind.i64.wrap (a + 1)) 3)
def gMove (R : List Ent) (f t : Int) : List Ent × Int := if t < 0 ∨ 16777216 < t then (R, 0) else gEach R f (fun _ a => (t, a))

theorem mem_insR {x y : Ent} (hn : ∀ e ∈ R, e.id ≠ x.id) : y ∈ insR R x ↔ y = x ∨ y ∈ R := by
  unfold insR
  simp only [List.mem_append, List.mem_filter, List.mem_cons, decide_eq_true_eq]
  constructor
  · rintro (⟨h, _⟩ | rfl | ⟨h, _⟩)
    · exact .inr h
    · exact .inl rfl
    · exact .inr h
  · rintro (rfl | h)
    · exact .inr (.inl rfl)
    · have := hn y h
      rcases Int.lt_trichotomy y.id x.id with h1 | h1 | h1
      · exact .inl ⟨h, h1⟩
      · exact absurd h1 this
      · exact .inr (.inr ⟨h, h1⟩)
theorem Good.ins (G : Good R) {x : Ent} (hn : ∀ e ∈ R, e.id ≠ x.id) (hx : (0 ≤ x.id ∧ x.id ≤ 16777216) ∧ (0 ≤ x.group ∧ x.group ≤ 16777216) ∧ 0 ≤ x.age ∧ x.age ≤ 3) : Good (insR R x) := by
  refine ⟨?_, fun e he => ?_⟩
  · unfold insR
    rw [List.pairwise_append, List.pairwise_cons]
    refine ⟨G.rise.filter _, ⟨fun y hy => ?_, G.rise.filter _⟩, fun a ha b hb => ?_⟩
    · simpa using (List.mem_filter.1 hy).2
    · have h1 : a.id < x.id := by simpa using (List.mem_filter.1 ha).2
      rcases List.mem_cons.1 hb with rfl | hb
      · exact h1
      · have h2 : x.id < b.id := by simpa using (List.mem_filter.1 hb).2
        omega
  · rcases (mem_insR hn).1 he with rfl | h
    · exact hx
    · exact G.ok e h
theorem Good.add (G : Good R) (id g : Int) (old : Bool) : Good (gAdd R id g old).1 := by
  unfold gAdd
  split
  · exact G
  · next hb =>
    split
    · exact G
    · next hf =>
      have hf : fnd R id = none := by simpa using hf
      refine G.ins ((fnd_none G.rise).1 hf) ?_
      unfold gBad at hb
      refine ⟨⟨?_, ?_⟩, ⟨?_, ?_⟩, ?_⟩ <;> simp only <;> first | omega | (split <;> omega)
theorem Good.filter (G : Good R) (p : Ent → Bool) : Good (R.filter p) := ⟨G.rise.filter _, fun e he => G.ok e (List.mem_filter.1 he).1⟩
theorem Good.drop (G : Good R) (id : Int) : Good (gDrop R id).1 := by
  unfold gDrop; split
  · exact G.filter _
  · exact G
theorem Good.map (G : Good R) (f : Ent → Ent) (hid : ∀ e, (f e).id = e.id) (hok : ∀ e ∈ R, (0 ≤ (f e).group ∧ (f e).group ≤ 16777216) ∧ 0 ≤ (f e).age ∧ (f e).age ≤ 3) : Good (R.map f) := by
  refine ⟨?_, fun e he => ?_⟩
  · rw [List.pairwise_map]; exact G.rise.imp (fun h => by rw [hid, hid]; exact h)
  · obtain ⟨x, hx, rfl⟩ := List.mem_map.1 he
    exact ⟨by rw [hid]; exact (G.ok x hx).1, hok x hx⟩
theorem Good.touch (G : Good R) (id : Int) : Good (gTouch R id).1 := by
  unfold gTouch; split
  · refine G.map _ (fun e => by split <;> rfl) (fun e he => ?_)
    have := G.ok e he
    split
    · exact ⟨this.2.1, (show (0 : Int) ≤ 0 by decide), (show (0 : Int) ≤ 3 by decide)⟩
    · exact this.2
  · exact G
theorem chg_id (g : Int) (ch : Int → Int → Int × Int) (e : Ent) : (chg g ch e).id = e.id := by unfold chg; split <;> rfl
theorem Good.each (G : Good R) (g : Int) (ch : Int → Int → Int × Int) (hch : ∀ e ∈ R, e.group = g → (0 ≤ (ch e.group e.age).1 ∧ (ch e.group e.age).1 ≤ 16777216) ∧ 0 ≤ (ch e.group e.age).2 ∧ (ch e.group e.age).2 ≤ 3) : Good (gEach R g ch).1 := by
  refine G.map _ (chg_id g ch) (fun e he => ?_)
  unfold chg; split
  · next h => exact hch e he h
  · exact (G.ok e he).2
theorem chAge_ok {g a : Int} (h0 : 0 ≤ a) (h3 : a ≤ 3) : chAge g a = (g, if a < 3 then a + 1 else 3) := by
  unfold chAge min1
  rw [w64 (by omega) (by omega)]
  congr 1
  split <;> split <;> omega
theorem Good.age (G : Good R) (g : Int) : Good (gEach R g chAge).1 := by
  refine G.each g chAge (fun e he _ => ?_)
  have := G.ok e he
  rw [chAge_ok this.2.2.1 this.2.2.2]
  refine ⟨this.2.1, ?_⟩
  simp only; split <;> omega
theorem Good.move (G : Good R) (f t : Int) : Good (gMove R f t).1 := by
  unfold gMove; split
  · exact G
  · exact G.each f _ (fun e he _ => ⟨by simp only; omega, (G.ok e he).2.2⟩)

/-! ### the walks -/

def Lst (l : Nat) (R : List Ent) : Asn := exA fun m : Nat => star (blk l [.map (some m)]) (mapF m encI (gm R))

variable {E : Env} {L : List Asn} {w : World} {l : Nat}

theorem Lst.open (h : Sep E (Lst l R :: L) w) : ∃ m, Sep E (blk l [.map (some m)] :: mapF m encI (gm R) :: L) w := by
  obtain ⟨m, h⟩ := Sep.ex.1 h
  exact ⟨m, Sep.star.1 h⟩
theorem Lst.shut {m : Nat} (h : Sep E (blk l [.map (some m)] :: mapF m encI (gm R) :: L) w) : Sep E (Lst l R :: L) w := Sep.ex.2 ⟨m, Sep.star.2 h⟩
theorem mq : mQ P ty_map_int_gens_one = some (ty_int, oneV 0 0) := by kernel_rfl

theorem c_New (h : Sep E L w) : Calls P fn_gens_New #[] w (Ret fun v w' => ∃ l, v = .pointer (some ⟨l, 0, none⟩) ∧ Sep E (Lst l [] :: L) w') := by
  apply of_gens_New
  unfold sh_gens_New
  exact mapF.new (enc := encI) h (fun m w1 h1 => Al.i h1 (fun p w2 h2 => ⟨p, rfl, Lst.shut h2⟩))

/-- What is found: its group and age, and whether it is there. -/
theorem look {m i : Nat} (h : Sep E L w) (hi : L[i]? = some (mapF m encI (gm R))) (k : Int) :
    LookV P ty_map_int_gens_one (.map (some m)) (.int .i64 k) true w (.tuple #[oneV ((fnd R k).elim 0 (·.group)) ((fnd R k).elim 0 (·.age)), .bool (fnd R k).isSome]) := by
  have := LookV.i true i h hi K_int mq k
  unfold gm at this
  cases hf : fnd R k <;> simpa [hf] using this
theorem look1 {m i : Nat} (h : Sep E L w) (hi : L[i]? = some (mapF m encI (gm R))) (k : Int) :
    LookV P ty_map_int_gens_one (.map (some m)) (.int .i64 k) false w (oneV ((fnd R k).elim 0 (·.group)) ((fnd R k).elim 0 (·.age))) := by
  have := LookV.i false i h hi K_int mq k
  unfold gm at this
  cases hf : fnd R k <;> simpa [hf] using this

theorem gm_ins (G : Good R) {x : Ent} (hn : ∀ e ∈ R, e.id ≠ x.id) (G' : Good (insR R x)) : upd (gm R) x.id (some (oneV x.group x.age)) = gm (insR R x) := by
  funext k
  unfold upd gm
  by_cases hk : k = x.id
  · rw [if_pos hk, (fnd_iff G'.rise).2 ⟨(mem_insR hn).2 (.inl rfl), hk.symm⟩]; rfl
  · rw [if_neg hk, fnd_congr G.rise G'.rise (fun e he => ?_)]
    rw [mem_insR hn]
    exact ⟨fun h => h.resolve_left (fun e' => hk (by rw [← he, e'])), .inr⟩

theorem c_Add (G : Good R) (id g : Int) (old : Bool) (h : Sep E (Lst l R :: L) w) : Calls P fn_gens_Lists_Add #[.pointer (some ⟨l, 0, none⟩), .int .i64 id, .int .i64 g, .bool old] w (Ret fun v w' => v = .int .i64 (gAdd R id g old).2 ∧ Sep E (Lst l (gAdd R id g old).1 :: L) w') := by
  apply of_gens_Lists_Add
  unfold sh_gens_Lists_Add
  unfold gAdd
  have bad : gBad id g → (Value.int .i64 1 = .int .i64 (if gBad id g then (R, (1 : Int)) else if (fnd R id).isSome then (R, 4) else (insR R ⟨id, g, if old then 1 else 0⟩, 0)).2 ∧ Sep E (Lst l (if gBad id g then (R, (1 : Int)) else if (fnd R id).isSome then (R, 4) else (insR R ⟨id, g, if old then 1 else 0⟩, 0)).1 :: L) w) := by
    intro hb; rw [if_pos hb]; exact ⟨rfl, h⟩
  refine ⟨fun w => ¬ gBad id g ∧ Sep E (Lst l R :: L) w, ?_, ?_⟩
  · refine bLt (fun c => bad (.inl c)) (fun c1 => bGt (fun c => bad (.inr (.inl c))) (fun c2 => bLt (fun c => bad (.inr (.inr (.inl c)))) (fun c3 => bGt (fun c => bad (.inr (.inr (.inr c)))) (fun c4 => ⟨?_, h⟩))))
    unfold gBad; omega
  rintro _ w1 ⟨hb, h1⟩
  rw [if_neg hb]
  obtain ⟨m, h2⟩ := Lst.open h1
  refine ⟨_, rfl, ld h2 0 rfl rfl rfl ⟨_, _, _, look (i := 1) h2 rfl id, Al.i h2 (fun p w3 h3 => zst _ (vs := [.int .i64 _, .int .i64 _]) h3 rfl (fun w4 h4 => ?_))⟩⟩
  cases hf : fnd R id with
  | some e => exact bifT ⟨rfl, Lst.shut h4.tail⟩
  | none =>
    refine bifF (Al.i h4 (fun q w5 h5 => zst _ (vs := [.int .i64 g, .int .i64 0]) h5 rfl (fun w6 h6 => ?_)))
    refine ⟨fun w => Sep E (blk q [.int .i64 g, .int .i64 (if old then 1 else 0)] :: blk l [.map (some m)] :: mapF m encI (gm R) :: L) w, ?_, ?_⟩
    · refine bifI (fun ho => ?_) (fun ho => ?_)
      · refine ld h6 0 rfl rfl rfl (St.i h6 (show 0 + 1 < 2 by decide) (fun w7 h7 => ?_))
        rw [w64 (n := 0 + 1) (by decide) (by decide)] at h7
        rw [if_pos ho]; exact (h7.fr 1 rfl).tail.fr 0 rfl |> fun x => (h7.ro 4 [0, 2, 3] rfl)
      · rw [if_neg (by simp [ho])]; exact h6.ro 4 [0, 2, 3] rfl
    · rintro _ w7 h7
      refine Dr.i h7 (fun w8 h8 => ⟨_, rfl, ld h8 1 rfl rfl rfl (ld h8 0 rfl rfl rfl (ld h8 0 rfl rfl rfl ?_))⟩)
      refine mapUpdate.i (h8.ro 3 [2, 0, 1] rfl) K_int mq id _ (fun w9 h9 => ⟨rfl, ?_⟩)
      have hn := (fnd_none G.rise).1 hf
      have hb' : ¬ (id < 0 ∨ 16777216 < id ∨ g < 0 ∨ 16777216 < g) := hb
      have G' : Good (insR R ⟨id, g, if old then 1 else 0⟩) := G.ins (x := ⟨id, g, if old then 1 else 0⟩) hn ⟨⟨by simp only; omega, by simp only; omega⟩, ⟨by simp only; omega, by simp only; omega⟩, by simp only; split <;> omega⟩
      have e := gm_ins G (x := ⟨id, g, if old then 1 else 0⟩) hn G'
      have h9' : Sep E (mapF m encI (upd (gm R) id (some (oneV g (if old then 1 else 0)))) :: blk q [.int .i64 g, .int .i64 (if old then 1 else 0)] :: blk l [.map (some m)] :: L) w9 := h9
      rw [show upd (gm R) id (some (oneV g (if old then 1 else 0))) = gm (insR R ⟨id, g, if old then 1 else 0⟩) from e] at h9'
      exact Lst.shut (h9'.ro 3 [2, 0] rfl)

theorem c_Oldness (id : Int) (h : Sep E (Lst l R :: L) w) : Calls P fn_gens_Lists_Oldness #[.pointer (some ⟨l, 0, none⟩), .int .i64 id] w (Ret fun v w' => v = .int .i64 (gAge R id) ∧ Sep E (Lst l R :: L) w') := by
  apply of_gens_Lists_Oldness
  unfold sh_gens_Lists_Oldness
  obtain ⟨m, h2⟩ := Lst.open h
  refine ⟨_, rfl, ld h2 0 rfl rfl rfl ⟨_, _, _, look (i := 1) h2 rfl id, Al.i h2 (fun p w3 h3 => zst _ (vs := [.int .i64 _, .int .i64 _]) h3 rfl (fun w4 h4 => ?_))⟩⟩
  unfold gAge
  cases hf : fnd R id with
  | some e => rw [hf] at h4; exact bifT (ld h4 0 rfl rfl rfl ⟨rfl, Lst.shut h4.tail⟩)
  | none => exact bifF ⟨rfl, Lst.shut h4.tail⟩
theorem c_Group (id : Int) (h : Sep E (Lst l R :: L) w) : Calls P fn_gens_Lists_Group #[.pointer (some ⟨l, 0, none⟩), .int .i64 id] w (Ret fun v w' => v = .int .i64 (gGroup R id) ∧ Sep E (Lst l R :: L) w') := by
  apply of_gens_Lists_Group
  unfold sh_gens_Lists_Group
  obtain ⟨m, h2⟩ := Lst.open h
  refine ⟨_, rfl, ld h2 0 rfl rfl rfl ⟨_, _, _, look (i := 1) h2 rfl id, Al.i h2 (fun p w3 h3 => zst _ (vs := [.int .i64 _, .int .i64 _]) h3 rfl (fun w4 h4 => ?_))⟩⟩
  unfold gGroup
  cases hf : fnd R id with
  | some e => rw [hf] at h4; exact bifT (ld h4 0 rfl rfl rfl ⟨rfl, Lst.shut h4.tail⟩)
  | none => exact bifF ⟨rfl, Lst.shut h4.tail⟩

theorem c_Touch (G : Good R) (id : Int) (h : Sep E (Lst l R :: L) w) : Calls P fn_gens_Lists_Touch #[.pointer (some ⟨l, 0, none⟩), .int .i64 id] w (Ret fun v w' => v = .int .i64 (gTouch R id).2 ∧ Sep E (Lst l (gTouch R id).1 :: L) w') := by
  apply of_gens_Lists_Touch
  unfold sh_gens_Lists_Touch
  obtain ⟨m, h2⟩ := Lst.open h
  refine ⟨_, rfl, ld h2 0 rfl rfl rfl ⟨_, _, _, look (i := 1) h2 rfl id, Al.i h2 (fun p w3 h3 => zst _ (vs := [.int .i64 _, .int .i64 _]) h3 rfl (fun w4 h4 => ?_))⟩⟩
  have G0 := G.touch id
  unfold gTouch at G0 ⊢
  cases hf : fnd R id with
  | none => exact bifT ⟨rfl, Lst.shut h4.tail⟩
  | some e =>
    rw [hf] at h4 G0
    have G' : Good (R.map (fun e => if e.id = id then { e with age := 0 } else e)) := G0
    refine bifF (Dr.i h4 (fun w5 h5 => ⟨_, rfl, ld h5 1 rfl rfl rfl (ld h5 0 rfl rfl rfl ?_)⟩))
    refine mapUpdate.i (h5.ro 3 [2, 0, 1] rfl) K_int mq id _ (fun w6 h6 => ⟨rfl, ?_⟩)
    have he := (fnd_iff G.rise).1 hf
    have e1 : upd (gm R) id (some (oneV e.group 0)) = gm (R.map (fun e => if e.id = id then { e with age := 0 } else e)) := by
      funext k
      unfold upd gm
      by_cases hk : k = id
      · rw [if_pos hk, (fnd_iff G'.rise (e := { e with age := 0 })).2 ⟨List.mem_map.2 ⟨e, he.1, if_pos he.2⟩, by simp only; omega⟩]; rfl
      · rw [if_neg hk, fnd_congr G.rise G'.rise (fun x hx => ?_)]
        simp only [if_true, Option.isSome_some, List.mem_map]
        constructor
        · rintro ⟨y, hy, rfl⟩
          by_cases hyid : y.id = id
          · rw [if_pos hyid] at hx; simp only at hx; omega
          · rw [if_neg hyid]; exact hy
        · intro hx'; exact ⟨x, hx', if_neg (by omega)⟩
    have h6' : Sep E (mapF m encI (upd (gm R) id (some (oneV e.group 0))) :: blk p _ :: blk l [.map (some m)] :: L) w6 := h6
    rw [e1] at h6'
    exact Lst.shut (h6'.ro 3 [2, 0] rfl)

theorem c_Drop (G : Good R) (id : Int) (h : Sep E (Lst l R :: L) w) : Calls P fn_gens_Lists_Drop #[.pointer (some ⟨l, 0, none⟩), .int .i64 id] w (Ret fun v w' => v = .int .i64 (gDrop R id).2 ∧ Sep E (Lst l (gDrop R id).1 :: L) w') := by
  apply of_gens_Lists_Drop
  unfold sh_gens_Lists_Drop
  obtain ⟨m, h2⟩ := Lst.open h
  refine ⟨_, rfl, ld h2 0 rfl rfl rfl ⟨_, _, _, look (i := 1) h2 rfl id, Al.i h2 (fun p w3 h3 => zst _ (vs := [.int .i64 _, .int .i64 _]) h3 rfl (fun w4 h4 => ?_))⟩⟩
  have G0 := G.drop id
  unfold gDrop at G0 ⊢
  cases hf : fnd R id with
  | none => exact bifT ⟨rfl, Lst.shut h4.tail⟩
  | some e =>
    rw [hf] at G0
    have G' : Good (R.filter (fun e => e.id != id)) := G0
    refine bifF ⟨_, rfl, ld h4 1 rfl rfl rfl ?_⟩
    refine mapDelete.i (h4.ro 3 [2, 0, 1] rfl) K_int mq id (fun w6 h6 => ⟨rfl, ?_⟩)
    have e1 : upd (gm R) id none = gm (R.filter (fun e => e.id != id)) := by
      funext k
      unfold upd gm
      by_cases hk : k = id
      · have : fnd (R.filter (fun e => e.id != id)) k = none := (fnd_none G'.rise).2 (fun e he => by have := (List.mem_filter.1 he).2; simp at this; omega)
        rw [if_pos hk, this]; rfl
      · rw [if_neg hk, fnd_congr G.rise G'.rise (fun x hx => ?_)]
        simp only [if_true, Option.isSome_some, List.mem_filter]
        exact ⟨fun h => h.1, fun h => ⟨h, by simp; omega⟩⟩
    rw [e1] at h6
    exact Lst.shut (h6.ro 3 [2, 0] rfl)

end Go.Mp
