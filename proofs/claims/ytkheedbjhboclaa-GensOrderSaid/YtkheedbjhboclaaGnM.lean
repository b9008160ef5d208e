/- The laws of gens: orders; what is added old. -/
import Derived.Test.YtkheedbjhboclaaGnL
set_option maxRecDepth 100000
namespace Go.Mp
open Go Go.Vc Go.Sp Go.Stab

theorem Good.few {R : List Ent} (G : Good R) : R.length ≤ 16777217 := by
  have := ids_le 16777217 (R.map (fun e => e.id)) (by rw [List.nodup_iff_pairwise_ne, List.pairwise_map]; exact G.rise.imp (fun h => by omega)) (fun x hx => by
    obtain ⟨e, he, rfl⟩ := List.mem_map.1 hx
    have := (G.ok e he).1; omega)
  rwa [List.length_map] at this

/-- So many are of one of these groups. -/
def inG (R : List Ent) (gs : List Int) : Nat := (R.filter (fun e => gs.contains e.group)).length
theorem inG_nil (R : List Ent) : inG R [] = 0 := by
  unfold inG
  rw [List.filter_eq_nil_iff.2 (fun e _ => by simp)]; rfl
theorem inG_more (R : List Ent) (gs : List Int) (x : Int) : (inG R (gs ++ [x]) : Int) = inG R gs + (if x ∈ gs then 0 else gCount R x) := by
  unfold inG gCount
  induction R with
  | nil => simp
  | cons e R ih =>
    rw [List.filter_cons, List.filter_cons, List.filter_cons]
    have e1 : (gs ++ [x]).contains e.group = (gs.contains e.group || e.group == x) := by
      by_cases h1 : e.group ∈ gs <;> by_cases h2 : e.group = x <;> simp [h1, h2]
    rw [e1]
    by_cases hx : x ∈ gs
    · rw [if_pos hx] at ih ⊢
      by_cases h1 : gs.contains e.group = true
      · rw [h1]; simp only [Bool.true_or, if_true, List.length_cons]; omega
      · have h1' : gs.contains e.group = false := Bool.eq_false_iff.2 h1
        have h2 : (e.group == x) = false := by
          rw [Bool.eq_false_iff]; intro h
          have : e.group = x := by simpa using h
          rw [← this] at hx
          exact h1 (List.contains_iff_mem.2 hx)
        rw [h1', h2]; simpa using ih
    · rw [if_neg hx] at ih ⊢
      by_cases h2 : e.group = x
      · have h1 : gs.contains e.group = false := by
          rw [Bool.eq_false_iff]; intro h
          exact hx (h2 ▸ List.contains_iff_mem.1 h)
        have h3 : (e.group == x) = true := by simpa using h2
        rw [h1, h3]; simp only [Bool.false_or, if_true, Bool.false_eq_true, if_false, List.length_cons]; omega
      · have h3 : (e.group == x) = false := by simpa using h2
        rw [h3, Bool.or_false]
        cases gs.contains e.group
        · simpa using ih
        · simp only [if_true, Bool.false_eq_true, if_false, List.length_cons]; omega

theorem law_GensOrder {W : World} (s : Sl) (gr : Sl) (gs : List Int) (id : Int) (hl : ActsAt W s.p s.n) (hgs : IntsO W gr gs) :
    Calls P fn_millpondlaw12_GensOrder #[.slice s.p s.n s.c, .slice gr.p gr.n gr.c, .int .i64 id] W (Ret (Yes W)) := by
  apply of_millpondlaw12_GensOrder
  unfold sh_millpondlaw12_GensOrder
  refine use (c_works (Sep.start W)) ?_
  rintro _ w1 ⟨rfl, h1⟩
  have ok : ∀ {w : World}, Sep (World.env W) [old W.heap] w → Yes W (.bool true) w := fun h => ⟨rfl, _, 0, rfl, h⟩
  refine ⟨_, rfl, bifF ⟨fun w => (s.n ≤ 80 ∧ gr.n ≤ 80) ∧ Sep (World.env W) [old W.heap] w, ?_, ?_⟩⟩
  · exact bGt (fun _ => ok h1) (fun a1 => bGt (fun _ => ok h1) (fun a2 => ⟨⟨by omega, by omega⟩, h1⟩))
  rintro _ w2 ⟨⟨h80, hg80⟩, h2⟩
  have hgn := hgs.1
  refine use (c_New h2) ?_
  rintro _ w3 ⟨l, rfl, h3⟩
  refine ⟨_, rfl, runActs hl h80 h3 (fun i0 R0 w4 G0 hR0 h4 => use (c_Touch G0 id h4) ?_)⟩
  have G := G0.touch id
  obtain ⟨_, _, f3, _, f5, f6⟩ := gTouch_facts G0 id
  rintro _ w5 ⟨rfl, h5⟩
  have hag : (fnd (gTouch R0 id).1 id).isSome = true → gAge (gTouch R0 id).1 id = 0 := fun h => f3 (by rw [f5, ← f6, if_pos h])
  generalize (gTouch R0 id).1 = R at h5 G hag
  have hRl := G.few
  have hI : Ints (World.env W) [old W.heap] gr gs := hgs.ints (i := 0) rfl
  refine ⟨_, rfl, use (c_Order G hI (by omega) h5) ?_⟩
  rintro _ w6 ⟨u, o, rfl, hn, ho, h6⟩
  have hol : o.length = inG R gs := ho.len G
  have hile : ∀ gs', inG R gs' ≤ R.length := fun gs' => List.length_filter_le _ _
  have hile0 := hile gs
  have hI2 : Ints (World.env W) (rowA u 1 (intL o) :: Lst l R :: [old W.heap]) gr gs := hI.cons.cons
  refine ⟨u, rfl, fun a i w => ∃ k : Nat, i = k ∧ k ≤ gs.length ∧ a = inG R (gs.take k) ∧ Sep (World.env W) (rowA u 1 (intL o) :: Lst l R :: [old W.heap]) w, fun _ i _ => (gs.length - i).toNat, ⟨0, rfl, Nat.zero_le _, by rw [List.take_zero, inG_nil]; rfl, h6⟩, ?_⟩
  rintro _ a i w7 ⟨k, rfl, hk, rfl, h7⟩
  refine bLt (fun hlt => ?_) (fun hge => ?_)
  · have hx : gs[k]? = some (gs[k]'(by omega)) := List.getElem?_eq_getElem (by omega)
    generalize gs[k]'(by omega) = x at hx
    have ht : gs.take (k + 1) = gs.take k ++ [x] := by rw [List.take_add_one, hx]; rfl
    have hmore := inG_more R (gs.take k) x
    rw [← ht] at hmore
    have hk1 : inG R (gs.take (k + 1)) ≤ R.length := hile _
    have hk0 : inG R (gs.take k) ≤ R.length := hile _
    refine ⟨fun b j w => ∃ m : Nat, j = m ∧ m ≤ k ∧ (b = true ↔ ¬ x ∈ gs.take m) ∧ Sep (World.env W) (rowA u 1 (intL o) :: Lst l R :: [old W.heap]) w, fun _ j _ => (k - j).toNat, ⟨0, rfl, Nat.zero_le _, by simp, h7⟩, ?_⟩
    rintro _ b j w8 ⟨m, rfl, hm, hb, h8⟩
    refine bLt (fun hlt2 => Dr.i h8 (fun w9 h9 => ?_)) (fun hge2 => ?_)
    · have hy : gs[m]? = some (gs[m]'(by omega)) := List.getElem?_eq_getElem (by omega)
      generalize gs[m]'(by omega) = y at hy
      have ht2 : gs.take (m + 1) = gs.take m ++ [y] := by rw [List.take_add_one, hy]; rfl
      rw [w64 (n := (m : Int) + 1) (by omega) (by omega)]
      refine bifI (fun hbt => ?_) (fun hbf => ⟨⟨m + 1, by omega, by omega, ?_, h9⟩, by dsimp only; omega⟩)
      · refine hI2.el h9 m rfl hy (hI2.el h9 k rfl hx ⟨⟨m + 1, by omega, by omega, ?_, h9⟩, by dsimp only; omega⟩)
        have := hb.1 hbt
        rw [ht2]; simp [this]; exact ne_comm
      · have : x ∈ gs.take m := by
          refine Classical.byContradiction fun h => ?_
          rw [hb.2 h] at hbf; cases hbf
        rw [ht2]; simp [this]
    · have hmk : m = k := by omega
      subst hmk
      rw [w64 (n := (m : Int) + 1) (by omega) (by omega)]
      refine bifI (fun hbt => hI2.el h8 m rfl hx (use (c_Count G x (by omega) (h8.fr 1 rfl)) ?_)) (fun hbf => ?_)
      · rintro _ w9 ⟨rfl, h9⟩
        rw [if_neg (hb.1 hbt)] at hmore
        refine ⟨_, rfl, ⟨m + 1, by omega, by omega, ?_, h9.swap⟩, by dsimp only; omega⟩
        rw [w64 (by omega) (by omega)]; omega
      · have : x ∈ gs.take m := by
          refine Classical.byContradiction fun h => ?_
          rw [hb.2 h] at hbf; cases hbf
        rw [if_pos this] at hmore
        exact ⟨⟨m + 1, by omega, by omega, by omega, h8⟩, by dsimp only; omega⟩
  · have hkl : k = gs.length := by omega
    subst hkl
    rw [List.take_length]
    refine ⟨fun i w => ∃ k : Nat, i = k ∧ k ≤ o.length ∧ Sep (World.env W) (rowA u 1 (intL o) :: Lst l R :: [old W.heap]) w, fun i _ => (o.length - i).toNat, ⟨0, rfl, Nat.zero_le _, h7⟩, ?_⟩
    rintro _ i w8 ⟨k, rfl, hk, h8⟩
    refine bLt (fun hlt => ?_) (fun hge => bifT ⟨by rw [hn, hol]; simp, _, 2, rfl, h8⟩)
    have hx : o[k]? = some (o[k]'(by omega)) := List.getElem?_eq_getElem (by omega)
    generalize o[k]'(by omega) = x at hx
    obtain ⟨e, he, heg⟩ := (ho.mem x).1 (List.mem_of_getElem? hx)
    have heg' := gGroup_some he
    have hea := gAge_some he
    have hok := G.ok e ((fnd_iff G.rise).1 he).1
    refine ⟨fun b j w => ∃ m : Nat, j = m ∧ m ≤ gs.length ∧ (b = true ↔ e.group ∈ gs.take m) ∧ Sep (World.env W) (rowA u 1 (intL o) :: Lst l R :: [old W.heap]) w, fun _ j _ => (gs.length - j).toNat, ⟨0, rfl, Nat.zero_le _, by simp, h8⟩, ?_⟩
    rintro _ b j w9 ⟨m, rfl, hm, hb, h9⟩
    refine bLt (fun hlt2 => Dr.i h9 (fun w10 h10 => ?_)) (fun hge2 => ?_)
    · have hy : gs[m]? = some (gs[m]'(by omega)) := List.getElem?_eq_getElem (by omega)
      generalize gs[m]'(by omega) = y at hy
      have ht2 : gs.take (m + 1) = gs.take m ++ [y] := by rw [List.take_add_one, hy]; rfl
      rw [w64 (n := (m : Int) + 1) (by omega) (by omega)]
      refine bifI (fun hbt => ⟨⟨m + 1, by omega, by omega, ?_, h10⟩, by dsimp only; omega⟩) (fun hbf => ?_)
      · rw [ht2]; simp [hb.1 hbt]
      · obtain ⟨ga, hga, hgc⟩ := hI2.2 w10 h10 m y hy
        refine ⟨ga, hga, ⟨by omega, by omega⟩, y, ?_, ?_⟩
        · have : (m : Int).toNat * 1 = m := by omega
          rw [this]; exact hgc
        refine elL k h10 hn rfl hx (use (c_Group x (h10.fr 1 rfl)) ?_)
        rintro _ w11 ⟨rfl, h11⟩
        obtain ⟨ga2, hga2, hgc2⟩ := hI2.2 w11 h11.swap m y hy
        have hgaa : ga2 = ga := by rw [hga] at hga2; exact (Option.some.inj hga2).symm
        subst hgaa
        refine ⟨_, rfl, y, ?_, rfl, ⟨m + 1, by omega, by omega, ?_, h11.swap⟩, by dsimp only; omega⟩
        · have : (m : Int).toNat * 1 = m := by omega
          rw [this]; exact hgc2
        · have : ¬ e.group ∈ gs.take m := fun h => by rw [hb.2 h] at hbf; cases hbf
          rw [heg', ht2]; simp [this]; exact eq_comm
    · have hml : m = gs.length := by omega
      subst hml
      rw [List.take_length] at hb
      refine elL k h9 hn rfl hx (use (c_Oldness x (h9.fr 1 rfl)) ?_)
      rintro _ w10 ⟨rfl, h10⟩
      rw [hea]
      have h10 : Sep (World.env W) (rowA u 1 (intL o) :: Lst l R :: [old W.heap]) w10 := h10.swap
      refine ⟨_, rfl, fun w => Sep (World.env W) (rowA u 1 (intL o) :: Lst l R :: [old W.heap]) w, ?_, ?_⟩
      · rw [hb.2 heg]
        refine bifF (bLt (fun c => by omega) (fun _ => bGt (fun c => by omega) (fun _ => elL k h10 hn rfl hx (bEq (fun hid => bNe (fun c => absurd ?_ c) (fun _ => h10)) (fun _ => h10)))))
        rw [← hea, hid]; exact hag (by rw [← hid, he]; rfl)
      rintro _ w11 h11
      rw [w64 (n := (k : Int) + 1) (by omega) (by omega)]
      have fin : ∀ {w : World}, Sep (World.env W) (rowA u 1 (intL o) :: Lst l R :: [old W.heap]) w → ((∃ k' : Nat, (k : Int) + 1 = k' ∧ k' ≤ o.length ∧ Sep (World.env W) (rowA u 1 (intL o) :: Lst l R :: [old W.heap]) w) ∧ (o.length - ((k : Int) + 1)).toNat < (o.length - (k : Int)).toNat) :=
        fun h => ⟨⟨k + 1, by omega, by omega, h⟩, by omega⟩
      refine Dr.i h11 (fun w12 h12 => bGt (fun hpos => ?_) (fun _ => fin h12))
      rw [w64 (n := (k : Int) - 1) (by omega) (by omega)]
      have hy : o[k - 1]? = some (o[k - 1]'(by omega)) := List.getElem?_eq_getElem (by omega)
      generalize o[k - 1]'(by omega) = y at hy
      have hst := ho.step (i := k - 1) (j := k) (by omega) hy hx
      rw [hea] at hst
      refine elL (k - 1) h12 hn (by omega) hy (use (c_Oldness y (h12.fr 1 rfl)) ?_)
      rintro _ w13 ⟨rfl, h13⟩
      refine ⟨_, rfl, bLt (fun c => by omega) (fun _ => elL (k - 1) h13.swap hn (by omega) hy (use (c_Oldness y h13) ?_))⟩
      rintro _ w14 ⟨rfl, h14⟩
      have h14 : Sep (World.env W) (rowA u 1 (intL o) :: Lst l R :: [old W.heap]) w14 := h14.swap
      refine ⟨_, rfl, bEq (fun heq => elL (k - 1) h14 hn (by omega) hy (elL k h14 hn rfl hx (bGe (fun c => by omega) (fun _ => fin h14)))) (fun _ => fin h14)⟩

/-- Bools that lay there. -/
def BoolsO (W : World) (s : Sl) : Prop := ∀ i, i < s.n → ∃ a x, s.p = some a ∧ W.cell? (a.add i) = some (.bool x)
theorem bools_rd {W : World} {v : Value} (h : Rd P W ty_sl_bool [v]) : ∃ (l : Sl), v = .slice l.p l.n l.c ∧ BoolsO W l := by
  obtain ⟨p, n, c, rfl, _, _, hi⟩ := h.slice1 (e := ty_bool) (by kernel_rfl)
  have h1 : P.cellsOf ty_bool = 1 := by kernel_rfl
  refine ⟨⟨p, n, c⟩, rfl, fun i hlt => ?_⟩
  obtain ⟨a, es, hp, hl, hc, hr⟩ := hi i hlt
  rw [h1] at hc hl
  match es, hl with
  | [v0], _ =>
  obtain ⟨x, rfl⟩ := hr.bool1 (by kernel_rfl)
  have := hc 0 (by decide)
  rw [Nat.mul_one] at this
  refine ⟨a, x, hp, ?_⟩
  have e : (a.add i).add 0 = a.add i := by unfold Addr.add; simp
  rw [e] at this; simpa using this

theorem gAdd_facts {R : List Ent} (G : Good R) (id : Int) (o : Bool) :
    ((gAdd R id 1 o).2 = 1 ↔ (id < 0 ∨ 16777216 < id)) ∧ (¬ (id < 0 ∨ 16777216 < id) → ((gAdd R id 1 o).2 = 4 ↔ (fnd R id).isSome = true)) ∧
    ((gAdd R id 1 o).2 = 0 → gAge (gAdd R id 1 o).1 id = (if o then 1 else 0) ∧ (gAdd R id 1 o).1.length = R.length + 1) ∧ ((gAdd R id 1 o).2 ≠ 0 → (gAdd R id 1 o).1 = R) ∧
    (∀ k, (fnd (gAdd R id 1 o).1 k).isSome = true ↔ (fnd R k).isSome = true ∨ (k = id ∧ ¬ (id < 0 ∨ 16777216 < id))) ∧ ((∀ e ∈ R, e.group = 1) → ∀ e ∈ (gAdd R id 1 o).1, e.group = 1) := by
  unfold gAdd
  have hb : gBad id 1 ↔ (id < 0 ∨ 16777216 < id) := by unfold gBad; omega
  by_cases hbad : gBad id 1
  · rw [if_pos hbad]
    have := hb.1 hbad
    exact ⟨⟨fun _ => this, fun _ => rfl⟩, fun h => absurd this h, fun h => absurd h (by simp), fun _ => rfl, fun k => ⟨.inl, fun h => h.resolve_right (fun h => h.2 this)⟩, fun h => h⟩
  · rw [if_neg hbad]
    have hnb : ¬ (id < 0 ∨ 16777216 < id) := fun h => hbad (hb.2 h)
    cases hf : fnd R id with
    | some e =>
      refine ⟨⟨fun h => absurd h (by simp), fun h => absurd h hnb⟩, fun _ => ⟨fun _ => rfl, fun _ => rfl⟩, fun h => absurd h (by simp), fun _ => rfl, fun k => ⟨.inl, fun h => ?_⟩, fun h => h⟩
      rcases h with h | ⟨rfl, _⟩
      · exact h
      · show (fnd R _).isSome = true; rw [hf]; rfl
    | none =>
      have hn := (fnd_none G.rise).1 hf
      have G' : Good (insR R ⟨id, 1, if o then 1 else 0⟩) := G.ins (x := ⟨id, 1, if o then 1 else 0⟩) hn ⟨⟨by simp only; omega, by simp only; omega⟩, ⟨by simp only; omega, by simp only; omega⟩, by simp only; split <;> omega⟩
      have hm : ∀ y, y ∈ insR R ⟨id, 1, if o then 1 else 0⟩ ↔ y = ⟨id, 1, if o then 1 else 0⟩ ∨ y ∈ R := fun y => mem_insR hn
      refine ⟨⟨fun h => absurd h (by simp), fun h => absurd h hnb⟩, fun _ => ⟨fun h => absurd h (by simp), fun h => absurd h (by simp)⟩, fun _ => ⟨?_, ?_⟩, fun h => absurd rfl h, fun k => ?_, fun h e he => ?_⟩
      · exact gAge_some ((fnd_iff G'.rise).2 ⟨(hm _).2 (.inl rfl), rfl⟩)
      · show (insR R _).length = _
        have hp : (insR R ⟨id, 1, if o then 1 else 0⟩).Perm (⟨id, 1, if o then 1 else 0⟩ :: R) := by
          have n1 : (insR R ⟨id, 1, if o then 1 else 0⟩).Pairwise (fun a b => a ≠ b) := G'.rise.imp (fun h he => by rw [he] at h; omega)
          have n2 : ((⟨id, 1, if o then 1 else 0⟩ : Ent) :: R).Pairwise (fun a b => a ≠ b) := List.pairwise_cons.2 ⟨fun y hy he => hn y hy (by rw [← he]), G.rise.imp (fun h he => by rw [he] at h; omega)⟩
          exact (List.perm_ext_iff_of_nodup (List.nodup_iff_pairwise_ne.2 n1) (List.nodup_iff_pairwise_ne.2 n2)).2 (fun y => by rw [hm, List.mem_cons])
        rw [hp.length_eq, List.length_cons]
      · show (fnd (insR R _) k).isSome = true ↔ _
        constructor
        · intro h
          obtain ⟨e, he⟩ := Option.isSome_iff_exists.1 h
          obtain ⟨h1, h2⟩ := (fnd_iff G'.rise).1 he
          rcases (hm e).1 h1 with rfl | h1
          · exact .inr ⟨h2.symm, hnb⟩
          · exact .inl (by rw [(fnd_iff G.rise).2 ⟨h1, h2⟩]; rfl)
        · rintro (h | ⟨rfl, _⟩)
          · obtain ⟨e, he⟩ := Option.isSome_iff_exists.1 h
            obtain ⟨h1, h2⟩ := (fnd_iff G.rise).1 he
            rw [(fnd_iff G'.rise).2 ⟨(hm e).2 (.inr h1), h2⟩]; rfl
          · rw [(fnd_iff G'.rise).2 ⟨(hm _).2 (.inl rfl), rfl⟩]; rfl
      · rcases (hm e).1 he with rfl | h1
        · rfl
        · exact h e h1

theorem law_GensOld {W : World} (s : Sl) (ids : List Int) (bs : Sl) (hs : IntsO W s ids) (hbs : BoolsO W bs) :
    Calls P fn_millpondlaw12_GensOld #[.slice s.p s.n s.c, .slice bs.p bs.n bs.c] W (Ret (Yes W)) := by
  apply of_millpondlaw12_GensOld
  unfold sh_millpondlaw12_GensOld
  refine use (c_works (Sep.start W)) ?_
  rintro _ w1 ⟨rfl, h1⟩
  have ok : ∀ {w : World}, Sep (World.env W) [old W.heap] w → Yes W (.bool true) w := fun h => ⟨rfl, _, 0, rfl, h⟩
  refine ⟨_, rfl, bifF ⟨fun w => (s.n ≤ 40 ∧ s.n ≤ bs.n) ∧ Sep (World.env W) [old W.heap] w, ?_, ?_⟩⟩
  · exact bGt (fun _ => ok h1) (fun a1 => bLt (fun _ => ok h1) (fun a2 => ⟨⟨by omega, by omega⟩, h1⟩))
  rintro _ w2 ⟨⟨h40, hle⟩, h2⟩
  have hsn := hs.1
  have hI : Ints (World.env W) [old W.heap] s ids := hs.ints (i := 0) rfl
  refine use (c_New h2) ?_
  rintro _ w3 ⟨l, rfl, h3⟩
  refine ⟨_, rfl, fun n i w => ∃ (k : Nat) (R : List Ent), i = k ∧ k ≤ ids.length ∧ n = R.length ∧ R.length ≤ k ∧ Good R ∧ (∀ e ∈ R, e.group = 1) ∧ (∀ x, (fnd R x).isSome = true ↔ x ∈ ids.take k ∧ ¬ (x < 0 ∨ 16777216 < x)) ∧ Sep (World.env W) (Lst l R :: [old W.heap]) w,
    fun _ i _ => (ids.length - i).toNat, ⟨0, [], rfl, Nat.zero_le _, rfl, Nat.le_refl _, Good.nil, fun e he => (by cases he), fun x => ⟨fun h => (by simp [fnd] at h), fun h => (by simp at h)⟩, h3⟩, ?_⟩
  rintro _ n i w4 ⟨k, R, rfl, hk, rfl, hRk, G, hg1, hmem, h4⟩
  have hI2 : Ints (World.env W) (Lst l R :: [old W.heap]) s ids := hI.cons
  refine bLt (fun hlt => ?_) (fun hge => ?_)
  · have hx : ids[k]? = some (ids[k]'(by omega)) := List.getElem?_eq_getElem (by omega)
    generalize ids[k]'(by omega) = x at hx
    have ht : ids.take (k + 1) = ids.take k ++ [x] := by rw [List.take_add_one, hx]; rfl
    refine ⟨fun b j w => ∃ m : Nat, j = m ∧ m ≤ k ∧ (b = true ↔ x ∈ ids.take m) ∧ Sep (World.env W) (Lst l R :: [old W.heap]) w, fun _ j _ => (k - j).toNat, ⟨0, rfl, Nat.zero_le _, by simp, h4⟩, ?_⟩
    rintro _ b j w5 ⟨m, rfl, hm, hb, h5⟩
    refine bLt (fun hlt2 => Dr.i h5 (fun w6 h6 => ?_)) (fun hge2 => Dr.i h5 (fun w6 h6 => ?_))
    · have hy : ids[m]? = some (ids[m]'(by omega)) := List.getElem?_eq_getElem (by omega)
      generalize ids[m]'(by omega) = y at hy
      have ht2 : ids.take (m + 1) = ids.take m ++ [y] := by rw [List.take_add_one, hy]; rfl
      rw [w64 (n := (m : Int) + 1) (by omega) (by omega)]
      refine bifI (fun hbt => ⟨⟨m + 1, by omega, by omega, ?_, h6⟩, by dsimp only; omega⟩) (fun hbf => ?_)
      · rw [ht2]; simp [hb.1 hbt]
      · refine hI2.el h6 m rfl hy (hI2.el h6 k rfl hx ⟨⟨m + 1, by omega, by omega, ?_, h6⟩, by dsimp only; omega⟩)
        have : ¬ x ∈ ids.take m := fun h => by rw [hb.2 h] at hbf; cases hbf
        rw [ht2]; simp [this]; exact eq_comm
    · have hmk : m = k := by omega
      subst hmk
      obtain ⟨ba, bo, hbp, hbc⟩ := hbs m (by omega)
      have hbl : ∀ {R' : List Ent} {w : World}, Sep (World.env W) (Lst l R' :: [old W.heap]) w → ∀ {F : Bool → Prop}, F bo → elAt bs.p bs.n (m : Int) 1 fun a => ∃ v : Bool, w.cell? a = some (.bool v) ∧ F v := by
        intro R' w h F f
        refine ⟨ba, hbp, ⟨by omega, by omega⟩, bo, ?_, f⟩
        have : (m : Int).toNat * 1 = m := by omega
        rw [this]; exact h.oldCell (i := 1) rfl hbc
      refine hI2.el h6 m rfl hx (hbl h6 (use (c_Add G x 1 bo h6) ?_))
      obtain ⟨a1, a2, a3, a4, a5, a6⟩ := gAdd_facts G x bo
      have G' := G.add x 1 bo
      rintro _ w7 ⟨rfl, h7⟩
      generalize (gAdd R x 1 bo).1 = R' at h7 a3 a4 a5 a6 G'
      generalize (gAdd R x 1 bo).2 = z at a1 a2 a3 a4
      have hI3 : Ints (World.env W) (Lst l R' :: [old W.heap]) s ids := hI.cons
      have hmem' : ∀ y, (fnd R' y).isSome = true ↔ y ∈ ids.take (m + 1) ∧ ¬ (y < 0 ∨ 16777216 < y) := by
        intro y
        rw [a5, hmem, ht, List.mem_append, List.mem_singleton]
        constructor
        · rintro (⟨h1, h2⟩ | ⟨rfl, h2⟩)
          · exact ⟨.inl h1, h2⟩
          · exact ⟨.inr rfl, h2⟩
        · rintro ⟨h1 | rfl, h2⟩
          · exact .inl ⟨h1, h2⟩
          · exact .inr ⟨rfl, h2⟩
      refine ⟨_, rfl, fun c w => c = decide (x < 0 ∨ 16777216 < x) ∧ Sep (World.env W) (Lst l R' :: [old W.heap]) w, ?_, ?_⟩
      · refine hI3.el h7 m rfl hx (bLt (fun c => ⟨?_, h7⟩) (fun c => hI3.el h7 m rfl hx ⟨?_, h7⟩))
        · rw [decide_eq_true (.inl c)]
        · by_cases h : 16777216 < x
          · rw [decide_eq_true (show x > 16777216 from h), decide_eq_true (.inr h)]
          · rw [decide_eq_false (show ¬ x > 16777216 from h), decide_eq_false (by omega)]
      rintro _ bad w8 ⟨rfl, h8⟩
      refine ⟨fun w => Sep (World.env W) (Lst l R' :: [old W.heap]) w, ?_, ?_⟩
      · have e1 : (z == 1) = decide (x < 0 ∨ 16777216 < x) := by
          by_cases h : x < 0 ∨ 16777216 < x
          · rw [decide_eq_true h, a1.2 h]; rfl
          · rw [decide_eq_false h]; have : z ≠ 1 := fun e => h (a1.1 e)
            simpa using this
        rw [e1]
        refine bifI (fun h => by simp at h) (fun _ => bifI (fun hnb => ?_) (fun _ => h8))
        have hnb : ¬ (x < 0 ∨ 16777216 < x) := by
          intro h; rw [decide_eq_true h] at hnb; cases hnb
        have e2 : b = (z == 4) := by
          have := a2 hnb
          rw [hmem] at this
          by_cases hx4 : x ∈ ids.take m
          · rw [hb.2 hx4, this.2 ⟨hx4, hnb⟩]; rfl
          · have h1 : b = false := Bool.eq_false_iff.2 (fun h => hx4 (hb.1 h))
            have h2 : z ≠ 4 := fun e => hx4 (this.1 e).1
            rw [h1]; simpa using h2
        rw [e2]
        exact bifI (fun h => by simp at h) (fun _ => h8)
      rintro _ w9 h9
      rw [w64 (n := (m : Int) + 1) (by omega) (by omega)]
      refine bEq (fun hz => ?_) (fun hz => ?_)
      · refine ⟨fun t w => t = (if bo then 1 else 0) ∧ Sep (World.env W) (Lst l R' :: [old W.heap]) w, ?_, ?_⟩
        · refine hbl h9 (bifI (fun h => ⟨by rw [if_pos h], h9⟩) (fun h => ⟨by rw [if_neg (by simp [h])], h9⟩))
        rintro _ t w10 ⟨rfl, h10⟩
        refine hI3.el h10 m rfl hx (use (c_Oldness x h10) ?_)
        rintro _ w11 ⟨rfl, h11⟩
        obtain ⟨b1, b2⟩ := a3 hz
        refine ⟨_, rfl, bNe (fun h => absurd b1 h) (fun _ => ⟨⟨m + 1, R', by omega, by omega, ?_, by omega, G', a6 hg1, hmem', h11⟩, by dsimp only; omega⟩)⟩
        rw [w64 (by omega) (by omega)]; omega
      · have := a4 hz
        exact ⟨⟨m + 1, R', by omega, by omega, by rw [this], by rw [this]; omega, G', a6 hg1, hmem', h9⟩, by dsimp only; omega⟩
  · refine Al.i h4 (fun p w5 h5 => use (c_Order G (L := blk p [.int .i64 1] :: [old W.heap]) (gs := [1]) (s := ⟨some ⟨p, 0, none⟩, 1, 1⟩) (ints_one (i := 0) rfl) (by decide) h5.swap) ?_)
    rintro _ w6 ⟨u, o, rfl, hn, ho, h6⟩
    have hlen := ho.len1 G
    have hall : gCount R 1 = R.length := by
      unfold gCount
      rw [List.filter_eq_self.2 (fun e he => by simpa using hg1 e he)]
    have h6 : Sep (World.env W) (rowA u 1 (intL o) :: Lst l R :: [old W.heap]) w6 := h6.re [0, 1, 3] rfl
    refine ⟨u, rfl, fun i w => ∃ k : Nat, i = k ∧ 1 ≤ k ∧ Sep (World.env W) (rowA u 1 (intL o) :: Lst l R :: [old W.heap]) w, fun i _ => (o.length - i).toNat, ⟨1, rfl, Nat.le_refl _, h6⟩, ?_⟩
    rintro _ i w7 ⟨m, rfl, hm, h7⟩
    refine bLt (fun hlt => Dr.i h7 (fun w8 h8 => ?_)) (fun hge => ?_)
    · have hx : o[m]? = some (o[m]'(by omega)) := List.getElem?_eq_getElem (by omega)
      have hy : o[m - 1]? = some (o[m - 1]'(by omega)) := List.getElem?_eq_getElem (by omega)
      generalize o[m]'(by omega) = x at hx
      generalize o[m - 1]'(by omega) = y at hy
      have hst := ho.step (i := m - 1) (j := m) (by omega) hy hx
      rw [w64 (n := (m : Int) - 1) (by omega) (by omega), w64 (n := (m : Int) + 1) (by omega) (by omega)]
      refine elL (m - 1) h8 hn (by omega) hy (elJ 0 h8 rfl hn (by omega) (by omega) (fun a ha => ?_))
      have hxx : o.getD (m : Int).toNat 0 = x := by
        have : (m : Int).toNat = m := by omega
        rw [this, List.getD, hx]; rfl
      rw [hxx] at ha
      refine ⟨x, ha 0 h8 rfl, use (c_Oldness y (h8.fr 1 rfl)) ?_⟩
      rintro _ w9 ⟨rfl, h9⟩
      refine ⟨_, rfl, x, ha 1 h9 rfl, rfl, use (c_Oldness x h9) ?_⟩
      rintro _ w10 ⟨rfl, h10⟩
      exact ⟨_, rfl, bLt (fun c => by omega) (fun _ => ⟨⟨m + 1, by omega, by omega, h10.swap⟩, by dsimp only; omega⟩)⟩
    · refine bifT (bEq (fun _ => use (c_Count G 1 (by omega) (h7.fr 1 rfl)) ?_) (fun hne => absurd (by omega) hne))
      rintro _ w8 ⟨rfl, h8⟩
      exact ⟨_, rfl, by rw [hall]; simp, _, 2, rfl, h8⟩

end Go.Mp
