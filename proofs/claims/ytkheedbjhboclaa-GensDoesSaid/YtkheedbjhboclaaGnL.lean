/- The laws of gens: what each comes to. -/
import Derived.Test.YtkheedbjhboclaaGnP
set_option maxRecDepth 100000
namespace Go.Mp
open Go Go.Vc Go.Sp Go.Stab

abbrev Yes (W : World) (v : Value) (w' : World) : Prop := v = .bool true ∧ ∃ (L : List Asn) (i : Nat), L[i]? = some (old W.heap) ∧ Sep (World.env W) L w'

theorem law_GensAges {W : World} (s : Sl) (g o id : Int) (hl : ActsAt W s.p s.n) :
    Calls P fn_millpondlaw12_GensAges #[.slice s.p s.n s.c, .int .i64 g, .int .i64 o, .int .i64 id] W (Ret (Yes W)) := by
  apply of_millpondlaw12_GensAges
  unfold sh_millpondlaw12_GensAges
  refine use (c_works (Sep.start W)) ?_
  rintro _ w1 ⟨rfl, h1⟩
  have ok : ∀ {w : World}, Sep (World.env W) [old W.heap] w → Yes W (.bool true) w := fun h => ⟨rfl, _, 0, rfl, h⟩
  refine ⟨_, rfl, bifF ⟨fun w => (s.n ≤ 80 ∧ 0 ≤ o ∧ o ≤ 16777216 ∧ g ≠ o) ∧ Sep (World.env W) [old W.heap] w, ?_, ?_⟩⟩
  · exact bGt (fun _ => ok h1) (fun a1 => bLt (fun _ => ok h1) (fun a2 => bGt (fun _ => ok h1) (fun a3 => bEq (fun _ => ok h1) (fun a4 => ⟨⟨by omega, a2, a3, a4⟩, h1⟩))))
  rintro _ w2 ⟨⟨h80, ho0, ho1, hgo⟩, h2⟩
  refine use (c_New h2) ?_
  rintro _ w3 ⟨l, rfl, h3⟩
  refine ⟨_, rfl, runActs hl h80 h3 (fun i R w4 G hR h4 => use (c_Oldness id h4) ?_)⟩
  rintro _ w5 ⟨rfl, h5⟩
  refine ⟨_, rfl, use (c_Group id h5) ?_⟩
  rintro _ w6 ⟨rfl, h6⟩
  have hG : ∀ i, Good (R.map (aged g i)) := by
    intro i
    refine G.map _ (aged_id g i) (fun e he => ?_)
    have := G.ok e he
    rw [aged_group]
    refine ⟨this.2.1, ?_⟩
    unfold aged
    split
    · simp only; split <;> omega
    · exact this.2.2
  refine ⟨_, rfl, fun i w => ∃ k : Nat, i = k ∧ k ≤ 3 ∧ Sep (World.env W) (Lst l (R.map (aged g k)) :: [old W.heap]) w, fun i _ => (3 - i).toNat, ⟨0, rfl, by omega, by rw [aged_zero G]; exact h6⟩, ?_⟩
  rintro _ i w7 ⟨k, rfl, hk, h7⟩
  refine bLt (fun hlt => use (c_Age (hG k) g (by rw [List.length_map]; omega) h7) ?_) (fun hge => ?_)
  · rintro _ w8 ⟨rfl, h8⟩
    rw [aged_succ G] at h8
    rw [w64 (by omega) (by omega)]
    exact ⟨_, rfl, ⟨k + 1, by omega, by omega, h8⟩, by dsimp only; omega⟩
  · have hk3 : k = 3 := by omega
    subst hk3
    refine use (c_Oldness id h7) ?_
    rintro _ w8 ⟨rfl, h8⟩
    refine ⟨_, rfl, use (c_Age (hG 3) g (by rw [List.length_map]; omega) h8) ?_⟩
    rintro _ w9 ⟨rfl, h9⟩
    rw [aged_succ G, aged_same G] at h9
    rw [aged_more G]
    have hnow : gAge (R.map (aged g 3)) id = if gGroup R id = g ∧ 0 ≤ gGroup R id then 3 else gAge R id := by
      rw [gAge_map _ (aged_id g 3)]
      cases hf : fnd R id with
      | none => rw [gGroup_none hf, gAge_none hf, if_neg (by omega)]
      | some e =>
        obtain ⟨h1, h2⟩ := (fnd_iff G.rise).1 hf
        have := G.ok e h1
        rw [gGroup_some hf, gAge_some hf]
        simp only
        unfold aged
        by_cases hg : e.group = g
        · rw [if_pos hg, if_pos (show e.group = g ∧ 0 ≤ e.group from ⟨hg, by omega⟩)]; simp only; rw [if_neg (by omega)]
        · rw [if_neg hg, if_neg (fun h => hg h.1)]
    have hneg : gGroup R id < 0 → gAge R id = gAge (R.map (aged g 3)) id := fun h => by rw [hnow, if_neg (by omega)]
    refine ⟨_, rfl, fun w => Sep (World.env W) (Lst l (R.map (aged g 3)) :: [old W.heap]) w, ?_, ?_⟩
    · have z : ∀ {A : Prop}, A → (bif ((0 : Int) != 0) then (Yes W (.bool false) w9) else A) := fun h => bNe (fun e => absurd rfl e) (fun _ => h)
      refine bEq (fun e1 => bGe (fun e2 => bNe (fun e3 => ?_) (fun _ => bNe (fun e4 => absurd e1 e4) (fun _ => z h9))) (fun e2 => bNe (fun e4 => absurd e1 e4) (fun _ => z h9))) (fun e1 => bNe (fun _ => bNe (fun e3 => ?_) (fun _ => z h9)) (fun e4 => absurd e4 e1))
      · exact absurd (by rw [hnow, if_pos ⟨e1, e2⟩]) e3
      · exact absurd (by rw [hnow, if_neg (fun h => e1 h.1)]) e3
    rintro _ w10 h10
    generalize hR3 : R.map (aged g 3) = R3 at h10 hnow hneg
    have G3 : Good R3 := hR3 ▸ hG 3
    have hl3 : R3.length = R.length := by rw [← hR3, List.length_map]
    refine use (c_Count G3 g (by omega) h10) ?_
    rintro _ w11 ⟨rfl, h11⟩
    refine ⟨_, rfl, use (c_Count G3 o (by omega) h11) ?_⟩
    rintro _ w12 ⟨rfl, h12⟩
    refine ⟨_, rfl, use (c_Move G3 g o (by omega) h12) ?_⟩
    have G4 := G3.move g o
    rw [gMove_eq g o ho0 ho1 hgo] at G4 ⊢
    rintro _ w13 ⟨rfl, h13⟩
    have hl4 : (R3.map (mvd g o)).length = R.length := by rw [List.length_map]; omega
    refine ⟨_, rfl, bifT (bEq (fun _ => use (c_Count G4 g (by simp only; omega) h13) ?_) (fun e => absurd rfl e))⟩
    rintro _ w14 ⟨rfl, h14⟩
    refine ⟨_, rfl, bEq (fun _ => use (c_Count G4 o (by simp only; omega) h14) ?_) (fun e => absurd (count_from g o hgo) e)⟩
    rintro _ w15 ⟨rfl, h15⟩
    have hc1 : 0 ≤ gCount R3 g ∧ gCount R3 g ≤ R3.length := by
      have h := List.length_filter_le (fun e : Ent => e.group == g) R3
      unfold gCount; omega
    have hc2 : 0 ≤ gCount R3 o ∧ gCount R3 o ≤ R3.length := by
      have h := List.length_filter_le (fun e : Ent => e.group == o) R3
      unfold gCount; omega
    refine ⟨_, rfl, bEq (fun _ => use (c_Oldness id h15) ?_) (fun e => absurd ?_ e)⟩
    · rintro _ w16 ⟨rfl, h16⟩
      refine ⟨_, rfl, ?_, _, 1, rfl, h16⟩
      have : gAge (R3.map (mvd g o)) id = gAge R3 id := by
        rw [gAge_map _ (mvd_id g o)]; unfold gAge; cases fnd R3 id <;> simp [mvd_age]
      simp only; rw [this]; simp
    · rw [w64 (by omega) (by omega)]; exact count_to g o hgo

theorem law_GensMoves {W : World} (s : Sl) (f t id : Int) (hl : ActsAt W s.p s.n) :
    Calls P fn_millpondlaw12_GensMoves #[.slice s.p s.n s.c, .int .i64 f, .int .i64 t, .int .i64 id] W (Ret (Yes W)) := by
  apply of_millpondlaw12_GensMoves
  unfold sh_millpondlaw12_GensMoves
  refine use (c_works (Sep.start W)) ?_
  rintro _ w1 ⟨rfl, h1⟩
  have ok : ∀ {w : World}, Sep (World.env W) [old W.heap] w → Yes W (.bool true) w := fun h => ⟨rfl, _, 0, rfl, h⟩
  refine ⟨_, rfl, bifF ⟨fun w => (s.n ≤ 80 ∧ (0 ≤ f ∧ f ≤ 16777216) ∧ (0 ≤ t ∧ t ≤ 16777216) ∧ f ≠ t) ∧ Sep (World.env W) [old W.heap] w, ?_, ?_⟩⟩
  · exact bGt (fun _ => ok h1) (fun a1 => bLt (fun _ => ok h1) (fun a2 => bGt (fun _ => ok h1) (fun a3 => bLt (fun _ => ok h1) (fun a4 => bGt (fun _ => ok h1) (fun a5 => bEq (fun _ => ok h1) (fun a6 => ⟨⟨by omega, ⟨a2, a3⟩, ⟨a4, a5⟩, a6⟩, h1⟩))))))
  rintro _ w2 ⟨⟨h80, ⟨hf0, hf1⟩, ⟨ht0, ht1⟩, hft⟩, h2⟩
  refine use (c_New h2) ?_
  rintro _ w3 ⟨l, rfl, h3⟩
  refine ⟨_, rfl, runActs hl h80 h3 (fun i R w4 G hR h4 => use (c_Count G t (by omega) h4) ?_)⟩
  rintro _ w5 ⟨rfl, h5⟩
  refine ⟨_, rfl, use (c_Oldness id h5) ?_⟩
  rintro _ w6 ⟨rfl, h6⟩
  refine ⟨_, rfl, use (c_Group id h6) ?_⟩
  rintro _ w7 ⟨rfl, h7⟩
  refine ⟨_, rfl, Al.i h7 (fun p w8 h8 => use (c_Order G (L := blk p [.int .i64 f] :: [old W.heap]) (gs := [f]) (s := ⟨some ⟨p, 0, none⟩, 1, 1⟩) (ints_one (i := 0) rfl) (show 1 < 4611686018427387904 by decide) h8.swap) ?_)⟩
  rintro _ w9 ⟨u, o, rfl, hn, ho, h9⟩
  have hlen := ho.len1 G
  have G1 := G.move f t
  refine ⟨u, rfl, use (c_Move G f t (by omega) (h9.fr 1 rfl)) ?_⟩
  rw [gMove_eq f t ht0 ht1 hft] at G1 ⊢
  rintro _ w10 ⟨rfl, h10⟩
  simp only at h10 G1 ⊢
  have h10 : Sep (World.env W) (Lst l (R.map (mvd f t)) :: rowA u 1 (intL o) :: [old W.heap]) w10 := h10.re [0, 1, 3] rfl
  have hage : gAge (R.map (mvd f t)) id = gAge R id := by
    rw [gAge_map _ (mvd_id f t)]; unfold gAge; cases fnd R id <;> simp [mvd_age]
  have hgrp : gGroup (R.map (mvd f t)) id = if gGroup R id = f then t else gGroup R id := by
    rw [gGroup_map _ (mvd_id f t)]
    unfold gGroup
    cases fnd R id with
    | none => simp only; rw [if_neg (by omega)]
    | some e => simp only; unfold mvd; split <;> rfl
  refine ⟨_, rfl, fun w => Sep (World.env W) (Lst l (R.map (mvd f t)) :: rowA u 1 (intL o) :: [old W.heap]) w, ?_, ?_⟩
  · refine use (c_Oldness id h10) ?_
    rintro _ w11 ⟨rfl, h11⟩
    have fin : ∀ {w : World}, Sep (World.env W) (Lst l (R.map (mvd f t)) :: rowA u 1 (intL o) :: [old W.heap]) w → (bif (gCount R f != ((u.n : Nat) : Int)) then (Yes W (.bool false) w) else (Sep (World.env W) (Lst l (R.map (mvd f t)) :: rowA u 1 (intL o) :: [old W.heap]) w)) :=
      fun h => bNe (fun e => absurd (by rw [hn]; omega) e) (fun _ => h)
    refine ⟨_, rfl, bNe (fun e => absurd hage e) (fun _ => ?_)⟩
    refine bEq (fun e1 => bGe (fun e2 => use (c_Group id h11) ?_) (fun e2 => by omega)) (fun e1 => bNe (fun _ => use (c_Group id h11) ?_) (fun e => absurd e e1))
    · rintro _ w12 ⟨rfl, h12⟩
      exact ⟨_, rfl, bNe (fun e => absurd (by rw [hgrp, if_pos e1]) e) (fun _ => bNe (fun e => absurd e1 e) (fun _ => fin h12))⟩
    · rintro _ w12 ⟨rfl, h12⟩
      exact ⟨_, rfl, bNe (fun e => absurd (by rw [hgrp, if_neg e1]) e) (fun _ => fin h12)⟩
  rintro _ w11 h11
  refine bifI (fun _ => ⟨rfl, _, 2, rfl, h11⟩) (fun he => ?_)
  have hemp : gCount R t = 0 := by simpa using he
  refine use (c_Move G1 t f (by rw [List.length_map]; omega) h11) ?_
  rw [gMove_eq t f hf0 hf1 (Ne.symm hft)]
  rintro _ w12 ⟨rfl, h12⟩
  rw [back f t hemp] at h12
  refine ⟨_, rfl, bifT (bEq (fun _ => ?_) (fun e => absurd ?_ e))⟩
  · refine Al.i h12 (fun p2 w13 h13 => use (c_Order G (L := blk p2 [.int .i64 f] :: rowA u 1 (intL o) :: [old W.heap]) (gs := [f]) (s := ⟨some ⟨p2, 0, none⟩, 1, 1⟩) (ints_one (i := 0) rfl) (show 1 < 4611686018427387904 by decide) h13.swap) ?_)
    rintro _ w14 ⟨u2, o2, rfl, hn2, ho2, h14⟩
    have he := ho2.eq ho
    subst he
    refine ⟨u2, rfl, use (c_row (i := 0) (j := 3) h14 rfl rfl hn2 hn ?_) ?_⟩
    · have : (gCount R f) ≤ R.length := by
        have h := List.length_filter_le (fun e : Ent => e.group == f) R
        unfold gCount; omega
      omega
    rintro _ w15 ⟨rfl, h15⟩
    rw [decide_eq_true (rfl : o2 = o2)]
    refine ⟨_, rfl, bifT (use (c_Group id (h15.fr 1 rfl)) ?_)⟩
    rintro _ w16 ⟨rfl, h16⟩
    exact ⟨_, rfl, by simp, _, 4, rfl, h16⟩
  · show gCount (R.map (mvd f t)) t = gCount R f
    rw [count_to f t hft, hemp]; omega

theorem law_GensTouch {W : World} (s : Sl) (id other : Int) (gr : Sl) (gs : List Int) (hl : ActsAt W s.p s.n) (hgs : IntsO W gr gs) :
    Calls P fn_millpondlaw12_GensTouch #[.slice s.p s.n s.c, .int .i64 id, .int .i64 other, .slice gr.p gr.n gr.c] W (Ret (Yes W)) := by
  apply of_millpondlaw12_GensTouch
  unfold sh_millpondlaw12_GensTouch
  refine use (c_works (Sep.start W)) ?_
  rintro _ w1 ⟨rfl, h1⟩
  have ok : ∀ {w : World}, Sep (World.env W) [old W.heap] w → Yes W (.bool true) w := fun h => ⟨rfl, _, 0, rfl, h⟩
  refine ⟨_, rfl, bifF ⟨fun w => (s.n ≤ 80 ∧ gr.n ≤ 80) ∧ Sep (World.env W) [old W.heap] w, ?_, ?_⟩⟩
  · exact bGt (fun _ => ok h1) (fun a1 => bGt (fun _ => ok h1) (fun a2 => ⟨⟨by omega, by omega⟩, h1⟩))
  rintro _ w2 ⟨⟨h80, hg80⟩, h2⟩
  have hgn := hgs.1
  refine use (c_New h2) ?_
  rintro _ w3 ⟨l, rfl, h3⟩
  refine ⟨_, rfl, runActs hl h80 h3 (fun i R w4 G hR h4 => use (c_Oldness other h4) ?_)⟩
  rintro _ w5 ⟨rfl, h5⟩
  refine ⟨_, rfl, use (c_Group id h5) ?_⟩
  rintro _ w6 ⟨rfl, h6⟩
  refine ⟨_, rfl, use (c_Touch G id h6) ?_⟩
  have G1 := G.touch id
  obtain ⟨f1, f2, f3, f4, f5, f6⟩ := gTouch_facts G id
  rintro _ w7 ⟨rfl, h7⟩
  generalize (gTouch R id).1 = R1 at h7 G1 f2 f3 f4 f6
  generalize (gTouch R id).2 = e at f1 f3 f5
  refine ⟨_, rfl, fun w => Sep (World.env W) (Lst l R1 :: [old W.heap]) w, ?_, ?_⟩
  · refine bifI (fun hb => ?_) (fun _ => ?_)
    · exfalso
      by_cases he : e = 0
      · have := f1.1 he; simp [he, this] at hb
      · have : ¬ 0 ≤ gGroup R id := fun h => he (f1.2 h)
        simp [he, this] at hb
    · have last : ∀ {w : World}, Sep (World.env W) (Lst l R1 :: [old W.heap]) w → (bif (e == 0) then (Calls P fn_gens_Lists_Oldness #[(.pointer (some ⟨l, 0, none⟩)), (.int .i64 id)] w fun e39 w38 => ∃ x40 : Int, e39 = .returned (.int .i64 x40) ∧ bif (x40 != 0) then (Yes W (.bool false) w38) else
          (Calls P fn_gens_Lists_Group #[(.pointer (some ⟨l, 0, none⟩)), (.int .i64 id)] w38 fun e42 w41 => ∃ x43 : Int, e42 = .returned (.int .i64 x43) ∧ bif (x43 != gGroup R id) then (Yes W (.bool false) w41) else (Sep (World.env W) (Lst l R1 :: [old W.heap]) w41))) else (Sep (World.env W) (Lst l R1 :: [old W.heap]) w)) := by
        intro w h
        refine bEq (fun he => use (c_Oldness id h) ?_) (fun _ => h)
        rintro _ w8 ⟨rfl, h8⟩
        refine ⟨_, rfl, bNe (fun hne => absurd (f3 he) hne) (fun _ => use (c_Group id h8) ?_)⟩
        rintro _ w9 ⟨rfl, h9⟩
        exact ⟨_, rfl, bNe (fun hne => absurd f4 hne) (fun _ => h9)⟩
      refine bNe (fun hne => use (c_Oldness other h7) ?_) (fun _ => last h7)
      rintro _ w8 ⟨rfl, h8⟩
      exact ⟨_, rfl, bNe (fun h => absurd (f2 other hne) h) (fun _ => last h8)⟩
  rintro _ w8 h8
  have hI : Ints (World.env W) [old W.heap] gr gs := hgs.ints (i := 0) rfl
  refine use (c_Order G1 hI (by omega) h8) ?_
  rintro _ w9 ⟨u, o, rfl, hn, ho, h9⟩
  refine ⟨u, rfl, fun b i w => ∃ k : Nat, i = k ∧ k ≤ gs.length ∧ (b = true ↔ gGroup R id ∈ gs.take k) ∧ Sep (World.env W) (rowA u 1 (intL o) :: Lst l R1 :: [old W.heap]) w, fun _ i _ => (gs.length - i).toNat, ⟨0, rfl, Nat.zero_le _, by simp, h9⟩, ?_⟩
  rintro _ ib i w10 ⟨k, rfl, hk, hib, h10⟩
  have hI2 : Ints (World.env W) (rowA u 1 (intL o) :: Lst l R1 :: [old W.heap]) gr gs := hI.cons.cons
  refine bLt (fun hlt => ?_) (fun hge => ?_)
  · have hx : gs[k]? = some (gs[k]'(by omega)) := List.getElem?_eq_getElem (by omega)
    generalize gs[k]'(by omega) = x at hx
    have ht : gs.take (k + 1) = gs.take k ++ [x] := by rw [List.take_add_one, hx]; rfl
    rw [w64 (n := (k : Int) + 1) (by omega) (by omega)]
    refine bifI (fun hb => ⟨⟨k + 1, by omega, by omega, ?_, h10⟩, by dsimp only; omega⟩) (fun hb => hI2.el h10 k rfl hx ⟨⟨k + 1, by omega, by omega, ?_, h10⟩, by dsimp only; omega⟩)
    · rw [ht]; simp [hib.1 hb]
    · have : ¬ gGroup R id ∈ gs.take k := fun h => by rw [hib.2 h] at hb; cases hb
      rw [ht]; simp [this]
      exact eq_comm
  · have hkl : k = gs.length := by omega
    subst hkl
    rw [List.take_length] at hib
    refine use (c_Drop G1 id (h10.fr 1 rfl)) ?_
    obtain ⟨d1, d2, d3⟩ := gDrop_facts G1 id
    have G2 := G1.drop id
    rintro _ w11 ⟨rfl, h11⟩
    have hef : e = (gDrop R1 id).2 := by rw [f5, d1, f6]
    generalize (gDrop R1 id).2 = f at d1 hef
    refine ⟨_, rfl, fun z w => z = (if f = 0 ∧ gGroup R id ∈ gs then 1 else 0) ∧ Sep (World.env W) (Lst l (gDrop R1 id).1 :: rowA u 1 (intL o) :: [old W.heap]) w, ?_, ?_⟩
    · refine bEq (fun h0 => bifI (fun hb => ⟨?_, h11⟩) (fun hb => ⟨?_, h11⟩)) (fun h0 => ⟨?_, h11⟩)
      · rw [if_pos ⟨h0, hib.1 hb⟩]
      · rw [if_neg (fun h => by rw [hib.2 h.2] at hb; cases hb)]
      · rw [if_neg (fun h => h0 h.1)]
    rintro _ z w12 ⟨rfl, h12⟩
    refine bifT (bEq (fun _ => use (c_Group id h12) ?_) (fun hne => absurd hef hne))
    rintro _ w13 ⟨rfl, h13⟩
    refine ⟨_, rfl, bEq (fun _ => use (c_Oldness id h13) ?_) (fun hne => absurd (gGroup_none d2) hne)⟩
    rintro _ w14 ⟨rfl, h14⟩
    refine ⟨_, rfl, bEq (fun _ => use (c_Order G2 hI.cons (by omega) h14) ?_) (fun hne => absurd (gAge_none d2) hne)⟩
    rintro _ w15 ⟨u2, o2, rfl, hn2, ho2, h15⟩
    refine ⟨u2, rfl, ?_, _, 3, rfl, h15⟩
    rw [d3] at ho2
    have hless := ho.less G1 ho2
    have hcnt := filter_ne_len (l := o) (id := id) ho.nodup
    rw [← hless] at hcnt
    have hin : id ∈ o ↔ (f = 0 ∧ gGroup R id ∈ gs) := by
      rw [ho.mem, d1, ← f4]
      cases hf : fnd R1 id with
      | none => simp
      | some x => rw [gGroup_some hf]; simp
    have hz : (u2.n : Int) = (u.n : Int) - (if f = 0 ∧ gGroup R id ∈ gs then 1 else 0) := by
      rw [hn, hn2]
      by_cases hi : id ∈ o
      · rw [if_pos hi] at hcnt; rw [if_pos (hin.1 hi)]; omega
      · rw [if_neg hi] at hcnt; rw [if_neg (fun h => hi (hin.2 h))]; omega
    have hol : o.length ≤ R1.length := by rw [ho.len G1]; exact List.length_filter_le _ _
    have hsz : u.n < 4611686018427387904 := by
      have := rowA.length (h9)
      have hRR : R1.length ≤ 16777217 := by
        have := ids_le 16777217 (R1.map (fun e => e.id)) (by rw [List.nodup_iff_pairwise_ne, List.pairwise_map]; exact G1.rise.imp (fun h => by omega)) (fun x hx => by
          obtain ⟨e, he, rfl⟩ := List.mem_map.1 hx
          have := (G1.ok e he).1; omega)
        rwa [List.length_map] at this
      omega
    rw [w64 (by split <;> omega) (by split <;> omega), ← hz]; simp

end Go.Mp
