/- Gens do what the document says. -/
import Derived.Test.YtkheedbjhboclaaGnT
set_option maxRecDepth 100000
namespace Go.Mp
open Go Go.Vc Go.Sp Go.Stab

variable {E : Env} {L : List Asn} {w : World} {R : List Ent} {r : Nat}

theorem r_same (G : Good R) (a : Act) (h : Sep E (RL r R :: L) w) :
    Calls P fn_millpondlaw12_same #[.pointer (some ⟨r, 0, none⟩), .agg a.vs.toArray] w (Ret fun v w' => v = .int .i64 (gAct R a).2 ∧ Sep E (RL r (gAct R a).1 :: L) w') := by
  apply of_millpondlaw12_same
  unfold sh_millpondlaw12_same
  refine Al.i h (fun p w1 h1 => ?_)
  refine ld h1 0 rfl rfl rfl ⟨by decide, ?_⟩
  have h2 : Sep E (RL r R :: L) w1 := h1.tail
  unfold gAct
  refine bEq (fun e => ?_) (fun e => ?_)
  · rw [if_pos e]
    refine ld h1 0 rfl rfl rfl (use (r_Drop G _ h2) ?_)
    rintro _ w2 ⟨rfl, h3⟩
    exact ⟨_, rfl, rfl, h3⟩
  rw [if_neg e]
  refine bEq (fun e => ?_) (fun e => ?_)
  · rw [if_pos e]
    refine ld h1 0 rfl rfl rfl (use (r_Touch G _ h2) ?_)
    rintro _ w2 ⟨rfl, h3⟩
    exact ⟨_, rfl, rfl, h3⟩
  rw [if_neg e]
  refine bEq (fun e => ?_) (fun e => ?_)
  · rw [if_pos e]
    refine ld h1 0 rfl rfl rfl (use (r_Age G _ h2) ?_)
    rintro _ w2 ⟨rfl, h3⟩
    exact ⟨_, rfl, rfl, h3⟩
  rw [if_neg e]
  refine bEq (fun e => ?_) (fun e => ?_)
  · rw [if_pos e]
    refine ld h1 0 rfl rfl rfl (ld h1 0 rfl rfl rfl (use (r_Move G _ _ h2) ?_))
    rintro _ w2 ⟨rfl, h3⟩
    exact ⟨_, rfl, rfl, h3⟩
  · rw [if_neg e]
    refine ld h1 0 rfl rfl rfl (ld h1 0 rfl rfl rfl (ld h1 0 rfl rfl rfl (use (r_Add G _ _ _ h2) ?_)))
    rintro _ w2 ⟨rfl, h3⟩
    exact ⟨_, rfl, rfl, h3⟩

theorem law_GensDoes {W : World} (s : Sl) (id : Int) (gr : Sl) (gs : List Int) (hl : ActsAt W s.p s.n) (hgs : IntsO W gr gs) :
    Calls P fn_millpondlaw12_GensDoes #[.slice s.p s.n s.c, .int .i64 id, .slice gr.p gr.n gr.c] W (Ret (Yes W)) := by
  apply of_millpondlaw12_GensDoes
  unfold sh_millpondlaw12_GensDoes
  refine use (c_works (Sep.start W)) ?_
  rintro _ w1 ⟨rfl, h1⟩
  have ok : ∀ {w : World}, Sep (World.env W) [old W.heap] w → Yes W (.bool true) w := fun h => ⟨rfl, _, 0, rfl, h⟩
  refine ⟨_, rfl, bifF ⟨fun w => (s.n ≤ 80 ∧ gr.n ≤ 80) ∧ Sep (World.env W) [old W.heap] w, ?_, ?_⟩⟩
  · exact bGt (fun _ => ok h1) (fun a1 => bGt (fun _ => ok h1) (fun a2 => ⟨⟨by omega, by omega⟩, h1⟩))
  rintro _ w2 ⟨⟨h80, hg80⟩, h2⟩
  have hgn := hgs.1
  have hI : Ints (World.env W) [old W.heap] gr gs := hgs.ints (i := 0) rfl
  refine use (c_New h2) ?_
  rintro _ w3 ⟨l, rfl, h3⟩
  refine ⟨_, rfl, Al.i h3 (fun r w4 h4 => ?_)⟩
  have h4 : Sep (World.env W) (RL r [] :: Lst l [] :: [old W.heap]) w4 := RL.shut (s := ⟨none, 0, 0⟩) rfl (rowA.none_ (m := 3) h4).swap
  refine ⟨fun i w => (0 ≤ i ∧ i ≤ s.n) ∧ ∃ R, Good R ∧ (R.length : Int) ≤ i ∧ Sep (World.env W) (RL r R :: Lst l R :: [old W.heap]) w, fun i _ => (s.n - i).toNat, ⟨⟨by omega, by omega⟩, _, Good.nil, Int.le_refl _, h4⟩, ?_⟩
  rintro _ i w5 ⟨⟨hi0, hi1⟩, R, G, hR, h5⟩
  refine bLt (fun hlt => Dr.i h5 (fun w6 h6 => ?_)) (fun hge => ?_)
  · obtain ⟨a, x, hp, hx⟩ := hl i.toNat (by omega)
    have here : ∀ {f : Addr → Prop}, f (a.add (i.toNat * 4)) → elAt s.p s.n i 4 f := fun h => ⟨a, hp, ⟨hi0, hlt⟩, h⟩
    refine here (ldO h6 2 rfl (hx 0 _ rfl) (ldO h6 2 rfl (hx 1 _ rfl) (ldO h6 2 rfl (hx 2 _ rfl) (ldO h6 2 rfl (hx 3 _ rfl) (here (ldO h6 2 rfl (hx 0 _ rfl) (ldO h6 2 rfl (hx 1 _ rfl) (ldO h6 2 rfl (hx 2 _ rfl) (ldO h6 2 rfl (hx 3 _ rfl) ?_)))))))))
    refine use (c_do G (by omega) x (h6.fr 1 rfl)) ?_
    rintro _ w7 ⟨rfl, h7⟩
    have h7 : Sep (World.env W) (RL r R :: Lst l (gAct R x).1 :: [old W.heap]) w7 := h7.swap
    refine ⟨_, rfl, ldO h7 2 rfl (hx 0 _ rfl) (ldO h7 2 rfl (hx 1 _ rfl) (ldO h7 2 rfl (hx 2 _ rfl) (ldO h7 2 rfl (hx 3 _ rfl) ⟨rfl, use (r_same G x h7) ?_⟩)))⟩
    rintro _ w8 ⟨rfl, h8⟩
    have hR' := gAct_length R x
    rw [w64 (by omega) (by omega)]
    exact ⟨_, rfl, bNe (fun e => absurd rfl e) (fun _ => ⟨⟨⟨by omega, by omega⟩, _, G.act x, by omega, h8⟩, by dsimp only; omega⟩)⟩
  · refine use (r_Get G id h5) ?_
    rintro _ w6 ⟨rfl, h6⟩
    refine ⟨_, _, rfl, fun i w => ∃ k : Nat, i = k ∧ k ≤ gs.length ∧ Sep (World.env W) (RL r R :: Lst l R :: [old W.heap]) w, fun i _ => (gs.length - i).toNat, ⟨0, rfl, Nat.zero_le _, h6⟩, ?_⟩
    rintro _ j w7 ⟨k, rfl, hk, h7⟩
    refine bLt (fun hlt2 => Dr.i h7 (fun w8 h8 => ?_)) (fun hge2 => bifT ?_)
    · have hx : gs[k]? = some (gs[k]'(by omega)) := List.getElem?_eq_getElem (by omega)
      generalize gs[k]'(by omega) = x at hx
      obtain ⟨ga, hga, hgc⟩ := hgs.2 k x hx
      have hgc' : W.cell? (ga.add ((k : Int).toNat * 1)) = some (.int .i64 x) := by
        have : (k : Int).toNat * 1 = k := by omega
        rw [this]; exact hgc
      have here : ∀ {f : Addr → Prop}, f (ga.add ((k : Int).toNat * 1)) → elAt gr.p gr.n (k : Int) 1 f := fun h => ⟨ga, hga, ⟨by omega, by omega⟩, h⟩
      refine here (ldO h8 2 rfl hgc' (here (ldO h8 2 rfl hgc' (use (c_Count G x (by omega) (h8.fr 1 rfl)) ?_))))
      rintro _ w9 ⟨rfl, h9⟩
      refine ⟨_, rfl, ldO h9 2 rfl hgc' ⟨rfl, use (r_Count G x h9.swap) ?_⟩⟩
      rintro _ w10 ⟨rfl, h10⟩
      rw [w64 (by omega) (by omega)]
      exact ⟨_, rfl, bNe (fun e => absurd rfl e) (fun _ => ⟨⟨k + 1, by omega, by omega, h10⟩, by dsimp only; omega⟩)⟩
    · refine use (c_Order G hI.cons (by omega) (h7.fr 1 rfl)) ?_
      rintro _ w8 ⟨u, o, rfl, hn, ho, h8⟩
      have h8 : Sep (World.env W) (RL r R :: rowA u 1 (intL o) :: Lst l R :: [old W.heap]) w8 := h8.ro 4 [2, 0, 1, 3] rfl
      refine ⟨u, rfl, use (r_Order G hI.cons.cons (by omega) (by omega) h8) ?_⟩
      rintro _ w9 ⟨u2, o2, rfl, hn2, ho2, h9⟩
      have he := ho.eq ho2
      subst he
      have hol : o.length ≤ R.length := by rw [ho.len G]; exact List.length_filter_le _ _
      refine ⟨u2, rfl, use (c_row (i := 2) (j := 0) h9 rfl rfl hn hn2 (by omega)) ?_⟩
      rintro _ w10 ⟨rfl, h10⟩
      rw [decide_eq_true (rfl : o = o)]
      refine ⟨_, rfl, bifT (use (c_Group id (h10.fr 3 rfl)) ?_)⟩
      rintro _ w11 ⟨rfl, h11⟩
      refine ⟨_, rfl, bEq (fun _ => use (c_Oldness id h11) ?_) (fun e => absurd rfl e)⟩
      rintro _ w12 ⟨rfl, h12⟩
      exact ⟨_, rfl, by simp, _, 4, rfl, h12⟩

end Go.Mp
