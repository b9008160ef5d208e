/- What is referred to is not dropped. -/
import Derived.Test.YtbkmfficnnfljaaPgQ
set_option maxRecDepth 100000
namespace Go.Mp
open Go Go.Vc Go.Sp

theorem TS.refer_some {S : TS} {id n : Int} {p : Pg} (hp : S.pg id = some p) (h1 : -1000 ≤ n) (h2 : n ≤ 1000) (h3 : 0 ≤ p.refs ∧ p.refs ≤ 1000000) :
    S.refer id n = if p.refs + n < 0 then (S, 0, 1) else (S.setPg id { p with refs := p.refs + n }, p.refs + n, 0) := by
  unfold TS.refer
  rw [hp]
  simp only
  rw [w64 (n := p.refs + n) (by omega) (by omega)]
  by_cases h : p.refs + n < 0
  · rw [if_pos (.inr (.inr h)), if_pos h]
  · rw [if_neg (by omega), if_neg h]

theorem law_PagesRefs {W : World} (n less place : Int) :
    Calls P fn_millpondlaw14_PagesRefs #[.int .i64 n, .int .i64 less, .int .i64 place] W (Ret fun v w' => v = .bool true ∧ ∃ (L : List Asn) (i : Nat), L[i]? = some (old W.heap) ∧ Sep (World.env W) L w') := by
  apply of_millpondlaw14_PagesRefs
  unfold sh_millpondlaw14_PagesRefs
  refine use (c_works (Sep.start W)) ?_
  rintro _ w1 ⟨rfl, h1⟩
  have ok : ∀ {w : World}, Sep (World.env W) [old W.heap] w → (Value.bool true = .bool true ∧ ∃ (L : List Asn) (i : Nat), L[i]? = some (old W.heap) ∧ Sep (World.env W) L w) := fun h => ⟨rfl, _, 0, rfl, h⟩
  refine ⟨_, rfl, bifF ⟨fun w => (0 ≤ n ∧ n ≤ 1000 ∧ 0 ≤ less ∧ less ≤ 1000) ∧ Sep (World.env W) [old W.heap] w, ?_, ?_⟩⟩
  · exact bLt (fun _ => ok h1) (fun a1 => bGt (fun _ => ok h1) (fun a2 => bLt (fun _ => ok h1) (fun a3 => bGt (fun _ => ok h1) (fun a4 => ⟨⟨a1, a2, a3, a4⟩, h1⟩))))
  rintro _ w2 ⟨⟨hn0, hn1, hl0, hl1⟩, h2⟩
  refine use (c_New h2) ?_
  rintro _ w3 ⟨t, rfl, h3⟩
  refine ⟨_, rfl, use (c_Make (-1) 0 1 rfl h3) ?_⟩
  have em : TS.make TS.zero (-1) 0 1 = (TS.zero.new_ (-1) 0 1, 0, 0) := rfl
  rw [em]
  rintro _ w4 ⟨rfl, h4⟩
  refine ⟨_, _, rfl, ?_⟩
  have hp1 : (TS.zero.new_ (-1) 0 1).pg 0 = some ⟨-1, 0, 0, 0, 1, 0, 0, false, false⟩ := rfl
  have hs1 : (TS.zero.new_ (-1) 0 1).spots = fun _ => none := rfl
  dsimp only at h4
  generalize TS.zero.new_ (-1) 0 1 = S1 at h4 hp1 hs1
  refine use (c_Refer 0 n h4) ?_
  rw [TS.refer_some hp1 (by omega) (by omega) ⟨by decide, by decide⟩, if_neg (by show ¬ (0 : Int) + n < 0; omega)]
  rintro _ w5 ⟨rfl, h5⟩
  dsimp only at h5 ⊢
  rw [Int.zero_add] at h5 ⊢
  refine ⟨_, _, rfl, ?_⟩
  have hp2 : (S1.setPg 0 ⟨-1, 0, 0, 0, 1, n, 0, false, false⟩).pg 0 = some ⟨-1, 0, 0, 0, 1, n, 0, false, false⟩ := by simp [TS.setPg, upd]
  have hs2 : (S1.setPg 0 ⟨-1, 0, 0, 0, 1, n, 0, false, false⟩).spots = fun _ => none := hs1
  generalize S1.setPg 0 ⟨-1, 0, 0, 0, 1, n, 0, false, false⟩ = S2 at h5 hp2 hs2
  refine use (c_Put 0 place 0 h5) ?_
  have hput : ((S2.put 0 place 0).2 = 0 ↔ (0 ≤ place ∧ place ≤ 2)) ∧ ∃ pl, (S2.put 0 place 0).1.pg 0 = some ⟨-1, 0, pl, 0, 1, n, 0, false, false⟩ ∧ (pl ≠ 0 ↔ (S2.put 0 place 0).2 = 0 ∧ place ≠ 0) := by
    unfold TS.put
    rw [hp2]
    simp only
    by_cases hbad : place < 0 ∨ 2 < place ∨ (0 : Int) < 0 ∨ place = 0 ∧ (0 : Int) ≠ 0
    · rw [if_pos hbad]
      refine ⟨⟨fun h => absurd h (by simp), fun h => ?_⟩, 0, hp2, ⟨fun h => absurd rfl h, fun h => absurd h.1 (by simp)⟩⟩
      rcases hbad with h | h | h | h <;> omega
    · have hat : S2.at_ (place, 0) = -1 := by unfold TS.at_; rw [hs2]; rfl
      rw [if_neg hbad, hat, if_neg (by omega)]
      refine ⟨⟨fun _ => by omega, fun _ => rfl⟩, place, by simp [upd], ⟨fun h => ⟨rfl, h⟩, fun h => h.2⟩⟩
  obtain ⟨hput1, pl, hp3, hpl⟩ := hput
  generalize (S2.put 0 place 0).2 = g at hput1 hpl
  generalize (S2.put 0 place 0).1 = S3 at hp3
  rintro _ w6 ⟨rfl, h6⟩
  refine ⟨_, rfl, ?_⟩
  rw [w64 (n := 0 - less) (by omega) (by omega)]
  refine use (c_Refer 0 (0 - less) h6) ?_
  have hr := TS.refer_some (n := 0 - less) hp3 (by omega) (by omega) ⟨hn0, by show n ≤ 1000000; omega⟩
  simp only at hr
  have hx : ∃ S4 m hh, S3.refer 0 (0 - less) = (S4, m, hh) ∧ S4.pg 0 = some ⟨-1, 0, pl, 0, 1, if less ≤ n then n - less else n, 0, false, false⟩ ∧ (hh = 0 ↔ less ≤ n) ∧ (hh = 0 → m = n - less) := by
    rw [hr]
    by_cases hc : n + (0 - less) < 0
    · rw [if_pos hc]
      exact ⟨S3, 0, 1, rfl, by rw [hp3, if_neg (by omega)], ⟨fun h => absurd h (by decide), fun h => by omega⟩, fun h => absurd h (by decide)⟩
    · rw [if_neg hc]
      refine ⟨_, _, _, rfl, ?_, ⟨fun _ => by omega, fun _ => rfl⟩, fun _ => by omega⟩
      rw [if_pos (by omega), show n - less = n + (0 - less) by omega]
      simp [TS.setPg, upd]
  obtain ⟨S4, m, hh, e4, hp4, hh1, hh2⟩ := hx
  rw [e4]
  rintro _ w7 ⟨rfl, h7⟩
  refine ⟨_, _, rfl, fun w => Sep (World.env W) (Tab t S4 :: [old W.heap]) w, ?_, ?_⟩
  · refine bNe (fun e => absurd rfl e) (fun _ => bNe (fun e => absurd rfl e) (fun _ => bNe (fun e => absurd rfl e) (fun _ => bGe (fun hpz => bifI (fun hb => ?_) (fun _ => h7)) (fun hpz => bifI (fun hb => ?_) (fun _ => h7)))))
    · exfalso
      by_cases hp2' : place ≤ 2
      · have := hput1.2 ⟨hpz, hp2'⟩; simp [this, hp2'] at hb
      · have : g ≠ 0 := fun e => hp2' (hput1.1 e).2
        simp [this, hp2'] at hb
    · exfalso
      have : g ≠ 0 := fun e => by have := (hput1.1 e).1; omega
      simp [this] at hb
  rintro _ w8 h8
  refine ⟨fun lf w => lf = (if less ≤ n then n - less else n) ∧ Sep (World.env W) (Tab t S4 :: [old W.heap]) w, ?_, ?_⟩
  · refine bifI (fun h => ?_) (fun h => ?_)
    · have h' : less ≤ n := by simpa using h
      rw [w64 (by omega) (by omega), if_pos h']
      exact ⟨rfl, h8⟩
    · have h' : ¬ less ≤ n := by simpa using h
      rw [if_neg h']
      exact ⟨rfl, h8⟩
  rintro _ lf w9 ⟨hlf, h9⟩
  rw [← hlf] at hp4
  refine use (c_Drop 0 h9) ?_
  have hd : (S4.drop 0).2 = if 0 < lf ∨ pl ≠ 0 then 4 else 0 := by
    unfold TS.drop; rw [hp4]; simp only; split <;> rfl
  rintro _ w10 ⟨rfl, h10⟩
  refine ⟨_, rfl, fun b w => b = decide (0 < lf ∨ pl ≠ 0) ∧ Sep (World.env W) (Tab t (S4.drop 0).1 :: [old W.heap]) w, ?_, ?_⟩
  · refine bGt (fun h => ⟨?_, h10⟩) (fun h => bEq (fun hg => ⟨?_, h10⟩) (fun hg => ⟨?_, h10⟩))
    · exact (decide_eq_true (.inl h)).symm
    · by_cases hz : place = 0
      · have hpl0 : ¬ pl ≠ 0 := fun e => (hpl.1 e).2 hz
        rw [decide_eq_false (by omega)]; simp [hz]
      · have hpl0 : pl ≠ 0 := hpl.2 ⟨hg, hz⟩
        rw [decide_eq_true (.inr hpl0)]; simp [hz]
    · have hpl0 : ¬ pl ≠ 0 := fun e => hg (hpl.1 e).1
      exact (decide_eq_false (by omega)).symm
  rintro _ b w11 ⟨rfl, h11⟩
  have fin : ∀ {b : Bool}, b = true → (Value.bool b = .bool true ∧ ∃ (L : List Asn) (i : Nat), L[i]? = some (old W.heap) ∧ Sep (World.env W) L w11) := fun h => ⟨by rw [h], _, 1, rfl, h11⟩
  refine bifT (bifI (fun _ => ?_) (fun h => ?_))
  · rw [hd]
    have key : ((if 0 < lf ∨ pl ≠ 0 then (4 : Int) else 0) == 4) = decide (0 < lf ∨ pl ≠ 0) ∧ (!((if 0 < lf ∨ pl ≠ 0 then (4 : Int) else 0) == 0) == decide (0 < lf ∨ pl ≠ 0)) = true := by
      by_cases hc : 0 < lf ∨ pl ≠ 0
      · simp only [if_pos hc, decide_eq_true hc]; exact ⟨rfl, rfl⟩
      · simp only [if_neg hc, decide_eq_false hc]; exact ⟨rfl, rfl⟩
    have last : bif ((if 0 < lf ∨ pl ≠ 0 then (4 : Int) else 0) == 4) == decide (0 < lf ∨ pl ≠ 0) then (Value.bool (!(((if 0 < lf ∨ pl ≠ 0 then (4 : Int) else 0) == 0) == decide (0 < lf ∨ pl ≠ 0))) = .bool true ∧ ∃ (L : List Asn) (i : Nat), L[i]? = some (old W.heap) ∧ Sep (World.env W) L w11)
        else (Value.bool false = .bool true ∧ ∃ (L : List Asn) (i : Nat), L[i]? = some (old W.heap) ∧ Sep (World.env W) L w11) := by
      rw [key.1, beq_self_eq_true]
      refine bifT (fin ?_)
      by_cases hc : 0 < lf ∨ pl ≠ 0
      · simp only [if_pos hc, decide_eq_true hc]; rfl
      · simp only [if_neg hc, decide_eq_false hc]; rfl
    refine bNe (fun _ => last) (fun h0 => bEq (fun _ => last) (fun e => absurd ?_ e))
    rw [hlf, if_pos (hh1.1 h0)]; exact hh2 h0
  · exfalso
    by_cases hc : less ≤ n
    · have := hh1.2 hc; simp [this, hc] at h
    · have : hh ≠ 0 := fun e => hc (hh1.1 e)
      simp [this, hc] at h

end Go.Mp
