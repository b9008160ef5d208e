/- slices.SortStableFunc at ints: the merging. -/
import Derived.Test.YtkheedbjhboclaaSortW
set_option maxRecDepth 100000
namespace Go.Mp
open Go Go.Vc Go.Sp Go.Stab

section
variable {E : Env} {L : List Asn} {w : World} {s : Sl} {cmp : Value} {lt : Int → Int → Bool} {n : Nat} {R b : Int → Int → Prop}

theorem getX {A X Y B : List Int} {k : Nat} (hk : k < X.length) : (A ++ X ++ Y ++ B)[A.length + k]? = X[k]? := by
  rw [List.append_assoc, List.append_assoc, getA, List.getElem?_append_left hk]
theorem getY {A X Y B : List Int} {k : Nat} (hk : k < Y.length) : (A ++ X ++ Y ++ B)[A.length + X.length + k]? = Y[k]? := by
  have : A.length + X.length + k = (A ++ X).length + k := by simp
  rw [this, List.append_assoc, getA, List.getElem?_append_left hk]

theorem c_symMerge (K : Asked R b lt) (hbig : n < 1152921504606846976) (hn : s.n = n) (hc : Cmps E L s cmp lt n) : ∀ (N : Nat) {A X Y B : List Int} {w : World}, X.length + Y.length ≤ N → 1 ≤ X.length → 1 ≤ Y.length →
    X.Pairwise R → Y.Pairwise R → (∀ x ∈ X, ∀ y ∈ Y, b x y) → (A ++ X ++ Y ++ B).length = n → Sep E (rowA s 1 (intL (A ++ X ++ Y ++ B)) :: L) w → ∀ {a m e : Int}, a = A.length → m = A.length + X.length → e = A.length + X.length + Y.length →
    Calls P fn_slices_symMergeCmpFunc_int #[.slice s.p s.n s.c, .int .i64 a, .int .i64 m, .int .i64 e, cmp] w (Ret fun v w' => v = .tuple #[] ∧ ∃ Z, Z.Perm (X ++ Y) ∧ Z.Pairwise R ∧ Sep E (rowA s 1 (intL (A ++ Z ++ B)) :: L) w') := by
  intro N
  induction N with
  | zero => intro A X Y B w h1 h2; omega
  | succ N ih =>
  intro A X Y B w hN hX1 hY1 hX hY hb hll h a m e ha hm he
  subst ha hm he
  have hlen : (A ++ X ++ Y ++ B).length = A.length + X.length + Y.length + B.length := by simp only [List.length_append]
  rw [hlen] at hll
  have hl1 : s.n = (A ++ X ++ Y ++ B).length := by omega
  apply of_slices_symMergeCmpFunc_int
  unfold sh_slices_symMergeCmpFunc_int
  rw [w64 (n := (A.length : Int) + X.length - A.length) (by omega) (by omega), w64 (n := (A.length : Int) + X.length + Y.length - (A.length + X.length)) (by omega) (by omega)]
  refine bEq (fun h1 => ?_) (fun hne1 => bEq (fun h2 => ?_) (fun hne2 => ?_))
  · -- one on the left
    obtain ⟨x, rfl⟩ : ∃ x, X = [x] := by
      match X, hX1, h1 with
      | [x], _, _ => exact ⟨x, rfl⟩
      | _ :: _ :: _, _, h => simp at h; omega
    simp only [List.length_singleton] at *
    have hby : ∀ y ∈ Y, b x y := fun y hy => hb x (by simp) y hy
    refine ⟨fun i j w => ∃ p q : Nat, i = A.length + 1 + p ∧ j = A.length + 1 + q ∧ p ≤ q ∧ q ≤ Y.length ∧ (p = 0 ∨ ∃ y, Y[p - 1]? = some y ∧ R y x) ∧ (Y.length ≤ q ∨ ∃ y, Y[q]? = some y ∧ R x y) ∧ Sep E (rowA s 1 (intL (A ++ [x] ++ Y ++ B)) :: L) w,
      fun i j _ => (j - i).toNat, ⟨0, Y.length, by omega, by omega, by omega, by omega, .inl rfl, .inl (Nat.le_refl _), h⟩, ?_⟩
    rintro _ i j w1 ⟨p, q, rfl, rfl, hpq, hq, hp1, hq1, h1⟩
    refine bLt (fun hlt => ⟨by decide, Dr.i h1 (fun w2 h2 => ?_)⟩) (fun hge => ?_)
    · have hh : ((A.length : Int) + 1 + p + (A.length + 1 + q)) / 2 = ((A.length + 1 + (p + q) / 2 : Nat) : Int) := by omega
      rw [half (by omega) (by omega), hh]
      have hc' : (p + q) / 2 < Y.length := by omega
      have hy : Y[(p + q) / 2]? = some (Y[(p + q) / 2]'hc') := List.getElem?_eq_getElem hc'
      generalize Y[(p + q) / 2]'hc' = y at hy
      have hyY : y ∈ Y := List.mem_of_getElem? hy
      refine elL (A.length + 1 + (p + q) / 2) h2 hl1 rfl ((getY (A := A) (X := [x]) (B := B) hc').trans hy) (elL (A.length + 0) h2 hl1 (by omega) (by rw [getX (by simp)]; rfl) ?_)
      refine hc.i (by omega) h2 (fun ht w3 h3 => ?_) (fun hf w3 h3 => ?_)
      · rw [w64 (by omega) (by omega)]
        exact ⟨⟨(p + q) / 2 + 1, q, by omega, rfl, by omega, hq, .inr ⟨y, by simpa using hy, (K.ask x y (hby y hyY)).1 ht⟩, hq1, h3⟩, by dsimp only; omega⟩
      · exact ⟨⟨p, (p + q) / 2, rfl, by omega, by omega, by omega, hp1, .inr ⟨y, hy, K.no (hby y hyY) hf⟩, h3⟩, by dsimp only; omega⟩
    · have hpe : p = q := by omega
      subst hpe
      rw [w64 (n := (A.length : Int) + 1 + p - 1) (by omega) (by omega)]
      have e0 : A ++ [x] ++ Y ++ B = A ++ ins Y 0 x ++ B := by simp [ins]
      rw [e0] at h1
      refine ⟨fun k w => ∃ t : Nat, k = A.length + t ∧ t ≤ p ∧ Sep E (rowA s 1 (intL (A ++ ins Y t x ++ B)) :: L) w, fun k _ => (A.length + p - k).toNat, ⟨0, by omega, by omega, h1⟩, ?_⟩
      rintro _ k w2 ⟨t, rfl, ht, h2⟩
      have hl2 : s.n = (A ++ ins Y t x ++ B).length := by
        have := ins_length Y t x
        simp only [List.length_append, this]; omega
      refine bLt (fun hlt => Dr.i h2 (fun w3 h3 => ?_)) (fun hge => ?_)
      · rw [w64 (n := (A.length : Int) + t + 1) (by omega) (by omega)]
        have hy : Y[t]? = some (Y[t]'(by omega)) := List.getElem?_eq_getElem (by omega)
        generalize Y[t]'(by omega) = y at hy
        refine elL (A.length + (t + 1)) h3 hl2 (by omega) (by rw [getIns (by omega) (by omega), if_neg (by omega), if_neg (by omega)]; exact hy) ?_
        refine elL (A.length + t) h3 hl2 (by omega) (by rw [getIns (by omega) (by omega), if_neg (by omega), if_pos rfl]) ?_
        refine elS (A.length + t) h3 hl2 (by omega) (by omega) (fun w4 h4 => elS (A.length + t + 1) h4 (by rw [List.length_set]; exact hl2) (by omega) (by rw [List.length_set]; omega) (fun w5 h5 => ?_))
        rw [ins_up hy] at h5
        exact ⟨⟨t + 1, by omega, by omega, h5⟩, by dsimp only; omega⟩
      · have : t = p := by omega
        subst this
        exact ⟨trivial, ins Y t x, ins_perm Y t x, ins_ok K.ord hY hp1 hq1, h2⟩
  · -- one on the right
    obtain ⟨y, rfl⟩ : ∃ y, Y = [y] := by
      match Y, hY1, h2 with
      | [y], _, _ => exact ⟨y, rfl⟩
      | _ :: _ :: _, _, h => simp at h; omega
    simp only [List.length_singleton] at *
    have hbx : ∀ x ∈ X, b x y := fun x hx => hb x hx y (by simp)
    refine ⟨fun i j w => ∃ p q : Nat, i = A.length + p ∧ j = A.length + q ∧ p ≤ q ∧ q ≤ X.length ∧ (p = 0 ∨ ∃ x, X[p - 1]? = some x ∧ R x y) ∧ (X.length ≤ q ∨ ∃ x, X[q]? = some x ∧ R y x) ∧ Sep E (rowA s 1 (intL (A ++ X ++ [y] ++ B)) :: L) w,
      fun i j _ => (j - i).toNat, ⟨0, X.length, by omega, by omega, by omega, by omega, .inl rfl, .inl (Nat.le_refl _), h⟩, ?_⟩
    rintro _ i j w1 ⟨p, q, rfl, rfl, hpq, hq, hp1, hq1, h1⟩
    refine bLt (fun hlt => ⟨by decide, Dr.i h1 (fun w2 h2 => ?_)⟩) (fun hge => ?_)
    · have hh : ((A.length : Int) + p + (A.length + q)) / 2 = ((A.length + (p + q) / 2 : Nat) : Int) := by omega
      rw [half (by omega) (by omega), hh]
      have hc' : (p + q) / 2 < X.length := by omega
      have hx : X[(p + q) / 2]? = some (X[(p + q) / 2]'hc') := List.getElem?_eq_getElem hc'
      generalize X[(p + q) / 2]'hc' = x at hx
      have hxX : x ∈ X := List.mem_of_getElem? hx
      refine elL (A.length + X.length + 0) h2 hl1 (by omega) (by rw [getY (by simp)]; rfl) (elL (A.length + (p + q) / 2) h2 hl1 rfl (by rw [getX hc']; exact hx) ?_)
      refine hc.j (by omega) h2 (fun ht w3 h3 => ?_) (fun hf w3 h3 => ?_)
      · exact ⟨⟨p, (p + q) / 2, rfl, by omega, by omega, by omega, hp1, .inr ⟨x, hx, (K.ask x y (hbx x hxX)).1 ht⟩, h3⟩, by dsimp only; omega⟩
      · rw [w64 (by omega) (by omega)]
        exact ⟨⟨(p + q) / 2 + 1, q, by omega, rfl, by omega, hq, .inr ⟨x, by simpa using hx, K.no (hbx x hxX) hf⟩, hq1, h3⟩, by dsimp only; omega⟩
    · have hpe : p = q := by omega
      subst hpe
      have e0 : A ++ X ++ [y] ++ B = A ++ ins X X.length y ++ B := by rw [ins_end]; simp
      rw [e0] at h1
      refine ⟨fun k w => ∃ t : Nat, k = A.length + t ∧ p ≤ t ∧ t ≤ X.length ∧ Sep E (rowA s 1 (intL (A ++ ins X t y ++ B)) :: L) w, fun k _ => (k - A.length).toNat, ⟨X.length, rfl, by omega, by omega, h1⟩, ?_⟩
      rintro _ k w2 ⟨t, rfl, ht, htX, h2⟩
      have hl2 : s.n = (A ++ ins X t y ++ B).length := by
        have := ins_length X t y
        simp only [List.length_append, this]; omega
      refine bGt (fun hlt => Dr.i h2 (fun w3 h3 => ?_)) (fun hge => ?_)
      · obtain ⟨t', rfl⟩ : ∃ t', t = t' + 1 := ⟨t - 1, by omega⟩
        rw [w64 (n := (A.length : Int) + ((t' + 1 : Nat) : Int) - 1) (by omega) (by omega)]
        have hx : X[t']? = some (X[t']'(by omega)) := List.getElem?_eq_getElem (by omega)
        generalize X[t']'(by omega) = x at hx
        refine elL (A.length + t') h3 hl2 (by omega) (by rw [getIns (by omega) (by omega), if_pos (by omega)]; exact hx) ?_
        refine elL (A.length + (t' + 1)) h3 hl2 (by omega) (by rw [getIns (by omega) (by omega), if_neg (by omega), if_pos rfl]) ?_
        refine elS (A.length + t' + 1) h3 hl2 (by omega) (by omega) (fun w4 h4 => elS (A.length + t') h4 (by rw [List.length_set]; exact hl2) (by omega) (by rw [List.length_set]; omega) (fun w5 h5 => ?_))
        rw [ins_down hx] at h5
        exact ⟨⟨t', by omega, by omega, by omega, h5⟩, by dsimp only; omega⟩
      · have : t = p := by omega
        subst this
        exact ⟨trivial, ins X t y, (ins_perm X t y).trans (List.perm_append_comm (l₁ := [y]) (l₂ := X)), ins_ok K.ord hX hp1 hq1, h2⟩
  · -- more than one on both
    refine ⟨by decide, ?_⟩
    obtain ⟨d, hd⟩ : ∃ d, d = (X.length + Y.length) / 2 := ⟨_, rfl⟩
    have hmid : ((A.length : Int) + (A.length + X.length + Y.length)) / 2 = ((A.length + d : Nat) : Int) := by omega
    rw [half (by omega) (by omega), hmid]
    rw [w64 (n := ((A.length + d : Nat) : Int) + (A.length + X.length)) (by omega) (by omega)]
    rw [w64 (n := ((A.length + d : Nat) : Int) + (A.length + X.length) - (A.length + X.length + Y.length)) (by omega) (by omega)]
    rw [w64 (n := ((A.length + d : Nat) : Int) + (A.length + X.length) - 1) (by omega) (by omega)]
    obtain ⟨lo, hlo⟩ : ∃ lo, lo = if X.length > d then d - Y.length else 0 := ⟨_, rfl⟩
    obtain ⟨hi, hhi⟩ : ∃ hi, hi = if X.length > d then d else X.length := ⟨_, rfl⟩
    have hlohi : lo ≤ hi ∧ hi ≤ d ∧ hi ≤ X.length ∧ d ≤ lo + Y.length := by
      rw [hlo, hhi]; split <;> omega
    refine ⟨fun i j w => i = A.length + lo ∧ j = A.length + hi ∧ Sep E (rowA s 1 (intL (A ++ X ++ Y ++ B)) :: L) w, ?_, ?_⟩
    · refine bGt (fun hgt => ?_) (fun hle => ?_)
      · refine ⟨?_, ?_, h⟩
        · rw [hlo, if_pos (by omega)]; omega
        · rw [hhi, if_pos (by omega)]; omega
      · refine ⟨?_, ?_, h⟩
        · rw [hlo, if_neg (by omega)]; omega
        · rw [hhi, if_neg (by omega)]
    rintro _ i0 j0 w1 ⟨rfl, rfl, h1⟩
    refine ⟨fun i j w => ∃ p q : Nat, i = A.length + p ∧ j = A.length + q ∧ lo ≤ p ∧ p ≤ q ∧ q ≤ hi ∧ (p = lo ∨ ∃ x y, X[p - 1]? = some x ∧ Y[d - p]? = some y ∧ R x y) ∧ (q = hi ∨ ∃ x y, Y[d - q - 1]? = some y ∧ X[q]? = some x ∧ R y x) ∧
        Sep E (rowA s 1 (intL (A ++ X ++ Y ++ B)) :: L) w, fun i j _ => (j - i).toNat, ⟨lo, hi, rfl, rfl, Nat.le_refl _, hlohi.1, Nat.le_refl _, .inl rfl, .inl rfl, h1⟩, ?_⟩
    rintro _ i j w2 ⟨p, q, rfl, rfl, hp0, hpq, hqh, hp1, hq1, h2⟩
    refine bLt (fun hlt => ⟨by decide, Dr.i h2 (fun w3 h3 => ?_)⟩) (fun hge => ?_)
    · have hh : ((A.length : Int) + p + (A.length + q)) / 2 = ((A.length + (p + q) / 2 : Nat) : Int) := by omega
      rw [half (by omega) (by omega), hh]
      rw [w64 (n := ((A.length + d : Nat) : Int) + (A.length + X.length) - 1 - ((A.length + (p + q) / 2 : Nat) : Int)) (by omega) (by omega)]
      obtain ⟨c, hcc⟩ : ∃ c, c = (p + q) / 2 := ⟨_, rfl⟩
      rw [← hcc]
      have hcX : c < X.length := by omega
      have hcY : d - 1 - c < Y.length := by omega
      have hx : X[c]? = some (X[c]'hcX) := List.getElem?_eq_getElem hcX
      have hy : Y[d - 1 - c]? = some (Y[d - 1 - c]'hcY) := List.getElem?_eq_getElem hcY
      generalize X[c]'hcX = x at hx
      generalize Y[d - 1 - c]'hcY = y at hy
      have hbxy := hb x (List.mem_of_getElem? hx) y (List.mem_of_getElem? hy)
      refine elL (A.length + X.length + (d - 1 - c)) h3 hl1 (by omega) (by rw [getY hcY]; exact hy) (elL (A.length + c) h3 hl1 (by omega) (by rw [getX hcX]; exact hx) ?_)
      refine hc.j (by omega) h3 (fun ht w4 h4 => ?_) (fun hf w4 h4 => ?_)
      · refine ⟨⟨p, c, rfl, by omega, hp0, by omega, by omega, hp1, .inr ⟨x, y, ?_, hx, (K.ask x y hbxy).1 ht⟩, h4⟩, by dsimp only; omega⟩
        rw [show d - c - 1 = d - 1 - c by omega]; exact hy
      · rw [w64 (by omega) (by omega)]
        refine ⟨⟨c + 1, q, by omega, rfl, by omega, by omega, hqh, .inr ⟨x, y, by simpa using hx, ?_, K.no hbxy hf⟩, hq1, h4⟩, by dsimp only; omega⟩
        rw [show d - (c + 1) = d - 1 - c by omega]; exact hy
    · have hpe : p = q := by omega
      subst hpe
      obtain ⟨t, ht⟩ : ∃ t, t = d - p := ⟨_, rfl⟩
      have hcut := cut_ok K.ord (X := X) (Y := Y) (i := p) (j := t) hX hY (by
        rcases hp1 with e | ⟨x, y, e1, e2, e3⟩
        · by_cases hg : X.length > d
          · rw [if_pos hg] at hlo; right; left; omega
          · rw [if_neg hg] at hlo; left; omega
        · exact .inr (.inr ⟨x, y, e1, by rw [ht]; exact e2, e3⟩)) (by
        rcases hq1 with e | ⟨x, y, e1, e2, e3⟩
        · by_cases hg : X.length > d
          · rw [if_pos hg] at hhi; left; omega
          · rw [if_neg hg] at hhi; right; left; omega
        · exact .inr (.inr ⟨x, y, by rw [ht]; exact e1, e2, e3⟩))
      have ltp : (X.take p).length = p := by simp; omega
      have ltt : (Y.take t).length = t := by simp; omega
      have ldp : (X.drop p).length = X.length - p := by simp
      have ldt : (Y.drop t).length = Y.length - t := by simp
      have hend : IntKind.i64.wrap (((A.length + d : Nat) : Int) + (A.length + X.length) - (A.length + p)) = ((A.length + X.length + t : Nat) : Int) := by
        rw [w64 (by omega) (by omega)]; omega
      rw [hend]
      refine ⟨fun w => Sep E (rowA s 1 (intL (A ++ (X.take p ++ Y.take t) ++ (X.drop p ++ Y.drop t) ++ B)) :: L) w, ?_, ?_⟩
      · refine ⟨fun c w => c = decide (p < X.length ∧ 0 < t) ∧ Sep E (rowA s 1 (intL (A ++ X ++ Y ++ B)) :: L) w, ?_, ?_⟩
        · refine bLt (fun g => ⟨?_, h2⟩) (fun g => ⟨?_, h2⟩)
          · have : (decide ((A.length : Int) + X.length < ((A.length + X.length + t : Nat) : Int))) = decide (0 < t) := by
              by_cases h0 : 0 < t
              · rw [decide_eq_true h0, decide_eq_true (by omega)]
              · rw [decide_eq_false h0, decide_eq_false (by omega)]
            rw [this]
            by_cases h0 : 0 < t
            · rw [decide_eq_true h0, decide_eq_true ⟨by omega, h0⟩]
            · rw [decide_eq_false h0, decide_eq_false (fun hh => h0 hh.2)]
          · exact (decide_eq_false (fun hh => by omega)).symm
        rintro _ c w3 ⟨rfl, h3⟩
        refine bifI (fun g => ?_) (fun g => ?_)
        · have g := of_decide_eq_true g
          have e1 : A ++ X ++ Y ++ B = (A ++ X.take p) ++ X.drop p ++ Y.take t ++ (Y.drop t ++ B) := by
            simp only [List.append_assoc]
            rw [← List.append_assoc (Y.take t), List.take_append_drop, ← List.append_assoc (X.take p), List.take_append_drop]
          rw [e1] at h3
          refine use (c_rotate (cmp := cmp) (by omega) (by omega) (by rw [← e1]; exact hl1) (by rw [← e1]; omega) h3 (by simp only [List.length_append]; omega) (by simp only [List.length_append]; omega) (by simp only [List.length_append]; omega)) ?_
          rintro _ w4 ⟨rfl, h4⟩
          refine ⟨rfl, ?_⟩
          have e2 : (A ++ X.take p) ++ Y.take t ++ X.drop p ++ (Y.drop t ++ B) = A ++ (X.take p ++ Y.take t) ++ (X.drop p ++ Y.drop t) ++ B := by simp
          rw [← e2]; exact h4
        · have g := of_decide_eq_false g
          have e2 : A ++ (X.take p ++ Y.take t) ++ (X.drop p ++ Y.drop t) ++ B = A ++ X ++ Y ++ B := by
            by_cases h0 : p < X.length
            · have : t = 0 := by omega
              subst this
              simp only [List.take_zero, List.append_nil, List.drop_zero, List.append_assoc]
              rw [← List.append_assoc (X.take p), List.take_append_drop]
            · have e3 : X.drop p = [] := List.drop_of_length_le (by omega)
              have e4 : X.take p = X := List.take_of_length_le (by omega)
              rw [e3, e4, List.nil_append]
              simp only [List.append_assoc]
              rw [← List.append_assoc (Y.take t), List.take_append_drop]
          rw [e2]; exact h3
      rintro _ w3 h3
      have hXt : (X.take p).Pairwise R := hX.sublist (List.take_sublist _ _)
      have hXd : (X.drop p).Pairwise R := hX.sublist (List.drop_sublist _ _)
      have hYt : (Y.take t).Pairwise R := hY.sublist (List.take_sublist _ _)
      have hYd : (Y.drop t).Pairwise R := hY.sublist (List.drop_sublist _ _)
      refine ⟨fun w => ∃ Z1, Z1.Perm (X.take p ++ Y.take t) ∧ Z1.Pairwise R ∧ Sep E (rowA s 1 (intL (A ++ Z1 ++ (X.drop p ++ Y.drop t) ++ B)) :: L) w, ?_, ?_⟩
      · refine ⟨fun c w => c = decide (0 < p ∧ 0 < t) ∧ Sep E (rowA s 1 (intL (A ++ (X.take p ++ Y.take t) ++ (X.drop p ++ Y.drop t) ++ B)) :: L) w, ?_, ?_⟩
        · refine bLt (fun g => ⟨?_, h3⟩) (fun g => ⟨?_, h3⟩)
          · by_cases h0 : 0 < t
            · rw [decide_eq_true (by omega), decide_eq_true ⟨by omega, h0⟩]
            · rw [decide_eq_false (by omega), decide_eq_false (fun hh => h0 hh.2)]
          · exact (decide_eq_false (fun hh => by omega)).symm
        rintro _ c w4 ⟨rfl, h4⟩
        refine bifI (fun g => ?_) (fun g => ?_)
        · have g := of_decide_eq_true g
          have e1 : A ++ (X.take p ++ Y.take t) ++ (X.drop p ++ Y.drop t) ++ B = A ++ X.take p ++ Y.take t ++ ((X.drop p ++ Y.drop t) ++ B) := by simp
          rw [e1] at h4
          refine use (ih (by omega) (by omega) (by omega) hXt hYt (fun x hx y hy => hb x (List.mem_of_mem_take hx) y (List.mem_of_mem_take hy)) (by simp only [List.length_append]; omega) h4 rfl (by omega) (by omega)) ?_
          rintro _ w5 ⟨rfl, Z1, hZ1, hZ2, h5⟩
          refine ⟨rfl, Z1, hZ1, hZ2, ?_⟩
          rw [List.append_assoc (A ++ Z1)]; exact h5
        · have g := of_decide_eq_false g
          refine ⟨_, .refl _, ?_, h4⟩
          by_cases h0 : 0 < p
          · have : t = 0 := by omega
            subst this
            simpa using hXt
          · have : p = 0 := by omega
            subst this
            simpa using hYt
      rintro _ w4 ⟨Z1, hZ1, hZ1R, h4⟩
      have lz1 : Z1.length = d := by rw [hZ1.length_eq, List.length_append, ltp, ltt]; omega
      refine ⟨fun c w => c = decide (p < X.length ∧ t < Y.length) ∧ Sep E (rowA s 1 (intL (A ++ Z1 ++ (X.drop p ++ Y.drop t) ++ B)) :: L) w, ?_, ?_⟩
      · refine bLt (fun g => ⟨?_, h4⟩) (fun g => ⟨?_, h4⟩)
        · by_cases h0 : t < Y.length
          · rw [decide_eq_true (by omega), decide_eq_true ⟨by omega, h0⟩]
          · rw [decide_eq_false (by omega), decide_eq_false (fun hh => h0 hh.2)]
        · exact (decide_eq_false (fun hh => by omega)).symm
      rintro _ c w5 ⟨rfl, h5⟩
      refine bifI (fun g => ?_) (fun g => ?_)
      · have g := of_decide_eq_true g
        have e1 : A ++ Z1 ++ (X.drop p ++ Y.drop t) ++ B = (A ++ Z1) ++ X.drop p ++ Y.drop t ++ B := by simp
        rw [e1] at h5
        refine use (ih (by omega) (by omega) (by omega) hXd hYd (fun x hx y hy => hb x (List.mem_of_mem_drop hx) y (List.mem_of_mem_drop hy)) (by simp only [List.length_append]; omega) h5 (by simp only [List.length_append]; omega) (by simp only [List.length_append]; omega) (by simp only [List.length_append]; omega)) ?_
        rintro _ w6 ⟨rfl, Z2, hZ2, hZ2R, h6⟩
        have := halves hZ1 hZ2 hZ1R hZ2R hcut
        refine ⟨rfl, rfl, Z1 ++ Z2, this.1, this.2, ?_⟩
        rw [← List.append_assoc A]; exact h6
      · have g := of_decide_eq_false g
        have hz2 : (X.drop p ++ Y.drop t).Pairwise R := by
          by_cases h0 : p < X.length
          · have : Y.drop t = [] := List.drop_of_length_le (by omega)
            rw [this, List.append_nil]; exact hXd
          · have : X.drop p = [] := List.drop_of_length_le (by omega)
            rw [this, List.nil_append]; exact hYd
        have := halves hZ1 (.refl _) hZ1R hz2 hcut
        refine ⟨rfl, Z1 ++ (X.drop p ++ Y.drop t), this.1, this.2, ?_⟩
        rw [← List.append_assoc A]; exact h5

end
end Go.Mp
