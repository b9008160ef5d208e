/- slices.SortStableFunc at ints: a permutation, in order. -/
import Derived.Test.YtkheedbjhboclaaGn0
import Derived.Test.YtkheedbjhboclaaGn1
import Derived.Test.YtkheedbjhboclaaWalk
import Derived.Test.YtkheedbjhboclaaStab
set_option maxRecDepth 100000
namespace Go.Mp
open Go Go.Vc Go.Sp Go.Stab

section
variable {E : Env} {L : List Asn} {w : World} {s : Sl} {l : List Int}

theorem callD.use {Q : Program} {g : Value} {args : Array Value} {w : World} {R R' : Ending → World → Prop} (h : callD Q g args w R) (k : ∀ e w', R e w' → R' e w') : callD Q g args w R' := by
  obtain ⟨f, ca, h1, h2, h3⟩ := h
  exact ⟨f, ca, h1, h2, h3.mono k⟩

/-- An element is read. -/
theorem elL {F : Int → Prop} {i x : Int} (k : Nat) (h : Sep E (rowA s 1 (intL l) :: L) w) (hn : s.n = l.length) (hi : i = k) (hx : l[k]? = some x) (f : F x) : elAt s.p s.n i 1 fun a => ∃ v : Int, w.cell? a = some (.int .i64 v) ∧ F v := by
  have hlt := (List.getElem?_eq_some_iff.1 hx).1
  refine elI 0 h rfl hn (by omega) (by omega) (fun a ha => ⟨_, ha, ?_⟩)
  have e : i.toNat = k := by omega
  rw [e, List.getD, hx]; exact f
/-- An element is written. -/
theorem elS {f : World → Prop} {i x : Int} (k : Nat) (h : Sep E (rowA s 1 (intL l) :: L) w) (hn : s.n = l.length) (hi : i = k) (hk : k < l.length) (g : ∀ w1, Sep E (rowA s 1 (intL (l.set k x)) :: L) w1 → f w1) :
    elAt s.p s.n i 1 fun a => St a (.int .i64 x) f w := by
  refine rowA.el 0 h rfl (by omega) (by omega) (fun b hb _ => ?_)
  have e : i.toNat * 1 = k := by omega
  rw [e]
  refine rowA.st h hb (by simpa using hk) (fun w1 h1 => g w1 ?_)
  have : intL (l.set k x) = (intL l).set k (.int .i64 x) := by simp [intL, List.map_set]
  rw [this]; exact h1

/-- What a comparison answers. -/
def Cmps (E : Env) (L : List Asn) (s : Sl) (cmp : Value) (lt : Int → Int → Bool) (n : Nat) : Prop :=
  ∀ (l : List Int) (x y : Int) (w : World), l.length = n → Sep E (rowA s 1 (intL l) :: L) w → callD P cmp #[.int .i64 x, .int .i64 y] w fun e w' => ∃ r : Int, e = .returned (.int .i64 r) ∧ decide (r < 0) = lt x y ∧ Sep E (rowA s 1 (intL l) :: L) w'

variable {cmp : Value} {lt : Int → Int → Bool} {n : Nat}

theorem Cmps.i (hc : Cmps E L s cmp lt n) (hl : l.length = n) (h : Sep E (rowA s 1 (intL l) :: L) w) {x y : Int} {A B : World → Prop} (k1 : lt x y = true → ∀ w', Sep E (rowA s 1 (intL l) :: L) w' → A w') (k2 : lt x y = false → ∀ w', Sep E (rowA s 1 (intL l) :: L) w' → B w') :
    callD P cmp #[.int .i64 x, .int .i64 y] w fun e w' => ∃ r : Int, e = .returned (.int .i64 r) ∧ bif decide (r < 0) then A w' else B w' := by
  refine callD.use (hc l x y w hl h) ?_
  rintro e w' ⟨r, rfl, hr, h'⟩
  refine ⟨r, rfl, ?_⟩
  rw [hr]
  cases hb : lt x y with
  | true => exact k1 hb w' h'
  | false => exact k2 hb w' h'
theorem Cmps.j (hc : Cmps E L s cmp lt n) (hl : l.length = n) (h : Sep E (rowA s 1 (intL l) :: L) w) {x y : Int} {A B : World → Prop} (k1 : lt x y = true → ∀ w', Sep E (rowA s 1 (intL l) :: L) w' → A w') (k2 : lt x y = false → ∀ w', Sep E (rowA s 1 (intL l) :: L) w' → B w') :
    callD P cmp #[.int .i64 x, .int .i64 y] w fun e w' => ∃ r : Int, e = .returned (.int .i64 r) ∧ bif (!(decide (r < 0))) then B w' else A w' := by
  refine callD.use (hc l x y w hl h) ?_
  rintro e w' ⟨r, rfl, hr, h'⟩
  refine ⟨r, rfl, ?_⟩
  rw [hr]
  cases hb : lt x y with
  | true => exact k1 hb w' h'
  | false => exact k2 hb w' h'

/-- What comes first is first, whichever way it is asked. -/
structure Asked (R b : Int → Int → Prop) (lt : Int → Int → Bool) : Prop where
  ord : Ord R
  ne : ∀ x y, b x y → x ≠ y
  ask : ∀ x y, b x y → (lt y x = true ↔ R y x)

variable {R b : Int → Int → Prop}

theorem Asked.no (K : Asked R b lt) {x y : Int} (hb : b x y) (h : lt y x = false) : R x y :=
  K.ord.not (Ne.symm (K.ne x y hb)) (fun hr => by rw [(K.ask x y hb).2 hr] at h; cases h)

theorem half {i j : Int} (h1 : 0 ≤ i + j) (h2 : i + j ≤ 4611686018427387904) : IntKind.i64.wrap ((IntKind.u64.wrap (IntKind.i64.wrap (i + j))).fdiv (2 ^ (min (1 : Int).toNat 64))) = (i + j) / 2 := by
  have e1 : IntKind.i64.wrap (i + j) = i + j := w64 (by omega) (by omega)
  have e2 : IntKind.u64.wrap (i + j) = i + j := by
    unfold IntKind.wrap
    simp only [IntKind.signed, IntKind.bits, Bool.false_and]
    rw [if_neg (by simp)]; omega
  have e3 : (i + j).fdiv (2 ^ (min (1 : Int).toNat 64)) = (i + j) / 2 := by
    show (i + j).fdiv 2 = _
    rw [Int.fdiv_eq_ediv_of_nonneg _ (by decide)]
  rw [e1, e2, e3, w64 (by omega) (by omega)]

theorem getA {A B : List Int} {k : Nat} : (A ++ B)[A.length + k]? = B[k]? := by
  rw [List.getElem?_append_right (by omega)]; congr 1; omega

theorem getIns {A P B : List Int} {i k : Nat} {x : Int} (hi : i ≤ P.length) (hk : k ≤ P.length) : (A ++ ins P i x ++ B)[A.length + k]? = if k < i then P[k]? else if k = i then some x else P[k - 1]? := by
  have := ins_length P i x
  rw [List.append_assoc, getA, List.getElem?_append_left (by omega), ins_get P i x hi]

theorem c_insertion {A M B : List Int} (K : Asked R b lt) (hM : M.Pairwise b) (hn : s.n = (A ++ M ++ B).length) (hbig : (A ++ M ++ B).length < 4611686018427387904) (hc : Cmps E L s cmp lt (A ++ M ++ B).length)
    (h : Sep E (rowA s 1 (intL (A ++ M ++ B)) :: L) w) {a e : Int} (ha : a = A.length) (he : e = A.length + M.length) :
    Calls P fn_slices_insertionSortCmpFunc_int #[.slice s.p s.n s.c, .int .i64 a, .int .i64 e, cmp] w (Ret fun v w' => v = .tuple #[] ∧ ∃ M', M'.Perm M ∧ M'.Pairwise R ∧ Sep E (rowA s 1 (intL (A ++ M' ++ B)) :: L) w') := by
  subst ha he
  have hlen : (A ++ M ++ B).length = A.length + M.length + B.length := by simp; omega
  apply of_slices_insertionSortCmpFunc_int
  unfold sh_slices_insertionSortCmpFunc_int
  rw [hlen] at hn hbig hc
  refine ⟨fun i w => ∃ (k : Nat) (S : List Int), i = A.length + k ∧ 1 ≤ k ∧ (k ≤ M.length ∨ M = []) ∧ S.Perm (M.take k) ∧ S.Pairwise R ∧ Sep E (rowA s 1 (intL (A ++ S ++ (M.drop k ++ B))) :: L) w, fun i _ => (A.length + M.length - i).toNat, ?_, ?_⟩
  · rw [w64 (by omega) (by omega)]
    refine ⟨1, M.take 1, by omega, Nat.le_refl _, ?_, .refl _, ?_, ?_⟩
    · cases M with
      | nil => exact .inr rfl
      | cons x M => left; simp
    · cases M with
      | nil => simp
      | cons x M => simp
    · have : A ++ M.take 1 ++ (M.drop 1 ++ B) = A ++ M ++ B := by
        rw [← List.append_assoc, List.append_assoc A, List.take_append_drop]
      rw [this]; exact h
  rintro _ i w1 ⟨k, S, rfl, hk1, hk2, hS, hSR, h1⟩
  refine bLt (fun hlt => ?_) (fun hge => ⟨rfl, S, ?_, hSR, ?_⟩)
  · have hkM : k < M.length := by omega
    have hSl : S.length = k := by rw [hS.length_eq]; simp; omega
    have hx : M[k]? = some M[k] := List.getElem?_eq_getElem hkM
    generalize hxe : M[k] = x at hx
    have hdrop : M.drop k = x :: M.drop (k + 1) := by rw [← hxe]; exact List.drop_eq_getElem_cons hkM
    have hbx : ∀ y ∈ S, b y x := by
      intro y hy
      obtain ⟨j, hj, hjy⟩ := mem_take_get (hS.mem_iff.1 hy)
      exact pw_get hM hjy hx hj
    refine ⟨fun j w => ∃ m : Nat, j = A.length + m ∧ m ≤ k ∧ (k ≤ m ∨ ∃ y, S[m]? = some y ∧ R x y) ∧ Sep E (rowA s 1 (intL (A ++ ins S m x ++ (M.drop (k + 1) ++ B))) :: L) w, fun j _ => (j - A.length).toNat, ?_, ?_⟩
    · refine ⟨k, rfl, Nat.le_refl _, .inl (Nat.le_refl _), ?_⟩
      have e : A ++ ins S k x ++ (M.drop (k + 1) ++ B) = A ++ S ++ (M.drop k ++ B) := by
        rw [← hSl, ins_end, hSl, hdrop]; simp
      rw [e]; exact h1
    rintro _ j w2 ⟨m, rfl, hmk, hm2, h2⟩
    have hll : (A ++ ins S m x ++ (M.drop (k + 1) ++ B)).length = A.length + M.length + B.length := by
      have := ins_length S m x
      simp only [List.length_append, this, List.length_drop]; omega
    have out : ∀ {w3 : World}, (m = 0 ∨ ∃ y, S[m - 1]? = some y ∧ R y x) → Sep E (rowA s 1 (intL (A ++ ins S m x ++ (M.drop (k + 1) ++ B))) :: L) w3 →
        ((∃ (k' : Nat) (S : List Int), (IntKind.i64.wrap (A.length + k + 1)) = A.length + k' ∧ 1 ≤ k' ∧ (k' ≤ M.length ∨ M = []) ∧ S.Perm (M.take k') ∧ S.Pairwise R ∧ Sep E (rowA s 1 (intL (A ++ S ++ (M.drop k' ++ B))) :: L) w3) ∧
          (A.length + M.length - IntKind.i64.wrap (A.length + k + 1)).toNat < (A.length + M.length - (A.length + k : Int)).toNat) := by
      intro w3 hlast h3
      rw [w64 (by omega) (by omega)]
      refine ⟨⟨k + 1, ins S m x, by omega, by omega, .inl (by omega), ?_, ?_, h3⟩, by omega⟩
      · refine (ins_perm S m x).trans ?_
        rw [List.take_add_one, hx]
        exact (List.Perm.cons x hS).trans (List.perm_append_comm (l₁ := [x]))
      · exact ins_ok K.ord hSR hlast (by rw [hSl]; exact hm2)
    refine ⟨fun w => ∃ m' y, m = m' + 1 ∧ S[m']? = some y ∧ R x y ∧ Sep E (rowA s 1 (intL (A ++ ins S m x ++ (M.drop (k + 1) ++ B))) :: L) w, ?_, ?_⟩
    · refine Dr.i h2 (fun w3 h3 => bGt (fun hgt => ?_) (fun hle => ?_))
      · obtain ⟨m', rfl⟩ : ∃ m', m = m' + 1 := ⟨m - 1, by omega⟩
        have hy : S[m']? = some (S[m']'(by omega)) := List.getElem?_eq_getElem (by omega)
        generalize S[m']'(by omega) = y at hy
        have hyS : y ∈ S := List.mem_of_getElem? hy
        rw [w64 (by omega) (by omega)]
        refine elL (A.length + (m' + 1)) h3 (by rw [hn, hll]) (by omega) (by rw [getIns (by omega) (by omega), if_neg (by omega), if_pos rfl]) ?_
        refine elL (A.length + m') h3 (by rw [hn, hll]) (by omega) (by rw [getIns (by omega) (by omega), if_pos (by omega)]; exact hy) ?_
        refine hc.i hll h3 (fun ht w4 h4 => ⟨m', y, rfl, hy, (K.ask y x (hbx y hyS)).1 ht, h4⟩) (fun hf w4 h4 => out (.inr ⟨y, hy, K.no (hbx y hyS) hf⟩) h4)
      · exact out (.inl (by omega)) h3
    · rintro _ w3 ⟨m', y, rfl, hy, hr, h3⟩
      have hm' : m' < S.length := (List.getElem?_eq_some_iff.1 hy).1
      refine Dr.i h3 (fun w4 h4 => ?_)
      rw [w64 (n := A.length + ((m' + 1 : Nat) : Int) - 1) (by omega) (by omega)]
      refine elL (A.length + m') h4 (by rw [hn, hll]) (by omega) (by rw [getIns (by omega) (by omega), if_pos (by omega)]; exact hy) ?_
      refine elL (A.length + (m' + 1)) h4 (by rw [hn, hll]) (by omega) (by rw [getIns (by omega) (by omega), if_neg (by omega), if_pos rfl]) ?_
      refine elS (A.length + (m' + 1)) h4 (by rw [hn, hll]) (by omega) (by omega) (fun w5 h5 => ?_)
      refine elS (A.length + m') h5 (by rw [List.length_set, hn, hll]) (by omega) (by rw [List.length_set]; omega) (fun w6 h6 => ?_)
      rw [← Nat.add_assoc, ins_down hy] at h6
      exact ⟨⟨m', by omega, by omega, .inr ⟨y, hy, hr⟩, h6⟩, by dsimp only; omega⟩
  · rcases hk2 with hk2 | hk2
    · have : k = M.length := by omega
      rw [this, List.take_length] at hS; exact hS
    · subst hk2; simpa using hS
  · have : M.drop k = [] := by
      rcases hk2 with hk2 | hk2
      · exact List.drop_of_length_le (by omega)
      · subst hk2; simp
    rw [this, List.nil_append] at h1; exact h1

theorem c_swapRange {A U M V B : List Int} (hUV : U.length = V.length) (hn : s.n = (A ++ U ++ M ++ V ++ B).length) (hbig : (A ++ U ++ M ++ V ++ B).length < 4611686018427387904)
    (h : Sep E (rowA s 1 (intL (A ++ U ++ M ++ V ++ B)) :: L) w) {a e n' : Int} (ha : a = A.length) (he : e = A.length + U.length + M.length) (hn' : n' = U.length) :
    Calls P fn_slices_swapRangeCmpFunc_int #[.slice s.p s.n s.c, .int .i64 a, .int .i64 e, .int .i64 n', cmp] w (Ret fun v w' => v = .tuple #[] ∧ Sep E (rowA s 1 (intL (A ++ V ++ M ++ U ++ B)) :: L) w') := by
  subst ha he hn'
  have hlen : (A ++ U ++ M ++ V ++ B).length = A.length + U.length + M.length + V.length + B.length := by simp only [List.length_append]
  apply of_slices_swapRangeCmpFunc_int
  unfold sh_slices_swapRangeCmpFunc_int
  refine ⟨fun i w => ∃ (k : Nat) (l' : List Int), i = k ∧ k ≤ U.length ∧ Swapped (A ++ U ++ M ++ V ++ B) l' A.length (A.length + U.length + M.length) k ∧ Sep E (rowA s 1 (intL l') :: L) w, fun i _ => (U.length - i).toNat, ⟨0, _, rfl, Nat.zero_le _, Swapped.zero _ _ _, h⟩, ?_⟩
  rintro _ i w1 ⟨k, l', rfl, hk, hs, h1⟩
  have hll : l'.length = s.n := by rw [hs.1, hn]
  refine bLt (fun hlt => Dr.i h1 (fun w2 h2 => ?_)) (fun hge => ⟨rfl, ?_⟩)
  · rw [w64 (n := (A.length : Int) + U.length + M.length + k) (by omega) (by omega), w64 (n := (A.length : Int) + k) (by omega) (by omega), w64 (n := (k : Int) + 1) (by omega) (by omega)]
    have hx : l'[A.length + U.length + M.length + k]? = some (l'[A.length + U.length + M.length + k]'(by omega)) := List.getElem?_eq_getElem (by omega)
    have hy : l'[A.length + k]? = some (l'[A.length + k]'(by omega)) := List.getElem?_eq_getElem (by omega)
    generalize l'[A.length + U.length + M.length + k]'(by omega) = x at hx
    generalize l'[A.length + k]'(by omega) = y at hy
    refine elL _ h2 hll.symm (by omega) hx (elL _ h2 hll.symm (by omega) hy ?_)
    refine elS (A.length + k) h2 hll.symm (by omega) (by omega) (fun w3 h3 => elS (A.length + U.length + M.length + k) h3 (by rw [List.length_set]; exact hll.symm) (by omega) (by rw [List.length_set]; omega) (fun w4 h4 => ?_))
    exact ⟨⟨k + 1, _, by omega, by omega, hs.step (n := U.length) (by omega) (by omega) hx hy, h4⟩, by dsimp only; omega⟩
  · have : k = U.length := by omega
    subst this
    rw [hs.eq hUV] at h1; exact h1

theorem c_rotate {A X Y B : List Int} (hX : 1 ≤ X.length) (hY : 1 ≤ Y.length) (hn : s.n = (A ++ X ++ Y ++ B).length) (hbig : (A ++ X ++ Y ++ B).length < 4611686018427387904)
    (h : Sep E (rowA s 1 (intL (A ++ X ++ Y ++ B)) :: L) w) {a m e : Int} (ha : a = A.length) (hm : m = A.length + X.length) (he : e = A.length + X.length + Y.length) :
    Calls P fn_slices_rotateCmpFunc_int #[.slice s.p s.n s.c, .int .i64 a, .int .i64 m, .int .i64 e, cmp] w (Ret fun v w' => v = .tuple #[] ∧ Sep E (rowA s 1 (intL (A ++ Y ++ X ++ B)) :: L) w') := by
  subst ha hm he
  have hlen : (A ++ X ++ Y ++ B).length = A.length + X.length + Y.length + B.length := by simp only [List.length_append]
  apply of_slices_rotateCmpFunc_int
  unfold sh_slices_rotateCmpFunc_int
  rw [w64 (n := (A.length : Int) + X.length - A.length) (by omega) (by omega), w64 (n := (A.length : Int) + X.length + Y.length - (A.length + X.length)) (by omega) (by omega)]
  refine ⟨fun i j w => ∃ A' X' Y' B' : List Int, i = X'.length ∧ j = Y'.length ∧ 1 ≤ X'.length ∧ 1 ≤ Y'.length ∧ A'.length + X'.length = A.length + X.length ∧ A' ++ Y' ++ X' ++ B' = A ++ Y ++ X ++ B ∧ Sep E (rowA s 1 (intL (A' ++ X' ++ Y' ++ B')) :: L) w,
    fun i j _ => (i + j).toNat, ⟨A, X, Y, B, by omega, by omega, hX, hY, rfl, rfl, h⟩, ?_⟩
  rintro _ i j w1 ⟨A', X', Y', B', rfl, rfl, hX', hY', hm', htar, h1⟩
  have hl0 : A'.length + Y'.length + X'.length + B'.length = A.length + X.length + Y.length + B.length := by
    have := congrArg List.length htar
    simp only [List.length_append] at this; omega
  have hn1 : s.n = A'.length + Y'.length + X'.length + B'.length := by omega
  rw [w64 (n := (A.length : Int) + X.length - X'.length) (by omega) (by omega)]
  refine bNe (fun hne => bGt (fun hgt => ?_) (fun hle => ?_)) (fun heq => ?_)
  · -- the left one is longer
    have e1 : A' ++ X' ++ Y' ++ B' = A' ++ X'.take Y'.length ++ X'.drop Y'.length ++ Y' ++ B' := by rw [List.append_assoc A' (X'.take _), List.take_append_drop]
    have l1 : (X'.take Y'.length).length = Y'.length := by simp; omega
    have l2 : (X'.drop Y'.length).length = X'.length - Y'.length := by simp
    rw [e1] at h1
    refine use (c_swapRange (cmp := cmp) l1 (by simp only [List.length_append, l1, l2]; omega) (by simp only [List.length_append, l1, l2]; omega) h1 (by omega) (by omega) (by omega)) ?_
    rintro _ w2 ⟨rfl, h2⟩
    rw [w64 (by omega) (by omega)]
    refine ⟨rfl, ⟨A' ++ Y', X'.drop Y'.length, X'.take Y'.length, B', by omega, by omega, by omega, by omega, by simp only [List.length_append]; omega, ?_, h2⟩, by dsimp only; omega⟩
    rw [← htar, List.append_assoc (A' ++ Y'), List.take_append_drop]
  · have e1 : A' ++ X' ++ Y' ++ B' = A' ++ X' ++ Y'.take (Y'.length - X'.length) ++ Y'.drop (Y'.length - X'.length) ++ B' := by rw [List.append_assoc (A' ++ X') (Y'.take _), List.take_append_drop]
    have l1 : (Y'.take (Y'.length - X'.length)).length = Y'.length - X'.length := by simp
    have l2 : (Y'.drop (Y'.length - X'.length)).length = X'.length := by simp; omega
    rw [e1] at h1
    rw [w64 (n := (A.length : Int) + X.length + Y'.length) (by omega) (by omega), w64 (n := (A.length : Int) + X.length + Y'.length - X'.length) (by omega) (by omega)]
    refine use (c_swapRange (cmp := cmp) l2.symm (by simp only [List.length_append, l1, l2]; omega) (by simp only [List.length_append, l1, l2]; omega) h1 (by omega) (by omega) (by omega)) ?_
    rintro _ w2 ⟨rfl, h2⟩
    rw [w64 (by omega) (by omega)]
    refine ⟨rfl, ⟨A', Y'.drop (Y'.length - X'.length), Y'.take (Y'.length - X'.length), X' ++ B', by omega, by omega, by omega, by omega, by omega, ?_, ?_⟩, by dsimp only; omega⟩
    · rw [← htar, List.append_assoc A' (Y'.take _), List.take_append_drop]; simp
    · have : A' ++ Y'.drop (Y'.length - X'.length) ++ Y'.take (Y'.length - X'.length) ++ X' ++ B' = A' ++ Y'.drop (Y'.length - X'.length) ++ Y'.take (Y'.length - X'.length) ++ (X' ++ B') := by simp
      rw [← this]; exact h2
  · have heq' : X'.length = Y'.length := by omega
    have e1 : A' ++ X' ++ Y' ++ B' = A' ++ X' ++ [] ++ Y' ++ B' := by simp
    rw [e1] at h1
    refine use (c_swapRange (cmp := cmp) heq' (by simp only [List.length_append, List.length_nil]; omega) (by simp only [List.length_append, List.length_nil]; omega) h1 (by omega) (by simp only [List.length_nil]; omega) (by omega)) ?_
    rintro _ w2 ⟨rfl, h2⟩
    refine ⟨rfl, rfl, ?_⟩
    rw [← htar]
    have : A' ++ Y' ++ [] ++ X' ++ B' = A' ++ Y' ++ X' ++ B' := by simp
    rw [this] at h2; exact h2

end
end Go.Mp
