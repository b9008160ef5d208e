/- slices.SortStableFunc at ints: the blocks. -/
import Derived.Test.YtkheedbjhboclaaSortX
set_option maxRecDepth 100000
namespace Go.Mp
open Go Go.Vc Go.Sp Go.Stab

section
variable {E : Env} {L : List Asn} {w : World} {s : Sl} {cmp : Value} {lt : Int → Int → Bool} {R b : Int → Int → Prop}

/-- All of one is ahead of all of the other. -/
def Crs (b : Int → Int → Prop) (X Y : List Int) : Prop := ∀ x ∈ X, ∀ y ∈ Y, b x y

theorem Crs.merge {Ps Qs : List (List Int)} {X Y Z : List Int} (h : (Ps ++ X :: Y :: Qs).Pairwise (Crs b)) (hZ : Z.Perm (X ++ Y)) : (Ps ++ Z :: Qs).Pairwise (Crs b) := by
  have hm : ∀ z, z ∈ Z → z ∈ X ∨ z ∈ Y := fun z hz => List.mem_append.1 (hZ.mem_iff.1 hz)
  rw [List.pairwise_append, List.pairwise_cons, List.pairwise_cons] at h
  rw [List.pairwise_append, List.pairwise_cons]
  obtain ⟨h1, ⟨h2, h3, h4⟩, h5⟩ := h
  refine ⟨h1, ⟨fun Q hQ z hz y hy => ?_, h4⟩, fun P' hP Q hQ => ?_⟩
  · rcases hm z hz with hz | hz
    · exact h2 Q (by simp [hQ]) z hz y hy
    · exact h3 Q hQ z hz y hy
  · rcases List.mem_cons.1 hQ with rfl | hQ
    · intro x hx z hz
      rcases hm z hz with hz | hz
      · exact h5 P' hP X (by simp) x hx z hz
      · exact h5 P' hP Y (by simp) x hx z hz
    · exact h5 P' hP Q (by simp [hQ])
theorem Crs.perm {Ps Qs : List (List Int)} {X Z : List Int} (h : (Ps ++ X :: Qs).Pairwise (Crs b)) (hZ : Z.Perm X) : (Ps ++ Z :: Qs).Pairwise (Crs b) := by
  have hm : ∀ z, z ∈ Z → z ∈ X := fun z hz => hZ.mem_iff.1 hz
  rw [List.pairwise_append, List.pairwise_cons] at h ⊢
  obtain ⟨h1, ⟨h2, h3⟩, h4⟩ := h
  refine ⟨h1, ⟨fun Q hQ z hz y hy => h2 Q hQ z (hm z hz) y hy, h3⟩, fun P' hP Q hQ => ?_⟩
  rcases List.mem_cons.1 hQ with rfl | hQ
  · intro x hx z hz; exact h4 P' hP X (by simp) x hx z (hm z hz)
  · exact h4 P' hP Q (by simp [hQ])
theorem Crs.split {Ps : List (List Int)} {M1 M2 : List Int} (h : (Ps ++ [M1 ++ M2]).Pairwise (Crs b)) (hM : (M1 ++ M2).Pairwise b) : (Ps ++ [M1, M2]).Pairwise (Crs b) := by
  rw [List.pairwise_append] at h hM ⊢
  obtain ⟨h1, _, h3⟩ := h
  refine ⟨h1, by simpa [Crs] using hM.2.2, fun P' hP Q hQ x hx y hy => ?_⟩
  have := h3 P' hP (M1 ++ M2) (by simp) x hx y
  simp only [List.mem_cons, List.not_mem_nil, or_false] at hQ
  rcases hQ with rfl | rfl
  · exact this (by simp [hy])
  · exact this (by simp [hy])

def Blks (R : Int → Int → Prop) (bs : Nat) (Fs : List (List Int)) : Prop := ∀ F ∈ Fs, F.length = bs ∧ F.Pairwise R

theorem Blks.length {bs : Nat} : ∀ {Fs : List (List Int)}, Blks R bs Fs → Fs.flatten.length = bs * Fs.length
  | [], _ => by simp
  | F :: Fs, h => by
    have h1 := (h F (by simp)).1
    have h2 : Fs.flatten.length = bs * Fs.length := Blks.length (fun G hG => h G (by simp [hG]))
    rw [List.flatten_cons, List.length_append, h1, h2, List.length_cons, Nat.mul_add, Nat.mul_one, Nat.add_comm]
theorem Blks.snoc {bs : Nat} {Fs : List (List Int)} {F : List Int} (h : Blks R bs Fs) (h1 : F.length = bs) (h2 : F.Pairwise R) : Blks R bs (Fs ++ [F]) := by
  intro G hG
  rcases List.mem_append.1 hG with hG | hG
  · exact h G hG
  · rw [List.mem_singleton.1 hG]; exact ⟨h1, h2⟩

theorem c_stable {l : List Int} (K : Asked R b lt) (hM : l.Pairwise b) (hn : s.n = l.length) (hbig : l.length < 288230376151711744) (hc : Cmps E L s cmp lt l.length) (h : Sep E (rowA s 1 (intL l) :: L) w) :
    Calls P fn_slices_stableCmpFunc_int #[.slice s.p s.n s.c, .int .i64 (s.n : Nat), cmp] w (Ret fun v w' => v = .tuple #[] ∧ ∃ l', l'.Perm l ∧ l'.Pairwise R ∧ Sep E (rowA s 1 (intL l') :: L) w') := by
  apply of_slices_stableCmpFunc_int
  unfold sh_slices_stableCmpFunc_int
  rw [hn]
  refine ⟨fun a e w => ∃ Fs M, a = (20 * Fs.length : Nat) ∧ e = (20 * Fs.length + 20 : Nat) ∧ Blks R 20 Fs ∧ M.Pairwise b ∧ (Fs ++ [M]).Pairwise (Crs b) ∧ (Fs.flatten ++ M).Perm l ∧ Sep E (rowA s 1 (intL (Fs.flatten ++ M)) :: L) w, fun a _ _ => (l.length - a).toNat,
    ⟨[], l, rfl, rfl, fun F hF => (by cases hF), hM, by simp, by simp, by simpa using h⟩, ?_⟩
  rintro _ a e w1 ⟨Fs, M, rfl, rfl, hF, hMb, hX, hP, h1⟩
  have hlen := hP.length_eq
  have hFl := hF.length
  rw [List.length_append, hFl] at hlen
  refine bLe (fun hle => ?_) (fun hgt => ?_)
  · have e1 : Fs.flatten ++ M = Fs.flatten ++ M.take 20 ++ M.drop 20 := by rw [List.append_assoc, List.take_append_drop]
    have l1 : (M.take 20).length = 20 := by simp; omega
    have hMb' := hMb
    rw [← List.take_append_drop 20 M] at hMb' hX
    have hX' := Crs.split hX hMb'
    rw [List.pairwise_append] at hMb'
    have lf : (Fs.flatten ++ M.take 20 ++ M.drop 20).length = l.length := by rw [← e1]; exact hP.length_eq
    rw [e1] at h1
    rw [← hn]
    refine use (c_insertion K hMb'.1 (by rw [lf]; exact hn) (by omega) (by rw [lf]; exact hc) h1 (by rw [hFl]) (by rw [hFl, l1]; omega)) ?_
    rintro _ w2 ⟨rfl, M', hM', hMR, h2⟩
    rw [w64 (by omega) (by omega)]
    have l2 : M'.length = 20 := by rw [hM'.length_eq, l1]
    refine ⟨rfl, ⟨Fs ++ [M'], M.drop 20, by simp; omega, by simp; omega, hF.snoc l2 hMR, hMb'.2.1, ?_, ?_, ?_⟩, by dsimp only; omega⟩
    · have := Crs.perm (Ps := Fs) (Qs := [M.drop 20]) hX' hM'
      simpa using this
    · refine List.Perm.trans ?_ hP
      rw [e1]
      simp only [List.flatten_append, List.flatten_cons, List.flatten_nil, List.append_nil]
      exact (hM'.append_left _).append_right _
    · simpa using h2
  · have e1 : Fs.flatten ++ M = Fs.flatten ++ M ++ [] := by simp
    rw [e1] at h1
    rw [← hn]
    refine use (c_insertion K hMb (by rw [← e1, hP.length_eq]; exact hn) (by rw [← e1, hP.length_eq]; omega) (by rw [← e1, hP.length_eq]; exact hc) h1 (by rw [hFl]) (by rw [hFl]; omega)) ?_
    rintro _ w2 ⟨rfl, T, hT, hTR, h2⟩
    rw [List.append_nil] at h2
    have lT := hT.length_eq
    refine ⟨rfl, fun z w => ∃ (bs : Nat) (Fs : List (List Int)) (T : List Int), z = bs ∧ 20 ≤ bs ∧ Blks R bs Fs ∧ T.length < bs ∧ T.Pairwise R ∧ (Fs ++ [T]).Pairwise (Crs b) ∧ (Fs.flatten ++ T).Perm l ∧ Sep E (rowA s 1 (intL (Fs.flatten ++ T)) :: L) w, fun z _ => (l.length - z).toNat,
      ⟨20, Fs, T, rfl, Nat.le_refl _, hF, by omega, hTR, Crs.perm hX hT, (hT.append_left _).trans hP, h2⟩, ?_⟩
    rintro _ z w3 ⟨bs, Fs, T, rfl, hbs, hF, hTl, hTR, hX, hP, h3⟩
    have hlen := hP.length_eq
    have hFl := hF.length
    rw [List.length_append, hFl] at hlen
    refine bLt (fun hlt => ?_) (fun hge => ⟨rfl, _, hP, ?_, h3⟩)
    · have hlt' : bs < l.length := by omega
      rw [w64 (n := 2 * (bs : Int)) (by omega) (by omega)]
      refine ⟨fun a e w => ∃ Gs Fs T, a = (2 * bs * Gs.length : Nat) ∧ e = (2 * bs * Gs.length + 2 * bs : Nat) ∧ Blks R (2 * bs) Gs ∧ Blks R bs Fs ∧ T.length < bs ∧ T.Pairwise R ∧ (Gs ++ (Fs ++ [T])).Pairwise (Crs b) ∧
          (Gs.flatten ++ (Fs.flatten ++ T)).Perm l ∧ Sep E (rowA s 1 (intL (Gs.flatten ++ (Fs.flatten ++ T))) :: L) w, fun a _ _ => (l.length - a).toNat,
        ⟨[], Fs, T, by simp, by simp, fun F hF => (by cases hF), hF, hTl, hTR, by simpa using hX, by simpa using hP, by simpa using h3⟩, ?_⟩
      rintro _ a e w4 ⟨Gs, Fs, T, rfl, rfl, hG, hF, hTl, hTR, hX, hP, h4⟩
      have hlen := hP.length_eq
      have hGl := hG.length
      have hFl := hF.length
      rw [List.length_append, List.length_append, hFl, hGl] at hlen
      have hmul : bs * Fs.length ≤ l.length := by omega
      have hmul2 : 2 * bs * Gs.length ≤ l.length := by omega
      rw [w64 (n := ((2 * bs * Gs.length : Nat) : Int) + bs) (by omega) (by omega)]
      refine bLe (fun hle => ?_) (fun hgt => ?_)
      · obtain ⟨F1, F2, Fs', rfl⟩ : ∃ F1 F2 Fs', Fs = F1 :: F2 :: Fs' := by
          match Fs, hlen with
          | [], hl => simp at hl; omega
          | [F], hl => simp at hl; omega
          | F1 :: F2 :: Fs', _ => exact ⟨F1, F2, Fs', rfl⟩
        have f1 := hF F1 (by simp)
        have f2 := hF F2 (by simp)
        have hX0 := hX
        rw [List.pairwise_append] at hX0
        have hcr : Crs b F1 F2 := (List.pairwise_cons.1 hX0.2.1).1 F2 (by simp)
        have e1 : Gs.flatten ++ ((F1 :: F2 :: Fs').flatten ++ T) = Gs.flatten ++ F1 ++ F2 ++ (Fs'.flatten ++ T) := by simp
        have lf : (Gs.flatten ++ F1 ++ F2 ++ (Fs'.flatten ++ T)).length = l.length := by rw [← e1]; exact hP.length_eq
        rw [e1] at h4
        rw [← hn]
        refine use (c_symMerge K (by omega) hn hc _ (Nat.le_refl _) (by omega) (by omega) f1.2 f2.2 hcr lf h4 (by rw [hGl]) (by rw [hGl, f1.1]) (by rw [hGl, f1.1, f2.1]; omega)) ?_
        rintro _ w5 ⟨rfl, Z, hZ, hZR, h5⟩
        have lz : Z.length = 2 * bs := by rw [hZ.length_eq, List.length_append, f1.1, f2.1]; omega
        rw [w64 (by omega) (by omega)]
        refine ⟨rfl, ⟨Gs ++ [Z], Fs', T, ?_, ?_, hG.snoc lz hZR, fun F hF' => hF F (by simp [hF']), hTl, hTR, ?_, ?_, ?_⟩, ?_⟩
        · rw [List.length_append, List.length_singleton, Nat.mul_add, Nat.mul_one]
        · rw [List.length_append, List.length_singleton, Nat.mul_add, Nat.mul_one]; omega
        · have := Crs.merge (Ps := Gs) (Qs := Fs' ++ [T]) (by simpa using hX) hZ
          simpa using this
        · refine List.Perm.trans ?_ hP
          rw [e1]
          simp only [List.flatten_append, List.flatten_cons, List.flatten_nil, List.append_nil]
          have : Gs.flatten ++ F1 ++ F2 ++ (Fs'.flatten ++ T) = Gs.flatten ++ (F1 ++ F2) ++ (Fs'.flatten ++ T) := by simp
          rw [this]
          exact (hZ.append_left _).append_right _
        · simpa using h5
        · dsimp only; omega
      · have fin : ∀ {T' : List Int} {w' : World}, T'.length < 2 * bs → T'.Pairwise R → T'.Perm (Fs.flatten ++ T) → (Gs ++ [T']).Pairwise (Crs b) → Sep E (rowA s 1 (intL (Gs.flatten ++ T')) :: L) w' →
            ((∃ (bs' : Nat) (Fs : List (List Int)) (T : List Int), IntKind.i64.wrap ((bs : Int) * 2) = bs' ∧ 20 ≤ bs' ∧ Blks R bs' Fs ∧ T.length < bs' ∧ T.Pairwise R ∧ (Fs ++ [T]).Pairwise (Crs b) ∧ (Fs.flatten ++ T).Perm l ∧ Sep E (rowA s 1 (intL (Fs.flatten ++ T)) :: L) w') ∧
              (l.length - IntKind.i64.wrap ((bs : Int) * 2)).toNat < (l.length - (bs : Int)).toNat) := by
          intro T' w' h1 h2 h3 h4 h5
          rw [w64 (by omega) (by omega)]
          exact ⟨⟨2 * bs, Gs, T', by omega, by omega, hG, h1, h2, h4, (h3.append_left _).trans hP, h5⟩, by omega⟩
        rcases Fs with _ | ⟨F, _ | ⟨F2, Fs'⟩⟩
        · refine bLt (fun hc' => ?_) (fun _ => ?_)
          · exfalso; simp at hlen; omega
          · exact fin (T' := T) (by omega) hTR (by simp) (by simpa using hX) (by simpa using h4)
        · have f1 := hF F (by simp)
          simp only [List.length_singleton, Nat.mul_one] at hlen
          refine bLt (fun hc' => ?_) (fun hc' => ?_)
          · have hX0 := hX
            rw [List.pairwise_append] at hX0
            have hcr : Crs b F T := (List.pairwise_cons.1 hX0.2.1).1 T (by simp)
            have e1 : Gs.flatten ++ ([F].flatten ++ T) = Gs.flatten ++ F ++ T ++ [] := by simp
            have lf : (Gs.flatten ++ F ++ T ++ []).length = l.length := by rw [← e1]; exact hP.length_eq
            rw [e1] at h4
            rw [← hn]
            refine use (c_symMerge K (by omega) hn hc _ (Nat.le_refl _) (by omega) (by omega) f1.2 hTR hcr lf h4 (by rw [hGl]) (by rw [hGl, f1.1]) (by rw [hGl, f1.1]; omega)) ?_
            rintro _ w5 ⟨rfl, Z, hZ, hZR, h5⟩
            refine ⟨rfl, ?_⟩
            rw [hn]
            refine fin (T' := Z) (by rw [hZ.length_eq, List.length_append, f1.1]; omega) hZR (by simpa using hZ) ?_ (by simpa using h5)
            exact Crs.merge (Ps := Gs) (Qs := []) (by simpa using hX) hZ
          · have hT0 : T = [] := by
              have : T.length = 0 := by omega
              exact List.length_eq_zero_iff.1 this
            subst hT0
            refine fin (T' := F) (by omega) f1.2 (by simp) ?_ (by simpa using h4)
            have : (Gs ++ F :: [] :: []).Pairwise (Crs b) := by simpa using hX
            exact Crs.merge (Ps := Gs) (Qs := []) this (by simp)
        · exfalso
          simp only [List.length_cons, Nat.mul_add, Nat.mul_one] at hlen
          omega
    · have hge' : l.length ≤ bs := by omega
      match Fs, hF, hFl, hlen, hX with
      | [], _, _, _, _ => simpa using hTR
      | [F], hF, _, hlen, _ =>
        have f1 := hF F (by simp)
        have hT0 : T = [] := by
          have : T.length = 0 := by simp at hlen; omega
          exact List.length_eq_zero_iff.1 this
        subst hT0
        simpa using f1.2
      | F1 :: F2 :: Fs', _, _, hlen, _ =>
        exfalso
        simp only [List.length_cons, Nat.mul_add, Nat.mul_one] at hlen
        omega

theorem c_SortStable {l : List Int} (K : Asked R b lt) (hM : l.Pairwise b) (hn : s.n = l.length) (hbig : l.length < 288230376151711744) (hc : Cmps E L s cmp lt l.length) (h : Sep E (rowA s 1 (intL l) :: L) w) :
    Calls P fn_slices_SortStableFunc_int_int #[.slice s.p s.n s.c, cmp] w (Ret fun v w' => v = .tuple #[] ∧ ∃ l', l'.Perm l ∧ l'.Pairwise R ∧ Sep E (rowA s 1 (intL l') :: L) w') := by
  apply of_slices_SortStableFunc_int_int
  unfold sh_slices_SortStableFunc_int_int
  refine use (c_stable K hM hn hbig hc h) ?_
  rintro _ w1 ⟨rfl, h1⟩
  exact ⟨rfl, rfl, h1⟩

end
end Go.Mp
