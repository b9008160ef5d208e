/- Families of pieces, each apart from the others. -/
import Derived.Test.YtkjihkmkchcmcaaGreatDoorMapP
namespace Go.Sp
open Go Go.Vc

def famA {ι : Type} (f : ι → Asn) : Asn :=
  ⟨fun h F => ∃ Fs : ι → Nat → Prop, (∀ i, (f i).holds h (Fs i)) ∧ (∀ i j b, i ≠ j → Fs i b → ¬ Fs j b) ∧ ∀ b, F b ↔ ∃ i, Fs i b,
   fun ⟨Fs, h1, h2, h3⟩ hl => ⟨Fs, fun i => (f i).loc (h1 i) (fun b hb => hl b ((h3 b).2 ⟨i, hb⟩)), h2, h3⟩⟩

section
variable {E : Env} {L : List Asn} {w : World} {ι : Type} [DecidableEq ι]

/-- A family, but for one place. -/
def setA (f : ι → Asn) (i : ι) (A : Asn) : ι → Asn := fun j => if j = i then A else f j

omit [DecidableEq ι] in
theorem famA.nil (h : Sep E L w) {f : ι → Asn} (hf : ∀ i, f i = emp) : Sep E (famA f :: L) w := by
  obtain ⟨he, h⟩ := h
  refine ⟨he, fun _ => False, ⟨fun _ _ => False, fun i => ?_, fun _ _ _ _ h => h.elim, fun b => ⟨fun h => h.elim, fun ⟨_, h⟩ => h.elim⟩⟩, fun _ h => h.elim, h.weaken (fun _ hb => hb.elim id id)⟩
  rw [hf]; exact fun _ h => h

theorem famA.out {f : ι → Asn} (h : Sep E (famA f :: L) w) (i : ι) : Sep E (f i :: famA (setA f i emp) :: L) w := by
  obtain ⟨he, F, ⟨Fs, h1, h2, h3⟩, h4, h5⟩ := h
  refine ⟨he, Fs i, h1 i, fun b hb => h4 b ((h3 b).2 ⟨i, hb⟩), fun b => ∃ j, j ≠ i ∧ Fs j b, ⟨fun j b => j ≠ i ∧ Fs j b, fun j => ?_, ?_, fun b => Iff.rfl⟩, ?_, ?_⟩
  · unfold setA
    split
    · next hh => subst hh; exact fun b hb => hb.1 rfl
    · next hh =>
      have e : (fun b => j ≠ i ∧ Fs j b) = Fs j := by funext b; simp [hh]
      show (f j).holds w.heap (fun b => j ≠ i ∧ Fs j b)
      rw [e]; exact h1 j
  · intro j k b hjk hb hb'; exact h2 j k b hjk hb.2 hb'.2
  · rintro b ⟨j, hj, hb⟩
    refine ⟨(h4 b ((h3 b).2 ⟨j, hb⟩)).1, ?_⟩
    rintro (hu | hu)
    · exact hu
    · exact h2 j i b hj hb hu
  · refine h5.weaken ?_
    rintro b ((hu | hu) | ⟨j, hj, hu⟩)
    · exact hu.elim
    · exact .inr ((h3 b).2 ⟨i, hu⟩)
    · exact .inr ((h3 b).2 ⟨j, hu⟩)

theorem famA.in_ {f : ι → Asn} {i : ι} {A : Asn} (h : Sep E (A :: famA f :: L) w) (hi : f i = emp) : Sep E (famA (setA f i A) :: L) w := by
  obtain ⟨he, F, h1, h2, G, ⟨Fs, g1, g2, g3⟩, h3, h4⟩ := h
  have hno : ∀ b, ¬ Fs i b := by
    have := g1 i
    rw [hi] at this; exact this
  refine ⟨he, fun b => F b ∨ G b, ⟨fun j b => if j = i then F b else Fs j b, fun j => ?_, ?_, fun b => ?_⟩, ?_, ?_⟩
  · unfold setA
    split
    · next hh => subst hh; simpa using h1
    · next hh => simpa [hh] using g1 j
  · intro j k b hjk hb hb'
    by_cases hj : j = i
    · by_cases hk : k = i
      · exact hjk (hj.trans hk.symm)
      · simp only [hj, if_true] at hb
        simp only [hk, if_false] at hb'
        exact (h3 b ((g3 b).2 ⟨k, hb'⟩)).2 (.inr hb)
    · simp only [hj, if_false] at hb
      by_cases hk : k = i
      · simp only [hk, if_true] at hb'
        exact (h3 b ((g3 b).2 ⟨j, hb⟩)).2 (.inr hb')
      · simp only [hk, if_false] at hb'
        exact g2 j k b hjk hb hb'
  · constructor
    · rintro (hb | hb)
      · exact ⟨i, by simpa using hb⟩
      · obtain ⟨j, hj⟩ := (g3 b).1 hb
        refine ⟨j, ?_⟩
        have : j ≠ i := by rintro rfl; exact hno b hj
        simpa [this] using hj
    · rintro ⟨j, hj⟩
      by_cases h : j = i
      · exact .inl (by simpa [h] using hj)
      · exact .inr ((g3 b).2 ⟨j, by simpa [h] using hj⟩)
  · rintro b (hb | hb)
    · exact h2 b hb
    · exact ⟨(h3 b hb).1, fun hu => hu⟩
  · refine h4.weaken ?_
    rintro b (hu | hu | hu)
    · exact hu.elim
    · exact .inl (.inr hu)
    · exact .inr hu

theorem setA_setA (f : ι → Asn) (i : ι) (A B : Asn) : setA (setA f i A) i B = setA f i B := by
  funext j; unfold setA; split <;> simp_all
theorem setA_self (f : ι → Asn) (i : ι) : setA f i (f i) = f := by
  funext j; unfold setA; split <;> simp_all
@[simp] theorem setA_at (f : ι → Asn) (i : ι) (A : Asn) : setA f i A i = A := by simp [setA]

/-- One of a family, changed. -/
theorem famA.back {f : ι → Asn} {i : ι} {A : Asn} (h : Sep E (A :: famA (setA f i emp) :: L) w) : Sep E (famA (setA f i A) :: L) w := by
  have := famA.in_ (i := i) h (by simp)
  rwa [setA_setA] at this

end
end Go.Sp
