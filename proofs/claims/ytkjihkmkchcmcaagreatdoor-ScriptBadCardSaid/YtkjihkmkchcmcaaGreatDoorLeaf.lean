/- Structs of structs, as an argument's cells: one plain cell behind the other. -/
import Derived.Test.YtkjihkmkchcmcaaGreatDoorLaw
namespace Go.Sp
open Go Go.Vc

def leafGo (P : Program) (rec_ : TypeId → Option (List TypeId)) : List Field → Nat → Option (List TypeId)
  | [], _ => some []
  | f :: fs, o => match Nat.beq f.offset o, rec_ f.type with
    | true, some l => match Nat.beq (P.cellsOf f.type) l.length with
      | true => match leafGo P rec_ fs (o + l.length) with
        | some r => some (l ++ r)
        | none => none
      | false => none
    | _, _ => none

/-- The types of its plain cells. -/
def leafQ (P : Program) : Nat → TypeId → Option (List TypeId)
  | 0, _ => none
  | d + 1, t => match P.underlying t with
    | some (.struct fs) => match leafGo P (leafQ P d) fs.toList 0 with
      | some l => match Nat.beq (P.cellsOf t) l.length with
        | true => some l
        | false => none
      | none => none
    | some (.int _) => some [t]
    | some .bool => some [t]
    | some .string => some [t]
    | some (.slice _) => some [t]
    | _ => none

section
variable {P : Program} {W : World}

def AllRd (P : Program) (W : World) : List TypeId → List Value → Prop
  | [], [] => True
  | t :: ts, v :: vs => Rd P W t [v] ∧ AllRd P W ts vs
  | _, _ => False

theorem AllRd.append : ∀ {ts us : List TypeId} {vs xs : List Value}, AllRd P W ts vs → AllRd P W us xs → AllRd P W (ts ++ us) (vs ++ xs)
  | [], _, [], _, _, h => h
  | _ :: _, _, _ :: _, _, ⟨h1, h2⟩, h => ⟨h1, h2.append h⟩
  | [], _, _ :: _, _, h, _ => h.elim
  | _ :: _, _, [], _, h, _ => h.elim

theorem Rd.leaves : ∀ (d : Nat) {t : TypeId} {ts : List TypeId} {cs : List Value}, leafQ P d t = some ts → Rd P W t cs → AllRd P W ts cs := by
  intro d
  induction d with
  | zero => intro t ts cs h; simp [leafQ] at h
  | succ d ih =>
    intro t ts cs h hr
    unfold leafQ at h
    cases hu : P.underlying t with
    | none => simp [hu] at h
    | some x =>
      cases x <;> simp only [hu] at h <;> try (simp at h; done)
      case bool =>
        simp only [Option.some.injEq] at h; subst h
        obtain ⟨b, rfl⟩ := hr.bool hu; exact ⟨hr, trivial⟩
      case int k =>
        simp only [Option.some.injEq] at h; subst h
        obtain ⟨b, rfl, _⟩ := hr.int hu; exact ⟨hr, trivial⟩
      case string =>
        simp only [Option.some.injEq] at h; subst h
        obtain ⟨b, rfl, _⟩ := hr.str hu; exact ⟨hr, trivial⟩
      case slice e =>
        simp only [Option.some.injEq] at h; subst h
        obtain ⟨p, n, c, rfl, _⟩ := hr.slice hu; exact ⟨hr, trivial⟩
      case struct fs =>
        cases hg : leafGo P (leafQ P d) fs.toList 0 with
        | none => simp [hg] at h
        | some l =>
          simp only [hg] at h
          split at h
          · next hsz =>
            simp only [Option.some.injEq] at h; subst h
            obtain ⟨hlen, hfs⟩ := hr.struct hu
            rw [Nat.eq_of_beq_eq_true hsz] at hlen
            have key : ∀ (fl : List Field) (o : Nat) (l : List TypeId), leafGo P (leafQ P d) fl o = some l → (∀ f ∈ fl, Rd P W f.type ((cs.drop f.offset).take (P.cellsOf f.type))) → cs.length = o + l.length → AllRd P W l (cs.drop o) := by
              intro fl
              induction fl with
              | nil =>
                intro o l hl _ hc
                simp only [leafGo, Option.some.injEq] at hl; subst hl
                rw [List.drop_of_length_le (by simpa using Nat.le_of_eq hc)]; trivial
              | cons f fl ihf =>
                intro o l hl hrd hc
                unfold leafGo at hl
                split at hl
                · next l1 ho hl1 =>
                  split at hl
                  · next hn =>
                    split at hl
                    · next r hrr =>
                      simp only [Option.some.injEq] at hl; subst hl
                      have ho' := Nat.eq_of_beq_eq_true ho
                      have hn' := Nat.eq_of_beq_eq_true hn
                      have h1 := hrd f (by simp)
                      rw [ho', hn'] at h1
                      have h2 := ih hl1 h1
                      have h3 := ihf (o + l1.length) r hrr (fun g hg => hrd g (by simp [hg])) (by rw [hc, List.length_append]; omega)
                      have e : cs.drop o = (cs.drop o).take l1.length ++ cs.drop (o + l1.length) := by
                        rw [← List.drop_drop, List.take_append_drop]
                      rw [e]; exact h2.append h3
                    · simp at hl
                  · simp at hl
                · simp at hl
            have := key fs.toList 0 l hg (fun f hf => by
              obtain ⟨i, hi, rfl⟩ := List.mem_iff_getElem.1 hf
              exact hfs i _ (by simp at hi ⊢)) (by simpa using hlen)
            simpa using this
          · simp at h

end
end Go.Sp
