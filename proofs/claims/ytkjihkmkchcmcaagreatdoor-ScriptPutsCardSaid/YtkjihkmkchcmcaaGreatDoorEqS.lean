/- Equality of structs, whatever their fields: of plain cells. -/
import Derived.Test.YtkjihkmkchcmcaaGreatDoorEff
import Derived.Laws.StructEq
import Derived.MapKept
namespace Go.Sp
open Go Go.Vc

/-- A plain cell's kind. -/
inductive LK where
  | int (k : IntKind) | bool | str

def LK.ok : LK → Value → Prop
  | .int k, v => ∃ n, v = .int k n
  | .bool, v => ∃ b, v = .bool b
  | .str, v => ∃ s, v = .string s

/-- The plain cells of a struct's fields, one behind the other. -/
def eqGo (P : Program) (rec_ : TypeId → Option (List LK)) : List Field → Nat → Option (List LK)
  | [], _ => some []
  | f :: fs, o => match f.name == "_", Nat.beq f.offset o, rec_ f.type with
    | false, true, some l => match szQ P f.type with
      | some n => match Nat.beq n l.length with
        | true => match eqGo P rec_ fs (o + l.length) with
          | some r => some (l ++ r)
          | none => none
        | false => none
      | none => none
    | _, _, _ => none

/-- The plain cells of a type, where its equality is theirs. -/
def eqT (P : Program) : Nat → TypeId → Option (List LK)
  | 0, _ => none
  | d + 1, t => match P.underlying t with
    | some (.int k) => some [.int k]
    | some .bool => some [.bool]
    | some .string => some [.str]
    | some (.struct fs) => match P.stoodInHeld t with
      | true => none
      | false => eqGo P (eqT P d) fs.toList 0
    | _ => none

def Cells : List LK → List Value → Prop
  | [], [] => True
  | k :: ks, v :: vs => k.ok v ∧ Cells ks vs
  | _, _ => False

theorem Cells.length : ∀ {l : List LK} {vs : List Value}, Cells l vs → vs.length = l.length
  | [], [], _ => rfl
  | _ :: _, _ :: _, h => by simp [Cells.length h.2]
  | [], _ :: _, h => h.elim
  | _ :: _, [], h => h.elim

theorem Cells.append : ∀ {l r : List LK} {vs : List Value}, Cells (l ++ r) vs → Cells l (vs.take l.length) ∧ Cells r (vs.drop l.length)
  | [], _, _, h => ⟨trivial, h⟩
  | _ :: _, _, _ :: _, h => ⟨⟨h.1, (Cells.append h.2).1⟩, (Cells.append h.2).2⟩
  | _ :: _, _, [], h => h.elim

/-- A value of such a type. -/
def Typed (P : Program) (t : TypeId) (l : List LK) (v : Value) : Prop :=
  match aggQ P t with
  | some true => ∃ cs : Array Value, v = .agg cs ∧ Cells l cs.toList
  | _ => Cells l [v]

section
variable {P : Program}

theorem szQ_info {t : TypeId} {n : Nat} (h : szQ P t = some n) : ∃ i, P.info? t = some i ∧ i.size = n := by
  unfold szQ at h
  cases hi : P.info? t with
  | none => simp [hi] at h
  | some i => simp [hi] at h; exact ⟨i, rfl, h⟩

theorem leaf_eq {l : LK} {a b : Value} (ha : l.ok a) (hb : l.ok b) {t : TypeId} (d : Nat) (ht : (match l with | .int k => P.underlying t = some (.int k) | .bool => P.underlying t = some .bool | .str => P.underlying t = some .string)) (w : World) :
    ∃ r, (Op.equalIn (d + 1) t a b).run P w = .ok r w ∧ (r = true ↔ a = b) := by
  cases l with
  | int k =>
    obtain ⟨x, rfl⟩ := ha; obtain ⟨y, rfl⟩ := hb
    exact ⟨x == y, run_equalIn_int w d t k k x y ht, by simp⟩
  | bool =>
    obtain ⟨x, rfl⟩ := ha; obtain ⟨y, rfl⟩ := hb
    exact ⟨x == y, run_equalIn_bool w d t x y ht, by simp⟩
  | str =>
    obtain ⟨x, rfl⟩ := ha; obtain ⟨y, rfl⟩ := hb
    refine ⟨x.toList == y.toList, run_equalIn_string w d t x y ht, ?_⟩
    rw [← beq_toListBytes, MapKept.bytes_beq]; simp

theorem aggQ_not {t : TypeId} {d : TypeDesc} (h : P.underlying t = some d) (h1 : ∀ fs, d ≠ .struct fs) (h2 : ∀ n e, d ≠ .array n e) : aggQ P t = some false := by
  unfold aggQ; rw [h]
  cases d <;> simp_all

/-- A field's value. -/
theorem part_run {t : TypeId} {l r : List LK} {n : Nat} {xs : Array Value} {o : Nat} (hs : szQ P t = some n) (hn : n = l.length) (hag : aggQ P t ≠ none) (h1 : aggQ P t = some false → l.length = 1) (hc : Cells (l ++ r) (xs.toList.drop o)) (w : World) :
    ∃ v, (part t xs o).run P w = .ok v w ∧ Typed P t l v ∧ v.cells.toList = (xs.toList.drop o).take l.length ∧ (aggQ P t = some false → xs.toList.drop o = v :: xs.toList.drop (o + 1)) := by
  obtain ⟨i, hi, hsz⟩ := szQ_info hs
  obtain ⟨hl, _⟩ := hc.append
  cases hq : aggQ P t with
  | none => exact absurd hq hag
  | some b => cases b with
    | true =>
      have hagg : (isAgg t).run P w = .ok true w := by
        unfold aggQ at hq
        cases hu : P.underlying t with
        | none => simp [hu] at hq
        | some d => cases d <;> simp [hu] at hq <;> simp [isAgg, run_underlying hu]
      refine ⟨.agg (xs.extract o (o + n)), ?_, ?_, ?_, fun h => by simp at h⟩
      · simp [part, hagg, sizeOf, typeInfo, hi, hsz]
      · unfold Typed; rw [hq]
        refine ⟨_, rfl, ?_⟩
        have : (xs.extract o (o + n)).toList = (xs.toList.drop o).take l.length := by
          rw [Array.toList_extract, List.extract, hn]; simp
        rw [this]; exact hl
      · show (xs.extract o (o + n)).toList = _
        rw [Array.toList_extract, List.extract, hn]; simp
    | false =>
      have hagg : (isAgg t).run P w = .ok false w := by
        unfold aggQ at hq
        cases hu : P.underlying t with
        | none => simp [hu] at hq
        | some d => cases d <;> simp [hu] at hq <;> simp [isAgg, run_underlying hu]
      have hl1 := h1 hq
      have hlen := hc.length
      simp only [List.length_append, List.length_drop, Array.length_toList] at hlen
      have ho : o < xs.size := by omega
      have hd : xs.toList.drop o = xs[o] :: xs.toList.drop (o + 1) := by
        rw [List.drop_eq_getElem_cons (by simpa using ho)]; simp
      rw [hl1, hd] at hl
      have hcell : Cells l [xs[o]] := by simpa using hl
      have hleaf : xs[o].cells.toList = [xs[o]] := by
        cases l with
        | nil => simp at hl1
        | cons k ks =>
          have := hcell.1
          cases k <;> (obtain ⟨_, h⟩ := this; rw [h]; rfl)
      refine ⟨xs[o], ?_, ?_, ?_, fun _ => hd⟩
      · simp [part, hagg, ho]
      · unfold Typed; rw [hq]; exact hcell
      · rw [hleaf, hl1, hd]; simp

theorem eqT_agg {d : Nat} {t : TypeId} {l : List LK} (h : eqT P d t = some l) : aggQ P t ≠ none ∧ (aggQ P t = some false → l.length = 1) := by
  cases d with
  | zero => simp [eqT] at h
  | succ d =>
    unfold eqT at h
    unfold aggQ
    cases hu : P.underlying t with
    | none => simp [hu] at h
    | some x => cases x <;> simp [hu] at h <;> simp <;> (try subst h) <;> rfl

theorem equal_typed : ∀ (d : Nat) (t : TypeId) (l : List LK), eqT P d t = some l → ∀ (D : Nat), d ≤ D → ∀ (a b : Value), Typed P t l a → Typed P t l b → ∀ w, ∃ r, (Op.equalIn D t a b).run P w = .ok r w ∧ (r = true ↔ a = b) := by
  intro d
  induction d with
  | zero => intro t l h; simp [eqT] at h
  | succ d ih =>
    intro t l h D hD a b ha hb w
    obtain ⟨D, rfl⟩ : ∃ D', D = D' + 1 := ⟨D - 1, by omega⟩
    unfold eqT at h
    cases hu : P.underlying t with
    | none => simp [hu] at h
    | some x =>
      cases x <;> simp only [hu] at h <;> try (simp at h; done)
      case bool =>
        simp only [Option.some.injEq] at h; subst h
        have hq := aggQ_not hu (by simp) (by simp)
        unfold Typed at ha hb; rw [hq] at ha hb
        exact leaf_eq (l := .bool) ha.1 hb.1 D hu w
      case int k =>
        simp only [Option.some.injEq] at h; subst h
        have hq := aggQ_not hu (by simp) (by simp)
        unfold Typed at ha hb; rw [hq] at ha hb
        exact leaf_eq (l := .int k) ha.1 hb.1 D hu w
      case string =>
        simp only [Option.some.injEq] at h; subst h
        have hq := aggQ_not hu (by simp) (by simp)
        unfold Typed at ha hb; rw [hq] at ha hb
        exact leaf_eq (l := .str) ha.1 hb.1 D hu w
      case struct fs =>
        cases hst : P.stoodInHeld t with
        | true => simp [hst] at h
        | false =>
          simp only [hst] at h
          have hq : aggQ P t = some true := by unfold aggQ; rw [hu]
          unfold Typed at ha hb; rw [hq] at ha hb
          obtain ⟨xs, rfl, hx⟩ := ha
          obtain ⟨ys, rfl, hy⟩ := hb
          have hf : P.fieldsOf t = fs := by simp [Program.fieldsOf, hu]
          have e1 := run_equalIn_struct (P := P) w D t xs ys (by rw [hf]; exact hu) hst
          rw [hf] at e1
          rw [e1]
          have key : ∀ (fl : List Field) (o : Nat) (l : List LK), eqGo P (eqT P d) fl o = some l → Cells l (xs.toList.drop o) → Cells l (ys.toList.drop o) → ∃ r, (Op.eqFields D xs ys fl).run P w = .ok r w ∧ (r = true ↔ xs.toList.drop o = ys.toList.drop o) := by
            intro fl
            induction fl with
            | nil =>
              intro o l hl h1 h2
              simp only [eqGo, Option.some.injEq] at hl; subst hl
              have e1 := h1.length; have e2 := h2.length
              refine ⟨true, by simp [Op.eqFields], ?_⟩
              simp only [List.length_nil] at e1 e2
              simp [List.eq_nil_of_length_eq_zero e1, List.eq_nil_of_length_eq_zero e2]
            | cons f fl ihf =>
              intro o l hl h1 h2
              unfold eqGo at hl
              split at hl
              · next l1 hn ho hl1 =>
                split at hl
                · next n hs =>
                  split at hl
                  · next hnl =>
                    split at hl
                    · next r hr =>
                      simp only [Option.some.injEq] at hl; subst hl
                      have hn' : f.name ≠ "_" := by simpa using hn
                      have ho' := Nat.eq_of_beq_eq_true ho
                      have hnl' := Nat.eq_of_beq_eq_true hnl
                      obtain ⟨q1, q2⟩ := eqT_agg hl1
                      obtain ⟨va, pa, ta, ca, _⟩ := part_run hs hnl' q1 q2 h1 w
                      obtain ⟨vb, pb, tb, cb, _⟩ := part_run hs hnl' q1 q2 h2 w
                      obtain ⟨r1, er1, hr1⟩ := ih f.type l1 hl1 D (by omega) va vb ta tb w
                      have d1 := h1.append.2
                      have d2 := h2.append.2
                      rw [List.drop_drop] at d1 d2
                      obtain ⟨r2, er2, hr2⟩ := ihf (o + l1.length) r hr d1 d2
                      have hcells : va = vb ↔ (xs.toList.drop o).take l1.length = (ys.toList.drop o).take l1.length := by
                        rw [← ca, ← cb]
                        constructor
                        · intro e; rw [e]
                        · intro e
                          unfold Typed at ta tb
                          cases hq : aggQ P f.type with
                          | none => exact absurd hq q1
                          | some bb => cases bb with
                            | true =>
                              rw [hq] at ta tb
                              obtain ⟨u1, rfl, _⟩ := ta
                              obtain ⟨u2, rfl, _⟩ := tb
                              have : u1.toList = u2.toList := e
                              rw [Array.toList_inj.1 this]
                            | false =>
                              rw [hq] at ta tb
                              have one : ∀ {v : Value}, Cells l1 [v] → v.cells.toList = [v] := by
                                intro v hv
                                cases l1 with
                                | nil => exact hv.elim
                                | cons k ks =>
                                  have := hv.1
                                  cases k <;> (obtain ⟨_, h⟩ := this; rw [h]; rfl)
                              rw [one ta, one tb] at e
                              simpa using e
                      have hsplit : (xs.toList.drop o = ys.toList.drop o) ↔ (va = vb ∧ xs.toList.drop (o + l1.length) = ys.toList.drop (o + l1.length)) := by
                        rw [hcells, ← List.drop_drop, ← List.drop_drop]
                        constructor
                        · intro e; rw [e]; exact ⟨rfl, rfl⟩
                        · rintro ⟨e1, e2⟩
                          rw [← List.take_append_drop l1.length (xs.toList.drop o), e1, e2, List.take_append_drop]
                      subst ho'
                      cases r1 with
                      | false =>
                        refine ⟨false, ?_, ?_⟩
                        · simp [Op.eqFields, hn', pa, pb, er1]
                        · rw [hsplit]
                          constructor
                          · intro h; cases h
                          · intro h; exact absurd (hr1.2 h.1) (by simp)
                      | true =>
                        refine ⟨r2, ?_, ?_⟩
                        · simp only [Op.eqFields, if_pos hn', Sem.run_bind, pa, pb, er1, Result.andThen_ok]
                          simpa using er2
                        · rw [hsplit, hr2]
                          exact ⟨fun h => ⟨hr1.1 rfl, h⟩, fun h => h.2⟩
                    · simp at hl
                  · simp at hl
                · simp at hl
              · simp at hl
          obtain ⟨r, hr, hiff⟩ := key fs.toList 0 l h (by simpa using hx) (by simpa using hy)
          refine ⟨r, hr, ?_⟩
          rw [hiff]
          simp only [List.drop_zero, Value.agg.injEq]
          exact Array.toList_inj

theorem EqV.eql {d : Nat} {t : TypeId} {l : List LK} (hq : eqT P d t = some l) (hd : d ≤ 10000) (hg : P.eqGuardType P.depth t = false) (hag : aggQ P t = some true) {a b : Value} (ha : Typed P t l a) (hb : Typed P t l b) : ∃ r, EqV P .eql t a b r ∧ (r = true ↔ a = b) := by
  have key := equal_typed d t l hq 10000 hd a b ha hb
  unfold Typed at ha hb; rw [hag] at ha hb
  obtain ⟨xs, rfl, _⟩ := ha
  obtain ⟨ys, rfl, _⟩ := hb
  obtain ⟨r, _, hr⟩ := key default
  refine ⟨r, ⟨fun ox oy w => by simp [eqGuard, hg], fun w => ?_⟩, hr⟩
  obtain ⟨r', h1, hr'⟩ := key w
  have : r' = r := by cases r <;> cases r' <;> simp_all
  subst this
  rw [run_eql_struct, h1]; rfl

theorem EqV.neq {d : Nat} {t : TypeId} {l : List LK} (hq : eqT P d t = some l) (hd : d ≤ 10000) (hg : P.eqGuardType P.depth t = false) (hag : aggQ P t = some true) {a b : Value} (ha : Typed P t l a) (hb : Typed P t l b) : ∃ r, EqV P .neq t a b r ∧ (r = false ↔ a = b) := by
  have key := equal_typed d t l hq 10000 hd a b ha hb
  unfold Typed at ha hb; rw [hag] at ha hb
  obtain ⟨xs, rfl, _⟩ := ha
  obtain ⟨ys, rfl, _⟩ := hb
  obtain ⟨r, _, hr⟩ := key default
  refine ⟨!r, ⟨fun ox oy w => by simp [eqGuard, hg], fun w => ?_⟩, by cases r <;> simp_all⟩
  obtain ⟨r', h1, hr'⟩ := key w
  have : r' = r := by cases r <;> cases r' <;> simp_all
  subst this
  rw [run_neq_struct, h1]; rfl

theorem check_typed (e : Bool) : ∀ (d : Nat) (t : TypeId) (l : List LK), eqT P d t = some l → ∀ (D : Nat), d ≤ D → ∀ (a : Value), Typed P t l a → ∀ w, (Instr.checkKey e D t a).run P w = .ok () w := by
  intro d
  induction d with
  | zero => intro t l h; simp [eqT] at h
  | succ d ih =>
    intro t l h D hD a ha w
    obtain ⟨D, rfl⟩ : ∃ D', D = D' + 1 := ⟨D - 1, by omega⟩
    unfold eqT at h
    cases hu : P.underlying t with
    | none => simp [hu] at h
    | some x =>
      cases x <;> simp only [hu] at h <;> try (simp at h; done)
      case bool => simp [Instr.checkKey, run_underlying hu]
      case int k => simp [Instr.checkKey, run_underlying hu]
      case string => simp [Instr.checkKey, run_underlying hu]
      case struct fs =>
        cases hst : P.stoodInHeld t with
        | true => simp [hst] at h
        | false =>
          simp only [hst] at h
          have hq : aggQ P t = some true := by unfold aggQ; rw [hu]
          unfold Typed at ha; rw [hq] at ha
          obtain ⟨xs, rfl, hx⟩ := ha
          have key : ∀ (fl : List Field) (o : Nat) (l : List LK), eqGo P (eqT P d) fl o = some l → Cells l (xs.toList.drop o) →
              (forIn fl PUnit.unit fun f _ => do
                if f.name ≠ "_" then Instr.checkKey e D f.type (← part f.type xs f.offset)
                pure (ForInStep.yield PUnit.unit) : Sem PUnit).run P w = .ok PUnit.unit w := by
            intro fl
            induction fl with
            | nil => intro o l hl h1; simp
            | cons f fl ihf =>
              intro o l hl h1
              unfold eqGo at hl
              split at hl
              · next l1 hn ho hl1 =>
                split at hl
                · next n hs =>
                  split at hl
                  · next hnl =>
                    split at hl
                    · next r hr =>
                      simp only [Option.some.injEq] at hl; subst hl
                      have hn' : f.name ≠ "_" := by simpa using hn
                      have ho' := Nat.eq_of_beq_eq_true ho
                      have hnl' := Nat.eq_of_beq_eq_true hnl
                      obtain ⟨q1, q2⟩ := eqT_agg hl1
                      obtain ⟨va, pa, ta, ca, _⟩ := part_run hs hnl' q1 q2 h1 w
                      have d1 := h1.append.2
                      rw [List.drop_drop] at d1
                      have e2 := ihf (o + l1.length) r hr d1
                      subst ho'
                      have e1 := ih f.type l1 hl1 D (by omega) va ta w
                      simp only [List.forIn_cons, Sem.run_bind, if_pos hn', pa, e1, Result.andThen_ok, Sem.run_pure]
                      exact e2
                    · simp at hl
                  · simp at hl
                · simp at hl
              · simp at hl
          have := key fs.toList 0 l h (by simpa using hx)
          simp only [Instr.checkKey, Sem.run_bind, run_underlying hu, Result.andThen_ok]
          simp at this ⊢
          rw [this]; rfl

end
end Go.Sp
