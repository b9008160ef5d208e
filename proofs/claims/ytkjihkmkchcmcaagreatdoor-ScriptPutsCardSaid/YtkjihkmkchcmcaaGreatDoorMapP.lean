/- Maps as pieces: what they hold, by keys. -/
import Derived.Test.YtkjihkmkchcmcaaGreatDoorEqS
namespace Go.Sp
open Go Go.Vc

/-- What is known of keys of a type. -/
structure KeyOf (P : Program) (kt : TypeId) {κ : Type} (enc : κ → Value) : Prop where
  inj : ∀ a b, enc a = enc b → a = b
  chk : ∀ e k w, (Instr.checkKey e 10000 kt (enc k)).run P w = .ok () w
  some_ : ∀ k (es : List MapEntry) i e w, (∀ e ∈ es, ∃ k', e.key = enc k') → es[i]? = some e → e.key = enc k → (∀ j e', j < i → es[j]? = some e' → e'.key ≠ enc k) → (Instr.findKey kt (enc k) es).run P w = .ok (some (i, e.val)) w
  none_ : ∀ k (es : List MapEntry) w, (∀ e ∈ es, ∃ k', e.key = enc k') → (∀ e ∈ es, e.key ≠ enc k) → (Instr.findKey kt (enc k) es).run P w = .ok none w
  stay : ∀ k, Instr.sameBits 10000 (enc k) (enc k) = true

section
variable {P : Program} {kt : TypeId}

theorem findNow_some {d : TypeDesc} {k : Value} :
    ∀ (es : List MapEntry) (n i : Nat) (e : MapEntry), es[i]? = some e → Instr.sameNow d k e.key = some true → (∀ j e', j < i → es[j]? = some e' → Instr.sameNow d k e'.key = some false) → Instr.findNow d k es n = some (some (n + i, e.val))
  | [], _, _, _, h, _, _ => by simp at h
  | x :: es, n, 0, e, h, h1, _ => by
    simp only [List.getElem?_cons_zero, Option.some.injEq] at h; subst h
    simp [Instr.findNow, h1]
  | x :: es, n, i + 1, e, h, h1, h2 => by
    have h0 := h2 0 x (by omega) rfl
    simp only [Instr.findNow, h0]
    rw [findNow_some es (n + 1) i e (by simpa using h) h1 (fun j e' hj he => h2 (j + 1) e' (by omega) (by simpa using he))]
    rw [show n + 1 + i = n + (i + 1) by omega]
theorem findNow_none {d : TypeDesc} {k : Value} : ∀ (es : List MapEntry) (n : Nat), (∀ e ∈ es, Instr.sameNow d k e.key = some false) → Instr.findNow d k es n = some none
  | [], _, _ => rfl
  | x :: es, n, h => by
    simp only [Instr.findNow, h x (by simp)]
    exact findNow_none es (n + 1) (fun e he => h e (by simp [he]))

theorem chk_int {q : IntKind} (hk : P.underlying kt = some (.int q)) (e : Bool) (n : Nat) (v : Value) (w : World) : (Instr.checkKey e (n + 1) kt v).run P w = .ok () w := by
  simp [Instr.checkKey, run_underlying hk]
theorem chk_str (hk : P.underlying kt = some .string) (e : Bool) (n : Nat) (v : Value) (w : World) : (Instr.checkKey e (n + 1) kt v).run P w = .ok () w := by
  simp [Instr.checkKey, run_underlying hk]

theorem same_int (n : Nat) (q : IntKind) (k : Int) : Instr.sameBits n (.int q k) (.int q k) = true := by
  cases n <;> simp [Instr.sameBits]
theorem same_bool (n : Nat) (k : Bool) : Instr.sameBits n (.bool k) (.bool k) = true := by
  cases n <;> simp [Instr.sameBits]
theorem same_str (n : Nat) (k : ByteArray) : Instr.sameBits n (.string k) (.string k) = true := by
  cases n <;> simp [Instr.sameBits, MapKept.bytes_beq]

/-- Keys of an integer's kind. -/
theorem KeyOf.int {q : IntKind} (hk : P.underlying kt = some (.int q)) : KeyOf P kt (fun n : Int => Value.int q n) where
  inj := fun a b h => by simpa using h
  chk := fun e k w => chk_int hk e 9999 _ w
  some_ := fun k es i e w hes hi hk' hlt => by
    have hf : ∀ e' ∈ es, ∃ n, e'.key = .int q n := hes
    have := findNow_some (d := .int q) (k := .int q k) es 0 i e hi (by rw [hk']; simp [Instr.sameNow]) (fun j e' hj he => by
      obtain ⟨n, hn⟩ := hf e' (List.mem_of_getElem? he)
      have hne := hlt j e' hj he
      rw [hn] at hne ⊢
      simp only [Instr.sameNow, if_true, Option.some.injEq, beq_eq_false_iff_ne]
      intro hh; exact hne (by rw [hh]))
    simp [Instr.findKey, run_underlying hk, this]
  none_ := fun k es w hes hno => by
    have := findNow_none (d := .int q) (k := .int q k) es 0 (fun e he => by
      obtain ⟨n, hn⟩ := hes e he
      have hne := hno e he
      rw [hn] at hne ⊢
      simp only [Instr.sameNow, if_true, Option.some.injEq, beq_eq_false_iff_ne]
      intro hh; exact hne (by rw [hh]))
    simp [Instr.findKey, run_underlying hk, this]
  stay := fun k => same_int _ _ _

theorem KeyOf.str (hk : P.underlying kt = some .string) : KeyOf P kt (fun s : ByteArray => Value.string s) where
  inj := fun a b h => by simpa using h
  chk := fun e k w => chk_str hk e 9999 _ w
  some_ := fun k es i e w hes hi hk' hlt => by
    have := findNow_some (d := .string) (k := .string k) es 0 i e hi (by rw [hk']; simp [Instr.sameNow, MapKept.bytes_beq]) (fun j e' hj he => by
      obtain ⟨n, hn⟩ := hes e' (List.mem_of_getElem? he)
      have hne := hlt j e' hj he
      rw [hn] at hne ⊢
      have : ¬ (k == n) = true := fun h => hne (by rw [(MapKept.bytes_beq _ _).1 h])
      simp only [Instr.sameNow]
      simpa using this)
    simp [Instr.findKey, run_underlying hk, this]
  none_ := fun k es w hes hno => by
    have := findNow_none (d := .string) (k := .string k) es 0 (fun e he => by
      obtain ⟨n, hn⟩ := hes e he
      have hne := hno e he
      rw [hn] at hne ⊢
      have : ¬ (k == n) = true := fun h => hne (by rw [(MapKept.bytes_beq _ _).1 h])
      simp only [Instr.sameNow]
      simpa using this)
    simp [Instr.findKey, run_underlying hk, this]
  stay := fun k => same_str _ _

theorem findAsking_some {k : Value} {w : World} : ∀ (es : List MapEntry) (n i : Nat) (e : MapEntry), (∀ e ∈ es, ∃ r : Bool, (Op.equal kt k e.key).run P w = .ok r w ∧ (r = true ↔ k = e.key)) → es[i]? = some e → e.key = k → (∀ j e', j < i → es[j]? = some e' → e'.key ≠ k) →
    (Instr.findAsking kt k es n).run P w = .ok (some (n + i, e.val)) w
  | [], _, _, _, _, h, _, _ => by simp at h
  | x :: es, n, 0, e, hes, h, h1, _ => by
    simp only [List.getElem?_cons_zero, Option.some.injEq] at h; subst h
    obtain ⟨r, hr, hiff⟩ := hes x (by simp)
    have : r = true := hiff.2 h1.symm
    subst this
    simp [Instr.findAsking, hr]
  | x :: es, n, i + 1, e, hes, h, h1, h2 => by
    obtain ⟨r, hr, hiff⟩ := hes x (by simp)
    have : r = false := by
      cases r with
      | false => rfl
      | true => exact absurd (hiff.1 rfl).symm (h2 0 x (by omega) rfl)
    subst this
    have ih := findAsking_some (k := k) (w := w) es (n + 1) i e (fun e he => hes e (by simp [he])) (by simpa using h) h1 (fun j e' hj he => h2 (j + 1) e' (by omega) (by simpa using he))
    simp only [Instr.findAsking, Sem.run_bind, hr, Result.andThen_ok, Bool.false_eq_true, if_false]
    rw [ih, show n + 1 + i = n + (i + 1) by omega]
theorem findAsking_none {k : Value} {w : World} : ∀ (es : List MapEntry) (n : Nat), (∀ e ∈ es, ∃ r : Bool, (Op.equal kt k e.key).run P w = .ok r w ∧ (r = true ↔ k = e.key)) → (∀ e ∈ es, e.key ≠ k) →
    (Instr.findAsking kt k es n).run P w = .ok none w
  | [], _, _, _ => by simp [Instr.findAsking]
  | x :: es, n, hes, h => by
    obtain ⟨r, hr, hiff⟩ := hes x (by simp)
    have : r = false := by
      cases r with
      | false => rfl
      | true => exact absurd (hiff.1 rfl).symm (h x (by simp))
    subst this
    have ih := findAsking_none (k := k) (w := w) es (n + 1) (fun e he => hes e (by simp [he])) (fun e he => h e (by simp [he]))
    simp only [Instr.findAsking, Sem.run_bind, hr, Result.andThen_ok, Bool.false_eq_true, if_false]
    exact ih

theorem findNow_agg {fs : Array Field} {k : Value} : ∀ (es : List MapEntry), Instr.findNow (.struct fs) k es 0 = some none ∨ Instr.findNow (.struct fs) k es 0 = none
  | [] => .inl rfl
  | x :: es => .inr (by simp [Instr.findNow, Instr.sameNow])

theorem same_agg {cs : Array Value} (n : Nat) (h : ∀ v ∈ cs.toList, Instr.sameBits n v v = true) : Instr.sameBits (n + 1) (.agg cs) (.agg cs) = true := by
  simp only [Instr.sameBits, beq_self_eq_true, Bool.true_and, List.all_eq_true]
  intro x hx
  obtain ⟨i, hi, rfl⟩ := List.mem_iff_getElem.1 hx
  rw [List.getElem_zip]
  exact h _ (List.getElem_mem _)

/-- Keys that are structs of plain cells. -/
theorem KeyOf.agg {κ : Type} {enc : κ → Value} {d : Nat} {l : List LK} (hi : ∀ a b, enc a = enc b → a = b) (hq : eqT P d kt = some l) (hd : d ≤ 10000) (hag : aggQ P kt = some true) (ht : ∀ k, Typed P kt l (enc k)) : KeyOf P kt enc := by
  have hu : ∃ fs, P.underlying kt = some (.struct fs) := by
    cases d with
    | zero => simp [eqT] at hq
    | succ d =>
      unfold eqT at hq
      unfold aggQ at hag
      cases hu : P.underlying kt with
      | none => simp [hu] at hag
      | some x => cases x <;> simp [hu] at hq hag ⊢
  obtain ⟨fs, hu⟩ := hu
  have heq : ∀ k (es : List MapEntry) (w : World), (∀ e ∈ es, ∃ k', e.key = enc k') → ∀ e ∈ es, ∃ r : Bool, (Op.equal kt (enc k) e.key).run P w = .ok r w ∧ (r = true ↔ enc k = e.key) := by
    intro k es w hes e he
    obtain ⟨k', hk'⟩ := hes e he
    rw [hk']
    exact equal_typed d kt l hq 10000 hd _ _ (ht k) (ht k') w
  refine ⟨hi, fun e k w => check_typed e d kt l hq 10000 hd _ (ht k) w, fun k es i e w hes hi hk hlt => ?_, fun k es w hes hno => ?_, fun k => ?_⟩
  · have hf := findAsking_some (kt := kt) (P := P) (k := enc k) (w := w) es 0 i e (heq k es w hes) hi hk hlt
    rw [Nat.zero_add] at hf
    have hnn : Instr.findNow (.struct fs) (enc k) es 0 = none := by
      cases es with
      | nil => simp at hi
      | cons x xs => simp [Instr.findNow, Instr.sameNow]
    simp [Instr.findKey, run_underlying hu, hnn, hf]
  · have hf := findAsking_none (kt := kt) (P := P) (k := enc k) (w := w) es 0 (heq k es w hes) hno
    rcases findNow_agg (fs := fs) (k := enc k) es with h | h
    · simp [Instr.findKey, run_underlying hu, h]
    · simp [Instr.findKey, run_underlying hu, h, hf]
  · have := ht k
    unfold Typed at this; rw [hag] at this
    obtain ⟨cs, he, hc⟩ := this
    rw [he]
    refine same_agg 9999 (fun v hv => ?_)
    have go : ∀ (l : List LK) (vs : List Value), Cells l vs → ∀ v ∈ vs, Instr.sameBits 9999 v v = true := by
      intro l
      induction l with
      | nil => intro vs h v hv; cases vs with
        | nil => cases hv
        | cons _ _ => exact h.elim
      | cons k l ih => intro vs h v hv; cases vs with
        | nil => cases hv
        | cons x vs =>
          rcases List.mem_cons.1 hv with rfl | hv
          · have := h.1
            cases k <;> (obtain ⟨_, h⟩ := this; rw [h])
            · exact same_int _ _ _
            · exact same_bool _ _
            · exact same_str _ _
          · exact ih vs h.2 v hv
    exact go l _ hc v hv

end

/-! ### a map, by what it holds -/

/-- Entries that are just what 'f' says. -/
structure MapOk {κ : Type} (enc : κ → Value) (f : κ → Option Value) (es : List MapEntry) (ck : Nat) : Prop where
  key : ∀ e ∈ es, ∃ k, e.key = enc k ∧ f k = some e.val
  has : ∀ k v, f k = some v → ∃ e ∈ es, e.key = enc k ∧ e.val = v
  one : es.Pairwise (fun a b => a.key ≠ b.key)
  born : ∀ e ∈ es, e.born < ck
  bone : es.Pairwise (fun a b => a.born ≠ b.born)

def mapF {κ : Type} (b : Nat) (enc : κ → Value) (f : κ → Option Value) : Asn :=
  ⟨fun h F => (∃ es ck, h[b]? = some (.map es.toArray ck) ∧ MapOk enc f es ck) ∧ ∀ x, F x ↔ x = b, fun hh hl => ⟨by rw [hl b ((hh.2 b).2 rfl)]; exact hh.1, hh.2⟩⟩

def upd {κ : Type} [DecidableEq κ] {α : Type} (f : κ → Option α) (k : κ) (v : Option α) : κ → Option α := fun x => if x = k then v else f x

section
variable {P : Program} {κ : Type} [DecidableEq κ] {enc : κ → Value} {f : κ → Option Value} {es : List MapEntry} {ck : Nat} {kt : TypeId}

omit [DecidableEq κ] in
theorem MapOk.keys (M : MapOk enc f es ck) : ∀ e ∈ es, ∃ k, e.key = enc k := fun e he => let ⟨k, h, _⟩ := M.key e he; ⟨k, h⟩

omit [DecidableEq κ] in
theorem MapOk.at_ (M : MapOk enc f es ck) {i : Nat} {e : MapEntry} (hi : es[i]? = some e) : ∀ j e', j < i → es[j]? = some e' → e'.key ≠ e.key := by
  intro j e' hj he
  obtain ⟨h1, h2⟩ := List.getElem?_eq_some_iff.1 hi
  obtain ⟨h3, h4⟩ := List.getElem?_eq_some_iff.1 he
  have := List.pairwise_iff_getElem.1 M.one j i h3 h1 hj
  rw [h2, h4] at this; exact this

omit [DecidableEq κ] in
theorem MapOk.find_some (K : KeyOf P kt enc) (M : MapOk enc f es ck) {k : κ} {v : Value} (hf : f k = some v) (w : World) : ∃ i e, es[i]? = some e ∧ e.key = enc k ∧ e.val = v ∧ (Instr.findKey kt (enc k) es).run P w = .ok (some (i, v)) w := by
  obtain ⟨e, he, hk, hv⟩ := M.has k v hf
  obtain ⟨i, hi, rfl⟩ := List.mem_iff_getElem.1 he
  have hg : es[i]? = some es[i] := List.getElem?_eq_getElem hi
  refine ⟨i, es[i], hg, hk, hv, ?_⟩
  rw [← hv]
  exact K.some_ k es i es[i] w M.keys hg hk (fun j e' hj he' => hk ▸ M.at_ hg j e' hj he')
omit [DecidableEq κ] in
theorem MapOk.find_none (K : KeyOf P kt enc) (M : MapOk enc f es ck) {k : κ} (hf : f k = none) (w : World) : (Instr.findKey kt (enc k) es).run P w = .ok none w :=
  K.none_ k es w M.keys (fun e he hk => by
    obtain ⟨k', h1, h2⟩ := M.key e he
    have : k' = k := K.inj _ _ (h1.symm.trans hk)
    rw [this, hf] at h2; cases h2)

omit [DecidableEq κ] in
theorem MapOk.empty : MapOk enc (fun _ => none) [] 0 := ⟨by simp, by simp, List.Pairwise.nil, by simp, List.Pairwise.nil⟩

theorem MapOk.put (K : KeyOf P kt enc) (M : MapOk enc f es ck) {k : κ} {i : Nat} {e : MapEntry} (hi : es[i]? = some e) (hk : e.key = enc k) (v : Value) :
    MapOk enc (upd f k (some v)) (es.set i { e with key := enc k, val := v }) ck := by
  obtain ⟨hlt, hge⟩ := List.getElem?_eq_some_iff.1 hi
  have hkeys : (es.set i { e with key := enc k, val := v }).map (·.key) = es.map (·.key) := by
    rw [List.map_set]
    apply List.ext_getElem?
    intro j
    rw [List.getElem?_set]
    split
    · next h => subst h; simp [hlt, hge, hk]
    · rfl
  have hborn : (es.set i { e with key := enc k, val := v }).map (·.born) = es.map (·.born) := by
    rw [List.map_set]
    apply List.ext_getElem?
    intro j
    rw [List.getElem?_set]
    split
    · next h => subst h; simp [hlt, hge]
    · rfl
  refine ⟨?_, ?_, ?_, ?_, ?_⟩
  · intro x hx
    obtain ⟨j, hj, rfl⟩ := List.mem_iff_getElem.1 hx
    rw [List.getElem_set]
    split
    · exact ⟨k, rfl, by simp [upd]⟩
    · next hne =>
      have hj' : j < es.length := by simpa using hj
      obtain ⟨k', h1, h2⟩ := M.key es[j] (List.getElem_mem hj')
      refine ⟨k', h1, ?_⟩
      have : k' ≠ k := by
        rintro rfl
        have hkk : es[j].key = es[i].key := by rw [h1, hge, hk]
        rcases Nat.lt_or_ge i j with h | h
        · exact List.pairwise_iff_getElem.1 M.one i j hlt hj' h hkk.symm
        · exact List.pairwise_iff_getElem.1 M.one j i hj' hlt (by omega) hkk
      simp [upd, this, h2]
  · intro k' v' h
    unfold upd at h
    split at h
    · next he =>
      simp only [Option.some.injEq] at h
      subst he h
      exact ⟨{ e with key := enc k', val := v }, List.mem_iff_getElem.2 ⟨i, by simpa using hlt, by simp⟩, rfl, rfl⟩
    · next hne =>
      obtain ⟨x, hx, h1, h2⟩ := M.has k' v' h
      obtain ⟨j, hj, rfl⟩ := List.mem_iff_getElem.1 hx
      have hji : i ≠ j := by
        rintro rfl
        exact hne (K.inj _ _ (by rw [← h1, ← hk, hge]))
      refine ⟨es[j], List.mem_iff_getElem.2 ⟨j, by simpa using hj, by rw [List.getElem_set, if_neg hji]⟩, h1, h2⟩
  · have := M.one
    rw [← List.pairwise_map (f := fun e : MapEntry => e.key) (R := fun a b => a ≠ b)] at this ⊢
    rw [hkeys]; exact this
  · intro x hx
    have : x.born ∈ (es.set i { e with key := enc k, val := v }).map (·.born) := List.mem_map.2 ⟨x, hx, rfl⟩
    rw [hborn] at this
    obtain ⟨y, hy, he⟩ := List.mem_map.1 this
    rw [← he]; exact M.born y hy
  · have := M.bone
    rw [← List.pairwise_map (f := fun e : MapEntry => e.born) (R := fun a b => a ≠ b)] at this ⊢
    rw [hborn]; exact this

theorem MapOk.add (K : KeyOf P kt enc) (M : MapOk enc f es ck) {k : κ} (hf : f k = none) (v : Value) : MapOk enc (upd f k (some v)) (es ++ [{ key := enc k, val := v, born := ck }]) (ck + 1) := by
  refine ⟨?_, ?_, ?_, ?_, ?_⟩
  · intro x hx
    rcases List.mem_append.1 hx with hx | hx
    · obtain ⟨k', h1, h2⟩ := M.key x hx
      refine ⟨k', h1, ?_⟩
      have : k' ≠ k := by rintro rfl; rw [hf] at h2; cases h2
      simp [upd, this, h2]
    · simp only [List.mem_singleton] at hx; subst hx
      exact ⟨k, rfl, by simp [upd]⟩
  · intro k' v' h
    unfold upd at h
    split at h
    · next he =>
      simp only [Option.some.injEq] at h
      subst he h
      exact ⟨{ key := enc k', val := v, born := ck }, by simp, rfl, rfl⟩
    · obtain ⟨x, hx, h1, h2⟩ := M.has k' v' h
      exact ⟨x, by simp [hx], h1, h2⟩
  · rw [List.pairwise_append]
    refine ⟨M.one, List.pairwise_singleton _ _, fun a ha b hb => ?_⟩
    simp only [List.mem_singleton] at hb; subst hb
    obtain ⟨k', h1, h2⟩ := M.key a ha
    intro h
    have : k' = k := K.inj _ _ (h1.symm.trans h)
    rw [this, hf] at h2; cases h2
  · intro x hx
    rcases List.mem_append.1 hx with hx | hx
    · have := M.born x hx; omega
    · simp only [List.mem_singleton] at hx; subst hx; simp
  · rw [List.pairwise_append]
    refine ⟨M.bone, List.pairwise_singleton _ _, fun a ha b hb => ?_⟩
    simp only [List.mem_singleton] at hb; subst hb
    have := M.born a ha
    simp; omega

theorem MapOk.del (K : KeyOf P kt enc) (M : MapOk enc f es ck) {k : κ} {i : Nat} {e : MapEntry} (hi : es[i]? = some e) (hk : e.key = enc k) : MapOk enc (upd f k none) (es.eraseIdx i) ck := by
  obtain ⟨hlt, hge⟩ := List.getElem?_eq_some_iff.1 hi
  have hsub := List.eraseIdx_sublist es i
  refine ⟨?_, ?_, M.one.sublist hsub, fun x hx => M.born x (hsub.subset hx), M.bone.sublist hsub⟩
  · intro x hx
    obtain ⟨j, hj, hji, he⟩ := List.mem_eraseIdx_iff_getElem.1 hx
    subst he
    obtain ⟨k', h1, h2⟩ := M.key es[j] (List.getElem_mem hj)
    refine ⟨k', h1, ?_⟩
    have : k' ≠ k := by
      rintro rfl
      have hkk : es[j].key = es[i].key := by rw [h1, hge, hk]
      rcases Nat.lt_or_ge i j with h | h
      · exact List.pairwise_iff_getElem.1 M.one i j hlt hj h hkk.symm
      · exact List.pairwise_iff_getElem.1 M.one j i hj hlt (by omega) hkk
    simp [upd, this, h2]
  · intro k' v' h
    unfold upd at h
    split at h
    · cases h
    · next hne =>
      obtain ⟨x, hx, h1, h2⟩ := M.has k' v' h
      obtain ⟨j, hj, rfl⟩ := List.mem_iff_getElem.1 hx
      have hji : j ≠ i := by
        rintro rfl
        exact hne (K.inj _ _ (by rw [← h1, ← hk, hge]))
      exact ⟨es[j], List.mem_eraseIdx_iff_getElem.2 ⟨j, hj, hji, rfl⟩, h1, h2⟩

theorem upd_none {k : κ} {α : Type} {f : κ → Option α} (hf : f k = none) : upd f k none = f := by
  funext x; unfold upd; split
  · next h => subst h; exact hf.symm
  · rfl

end

section
variable {E : Env} {L : List Asn} {w : World} {P : Program} {κ : Type} [DecidableEq κ] {enc : κ → Value} {f : κ → Option Value} {b : Nat}

omit [DecidableEq κ] in
theorem mapF.at_ {i : Nat} (h : Sep E L w) (hi : L[i]? = some (mapF b enc f)) : ∃ es ck, w.heap[b]? = some (.map es.toArray ck) ∧ MapOk enc f es ck := by
  obtain ⟨_, F, ⟨h1, _⟩, _⟩ := h.fr i hi; exact h1

omit [DecidableEq κ] in
theorem mapF.set {κ' : Type} {enc' : κ' → Value} {f' : κ' → Option Value} (h : Sep E (mapF b enc f :: L) w) {es' : List MapEntry} {ck' : Nat} (M : MapOk enc' f' es' ck') : Sep E (mapF b enc' f' :: L) { w with heap := w.heap.setIfInBounds b (.map es'.toArray ck') } := by
  have hb : b < w.heap.size := by
    obtain ⟨es, ck, hb, _⟩ := mapF.at_ (i := 0) h rfl
    exact (Array.getElem?_eq_some_iff.1 hb).1
  refine h.change rfl (by simp) (fun F hF hlt => ⟨fun x _ hx => ?_, F, ⟨⟨es', ck', ?_, M⟩, hF.2⟩, fun x hx => ⟨?_, .inl hx⟩⟩)
  · have : b ≠ x := fun e => hx ((hF.2 x).2 e.symm)
    show (w.heap.setIfInBounds b _)[x]? = _
    rw [Array.getElem?_setIfInBounds, if_neg this]
  · show (w.heap.setIfInBounds b _)[b]? = _
    rw [Array.getElem?_setIfInBounds, if_pos rfl, if_pos hb]
  · simpa using hlt x hx

omit [DecidableEq κ] in
theorem mapF.new {g : Nat → World → Prop} (h : Sep E L w) (k : ∀ b w1, Sep E (mapF b enc (fun _ => none) :: L) w1 → g b w1) : AlM g w :=
  k _ _ (h.new (Grow.alloc w _) (F' := fun x => x = w.heap.size) ⟨⟨[], 0, heap_alloc w _, MapOk.empty⟩, fun _ => Iff.rfl⟩ (fun b hb => by subst hb; rw [size_alloc]; omega))

/-- A map's type: its key's, and the nought of what it holds. -/
def mQ (P : Program) (t : TypeId) : Option (TypeId × Value) :=
  match P.underlying t with
  | some (.map k e) => match zeroQ P e with
    | some z => some (k, z)
    | none => none
  | _ => none
theorem zeroQ_run {t : TypeId} {z : Value} (h : zeroQ P t = some z) (w : World) : (zeroValue t).run P w = .ok z w := by
  unfold zeroQ at h
  cases hi : P.info? t with
  | none => simp [hi] at h
  | some i => simp [hi] at h; simp [zeroValue, typeInfo, hi, h]
theorem mQ_of {t kt : TypeId} {z : Value} (h : mQ P t = some (kt, z)) : ∃ e, P.underlying t = some (.map kt e) ∧ ∀ w, (zeroValue e).run P w = .ok z w := by
  unfold mQ at h
  split at h
  · next k e he =>
    split at h
    · next z' hz =>
      simp only [Option.some.injEq, Prod.mk.injEq] at h
      obtain ⟨rfl, rfl⟩ := h
      exact ⟨e, he, zeroQ_run hz⟩
    · simp at h
  · simp at h

omit [DecidableEq κ] in
theorem LookV.i {t kt : TypeId} {z : Value} (ok : Bool) (i : Nat) (h : Sep E L w) (hi : L[i]? = some (mapF b enc f)) (K : KeyOf P kt enc) (hq : mQ P t = some (kt, z)) (k : κ) :
    LookV P t (.map (some b)) (enc k) ok w (match ok with | true => .tuple #[(f k).getD z, .bool (f k).isSome] | false => (f k).getD z) := by
  intro w' g
  obtain ⟨e, ht, hz⟩ := mQ_of hq
  obtain ⟨es, ck, hb, M⟩ := mapF.at_ (h.grow g) hi
  cases hf : f k with
  | some v =>
    obtain ⟨j, x, hj, hk, hv, hfind⟩ := M.find_some K hf w'
    cases ok <;> simp [Instr.lookup, run_underlying ht, MapKept.run_getObj_map hb, K.chk, hfind]
  | none =>
    have hfind := M.find_none K hf w'
    cases ok <;> simp [Instr.lookup, run_underlying ht, MapKept.run_getObj_map hb, K.chk, hfind, hz]

theorem mapUpdate.i {t kt : TypeId} {z : Value} (h : Sep E (mapF b enc f :: L) w) (K : KeyOf P kt enc) (hq : mQ P t = some (kt, z)) (k : κ) (v : Value) {G : World → Prop} (g : ∀ w1, Sep E (mapF b enc (upd f k (some v)) :: L) w1 → G w1) :
    ∃ w1, Sem.run P (Instr.mapUpdate t (.map (some b)) (enc k) v) w = .ok () w1 ∧ G w1 := by
  obtain ⟨e, ht, hz⟩ := mQ_of hq
  obtain ⟨es, ck, hb, M⟩ := mapF.at_ (i := 0) h rfl
  cases hf : f k with
  | some v0 =>
    obtain ⟨j, x, hj, hk, hv, hfind⟩ := M.find_some K hf w
    refine ⟨{ w with heap := w.heap.setIfInBounds b (.map (es.set j ({ x with key := enc k, val := v } : MapEntry)).toArray ck) }, ?_, g _ (mapF.set h (M.put K hj hk v))⟩
    obtain ⟨hlt, hge⟩ := List.getElem?_eq_some_iff.1 hj
    have hm : es.modify j (fun e => { e with key := enc k, val := v }) = es.set j { x with key := enc k, val := v } := by
      apply List.ext_getElem?
      intro q
      simp only [List.getElem?_modify, List.getElem?_set]
      by_cases hq : j = q
      · subst hq; simp [hlt, hge]
      · simp [hq]
    simp [Instr.mapUpdate, run_underlying ht, MapKept.run_getObj_map hb, K.chk, hfind, Instr.keyThatStays, hj, hk, K.stay, hm, MapKept.run_setObj_map _ hb]
  | none =>
    have hfind := M.find_none K hf w
    refine ⟨{ w with heap := w.heap.setIfInBounds b (.map (es ++ [({ key := enc k, val := v, born := ck } : MapEntry)]).toArray (ck + 1)) }, ?_, g _ (mapF.set h (M.add K hf v))⟩
    simp [Instr.mapUpdate, run_underlying ht, MapKept.run_getObj_map hb, K.chk, hfind, MapKept.run_setObj_map _ hb]

theorem mapDelete.i {t kt : TypeId} {u ty : TypeId} {z : Value} (h : Sep E (mapF b enc f :: L) w) (K : KeyOf P kt enc) (hq : mQ P t = some (kt, z)) (k : κ) {G : World → Prop} (g : ∀ w1, Sep E (mapF b enc (upd f k none) :: L) w1 → G w1) :
    ∃ w1, Sem.run P (Builtin.delete_ #[t, u] ty #[.map (some b), enc k]) w = .ok (.tuple #[]) w1 ∧ G w1 := by
  obtain ⟨e, ht, hz⟩ := mQ_of hq
  obtain ⟨es, ck, hb, M⟩ := mapF.at_ (i := 0) h rfl
  cases hf : f k with
  | some v0 =>
    obtain ⟨j, x, hj, hk, hv, hfind⟩ := M.find_some K hf w
    obtain ⟨hlt, hge⟩ := List.getElem?_eq_some_iff.1 hj
    refine ⟨{ w with heap := w.heap.setIfInBounds b (.map (es.eraseIdx j).toArray ck) }, ?_, g _ (mapF.set h (M.del K hj hk))⟩
    simp [Builtin.delete_, run_underlying ht, MapKept.run_getObj_map hb, K.chk, hfind, Array.eraseIdxIfInBounds, hlt, MapKept.run_setObj_map _ hb]
  | none =>
    have hfind := M.find_none K hf w
    refine ⟨{ w with heap := w.heap.setIfInBounds b (.map es.toArray ck) }, ?_, g _ (by rw [upd_none hf]; exact mapF.set h M)⟩
    simp [Builtin.delete_, run_underlying ht, MapKept.run_getObj_map hb, K.chk, hfind, MapKept.run_setObj_map _ hb]

end
end Go.Sp
