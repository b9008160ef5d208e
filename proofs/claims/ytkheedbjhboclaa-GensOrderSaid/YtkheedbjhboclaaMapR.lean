/- A range over a map that is owned: nothing is laid into it meanwhile. -/
import Derived.Test.YtkheedbjhboclaaKeys
import Derived.Laws.IdiomRangeMap
namespace Go.Sp
open Go Go.Vc

theorem Sep.weak {E : Env} {A A' : Asn} {L : List Asn} {w : World} (h : Sep E (A :: L) w) (hw : ∀ F, A.holds w.heap F → ∃ F', A'.holds w.heap F' ∧ ∀ x, F' x → F x) : Sep E (A' :: L) w := by
  obtain ⟨he, F, h1, h2, h3⟩ := h
  obtain ⟨F', h4, h5⟩ := hw F h1
  exact ⟨he, F', h4, fun b hb => h2 b (h5 b hb), h3.weaken (fun b hb => hb.imp id (h5 b))⟩

theorem next_run {P : Program} (w : World) (ty : TypeId) (it bm ck : Nat) (seen : Array Nat) (es : Array MapEntry) (hb : w.heap[bm]? = some (.map es ck)) (hi : w.heap[it]? = some (.mapIter (some bm) ck seen ck)) (hold : ∀ x ∈ es.toList, x.born < ck) :
    ((leftOf es seen).size = 0 ∧ (Instr.next (.pointer (some ⟨it, 0, none⟩)) false ty).run P w = .ok (.tuple #[.bool false]) w) ∨
    ∃ e ∈ (leftOf es seen).toList, ∃ w1 : World, World.env w1 = World.env w ∧ w1.heap = w.heap.setIfInBounds it (.mapIter (some bm) ck (seen.push e.born) ck) ∧ (Instr.next (.pointer (some ⟨it, 0, none⟩)) false ty).run P w = .ok (.tuple #[.bool true, e.key, e.val]) w1 := by
  simp only [Instr.next, getObj, Sem.run_bind, Sem.run, hi, hb, Result.andThen, next_test_false seen es ck ck hold (Nat.le_refl _), Bool.false_eq_true, if_false]
  unfold leftOf
  have hmem : ∀ x ∈ (Array.filter (fun e => !seen.contains e.born) es).toList, x.born < ck := fun x hx => hold x (by simp at hx ⊢; exact hx.1)
  generalize Array.filter (fun e => !seen.contains e.born) es = L at hmem ⊢
  have e1 : L.filter (fun x => decide (x.born < ck)) = L := Array.filter_eq_self.2 (fun x hx => by simpa using hmem x (by simpa using hx))
  have e2 : L.filter (fun x => decide (x.born ≥ ck)) = #[] := by
    rw [Array.filter_eq_empty_iff]
    intro x hx
    have := hmem x (by simpa using hx)
    simp
    omega
  simp only [e1, e2, Array.append_empty]
  by_cases h0 : L.size = 0
  · left
    have : L = #[] := Array.eq_empty_of_size_eq_zero h0
    subst this
    refine ⟨rfl, ?_⟩
    simp [choose, Sem.run, Question.forced]
  · right
    have hne : L.isEmpty = false := by simp [Array.isEmpty, h0]
    simp only [hne, Bool.false_eq_true, if_false, Array.empty_append, Array.size_map]
    have hch : ∃ (j : Nat) (w1 : World), j < L.size ∧ World.env w1 = World.env w ∧ w1.heap = w.heap ∧ (choose (Question.mapNext L.size)).run P w = .ok j w1 := by
      by_cases hf : L.size ≤ 1
      · exact ⟨0, w, by omega, rfl, rfl, by simp [choose, Sem.run, Question.forced, hf]⟩
      · exact ⟨_, w.drew, Nat.mod_lt _ (by omega), rfl, rfl, by
          simp only [choose, Sem.run, Question.forced, decide_eq_true_eq, hf, if_false, Question.cut]
          rfl⟩
    obtain ⟨j, w1, hj, hal, hhe, hrun⟩ := hch
    have hi1 : w1.heap[it]? = some (.mapIter (some bm) ck seen ck) := by rw [hhe]; exact hi
    have hset : ∀ (o' : Obj), (setObj it o').run P w1 = .ok () { w1 with heap := w1.heap.setIfInBounds it o' } := fun o' => by
      simp only [setObj, Sem.run, hi1]
    refine ⟨L[j], by simp, { w1 with heap := w1.heap.setIfInBounds it (.mapIter (some bm) ck (seen.push L[j].born) ck) }, hal, by rw [← hhe], ?_⟩
    simp only [hrun, Array.getElem?_map, Array.getElem?_eq_getElem hj, Option.map_some, Sem.run_bind, hset, Result.andThen]
    rfl

theorem entry_run {P : Program} (w : World) (it bm ck : Nat) (seen : Array Nat) (es : Array MapEntry) (e : MapEntry) (hb : w.heap[bm]? = some (.map es ck)) (hi : w.heap[it]? = some (.mapIter (some bm) ck seen ck)) (hs : seen.back? = some e.born)
    (he : e ∈ es.toList) (hn : (es.toList.map (·.born)).Nodup) : (Instr.entry (.pointer (some ⟨it, 0, none⟩))).run P w = .ok (.tuple #[e.key, e.val]) w := by
  have hf : es.find? (·.born == e.born) = some e := by rw [← Array.find?_toList]; exact find_born e es.toList hn he
  simp only [Instr.entry, getObj, Sem.run_bind, Sem.run, hi, hb, Result.andThen, hs, bne_self_eq_false, Bool.false_eq_true, if_false, hf]
  rfl

section
variable {E : Env} {L : List Asn} {w : World} {P : Program} {κ : Type} [DecidableEq κ] {enc : κ → Value} {f : κ → Option Value} {done : κ → Prop} {cur : Option κ} {it b n : Nat}

structure ItOk {κ : Type} (enc : κ → Value) (f : κ → Option Value) (done : κ → Prop) (cur : Option κ) (n : Nat) (es : List MapEntry) (ck : Nat) (seen : Array Nat) : Prop where
  ok : MapOk enc f es ck
  dn : ∀ e ∈ es, ∀ k, e.key = enc k → (seen.contains e.born = true ↔ done k)
  cu : ∀ k, cur = some k → ∃ e ∈ es, e.key = enc k ∧ seen.back? = some e.born
  len : (leftOf es.toArray seen).size = n

/-- A map, and one who goes through it: which keys are behind, which is the last one, how many are still to come. -/
def mapIt {κ : Type} (it b : Nat) (enc : κ → Value) (f : κ → Option Value) (done : κ → Prop) (cur : Option κ) (n : Nat) : Asn :=
  ⟨fun h F => (∃ es ck seen, h[b]? = some (.map es.toArray ck) ∧ h[it]? = some (.mapIter (some b) ck seen ck) ∧ ItOk enc f done cur n es ck seen) ∧ ∀ x, F x ↔ x = b ∨ x = it,
    fun hh hl => ⟨by rw [hl b ((hh.2 b).2 (.inl rfl)), hl it ((hh.2 it).2 (.inr rfl))]; exact hh.1, hh.2⟩⟩

omit [DecidableEq κ] in
theorem mapIt.start {t kt : TypeId} {z : Value} (h : Sep E (mapF b enc f :: L) w) (hq : mQ P t = some (kt, z)) {G : Option Addr → World → Prop} (g : ∀ it w1 n, Sep E (mapIt it b enc f (fun _ => False) none n :: L) w1 → G (some ⟨it, 0, none⟩) w1) :
    ∃ x : Option Addr, ∃ w1, Sem.run P (Instr.range t (.map (some b))) w = .ok (.pointer x) w1 ∧ G x w1 := by
  obtain ⟨e, ht, _⟩ := mQ_of hq
  obtain ⟨es, ck, hb, M⟩ := mapF.at_ (i := 0) h rfl
  have hlt : b < w.heap.size := (Array.getElem?_eq_some_iff.1 hb).1
  refine ⟨_, _, run_range_map w t kt e b es.toArray ck ht hb, g w.heap.size _ (leftOf es.toArray #[]).size ?_⟩
  refine h.change (A' := mapIt w.heap.size b enc f (fun _ => False) none _) rfl (by rw [size_alloc]; omega) (fun F hF hl => ⟨fun x hx _ => (Grow.alloc w _).heap x hx, fun x => x = b ∨ x = w.heap.size, ⟨⟨es, ck, #[], ?_, ?_, M, ?_, ?_, rfl⟩, fun _ => Iff.rfl⟩, fun x hx => ⟨?_, ?_⟩⟩)
  · rw [(Grow.alloc w _).heap b hlt]; exact hb
  · exact heap_alloc w _
  · intro e _ k _; simp
  · intro k hk; cases hk
  · rw [size_alloc]; rcases hx with rfl | rfl <;> omega
  · rcases hx with rfl | rfl
    · exact .inl ((hF.2 _).2 rfl)
    · exact .inr (Nat.le_refl _)

omit [DecidableEq κ] in
theorem mapIt.over (h : Sep E (mapIt it b enc f done cur n :: L) w) : Sep E (mapF b enc f :: L) w :=
  h.weak (fun F ⟨⟨es, ck, _, h1, _, h3⟩, hF⟩ => ⟨fun x => x = b, ⟨⟨es, ck, h1, h3.ok⟩, fun _ => Iff.rfl⟩, fun x hx => (hF x).2 (.inl hx)⟩)

omit [DecidableEq κ] in
theorem mapIt.get (h : Sep E (mapIt it b enc f done cur n :: L) w) : ∃ es ck seen, w.heap[b]? = some (.map es.toArray ck) ∧ w.heap[it]? = some (.mapIter (some b) ck seen ck) ∧ ItOk enc f done cur n es ck seen := by
  obtain ⟨_, F, ⟨h1, _⟩, _⟩ := h; exact h1

/-- How many are still to come. -/
def itLeft (w : World) (it b : Nat) : Nat := match w.heap[b]?, w.heap[it]? with
  | some (.map es _), some (.mapIter _ _ seen _) => (leftOf es seen).size
  | _, _ => 0
omit [DecidableEq κ] in
theorem mapIt.left (h : Sep E (mapIt it b enc f done cur n :: L) w) : itLeft w it b = n := by
  obtain ⟨es, ck, seen, hb, hi, I⟩ := mapIt.get h
  unfold itLeft
  rw [hb, hi]; exact I.len

omit [DecidableEq κ] in
theorem mapIt.next {ty : TypeId} (hinj : ∀ a b, enc a = enc b → a = b) (h : Sep E (mapIt it b enc f done cur n :: L) w) {A : World → Prop} {B : Value → Value → World → Prop}
    (k1 : (∀ k v, f k = some v → done k) → ∀ w', Sep E (mapIt it b enc f done cur n :: L) w' → A w')
    (k2 : ∀ k v n', f k = some v → ¬ done k → n = n' + 1 → ∀ w', Sep E (mapIt it b enc f (fun x => done x ∨ x = k) (some k) n' :: L) w' → B (enc k) v w') :
    (∃ w', Sem.run P (Instr.next (.pointer (some ⟨it, 0, none⟩)) false ty) w = .ok (.tuple #[.bool false]) w' ∧ A w') ∨
    (∃ k v : Value, ∃ w', Sem.run P (Instr.next (.pointer (some ⟨it, 0, none⟩)) false ty) w = .ok (.tuple #[.bool true, k, v]) w' ∧ B k v w') := by
  obtain ⟨es, ck, seen, hb, hi, I⟩ := mapIt.get h
  have M := I.ok
  have hmemL : ∀ e, e ∈ (leftOf es.toArray seen).toList ↔ e ∈ es ∧ seen.contains e.born = false := by
    intro e; unfold leftOf; simp
  rcases next_run (P := P) w ty it b ck seen es.toArray hb hi (fun x hx => M.born x (by simpa using hx)) with ⟨h0, hr⟩ | ⟨e, he, w1, henv, hheap, hr⟩
  · refine .inl ⟨w, hr, k1 (fun k v hk => ?_) w h⟩
    obtain ⟨e, he, hek, _⟩ := M.has k v hk
    refine (I.dn e he k hek).1 ?_
    cases hc : seen.contains e.born with
    | true => rfl
    | false =>
      have : e ∈ (leftOf es.toArray seen).toList := (hmemL e).2 ⟨he, hc⟩
      have := List.length_pos_of_mem this
      rw [Array.length_toList] at this; omega
  · obtain ⟨he1, he2⟩ := (hmemL e).1 he
    obtain ⟨k, hek, hfk⟩ := M.key e he1
    have hnd : ¬ done k := fun hd => by rw [(I.dn e he1 k hek).2 hd] at he2; cases he2
    have hsz := left_shrinks es.toArray seen e he
    refine .inr ⟨e.key, e.val, w1, hr, ?_⟩
    rw [hek]
    -- exactly one less
    have hone : (leftOf es.toArray (seen.push e.born)).size + 1 = (leftOf es.toArray seen).size := by
      have go : ∀ (c : Nat → Bool) (l : List MapEntry), c e.born = false → l.Pairwise (fun a b => a.born ≠ b.born) → e ∈ l → (l.filter fun x => !(c x.born || x.born == e.born)).length + 1 = (l.filter fun x => !c x.born).length := by
        intro c l hc
        induction l with
        | nil => intro _ h; cases h
        | cons x l ih =>
          intro hp hm
          obtain ⟨hp1, hp2⟩ := List.pairwise_cons.1 hp
          rcases List.mem_cons.1 hm with rfl | hm
          · have hrest : l.filter (fun x => !(c x.born || x.born == e.born)) = l.filter (fun x => !c x.born) := by
              apply List.filter_congr
              intro y hy
              have : (y.born == e.born) = false := by simpa using (hp1 y hy).symm
              rw [this, Bool.or_false]
            rw [List.filter_cons, List.filter_cons, hc, hrest]
            simp
          · have := ih hp2 hm
            have hx : (x.born == e.born) = false := by simpa using hp1 e hm
            rw [List.filter_cons, List.filter_cons, hx, Bool.or_false]
            cases c x.born
            · simp only [Bool.not_false, if_true, List.length_cons]; omega
            · simpa using this
      have hg := go (fun y => seen.contains y) es he2 M.bone he1
      have e1 : (leftOf es.toArray (seen.push e.born)).size = (es.filter fun x => !(seen.contains x.born || x.born == e.born)).length := by
        unfold leftOf
        rw [← Array.length_toList, Array.toList_filter]
        congr 2
        funext x
        rw [contains_push]
      have e2 : (leftOf es.toArray seen).size = (es.filter fun x => !seen.contains x.born).length := by
        unfold leftOf
        rw [← Array.length_toList, Array.toList_filter]
      rw [e1, e2]; exact hg
    refine k2 k e.val (leftOf es.toArray (seen.push e.born)).size hfk hnd (by rw [hone]; exact I.len.symm) w1 ?_
    have hit : it < w.heap.size := (Array.getElem?_eq_some_iff.1 hi).1
    refine h.change (A' := mapIt it b enc f (fun x => done x ∨ x = k) (some k) _) henv (by rw [hheap]; simp) (fun F hF hl => ⟨fun x hx hFx => ?_, F, ⟨⟨es, ck, seen.push e.born, ?_, ?_, M, ?_, ?_, rfl⟩, hF.2⟩, fun x hx => ⟨?_, .inl hx⟩⟩)
    · have : it ≠ x := fun e => hFx ((hF.2 x).2 (.inr e.symm))
      rw [hheap, Array.getElem?_setIfInBounds, if_neg this]
    · have : it ≠ b := by
        intro e; rw [e] at hi; rw [hi] at hb; cases hb
      rw [hheap, Array.getElem?_setIfInBounds, if_neg this]; exact hb
    · rw [hheap, Array.getElem?_setIfInBounds, if_pos rfl, if_pos hit]
    · intro e' he' k' hek'
      rw [contains_push, Bool.or_eq_true, I.dn e' he' k' hek']
      refine or_congr Iff.rfl ⟨fun hbe => ?_, fun hk => ?_⟩
      · have hbe := beq_iff_eq.1 hbe
        by_cases hee : e' = e
        · subst hee; exact hinj _ _ (hek'.symm.trans hek)
        · exfalso
          have : e'.born ≠ e.born := by
            have hp := M.bone
            obtain ⟨i, hi1, rfl⟩ := List.mem_iff_getElem.1 he'
            obtain ⟨j, hj1, rfl⟩ := List.mem_iff_getElem.1 he1
            rcases Nat.lt_trichotomy i j with hlt | rfl | hlt
            · exact List.pairwise_iff_getElem.1 hp i j hi1 hj1 hlt
            · exact absurd rfl hee
            · exact (List.pairwise_iff_getElem.1 hp j i hj1 hi1 hlt).symm
          exact this hbe
      · have hkk : e'.key = e.key := by rw [hek', hek, hk]
        have : e' = e := by
          refine Classical.byContradiction fun hee => ?_
          have hp := M.one
          obtain ⟨i, hi1, rfl⟩ := List.mem_iff_getElem.1 he'
          obtain ⟨j, hj1, rfl⟩ := List.mem_iff_getElem.1 he1
          rcases Nat.lt_trichotomy i j with hlt | rfl | hlt
          · exact List.pairwise_iff_getElem.1 hp i j hi1 hj1 hlt hkk
          · exact hee rfl
          · exact List.pairwise_iff_getElem.1 hp j i hj1 hi1 hlt hkk.symm
        rw [this]; simp
    · intro k' hk'
      cases hk'
      exact ⟨e, he1, hek, by simp⟩
    · rw [hheap]; simpa using hl x hx

omit [DecidableEq κ] in
/-- The last one is looked at again. -/
theorem mapIt.entry {k : κ} {v : Value} (h : Sep E (mapIt it b enc f done (some k) n :: L) w) (hinj : ∀ a b, enc a = enc b → a = b) (hf : f k = some v) : Sem.run P (Instr.entry (.pointer (some ⟨it, 0, none⟩))) w = .ok (.tuple #[enc k, v]) w := by
  obtain ⟨es, ck, seen, hb, hi, I⟩ := mapIt.get h
  obtain ⟨e, he, hek, hs⟩ := I.cu k rfl
  obtain ⟨k', hk', hfk⟩ := I.ok.key e he
  have : k' = k := hinj _ _ (hk'.symm.trans hek)
  subst this
  rw [hf] at hfk
  have hv : e.val = v := (Option.some.inj hfk).symm
  rw [← hek, ← hv]
  refine entry_run w it b ck seen es.toArray e hb hi hs (by simpa using he) ?_
  show (es.map (·.born)).Nodup
  rw [List.nodup_iff_pairwise_ne, List.pairwise_map]
  exact I.ok.bone

/-- One that is there is another one now. -/
theorem mapIt.update {t kt : TypeId} {z v0 : Value} (h : Sep E (mapIt it b enc f done cur n :: L) w) (K : KeyOf P kt enc) (hq : mQ P t = some (kt, z)) (k : κ) (v : Value) (hf : f k = some v0) {G : World → Prop}
    (g : ∀ w1, Sep E (mapIt it b enc (upd f k (some v)) done cur n :: L) w1 → G w1) : ∃ w1, Sem.run P (Instr.mapUpdate t (.map (some b)) (enc k) v) w = .ok () w1 ∧ G w1 := by
  obtain ⟨e, ht, hz⟩ := mQ_of hq
  obtain ⟨es, ck, seen, hb, hi, I⟩ := mapIt.get h
  have M := I.ok
  obtain ⟨j, x, hj, hk, hv, hfind⟩ := M.find_some K hf w
  obtain ⟨hlt, hge⟩ := List.getElem?_eq_some_iff.1 hj
  have hm : es.modify j (fun e => { e with key := enc k, val := v }) = es.set j { x with key := enc k, val := v } := by
    apply List.ext_getElem?
    intro q
    simp only [List.getElem?_modify, List.getElem?_set]
    by_cases hq : j = q
    · subst hq; simp [hlt, hge]
    · simp [hq]
  have hbl : b < w.heap.size := (Array.getElem?_eq_some_iff.1 hb).1
  have hxe : ({ x with key := enc k, val := v } : MapEntry).born = x.born := rfl
  have hxm : x ∈ es := List.mem_of_getElem? hj
  -- old and new entries: the same keys and stamps
  have old : ∀ e ∈ es.set j ({ x with key := enc k, val := v } : MapEntry), ∃ e0 ∈ es, e.key = e0.key ∧ e.born = e0.born := by
    intro e he
    obtain ⟨i, hi, rfl⟩ := List.mem_iff_getElem.1 he
    rw [List.getElem_set]
    split
    · exact ⟨x, hxm, hk.symm, rfl⟩
    · exact ⟨_, List.getElem_mem _, rfl, rfl⟩
  have new : ∀ e0 ∈ es, ∃ e ∈ es.set j ({ x with key := enc k, val := v } : MapEntry), e.key = e0.key ∧ e.born = e0.born := by
    intro e0 he
    obtain ⟨i, hi, rfl⟩ := List.mem_iff_getElem.1 he
    refine ⟨(es.set j ({ x with key := enc k, val := v } : MapEntry))[i]'(by simpa using hi), List.getElem_mem _, ?_⟩
    rw [List.getElem_set]
    split
    · next hji => subst hji; rw [hge]; exact ⟨hk.symm, rfl⟩
    · exact ⟨rfl, rfl⟩
  refine ⟨{ w with heap := w.heap.setIfInBounds b (.map (es.set j ({ x with key := enc k, val := v } : MapEntry)).toArray ck) }, ?_, g _ ?_⟩
  · simp [Instr.mapUpdate, run_underlying ht, MapKept.run_getObj_map hb, K.chk, hfind, Instr.keyThatStays, hj, hk, K.stay, hm, MapKept.run_setObj_map _ hb]
  · refine h.change (A' := mapIt it b enc (upd f k (some v)) done cur n) rfl (by simp) (fun F hF hl => ⟨fun y hy hFy => ?_, F, ⟨⟨_, ck, seen, ?_, ?_, M.put K hj hk v, ?_, ?_, ?_⟩, hF.2⟩, fun y hy => ⟨?_, .inl hy⟩⟩)
    · have : b ≠ y := fun e => hFy ((hF.2 y).2 (.inl e.symm))
      show (w.heap.setIfInBounds b _)[y]? = _
      rw [Array.getElem?_setIfInBounds, if_neg this]
    · show (w.heap.setIfInBounds b _)[b]? = _
      rw [Array.getElem?_setIfInBounds, if_pos rfl, if_pos hbl]
    · have : b ≠ it := by
        intro e; rw [e] at hb; rw [hi] at hb; cases hb
      show (w.heap.setIfInBounds b _)[it]? = _
      rw [Array.getElem?_setIfInBounds, if_neg this]; exact hi
    · intro e he k' hek
      obtain ⟨e0, he0, h1, h2⟩ := old e he
      rw [h2]; exact I.dn e0 he0 k' (h1.symm.trans hek)
    · intro k' hk'
      obtain ⟨e0, he0, h1, h2⟩ := I.cu k' hk'
      obtain ⟨e, he, h3, h4⟩ := new e0 he0
      exact ⟨e, he, h3.trans h1, by rw [h4]; exact h2⟩
    · rw [← I.len]
      unfold leftOf
      have go : ∀ (c : Nat → Bool) (l : List MapEntry) (j : Nat) (x y : MapEntry), l[j]? = some x → y.born = x.born → ((l.set j y).filter fun e => !c e.born).length = (l.filter fun e => !c e.born).length := by
        intro c l
        induction l with
        | nil => intro j x y h; simp at h
        | cons a l ih =>
          intro j x y h1 h2
          cases j with
          | zero =>
            simp only [List.getElem?_cons_zero, Option.some.injEq] at h1
            subst h1
            rw [List.set_cons_zero, List.filter_cons, List.filter_cons, h2]
            cases c a.born <;> simp
          | succ j =>
            rw [List.set_cons_succ, List.filter_cons, List.filter_cons]
            have := ih j x y (by simpa using h1) h2
            cases c a.born
            · simp only [Bool.not_false, if_true, List.length_cons]; omega
            · simpa using this
      have hg := go (fun y => seen.contains y) es j x { x with key := enc k, val := v } hj rfl
      rw [← Array.length_toList, Array.toList_filter, ← Array.length_toList, Array.toList_filter]
      exact hg
    · simpa using hl y hy

end
end Go.Sp
