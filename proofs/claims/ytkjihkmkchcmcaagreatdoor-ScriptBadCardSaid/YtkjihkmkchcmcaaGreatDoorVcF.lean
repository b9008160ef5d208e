/- The VC generator, part F: it is sound (code). -/
import Derived.Test.YtkjihkmkchcmcaaGreatDoorVcE
import Derived.Deep.LoopGhost
import Derived.Deep.Quiet
import Derived.Test.YtkjihkmkchcmcaaGreatDoorVcS
namespace Go.Vc
open Go

section
variable {P : Program} {τ : TypeId → K1} {ρ : TypeId → Kd} {pan : FuncId → Bool} {A : Ann}

def okCode (P : Program) (N : Nat) (A : Ann) : Code → Bool
  | .region id ops draw => okOps P N ops.toList && (!draw || (match A.sig id with | some (σ, effs) => sigB ops σ effs | none => bif A.fork id then true else bif A.calm id then Region.lexB .any ops else bif A.head id == ops.size then Region.lexB .any ops else Region.lexTailB .any ops (A.head id)))
  | .seq x y => okCode P N A x && okCode P N A y && (match joinOf A y with | some ks => okW x && okSB ks | none => true)
  | .cond _ x y => okCode P N A x && okCode P N A y
  | .block _ c => okCode P N A c
  | .loop c => okCode P N A c && okW c && okSB (A.loop ((firstRegion c).getD 0))
  | .scope c => okCode P N A c && okW c && (match labelOf c with | some l => (match A.goto l with | some ks => okSB ks | none => true) | none => true)
  | _ => true

theorem vOps_run {N : Nat} (hN : N ≤ 8000) {ops : Array Oper} (hops : okOps P N ops.toList = true) {Q : Exit → Tr → World → Prop} {Q' : Exit → Act → World → Prop} : ∀ (l : List Oper) (T : Tr) (a : Act) (w : World), okOps P N l = true → Rel N T a →
    vOps P τ ρ pan A ops Q l T w → (∀ e T' w' a', Q e T' w' → Fr (wrOps l) T T' → Rel N T' a' → Q' e a' w') → wpList P ops Q' l a w
  | [], T, a, w, _, hr, h, hq => hq _ _ _ _ h (.refl _ _) hr
  | o :: l, T, a, w, hok, hr, h, hq => by
    have hok' := okOps_tail hok
    have hc := okOps_conv hok (List.mem_cons_self (a := o) (l := l))
    have hdst := okOps_dst hok (List.mem_cons_self (a := o) (l := l))
    have hsub : ∀ t, t ∈ wrOps l → t ∈ wrOps (o :: l) := fun t ht => by
      unfold wrOps at ht ⊢; rw [List.filterMap_cons]; split <;> simp_all
    have hmem : ∀ t, o.dst = some t → t ∈ wrOps (o :: l) ∧ t < 8000 := fun t ht => ⟨by simp [wrOps, ht], Nat.lt_of_lt_of_le (hdst t ht) hN⟩
    refine vGuard_run (B := wpList P ops Q' (o :: l) a w) hN hops hr h ?_ ?_
    · intro T' hs hy hw
      unfold wpList
      rw [hw, if_pos rfl]
      have hr' := hr.same hs
      have hfr : Fr (wrOps (o :: l)) T T' := fun t _ => hs t
      refine .inl (vOp_run hr' hc hy (fun v w' h' => ?_) (fun ch w' hch => hq _ _ _ _ hch hfr hr'))
      exact vOps_run hN hops l _ _ _ hok' (hr'.put hN hdst v) h' (fun e T2 w2 a2 he hf hr2 => hq e T2 w2 a2 he ((hfr.trans (Fr.put _ _ _ _ hmem)).trans (hf.mono hsub)) hr2)
    · intro T' hs hn hw
      unfold wpList
      rw [hw, if_neg (by decide)]
      have hr' := hr.same hs
      have hfr : Fr (wrOps (o :: l)) T T' := fun t _ => hs t
      exact vOps_run hN hops l _ _ _ hok' (hr'.put hN hdst undef) hn (fun e T2 w2 a2 he hf hr2 => hq e T2 w2 a2 he ((hfr.trans (Fr.put _ _ _ _ hmem)).trans (hf.mono hsub)) hr2)

theorem vQs_run {N : Nat} (hN : N ≤ 8000) {ops : Array Oper} (hops : okOps P N ops.toList = true) {w : World} {Q : Tr → Prop} {Q' : Act → Prop} : ∀ (l : List Oper) (T : Tr) (a : Act), okOps P N l = true → Rel N T a → vQs P τ ρ ops w Q l T →
    (∀ T' a', Q T' → Fr (wrOps l) T T' → Rel N T' a' → Q' a') → wpStill P ops w Q' l a
  | [], T, a, _, hr, h, hq => hq _ _ h (.refl _ _) hr
  | o :: l, T, a, hok, hr, h, hq => by
    have hok' := okOps_tail hok
    have hc := okOps_conv hok (List.mem_cons_self (a := o) (l := l))
    have hdst := okOps_dst hok (List.mem_cons_self (a := o) (l := l))
    have hsub : ∀ t, t ∈ wrOps l → t ∈ wrOps (o :: l) := fun t ht => by
      unfold wrOps at ht ⊢; rw [List.filterMap_cons]; split <;> simp_all
    have hmem : ∀ t, o.dst = some t → t ∈ wrOps (o :: l) ∧ t < 8000 := fun t ht => ⟨by simp [wrOps, ht], Nat.lt_of_lt_of_le (hdst t ht) hN⟩
    refine vGuard_run (B := wpStill P ops w Q' (o :: l) a) hN hops hr h ?_ ?_
    · intro T' hs hy hw
      unfold wpStill
      rw [hw, if_pos rfl]
      have hr' := hr.same hs
      have hfr : Fr (wrOps (o :: l)) T T' := fun t _ => hs t
      rw [← hr'.ev] at hy
      obtain ⟨v, h1, h2⟩ := vQ_run hc hy
      unfold Oper.still
      rw [h1 w (fun _ => .refl w)]
      exact ⟨rfl, vQs_run hN hops l _ _ hok' (hr'.put hN hdst v) h2 (fun T2 a2 he hf hr2 => hq T2 a2 he ((hfr.trans (Fr.put _ _ _ _ hmem)).trans (hf.mono hsub)) hr2)⟩
    · intro T' hs hn hw
      unfold wpStill
      rw [hw, if_neg (by decide)]
      have hr' := hr.same hs
      have hfr : Fr (wrOps (o :: l)) T T' := fun t _ => hs t
      exact vQs_run hN hops l _ _ hok' (hr'.put hN hdst undef) hn (fun T2 a2 he hf hr2 => hq T2 a2 he ((hfr.trans (Fr.put _ _ _ _ hmem)).trans (hf.mono hsub)) hr2)

theorem vQC_run {o : Oper} {a : Act} {w : World} {f : Value → Prop} (hc : ∀ s d x, o.op = .convert s d x → (P.underlying s).isSome = true) (h : vQC P τ ρ o a.eval w f) :
    ∃ v, (∀ w', Grow w w' → o.quietAt P a (Grow w) w' v) ∧ f v := by
  unfold vQC at h
  split at h
  · rename_i g args ts ho
    unfold vQCall at h
    split at h
    · rename_i g' fi ca hg
      split at h
      · rename_i hb
        obtain ⟨v, h1, h2⟩ := Kd.ex_some h
        refine ⟨v, fun w' hg' => ?_, h2⟩
        unfold okFnB at hb
        split at hb
        · rename_i fn hfn
          simp only [Bool.and_eq_true, Bool.not_eq_true', beq_eq_false_iff_ne] at hb
          obtain ⟨hb1, hb2⟩ := hb
          have hr : (execOp a.eval o).run P w' = .ok (.enter g' (fi ++ args.map a.eval ++ ca)) w' := by
            have hnone : ¬ fn.body = none := by intro hx; simp [hx] at hb1
            simp [execOp, ho, resolve, hg, Deferred.ofValue, invoke, callFunc, hfn, hb2, hnone]
          unfold Oper.quietAt
          rw [hr]
          exact ⟨rfl, (h1 w' hg').mono fun e w2 he => ⟨he.1, hg'.trans he.2⟩⟩
        · cases hb
      · exact h.elim
    · exact h.elim
  · obtain ⟨v, h1, h2⟩ := vQ_run hc h
    refine ⟨v, fun w' hg' => ?_, h2⟩
    unfold Oper.quietAt
    rw [h1 w' (fun _ => hg')]
    exact ⟨rfl, rfl⟩

theorem vQCs_run {N : Nat} (hN : N ≤ 8000) {ops : Array Oper} (hops : okOps P N ops.toList = true) {w : World} {Q : Tr → Prop} {Q' : Act → Prop} : ∀ (l : List Oper) (T : Tr) (a : Act), okOps P N l = true → Rel N T a → vQCs P τ ρ ops w Q l T →
    (∀ T' a', Q T' → Fr (wrOps l) T T' → Rel N T' a' → Q' a') → wpQuiet P ops (Grow w) Q' l a
  | [], T, a, _, hr, h, hq => hq _ _ h (.refl _ _) hr
  | o :: l, T, a, hok, hr, h, hq => by
    have hok' := okOps_tail hok
    have hc := okOps_conv hok (List.mem_cons_self (a := o) (l := l))
    have hdst := okOps_dst hok (List.mem_cons_self (a := o) (l := l))
    have hsub : ∀ t, t ∈ wrOps l → t ∈ wrOps (o :: l) := fun t ht => by
      unfold wrOps at ht ⊢; rw [List.filterMap_cons]; split <;> simp_all
    have hmem : ∀ t, o.dst = some t → t ∈ wrOps (o :: l) ∧ t < 8000 := fun t ht => ⟨by simp [wrOps, ht], Nat.lt_of_lt_of_le (hdst t ht) hN⟩
    refine vGuard_run (B := wpQuiet P ops (Grow w) Q' (o :: l) a) hN hops hr h ?_ ?_
    · intro T' hs hy hw
      unfold wpQuiet
      rw [hw, if_pos rfl]
      have hr' := hr.same hs
      have hfr : Fr (wrOps (o :: l)) T T' := fun t _ => hs t
      rw [← hr'.ev] at hy
      obtain ⟨v, h1, h2⟩ := vQC_run hc hy
      exact ⟨v, h1, vQCs_run hN hops l _ _ hok' (hr'.put hN hdst v) h2 (fun T2 a2 he hf hr2 => hq T2 a2 he ((hfr.trans (Fr.put _ _ _ _ hmem)).trans (hf.mono hsub)) hr2)⟩
    · intro T' hs hn hw
      unfold wpQuiet
      rw [hw, if_neg (by decide)]
      have hr' := hr.same hs
      have hfr : Fr (wrOps (o :: l)) T T' := fun t _ => hs t
      exact vQCs_run hN hops l _ _ hok' (hr'.put hN hdst undef) hn (fun T2 a2 he hf hr2 => hq T2 a2 he ((hfr.trans (Fr.put _ _ _ _ hmem)).trans (hf.mono hsub)) hr2)

theorem vEach_mem {f : Nat → Prop} : ∀ {l : List Nat}, vEach f l → ∀ i ∈ l, f i
  | [], _, _, h => by cases h
  | _ :: _, h, i, hi => by
    rcases List.mem_cons.1 hi with rfl | hi
    · exact h.1
    · exact vEach_mem h.2 i hi

theorem vAny_run {N : Nat} (hN : N ≤ 8000) {ops : Array Oper} (hops : okOps P N ops.toList = true) {Q : Exit → Tr → World → Prop} {Q' : Exit → Act → World → Prop} {T0 : Tr} (hq : ∀ e T' w' a', Q e T' w' → Fr (wrOps ops.toList) T0 T' → Rel N T' a' → Q' e a' w') :
    ∀ (fuel : Nat) (listed : Array Bool) (T : Tr) (a : Act) (w : World), Fr (wrOps ops.toList) T0 T → Rel N T a → vAny P τ ρ pan A ops Q fuel listed T w → wpAny P .any ops Q' fuel listed a w
  | 0, listed, T, a, w, hf, hr, h => by
    unfold vAny at h
    unfold wpAny
    split at h
    · next e => exact ⟨e, hq _ _ _ _ h hf hr⟩
    · exact h.elim
  | fuel + 1, listed, T, a, w, hf, hr, h => by
    unfold vAny at h
    unfold wpAny
    split at h
    · next e =>
      refine ⟨fun _ => hq _ _ _ _ h hf hr, fun i hi => ?_⟩
      rw [e] at hi; cases hi
    · next i0 l0 e =>
      refine ⟨fun e2 => (by rw [e] at e2; cases e2), fun i hi => ?_⟩
      rw [e] at hi
      have hv := vEach_mem h i hi
      unfold wpOp
      cases ho : ops[i]? with
      | none => simp only [ho] at hv
      | some o =>
        simp only [ho] at hv
        have hmo : o ∈ ops.toList := by
          have := Array.mem_of_getElem? ho
          simpa using this
        have hc := okOps_conv hops hmo
        have hdst := okOps_dst hops hmo
        have hmem : ∀ t, o.dst = some t → t ∈ wrOps ops.toList ∧ t < 8000 := fun t ht => ⟨by unfold wrOps; exact List.mem_filterMap.2 ⟨o, hmo, ht⟩, Nat.lt_of_lt_of_le (hdst t ht) hN⟩
        refine vGuard_run (B := if Region.wanted o (yielded ops a.tmps) then o.wp P a w (wpAny P .any ops Q' fuel (listed.setIfInBounds i true)) Q' ∨ (o.asks P a w ∧ LetsOut Q') else wpAny P .any ops Q' fuel (listed.setIfInBounds i true) (a.put o.dst undef) w) hN hops hr hv ?_ ?_
        · intro T' hs hy hw
          rw [hw, if_pos rfl]
          have hr' := hr.same hs
          have hf' : Fr (wrOps ops.toList) T0 T' := hf.trans (fun t _ => hs t)
          refine .inl (vOp_run hr' hc hy (fun v w' h' => ?_) (fun ch w' hch => hq _ _ _ _ hch hf' hr'))
          exact vAny_run hN hops hq fuel _ _ _ _ (hf'.trans (Fr.put _ _ _ _ hmem)) (hr'.put hN hdst v) h'
        · intro T' hs hn hw
          rw [hw, if_neg (by decide)]
          have hr' := hr.same hs
          have hf' : Fr (wrOps ops.toList) T0 T' := hf.trans (fun t _ => hs t)
          exact vAny_run hN hops hq fuel _ _ _ _ (hf'.trans (Fr.put _ _ _ _ hmem)) (hr'.put hN hdst undef) hn

/-- The region's rule, with the frame. -/
theorem vRegion_run (hm : P.follows .mixedOrders = true) {N : Nat} (hN : N ≤ 8000) {id : Nat} {ops : Array Oper} {draw : Bool} {Q : Exit → Tr → World → Prop} {Q' : Exit → Act → World → Prop} {T : Tr} {a : Act} {w : World}
    (hok : okCode P N A (.region id ops draw) = true) (hr : Rel N T a) (h : vRegion P τ ρ pan A id ops draw Q T w) (hq : ∀ e T' w' a', Q e T' w' → Fr (wrOps ops.toList) T T' → Rel N T' a' → Q' e a' w') :
    (Code.region id ops draw).wp P Q' a w := by
  unfold okCode at hok
  simp only [Bool.and_eq_true] at hok
  obtain ⟨ho, hd⟩ := hok
  unfold vRegion at h
  cases draw with
  | false => exact wp_region_list (vOps_run hN ho _ _ _ _ ho hr h hq)
  | true =>
    simp only [Bool.not_true, Bool.false_or] at hd
    dsimp only at h
    split at h
    · rename_i σ effs hsig
      rw [hsig] at hd
      exact wp_region_sig hm hN ho hd hr h (fun T' w' a' h1 h2 h3 => hq _ _ _ _ h1 h2 h3) (fun ch T' w' a' h1 h2 h3 => hq _ _ _ _ h1 h2 h3)
    rename_i hsig
    rw [hsig] at hd
    dsimp only at hd
    cases hfork : A.fork id with
    | true =>
      rw [hfork, cond_true] at h
      refine wp_region_any hm ?_
      exact vAny_run hN ho (fun e T' w' a' h1 h2 h3 => hq e T' w' a' h1 h2 h3) _ _ _ _ _ (Fr.refl _ _) hr h
    | false =>
    rw [hfork, cond_false] at h hd
    cases hcalm : A.calm id with
    | true =>
      rw [hcalm, cond_true] at hd
      rw [hcalm, cond_true] at h
      refine wp_region_quiet (C := Grow w) hm hd (Grow.drew w) ?_
      exact vQCs_run hN ho _ _ _ ho hr h (fun T' a' hd' hf hr' w' hw' => hq _ _ _ _ (hd' w' hw') hf hr')
    | false =>
    rw [hcalm, cond_false] at hd
    rw [hcalm, cond_false] at h
    unfold Dr at h
    have hsplit : ops.toList = ops.toList.take (A.head id) ++ ops.toList.drop (A.head id) := (List.take_append_drop _ _).symm
    have hof : ∀ {l l' : List Oper}, okOps P N (l ++ l') = true → okOps P N l = true ∧ okOps P N l' = true := by
      intro l l' h; unfold okOps at h ⊢; rw [List.all_append, Bool.and_eq_true] at h; exact h
    have ho' := ho
    rw [hsplit] at ho'
    obtain ⟨ho1, ho2⟩ := hof ho'
    have hw : wrOps ops.toList = wrOps (ops.toList.take (A.head id)) ++ wrOps (ops.toList.drop (A.head id)) := by
      unfold wrOps; rw [← List.filterMap_append, ← hsplit]
    cases hall : A.head id == ops.size with
    | true =>
      rw [hall, cond_true] at hd
      have hn : A.head id = ops.size := by simpa using hall
      have ht : ops.toList.take (A.head id) = ops.toList := List.take_of_length_le (by rw [hn]; simp)
      have hdr : ops.toList.drop (A.head id) = [] := List.drop_of_length_le (by rw [hn]; simp)
      rw [ht, hdr] at h
      refine wp_region_still hm hd ?_
      exact vQs_run hN ho _ _ _ ho hr h (fun T' a' ha' hf hr' => hq _ _ _ _ ha' hf hr')
    | false =>
      rw [hall, cond_false] at hd
      obtain ⟨l⟩ := ops
      refine wp_region_still_tail (l := l) (A.head id) hm hd ?_
      refine vQs_run hN ho _ _ _ ho1 hr h (fun T' a' ha' hf hr' => ?_)
      refine vOps_run hN ho _ _ _ _ ho2 hr' ha' (fun e T2 w2 a2 he hf' hr2 => hq _ _ _ _ he ?_ hr2)
      rw [hw]
      exact (hf.mono (fun t ht => List.mem_append_left _ ht)).trans (hf'.mono (fun t ht => List.mem_append_right _ ht))

/-! ### loops -/

/-- For some contents of the slots. -/
def ExS : (l : List (Nat × C1)) → InvT l → MeaT l → Tr → (Tr → (World → Prop) → (World → Nat) → Prop) → Prop
  | [], I, μ, T, K => K T I μ
  | (s, c) :: l, I, μ, T, K => ∃ x : c.ty, ExS l (I x) (μ x) (T.put (some s) (c.mk x)) K

theorem AllS_ExS : ∀ (l : List (Nat × C1)) (I : InvT l) (μ : MeaT l) (T : Tr) (K K' : Tr → (World → Prop) → (World → Nat) → Prop), AllS l I μ T K → ExS l I μ T K' →
    ∃ T' I' μ', K T' I' μ' ∧ K' T' I' μ'
  | [], I, μ, T, _, _, h, h' => ⟨T, I, μ, h, h'⟩
  | (_, _) :: l, I, μ, _, K, K', h, ⟨x, h'⟩ => AllS_ExS l (I x) (μ x) _ K K' (h x) h'

theorem Fr.put' {S : List Nat} {a b : Tr} {s : Nat} {v : Value} (hs : s < 8000) (h : Fr (s :: S) a b) (hv : b.get s = v) : Fr S (a.put (some s) v) b := by
  intro t ht
  rw [Tr.get_put a s t v hs]
  split
  · rename_i e; subst e; exact hv
  · rename_i e; exact h t (by simp only [List.mem_cons, not_or]; exact ⟨e, ht⟩)

theorem InvLt_ExS : ∀ (l : List (Nat × C1)) (I : InvT l) (μ : MeaT l) (m : Nat) (T B : Tr) (w : World), okS l → InvLt l I μ m T w → Fr (l.map (·.1)) B T →
    ∃ n, n < m ∧ ExS l I μ B (fun T'' I' μ' => (∀ t, T.get t = T''.get t) ∧ I' w ∧ μ' w = n)
  | [], I, μ, m, T, B, w, _, h, ho => ⟨μ w, h.2, fun t => ho t (by simp), h.1, rfl⟩
  | (s, c) :: l, I, μ, m, T, B, w, hs, h, ho => by
    unfold InvLt at h
    split at h
    · rename_i x hx
      obtain ⟨n, hn, h'⟩ := InvLt_ExS l (I x) (μ x) m T (B.put (some s) (c.mk x)) w (fun y hy => hs y (List.mem_cons_of_mem _ hy)) h (Fr.put' (hs _ (List.mem_cons_self ..)) ho (C1.un_some hx))
      exact ⟨n, hn, x, h'⟩
    · exact h.elim

theorem InvAt_ExS : ∀ (l : List (Nat × C1)) (I : InvT l) (μ : MeaT l) (T B : Tr) (w : World), okS l → InvAt l I T w → Fr (l.map (·.1)) B T →
    ∃ n, ExS l I μ B (fun T'' I' μ' => (∀ t, T.get t = T''.get t) ∧ I' w ∧ μ' w = n)
  | [], I, μ, T, B, w, _, h, ho => ⟨μ w, fun t => ho t (by simp), h, rfl⟩
  | (s, c) :: l, I, μ, T, B, w, hs, h, ho => by
    unfold InvAt at h
    split at h
    · rename_i x hx
      obtain ⟨n, h'⟩ := InvAt_ExS l (I x) (μ x) T (B.put (some s) (c.mk x)) w (fun y hy => hs y (List.mem_cons_of_mem _ hy)) h (Fr.put' (hs _ (List.mem_cons_self ..)) ho (C1.un_some hx))
      exact ⟨n, x, h'⟩
    · exact h.elim

theorem ExS_fr : ∀ (l : List (Nat × C1)) (I : InvT l) (μ : MeaT l) (B : Tr) (K : Tr → (World → Prop) → (World → Nat) → Prop) (T : Tr), okS l → ExS l I μ B K → (∀ T'' I' μ', K T'' I' μ' → ∀ t, T.get t = T''.get t) →
    Fr (l.map (·.1)) B T
  | [], I, μ, B, K, T, _, h, hk => fun t _ => hk _ _ _ h t
  | (s, _) :: l, I, μ, B, K, T, hs, ⟨x, h⟩, hk => by
    have := ExS_fr l (I x) (μ x) _ K T (fun y hy => hs y (List.mem_cons_of_mem _ hy)) h hk
    intro t ht
    simp only [List.map_cons, List.mem_cons, not_or] at ht
    rw [this t ht.2, Tr.get_put B s t _ (hs _ (List.mem_cons_self ..)), if_neg ht.1]

theorem putDead_fr (u : Nat → Value) : ∀ (l : List Nat) (T : Tr), (∀ s ∈ l, s < 8000) → Fr l T (putDead u l T)
  | [], _, _ => fun _ _ => rfl
  | s :: l, T, hs => by
    intro t ht
    simp only [List.mem_cons, not_or] at ht
    show (putDead u l (T.put (some s) (u s))).get t = _
    rw [putDead_fr u l _ (fun y hy => hs y (List.mem_cons_of_mem _ hy)) t ht.2, Tr.get_put T s t _ (hs _ (List.mem_cons_self ..)), if_neg ht.1]

/-- What is read in T of the dead slots, put into B: the two agree there. -/
theorem putDead_of (T : Tr) (S : List Nat) : ∀ (l : List Nat) (B : Tr), (∀ s ∈ l, s < 8000) → Fr (l ++ S) B T → Fr S (putDead (fun t => T.get t) l B) T
  | [], _, _, h => h
  | _ :: l, _, hs, h => putDead_of T S l _ (fun y hy => hs y (List.mem_cons_of_mem _ hy)) (Fr.put' (hs _ (List.mem_cons_self ..)) h rfl)

theorem mem_dead {W : List Nat} {l : List (Nat × C1)} {t : Nat} (h : t ∈ W) : t ∈ deadOf W l ++ l.map (·.1) := by
  unfold deadOf
  by_cases hs : t ∈ l.map (·.1)
  · exact List.mem_append_right _ hs
  · exact List.mem_append_left _ (List.mem_filter.2 ⟨h, by simpa using hs⟩)

theorem dead_lt {W : List Nat} {l : List (Nat × C1)} (h : ∀ t ∈ W, t < 8000) : ∀ s ∈ deadOf W l, s < 8000 := fun s hs => h s (List.mem_filter.1 hs).1

/-- One round: from the pattern at n to the pattern at less. -/
theorem round_step {W : List Nat} {l : List (Nat × C1)} {I : InvT l} {μ : MeaT l} {T0 T1 T3 : Tr} {w3 : World} {m : Nat} {u : Nat → Value} {K : Tr → (World → Prop) → (World → Nat) → Prop}
    (hW : ∀ t ∈ W, t < 8000) (hl : okS l) (hex : ExS l I μ (putDead u (deadOf W l) T0) K) (hk : ∀ T'' I' μ', K T'' I' μ' → ∀ t, T1.get t = T''.get t) (hf3 : Fr W T1 T3) (h3 : InvLt l I μ m T3 w3) :
    ∃ n, n < m ∧ ExS l I μ (putDead (fun t => T3.get t) (deadOf W l) T0) (fun T'' I' μ' => (∀ t, T3.get t = T''.get t) ∧ I' w3 ∧ μ' w3 = n) := by
  refine InvLt_ExS l I μ m T3 _ w3 hl h3 (putDead_of T3 _ _ _ (dead_lt hW) ?_)
  have h1 := ExS_fr l I μ _ K T1 hl hex hk
  have h2 := putDead_fr u (deadOf W l) T0 (dead_lt hW)
  intro t ht
  simp only [List.mem_append, not_or] at ht
  have htW : t ∉ W := fun h => by rcases List.mem_append.1 (mem_dead (l := l) h) with h | h; · exact ht.1 h
                                  · exact ht.2 h
  rw [hf3 t htW, h1 t ht.2, h2 t ht.1]

theorem vLoop_run {N : Nat} {c : Code} {l : List (Nat × C1)} {body : (Tr → World → Prop) → Tr → World → Prop} {Q : Exit → Tr → World → Prop} {Q' : Exit → Act → World → Prop} {T : Tr} {a : Act} {w : World}
    (hW : ∀ t ∈ wr c, t < 8000) (hl : okS l) (hr : Rel N T a)
    (hbody : ∀ (next : Tr → World → Prop) (next' : Act → World → Prop) T a w, Rel N T a → body next T w → (∀ T' w' a', next T' w' → Fr (wr c) T T' → Rel N T' a' → next' a' w') →
      (∀ e T' w' a', Q e T' w' → Fr (wr c) T T' → Rel N T' a' → Q' e a' w') → c.wp P (Exit.then next' Q') a w)
    (hq : ∀ B, Fr (wr c) T B → ∀ e T' w' a', Q e T' w' → Fr (wr c) B T' → Rel N T' a' → Q' e a' w')
    (h : vLoop l (wr c) body T w) : (Code.loop c).wp P Q' a w := by
  obtain ⟨I, μ, h0, h⟩ := h
  let J : Nat → Act → World → Prop := fun n a' w' => ∃ T', Rel N T' a' ∧ Fr (wr c) T T' ∧ ∃ u : Nat → Value, ExS l I μ (putDead u (deadOf (wr c) l) T) (fun T'' I' μ' => (∀ t, T'.get t = T''.get t) ∧ I' w' ∧ μ' w' = n)
  have h00 : ∃ n, J n a w := by
    obtain ⟨n, hn⟩ := InvAt_ExS l I μ T _ w hl h0 (putDead_of T _ _ T (dead_lt hW) (fun _ _ => rfl))
    exact ⟨n, T, hr, .refl _ _, _, hn⟩
  obtain ⟨n0, h00⟩ := h00
  refine wp_loop_ghost J n0 h00 ?_
  rintro n a1 w1 ⟨T1, hr1, hfr, u, hex⟩
  obtain ⟨T2, I', μ', hK, hsame, hI, rfl⟩ := AllS_ExS l I μ _ _ _ (h u) hex
  have hr2 : Rel N T2 a1 := hr1.same (fun t => (hsame t).symm)
  have hfr2 : Fr (wr c) T T2 := fun t ht => (hsame t).symm.trans (hfr t ht)
  refine hbody _ _ _ _ _ hr2 (hK w1 hI) (fun T3 w3 a3 h3 hf3 hr3 => ?_) (fun e T3 w3 a3 he hf3 hr3 => hq _ hfr2 _ _ _ _ he hf3 hr3)
  have hf13 : Fr (wr c) T1 T3 := fun t ht => (hf3 t ht).trans (hsame t).symm
  obtain ⟨m, hm, hex'⟩ := round_step hW hl hex (fun _ _ _ h => h.1) hf13 h3
  exact ⟨m, hm, T3, hr3, hfr2.trans hf3, _, hex'⟩

theorem findLabel_wr : ∀ (c : Code) (l : Nat) (rest : Code), findLabel c l = some rest → ∀ t, t ∈ wr rest → t ∈ wr c := by
  intro c
  induction c with
  | seq x y ihx ihy =>
    intro l rest h t ht
    unfold findLabel at h
    split at h
    · rename_i r hr
      injection h with h; subst h
      rcases List.mem_append.1 ht with ht | ht
      · exact List.mem_append_left _ (ihx _ _ hr _ ht)
      · exact List.mem_append_right _ ht
    · exact List.mem_append_right _ (ihy _ _ h _ ht)
  | label l' =>
    intro l rest h t ht
    unfold findLabel at h
    split at h
    · injection h with h; subst h; cases ht
    · cases h
  | _ => intro l rest h; simp [findLabel] at h

theorem findLabel_ok {N : Nat} : ∀ (c : Code) (l : Nat) (rest : Code), findLabel c l = some rest → okCode P N A c = true → okCode P N A rest = true := by
  intro c
  induction c with
  | seq x y ihx ihy =>
    intro l rest h hok
    unfold okCode at hok
    simp only [Bool.and_eq_true] at hok
    unfold findLabel at h
    split at h
    · rename_i r hr
      injection h with h; subst h
      unfold okCode
      simp only [Bool.and_eq_true]
      refine ⟨⟨ihx _ _ hr hok.1.1, hok.1.2⟩, ?_⟩
      have h3 := hok.2
      split
      · rename_i ks hks
        rw [hks] at h3
        simp only [Bool.and_eq_true] at h3 ⊢
        refine ⟨?_, h3.2⟩
        unfold okW
        rw [List.all_eq_true]
        intro t ht
        have := okW_lt h3.1 t (findLabel_wr _ _ _ hr t ht)
        simpa using this
      · rfl
    · exact ihy _ _ h hok.1.2
  | label l' =>
    intro l rest h hok
    unfold findLabel at h
    split at h
    · injection h with h; subst h; rfl
    · cases h
  | _ => intro l rest h; simp [findLabel] at h

theorem vScope_run {N : Nat} {c rest : Code} {lab : Nat} {l : List (Nat × C1)} {first pass : (Tr → World → Prop) → Tr → World → Prop} {Q : Exit → Tr → World → Prop} {Q' : Exit → Act → World → Prop} {T : Tr} {a : Act} {w : World}
    (hW : ∀ t ∈ wr c, t < 8000) (hl : okS l) (hr : Rel N T a) (hf : findLabel c lab = some rest)
    (hfirst : ∀ (J : Tr → World → Prop) (J' : Act → World → Prop) T a w, Rel N T a → first J T w → (∀ T' w' a', J T' w' → Fr (wr c) T T' → Rel N T' a' → J' a' w') →
      (∀ e T' w' a', Q e T' w' → Fr (wr c) T T' → Rel N T' a' → Q' e a' w') → c.wp P (Exit.jump lab J' Q') a w)
    (hpass : ∀ (J : Tr → World → Prop) (J' : Act → World → Prop) T a w, Rel N T a → pass J T w → (∀ T' w' a', J T' w' → Fr (wr c) T T' → Rel N T' a' → J' a' w') →
      (∀ e T' w' a', Q e T' w' → Fr (wr c) T T' → Rel N T' a' → Q' e a' w') → rest.wp P (Exit.jump lab J' Q') a w)
    (hq : ∀ B, Fr (wr c) T B → ∀ e T' w' a', Q e T' w' → Fr (wr c) B T' → Rel N T' a' → Q' e a' w')
    (h : vScope l (wr c) first pass T w) : (Code.scope c).wp P Q' a w := by
  obtain ⟨I, μ, h0, h⟩ := h
  let J : Nat → Act → World → Prop := fun n a' w' => ∃ T', Rel N T' a' ∧ Fr (wr c) T T' ∧ ∃ u : Nat → Value, ExS l I μ (putDead u (deadOf (wr c) l) T) (fun T'' I' μ' => (∀ t, T'.get t = T''.get t) ∧ I' w' ∧ μ' w' = n)
  refine wp_scope_jumps lab (fun a w => ∃ n, J n a w) (fun a w => leastOf (fun n => J n a w)) hf ?_ ?_
  · refine hfirst _ _ _ _ _ hr h0 (fun T' w' a' hi hfr hr' => ?_) (fun e T' w' a' he hfr hr' => hq _ (.refl _ _) _ _ _ _ he hfr hr')
    obtain ⟨n, hn⟩ := InvAt_ExS l I μ T' _ w' hl hi (putDead_of T' _ _ T (dead_lt hW) (hfr.mono (fun t ht => mem_dead ht)))
    exact ⟨n, T', hr', hfr, _, hn⟩
  · intro a1 w1 hJ
    obtain ⟨hJ1, _⟩ := leastOf_spec hJ
    generalize leastOf (fun n => J n a1 w1) = n at hJ1
    obtain ⟨T1, hr1, hfr, u, hex⟩ := hJ1
    obtain ⟨T2, I', μ', hK, hsame, hI, rfl⟩ := AllS_ExS l I μ _ _ _ (h u) hex
    have hr2 : Rel N T2 a1 := hr1.same (fun t => (hsame t).symm)
    have hfr2 : Fr (wr c) T T2 := fun t ht => (hsame t).symm.trans (hfr t ht)
    refine hpass _ _ _ _ _ hr2 (hK w1 hI) (fun T3 w3 a3 h3 hf3 hr3 => ?_) (fun e T3 w3 a3 he hf3 hr3 => hq _ hfr2 _ _ _ _ he hf3 hr3)
    have hf13 : Fr (wr c) T1 T3 := fun t ht => (hf3 t ht).trans (hsame t).symm
    obtain ⟨m, hm, hex'⟩ := round_step hW hl hex (fun _ _ _ h => h.1) hf13 h3
    have hJ3 : J m a3 w3 := ⟨T3, hr3, hfr2.trans hf3, _, hex'⟩
    exact ⟨⟨m, hJ3⟩, Nat.lt_of_le_of_lt ((leastOf_spec ⟨m, hJ3⟩).2 m hJ3) hm⟩

/-- THE VC IS SOUND. -/
theorem vc_run (hm : P.follows .mixedOrders = true) {N : Nat} (hN : N ≤ 8000) : ∀ (n : Nat) (c : Code) (Q : Exit → Tr → World → Prop) (Q' : Exit → Act → World → Prop) (T : Tr) (a : Act) (w : World), okCode P N A c = true → Rel N T a →
    vc P τ ρ pan A n c Q T w → (∀ e T' w' a', Q e T' w' → Fr (wr c) T T' → Rel N T' a' → Q' e a' w') → c.wp P Q' a w := by
  intro n
  induction n with
  | zero => intro c Q Q' T a w _ _ h; exact h.elim
  | succ n ih =>
  intro c
  cases c with
  | skip => intro Q Q' T a w _ hr h hq; exact wp_skip (hq _ _ _ _ h (.refl _ _) hr)
  | label l => intro Q Q' T a w _ hr h hq; exact wp_label (hq _ _ _ _ h (.refl _ _) hr)
  | exit id => intro Q Q' T a w _ hr h hq; exact wp_exit (hq _ _ _ _ h (.refl _ _) hr)
  | goto l => intro Q Q' T a w _ hr h hq; exact wp_goto (hq _ _ _ _ h (.refl _ _) hr)
  | ret => intro Q Q' T a w _ hr h hq; exact wp_ret (hq _ _ _ _ h (.refl _ _) hr)
  | region id ops draw => intro Q Q' T a w hok hr h hq; exact vRegion_run hm hN hok hr h hq
  | seq x y =>
    intro Q Q' T a w hok hr h hq
    unfold okCode at hok
    simp only [Bool.and_eq_true] at hok
    have hx : ∀ t, t ∈ wr x → t ∈ wr (.seq x y) := fun t ht => List.mem_append_left _ ht
    have hy : ∀ t, t ∈ wr y → t ∈ wr (.seq x y) := fun t ht => List.mem_append_right _ ht
    unfold vc at h
    dsimp only at h
    split at h
    · refine wp_seq (ih x _ _ _ _ _ hok.1.1 hr h (fun e T' w' a' he hf hr' => ?_))
      cases e with
      | normal => exact ih y _ _ _ _ _ hok.1.2 hr' he (fun e T2 w2 a2 he' hf' hr2 => hq _ _ _ _ he' ((hf.mono hx).trans (hf'.mono hy)) hr2)
      | exit id => exact hq _ _ _ _ he (hf.mono hx) hr'
      | goto l => exact hq _ _ _ _ he (hf.mono hx) hr'
      | ret => exact hq _ _ _ _ he (hf.mono hx) hr'
      | panic ch => exact hq _ _ _ _ he (hf.mono hx) hr'
      | outgrown => exact hq _ _ _ _ he (hf.mono hx) hr'
    · rename_i ks hks
      have hok3 := hok.2
      rw [hks] at hok3
      simp only [Bool.and_eq_true] at hok3
      have hW := okW_lt hok3.1
      have hl := okSB_lt hok3.2
      obtain ⟨J, h0, h⟩ := h
      refine wp_seq (ih x _ _ _ _ _ hok.1.1 hr h0 (fun e T' w' a' he hf hr' => ?_))
      cases e with
      | normal =>
        replace he : InvAt ks J T' w' := he
        obtain ⟨n, hex⟩ := InvAt_ExS ks J (noMea ks) T' _ w' hl he (putDead_of T' _ _ T (dead_lt hW) (hf.mono (fun t ht => mem_dead ht)))
        obtain ⟨T2, J', μ', hK, hsame, hJ, _⟩ := AllS_ExS ks J (noMea ks) _ _ _ (h _) hex
        have hr2 : Rel N T2 a' := hr'.same (fun t => (hsame t).symm)
        have hf2 : Fr (wr x) T T2 := fun t ht => (hsame t).symm.trans (hf t ht)
        exact ih y _ _ _ _ _ hok.1.2 hr2 (hK w' hJ) (fun e T3 w2 a2 he' hf' hr3 => hq _ _ _ _ he' ((hf2.mono hx).trans (hf'.mono hy)) hr3)
      | exit id => exact hq _ _ _ _ he (hf.mono hx) hr'
      | goto l => exact hq _ _ _ _ he (hf.mono hx) hr'
      | ret => exact hq _ _ _ _ he (hf.mono hx) hr'
      | panic ch => exact hq _ _ _ _ he (hf.mono hx) hr'
      | outgrown => exact hq _ _ _ _ he (hf.mono hx) hr'
  | cond c x y =>
    intro Q Q' T a w hok hr h hq
    unfold okCode at hok
    simp only [Bool.and_eq_true] at hok
    unfold vc at h
    dsimp only at h
    split at h
    · rename_i t ht
      have ht' : a.eval c = .bool t := by rw [hr.ev]; exact ht
      cases t with
      | true => exact wp_cond_true ht' (ih x _ _ _ _ _ hok.1 hr h (fun e T' w' a' he hf hr' => hq _ _ _ _ he (hf.mono (fun t ht => List.mem_append_left _ ht)) hr'))
      | false => exact wp_cond_false ht' (ih y _ _ _ _ _ hok.2 hr h (fun e T' w' a' he hf hr' => hq _ _ _ _ he (hf.mono (fun t ht => List.mem_append_right _ ht)) hr'))
    · exact h.elim
  | block id c =>
    intro Q Q' T a w hok hr h hq
    refine wp_block (ih c _ _ _ _ _ hok hr h (fun e T' w' a' he hf hr' => ?_))
    cases e with
    | exit id' =>
      replace he : bif Nat.beq id' id then Q .normal T' w' else Q (.exit id') T' w' := he
      show if id' = id then Q' .normal a' w' else Q' (.exit id') a' w'
      rw [beq_eq] at he
      by_cases e : id' = id
      · simp only [e, beq_self_eq_true, cond_true] at he; rw [if_pos e]; exact hq _ _ _ _ he hf hr'
      · have : (id' == id) = false := by simpa using e
        rw [this, cond_false] at he; rw [if_neg e]; exact hq _ _ _ _ he hf hr'
    | normal => exact hq _ _ _ _ he hf hr'
    | goto l => exact hq _ _ _ _ he hf hr'
    | ret => exact hq _ _ _ _ he hf hr'
    | panic ch => exact hq _ _ _ _ he hf hr'
    | outgrown => exact hq _ _ _ _ he hf hr'
  | scope c =>
    intro Q Q' T a w hok hr h hq
    unfold okCode at hok
    simp only [Bool.and_eq_true] at hok
    obtain ⟨⟨hok, hW⟩, hks⟩ := hok
    have hstraight : vc P τ ρ pan A n c (XNoGoto Q) T w → (Code.scope c).wp P Q' a w := fun h => by
      refine wp_scope_straight (ih c _ _ _ _ _ hok hr h (fun e T' w' a' he hf hr' => ?_))
      cases e with
      | goto l => exact he
      | normal => exact hq _ _ _ _ he hf hr'
      | exit id => exact hq _ _ _ _ he hf hr'
      | ret => exact hq _ _ _ _ he hf hr'
      | panic ch => exact hq _ _ _ _ he hf hr'
      | outgrown => exact hq _ _ _ _ he hf hr'
    unfold vc at h
    dsimp only at h
    split at h
    · exact hstraight h
    · rename_i l hl
      rw [hl] at hks
      dsimp only at hks
      split at h
      · exact hstraight h
      · rename_i ks hg
        rw [hg] at hks
        split at h
        · rename_i rest hrest
          refine vScope_run (Q := Q) (okW_lt hW) (okSB_lt hks) hr hrest (fun J J' T1 a1 w1 hr1 hb hn hq1 => ?_) (fun J J' T1 a1 w1 hr1 hb hn hq1 => ?_) (fun B hB e T' w' a' he hf hr' => hq _ _ _ _ he (hB.trans hf) hr') h
          · refine ih c _ _ _ _ _ hok hr1 hb (fun e T' w' a' he hf hr' => ?_)
            cases e with
            | goto l' =>
              replace he : bif Nat.beq l' l then J T' w' else False := he
              show l' = l ∧ J' a' w'
              rw [beq_eq] at he
              by_cases e : l' = l
              · simp only [e, beq_self_eq_true, cond_true] at he; exact ⟨e, hn _ _ _ he hf hr'⟩
              · have : (l' == l) = false := by simpa using e
                rw [this, cond_false] at he; exact he.elim
            | normal => exact hq1 _ _ _ _ he hf hr'
            | exit id => exact hq1 _ _ _ _ he hf hr'
            | ret => exact hq1 _ _ _ _ he hf hr'
            | panic ch => exact hq1 _ _ _ _ he hf hr'
            | outgrown => exact hq1 _ _ _ _ he hf hr'
          · refine ih rest _ _ _ _ _ (findLabel_ok _ _ _ hrest hok) hr1 hb (fun e T' w' a' he hf' hr' => ?_)
            have hf : Fr (wr c) T1 T' := hf'.mono (findLabel_wr _ _ _ hrest)
            cases e with
            | goto l' =>
              replace he : bif Nat.beq l' l then J T' w' else False := he
              show l' = l ∧ J' a' w'
              rw [beq_eq] at he
              by_cases e : l' = l
              · simp only [e, beq_self_eq_true, cond_true] at he; exact ⟨e, hn _ _ _ he hf hr'⟩
              · have : (l' == l) = false := by simpa using e
                rw [this, cond_false] at he; exact he.elim
            | normal => exact hq1 _ _ _ _ he hf hr'
            | exit id => exact hq1 _ _ _ _ he hf hr'
            | ret => exact hq1 _ _ _ _ he hf hr'
            | panic ch => exact hq1 _ _ _ _ he hf hr'
            | outgrown => exact hq1 _ _ _ _ he hf hr'
        · exact h.elim
  | loop c =>
    intro Q Q' T a w hok hr h hq
    unfold okCode at hok
    simp only [Bool.and_eq_true] at hok
    obtain ⟨⟨hok, hW⟩, hks⟩ := hok
    refine vLoop_run (Q := Q) (body := fun next => vc P τ ρ pan A n c (XThen next Q)) (okW_lt hW) (okSB_lt hks) hr (fun next next' T1 a1 w1 hr1 hb hn hq1 => ih c _ _ _ _ _ hok hr1 hb (fun e T' w' a' he hf hr' => ?_))
      (fun B hB e T' w' a' he hf hr' => hq _ _ _ _ he (hB.trans hf) hr') h
    cases e with
    | normal => exact hn _ _ _ he hf hr'
    | exit id => exact hq1 _ _ _ _ he hf hr'
    | goto l => exact hq1 _ _ _ _ he hf hr'
    | ret => exact hq1 _ _ _ _ he hf hr'
    | panic ch => exact hq1 _ _ _ _ he hf hr'
    | outgrown => exact hq1 _ _ _ _ he hf hr'
  | rangeFunc f ps x y => intro Q Q' T a w _ _ h; exact h.elim
  | refuse why => intro Q Q' T a w _ _ h; exact h.elim

end
end Go.Vc
