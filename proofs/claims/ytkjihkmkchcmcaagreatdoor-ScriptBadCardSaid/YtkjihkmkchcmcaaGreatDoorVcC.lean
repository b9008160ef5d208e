/- The VC generator, part C: the rest of the quiet operations. -/
import Derived.Test.YtkjihkmkchcmcaaGreatDoorVcB
namespace Go.Vc
open Go

section
variable {P : Program} {w : World}

theorem vConv_run {s d : TypeId} {x : Value} {f : Value → Prop} (hs : (P.underlying s).isSome = true) (h : vConv P d x f) : ∃ v, (∀ w, (convert s d x).run P w = .ok v w) ∧ f v := by
  obtain ⟨ds, hs⟩ := Option.isSome_iff_exists.1 hs
  unfold vConv at h
  split at h
  · rename_i k k' n e
    exact ⟨_, fun w => by simp [convert, run_underlying' hs, run_underlying' e, Conv.intToInt], h⟩
  · rename_i s e
    exact ⟨_, fun w => by simp [convert, run_underlying' hs, run_underlying' e], h⟩
  · exact h.elim

theorem vConvQ_run {s d : TypeId} {x : Value} {w : World} {f : Value → Prop} (hs : (P.underlying s).isSome = true) (h : vConvQ P s d x w f) : ∃ v, (∀ w', Grow w w' → (convert s d x).run P w' = .ok v w') ∧ f v := by
  obtain ⟨ds, hs⟩ := Option.isSome_iff_exists.1 hs
  unfold vConvQ at h
  split at h
  · rename_i k k' n e
    exact ⟨_, fun w _ => by simp [convert, run_underlying' hs, run_underlying' e, Conv.intToInt], h⟩
  · rename_i s e
    exact ⟨_, fun w _ => by simp [convert, run_underlying' hs, run_underlying' e], h⟩
  · obtain ⟨l, h1, h2⟩ := h
    exact ⟨_, h1, h2⟩
  · exact h.elim

theorem vIndex_run {t : TypeId} {x i : Value} {f : Value → Prop} (h : vIndex P t x i f) : ∃ v, (∀ w, (Instr.index t x i).run P w = .ok v w) ∧ f v := by
  unfold vIndex at h
  split at h
  · rename_i s k i
    split at h
    · rename_i e
      obtain ⟨h0, b, hb, h⟩ := h
      exact ⟨_, fun w => by simp [Instr.index, asIntOf, run_underlying' (isStrT_some e), h0, hb], h⟩
    · exact h.elim
  · exact h.elim

theorem sliQ_some {t : TypeId} {m : Nat} (h : sliQ P t = some m) : ∃ e, P.underlying t = some (.slice e) ∧ szQ P e = some m := by
  unfold sliQ at h
  split at h
  · rename_i e he; exact ⟨e, he, h⟩
  · cases h

theorem arrQ_some {t : TypeId} {n m : Nat} (h : arrQ P t = some (n, m)) : ∃ e, P.underlying t = some (.array n e) ∧ szQ P e = some m := by
  unfold arrQ at h
  split at h
  · rename_i n' e he
    split at h
    · rename_i m' hm
      injection h with h; injection h with h1 h2; subst h1; subst h2
      exact ⟨e, he, hm⟩
    · cases h
  · cases h

theorem vIndexAddr_run {t : TypeId} {x i : Value} {f : Value → Prop} (h : vIndexAddr P t x i f) : ∃ v, (∀ w, (Instr.indexAt t x i).run P w = .ok v w) ∧ f v := by
  unfold vIndexAddr at h
  split at h
  · rename_i p n c k i
    split at h
    · rename_i m e
      obtain ⟨e, e1, e2⟩ := sliQ_some e
      obtain ⟨a, rfl, hb, h⟩ := h
      exact ⟨_, fun w => by simp [Instr.indexAt, asIntOf, run_underlying' e1, hb, run_sizeOf e2], h⟩
    · exact h.elim
  · rename_i p k i
    split at h
    · rename_i n m e
      obtain ⟨e, e1, e2⟩ := arrQ_some e
      obtain ⟨a, rfl, hb, h⟩ := h
      exact ⟨_, fun w => by simp [Instr.indexAt, asIntOf, run_underlying' e1, hb, run_sizeOf e2, Instr.sureAddr], h⟩
    · exact h.elim
  · exact h.elim

theorem partQ_run {t : TypeId} {cs : Array Value} {off : Nat} {v : Value} (h : partQ P t cs off = some v) : (part t cs off).run P w = .ok v w := by
  unfold partQ at h
  split at h
  · rename_i n e1 e2
    injection h with h; subst h
    simp [part, run_isAgg e1, run_sizeOf e2]
  · rename_i e1
    simp [part, run_isAgg e1, h]
  · cases h

theorem vField_run {t : TypeId} {x : Value} {i : Nat} {f : Value → Prop} (h : vField P t x i f) : ∃ v, (∀ w, (Instr.field t x i).run P w = .ok v w) ∧ f v := by
  unfold vField at h
  split at h
  · rename_i fs cs e
    split at h
    · rename_i fd e2
      split at h
      · rename_i v e3
        exact ⟨v, fun w => by simp [Instr.field, run_underlying' e, e2, asAgg, partQ_run e3], h⟩
      · exact h.elim
    · exact h.elim
  · exact h.elim

theorem vExtract_run {x : Value} {i : Nat} {f : Value → Prop} (h : vExtract x i f) : ∃ v, (∀ w, (Instr.extract x i).run P w = .ok v w) ∧ f v := by
  unfold vExtract at h
  split at h
  · split at h
    · rename_i v e; exact ⟨v, fun w => by simp [Instr.extract, e], h⟩
    · exact h.elim
  · exact h.elim

theorem slB_run {s : Bool} {n m : Nat} {lo hi mx : Option Value} {f : Nat → Nat → Nat → Prop} (h : slB n m lo hi mx f) :
    ∃ l k c, (∀ w, (Instr.sliceBounds s n m lo hi mx).run P w = .ok (l, k, c) w) ∧ f l k c := by
  have bound : ∀ (w : World) (k : IntKind) (i : Int) (y : Nat) (code : BoundsCode), 0 ≤ i ∧ i ≤ y → (Instr.sliceBound (.int k i) y code).run P w = .ok i.toNat w := by
    intro w k i y code hb
    simp [Instr.sliceBound, asIntOf, hb]
  unfold slB at h
  dsimp only at h
  split at h
  · split at h
    · exact ⟨_, _, _, fun w => by simp [Instr.sliceBounds], h⟩
    · obtain ⟨hb, h⟩ := h
      exact ⟨_, _, _, fun w => by simp [Instr.sliceBounds, bound _ _ _ _ _ hb], h⟩
    · exact h.elim
  · obtain ⟨hb, h⟩ := h
    split at h
    · exact ⟨_, _, _, fun w => by simp [Instr.sliceBounds, bound _ _ _ _ _ hb], h⟩
    · obtain ⟨hb2, h⟩ := h
      exact ⟨_, _, _, fun w => by simp [Instr.sliceBounds, bound _ _ _ _ _ hb, bound _ _ _ _ _ hb2], h⟩
    · exact h.elim
  · obtain ⟨hb, hb1, h⟩ := h
    split at h
    · exact ⟨_, _, _, fun w => by simp [Instr.sliceBounds, bound _ _ _ _ _ hb, bound _ _ _ _ _ hb1], h⟩
    · obtain ⟨hb2, h⟩ := h
      exact ⟨_, _, _, fun w => by simp [Instr.sliceBounds, bound _ _ _ _ _ hb, bound _ _ _ _ _ hb1, bound _ _ _ _ _ hb2], h⟩
    · exact h.elim
  · exact h.elim

theorem vSlice_run {t : TypeId} {x : Value} {lo hi mx : Option Value} {f : Value → Prop} (h : vSlice P t x lo hi mx f) :
    ∃ v, (∀ w, (Instr.sliceAt t x lo hi mx).run P w = .ok v w) ∧ f v := by
  unfold vSlice at h
  split at h
  · rename_i p n c
    split at h
    · rename_i m e
      obtain ⟨e, e1, e2⟩ := sliQ_some e
      obtain ⟨l, k, c', hr, h⟩ := slB_run (P := P) (s := true) h
      exact ⟨_, fun w => by simp only [Instr.sliceAt, Instr.slice, Sem.run_bind, run_underlying' e1, Result.andThen_ok, hr, run_sizeOf e2, Sem.run_pure, slA], h⟩
    · exact h.elim
  · rename_i s
    split at h
    · rename_i e
      obtain ⟨l, k, c', hr, h⟩ := slB_run (P := P) (s := false) h
      exact ⟨_, fun w => by simp only [Instr.sliceAt, Instr.slice, Sem.run_bind, run_underlying' (isStrT_some e), Result.andThen_ok, hr, Sem.run_pure, Option.isSome_none, Bool.false_eq_true, if_false], h⟩
    · exact h.elim
  · rename_i a
    split at h
    · rename_i n m e
      obtain ⟨e, e1, e2⟩ := arrQ_some e
      obtain ⟨l, k, c', hr, h⟩ := slB_run (P := P) (s := false) h
      exact ⟨_, fun w => by simp only [Instr.sliceAt, Instr.sureAddr, Sem.run_bind, run_underlying' e1, Result.andThen_ok, hr, run_sizeOf e2, Sem.run_pure, slA1], h⟩
    · exact h.elim
  · exact h.elim

theorem vBuiltin_run {b : Builtin} {ts : Array TypeId} {t : TypeId} {args : Array Value} {f : Value → Prop} (h : vBuiltin P b ts args f) :
    ∃ v, (∀ cs w, (builtin b ts t cs args).run P w = .ok (.value v) w) ∧ f v := by
  unfold vBuiltin at h
  split at h
  · rename_i t0 ht
    obtain ⟨args⟩ := args
    unfold vBuiltin1 at h
    split at h
    · split at h
      · rename_i e; obtain ⟨_, e⟩ := isSliceT_some e; exact ⟨_, by intro cs w; simp_all [builtin, Builtin.len_, run_underlying' e, goInt], h⟩
      · exact h.elim
    · split at h
      · rename_i e; exact ⟨_, by intro cs w; simp_all [builtin, Builtin.len_, run_underlying' (isStrT_some e), goInt], h⟩
      · exact h.elim
    · split at h
      · rename_i e1 e
        split at h
        · rename_i n m e2; obtain ⟨_, e2, _⟩ := arrQ_some e2; exact ⟨_, by intro cs w; simp_all [builtin, Builtin.len_, run_underlying' e, run_underlying' e2, goInt], h⟩
        · exact h.elim
      · exact h.elim
    · split at h
      · rename_i e; obtain ⟨_, e, _⟩ := arrQ_some e; exact ⟨_, by intro cs w; simp_all [builtin, Builtin.len_, run_underlying' e, goInt], h⟩
      · exact h.elim
    · exact ⟨_, by intro cs w; simp_all [builtin, Builtin.min_, Builtin.min2, min1], h⟩
    · exact ⟨_, by intro cs w; simp_all [builtin, Builtin.max_, Builtin.max2, max1], h⟩
    · exact h.elim
  · exact h.elim

theorem mapM_sizes : ∀ (l : List Field) (r : List (Nat × Nat)), (l.mapM fun f => (szQ P f.type).map fun n => (f.offset, n)) = some r →
    (l.mapM fun f => (do pure (f.offset, ← sizeOf f.type) : Sem (Nat × Nat))).run P w = .ok r w
  | [], r, h => by simp at h; subst h; simp
  | f :: l, r, h => by
    rw [List.mapM_cons] at h
    cases hs : szQ P f.type with
    | none => simp [hs] at h
    | some n =>
      cases hl : l.mapM fun f => (szQ P f.type).map fun n => (f.offset, n) with
      | none => simp [hs, hl] at h
      | some r' =>
        simp [hs, hl] at h
        subst h
        have ih := mapM_sizes l r' hl
        simp only [Sem.run_bind, Sem.run_pure, List.mapM_cons] at ih ⊢
        simp only [run_sizeOf hs, Result.andThen_ok, ih]

theorem vBuild_run {t : TypeId} {ps : Array (Nat × Value)} {f : Value → Prop} (h : vBuild P t ps f) : ∃ v, (∀ w, (Instr.build t ps).run P w = .ok v w) ∧ f v := by
  unfold vBuild at h
  split at h
  · rename_i cs e
    refine ⟨_, fun w => ?_, h⟩
    unfold buildQ at e
    split at e
    · rename_i z fs hz hu
      split at e
      · rename_i l hl
        have hm := mapM_sizes (w := w) _ _ hl
        simp only [Instr.build, Sem.run_bind, run_zero hz, Result.andThen_ok, run_underlying' hu, Array.mapM_eq_mapM_toList, Sem.run_map, hm]
        simp [e]
      · cases e
    · rename_i z n el hz hu
      split at e
      · rename_i m hm
        simp [Instr.build, run_zero hz, run_underlying' hu, run_sizeOf hm, e]
      · cases e
    · cases e
  · exact h.elim

/-- THE QUIET OPERATIONS: what is asked is what the model runs, in every world that has grown, and the world is left alone. -/
theorem vQ_run {τ : TypeId → K1} {ρ : TypeId → Kd} {o : Oper} {ev : Operand → Value} {f : Value → Prop} (hconv : ∀ s d x, o.op = .convert s d x → (P.underlying s).isSome = true) (h : vQ P τ ρ o ev w f) :
    ∃ v, (∀ w', (readsW o.op = true → Grow w w') → (execOp ev o).run P w' = .ok (.value v) w') ∧ f v := by
  unfold vQ at h
  split at h
  · rename_i x ho; exact ⟨_, fun w' _ => by simp [execOp, ho], h⟩
  · rename_i x ho; exact ⟨_, fun w' _ => by simp [execOp, ho], h⟩
  · rename_i c x y ho; obtain ⟨v, h1, h2⟩ := vPick_run (P := P) h; exact ⟨v, fun w' _ => by simpa [execOp, ho] using h1 w', h2⟩
  · rename_i x ho; obtain ⟨v, h1, h2⟩ := vNil_run (P := P) ho h; exact ⟨v, fun w' _ => h1 w', h2⟩
  · rename_i s x i ho; obtain ⟨v, h1, h2⟩ := vFieldAddr_run h; exact ⟨v, fun w' _ => by simp [execOp, ho, h1], h2⟩
  · rename_i t x ho; obtain ⟨v, h1, h2⟩ := vLoad_run h; exact ⟨v, fun w' g => by simp [execOp, ho, h1 w' (g (by rw [ho]; rfl))], h2⟩
  · rename_i op t x y t' ho; obtain ⟨h0, v, h1, h2⟩ := vBin_run h; exact ⟨v, fun w' _ => by simp [execOp, ho, h0, h1], h2⟩
  · rename_i op t x ho; obtain ⟨v, h1, h2⟩ := vUn_run (P := P) h; exact ⟨v, fun w' _ => by simp [execOp, ho, h1], h2⟩
  · rename_i s d x ho; obtain ⟨v, h1, h2⟩ := vConvQ_run (hconv s d x ho) h; exact ⟨v, fun w' g => by simp [execOp, ho, h1 w' (g (by rw [ho]; rfl))], h2⟩
  · rename_i t x i ho; obtain ⟨v, h1, h2⟩ := vIndex_run h; exact ⟨v, fun w' _ => by simp [execOp, ho, h1], h2⟩
  · rename_i t x i ho; obtain ⟨v, h1, h2⟩ := vIndexAddr_run h; exact ⟨v, fun w' _ => by simp [execOp, ho, h1], h2⟩
  · rename_i t x i ho; obtain ⟨v, h1, h2⟩ := vField_run h; exact ⟨v, fun w' _ => by simp [execOp, ho, h1], h2⟩
  · rename_i t i ho; obtain ⟨v, h1, h2⟩ := vExtract_run (P := P) h; exact ⟨v, fun w' _ => by simp [execOp, ho, h1], h2⟩
  · rename_i t x lo hi mx ho; obtain ⟨v, h1, h2⟩ := vSlice_run h; exact ⟨v, fun w' _ => by simp [execOp, ho, h1], h2⟩
  · rename_i t ps ho; obtain ⟨v, h1, h2⟩ := vBuild_run h; exact ⟨v, fun w' _ => by simp [execOp, ho, h1], h2⟩
  · rename_i t x ho
    split at h
    · rename_i e
      refine ⟨_, fun w' _ => ?_, h⟩
      unfold isIfaceT at e
      split at e
      · cases e
      · rename_i d hn hu
        simp only [execOp, ho, Instr.makeInterface, Sem.run_bind, run_underlying' hu, Result.andThen_ok]
        cases d <;> first | rfl | exact (hn _ rfl).elim
      · cases e
    · exact h.elim
  · rename_i t m k ok ho
    obtain ⟨v, h1, h2⟩ := Kd.ex_some h
    exact ⟨v, fun w' g => by simp [execOp, ho, h1 w' (g (by rw [ho]; rfl))], h2⟩
  · rename_i fn fi ca ho; exact ⟨_, fun w' _ => by simp [execOp, ho, Instr.makeFunc], h⟩
  · rename_i b args ts ho
    obtain ⟨v, h1, h2⟩ := vBuiltin_run (t := o.type) h
    exact ⟨v, fun w' _ => by simp [execOp, ho, resolve, invoke, h1], h2⟩
  · exact h.elim

end
end Go.Vc
