/- The VC generator, part E: it is sound. -/
import Derived.Test.YtkjihkmkchcmcaaGreatDoorVcD
namespace Go.Vc
open Go

section
variable {P : Program}

theorem okCell_setCell {w : World} {a b : Addr} {v : Value} (h : okCell w a) : okCell (w.setCell b v) a := by
  obtain ⟨⟨x, hx⟩, hf⟩ := h
  constructor
  · unfold World.cell? at hx ⊢
    unfold World.setCell
    simp only [Array.getElem?_modify]
    cases hh : w.heap[a.block]? with
    | none => simp [hh] at hx
    | some o =>
      simp only [hh] at hx
      by_cases e : b.block = a.block
      · simp only [e, if_true, Option.map_some]
        cases o with
        | cells c t fr =>
          simp only at hx ⊢
          split at hx
          · cases hx
          · rename_i hs
            simp only [hs, if_false, Bool.false_eq_true]
            have hlt : a.off < c.size := by
              rcases Nat.lt_or_ge a.off c.size with h | h
              · exact h
              · simp [Array.getElem?_eq_none h] at hx
            split
            · exact ⟨x, hx⟩
            · exact ⟨_, Array.getElem?_eq_getElem (by simpa using hlt)⟩
        | _ => simp at hx
      · simp only [e, if_false]
        cases o with
        | cells c t fr => exact ⟨x, hx⟩
        | _ => simp at hx
  · unfold World.frozen? at hf ⊢
    unfold World.setCell
    simp only [Array.getElem?_modify]
    cases hh : w.heap[a.block]? with
    | none => simp
    | some o =>
      simp only [hh] at hf
      by_cases e : b.block = a.block
      · simp only [e, if_true, Option.map_some]
        cases o <;> simp_all
      · simp only [e, if_false]
        cases o <;> simp_all

theorem store_run {w : World} {a : Addr} {v : Value} (hv : v.oneCell' = true) (h : okCell w a) : (store a v).run P w = .ok () (w.setCell a v) := by
  obtain ⟨⟨x, hx⟩, hf⟩ := h
  rw [run_store P w a v .plain hv]
  simp [hx, hf]

theorem stN_run : ∀ (l : List Value) (a : Addr) (i : Nat) (w : World) (f : World → Prop), l.all (·.oneCell') = true → stN l a i w f →
    ∃ w', (storeCells a l i).run P w = .ok () w' ∧ f w'
  | [], _, _, w, _, _, h => ⟨w, rfl, h⟩
  | v :: l, a, i, w, f, hl, ⟨h1, h2⟩ => by
    simp only [List.all_cons, Bool.and_eq_true] at hl
    obtain ⟨w', h3, h4⟩ := stN_run l a (i + 1) _ f hl.2 h2
    exact ⟨w', by simp [storeCells, store_run hl.1 h1, h3], h4⟩

theorem setFrom_run : ∀ (l : List Value) (a : Addr) (i : Nat) (w : World), l.all (·.oneCell') = true → (∀ j, i ≤ j → j < i + l.length → okCell w (a.add j)) →
    (storeCells a l i).run P w = .ok () (setFrom w a i l)
  | [], _, _, _, _, _ => rfl
  | v :: l, a, i, w, hl, h => by
    simp only [List.all_cons, Bool.and_eq_true] at hl
    have h1 := h i (Nat.le_refl _) (by simp)
    have h2 := setFrom_run l a (i + 1) (w.setCell (a.add i) v) hl.2 (fun j h3 h4 => okCell_setCell (h j (by omega) (by simp; omega)))
    simp [storeCells, store_run hl.1 h1, h2, setFrom]

theorem vStore_run {k : K1} {t : TypeId} {x v : Value} {w : World} {f : World → Prop} (h : vStore P k t x v w f) :
    ∃ w', (Instr.storeAt t x v).run P w = .ok () w' ∧ f w' := by
  unfold vStore at h
  split at h
  · rename_i a
    split at h
    · split at h
      · rename_i e
        split at h
        · rename_i hv
          obtain ⟨h1, h2⟩ := h
          have hc : v.cells = #[v] := by cases v <;> first | rfl | simp [Value.oneCell'] at hv
          exact ⟨_, by simp [Instr.storeAt, Instr.sureAddr, storeVar, hc, run_sizeOf e, storeCells, Addr.add, store_run hv h1], h2⟩
        · exact h.elim
      · exact h.elim
    · split at h
      · rename_i cs
        split at h
        · rename_i n e
          cases hb : (n == cs.size && cs.toList.all (·.oneCell')) with
          | false => rw [hb, cond_false] at h; exact h.elim
          | true =>
            rw [hb, cond_true] at h
            simp only [Bool.and_eq_true, beq_iff_eq] at hb
            obtain ⟨w', h1, h2⟩ := stN_run (P := P) _ _ _ _ _ hb.2 h
            refine ⟨w', ?_, h2⟩
            have : ¬ (Value.agg cs).cells.size ≠ n := by simp [Value.cells, hb.1]
            simp only [Instr.storeAt, Instr.sureAddr, storeVar, Sem.run_bind, Sem.run_pure, Result.andThen_ok, run_sizeOf e]
            simp [Value.cells, hb.1, h1]
        · exact h.elim
      · exact h.elim
    · split at h
      · rename_i n k _ m e
        cases hb : (m == n) with
        | false => rw [hb, cond_false] at h; exact h.elim
        | true =>
          rw [hb, cond_true] at h
          simp only [beq_iff_eq] at hb
          subst hb
          obtain ⟨ys, rfl, hl, hok, hf⟩ := h
          have := setFrom_run (P := P) (ys.map (Value.int k)) a 0 w (by simp [Value.oneCell']) (fun j _ hj => hok j (by simp at hj; omega))
          refine ⟨_, ?_, hf⟩
          simp [Instr.storeAt, Instr.sureAddr, storeVar, Value.cells, run_sizeOf e, hl, this]
      · exact h.elim
  · exact h.elim

theorem vCall_run {pan : FuncId → Bool} {o : Oper} {a : Act} {w : World} {g : Operand} {args : Array Operand} {ts : Array TypeId} {k : Kd} {f : Value → World → Prop} {p : List PanicEntry → World → Prop}
    {next : Act → World → Prop} {Q : Exit → Act → World → Prop} (ho : o.op = .call { callee := .value g, args, argTypes := ts })
    (h : vCall P pan (a.eval g) (args.map a.eval) k w f p) (hf : ∀ v w', f v w' → next (a.put o.dst v) w') (hp : ∀ ch w', p ch w' → Q (.panic ch) a w') : o.wp P a w next Q := by
  unfold vCall at h
  split at h
  · rename_i g' fi ca hg
    split at h
    · rename_i fn hfn
      split at h
      · rename_i hb
        simp only [Bool.and_eq_true, Bool.not_eq_true', beq_eq_false_iff_ne] at hb
        obtain ⟨hb1, hb2⟩ := hb
        have hr : (execOp a.eval o).run P w = .ok (.enter g' (fi ++ args.map a.eval ++ ca)) w := by
          have hnone : ¬ fn.body = none := by intro hx; simp [hx] at hb1
          simp [execOp, ho, resolve, hg, Deferred.ofValue, invoke, callFunc, hfn, hb2, hnone]
        unfold Oper.wp
        rw [hr]
        show Calls P g' (fi ++ args.map a.eval ++ ca) w _
        cases hpan : pan g' with
        | false =>
          rw [hpan, cond_false] at h
          refine Calls.mono h fun e w' he => ?_
          obtain ⟨v, rfl, hv⟩ := Kd.ex_some he
          exact hf _ _ hv
        | true =>
          rw [hpan, cond_true] at h
          refine Calls.mono h fun e w' he => ?_
          rcases he with he | ⟨ch, rfl, he⟩
          · obtain ⟨v, rfl, hv⟩ := Kd.ex_some he
            exact hf _ _ hv
          · exact hp _ _ he
      · exact h.elim
    · exact h.elim
  · exact h.elim

theorem vCallD_run {o : Oper} {a : Act} {w : World} {g : Operand} {args : Array Operand} {ts : Array TypeId} {k : Kd} {f : Value → World → Prop}
    {next : Act → World → Prop} {Q : Exit → Act → World → Prop} (ho : o.op = .call { callee := .value g, args, argTypes := ts })
    (h : vCallD P (a.eval g) (args.map a.eval) k w f) (hf : ∀ v w', f v w' → next (a.put o.dst v) w') : o.wp P a w next Q := by
  obtain ⟨g', ca, hg, hb, h⟩ := h
  unfold okFnB at hb
  split at hb
  · rename_i fn hfn
    simp only [Bool.and_eq_true, Bool.not_eq_true', beq_eq_false_iff_ne] at hb
    obtain ⟨hb1, hb2⟩ := hb
    have hr : (execOp a.eval o).run P w = .ok (.enter g' (args.map a.eval ++ ca)) w := by
      have hnone : ¬ fn.body = none := by intro hx; simp [hx] at hb1
      simp [execOp, ho, resolve, hg, Deferred.ofValue, invoke, callFunc, hfn, hb2, hnone]
    unfold Oper.wp
    rw [hr]
    show Calls P g' (args.map a.eval ++ ca) w _
    refine Calls.mono h fun e w' he => ?_
    obtain ⟨v, rfl, hv⟩ := Kd.ex_some he
    exact hf _ _ hv
  · cases hb

theorem eff_run {s : Sem Value} {k : Kd} {w : World} {f : Value → World → Prop} (h : eff P s k w f) : ∃ v w', s.run P w = .ok v w' ∧ f v w' := by
  obtain ⟨v, w', h⟩ := Kd.ex_some h
  exact ⟨v, w', h⟩

theorem flat_get (z : List Value) (n j : Nat) (h : j < n * z.length) : ((List.replicate n z).flatten)[j]? = z[j % z.length]? := by
  induction n generalizing j with
  | zero => simp at h
  | succ n ih =>
    rw [List.replicate_succ, List.flatten_cons]
    by_cases hj : j < z.length
    · rw [List.getElem?_append_left hj, Nat.mod_eq_of_lt hj]
    · have hj' : z.length ≤ j := Nat.le_of_not_lt hj
      rw [List.getElem?_append_right hj', ih (j - z.length) (by rw [Nat.succ_mul] at h; omega)]
      rw [← Nat.mod_eq_sub_mod hj']

theorem range_cells (z : Array Value) (n : Nat) (m : Nat) (hm : m = z.size) (hz : 0 < n * m) : (Array.range (n * m)).map (fun i => z[i % z.size]!) = ((List.replicate n z.toList).flatten).toArray := by
  subst hm
  have hz' : 0 < z.size := by rcases Nat.eq_zero_or_pos z.size with h | h; · simp [h] at hz
                              · exact h
  apply Array.ext_getElem?
  intro j
  by_cases hj : j < n * z.size
  · have := flat_get z.toList n j (by simpa using hj)
    simp only [List.getElem?_toArray, this]
    have hlt : j % z.size < z.size := Nat.mod_lt _ hz'
    simp [hj, hlt]
  · have h1 : ((List.replicate n z.toList).flatten).length ≤ j := by simp; omega
    simp only [List.getElem?_toArray, List.getElem?_eq_none h1]
    simp; omega

theorem vE_run {τ : TypeId → K1} {ρ : TypeId → Kd} {pan : FuncId → Bool} {A : Ann} {o : Oper} {a : Act} {w : World} {f : Value → World → Prop} {p : List PanicEntry → World → Prop}
    {next : Act → World → Prop} {Q : Exit → Act → World → Prop} (h : vE P τ ρ pan A o a.eval w f p) (hf : ∀ v w', f v w' → next (a.put o.dst v) w') (hp : ∀ ch w', p ch w' → Q (.panic ch) a w') :
    o.wp P a w next Q := by
  have val : ∀ {s : Sem Value} {k : Kd}, eff P s k w f → execOp a.eval o = (do pure (.value (← s))) → o.wp P a w next Q := by
    intro s k h e
    obtain ⟨v, w', h1, h2⟩ := eff_run h
    unfold Oper.wp
    rw [e]
    simp only [Sem.run_bind, h1, Result.andThen_ok, Sem.run_pure, Oper.upon_value]
    exact hf _ _ h2
  have bval : ∀ {b : Builtin} {args : Array Operand} {ts : Array TypeId} {k : Kd} {s : Sem Value}, eff P s k w f → o.op = .call { callee := .builtin b, args, argTypes := ts } →
      (∀ cs, builtin b ts o.type cs (args.map a.eval) = (do pure (.value (← s)))) → o.wp P a w next Q := by
    intro b args ts k s h ho e
    obtain ⟨v, w', h1, h2⟩ := eff_run h
    unfold Oper.wp
    have : (execOp a.eval o).run P w = .ok (.value v) w' := by
      simp [execOp, ho, resolve, invoke, e, h1]
    rw [this]
    exact hf _ _ h2
  have uni : ∀ {s : Sem Unit}, effU P s w (f undef) → execOp a.eval o = (do s; pure .skip) → o.wp P a w next Q := by
    intro s h e
    obtain ⟨w', h1, h2⟩ := h
    unfold Oper.wp
    rw [e]
    simp only [Sem.run_bind, h1, Result.andThen_ok, Sem.run_pure, Oper.upon_skip]
    exact hf _ _ h2
  unfold vE at h
  split at h
  · rename_i t x v ho
    obtain ⟨w', h1, h2⟩ := vStore_run h
    refine uni (s := Instr.storeAt t (a.eval x) (a.eval v)) ⟨w', h1, h2⟩ (by simp [execOp, ho])
  · rename_i t x ho
    unfold Oper.wp
    have : (execOp a.eval o).run P w = .ok (.value (.pointer (some ⟨w.heap.size, 0, none⟩))) (w.alloc (.cells (a.eval x).cells t)) := by
      simp [execOp, ho, Instr.box, newVar, newRow]
    rw [this]
    exact hf _ _ h
  · rename_i t ho
    split at h
    · rename_i z hz
      unfold Oper.wp
      have : (execOp a.eval o).run P w = .ok (.value (.pointer (some ⟨w.heap.size, 0, none⟩))) (w.alloc (.cells z.cells t)) := by
        simp [execOp, ho, Instr.alloc, newVar, newRow, run_zero hz]
      rw [this]
      exact hf _ _ h
    · exact h.elim
  · rename_i g args ts ho
    cases hd : dynB A o with
    | true => rw [hd, cond_true] at h; exact vCallD_run ho h hf
    | false => rw [hd, cond_false] at h; exact vCall_run ho h hf hp
  · rename_i args ts ho; exact bval h ho (fun cs => by simp [builtin])
  · rename_i args ts ho; exact bval h ho (fun cs => by simp [builtin])
  · rename_i args ts ho; exact bval h ho (fun cs => by simp [builtin])
  · rename_i args ts ho; exact bval h ho (fun cs => by simp [builtin])
  · rename_i args ts ho; exact bval h ho (fun cs => by simp [builtin])
  · rename_i args ts ho; exact bval h ho (fun cs => by simp [builtin])
  · rename_i t n ps ho
    unfold vBuildSlice at h
    split at h
    · rename_i e cs hcs
      unfold sliceCellsQ at hcs
      split at hcs
      · rename_i e' hu
        split at hcs
        · rename_i m z hm hz
          split at hcs
          · rename_i cs' hd hfill
            cases hb : (m == z.cells.size) with
            | false => rw [hb, cond_false] at hcs; cases hcs
            | true =>
              rw [hb, cond_true] at hcs
              injection hcs with hcs; injection hcs with h1 h2; subst h1; subst h2
              simp only [beq_iff_eq] at hb
              simp only [Bool.and_eq_true, decide_eq_true_eq] at hd
              unfold Oper.wp
              have hr : (execOp a.eval o).run P w = .ok (.value (.slice (some ⟨w.heap.size, 0, none⟩) n n)) (w.alloc (.cells cs' e')) := by
                have hle : ¬ n * m > 2 ^ 24 := by omega
                simp only [execOp, ho, Instr.buildSlice, Sem.run_bind, run_underlying' hu, Result.andThen_ok, run_sizeOf hm, if_neg hle, Sem.run_pure]
                have hrange := range_cells z.cells n m hb hd.2
                simp only [if_neg (Nat.ne_of_gt hd.2), Sem.run_bind, run_zero hz, Result.andThen_ok, Sem.run_pure, hrange, hfill]
                simp [newRow]
              rw [hr]
              exact hf _ _ h
          · cases hcs
        · cases hcs
      · cases hcs
    · exact h.elim
  · rename_i ho; exact val h (by simp [execOp, ho])
  · rename_i ho
    unfold Oper.wp
    have hr : (execOp a.eval o).run P w = .ok (.value (.map (some w.heap.size))) (w.alloc (.map #[] 0)) := by simp [execOp, ho, Instr.makeMap]
    rw [hr]
    exact hf _ _ h
  · rename_i ho; exact uni h (by simp [execOp, ho])
  · rename_i ho; exact uni h (by simp [execOp, ho])
  · rename_i ho; exact val h (by simp [execOp, ho])
  · rename_i ho; exact uni h (by simp [execOp, ho])
  · rename_i ho; exact val h (by simp [execOp, ho])
  · rename_i it s ho
    have hx : ∃ v w', (Instr.next (a.eval it) s o.type).run P w = .ok v w' ∧ f v w' := by
      rcases h with ⟨w', h1, h2⟩ | h
      · exact ⟨_, w', h1, h2⟩
      · cases s with
        | true => obtain ⟨k, c, w', h1, h2⟩ := h; exact ⟨_, w', h1, h2⟩
        | false => obtain ⟨k, v, w', h1, h2⟩ := h; exact ⟨_, w', h1, h2⟩
    obtain ⟨v, w', h1, h2⟩ := hx
    unfold Oper.wp
    have hr : (execOp a.eval o).run P w = .ok (.value v) w' := by simp [execOp, ho, h1]
    rw [hr]
    exact hf _ _ h2
  · rename_i it ho
    split at h
    · obtain ⟨vs, w', h1, h2⟩ := exTup_some _ _ _ h
      unfold Oper.wp
      have hr : (execOp a.eval o).run P w = .ok (.value (.tuple vs)) w' := by simp [execOp, ho, h1]
      rw [hr]
      exact hf _ _ h2
    · exact h.elim
  · rename_i ho; exact val h (by simp [execOp, ho])
  · rename_i ho; exact val h (by simp [execOp, ho])
  · rename_i ho; exact val h (by simp [execOp, ho])
  · rename_i ho; exact val h (by simp [execOp, ho])
  · rename_i x ho
    split at h
    · rename_i t v hx
      unfold Oper.wp
      have : (execOp a.eval o).run P w = .halt (.panic (.iface t v)) w := by simp [execOp, ho, hx, Instr.panic]
      rw [this]
      exact hp _ _ h
    · exact h.elim
  · exact h.elim

end
end Go.Vc
