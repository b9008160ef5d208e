/- The VC generator, part B: the quiet operations are what the model runs. -/
import Derived.Test.YtkjihkmkchcmcaaGreatDoorVcA
namespace Go.Vc
open Go

section
variable {P : Program} {w : World}

theorem vPick_run {c x y : Value} {f : Value → Prop} (h : vPick c x y f) : ∃ v, (∀ w, (do pure (Next.value (if ← asBool c then x else y)) : Sem Next).run P w = .ok (.value v) w) ∧ f v := by
  unfold vPick at h
  split at h
  · rename_i b p q; cases b <;> exact ⟨_, fun w => by simp [asBool], h⟩
  · exact ⟨_, fun w => by simp [asBool], h⟩
  · exact ⟨_, fun w => by simp [asBool], h⟩
  · exact h.elim

theorem vInt_run {op : BinOp} {t : TypeId} {k k' : IntKind} {m n : Int} {f : Value → Prop} (h : vInt op k m k' n f) :
    ∃ v, (∀ w, (binOp op t (.int k m) (.int k' n)).run P w = .ok v w) ∧ f v := by
  unfold vInt at h
  split at h
  · obtain ⟨h0, h⟩ := h
    refine ⟨_, fun w => ?_, h⟩
    simp [binOp, Op.shift, show ¬ n < 0 by omega]
  · obtain ⟨h0, h⟩ := h
    refine ⟨_, fun w => ?_, h⟩
    simp [binOp, Op.shift, show ¬ n < 0 by omega]
  · split at h
    · exact h.elim
    · rename_i e
      simp only [decide_eq_true_eq] at e
      subst e
      split at h <;> first
        | exact h.elim
        | (obtain ⟨h0, h⟩ := h; exact ⟨_, fun w => by simp [binOp, Op.intDiv, h0], h⟩)
        | exact ⟨_, fun w => by simp [binOp, Op.intArith, Op.intBits, Op.intCmp, andI, orI, xorI, andNotI], h⟩

theorem vStr_run {op : BinOp} {t : TypeId} {s u : ByteArray} {f : Value → Prop} (h : vStr op s u f) :
    ∃ v, (∀ w, (binOp op t (.string s) (.string u)).run P w = .ok v w) ∧ f v := by
  unfold vStr at h
  split at h
  · obtain ⟨h0, h⟩ := h
    refine ⟨_, fun w => ?_, h⟩
    have : ¬ ((s.size + u.size : Nat) : Int) > IntKind.i64.max := by simp [IntKind.max, IntKind.bits, IntKind.signed]; omega
    simp only [binOp, Op.stringOp, if_neg this, Sem.run_pure]
  · exact ⟨_, fun w => by simp [binOp, Op.stringOp], h⟩
  · exact ⟨_, fun w => by simp [binOp, Op.stringOp], h⟩
  · exact ⟨_, fun w => by simp [binOp, Op.stringOp], h⟩
  · exact h.elim


def NoEq (a b : Value) : Prop := match a, b with | .nilIface, .nilIface => False | .agg _, .agg _ => False | _, _ => True

theorem run_eqGuard {op : BinOp} {t : TypeId} {x y : Operand} {a b : Value} (h : NoEq a b) :
    (eqGuard op t x y a b).run P w = .ok () w := by
  unfold eqGuard
  cases op <;> cases a <;> cases b <;> first | exact h.elim | simp

theorem isBoolT_some {t : TypeId} (h : isBoolT P t = true) : P.underlying t = some .bool := by
  unfold isBoolT at h; split at h <;> simp_all
theorem isStrT_some {t : TypeId} (h : isStrT P t = true) : P.underlying t = some .string := by
  unfold isStrT at h; split at h <;> simp_all
theorem isPtrT_some {t : TypeId} (h : isPtrT P t = true) : ∃ e, P.underlying t = some (.pointer e) := by
  unfold isPtrT at h; split at h <;> simp_all
theorem isSliceT_some {t : TypeId} (h : isSliceT P t = true) : ∃ e, P.underlying t = some (.slice e) := by
  unfold isSliceT at h; split at h <;> simp_all
theorem isMapT_some {t : TypeId} (h : isMapT P t = true) : ∃ e e', P.underlying t = some (.map e e') := by
  unfold isMapT at h; split at h <;> simp_all

theorem run_equal {t : TypeId} {x y : Value} {b : Bool} (h : (Op.equalIn 10000 t x y).run P w = .ok b w) : (Op.equal t x y).run P w = .ok b w := h

theorem run_equal_bool {t : TypeId} {p q : Bool} (h : P.underlying t = some .bool) : (Op.equal t (.bool p) (.bool q)).run P w = .ok (p == q) w := by
  apply run_equal; rw [Op.equalIn]; simp [run_underlying' h]

theorem run_equal_ptr {t e : TypeId} {p : Option Addr} (h : P.underlying t = some (.pointer e)) : (Op.equal t (.pointer p) (.pointer none)).run P w = .ok p.isNone w := by
  apply run_equal; rw [Op.equalIn]; cases p <;> simp [run_underlying' h]

theorem run_equal_slice {t e : TypeId} {p : Option Addr} {n c n' c' : Nat} (h : P.underlying t = some (.slice e)) : (Op.equal t (.slice p n c) (.slice none n' c')).run P w = .ok p.isNone w := by
  apply run_equal; rw [Op.equalIn]; cases p <;> simp [run_underlying' h]

theorem run_equal_map {t e e' : TypeId} {r : Option Nat} (h : P.underlying t = some (.map e e')) : (Op.equal t (.map r) (.map none)).run P w = .ok r.isNone w := by
  apply run_equal; rw [Op.equalIn]; cases r <;> simp [run_underlying' h]

theorem vOther_run {op : BinOp} {t : TypeId} {x y : Value} {f : Value → Prop} (h : vOther P op t x y f) :
    (∀ ox oy w, (eqGuard op t ox oy x y).run P w = .ok () w) ∧ ∃ v, (∀ w, (binOp op t x y).run P w = .ok v w) ∧ f v := by
  unfold vOther at h
  split at h
  · obtain ⟨b, ⟨h1, h2⟩, h3⟩ := h; exact ⟨h1, _, h2, h3⟩
  · obtain ⟨b, ⟨h1, h2⟩, h3⟩ := h; exact ⟨h1, _, h2, h3⟩
  · exact h.elim

theorem vBin_run {op : BinOp} {t : TypeId} {x y : Value} {f : Value → Prop} (h : vBin P op t x y f) :
    (∀ ox oy w, (eqGuard op t ox oy x y).run P w = .ok () w) ∧ ∃ v, (∀ w, (binOp op t x y).run P w = .ok v w) ∧ f v := by
  cases x <;> cases y <;> try (exact vOther_run h)
  case bool.bool p q =>
    refine ⟨fun _ _ _ => run_eqGuard trivial, ?_⟩
    replace h : (match (generalizing := false) isBoolT P t, op with | true, .eql => f (.bool (p == q)) | true, .neq => f (.bool (!(p == q))) | _, _ => False) := h
    split at h
    · rename_i e; exact ⟨_, fun w => by simp [binOp, run_equal_bool (isBoolT_some e)], h⟩
    · rename_i e; exact ⟨_, fun w => by simp [binOp, run_equal_bool (isBoolT_some e)], h⟩
    · exact h.elim
  case int.int k m k' n => exact ⟨fun _ _ _ => run_eqGuard trivial, vInt_run h⟩
  case string.string s u => exact ⟨fun _ _ _ => run_eqGuard trivial, vStr_run h⟩
  case pointer.pointer p q =>
    cases q with
    | some q => exact vOther_run h
    | none =>
      refine ⟨fun _ _ _ => run_eqGuard trivial, ?_⟩
      replace h : (match (generalizing := false) isPtrT P t, op with | true, .eql => f (.bool p.isNone) | true, .neq => f (.bool (!p.isNone)) | _, _ => False) := h
      split at h
      · rename_i e; obtain ⟨_, e⟩ := isPtrT_some e; exact ⟨_, fun w => by simp [binOp, run_equal_ptr e], h⟩
      · rename_i e; obtain ⟨_, e⟩ := isPtrT_some e; exact ⟨_, fun w => by simp [binOp, run_equal_ptr e], h⟩
      · exact h.elim
  case slice.slice p n c q n' c' =>
    cases q with
    | some q => exact vOther_run h
    | none =>
      refine ⟨fun _ _ _ => run_eqGuard trivial, ?_⟩
      replace h : (match (generalizing := false) isSliceT P t, op with | true, .eql => f (.bool p.isNone) | true, .neq => f (.bool (!p.isNone)) | _, _ => False) := h
      split at h
      · rename_i e; obtain ⟨_, e⟩ := isSliceT_some e; exact ⟨_, fun w => by simp [binOp, run_equal_slice e], h⟩
      · rename_i e; obtain ⟨_, e⟩ := isSliceT_some e; exact ⟨_, fun w => by simp [binOp, run_equal_slice e], h⟩
      · exact h.elim
  case map.map r q =>
    cases q with
    | some q => exact vOther_run h
    | none =>
      refine ⟨fun _ _ _ => run_eqGuard trivial, ?_⟩
      replace h : (match (generalizing := false) isMapT P t, op with | true, .eql => f (.bool r.isNone) | true, .neq => f (.bool (!r.isNone)) | _, _ => False) := h
      split at h
      · rename_i e; obtain ⟨_, _, e⟩ := isMapT_some e; exact ⟨_, fun w => by simp [binOp, run_equal_map e], h⟩
      · rename_i e; obtain ⟨_, _, e⟩ := isMapT_some e; exact ⟨_, fun w => by simp [binOp, run_equal_map e], h⟩
      · exact h.elim

theorem vUn_run {op : UnOp} {x : Value} {f : Value → Prop} (h : vUn op x f) : ∃ v, (∀ w, (Op.unary op x).run P w = .ok v w) ∧ f v := by
  unfold vUn at h
  split at h
  · exact ⟨_, fun w => by simp [Op.unary], h⟩
  · exact ⟨_, fun w => by simp [Op.unary, Op.intArith], h⟩
  · exact ⟨_, fun w => by simp [Op.unary, Op.intBits, notI], h⟩
  · exact h.elim

theorem vNil_run {o : Oper} {ev : Operand → Value} {x : Operand} {f : Value → Prop} (ho : o.op = .nilCheck x) (h : vNil (ev x) f) :
    ∃ v, (∀ w, (execOp ev o).run P w = .ok (.value v) w) ∧ f v := by
  unfold vNil at h
  split at h
  · rename_i p e
    obtain ⟨q, rfl, h⟩ := h
    exact ⟨_, fun w => by simp [execOp, ho, e], h⟩
  · rename_i g fi ca e
    exact ⟨_, fun w => by simp [execOp, ho, e], h⟩
  · exact h.elim

theorem fldQ_some {s : TypeId} {i o : Nat} (h : fldQ P s i = some o) : ∃ fs fd n, P.underlying s = some (.struct fs) ∧ fs[i]? = some fd ∧ szQ P fd.type = some (n + 1) ∧ fd.offset = o := by
  unfold fldQ at h
  split at h
  · rename_i fs e1
    split at h
    · rename_i fd e2
      split at h
      · rename_i n e3
        exact ⟨fs, fd, n, e1, e2, e3, Option.some.inj h⟩
      · cases h
    · cases h
  · cases h

theorem vFieldAddr_run {s : TypeId} {x : Value} {i : Nat} {f : Value → Prop} (h : vFieldAddr P s x i f) : ∃ v, (∀ w, (Instr.fieldAt s x i).run P w = .ok v w) ∧ f v := by
  unfold vFieldAddr at h
  split at h
  · rename_i a
    split at h
    · rename_i o e
      obtain ⟨fs, fd, n, e1, e2, e3, rfl⟩ := fldQ_some e
      exact ⟨_, fun w => by simp [Instr.fieldAt, run_underlying' e1, e2, Instr.sureAddr, fieldPlace, run_sizeOf e3], h⟩
    · exact h.elim
  · exact h.elim

theorem vLoad_run {k : K1} {t : TypeId} {x : Value} {f : Value → Prop} (h : vLoad P k t x w f) : ∃ v, (∀ w', Grow w w' → (Instr.loadAt t x).run P w' = .ok v w') ∧ f v := by
  unfold vLoad at h
  split at h
  · obtain ⟨v, h1, h2⟩ := ldK_run h
    exact ⟨v, fun w' g => by simp [Instr.loadAt, Instr.sureAddr, h1 w' g], h2⟩
  · exact h.elim

end
end Go.Vc
