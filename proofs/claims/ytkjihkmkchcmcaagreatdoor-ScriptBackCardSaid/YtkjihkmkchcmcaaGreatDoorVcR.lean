/- The VC generator: frames and tries; one operation. -/
import Derived.Test.YtkjihkmkchcmcaaGreatDoorVcE
import Derived.Deep.LoopGhost
import Derived.Deep.Quiet
namespace Go.Vc
open Go

section
variable {P : Program} {τ : TypeId → K1} {ρ : TypeId → Kd} {pan : FuncId → Bool} {A : Ann}

/-- The trie is the frame. -/
structure Rel (N : Nat) (T : Tr) (a : Act) : Prop where
  defers : a.defers = []
  size : a.tmps.size = N
  get : ∀ t, a.tmps.getD t undef = T.get t

theorem Rel.ev {N : Nat} {T : Tr} {a : Act} (h : Rel N T a) : a.eval = T.ev := by
  funext x
  cases x with
  | tmp t => exact h.get t
  | const v => rfl
  | global g => rfl
  | func f => rfl

theorem Rel.at {N : Nat} {T : Tr} {a : Act} (h : Rel N T a) {d : Nat} (hd : d < N) : a.tmps[d]? = some (T.get d) := by
  have hlt : d < a.tmps.size := by rw [h.size]; exact hd
  rw [Array.getElem?_eq_getElem hlt, ← h.get d]
  simp [Array.getD, hlt]

theorem Rel.put {N : Nat} {T : Tr} {a : Act} (h : Rel N T a) (hN : N ≤ 8000) {d : Option Nat} (hd : ∀ t, d = some t → t < N) (v : Value) : Rel N (T.put d v) (a.put d v) := by
  cases d with
  | none => exact h
  | some d =>
    have hlt := hd d rfl
    refine ⟨h.defers, by simp [Act.put, h.size], fun t => ?_⟩
    rw [Tr.get_put T d t v (by omega), ← h.get t]
    have hs : d < a.tmps.size := by rw [h.size]; exact hlt
    simp only [Act.put, Array.getD_eq_getD_getElem?, Array.getElem?_setIfInBounds]
    by_cases e : d = t
    · subst e; simp [hs]
    · rw [if_neg e, if_neg (fun e' => e e'.symm)]

theorem Rel.same {N : Nat} {T T' : Tr} {a : Act} (h : Rel N T a) (ht : ∀ t, T'.get t = T.get t) : Rel N T' a := ⟨h.defers, h.size, fun t => (h.get t).trans (ht t).symm⟩

/-- The tries are one but for the slots of W. -/
def Fr (W : List Nat) (T T' : Tr) : Prop := ∀ t, t ∉ W → T'.get t = T.get t

theorem Fr.refl (W : List Nat) (T : Tr) : Fr W T T := fun _ _ => rfl
theorem Fr.trans {W : List Nat} {a b c : Tr} (h : Fr W a b) (h' : Fr W b c) : Fr W a c := fun t ht => (h' t ht).trans (h t ht)
theorem Fr.mono {W W' : List Nat} {a b : Tr} (h : Fr W a b) (hs : ∀ t, t ∈ W → t ∈ W') : Fr W' a b := fun t ht => h t (fun h' => ht (hs t h'))
theorem Fr.put (W : List Nat) (T : Tr) (d : Option Nat) (v : Value) (h : ∀ t, d = some t → t ∈ W ∧ t < 8000) : Fr W T (T.put d v) := by
  cases d with
  | none => exact .refl _ _
  | some d =>
    intro t ht
    rw [Tr.get_put T d t v (h d rfl).2, if_neg (fun e => ht (by rw [e]; exact (h d rfl).1))]

/-- What the operations of a list ask of the program, and of the frame. -/
def okOps (P : Program) (N : Nat) (l : List Oper) : Bool := l.all fun o => (match o.op with
  | .convert s _ _ => (P.underlying s).isSome
  | _ => true) && (match o.dst with | some d => Nat.blt d N | none => true)

/-- Slots in range. -/
def okS (l : List (Nat × C1)) : Prop := ∀ x ∈ l, x.1 < 8000

/-- The slots that a code writes lie in the frame. -/
def okW (c : Code) : Bool := (wr c).all fun t => Nat.blt t 8000

theorem okW_lt {c : Code} (h : okW c = true) : ∀ t ∈ wr c, t < 8000 := fun t ht => by simpa using List.all_eq_true.1 h t ht

def okSB (l : List (Nat × C1)) : Bool := l.all fun x => Nat.blt x.1 8000
theorem okSB_lt {l : List (Nat × C1)} (h : okSB l = true) : okS l := fun x hx => by simpa using List.all_eq_true.1 h x hx

theorem okOps_conv {N : Nat} {l : List Oper} (h : okOps P N l = true) {o : Oper} (ho : o ∈ l) : ∀ s d x, o.op = .convert s d x → (P.underlying s).isSome = true := by
  intro s d x e
  have := List.all_eq_true.1 h o ho
  simp only [Bool.and_eq_true, e] at this
  exact this.1

theorem okOps_dst {N : Nat} {l : List Oper} (h : okOps P N l = true) {o : Oper} (ho : o ∈ l) : ∀ t, o.dst = some t → t < N := by
  intro t e
  have := List.all_eq_true.1 h o ho
  simp only [Bool.and_eq_true, e] at this
  simpa using this.2

theorem okOps_tail {N : Nat} {o : Oper} {l : List Oper} (h : okOps P N (o :: l) = true) : okOps P N l = true := by
  unfold okOps at h ⊢; rw [List.all_cons, Bool.and_eq_true] at h; exact h.2

def wantV (want : Bool) : Value → Bool
  | .bool b => b == want
  | _ => false

theorem wanted_of {ops : Array Oper} {o : Oper} {a : Act} {j d : Nat} {want : Bool} {v : Value} (hg : o.guard = some (j, want)) (hd : (ops[j]?).bind (·.dst) = some d) (hb : a.tmps[d]? = some v) :
    Region.wanted o (yielded ops a.tmps) = wantV want v := by
  unfold Region.wanted yielded
  simp only [hg, hd, Option.bind_some, hb]
  cases v
  case bool b => cases b <;> cases want <;> rfl
  all_goals rfl

/-- What a guard comes to: the one way, or the other. -/
theorem vGuard_run {N : Nat} {ops : Array Oper} {o : Oper} {T : Tr} {a : Act} {yes no : Tr → Prop} {B : Prop} (hN : N ≤ 8000) (hops : okOps P N ops.toList = true) (hr : Rel N T a) (h : vGuard ops o T yes no)
    (hy : ∀ T', (∀ t, T'.get t = T.get t) → yes T' → Region.wanted o (yielded ops a.tmps) = true → B) (hn : ∀ T', (∀ t, T'.get t = T.get t) → no T' → Region.wanted o (yielded ops a.tmps) = false → B) : B := by
  unfold vGuard at h
  split at h
  · rename_i hg
    exact hy T (fun _ => rfl) h (by simp [Region.wanted, hg])
  · rename_i j want hg
    split at h
    · exact h.elim
    · rename_i d hd
      have hdN : d < N := by
        cases hj : ops[j]? with
        | none => simp [hj] at hd
        | some oj =>
          have hm : oj ∈ ops.toList := by rw [Array.mem_toList_iff]; exact Array.mem_of_getElem? hj
          exact okOps_dst hops hm d (by simpa [hj] using hd)
      have hat := hr.at hdN
      have hw := wanted_of hg hd hat
      split at h
      · rename_i b hb
        rw [hb] at hw
        have hsame : ∀ t, (T.put (some d) (.bool b)).get t = T.get t := by
          intro t
          rw [Tr.get_put T d t _ (Nat.lt_of_lt_of_le hdN hN)]
          split
          · rename_i e; subst e; exact hb.symm
          · rfl
        cases b with
        | true =>
          rw [cond_true] at h
          cases want with
          | true => exact hy _ hsame h hw
          | false => exact hn _ hsame h hw
        | false =>
          rw [cond_false] at h
          cases want with
          | true => exact hn _ hsame h hw
          | false => exact hy _ hsame h hw
      · rename_i vs hb
        rw [hb] at hw
        exact hn T (fun _ => rfl) h hw
      · exact h.elim

theorem vOp_run {N : Nat} {o : Oper} {T : Tr} {a : Act} {w : World} {next : Tr → World → Prop} {next' : Act → World → Prop} {Q : Exit → Tr → World → Prop} {Q' : Exit → Act → World → Prop}
    (hr : Rel N T a) (hc : ∀ s d x, o.op = .convert s d x → (P.underlying s).isSome = true)
    (h : vOp P τ ρ pan A o T w next Q) (hn : ∀ v w', next (T.put o.dst v) w' → next' (a.put o.dst v) w') (hp : ∀ ch w', Q (.panic ch) T w' → Q' (.panic ch) a w') : o.wp P a w next' Q' := by
  unfold vOp at h
  cases hq : quietB A o with
  | true =>
    rw [hq, cond_true] at h
    rw [← hr.ev] at h
    obtain ⟨v, h1, h2⟩ := vQ_run hc h
    unfold Oper.wp
    rw [h1 w (fun _ => .refl w)]
    exact hn _ _ h2
  | false =>
    rw [hq, cond_false] at h
    rw [← hr.ev] at h
    exact vE_run h (fun v w' hv => hn v w' hv) hp


end
end Go.Vc
