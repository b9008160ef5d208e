/- The VC generator, part G: a whole function. -/
import Derived.Test.YtkjihkmkchcmcaaGreatDoorVcF
import Derived.Eval
namespace Go.Vc
open Go

/-- It returns, and this holds of what it returns, and of the world then. -/
def Ret (K : Value → World → Prop) (e : Ending) (w : World) : Prop := ∃ v, e = .returned v ∧ K v w

/-- It returns, and this holds; or it panics, and that holds. -/
def RetP (K : Value → World → Prop) (p : List PanicEntry → World → Prop) (e : Ending) (w : World) : Prop := (∃ v, e = .returned v ∧ K v w) ∨ ∃ ch, e = .panicked ch ∧ p ch w

/-- The results out of the frame. -/
def resQ (P : Program) (τ : TypeId → K1) (w : World) (T : Tr) : List ResultVar → Array Value → (Array Value → Prop) → Prop
  | [], acc, f => f acc
  | .tmp t :: l, acc, f => resQ P τ w T l (acc.push (T.get t)) f
  | .cell p t :: l, acc, f => vLoad P (τ t) t (T.get p) w fun v => resQ P τ w T l (acc.push v) f

def oneOf (vs : Array Value) : Value := match vs.toList with | [v] => v | _ => .tuple vs

def vRet (P : Program) (τ : TypeId → K1) (rs : List ResultVar) (K : Value → World → Prop) (p : List PanicEntry → World → Prop) : Exit → Tr → World → Prop
  | .normal, T, w => resQ P τ w T rs #[] fun vs => K (oneOf vs) w
  | .ret, T, w => resQ P τ w T rs #[] fun vs => K (oneOf vs) w
  | .panic ch, _, w => p ch w
  | _, _, _ => False

noncomputable def initT : List Value → Nat → Tr → Tr
  | [], _, T => T
  | v :: l, i, T => initT l (i + 1) (T.put (some i) v)

def vcFn (P : Program) (τ : TypeId → K1) (ρ : TypeId → Kd) (pan : FuncId → Bool) (A : Ann) (fn : Func) (args : Array Value) (K : Value → World → Prop) (p : List PanicEntry → World → Prop) (w : World) : Prop :=
  match fn.body with
  | some c => vc P τ ρ pan A 1000 c (vRet P τ fn.results.toList K p) (initT args.toList 0 .nil) w
  | none => False

/-- What a function must be like, for its VC to hold good. -/
def okFn (P : Program) (A : Ann) (fn : Func) (n : Nat) : Bool := match fn.body with
  | some c => okCode P fn.ntmps A c && Nat.ble fn.ntmps 8000 && Nat.ble n fn.ntmps
  | none => false

section
variable {P : Program} {τ : TypeId → K1} {ρ : TypeId → Kd} {pan : FuncId → Bool} {A : Ann}

def resG (tmps : Array Value) : ResultVar → Sem Value
  | .tmp t => pure (tmps.getD t undef)
  | .cell p t => do loadVar t (← asAddr (tmps.getD p undef))

theorem results_eq (fn : Func) (tmps : Array Value) : results fn tmps = (do
    let vs ← fn.results.mapM (resG tmps)
    pure (if h : vs.size = 1 then vs[0] else .tuple vs)) := rfl

theorem resQ_run {w : World} {a : Act} {T : Tr} {N : Nat} (hr : Rel N T a) : ∀ (l : List ResultVar) (acc : Array Value) (f : Array Value → Prop), resQ P τ w T l acc f →
    ∃ vs, (l.mapM (resG a.tmps)).run P w = .ok vs w ∧ f (acc ++ vs.toArray)
  | [], acc, f, h => ⟨[], by simp, by simpa [resQ] using h⟩
  | .tmp t :: l, acc, f, h => by
    obtain ⟨vs, h1, h2⟩ := resQ_run hr l _ f h
    refine ⟨T.get t :: vs, ?_, ?_⟩
    · simp only [List.mapM_cons, resG, hr.get, Sem.run_bind, Sem.run_pure, Result.andThen_ok, h1]
    · have : acc ++ (T.get t :: vs).toArray = acc.push (T.get t) ++ vs.toArray := by apply Array.ext'; simp
      rw [this]; exact h2
  | .cell p t :: l, acc, f, h => by
    unfold resQ vLoad at h
    split at h
    · rename_i q hq
      obtain ⟨v, h1, h2⟩ := ldK_run (P := P) h
      obtain ⟨vs, h3, h4⟩ := resQ_run hr l _ f h2
      refine ⟨v :: vs, ?_, ?_⟩
      · have ha : (asAddr (a.tmps.getD p undef)).run P w = .ok q w := by rw [hr.get, hq]; rfl
        simp only [List.mapM_cons, resG, Sem.run_bind, ha, Sem.run_pure, Result.andThen_ok, h1 w (.refl w), h3]
      · have : acc ++ (v :: vs).toArray = acc.push v ++ vs.toArray := by apply Array.ext'; simp
        rw [this]; exact h4
    · exact h.elim

theorem results_run {fn : Func} {w : World} {a : Act} {T : Tr} {N : Nat} (hr : Rel N T a) {f : Array Value → Prop} (h : resQ P τ w T fn.results.toList #[] f) : ∃ vs, (results fn a.tmps).run P w = .ok (oneOf vs) w ∧ f vs := by
  obtain ⟨vs, h1, h2⟩ := resQ_run hr _ _ _ h
  refine ⟨vs.toArray, ?_, by simpa using h2⟩
  rw [results_eq, Array.mapM_eq_mapM_toList]
  simp only [Sem.run_bind, Sem.run_map, h1, Result.andThen_ok, Sem.run_pure]
  congr 1
  match vs with
  | [] => rfl
  | [v] => rfl
  | u :: v :: l => simp [oneOf]

theorem initT_get : ∀ (l : List Value) (i : Nat) (T : Tr) (t : Nat), i + l.length ≤ 8000 → (initT l i T).get t = if t < i then T.get t else match l[t - i]? with | some v => v | none => T.get t
  | [], i, T, t, _ => by simp [initT]
  | v :: l, i, T, t, h => by
    simp only [List.length_cons] at h
    unfold initT
    rw [initT_get l (i + 1) _ t (by omega)]
    by_cases h1 : t < i
    · rw [if_pos (by omega), if_pos h1, Tr.get_put T i t v (by omega), if_neg (by omega)]
    · by_cases h2 : t = i
      · subst h2
        rw [if_pos (by omega), if_neg h1, Tr.get_put T t t v (by omega), if_pos rfl]
        simp
      · rw [if_neg (by omega), if_neg h1, Tr.get_put T i t v (by omega), if_neg h2]
        have : t - i = (t - (i + 1)) + 1 := by omega
        rw [this, List.getElem?_cons_succ]

theorem Rel.init {N : Nat} {args : Array Value} (hN : N ≤ 8000) (hn : args.size ≤ N) : Rel N (initT args.toList 0 .nil) { tmps := args ++ Array.replicate (N - args.size) undef, defers := [] } := by
  refine ⟨rfl, by simp; omega, fun t => ?_⟩
  rw [initT_get _ 0 _ t (by simp; omega), if_neg (by omega), Nat.sub_zero]
  simp only [Array.getD_eq_getD_getElem?, Array.getElem?_append, Array.getElem?_toList]
  by_cases h : t < args.size
  · simp [h]
  · rw [if_neg h, Array.getElem?_eq_none (Nat.le_of_not_lt h)]
    simp only [Tr.get_nil]
    by_cases h2 : t - args.size < N - args.size
    · simp [h2]
    · simp [h2]

/-- A function that returns, or panics. -/
theorem callsP_of_vc {g : FuncId} {fn : Func} {args : Array Value} {w : World} {K : Value → World → Prop} {p : List PanicEntry → World → Prop} (hm : P.follows .mixedOrders = true) (hf : P.funcs[g]? = some fn) (hok : okFn P A fn args.size = true)
    (h : vcFn P τ ρ pan A fn args K p w) : Calls P g args w (RetP K p) := by
  unfold vcFn at h
  unfold okFn at hok
  split at h
  · rename_i c hc
    rw [hc] at hok
    simp only [Bool.and_eq_true] at hok
    obtain ⟨⟨hok, hN⟩, hn⟩ := hok
    have hN' : fn.ntmps ≤ 8000 := by simpa using hN
    have hn' : args.size ≤ fn.ntmps := by simpa using hn
    refine calls_of_wp hf hc ?_
    refine vc_run hm hN' 1000 c _ _ _ _ _ hok (Rel.init hN' hn') h (fun e T' w' a' he _ hr => ?_)
    cases e with
    | normal =>
      obtain ⟨vs, h1, h2⟩ := results_run hr he
      exact ⟨hr.defers, _, h1, .inl ⟨_, rfl, h2⟩⟩
    | ret =>
      obtain ⟨vs, h1, h2⟩ := results_run hr he
      exact ⟨hr.defers, _, h1, .inl ⟨_, rfl, h2⟩⟩
    | panic ch => exact ⟨hr.defers, .inr ⟨_, rfl, he⟩⟩
    | exit id => exact he.elim
    | goto l => exact he.elim
    | outgrown => exact he.elim
  · exact h.elim

/-- A function that returns. -/
theorem calls_of_vc {g : FuncId} {fn : Func} {args : Array Value} {w : World} {K : Value → World → Prop} (hm : P.follows .mixedOrders = true) (hf : P.funcs[g]? = some fn) (hok : okFn P A fn args.size = true)
    (h : vcFn P τ ρ pan A fn args K (fun _ _ => False) w) : Calls P g args w (Ret K) :=
  (callsP_of_vc hm hf hok h).mono fun _ _ he => he.elim id fun ⟨_, _, h⟩ => h.elim

end
end Go.Vc
