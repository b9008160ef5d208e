/- The VC generator, part S: drawn regions in which effects stand in a forced order, and reads float among them. -/
import Derived.Test.YtkjihkmkchcmcaaGreatDoorVcR
namespace Go.Vc
open Go

section
variable {P : Program} {τ : TypeId → K1} {ρ : TypeId → Kd} {pan : FuncId → Bool} {A : Ann}

/-- Does i stand ahead of j? -/
def bef (ops : Array Oper) (i j : Nat) : Bool := (bmask ops ops.size j).testBit i

def posOf (σ : List Nat) (i : Nat) : Nat := σ.idxOf i

def writesB (o : Oper) (t : Nat) : Bool := match o.dst with | some d => Nat.beq d t | none => false

/-- i reads t, j writes it: j is ahead of i, in the order too; or behind. -/
def apartB (ops : Array Oper) (σ : List Nat) (i j : Nat) : Bool :=
  (bef ops j i && Nat.blt (posOf σ j) (posOf σ i)) || (bef ops i j && Nat.blt (posOf σ i) (posOf σ j))

def sigReadsB (ops : Array Oper) (σ : List Nat) : Bool :=
  (List.range ops.size).all fun i => match ops[i]? with
    | none => false
    | some o => (o.looksAt ops).all fun t => (List.range ops.size).all fun j => match ops[j]? with
      | none => false
      | some oj => !writesB oj t || apartB ops σ i j

/-- What floats is looked at behind the effects that it waits for, and no earlier; effects wait for each other. -/
def sigEffsB (ops : Array Oper) (σ effs : List Nat) : Bool :=
  effs.all fun e => (List.range ops.size).all fun i => !Nat.blt (posOf σ e) (posOf σ i) || bef ops e i

def sigDstB (ops : Array Oper) : Bool :=
  (List.range ops.size).all fun i => (List.range ops.size).all fun j => Nat.beq i j || (match (ops[i]?).bind (·.dst), (ops[j]?).bind (·.dst) with
    | some d, some d' => !Nat.beq d d'
    | _, _ => true)

def sigEdgeB (ops : Array Oper) : Bool :=
  (List.range ops.size).all fun i => match ops[i]? with
    | none => false
    | some o => o.after.toList.all fun e => !Region.binds .any e || Nat.blt e.on i

/-- What reads the world is not overtaken by who writes what it looks at. -/
def sigWarB (ops : Array Oper) (σ effs : List Nat) : Bool :=
  (List.range ops.size).all fun i => match ops[i]? with
    | none => false
    | some o => effs.contains i || !readsW o.op || ((o.looksAt ops).all fun t => (List.range ops.size).all fun j => match ops[j]? with
      | none => false
      | some oj => !writesB oj t || (bef ops j i && Nat.blt (posOf σ j) (posOf σ i)))

def sigB (ops : Array Oper) (σ effs : List Nat) : Bool :=
  Region.noSelect ops && (List.range ops.size).all (fun i => σ.contains i) && σ.all (fun i => Nat.blt i ops.size) && (List.range σ.length).all (fun k => Nat.beq (posOf σ (σ.getD k 0)) k) &&
  sigReadsB ops σ && sigEffsB ops σ effs && sigDstB ops && sigEdgeB ops && sigWarB ops σ effs && ops.toList.all (fun o => !readsW o.op || o.dst.isSome)

/-- Everything that stands ahead is done, if what it waits for is. -/
theorem bmask_closed {ops : Array Oper} {L : Nat → Bool} (hcl : ∀ j o, L j = true → ops[j]? = some o → ∀ e ∈ o.after, Region.binds .any e = true → L e.on = true) :
    ∀ (f j : Nat), (∀ o, ops[j]? = some o → ∀ e ∈ o.after, Region.binds .any e = true → L e.on = true) → ∀ i, (bmask ops f j).testBit i = true → L i = true := by
  intro f
  induction f with
  | zero => intro j _ i h; simp [bmask] at h
  | succ f ih =>
    intro j hj i h
    unfold bmask maskOf at h
    split at h
    · simp at h
    · rename_i o ho
      have key : ∀ (l : List Edge) (s : Nat), (∀ e ∈ l, e ∈ o.after) → (s.testBit i = true → L i = true) →
          (l.foldl (fun s e => bif Region.binds .any e then s ||| 2 ^ e.on ||| bmask ops f e.on else s) s).testBit i = true → L i = true := by
        intro l
        induction l with
        | nil => intro s _ hs h; exact hs h
        | cons e l ihl =>
          intro s hl hs h
          rw [List.foldl_cons] at h
          refine ihl _ (fun e' he' => hl e' (List.mem_cons_of_mem _ he')) ?_ h
          intro hb
          cases hbind : Region.binds .any e with
          | false => rw [hbind, cond_false] at hb; exact hs hb
          | true =>
            rw [hbind, cond_true] at hb
            simp only [Nat.testBit_or, Bool.or_eq_true] at hb
            have hon : L e.on = true := hj o ho e (hl e (List.mem_cons_self ..)) hbind
            rcases hb with (hb | hb) | hb
            · exact hs hb
            · rw [Nat.testBit_two_pow] at hb
              simp only [decide_eq_true_eq] at hb
              rw [← hb]; exact hon
            · exact ih e.on (fun o' ho' e' he' hb' => hcl e.on o' hon ho' e' he' hb') i hb
      exact key o.after.toList 0 (fun e he => by simpa using he) (by simp) h

/-- The frames agree where an operation looks. -/
def Agree (ops : Array Oper) (o : Oper) (a b : Act) : Prop := ∀ t ∈ o.looksAt ops, a.tmps[t]? = b.tmps[t]?

theorem Agree.exec {ops : Array Oper} {o : Oper} {a b : Act} (hs : ∀ cs b, o.op ≠ .select cs b) (h : Agree ops o a b) : execOp a.eval o = execOp b.eval o := by
  refine execOp_congr o hs fun x hx => ?_
  cases x with
  | tmp t =>
    have : t ∈ o.looksAt ops := List.mem_append_left _ (List.mem_filterMap.2 ⟨.tmp t, by simpa using hx, rfl⟩)
    have := h t this
    simp [Act.eval, Array.getD_eq_getD_getElem?, this]
  | const v => rfl
  | global g => rfl
  | func f => rfl

theorem Agree.wanted {ops : Array Oper} {o : Oper} {a b : Act} (h : Agree ops o a b) : Region.wanted o (yielded ops a.tmps) = Region.wanted o (yielded ops b.tmps) := by
  unfold Region.wanted
  cases hg : o.guard with
  | none => rfl
  | some g =>
    obtain ⟨j, want⟩ := g
    dsimp only
    have : yielded ops a.tmps j = yielded ops b.tmps j := by
      unfold yielded
      cases hd : (ops[j]?).bind (·.dst) with
      | none => rfl
      | some d =>
        have hm : d ∈ o.looksAt ops := by
          unfold Oper.looksAt
          rw [hg]
          exact List.mem_append_right _ (by simp [hd])
        simp only [Option.bind_some, h d hm]
    rw [this]

/-- One operation, whose frame agrees with another one where it looks. -/
theorem wp_agree {o : Oper} {a b : Act} {w : World} {K K' : Act → World → Prop} {Q Q' : Exit → Act → World → Prop} (he : execOp a.eval o = execOp b.eval o) (h : o.wp P b w K Q)
    (hk : ∀ v w', K (b.put o.dst v) w' → K' (a.put o.dst v) w') (hp : ∀ ch w', Q (.panic ch) b w' → Q' (.panic ch) a w') (ho : LetsOut Q → LetsOut Q')
    (hdef : ∀ d w', ¬ K ({ b with defers := d :: b.defers }.put o.dst undef) w') : o.wp P a w K' Q' := by
  unfold Oper.wp at h ⊢
  rw [he]
  generalize (execOp b.eval o).run P w = r at h
  cases r with
  | ok n w1 =>
    cases n <;> first
      | exact hk _ _ h
      | exact h.elim
      | skip
    · exact Calls.mono h fun e w' he => by
        cases e with
        | returned v => exact hk _ _ he
        | panicked ch => exact hp _ _ he
        | outgrown => exact ho he
    · exact (hdef _ _ h).elim
    · exact Rows.mono h fun v w' he => hk _ _ he
  | halt x w1 =>
    cases x <;> first
      | exact hp _ _ h
      | exact h.elim

/-! ### the state between two operations -/

structure Sig (ops : Array Oper) (σ effs : List Nat) : Prop where
  nosel : Region.noSelect ops = true
  all : ∀ i, i < ops.size → i ∈ σ
  lt : ∀ i ∈ σ, i < ops.size
  pos : ∀ k i, σ[k]? = some i → posOf σ i = k
  reads : ∀ i o, ops[i]? = some o → ∀ t ∈ o.looksAt ops, ∀ j oj, ops[j]? = some oj → oj.dst = some t → (bef ops j i = true ∧ posOf σ j < posOf σ i) ∨ (bef ops i j = true ∧ posOf σ i < posOf σ j)
  chain : ∀ e ∈ effs, ∀ i, i < ops.size → posOf σ e < posOf σ i → bef ops e i = true
  dst : ∀ (i j : Nat) (oi oj : Oper) (d : Nat), ops[i]? = some oi → ops[j]? = some oj → oi.dst = some d → oj.dst = some d → i = j
  edge : ∀ i o, ops[i]? = some o → ∀ e ∈ o.after, Region.binds .any e = true → e.on < i
  rd : ∀ (i : Nat) (o : Oper), ops[i]? = some o → readsW o.op = true → o.dst ≠ none
  war : ∀ i o, ops[i]? = some o → i ∉ effs → readsW o.op = true → ∀ t ∈ o.looksAt ops, ∀ j oj, ops[j]? = some oj → oj.dst = some t → bef ops j i = true ∧ posOf σ j < posOf σ i

theorem get_lt {ops : Array Oper} {i : Nat} {o : Oper} (h : ops[i]? = some o) : i < ops.size := by
  rcases Nat.lt_or_ge i ops.size with h' | h'
  · exact h'
  · simp [Array.getElem?_eq_none h'] at h

theorem sig_of {ops : Array Oper} {σ effs : List Nat} (h : sigB ops σ effs = true) : Sig ops σ effs := by
  unfold sigB at h
  simp only [Bool.and_eq_true] at h
  obtain ⟨⟨⟨⟨⟨⟨⟨⟨⟨h1, h2⟩, h3⟩, h4⟩, h5⟩, h6⟩, h7⟩, h8⟩, h9⟩, h10⟩ := h
  have hall : ∀ i, i < ops.size → i ∈ σ := fun i hi => by simpa using List.all_eq_true.1 h2 i (List.mem_range.2 hi)
  have hlt : ∀ i ∈ σ, i < ops.size := fun i hi => by simpa using List.all_eq_true.1 h3 i hi
  have hpos : ∀ k i, σ[k]? = some i → posOf σ i = k := by
    intro k i hk
    have hlt : k < σ.length := by
      rcases Nat.lt_or_ge k σ.length with h | h
      · exact h
      · simp [List.getElem?_eq_none h] at hk
    have := List.all_eq_true.1 h4 k (List.mem_range.2 hlt)
    simpa [List.getD, hk] using this
  have hrd : ∀ (i : Nat) (o : Oper), ops[i]? = some o → readsW o.op = true → o.dst ≠ none := by
    intro i o ho hr hn
    have hm : o ∈ ops.toList := by rw [Array.mem_toList_iff]; exact Array.mem_of_getElem? ho
    have := List.all_eq_true.1 h10 o hm
    simp [hr, hn] at this
  refine ⟨h1, hall, hlt, hpos, ?_, ?_, ?_, ?_, hrd, ?_⟩
  · intro i o ho t ht j oj hoj hd
    have a := List.all_eq_true.1 h5 i (List.mem_range.2 (get_lt ho))
    simp only [ho] at a
    have b := List.all_eq_true.1 (List.all_eq_true.1 a t ht) j (List.mem_range.2 (get_lt hoj))
    simp only [hoj, writesB, hd, apartB, Bool.or_eq_true, Bool.and_eq_true, Bool.not_eq_true'] at b
    rcases b with b | b | b
    · simp at b
    · exact .inl ⟨b.1, by simpa using b.2⟩
    · exact .inr ⟨b.1, by simpa using b.2⟩
  · intro e he i hi hp
    have a := List.all_eq_true.1 (List.all_eq_true.1 h6 e he) i (List.mem_range.2 hi)
    simp only [Bool.or_eq_true, Bool.not_eq_true'] at a
    rcases a with a | a
    · have : Nat.blt (posOf σ e) (posOf σ i) = true := by simpa using hp
      rw [this] at a; cases a
    · exact a
  · intro i j oi oj d hi hj hdi hdj
    have a := List.all_eq_true.1 (List.all_eq_true.1 h7 i (List.mem_range.2 (get_lt hi))) j (List.mem_range.2 (get_lt hj))
    simp only [hi, hj, Option.bind_some, hdi, hdj, Bool.or_eq_true, Bool.not_eq_true'] at a
    rcases a with a | a
    · simpa using a
    · simp at a
  · intro i o ho e he hb
    have a := List.all_eq_true.1 h8 i (List.mem_range.2 (get_lt ho))
    simp only [ho] at a
    have b := List.all_eq_true.1 a e (by simpa using he)
    simp only [Bool.or_eq_true, Bool.not_eq_true', hb] at b
    rcases b with b | b
    · cases b
    · simpa using b
  · intro i o ho hi hr t ht j oj hoj hd
    have a := List.all_eq_true.1 h9 i (List.mem_range.2 (get_lt ho))
    simp only [ho, Bool.or_eq_true, Bool.not_eq_true'] at a
    rcases a with (a | a) | a
    · exact absurd (by simpa using a) hi
    · rw [hr] at a; cases a
    · have b := List.all_eq_true.1 (List.all_eq_true.1 a t ht) j (List.mem_range.2 (get_lt hoj))
      simp only [hoj, writesB, hd, Bool.or_eq_true, Bool.not_eq_true', Bool.and_eq_true] at b
      rcases b with b | b
      · simp at b
      · exact ⟨b.1, by simpa using b.2⟩

/-- A frame in which just the operations of M have been carried out. -/
structure AtM (ops : Array Oper) (N : Nat) (a0 : Act) (M : Nat → Prop) (val : Nat → Value) (a : Act) : Prop where
  defers : a.defers = []
  size : a.tmps.size = N
  put : ∀ j o t, ops[j]? = some o → o.dst = some t → M j → a.tmps[t]? = some (val j)
  old : ∀ t, (∀ j o, ops[j]? = some o → o.dst = some t → ¬ M j) → a.tmps[t]? = a0.tmps[t]?

theorem AtM.add {ops : Array Oper} {σ effs : List Nat} (hs : Sig ops σ effs) {N : Nat} (hok : okOps P N ops.toList = true) {a0 a : Act} {M : Nat → Prop} {val : Nat → Value} (h : AtM ops N a0 M val a) {i : Nat} {o : Oper} (ho : ops[i]? = some o) (hi : ¬ M i) (v : Value) :
    AtM ops N a0 (fun j => M j ∨ j = i) (fun j => if j = i then v else val j) (a.put o.dst v) := by
  have hmem : o ∈ ops.toList := by rw [Array.mem_toList_iff]; exact Array.mem_of_getElem? ho
  have hdst := okOps_dst hok hmem
  refine ⟨?_, ?_, ?_, ?_⟩
  · cases o.dst <;> exact h.defers
  · cases o.dst <;> simp [Act.put, h.size]
  · intro j oj t hj hd hM
    by_cases e : j = i
    · subst e
      rw [ho] at hj; injection hj with hj; subst hj
      rw [if_pos rfl]
      have hlt : t < a.tmps.size := by rw [h.size]; exact hdst t hd
      simp [Act.put, hd, hlt]
    · rw [if_neg e]
      have hM' : M j := hM.resolve_right e
      rw [← h.put j oj t hj hd hM']
      cases hdo : o.dst with
      | none => rfl
      | some d =>
        have : d ≠ t := fun e' => e (hs.dst j i oj o t hj ho hd (by rw [hdo, e']))
        simp [Act.put, this]
  · intro t ht
    rw [← h.old t (fun j oj hj hd hM => ht j oj hj hd (.inl hM))]
    cases hdo : o.dst with
    | none => rfl
    | some d =>
      have : d ≠ t := fun e' => ht i o ho (by rw [hdo, e']) (.inr rfl)
      simp [Act.put, this]

/-- What is known of an operation that has been looked at, and floats. -/
def Floats (P : Program) (ops : Array Oper) (σ : List Nat) (a0 : Act) (val : Nat → Value) (w : World) (i : Nat) : Prop :=
  ∀ o, ops[i]? = some o → ∀ b : Act, (∀ t ∈ o.looksAt ops, (∀ j oj, ops[j]? = some oj → oj.dst = some t → posOf σ j < posOf σ i → b.tmps[t]? = some (val j)) ∧
      ((∀ j oj, ops[j]? = some oj → oj.dst = some t → ¬ posOf σ j < posOf σ i) → b.tmps[t]? = a0.tmps[t]?)) →
    (Region.wanted o (yielded ops b.tmps) = true ∧ ∀ w', (readsW o.op = true → w' = w) → (execOp b.eval o).run P w' = .ok (.value (val i)) w') ∨
    (Region.wanted o (yielded ops b.tmps) = false ∧ val i = undef)

theorem idx_append {σ p rest : List Nat} {i : Nat} (h : σ = p ++ i :: rest) : σ[p.length]? = some i := by
  subst h; simp

/-- Positions in an order that is cut at i. -/
theorem Sig.lt_iff {ops : Array Oper} {σ effs : List Nat} (hs : Sig ops σ effs) {p rest : List Nat} {i : Nat} (h : σ = p ++ i :: rest) (j : Nat) (hj : j < ops.size) : posOf σ j < posOf σ i ↔ j ∈ p := by
  have hi : posOf σ i = p.length := hs.pos _ _ (idx_append h)
  rw [hi]
  constructor
  · intro hlt
    obtain ⟨k, hk, hkj⟩ := List.getElem_of_mem (hs.all j hj)
    have hk' : σ[k]? = some j := by rw [List.getElem?_eq_getElem hk, hkj]
    rw [hs.pos k j hk'] at hlt
    subst h
    rw [List.getElem?_append_left hlt] at hk'
    exact List.mem_of_getElem? hk'
  · intro hmem
    obtain ⟨k, hk, hkj⟩ := List.getElem_of_mem hmem
    have hk' : σ[k]? = some j := by subst h; rw [List.getElem?_append_left hk, List.getElem?_eq_getElem hk, hkj]
    rw [hs.pos k j hk']; exact hk

/-- Where the reads of i look, two frames agree: the one in which all of p is done, and any in which i may come up. -/
theorem agree_of {ops : Array Oper} {σ effs : List Nat} (hs : Sig ops σ effs) {N : Nat} {a0 aT b : Act} {p rest : List Nat} {val : Nat → Value} {i : Nat} {o : Oper} (_ho : ops[i]? = some o) (hσ : σ = p ++ i :: rest)
    (hT : AtM ops N a0 (· ∈ p) val aT)
    (hb : ∀ t ∈ o.looksAt ops, (∀ j oj, ops[j]? = some oj → oj.dst = some t → posOf σ j < posOf σ i → b.tmps[t]? = some (val j)) ∧
      ((∀ j oj, ops[j]? = some oj → oj.dst = some t → ¬ posOf σ j < posOf σ i) → b.tmps[t]? = a0.tmps[t]?)) : Agree ops o b aT := by
  intro t ht
  obtain ⟨h1, h2⟩ := hb t ht
  by_cases hw : ∃ j oj, ops[j]? = some oj ∧ oj.dst = some t ∧ posOf σ j < posOf σ i
  · obtain ⟨j, oj, hj, hd, hlt⟩ := hw
    rw [h1 j oj hj hd hlt, hT.put j oj t hj hd ((hs.lt_iff hσ j (get_lt hj)).1 hlt)]
  · rw [h2 (fun j oj hj hd hlt => hw ⟨j, oj, hj, hd, hlt⟩), hT.old t (fun j oj hj hd hm => hw ⟨j, oj, hj, hd, (hs.lt_iff hσ j (get_lt hj)).2 hm⟩)]

/-- The state: p has been looked at; L of it is done; the frame of all of p is 'aT'. -/
structure St0 (P : Program) (ops : Array Oper) (σ effs : List Nat) (N : Nat) (a0 : Act) (p : List Nat) (L : Nat → Bool) (val : Nat → Value) (a aT : Act) (T : Tr) (w : World) (done : List Nat) : Prop where
  sub : ∀ j, L j = true → j ∈ p
  effd : ∀ e ∈ effs, e ∈ p → L e = true
  closed : ∀ j o, L j = true → ops[j]? = some o → ∀ e ∈ o.after, Region.binds .any e = true → L e.on = true
  at_ : AtM ops N a0 (fun j => L j = true) val a
  all : AtM ops N a0 (· ∈ p) val aT
  rel : Rel N T aT
  floats : ∀ i ∈ p, L i = false → Floats P ops σ a0 val w i
  done_ : ∀ i ∈ p, i ∉ effs → (∀ o, ops[i]? = some o → readsW o.op = true → i ∈ done ∨ ∀ w', Floats P ops σ a0 val w' i)

/-- Values turn only where nothing stands yet. -/
theorem Floats.ext {ops : Array Oper} {σ effs : List Nat} (hs : Sig ops σ effs) {a0 : Act} {val val' : Nat → Value} {w : World} {p rest : List Nat} {k : Nat} (hσ : σ = p ++ k :: rest) {i : Nat} (hi : i ∈ p) (hv : ∀ j ∈ p, val' j = val j)
    (h : Floats P ops σ a0 val w i) : Floats P ops σ a0 val' w i := by
  intro o ho b hb
  have hlt : posOf σ i < posOf σ k := (hs.lt_iff hσ i (get_lt ho)).2 hi
  have := h o ho b (fun t ht => ⟨fun j oj hj hd hp => by
    rw [← hv j ((hs.lt_iff hσ j (get_lt hj)).1 (Nat.lt_trans hp hlt))]
    exact (hb t ht).1 j oj hj hd hp, (hb t ht).2⟩)
  rw [hv i hi]
  exact this

/-- The read that is looked at floats. -/
theorem floats_new {ops : Array Oper} {σ effs : List Nat} (hs : Sig ops σ effs) {N : Nat} {a0 aT : Act} {p rest : List Nat} {val : Nat → Value} {w : World}
    {i : Nat} {o : Oper} (ho : ops[i]? = some o) (hσ : σ = p ++ i :: rest) (hall : AtM ops N a0 (· ∈ p) val aT) {v : Value}
    (hv : (Region.wanted o (yielded ops aT.tmps) = true ∧ ∀ w', (readsW o.op = true → w' = w) → (execOp aT.eval o).run P w' = .ok (.value v) w') ∨ (Region.wanted o (yielded ops aT.tmps) = false ∧ v = undef)) :
    Floats P ops σ a0 (fun j => if j = i then v else val j) w i := by
  intro o' ho' b hb
  rw [ho] at ho'; injection ho' with ho'; subst ho'
  have hag : Agree ops o b aT := agree_of hs ho hσ hall (fun t ht => ⟨fun j oj hj hd hp => by
    have h1 := (hb t ht).1 j oj hj hd hp
    have hji : j ≠ i := fun e => Nat.lt_irrefl _ (e ▸ hp)
    simpa only [if_neg hji] using h1, (hb t ht).2⟩)
  have hns : ∀ cs b, o.op ≠ .select cs b := fun cs b => Region.noSelect_spec hs.nosel i o cs b ho
  rw [hag.wanted, hag.exec hns]
  simpa only [if_true] using hv

/-- The next read is looked at. -/
theorem St0.read {ops : Array Oper} {σ effs : List Nat} (hs : Sig ops σ effs) {N : Nat} (hN : N ≤ 8000) (hok : okOps P N ops.toList = true) {a0 : Act} {p rest : List Nat} {L : Nat → Bool} {val : Nat → Value} {a aT : Act} {T : Tr} {w : World} {done : List Nat}
    {i : Nat} {o : Oper} (ho : ops[i]? = some o) (hσ : σ = p ++ i :: rest) (hie : i ∉ effs) (h : St0 P ops σ effs N a0 p L val a aT T w done) {v : Value} {T' : Tr} (hT' : ∀ t, T'.get t = T.get t)
    (hv : (Region.wanted o (yielded ops aT.tmps) = true ∧ ∀ w', (readsW o.op = true → w' = w) → (execOp aT.eval o).run P w' = .ok (.value v) w') ∨ (Region.wanted o (yielded ops aT.tmps) = false ∧ v = undef))
    {done' : List Nat} (hd' : ∀ j ∈ done, j ∈ done') (hdi : readsW o.op = true → i ∈ done' ∨ (Region.wanted o (yielded ops aT.tmps) = false ∧ v = undef)) :
    St0 P ops σ effs N a0 (p ++ [i]) L (fun j => if j = i then v else val j) a (aT.put o.dst v) (T'.put o.dst v) w done' := by
  have hip : i ∉ p := fun hm => by
    have := (hs.lt_iff hσ i (get_lt ho)).2 hm
    exact Nat.lt_irrefl _ this
  have hmem : o ∈ ops.toList := by rw [Array.mem_toList_iff]; exact Array.mem_of_getElem? ho
  have hL : L i = false := by
    cases hLi : L i with
    | false => rfl
    | true => exact (hip (h.sub i hLi)).elim
  have hval : ∀ j ∈ p, (if j = i then v else val j) = val j := fun j hj => by
    have : j ≠ i := fun e => hip (e ▸ hj)
    rw [if_neg this]
  refine ⟨fun j hj => List.mem_append_left _ (h.sub j hj), ?_, h.closed, ?_, ?_, (h.rel.same hT').put hN (okOps_dst hok hmem) v, ?_, ?_⟩
  · intro e he hep
    rcases List.mem_append.1 hep with hep | hep
    · exact h.effd e he hep
    · simp only [List.mem_singleton] at hep; subst hep; exact (hie he).elim
  · refine ⟨h.at_.defers, h.at_.size, fun j oj t hj hd hLj => ?_, h.at_.old⟩
    have hji : j ≠ i := fun e => by subst e; rw [hL] at hLj; cases hLj
    rw [if_neg hji]; exact h.at_.put j oj t hj hd hLj
  · have := AtM.add hs hok h.all ho hip v
    refine ⟨this.defers, this.size, fun j oj t hj hd hm => this.put j oj t hj hd ?_, fun t ht => this.old t (fun j oj hj hd hm => ht j oj hj hd ?_)⟩
    · rcases List.mem_append.1 hm with hm | hm
      · exact .inl hm
      · exact .inr (by simpa using hm)
    · rcases hm with hm | hm
      · exact List.mem_append_left _ hm
      · exact List.mem_append_right _ (by simp [hm])
  · intro k hk hLk
    rcases List.mem_append.1 hk with hk | hk
    · exact Floats.ext hs hσ hk hval (h.floats k hk hLk)
    · simp only [List.mem_singleton] at hk
      subst hk
      exact floats_new hs ho hσ h.all hv
  · intro k hk hke o' ho' hr
    rcases List.mem_append.1 hk with hk | hk
    · rcases h.done_ k hk hke o' ho' hr with h1 | h1
      · exact .inl (hd' _ h1)
      · exact .inr (fun w' => Floats.ext hs hσ hk hval (h1 w'))
    · simp only [List.mem_singleton] at hk
      subst hk
      rw [ho] at ho'; injection ho' with ho'; subst ho'
      rcases hdi hr with h1 | h1
      · exact .inl h1
      · exact .inr (fun w' => floats_new hs ho hσ h.all (.inr h1))

/-- All reads up to the next effect are looked at. -/
theorem St0.reads {ops : Array Oper} {σ effs : List Nat} (hs : Sig ops σ effs) {N : Nat} (hN : N ≤ 8000) (hok : okOps P N ops.toList = true) {a0 : Act} {L : Nat → Bool} {a : Act} {Q : Exit → Tr → World → Prop} {w : World} {B : Prop} :
    ∀ (rest p : List Nat) (val : Nat → Value) (aT : Act) (T : Tr) (done : List Nat), σ = p ++ rest → St0 P ops σ effs N a0 p L val a aT T w done → vSig P τ ρ pan A ops effs Q rest done T w →
      (∀ (rest' p' : List Nat) (val' : Nat → Value) (aT' : Act) (T' : Tr) (done' : List Nat), σ = p' ++ rest' → (∀ i ∈ rest'.head?, i ∈ effs) → St0 P ops σ effs N a0 p' L val' a aT' T' w done' → vSig P τ ρ pan A ops effs Q rest' done' T' w → B) → B
  | [], p, val, aT, T, done, hσ, h, hv, hB => hB [] p val aT T done hσ (by simp) h hv
  | i :: rest, p, val, aT, T, done, hσ, h, hv, hB => by
    by_cases hie : i ∈ effs
    · exact hB (i :: rest) p val aT T done hσ (by simpa using hie) h hv
    · have hi : i < ops.size := hs.lt i (by rw [hσ]; simp)
      have ho : ops[i]? = some ops[i] := Array.getElem?_eq_getElem hi
      generalize ops[i] = o at ho
      have hmem : o ∈ ops.toList := by rw [Array.mem_toList_iff]; exact Array.mem_of_getElem? ho
      unfold vSig at hv
      simp only [ho] at hv
      have hc : effs.contains i = false := by simpa using hie
      rw [hc, cond_false] at hv
      refine vGuard_run (B := B) hN hok h.rel hv ?_ ?_
      · intro T1 hT1 hy hw
        rw [← (h.rel.same hT1).ev] at hy
        obtain ⟨v, h1, h2⟩ := vQ_run (okOps_conv hok hmem) hy
        have := h.read hs hN hok ho hσ hie hT1 (v := v) (.inl ⟨hw, fun w' hw' => h1 w' (fun hr => by rw [hw' hr]; exact .refl w)⟩)
          (done' := bif readsW o.op then i :: done else done) (fun j hj => by cases readsW o.op <;> simp [hj]) (fun hr => .inl (by rw [hr]; simp))
        exact St0.reads hs hN hok rest (p ++ [i]) _ _ _ _ (by rw [hσ]; simp) this h2 hB
      · intro T1 hT1 hn hw
        have := h.read hs hN hok ho hσ hie hT1 (v := undef) (.inr ⟨hw, rfl⟩) (done' := done) (fun j hj => hj) (fun _ => .inr ⟨hw, rfl⟩)
        exact St0.reads hs hN hok rest (p ++ [i]) _ _ _ _ (by rw [hσ]; simp) this hn hB

/-- Where an operation may come up, its frame is as it looks. -/
theorem St0.looks {ops : Array Oper} {σ effs : List Nat} (hs : Sig ops σ effs) {N : Nat} {a0 : Act} {p : List Nat} {L : Nat → Bool} {val : Nat → Value} {a aT : Act} {T : Tr} {w : World} {done : List Nat}
    (h : St0 P ops σ effs N a0 p L val a aT T w done) {i : Nat} {o : Oper} (ho : ops[i]? = some o) (hi : L i = false) (hpre : ∀ e ∈ o.after, Region.binds .any e = true → L e.on = true) :
    ∀ t ∈ o.looksAt ops, (∀ j oj, ops[j]? = some oj → oj.dst = some t → posOf σ j < posOf σ i → a.tmps[t]? = some (val j)) ∧
      ((∀ j oj, ops[j]? = some oj → oj.dst = some t → ¬ posOf σ j < posOf σ i) → a.tmps[t]? = a0.tmps[t]?) := by
  intro t ht
  have hbef : ∀ j, bef ops j i = true → L j = true := fun j hj =>
    bmask_closed (L := L) h.closed ops.size i (fun o' ho' => by rw [ho] at ho'; injection ho' with ho'; subst ho'; exact hpre) j hj
  constructor
  · intro j oj hj hd hp
    rcases hs.reads i o ho t ht j oj hj hd with ⟨h1, _⟩ | ⟨_, h2⟩
    · exact h.at_.put j oj t hj hd (hbef j h1)
    · exact absurd hp (Nat.lt_asymm h2)
  · intro hno
    refine h.at_.old t (fun j oj hj hd hL => ?_)
    rcases hs.reads i o ho t ht j oj hj hd with ⟨_, h2⟩ | ⟨h1, _⟩
    · exact hno j oj hj hd h2
    · have := bmask_closed (L := L) h.closed ops.size j (fun o' ho' e he hb => h.closed j o' hL ho' e he hb) i h1
      rw [hi] at this; cases this

/-- What is looked at again. -/
theorem vRe_run {ops : Array Oper} {N : Nat} (hN : N ≤ 8000) (hok : okOps P N ops.toList = true) {T : Tr} {aT : Act} {w : World} {next : Prop} (hr : Rel N T aT) : ∀ (l : List Nat), vRe P τ ρ ops T w next l →
    next ∧ ∀ j ∈ l, ∀ o, ops[j]? = some o → (Region.wanted o (yielded ops aT.tmps) = true ∧ ∃ v, (∀ w', (readsW o.op = true → Grow w w') → (execOp aT.eval o).run P w' = .ok (.value v) w') ∧ ∀ d, o.dst = some d → v = T.get d) ∨ Region.wanted o (yielded ops aT.tmps) = false
  | [], h => ⟨h, fun _ h => by cases h⟩
  | j :: l, h => by
    unfold vRe at h
    split at h
    · exact h.elim
    · rename_i o ho
      have hmem : o ∈ ops.toList := by rw [Array.mem_toList_iff]; exact Array.mem_of_getElem? ho
      refine vGuard_run (B := next ∧ ∀ k ∈ j :: l, ∀ o, ops[k]? = some o → (Region.wanted o (yielded ops aT.tmps) = true ∧ ∃ v, (∀ w', (readsW o.op = true → Grow w w') → (execOp aT.eval o).run P w' = .ok (.value v) w') ∧ ∀ d, o.dst = some d → v = T.get d) ∨ Region.wanted o (yielded ops aT.tmps) = false) hN hok hr h ?_ ?_
      · intro T1 hT1 hy hw
        rw [← (hr.same hT1).ev] at hy
        obtain ⟨v, h1, h2, h3⟩ := vQ_run (okOps_conv hok hmem) hy
        obtain ⟨hn, hrest⟩ := vRe_run hN hok (hr.same hT1) l h3
        refine ⟨hn, fun k hk o' ho' => ?_⟩
        rcases List.mem_cons.1 hk with hk | hk
        · subst hk
          rw [ho] at ho'; injection ho' with ho'; subst ho'
          refine .inl ⟨hw, v, h1, fun d hd => ?_⟩
          rw [hd] at h2
          exact h2.trans (hT1 d)
        · rcases hrest k hk o' ho' with ⟨h4, v', h5, h6⟩ | h4
          · exact .inl ⟨h4, v', h5, fun d hd => (h6 d hd).trans (hT1 d)⟩
          · exact .inr h4
      · intro T1 hT1 hn hw
        obtain ⟨hn', hrest⟩ := vRe_run hN hok (hr.same hT1) l hn
        refine ⟨hn', fun k hk o' ho' => ?_⟩
        rcases List.mem_cons.1 hk with hk | hk
        · subst hk
          rw [ho] at ho'; injection ho' with ho'; subst ho'
          exact .inr hw
        · rcases hrest k hk o' ho' with ⟨h4, v', h5, h6⟩ | h4
          · exact .inl ⟨h4, v', h5, fun d hd => (h6 d hd).trans (hT1 d)⟩
          · exact .inr h4

/-- An effect is done. -/
theorem St0.effect {ops : Array Oper} {σ effs : List Nat} (hs : Sig ops σ effs) {N : Nat} (hN : N ≤ 8000) (hok : okOps P N ops.toList = true) {a0 : Act} {p rest : List Nat} {L : Nat → Bool} {val : Nat → Value} {a aT : Act} {T T1 : Tr} {w w' : World} {done : List Nat}
    {i : Nat} {o : Oper} (ho : ops[i]? = some o) (hσ : σ = p ++ i :: rest) (hie : i ∈ effs) (h : St0 P ops σ effs N a0 p L val a aT T w done) (hT1 : ∀ t, T1.get t = T.get t) (hpre : ∀ e ∈ o.after, Region.binds .any e = true → L e.on = true) (v : Value)
    (hre : (w' = w) ∨ ∀ j ∈ done.filter (fun j => !(bmask ops ops.size i).testBit j), ∀ oj, ops[j]? = some oj →
      (Region.wanted oj (yielded ops (aT.put o.dst v).tmps) = true ∧ ∃ u, (∀ w2, (readsW oj.op = true → Grow w' w2) → (execOp (aT.put o.dst v).eval oj).run P w2 = .ok (.value u) w2) ∧ ∀ d, oj.dst = some d → u = (T1.put o.dst v).get d) ∨ Region.wanted oj (yielded ops (aT.put o.dst v).tmps) = false)
    (hdst : ∀ (j : Nat) (oj : Oper), ops[j]? = some oj → readsW oj.op = true → oj.dst ≠ none) :
    St0 P ops σ effs N a0 (p ++ [i]) (fun j => L j || Nat.beq j i) (fun j => if j = i then v else val j) (a.put o.dst v) (aT.put o.dst v) (T1.put o.dst v) w' done := by
  have hip : i ∉ p := fun hm => Nat.lt_irrefl _ ((hs.lt_iff hσ i (get_lt ho)).2 hm)
  have hmem : o ∈ ops.toList := by rw [Array.mem_toList_iff]; exact Array.mem_of_getElem? ho
  have hL : L i = false := by
    cases hLi : L i with
    | false => rfl
    | true => exact (hip (h.sub i hLi)).elim
  have hval : ∀ j ∈ p, (if j = i then v else val j) = val j := fun j hj => by
    have : j ≠ i := fun e => hip (e ▸ hj)
    rw [if_neg this]
  have hall' : AtM ops N a0 (· ∈ p ++ [i]) (fun j => if j = i then v else val j) (aT.put o.dst v) := by
    have := AtM.add hs hok h.all ho hip v
    refine ⟨this.defers, this.size, fun j oj t hj hd hm => this.put j oj t hj hd ?_, fun t ht => this.old t (fun j oj hj hd hm => ht j oj hj hd ?_)⟩
    · rcases List.mem_append.1 hm with hm | hm
      · exact .inl hm
      · exact .inr (by simpa using hm)
    · rcases hm with hm | hm
      · exact List.mem_append_left _ hm
      · exact List.mem_append_right _ (by simp [hm])
  have hrel' : Rel N (T1.put o.dst v) (aT.put o.dst v) := (h.rel.same hT1).put hN (okOps_dst hok hmem) v
  refine ⟨?_, ?_, ?_, ?_, hall', hrel', ?_, ?_⟩
  · intro j hj
    simp only [Bool.or_eq_true] at hj
    rcases hj with hj | hj
    · exact List.mem_append_left _ (h.sub j hj)
    · exact List.mem_append_right _ (by simpa using hj)
  · intro e he hep
    rcases List.mem_append.1 hep with hep | hep
    · simp [h.effd e he hep]
    · simp only [List.mem_singleton] at hep; subst hep; simp
  · intro j oj hj hoj e he hb
    simp only [Bool.or_eq_true] at hj ⊢
    rcases hj with hj | hj
    · exact .inl (h.closed j oj hj hoj e he hb)
    · have : j = i := by simpa using hj
      subst this
      rw [ho] at hoj; injection hoj with hoj; subst hoj
      exact .inl (hpre e he hb)
  · have := AtM.add hs hok h.at_ ho (by rw [hL]; simp) v
    refine ⟨this.defers, this.size, fun j oj t hj hd hm => this.put j oj t hj hd ?_, fun t ht => this.old t (fun j oj hj hd hm => ht j oj hj hd ?_)⟩
    · simp only [Bool.or_eq_true] at hm
      rcases hm with hm | hm
      · exact .inl hm
      · exact .inr (by simpa using hm)
    · simp only [Bool.or_eq_true]
      rcases hm with hm | hm
      · exact .inl hm
      · exact .inr (by simp [hm])
  · intro k hk hLk
    simp only [Bool.or_eq_false_iff] at hLk
    have hki : k ≠ i := fun e => by subst e; rw [beq_eq] at hLk; simp at hLk
    have hkp : k ∈ p := by
      rcases List.mem_append.1 hk with hk | hk
      · exact hk
      · exact (hki (by simpa using hk)).elim
    have hold := Floats.ext hs hσ hkp hval (h.floats k hkp hLk.1)
    rcases hre with rfl | hre
    · exact hold
    · intro ok hok' b hb
      have hko := hok'
      have hke : k ∉ effs := fun he => by have := h.effd k he hkp; rw [hLk.1] at this; cases this
      cases hrd : readsW ok.op with
      | false =>
        rcases hold ok hok' b hb with ⟨h1, h2⟩ | h1
        · exact .inl ⟨h1, fun w2 _ => h2 w2 (fun e => by rw [hrd] at e; cases e)⟩
        · exact .inr h1
      | true =>
        -- who writes what it looks at has been done
        have hwar := hs.war k ok hok' hke hrd
        have hplt : posOf σ k < posOf σ i := (hs.lt_iff hσ k (get_lt hok')).2 hkp
        have hbT : ∀ t ∈ ok.looksAt ops, (∀ j oj, ops[j]? = some oj → oj.dst = some t → posOf σ j < posOf σ k → (aT.put o.dst v).tmps[t]? = some ((fun j => if j = i then v else val j) j)) ∧
            ((∀ j oj, ops[j]? = some oj → oj.dst = some t → ¬ posOf σ j < posOf σ k) → (aT.put o.dst v).tmps[t]? = a0.tmps[t]?) := by
          intro t ht
          refine ⟨fun j oj hj hd hp => hall'.put j oj t hj hd (List.mem_append_left _ ((hs.lt_iff hσ j (get_lt hj)).1 (Nat.lt_trans hp hplt))), fun hno => hall'.old t (fun j oj hj hd _ => hno j oj hj hd (hwar t ht j oj hj hd).2)⟩
        have hag : Agree ops ok b (aT.put o.dst v) := by
          intro t ht
          by_cases hw : ∃ j oj, ops[j]? = some oj ∧ oj.dst = some t ∧ posOf σ j < posOf σ k
          · obtain ⟨j, oj, hj, hd, hlt⟩ := hw
            rw [(hb t ht).1 j oj hj hd hlt, (hbT t ht).1 j oj hj hd hlt]
          · have hno : ∀ j oj, ops[j]? = some oj → oj.dst = some t → ¬ posOf σ j < posOf σ k := fun j oj hj hd hlt => hw ⟨j, oj, hj, hd, hlt⟩
            rw [(hb t ht).2 hno, (hbT t ht).2 hno]
        have hns : ∀ cs b, ok.op ≠ .select cs b := fun cs b => Region.noSelect_spec hs.nosel k ok cs b hok'
        rw [hag.wanted, hag.exec hns]
        rcases hold ok hok' (aT.put o.dst v) hbT with ⟨h1, _⟩ | h1
        · have hkd : k ∈ done ∨ ∀ w2, Floats P ops σ a0 val w2 k := h.done_ k hkp hke ok hok' hrd
          rcases hkd with hkd | hkd
          · have hnb : (bmask ops ops.size i).testBit k = false := by
              cases hb' : (bmask ops ops.size i).testBit k with
              | false => rfl
              | true =>
                have := bmask_closed (L := L) h.closed ops.size i (fun o' ho' => by rw [ho] at ho'; injection ho' with ho'; subst ho'; exact hpre) k hb'
                rw [hLk.1] at this; cases this
            rcases hre k (List.mem_filter.2 ⟨hkd, by rw [hnb]; rfl⟩) ok hok' with ⟨_, u, h2, h3⟩ | h2
            · refine .inl ⟨h1, fun w2 hw2 => ?_⟩
              cases hd : ok.dst with
              | none => exact (hdst k ok hok' hrd hd).elim
              | some d =>
                have e1 := h3 d hd
                have e2 : (T1.put o.dst v).get d = (if k = i then v else val k) := by
                  have e3 := hall'.put k ok d hok' hd (List.mem_append_left _ hkp)
                  have e4 := hrel'.get d
                  simp only [Array.getD_eq_getD_getElem?, e3, Option.getD_some] at e4
                  exact e4.symm
                rw [h2 w2 (fun _ => by rw [hw2 rfl]; exact .refl _), e1, e2]
            · rw [h1] at h2; cases h2
          · rcases Floats.ext hs hσ hkp hval (hkd w') ok hok' (aT.put o.dst v) hbT with h2 | h2
            · exact .inl ⟨h2.1, fun w2 hw2 => h2.2 w2 (fun _ => hw2 rfl)⟩
            · exact .inr h2
        · exact .inr h1
  · intro k hk hke ok hok' hr
    rcases List.mem_append.1 hk with hk | hk
    · rcases h.done_ k hk hke ok hok' hr with h1 | h1
      · exact .inl h1
      · exact .inr (fun w2 => Floats.ext hs hσ hk hval (h1 w2))
    · simp only [List.mem_singleton] at hk
      subst hk
      exact (hke hie).elim

/-- A floating read is done. -/
theorem St0.floatDone {ops : Array Oper} {σ effs : List Nat} (hs : Sig ops σ effs) {N : Nat} (hok : okOps P N ops.toList = true) {a0 : Act} {p : List Nat} {L : Nat → Bool} {val : Nat → Value} {a aT : Act} {T : Tr} {w : World} {done : List Nat}
    {i : Nat} {o : Oper} (ho : ops[i]? = some o) (hip : i ∈ p) (hi : L i = false) (h : St0 P ops σ effs N a0 p L val a aT T w done) (hpre : ∀ e ∈ o.after, Region.binds .any e = true → L e.on = true) :
    St0 P ops σ effs N a0 p (fun j => L j || Nat.beq j i) val (a.put o.dst (val i)) aT T w done := by
  refine ⟨?_, ?_, ?_, ?_, h.all, h.rel, ?_, h.done_⟩
  · intro j hj
    simp only [Bool.or_eq_true] at hj
    rcases hj with hj | hj
    · exact h.sub j hj
    · have : j = i := by simpa using hj
      subst this; exact hip
  · intro e he hep; simp [h.effd e he hep]
  · intro j oj hj hoj e he hb
    simp only [Bool.or_eq_true] at hj ⊢
    rcases hj with hj | hj
    · exact .inl (h.closed j oj hj hoj e he hb)
    · have : j = i := by simpa using hj
      subst this
      rw [ho] at hoj; injection hoj with hoj; subst hoj
      exact .inl (hpre e he hb)
  · have := AtM.add hs hok h.at_ ho (by rw [hi]; simp) (val i)
    refine ⟨this.defers, this.size, fun j oj t hj hd hm => ?_, fun t ht => this.old t (fun j oj hj hd hm => ht j oj hj hd ?_)⟩
    · have h1 := this.put j oj t hj hd (by
        simp only [Bool.or_eq_true] at hm
        rcases hm with hm | hm
        · exact .inl hm
        · exact .inr (by simpa using hm))
      by_cases e : j = i
      · subst e; simpa using h1
      · simpa only [if_neg e] using h1
    · simp only [Bool.or_eq_true]
      rcases hm with hm | hm
      · exact .inl hm
      · exact .inr (by simp [hm])
  · intro k hk hLk
    simp only [Bool.or_eq_false_iff] at hLk
    exact h.floats k hk hLk.1

def unl (n : Nat) (listed : Array Bool) : Nat := (List.range n).countP fun i => !listed.getD i true

theorem countP_lt {p q : Nat → Bool} : ∀ (l : List Nat), (∀ x ∈ l, q x = true → p x = true) → (∃ x ∈ l, p x = true ∧ q x = false) → l.countP q < l.countP p
  | [], _, ⟨_, h, _⟩ => by cases h
  | x :: l, hq, ⟨y, hy, hpy, hqy⟩ => by
    have hle : l.countP q ≤ l.countP p := by
      have : ∀ (l : List Nat), (∀ x ∈ l, q x = true → p x = true) → l.countP q ≤ l.countP p := by
        intro l
        induction l with
        | nil => intro _; simp
        | cons z l ih =>
          intro h
          have h1 := ih (fun x hx => h x (List.mem_cons_of_mem _ hx))
          have h2 := h z (List.mem_cons_self ..)
          simp only [List.countP_cons]
          cases hqz : q z with
          | false => simp; omega
          | true => simp [h2 hqz]; omega
      exact this l (fun x hx => hq x (List.mem_cons_of_mem _ hx))
    simp only [List.countP_cons]
    rcases List.mem_cons.1 hy with e | hy
    · subst e; simp [hpy, hqy]; omega
    · have ih := countP_lt l (fun x hx => hq x (List.mem_cons_of_mem _ hx)) ⟨y, hy, hpy, hqy⟩
      have h2 := hq x (List.mem_cons_self ..)
      cases hqx : q x with
      | false => simp; omega
      | true => simp [h2 hqx]; omega

theorem mem_ready {ops : Array Oper} {listed : Array Bool} {i : Nat} (h : i ∈ Region.ready .any ops listed) :
    ∃ o, ops[i]? = some o ∧ listed.getD i true = false ∧ ∀ e ∈ o.after, Region.binds .any e = true → listed.getD e.on false = true := by
  unfold Region.ready at h
  obtain ⟨hi, hc⟩ := List.mem_filter.1 h
  have hi := List.mem_range.1 hi
  rw [Array.getElem?_eq_getElem hi] at hc
  simp only [Bool.and_eq_true, Bool.not_eq_true', Option.map_some, Option.getD_some] at hc
  refine ⟨ops[i], Array.getElem?_eq_getElem hi, hc.1, fun e he hb => ?_⟩
  have := Array.all_eq_true'.1 hc.2 e he
  simpa [hb] using this

theorem ready_mem {ops : Array Oper} {listed : Array Bool} {i : Nat} {o : Oper} (ho : ops[i]? = some o) (hl : listed.getD i true = false) (h : ∀ e ∈ o.after, Region.binds .any e = true → listed.getD e.on false = true) :
    i ∈ Region.ready .any ops listed := by
  unfold Region.ready
  refine List.mem_filter.2 ⟨List.mem_range.2 (get_lt ho), ?_⟩
  simp only [ho, Option.map_some, Option.getD_some, Bool.and_eq_true, Bool.not_eq_true']
  refine ⟨hl, Array.all_eq_true'.2 fun e he => ?_⟩
  cases hb : Region.binds .any e with
  | false => simp
  | true => simp [h e he hb]

/-- Where nothing is ready all is done. -/
theorem all_done {ops : Array Oper} {σ effs : List Nat} (hs : Sig ops σ effs) {listed : Array Bool} (hsz : listed.size = ops.size) (h : Region.ready .any ops listed = []) : ∀ i, i < ops.size → listed.getD i false = true := by
  intro i
  induction i using Nat.strongRecOn with
  | _ i ih =>
    intro hi
    cases hl : listed.getD i false with
    | true => rfl
    | false =>
      have ho : ops[i]? = some ops[i] := Array.getElem?_eq_getElem hi
      have hl' : listed.getD i true = false := by
        have : i < listed.size := by rw [hsz]; exact hi
        simp only [Array.getD, this, dif_pos] at hl ⊢
        exact hl
      have := ready_mem ho hl' (fun e he hb => ih e.on (hs.edge i _ ho e he hb) (Nat.lt_trans (hs.edge i _ ho e he hb) hi))
      rw [h] at this
      cases this

theorem getD_set {listed : Array Bool} {n i j : Nat} (hsz : listed.size = n) (hi : i < n) : (listed.setIfInBounds i true).getD j false = (listed.getD j false || Nat.beq j i) := by
  simp only [Array.getD_eq_getD_getElem?, Array.getElem?_setIfInBounds]
  by_cases e : i = j
  · subst e
    have : i < listed.size := by rw [hsz]; exact hi
    simp [this]
  · rw [if_neg e]
    have : Nat.beq j i = false := by rw [beq_eq]; simpa using fun h => e h.symm
    rw [this, Bool.or_false]

theorem fill_any {a : Act} : ∀ (l : List Nat) (T : Tr), (∀ d ∈ l, d < 8000) → ∃ T' : Tr, (∀ t, t ∉ l → T'.get t = T.get t) ∧ ∀ t ∈ l, T'.get t = a.tmps.getD t undef
  | [], T, _ => ⟨T, fun _ _ => rfl, fun _ h => by cases h⟩
  | d :: l, T, hd => by
    obtain ⟨T1, h1, h2⟩ := fill_any (a := a) l T (fun x hx => hd x (List.mem_cons_of_mem _ hx))
    refine ⟨T1.put (some d) (a.tmps.getD d undef), fun t ht => ?_, fun t ht => ?_⟩
    · rw [Tr.get_put _ _ _ _ (hd d (by simp)), if_neg (fun e => ht (by rw [e]; simp))]
      exact h1 t (fun hh => ht (List.mem_cons_of_mem _ hh))
    · rw [Tr.get_put _ _ _ _ (hd d (by simp))]
      by_cases e : t = d
      · rw [if_pos e, e]
      · rw [if_neg e]
        rcases List.mem_cons.1 ht with h | h
        · exact absurd h e
        · exact h2 t h

theorem rel_any {ops : Array Oper} {N : Nat} (hN : N ≤ 8000) (hok : okOps P N ops.toList = true) {a0 a : Act} {T0 : Tr} (hr0 : Rel N T0 a0) {M : Nat → Prop} {val : Nat → Value} (h : AtM ops N a0 M val a) : ∃ T', Fr (wrOps ops.toList) T0 T' ∧ Rel N T' a := by
  obtain ⟨T', h1, h2⟩ := fill_any (a := a) (wrOps ops.toList) T0 (fun d hd => by
    unfold wrOps at hd
    obtain ⟨o, ho, he⟩ := List.mem_filterMap.1 hd
    exact Nat.lt_of_lt_of_le (okOps_dst hok ho d he) hN)
  refine ⟨T', h1, h.defers, h.size, fun t => ?_⟩
  by_cases ht : t ∈ wrOps ops.toList
  · exact (h2 t ht).symm
  · rw [h1 t ht, ← hr0.get t]
    have := h.old t (fun j o ho hd => absurd (by
      unfold wrOps
      exact List.mem_filterMap.2 ⟨o, by rw [Array.mem_toList_iff]; exact Array.mem_of_getElem? ho, hd⟩) ht)
    rw [Array.getD_eq_getD_getElem?, Array.getD_eq_getD_getElem?, this]

theorem vSig_run {ops : Array Oper} {σ effs : List Nat} (hs : Sig ops σ effs) {N : Nat} (hN : N ≤ 8000) (hok : okOps P N ops.toList = true) {a0 : Act} {T0 : Tr} (hr0 : Rel N T0 a0) {Q : Exit → Tr → World → Prop} {Q' : Exit → Act → World → Prop}
    (hq : ∀ T w a, Q .normal T w → Fr (wrOps ops.toList) T0 T → Rel N T a → Q' .normal a w) (hqp : ∀ ch T w a, Q (.panic ch) T w → Fr (wrOps ops.toList) T0 T → Rel N T a → Q' (.panic ch) a w) :
    ∀ (fuel : Nat) (listed : Array Bool) (p rest : List Nat) (val : Nat → Value) (a aT : Act) (T : Tr) (w : World) (done : List Nat), listed.size = ops.size → unl ops.size listed ≤ fuel → σ = p ++ rest → (∀ i ∈ rest.head?, i ∈ effs) →
      St0 P ops σ effs N a0 p (fun j => listed.getD j false) val a aT T w done → vSig P τ ρ pan A ops effs Q rest done T w → wpAny P .any ops Q' fuel listed a w := by
  -- at the end
  have fin : ∀ (listed : Array Bool) (p rest : List Nat) (val : Nat → Value) (a aT : Act) (T : Tr) (w : World) (done : List Nat), (∀ i, i < ops.size → listed.getD i false = true) → σ = p ++ rest → (∀ i ∈ rest.head?, i ∈ effs) →
      St0 P ops σ effs N a0 p (fun j => listed.getD j false) val a aT T w done → vSig P τ ρ pan A ops effs Q rest done T w → Q' .normal a w := by
    intro listed p rest val a aT T w done hl hσ hhead h hv
    have hrest : rest = [] := by
      cases rest with
      | nil => rfl
      | cons e r =>
        have he : e < ops.size := hs.lt e (by rw [hσ]; simp)
        have hep : e ∈ p := h.sub e (hl e he)
        exact (Nat.lt_irrefl _ ((hs.lt_iff hσ e he).2 hep)).elim
    subst hrest
    have hp : ∀ j, j < ops.size → j ∈ p := fun j hj => h.sub j (hl j hj)
    have hag : ∀ t : Nat, a.tmps[t]? = aT.tmps[t]? := by
      intro t
      by_cases hw : ∃ (j : Nat) (oj : Oper), ops[j]? = some oj ∧ oj.dst = some t
      · obtain ⟨j, oj, hj, hd⟩ := hw
        rw [h.at_.put j oj t hj hd (hl j (get_lt hj)), h.all.put j oj t hj hd (hp j (get_lt hj))]
      · rw [h.at_.old t (fun j oj hj hd _ => hw ⟨j, oj, hj, hd⟩), h.all.old t (fun j oj hj hd _ => hw ⟨j, oj, hj, hd⟩)]
    refine hq T w a hv ?_ ⟨h.at_.defers, h.at_.size, fun t => ?_⟩
    · intro t ht
      have hno : ∀ (j : Nat) (oj : Oper), ops[j]? = some oj → oj.dst = some t → ¬ j ∈ p := fun j oj hj hd _ =>
        ht (List.mem_filterMap.2 ⟨oj, by rw [Array.mem_toList_iff]; exact Array.mem_of_getElem? hj, hd⟩)
      rw [← h.rel.get t, ← hr0.get t]
      simp only [Array.getD_eq_getD_getElem?, h.all.old t hno]
    · rw [← h.rel.get t]
      simp only [Array.getD_eq_getD_getElem?, hag t]
  intro fuel
  induction fuel with
  | zero =>
    intro listed p rest val a aT T w done hsz hu hσ hhead h hv
    have hl : ∀ i, i < ops.size → listed.getD i false = true := by
      intro i hi
      have h0 : unl ops.size listed = 0 := by omega
      have := List.countP_eq_zero.1 h0 i (List.mem_range.2 hi)
      have hlt : i < listed.size := by rw [hsz]; exact hi
      simp only [Array.getD, hlt, dif_pos] at this ⊢
      simpa using this
    refine ⟨?_, fin listed p rest val a aT T w done hl hσ hhead h hv⟩
    rw [List.eq_nil_iff_forall_not_mem]
    intro i hi
    obtain ⟨o, ho, hl', _⟩ := mem_ready hi
    have := hl i (get_lt ho)
    have hlt : i < listed.size := by rw [hsz]; exact get_lt ho
    simp only [Array.getD, hlt, dif_pos] at this hl'
    rw [this] at hl'; cases hl'
  | succ fuel ih =>
    intro listed p rest val a aT T w done hsz hu hσ hhead h hv
    refine ⟨fun hr => fin listed p rest val a aT T w done (all_done hs hsz hr) hσ hhead h hv, fun i hi => ?_⟩
    obtain ⟨o, ho, hl', hpre⟩ := mem_ready hi
    have hin := get_lt ho
    have hlt : i < listed.size := by rw [hsz]; exact hin
    have hLi : listed.getD i false = false := by
      simp only [Array.getD, hlt, dif_pos] at hl' ⊢; exact hl'
    have hsz' : (listed.setIfInBounds i true).size = ops.size := by simp [hsz]
    have hu' : unl ops.size (listed.setIfInBounds i true) ≤ fuel := by
      have : unl ops.size (listed.setIfInBounds i true) < unl ops.size listed := by
        refine countP_lt _ (fun x _ hx => ?_) ⟨i, List.mem_range.2 hin, by simp [hl'], ?_⟩
        · simp only [Bool.not_eq_true', Array.getD_eq_getD_getElem?, Array.getElem?_setIfInBounds] at hx ⊢
          by_cases e : i = x
          · subst e; simp [hlt] at hx
          · rw [if_neg e] at hx; exact hx
        · simp [Array.getD, hlt]
      omega
    have hL' : (fun j => (listed.setIfInBounds i true).getD j false) = fun j => listed.getD j false || Nat.beq j i := funext fun j => getD_set hsz hin
    have hlooks := h.looks hs ho hLi hpre
    unfold wpOp
    simp only [ho]
    by_cases hip : i ∈ p
    · have hnext : wpAny P .any ops Q' fuel (listed.setIfInBounds i true) (a.put o.dst (val i)) w := by
        refine ih _ p rest val _ aT T w done hsz' hu' hσ hhead ?_ hv
        rw [hL']
        exact St0.floatDone hs hok ho hip hLi h hpre
      rcases h.floats i hip hLi o ho a hlooks with ⟨h1, h2⟩ | ⟨h1, h2⟩
      · rw [h1, if_pos rfl]
        refine .inl ?_
        unfold Oper.wp
        rw [h2 w (fun _ => rfl)]
        exact hnext
      · rw [h1, if_neg (by decide), ← h2]
        exact hnext
    · -- it is the effect that comes next
      cases rest with
      | nil =>
        have := hs.all i hin
        rw [hσ, List.append_nil] at this
        exact (hip this).elim
      | cons e rest =>
        have hee : e ∈ effs := hhead e rfl
        have hie : i = e := by
          rcases Nat.decEq i e with hne | heq
          · exfalso
            have hen : e < ops.size := hs.lt e (by rw [hσ]; simp)
            have hep : e ∉ p := fun hm => Nat.lt_irrefl _ ((hs.lt_iff hσ e hen).2 hm)
            have hpe : posOf σ e < posOf σ i := by
              have h1 : ¬ posOf σ i < posOf σ e := fun hlt => hip ((hs.lt_iff hσ i hin).1 hlt)
              rcases Nat.lt_trichotomy (posOf σ e) (posOf σ i) with h2 | h2 | h2
              · exact h2
              · obtain ⟨k, hk, hkj⟩ := List.getElem_of_mem (hs.all i hin)
                obtain ⟨k2, hk2, hkj2⟩ := List.getElem_of_mem (hs.all e hen)
                have e1 := hs.pos k i (by rw [List.getElem?_eq_getElem hk, hkj])
                have e2 := hs.pos k2 e (by rw [List.getElem?_eq_getElem hk2, hkj2])
                have : k = k2 := by rw [← e1, ← e2, h2]
                subst this
                exact (hne (hkj.symm.trans hkj2)).elim
              · exact (h1 h2).elim
            have hbe := hs.chain e hee i hin hpe
            have := bmask_closed (L := fun j => listed.getD j false) h.closed ops.size i (fun o' ho' => by rw [ho] at ho'; injection ho' with ho'; subst ho'; exact hpre) e hbe
            exact hep (h.sub e this)
          · exact heq
        subst hie
        have hmem : o ∈ ops.toList := by rw [Array.mem_toList_iff]; exact Array.mem_of_getElem? ho
        have hns : ∀ cs b, o.op ≠ .select cs b := fun cs b => Region.noSelect_spec hs.nosel i o cs b ho
        have hag : Agree ops o a aT := agree_of hs ho hσ h.all hlooks
        unfold vSig at hv
        simp only [ho] at hv
        have hc : effs.contains i = true := by simpa using hee
        rw [hc, cond_true] at hv
        have hσ' : σ = (p ++ [i]) ++ rest := by rw [hσ]; simp
        rw [hag.wanted]
        refine vGuard_run (B := if Region.wanted o (yielded ops aT.tmps) = true then o.wp P a w (wpAny P .any ops Q' fuel (listed.setIfInBounds i true)) Q' ∨ (o.asks P a w ∧ LetsOut Q') else wpAny P .any ops Q' fuel (listed.setIfInBounds i true) (a.put o.dst undef) w) hN hok h.rel hv ?_ ?_
        · intro T1 hT1 hy hw
          rw [hw, if_pos rfl]
          refine .inl ?_
          have hrel1 := h.rel.same hT1
          have hwp : o.wp P aT w (fun b w' => ∃ v, b = aT.put o.dst v ∧ vRe P τ ρ ops (T1.put o.dst v) w' (vSig P τ ρ pan A ops effs Q rest done (T1.put o.dst v) w') (done.filter fun j => !(bmask ops ops.size i).testBit j)) (fun e _ w' => vPan Q e T1 w') :=
            vOp_run hrel1 (okOps_conv hok hmem) hy (fun v w' hn => ⟨v, rfl, hn⟩) (fun ch w' hn => hn)
          refine wp_agree (hag.exec hns) hwp ?_ (fun ch w' hp => let ⟨T', f', r'⟩ := rel_any hN hok hr0 h.at_; hqp ch T' w' a (hp T') f' r') (fun ⟨_, _, h⟩ => (h : False).elim) ?_
          · rintro v w' ⟨v', hv', hn⟩
            have hput : a.put o.dst v = a.put o.dst v' := by
              cases hd : o.dst with
              | none => rfl
              | some d =>
                rw [hd] at hv'
                have hdN := okOps_dst hok hmem d hd
                have e1 : (aT.put (some d) v).tmps[d]? = some v := by simp [Act.put, h.all.size, hdN]
                have e2 : (aT.put (some d) v').tmps[d]? = some v' := by simp [Act.put, h.all.size, hdN]
                rw [hv', e2] at e1
                injection e1 with e1
                rw [e1]
            rw [hput]
            have hrel' : Rel N (T1.put o.dst v') (aT.put o.dst v') := hrel1.put hN (okOps_dst hok hmem) v'
            obtain ⟨hsig, hre⟩ := vRe_run hN hok hrel' _ hn
            have hst := h.effect hs hN hok ho hσ hee hT1 hpre v' (w' := w') (.inr hre) hs.rd
            rw [← hL'] at hst
            exact St0.reads hs hN hok rest (p ++ [i]) _ _ _ _ hσ' hst hsig (fun rest' p' val' aT' T' done' h1 h2 h3 h4 => ih _ p' rest' val' _ aT' T' w' done' hsz' hu' h1 h2 h3 h4)
          · rintro d w' ⟨v, he, _⟩
            have := congrArg Act.defers he
            cases hd : o.dst <;> simp [Act.put, hd] at this
        · intro T1 hT1 hn hw
          rw [hw, if_neg (by decide)]
          have hst := h.effect hs hN hok ho hσ hee hT1 hpre undef (w' := w) (.inl rfl) hs.rd
          rw [← hL'] at hst
          exact St0.reads hs hN hok rest (p ++ [i]) _ _ _ _ hσ' hst hn (fun rest' p' val' aT' T' done' h1 h2 h3 h4 => ih _ p' rest' val' _ aT' T' w done' hsz' hu' h1 h2 h3 h4)

/-- A drawn region, looked at in the order σ. -/
theorem wp_region_sig {ops : Array Oper} {σ effs : List Nat} {id : Nat} (hm : P.follows .mixedOrders = true) {N : Nat} (hN : N ≤ 8000) (hok : okOps P N ops.toList = true) (hB : sigB ops σ effs = true) {Q : Exit → Tr → World → Prop} {Q' : Exit → Act → World → Prop}
    {T : Tr} {a : Act} {w : World} (hr : Rel N T a) (h : vSig P τ ρ pan A ops effs Q σ [] T w.drew) (hq : ∀ T' w' a', Q .normal T' w' → Fr (wrOps ops.toList) T T' → Rel N T' a' → Q' .normal a' w') (hqp : ∀ ch T' w' a', Q (.panic ch) T' w' → Fr (wrOps ops.toList) T T' → Rel N T' a' → Q' (.panic ch) a' w') : (Code.region id ops true).wp P Q' a w := by
  have hs := sig_of hB
  refine wp_region_any hm ?_
  have hL0 : (fun j => (Array.replicate ops.size false).getD j false) = fun _ => false := by
    funext j
    simp only [Array.getD_eq_getD_getElem?, Array.getElem?_replicate]
    split <;> rfl
  have hst : St0 P ops σ effs N a [] (fun j => (Array.replicate ops.size false).getD j false) (fun _ => undef) a a T w.drew [] := by
    rw [hL0]
    have h0 : ∀ t : Nat, a.tmps[t]? = a.tmps[t]? := fun _ => rfl
    refine ⟨fun _ h => (by cases h), fun _ _ h => (by cases h), fun _ _ h => (by cases h), ⟨hr.defers, hr.size, fun _ _ _ _ _ h => (by cases h), fun t _ => h0 t⟩, ⟨hr.defers, hr.size, fun _ _ _ _ _ h => (by cases h), fun t _ => h0 t⟩, hr, fun _ h => (by cases h), fun _ h => (by cases h)⟩
  refine St0.reads hs hN hok σ [] _ _ _ _ rfl hst h (fun rest' p' val' aT' T' done' h1 h2 h3 h4 => ?_)
  refine vSig_run hs hN hok hr (fun T2 w2 a2 h5 h6 h7 => hq T2 w2 a2 h5 h6 h7) hqp ops.size _ p' rest' val' a aT' T' w.drew done' (by simp) ?_ h1 h2 h3 h4
  unfold unl
  exact Nat.le_trans List.countP_le_length (by simp)

end
end Go.Vc
