/- Lines of operations, in plain words: no program in sight. -/
import Derived.Test.YticnchdegmfhlaaDoorCnU
import Derived.Lib.SplitLaws
import Derived.Lib.Join
namespace Go.Lg
open Go.Lib Go.Ct

structure Op where
  k : Int
  a : Int
  b : Int
  c : Int
  d : Int

def words : List Bytes := [[103, 114, 111, 117, 112], [114, 101, 109, 111, 118, 101], [108, 105, 109, 105, 116], [115, 112, 97, 119, 110], [97, 116, 116, 97, 99, 104], [109, 97, 112],
  [102, 105, 108, 101], [117, 110, 109, 97, 112], [108, 111, 97, 100], [115, 116, 111, 114, 101], [102, 111, 114, 107], [101, 120, 105, 116], [97, 103, 101], [115, 104, 114, 105, 110, 107]]
def told : List Nat := [1, 1, 3, 1, 2, 3, 4, 3, 2, 3, 1, 1, 1, 2]
def limits : List Bytes := [[109, 105, 110], [108, 111, 119], [109, 97, 120], [115, 119, 97, 112], [119, 104, 111, 108, 101]]

def wd (k : Nat) : Bytes := words.getD k []
def tl (k : Nat) : Nat := told.getD k 0
def fld (k i : Nat) : Int := if k = 2 ∧ i = 1 then 4 else if k = 2 ∧ i = 2 then 5 else i
def rng (f n : Int) : Bool := if f = 4 then decide (0 ≤ n ∧ n < 5) else if f = 5 then decide (0 ≤ n ∧ n ≤ 1099511627776) else decide (0 ≤ n ∧ n < 2097152)
def shw (f n : Int) : Bytes := if f = 4 then limits.getD n.toNat [] else if f = 5 then showB n else itoa n

def Op.val (o : Op) : Nat → Int
  | 0 => o.a
  | 1 => o.b
  | 2 => o.c
  | _ => o.d
def Op.kd (o : Op) : Nat := o.k.toNat

structure Ok (o : Op) : Prop where
  k0 : 0 ≤ o.k
  k1 : o.k ≤ 13
  v : ∀ i, i < tl o.kd → rng (fld o.kd i) (o.val i) = true
  z : ∀ i, tl o.kd ≤ i → i < 4 → o.val i = 0
  r : o.k = 2 → o.b = 4 → o.c ≤ 1

def tells (o : Op) : List Bytes := (List.range (tl o.kd)).map fun i => shw (fld o.kd i) (o.val i)
def pieces (o : Op) : List Bytes := wd o.kd :: tells o
def text (o : Op) : Bytes := join (pieces o) [32]

/-! ### cut at a byte -/

def sp (c : UInt8) : Bytes → List Bytes
  | [] => [[]]
  | x :: t => if x = c then [] :: sp c t else match sp c t with
    | [] => [[x]]
    | s :: r => (x :: s) :: r

theorem sp_ne (c : UInt8) : ∀ s, sp c s ≠ []
  | [] => by simp [sp]
  | x :: t => by
    unfold sp
    split
    · simp
    · split <;> simp
theorem sp_hit {c : UInt8} {a b : Bytes} (h : c ∉ a) : sp c (a ++ c :: b) = a :: sp c b := by
  induction a with
  | nil => simp [sp]
  | cons x a ih =>
    have hx : x ≠ c := fun e => h (by simp [e])
    have ih := ih (fun hh => h (by simp [hh]))
    simp only [List.cons_append, sp, ih]
    rw [if_neg hx]
theorem sp_miss {c : UInt8} {a : Bytes} (h : c ∉ a) : sp c a = [a] := by
  induction a with
  | nil => rfl
  | cons x a ih =>
    have hx : x ≠ c := fun e => h (by simp [e])
    have ih := ih (fun hh => h (by simp [hh]))
    simp only [sp, ih]
    rw [if_neg hx]

theorem joinTail_cons (sep x : Bytes) (r : List Bytes) : joinTail sep (x :: r) = sep ++ x ++ joinTail sep r := by simp [joinTail]
theorem joinTail_nil (sep : Bytes) : joinTail sep [] = [] := by simp [joinTail]

theorem sp_join {c : UInt8} : ∀ {ws : List Bytes}, ws ≠ [] → (∀ s ∈ ws, c ∉ s) → sp c (join ws [c]) = ws
  | [], h, _ => absurd rfl h
  | [x], _, h => by rw [join_one]; exact sp_miss (h x (by simp))
  | x :: y :: r, _, h => by
    have ih := sp_join (c := c) (ws := y :: r) (by simp) (fun s hs => h s (by simp [hs]))
    rw [join_cons] at ih ⊢
    rw [joinTail_cons, List.append_assoc]
    show sp c (x ++ c :: (y ++ joinTail [c] r)) = _
    rw [sp_hit (h x (by simp)), ih]

theorem at_cases (s : Bytes) (c : UInt8) : (∃ a b, s = a ++ c :: b ∧ c ∉ a) ∨ c ∉ s := by
  by_cases h : c ∈ s
  · obtain ⟨a, b, e, hn⟩ := List.eq_append_cons_of_mem h
    exact .inl ⟨a, b, e, hn⟩
  · exact .inr h

theorem join_sp (c : UInt8) : ∀ (k : Nat) (s : Bytes), s.length ≤ k → join (sp c s) [c] = s
  | k, s, hk => by
    rcases at_cases s c with ⟨a, b, e, hn⟩ | h
    · subst e
      rw [sp_hit hn]
      cases k with
      | zero => simp at hk
      | succ k =>
        have ih := join_sp c k b (by simp at hk; omega)
        cases hb : sp c b with
        | nil => exact absurd hb (sp_ne c b)
        | cons x r =>
          rw [hb, join_cons] at ih
          rw [join_cons, joinTail_cons, List.append_assoc, ih]
          rfl
    · rw [sp_miss h, join_one]

theorem count_miss {s : Bytes} {c : UInt8} (h : c ∉ s) : count s [c] = 0 := by rw [count_one]; exact List.count_eq_zero.2 h
theorem count_hit {a b : Bytes} {c : UInt8} (h : c ∉ a) : count (a ++ c :: b) [c] = count b [c] + 1 := by
  rw [count_one, count_one, List.count_append, List.count_cons_self, List.count_eq_zero.2 h]; omega
theorem splitK_sp (c : UInt8) : ∀ (k : Nat) (s : Bytes), count s [c] = k → splitK [c] 0 k s = sp c s := by
  intro k
  induction k with
  | zero =>
    intro s hk
    rcases at_cases s c with ⟨a, b, e, hn⟩ | h
    · subst e
      rw [count_hit hn] at hk; omega
    · rw [sp_miss h]; rfl
  | succ k ih =>
    intro s hk
    rcases at_cases s c with ⟨a, b, e, hn⟩ | h
    · subst e
      rw [count_hit hn] at hk
      rw [sp_hit hn, splitK, index_hit1 a b c hn]
      have e0 : ¬ ((a.length : Int) == -1) = true := by rw [beq_iff_eq]; omega
      rw [if_neg e0]
      have e1 : a ++ c :: b = (a ++ [c]) ++ b := by simp
      have e2 : (a ++ c :: b).drop ((a.length : Int).toNat + [c].length) = b := by
        rw [e1, List.drop_left' (by simp)]
      rw [e2, ih b (by omega)]
      simp
    · have e0 := count_miss h
      omega

/-! ### words -/

theorem wd_ok {k : Nat} (h : k < 14) : 32 ∉ wd k ∧ 10 ∉ wd k ∧ wd k ≠ [] ∧ (wd k)[0]? ≠ some 35 := by
  have key : ∀ k : Fin 14, 32 ∉ wd k ∧ 10 ∉ wd k ∧ wd k ≠ [] ∧ (wd k)[0]? ≠ some 35 := by decide
  exact key ⟨k, h⟩
theorem wd_inj {j k : Nat} (hj : j < 14) (hk : k < 14) (h : wd j = wd k) : j = k := by
  have key : ∀ j k : Fin 14, wd j = wd k → j = k := by decide
  have := key ⟨j, hj⟩ ⟨k, hk⟩ h
  simpa using this
theorem lim_ok {k : Nat} (h : k < 5) : 32 ∉ limits.getD k [] ∧ 10 ∉ limits.getD k [] := by
  have key : ∀ k : Fin 5, 32 ∉ limits.getD k.1 [] ∧ 10 ∉ limits.getD k.1 [] := by decide
  exact key ⟨k, h⟩
theorem lim_inj {j k : Nat} (hj : j < 5) (hk : k < 5) (h : limits.getD j [] = limits.getD k []) : j = k := by
  have key : ∀ j k : Fin 5, limits.getD j.1 [] = limits.getD k.1 [] → j = k := by decide
  have := key ⟨j, hj⟩ ⟨k, hk⟩ h
  simpa using this
theorem tl_le {k : Nat} (h : k < 14) : 1 ≤ tl k ∧ tl k ≤ 4 := by
  have key : ∀ k : Fin 14, 1 ≤ tl k.1 ∧ tl k.1 ≤ 4 := by decide
  exact key ⟨k, h⟩

theorem showB_no {n : Int} {c : UInt8} (hc : c.toNat < 45) : c ∉ showB n := by
  unfold showB
  split
  · intro h
    have : ∀ x ∈ maxB, ¬ x.toNat < 45 := by decide
    exact this c h hc
  · exact itoa_no hc
theorem shw_no {f n : Int} (h : rng f n = true) {c : UInt8} (hc : c = 32 ∨ c = 10) : c ∉ shw f n := by
  unfold rng at h
  unfold shw
  have h45 : c.toNat < 45 := by rcases hc with rfl | rfl <;> decide
  split at h
  · next e =>
    rw [if_pos e]
    have h := of_decide_eq_true h
    have := lim_ok (k := n.toNat) (by omega)
    rcases hc with rfl | rfl
    · exact this.1
    · exact this.2
  · next e =>
    rw [if_neg e]
    split
    · exact showB_no h45
    · exact itoa_no h45
theorem rng_i64 {f n : Int} (h : rng f n = true) : 0 ≤ n ∧ n ≤ 1099511627776 := by
  unfold rng at h
  split at h
  · have h := of_decide_eq_true h; omega
  · split at h <;> (have h := of_decide_eq_true h; omega)
theorem showB_inj {a b : Int} (ha : i64 a) (hb : i64 b) (h : showB a = showB b) : a = b := by
  unfold showB at h
  split at h <;> split at h
  · omega
  · exact absurd h.symm (itoa_ne_max _)
  · exact absurd h (itoa_ne_max _)
  · exact itoa_inj ha hb h
theorem shw_inj {f a b : Int} (ha : rng f a = true) (hb : rng f b = true) (h : shw f a = shw f b) : a = b := by
  have h1 := rng_i64 ha
  have h2 := rng_i64 hb
  unfold shw at h
  unfold rng at ha hb
  split at h
  · next e =>
    rw [if_pos e] at ha hb
    have ha := of_decide_eq_true ha
    have hb := of_decide_eq_true hb
    have := lim_inj (by omega) (by omega) h
    omega
  · split at h
    · exact showB_inj ⟨by omega, by omega⟩ ⟨by omega, by omega⟩ h
    · exact itoa_inj ⟨by omega, by omega⟩ ⟨by omega, by omega⟩ h

/-! ### lines -/

theorem Ok.kd {o : Op} (h : Ok o) : o.kd < 14 := by have := h.k0; have := h.k1; unfold Op.kd; omega
theorem Ok.no {o : Op} (h : Ok o) {c : UInt8} (hc : c = 32 ∨ c = 10) : ∀ s ∈ pieces o, c ∉ s := by
  intro s hs
  rcases List.mem_cons.1 hs with rfl | hs
  · have := wd_ok h.kd
    rcases hc with rfl | rfl
    · exact this.1
    · exact this.2.1
  · obtain ⟨i, hi, rfl⟩ := List.mem_map.1 hs
    exact shw_no (h.v i (List.mem_range.1 hi)) hc
theorem Ok.split {o : Op} (h : Ok o) : sp 32 (text o) = pieces o := sp_join (by simp [pieces]) (h.no (.inl rfl))
theorem mem_tail {c : UInt8} {sep : Bytes} : ∀ {ws : List Bytes}, c ∈ joinTail sep ws → c ∈ sep ∨ ∃ s ∈ ws, c ∈ s
  | [], h => by simp [joinTail_nil] at h
  | y :: r, h => by
    rw [joinTail_cons] at h
    rcases List.mem_append.1 h with h | h
    · rcases List.mem_append.1 h with h | h
      · exact .inl h
      · exact .inr ⟨y, by simp, h⟩
    · rcases mem_tail h with h | ⟨s, hs, h⟩
      · exact .inl h
      · exact .inr ⟨s, by simp [hs], h⟩
theorem mem_join {c : UInt8} {sep : Bytes} {ws : List Bytes} (h : c ∈ join ws sep) : c ∈ sep ∨ ∃ s ∈ ws, c ∈ s := by
  cases ws with
  | nil => simp [join_nil] at h
  | cons x r =>
    rw [join_cons] at h
    rcases List.mem_append.1 h with h | h
    · exact .inr ⟨x, by simp, h⟩
    · rcases mem_tail h with h | ⟨s, hs, h⟩
      · exact .inl h
      · exact .inr ⟨s, by simp [hs], h⟩
theorem Ok.noNl {o : Op} (h : Ok o) : 10 ∉ text o := fun hm => by
  rcases mem_join hm with hm | ⟨s, hs, hm⟩
  · simp at hm
  · exact h.no (.inr rfl) s hs hm
theorem text_cons (o : Op) : text o = wd o.kd ++ joinTail [32] (tells o) := by unfold text pieces; rw [join_cons]

def skip (s : Bytes) : Bool := decide (s = []) || decide (s[0]? = some 35)
theorem Ok.noSkip {o : Op} (h : Ok o) : skip (text o) = false := by
  obtain ⟨_, _, h3, h4⟩ := wd_ok h.kd
  rw [text_cons]
  cases hw : wd o.kd with
  | nil => exact absurd hw h3
  | cons x r =>
    rw [hw] at h4
    simp [skip]
    simpa using h4
theorem text_ne {o : Op} (h : Ok o) : text o ≠ [] := fun e => by
  have := h.noSkip
  rw [e] at this; simp [skip] at this

theorem Op.ext' {o p : Op} (hk : o.k = p.k) (hv : ∀ i, i < 4 → o.val i = p.val i) : o = p := by
  have h0 := hv 0 (by omega)
  have h1 := hv 1 (by omega)
  have h2 := hv 2 (by omega)
  have h3 := hv 3 (by omega)
  cases o; cases p
  simp only [Op.val] at h0 h1 h2 h3 hk
  simp [*]

theorem tells_at {o : Op} {i : Nat} (h : i < tl o.kd) : (tells o)[i]? = some (shw (fld o.kd i) (o.val i)) := by
  unfold tells
  rw [List.getElem?_map, List.getElem?_range h]; rfl
theorem tells_len (o : Op) : (tells o).length = tl o.kd := by simp [tells]

theorem pieces_inj {o p : Op} (ho : Ok o) (hp : Ok p) (h : pieces o = pieces p) : o = p := by
  unfold pieces at h
  rw [List.cons.injEq] at h
  have hk := wd_inj ho.kd hp.kd h.1
  have hk' : o.k = p.k := by have := ho.k0; have := hp.k0; unfold Op.kd at hk; omega
  refine Op.ext' hk' (fun i hi => ?_)
  by_cases hlt : i < tl o.kd
  · have e1 := tells_at hlt
    rw [h.2, tells_at (by rw [← hk]; exact hlt)] at e1
    have e1 := Option.some.inj e1
    have hpv := hp.v i (by rw [← hk]; exact hlt)
    rw [← hk] at e1 hpv
    exact (shw_inj hpv (ho.v i hlt) e1).symm
  · rw [ho.z i (by omega) hi, hp.z i (by rw [← hk]; omega) hi]
theorem text_inj {o p : Op} (ho : Ok o) (hp : Ok p) (h : text o = text p) : o = p := by
  refine pieces_inj ho hp ?_
  rw [← ho.split, ← hp.split, h]

/-- The operation of a line. -/
noncomputable def readO (s : Bytes) : Option Op := by
  classical exact if h : ∃ o, Ok o ∧ text o = s then some h.choose else none
theorem readO_eq {o : Op} {s : Bytes} (h : Ok o) (e : text o = s) : readO s = some o := by
  unfold readO
  have hx : ∃ o, Ok o ∧ text o = s := ⟨o, h, e⟩
  rw [dif_pos hx]
  congr 1
  exact text_inj hx.choose_spec.1 h (hx.choose_spec.2.trans e.symm)
theorem readO_none {s : Bytes} (h : ∀ o, Ok o → text o ≠ s) : readO s = none := by
  unfold readO
  rw [dif_neg (fun ⟨o, h1, h2⟩ => h o h1 h2)]
theorem readO_some {s : Bytes} {o : Op} (h : readO s = some o) : Ok o ∧ text o = s := by
  unfold readO at h
  split at h
  · next hx =>
    have := hx.choose_spec
    rw [Option.some.inj h] at this; exact this
  · cases h

/-! ### texts -/

def printT (l : List Op) : Bytes := (l.map fun o => text o ++ [10]).flatten
theorem printT_nil : printT [] = [] := rfl
theorem printT_cons (o : Op) (l : List Op) : printT (o :: l) = text o ++ 10 :: printT l := by simp [printT]
theorem printT_append (l m : List Op) : printT (l ++ m) = printT l ++ printT m := by simp [printT]
theorem printT_one (o : Op) : printT [o] = text o ++ [10] := by simp [printT]

/-- Line by line: what was read, or which line is none. -/
noncomputable def go (l : List Op) (no : Nat) : List Bytes → Nat ⊕ List Op
  | [] => .inr l
  | [r] => if r = [] then .inr l else .inl no
  | s :: t :: u => if skip s then go l (no + 1) (t :: u) else if l.length < 1000 then match readO s with
    | some o => go (l ++ [o]) (no + 1) (t :: u)
    | none => .inl no
    else .inl no
noncomputable def parse (t : Bytes) : Nat ⊕ List Op := go [] 1 (sp 10 t)

theorem go_skip {l : List Op} {no : Nat} {s b : Bytes} (h : 10 ∉ s) (hs : skip s = true) : go l no (sp 10 (s ++ 10 :: b)) = go l (no + 1) (sp 10 b) := by
  rw [sp_hit h]
  cases hb : sp 10 b with
  | nil => exact absurd hb (sp_ne 10 b)
  | cons x r => rw [go, if_pos hs]
theorem go_read {l : List Op} {no : Nat} {s b : Bytes} {o : Op} (h : 10 ∉ s) (hs : skip s = false) (hl : l.length < 1000) (hr : readO s = some o) : go l no (sp 10 (s ++ 10 :: b)) = go (l ++ [o]) (no + 1) (sp 10 b) := by
  rw [sp_hit h]
  cases hb : sp 10 b with
  | nil => exact absurd hb (sp_ne 10 b)
  | cons x r => rw [go, if_neg (by rw [hs]; simp), if_pos hl, hr]
theorem go_bad {l : List Op} {no : Nat} {s b : Bytes} (h : 10 ∉ s) (hs : skip s = false) (hr : 1000 ≤ l.length ∨ readO s = none) : go l no (sp 10 (s ++ 10 :: b)) = .inl no := by
  rw [sp_hit h]
  cases hb : sp 10 b with
  | nil => exact absurd hb (sp_ne 10 b)
  | cons x r =>
    rw [go, if_neg (by rw [hs]; simp)]
    rcases hr with hr | hr
    · rw [if_neg (by omega)]
    · rw [hr]; simp
theorem go_end {l : List Op} {no : Nat} {s : Bytes} (h : 10 ∉ s) : go l no (sp 10 s) = if s = [] then .inr l else .inl no := by rw [sp_miss h, go]

theorem go_print : ∀ (m l : List Op) (no : Nat) (t : Bytes), (∀ o ∈ m, Ok o) → l.length + m.length ≤ 1000 → go l no (sp 10 (printT m ++ t)) = go (l ++ m) (no + m.length) (sp 10 t)
  | [], l, no, t, _, _ => by simp [printT_nil]
  | o :: m, l, no, t, h, hl => by
    have ho := h o (by simp)
    rw [printT_cons, List.append_assoc, List.cons_append]
    rw [go_read ho.noNl ho.noSkip (by simp at hl; omega) (readO_eq ho rfl), go_print m _ _ t (fun p hp => h p (by simp [hp])) (by simp at hl ⊢; omega)]
    simp [Nat.add_assoc, Nat.add_comm 1]

theorem parse_print {l : List Op} (h : ∀ o ∈ l, Ok o) (hl : l.length ≤ 1000) : parse (printT l) = .inr l := by
  have := go_print l [] 1 [] h (by simpa using hl)
  rw [List.append_nil] at this
  unfold parse
  rw [this, go_end (by simp)]; simp
theorem parse_mixed {l m : List Op} {note : Bytes} (h : ∀ o ∈ l ++ m, Ok o) (hl : (l ++ m).length ≤ 1000) (hn : 10 ∉ note) : parse (printT l ++ (10 :: 35 :: (note ++ 10 :: printT m))) = .inr (l ++ m) := by
  unfold parse
  simp only [List.length_append] at hl
  rw [go_print l [] 1 _ (fun o ho => h o (by simp [ho])) (by simp; omega)]
  have e1 : (10 :: 35 :: (note ++ 10 :: printT m) : Bytes) = [] ++ 10 :: ((35 :: note) ++ 10 :: printT m) := by simp
  rw [e1, go_skip (by simp) (by decide), go_skip (by simpa using hn) (by simp [skip])]
  have := go_print m ([] ++ l) (1 + l.length + 1 + 1) [] (fun o ho => h o (by simp [ho])) (by simp; omega)
  rw [List.append_nil] at this
  rw [this, go_end (by simp)]; simp

/-- What of a text is printed again. -/
def want : List Bytes → Bytes
  | [] => []
  | [_] => []
  | s :: t :: u => (if skip s then [] else s ++ [10]) ++ want (t :: u)
theorem want_hit {s b : Bytes} (h : 10 ∉ s) : want (sp 10 (s ++ 10 :: b)) = (if skip s then [] else s ++ [10]) ++ want (sp 10 b) := by
  rw [sp_hit h]
  cases hb : sp 10 b with
  | nil => exact absurd hb (sp_ne 10 b)
  | cons x r => rw [want]
theorem want_miss {s : Bytes} (h : 10 ∉ s) : want (sp 10 s) = [] := by rw [sp_miss h, want]

theorem go_want : ∀ (ls : List Bytes) (l : List Op) (no : Nat) (m : List Op), l.length ≤ 1000 → (∀ o ∈ l, Ok o) → go l no ls = .inr m → (∀ o ∈ m, Ok o) ∧ m.length ≤ 1000 ∧ printT m = printT l ++ want ls
  | [], l, no, m, hl, hok, h => by
    rw [go] at h
    injection h with h
    subst h
    exact ⟨hok, hl, by simp [want]⟩
  | [r], l, no, m, hl, hok, h => by
    rw [go] at h
    split at h
    · injection h with h
      subst h
      exact ⟨hok, hl, by simp [want]⟩
    · cases h
  | s :: t :: u, l, no, m, hl, hok, h => by
    rw [go] at h
    rw [want]
    split at h
    · next hs =>
      rw [if_pos hs, List.nil_append]
      exact go_want (t :: u) l _ m hl hok h
    · next hs =>
      rw [if_neg hs]
      split at h
      · next hlt =>
        split at h
        · next o ho =>
          obtain ⟨h1, h2⟩ := readO_some ho
          have := go_want (t :: u) (l ++ [o]) _ m (by simp; omega) (fun p hp => by
            rcases List.mem_append.1 hp with hp | hp
            · exact hok p hp
            · rw [List.mem_singleton.1 hp]; exact h1) h
          refine ⟨this.1, this.2.1, ?_⟩
          rw [this.2.2, printT_append, printT_one, h2]; simp
        · cases h
      · cases h
theorem parse_want {t : Bytes} {m : List Op} (h : parse t = .inr m) : (∀ o ∈ m, Ok o) ∧ m.length ≤ 1000 ∧ printT m = want (sp 10 t) := by
  have := go_want _ [] 1 m (by simp) (by simp) h
  simpa [printT_nil] using this

/-- The text of operations, if there is one. -/
noncomputable def printO (l : List Op) : Option Bytes := by
  classical exact if (∀ o ∈ l, Ok o) ∧ l.length ≤ 1000 then some (printT l) else none
theorem printO_some {l : List Op} (h : ∀ o ∈ l, Ok o) (hl : l.length ≤ 1000) : printO l = some (printT l) := by unfold printO; rw [if_pos ⟨h, hl⟩]
theorem printO_none {l : List Op} (h : (∃ o ∈ l, ¬ Ok o) ∨ 1000 < l.length) : printO l = none := by
  unfold printO
  rw [if_neg]
  rintro ⟨h1, h2⟩
  rcases h with ⟨o, ho, hn⟩ | h
  · exact hn (h1 o ho)
  · omega
theorem printO_cases (l : List Op) : ((∀ o ∈ l, Ok o) ∧ l.length ≤ 1000 ∧ printO l = some (printT l)) ∨ (((∃ o ∈ l, ¬ Ok o) ∨ 1000 < l.length) ∧ printO l = none) := by
  classical
  by_cases h : (∀ o ∈ l, Ok o) ∧ l.length ≤ 1000
  · exact .inl ⟨h.1, h.2, printO_some h.1 h.2⟩
  · refine .inr ?_
    have : (∃ o ∈ l, ¬ Ok o) ∨ 1000 < l.length := by
      by_cases h2 : 1000 < l.length
      · exact .inr h2
      · refine .inl (Classical.byContradiction fun h3 => h ⟨fun o ho => Classical.byContradiction fun hn => h3 ⟨o, ho, hn⟩, by omega⟩)
    exact ⟨this, printO_none this⟩

/-! ### the document's numbers -/

def dgs (s : Bytes) : Int := if s = maxB then 1099511627776 else valF 0 (s.take 14)
theorem dgs_itoa {n : Int} (h : 0 ≤ n ∧ n ≤ 1099511627776) : dgs (itoa n) = n := by
  unfold dgs
  rw [if_neg (itoa_ne_max n)]
  have e : itoa n = decDigits n.toNat := by unfold itoa; rw [if_neg (by omega)]
  have hl := len13 (u := n.toNat) (by omega)
  rw [e, List.take_of_length_le (by omega), valF_dec, Go.Sp.w64 (by omega) (by omega)]
  omega
theorem dgs_shw {f n : Int} (h : rng f n = true) (hf : f ≠ 4) : dgs (shw f n) = n := by
  have h1 := rng_i64 h
  unfold shw
  rw [if_neg hf]
  split
  · unfold showB
    split
    · next e => rw [e]; rfl
    · exact dgs_itoa h1
  · exact dgs_itoa h1

/-- An operation's line, if it has one. -/
noncomputable def lineO (o : Op) : Option Bytes := by
  classical exact if Ok o then some (text o) else none
theorem lineO_some {o : Op} (h : Ok o) : lineO o = some (text o) := by unfold lineO; rw [if_pos h]
theorem lineO_none {o : Op} (h : ¬ Ok o) : lineO o = none := by unfold lineO; rw [if_neg h]

/-! ### a line that is read -/

def opOf (k : Nat) (vs : List Int) : Op := ⟨k, vs.getD 0 0, vs.getD 1 0, vs.getD 2 0, vs.getD 3 0⟩
theorem opOf_val (k : Nat) (vs : List Int) {i : Nat} (hi : i < 4) : (opOf k vs).val i = vs.getD i 0 := by
  match i, hi with
  | 0, _ => rfl
  | 1, _ => rfl
  | 2, _ => rfl
  | 3, _ => rfl
theorem opOf_kd (k : Nat) (vs : List Int) : (opOf k vs).kd = k := rfl

/-- What was read of a line: its word, and some of its numbers. -/
structure Part (s : Bytes) (k : Nat) (vs : List Int) : Prop where
  hk : k < 14
  w : wd k = (sp 32 s).getD 0 []
  len : (sp 32 s).length = 1 + tl k
  v : ∀ i, i < vs.length → rng (fld k i) (vs.getD i 0) = true ∧ shw (fld k i) (vs.getD i 0) = (sp 32 s).getD (i + 1) []

theorem Ok.word {p : Op} (h : Ok p) : (sp 32 (text p)).getD 0 [] = wd p.kd := by rw [h.split]; rfl
theorem Ok.at_ {p : Op} (h : Ok p) {i : Nat} (hi : i < tl p.kd) : (sp 32 (text p)).getD (i + 1) [] = shw (fld p.kd i) (p.val i) := by
  rw [h.split]
  have : (pieces p)[i + 1]? = some (shw (fld p.kd i) (p.val i)) := tells_at hi
  rw [List.getD_eq_getElem?_getD, this]; rfl
theorem Ok.len {p : Op} (h : Ok p) : (sp 32 (text p)).length = 1 + tl p.kd := by rw [h.split]; simp [pieces, tells_len]; omega

theorem Part.same {s : Bytes} {k : Nat} {vs : List Int} (h : Part s k vs) {p : Op} (hp : Ok p) (e : text p = s) : p.kd = k ∧ ∀ i, i < vs.length → i < tl k → p.val i = vs.getD i 0 := by
  subst e
  have hk : p.kd = k := wd_inj hp.kd h.hk (by rw [h.w, hp.word])
  refine ⟨hk, fun i hi ht => ?_⟩
  have h1 := (h.v i hi).2
  rw [hp.at_ (by rw [hk]; exact ht)] at h1
  have h2 := hp.v i (by rw [hk]; exact ht)
  rw [hk] at h1 h2
  exact (shw_inj (h.v i hi).1 h2 h1).symm

theorem Part.done {s : Bytes} {k : Nat} {vs : List Int} (h : Part s k vs) (hl : vs.length = tl k) (hr : (opOf k vs).k = 2 → (opOf k vs).b = 4 → (opOf k vs).c ≤ 1) : Ok (opOf k vs) ∧ text (opOf k vs) = s := by
  have htl := tl_le h.hk
  have hok : Ok (opOf k vs) := by
    refine ⟨by show (0 : Int) ≤ (k : Nat); omega, by show ((k : Nat) : Int) ≤ 13; have := h.hk; omega, fun i hi => ?_, fun i hi hi4 => ?_, hr⟩
    · rw [opOf_kd] at hi ⊢
      rw [opOf_val k vs (by omega)]
      exact (h.v i (by omega)).1
    · rw [opOf_kd] at hi
      rw [opOf_val k vs hi4, List.getD_eq_getElem?_getD, List.getElem?_eq_none (by omega)]; rfl
  refine ⟨hok, ?_⟩
  have e : pieces (opOf k vs) = sp 32 s := by
    apply List.ext_getElem?
    intro i
    have hlp : (pieces (opOf k vs)).length = 1 + tl k := by simp [pieces, tells_len, opOf_kd]; omega
    by_cases hi : i < 1 + tl k
    · have e2 : (sp 32 s)[i]? = some ((sp 32 s).getD i []) := by
        rw [List.getD_eq_getElem?_getD, List.getElem?_eq_getElem (by rw [h.len]; exact hi)]; rfl
      rw [e2]
      cases i with
      | zero => rw [← h.w]; rfl
      | succ i =>
        have h1 := tells_at (o := opOf k vs) (i := i) (by rw [opOf_kd]; omega)
        rw [opOf_kd, opOf_val k vs (by omega), (h.v i (by omega)).2] at h1
        exact h1
    · rw [List.getElem?_eq_none (by omega), List.getElem?_eq_none (by rw [h.len]; omega)]
  unfold text
  rw [e]
  exact join_sp 32 _ s (Nat.le_refl _)

theorem Part.only {s : Bytes} {k : Nat} {vs : List Int} (h : Part s k vs) (hl : vs.length = tl k) {p : Op} (hp : Ok p) (e : text p = s) : p = opOf k vs := by
  obtain ⟨h1, h2⟩ := h.same hp e
  have htl := tl_le h.hk
  refine Op.ext' ?_ (fun i hi => ?_)
  · show p.k = (k : Nat)
    have := hp.k0
    unfold Op.kd at h1; omega
  · rw [opOf_val k vs hi]
    by_cases ht : i < tl k
    · exact h2 i (by omega) ht
    · rw [hp.z i (by rw [h1]; omega) hi, List.getD_eq_getElem?_getD, List.getElem?_eq_none (by omega)]; rfl

end Go.Lg
