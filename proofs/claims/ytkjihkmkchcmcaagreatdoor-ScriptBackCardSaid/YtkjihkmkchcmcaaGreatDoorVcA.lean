/- The VC generator, part A: kinds, quiet operations (they leave the world alone), and that they are what the model runs. -/
import Derived.Tactics
import Derived.Still
import Derived.Laws.World
import Derived.KernelRfl
namespace Go.Vc
open Go

/-- A slice's value in one piece. -/
structure Sl where
  p : Option Addr
  n : Nat
  c : Nat

inductive C1 where
  | int (k : IntKind) | bool | str | ptr | slice | map | raw

def C1.ty : C1 → Type
  | .int _ => Int | .bool => Bool | .str => ByteArray | .ptr => Option Addr | .slice => Sl | .map => Option Nat | .raw => Value

def C1.mk : (c : C1) → c.ty → Value
  | .int k, n => .int k n
  | .bool, b => .bool b
  | .str, s => .string s
  | .ptr, p => .pointer p
  | .slice, s => .slice s.p s.n s.c
  | .map, r => .map r
  | .raw, v => v

/-- The value's content, if it is of that kind. -/
def C1.un : (c : C1) → Value → Option c.ty
  | .int k, .int k' n => match decide (k = k') with | true => some n | false => none
  | .bool, .bool b => some b
  | .str, .string s => some s
  | .ptr, .pointer p => some p
  | .slice, .slice p n c => some ⟨p, n, c⟩
  | .map, .map r => some r
  | .raw, v => some v
  | _, _ => none

theorem C1.un_some {c : C1} {v : Value} {x : c.ty} (h : c.un v = some x) : v = c.mk x := by
  cases c <;> cases v <;> simp only [C1.un, reduceCtorEq] at h
  case int.int k k' n =>
    split at h
    · rename_i e; simp only [decide_eq_true_eq] at e; subst e; exact congrArg (Value.int k) (Option.some.inj h)
    · cases h
  case bool.bool => exact congrArg Value.bool (Option.some.inj h)
  case str.string => exact congrArg Value.string (Option.some.inj h)
  case ptr.pointer => exact congrArg Value.pointer (Option.some.inj h)
  case map.map => exact congrArg Value.map (Option.some.inj h)
  case slice.slice p n c => have h' : (⟨p, n, c⟩ : Sl) = x := Option.some.inj h; subst h'; rfl
  all_goals exact Option.some.inj h

inductive K1 where
  | one (c : C1) | agg (l : List C1) | arr (n : Nat) (k : IntKind)

inductive Kd where
  | k (x : K1) | tup (l : List K1)

def exCells : List C1 → Array Value → (Array Value → Prop) → Prop
  | [], acc, f => f acc
  | c :: l, acc, f => ∃ x : c.ty, exCells l (acc.push (c.mk x)) f

def K1.ex : K1 → (Value → Prop) → Prop
  | .one c, f => ∃ x : c.ty, f (c.mk x)
  | .agg l, f => exCells l #[] (fun cs => f (.agg cs))
  | .arr n k, f => ∃ xs : List Int, xs.length = n ∧ f (.agg (xs.map (Value.int k)).toArray)

def exTup : List K1 → Array Value → (Array Value → Prop) → Prop
  | [], acc, f => f acc
  | k :: l, acc, f => k.ex fun v => exTup l (acc.push v) f

def Kd.ex : Kd → (Value → Prop) → Prop
  | .k x, f => x.ex f
  | .tup l, f => exTup l #[] (fun vs => f (.tuple vs))

theorem exCells_some : ∀ (l : List C1) (acc : Array Value) (f : Array Value → Prop), exCells l acc f → ∃ vs, f vs
  | [], acc, _, h => ⟨acc, h⟩
  | _ :: l, _, f, ⟨_, h⟩ => exCells_some l _ f h

theorem K1.ex_some {k : K1} {f : Value → Prop} (h : k.ex f) : ∃ v, f v := by
  cases k with
  | one c => obtain ⟨x, h⟩ := h; exact ⟨_, h⟩
  | agg l => obtain ⟨v, h⟩ := exCells_some l _ _ h; exact ⟨_, h⟩
  | arr n k => obtain ⟨x, _, h⟩ := h; exact ⟨_, h⟩

theorem exTup_some : ∀ (l : List K1) (acc : Array Value) (f : Array Value → Prop), exTup l acc f → ∃ vs, f vs
  | [], acc, _, h => ⟨acc, h⟩
  | _ :: l, _, f, h => let ⟨_, h⟩ := K1.ex_some h; exTup_some l _ f h

theorem Kd.ex_some {k : Kd} {f : Value → Prop} (h : k.ex f) : ∃ v, f v := by
  cases k with
  | k x => exact K1.ex_some h
  | tup l => obtain ⟨v, h⟩ := exTup_some l _ _ h; exact ⟨_, h⟩

/-- Is it a struct or an array? -/
def aggQ (P : Program) (t : TypeId) : Option Bool :=
  match P.underlying t with
  | some (.struct _) => some true
  | some (.array _ _) => some true
  | some _ => some false
  | none => none

def szQ (P : Program) (t : TypeId) : Option Nat :=
  match P.info? t with
  | some i => some i.size
  | none => none

def zeroQ (P : Program) (t : TypeId) : Option Value :=
  match P.info? t with
  | some i => i.zero
  | none => none

section
variable {P : Program} {w : World}

theorem run_zero {t : TypeId} {z : Value} (h : zeroQ P t = some z) : (zeroValue t).run P w = .ok z w := by
  unfold zeroQ at h
  split at h
  · rename_i i hi; simp [zeroValue, typeInfo, hi, h]
  · cases h

theorem run_underlying' {t : TypeId} {d : TypeDesc} (h : P.underlying t = some d) : (underlying t).run P w = .ok d w := by
  simp [underlying, h]

theorem run_isAgg {t : TypeId} {b : Bool} (h : aggQ P t = some b) : (isAgg t).run P w = .ok b w := by
  unfold aggQ at h
  cases hu : P.underlying t with
  | none => simp [hu] at h
  | some d => cases d <;> simp [hu] at h <;> subst h <;> simp [isAgg, run_underlying' hu]

theorem run_sizeOf {t : TypeId} {n : Nat} (h : szQ P t = some n) : (sizeOf t).run P w = .ok n w := by
  unfold szQ at h
  cases hu : P.info? t with
  | none => simp [hu] at h
  | some i => simp [hu] at h; subst h; simp [sizeOf, typeInfo, hu]
end

/-- The world has grown, nothing that was there is another one. -/
structure Grow (w w' : World) : Prop where
  os : w'.os = w.os
  tape : w'.tape = w.tape
  output : w'.output = w.output
  size : w.heap.size ≤ w'.heap.size
  heap : ∀ b, b < w.heap.size → w'.heap[b]? = w.heap[b]?

theorem Grow.refl (w : World) : Grow w w := ⟨rfl, rfl, rfl, Nat.le_refl _, fun _ _ => rfl⟩
theorem Grow.trans {a b c : World} (h : Grow a b) (h' : Grow b c) : Grow a c :=
  ⟨h'.os.trans h.os, h'.tape.trans h.tape, h'.output.trans h.output, Nat.le_trans h.size h'.size, fun x hx => (h'.heap x (Nat.lt_of_lt_of_le hx h.size)).trans (h.heap x hx)⟩
theorem Grow.drew (w : World) : Grow w w.drew := ⟨rfl, rfl, rfl, Nat.le_refl _, fun _ _ => rfl⟩
theorem Grow.alloc (w : World) (o : Obj) : Grow w (w.alloc o) :=
  ⟨rfl, rfl, rfl, by show w.heap.size ≤ (w.heap.push o).size; simp, fun b hb => by show (w.heap.push o)[b]? = w.heap[b]?; rw [Array.getElem?_push, if_neg (Nat.ne_of_lt hb)]⟩
theorem Grow.cell {w w' : World} (h : Grow w w') {a : Addr} {v : Value} (hc : w.cell? a = some v) : w'.cell? a = some v := by
  unfold World.cell? at hc ⊢
  cases hb : w.heap[a.block]? with
  | none => simp [hb] at hc
  | some o =>
    have hlt : a.block < w.heap.size := by
      rcases Nat.lt_or_ge a.block w.heap.size with h | h
      · exact h
      · simp [Array.getElem?_eq_none h] at hb
    rw [h.heap _ hlt, hb]
    simpa [hb] using hc

/-! ### loads -/

def ldCells : List C1 → Addr → Nat → Array Value → World → (Array Value → Prop) → Prop
  | [], _, _, acc, _, f => f acc
  | c :: l, a, i, acc, w, f => ∃ x : c.ty, w.cell? (a.add i) = some (c.mk x) ∧ ldCells l a (i + 1) (acc.push (c.mk x)) w f

def ldArr (n : Nat) (k : IntKind) (a : Addr) (w : World) (f : Value → Prop) : Prop :=
  ∃ xs : List Int, xs.length = n ∧ (∀ i, i < n → w.cell? (a.add i) = some (.int k (xs.getD i 0))) ∧ f (.agg (xs.map (Value.int k)).toArray)

def ldK (P : Program) (k : K1) (t : TypeId) (a : Addr) (w : World) (f : Value → Prop) : Prop :=
  match k with
  | .one c => match aggQ P t with
    | some false => ∃ x : c.ty, w.cell? a = some (c.mk x) ∧ f (c.mk x)
    | _ => False
  | .agg l => match aggQ P t, szQ P t with
    | some true, some n => bif n == l.length then ldCells l a 0 #[] w (fun cs => f (.agg cs)) else False
    | _, _ => False
  | .arr n k => match aggQ P t, szQ P t with
    | some true, some m => bif m == n then ldArr n k a w f else False
    | _, _ => False

theorem ldCells_run {P : Program} : ∀ (l : List C1) (a : Addr) (i : Nat) (acc : Array Value) (w : World) (f : Array Value → Prop), ldCells l a i acc w f →
    ∃ vs, (∀ w', Grow w w' → (loadCellsFrom a i l.length acc).run P w' = .ok vs w') ∧ f vs
  | [], _, _, acc, _, _, h => ⟨acc, fun _ _ => by simp [loadCellsFrom], h⟩
  | c :: l, a, i, acc, w, f, ⟨x, hx, h⟩ => by
    obtain ⟨vs, h1, h2⟩ := ldCells_run (P := P) l a (i + 1) _ w f h
    exact ⟨vs, fun w' g => by simp [loadCellsFrom, g.cell hx, h1 w' g], h2⟩

theorem ldArr_run {P : Program} {k : IntKind} {a : Addr} {w : World} (xs : List Int) : ∀ (m i : Nat) (acc : Array Value), i + m = xs.length →
    (∀ j, j < xs.length → w.cell? (a.add j) = some (.int k (xs.getD j 0))) →
    (loadCellsFrom a i m acc).run P w = .ok (acc ++ ((xs.drop i).map (Value.int k)).toArray) w
  | 0, i, acc, hi, _ => by
    have : xs.drop i = [] := by simp; omega
    simp [loadCellsFrom, this]
  | m + 1, i, acc, hi, h => by
    have hlt : i < xs.length := by omega
    have ih := ldArr_run (P := P) xs m (i + 1) (acc.push (.int k (xs.getD i 0))) (by omega) h
    simp only [loadCellsFrom, Sem.run_bind, run_load, h i hlt, Result.andThen_ok, ih]
    congr 1
    rw [show (List.drop i xs).map (Value.int k) = Value.int k (xs.getD i 0) :: (List.drop (i + 1) xs).map (Value.int k) by
      have e : xs.getD i 0 = xs[i] := by simp [List.getD, hlt]
      rw [e, List.drop_eq_getElem_cons hlt, List.map_cons]]
    apply Array.ext'
    simp only [Array.toList_append, Array.toList_push, List.append_assoc, List.singleton_append]

theorem ldK_run {P : Program} {k : K1} {t : TypeId} {a : Addr} {w : World} {f : Value → Prop} (h : ldK P k t a w f) :
    ∃ v, (∀ w', Grow w w' → (loadVar t a).run P w' = .ok v w') ∧ f v := by
  unfold ldK at h
  cases k with
  | one c =>
    dsimp only at h
    split at h
    · rename_i e
      obtain ⟨x, hx, hf⟩ := h
      exact ⟨_, fun w' g => by simp [loadVar, run_isAgg e, g.cell hx], hf⟩
    · exact h.elim
  | agg l =>
    dsimp only at h
    split at h
    · rename_i n e1 e2
      cases hn : n == l.length with
      | false => simp [hn] at h
      | true =>
        rw [hn, cond_true] at h
        simp at hn; subst hn
        obtain ⟨vs, h1, h2⟩ := ldCells_run (P := P) l a 0 #[] w _ h
        exact ⟨_, fun w' g => by simp [loadVar, run_isAgg e1, run_sizeOf e2, loadCells, h1 w' g], h2⟩
    · exact h.elim
  | arr n k =>
    dsimp only at h
    split at h
    · rename_i m e1 e2
      cases hn : m == n with
      | false => simp [hn] at h
      | true =>
        rw [hn, cond_true] at h
        simp at hn; subst hn
        obtain ⟨xs, h1, h2, h3⟩ := h
        subst h1
        exact ⟨_, fun w' g => by simp [loadVar, run_isAgg e1, run_sizeOf e2, loadCells, ldArr_run (P := P) xs xs.length 0 #[] (by omega) (fun j hj => g.cell (h2 j hj))], h3⟩
    · exact h.elim

/-! ### the quiet operations -/

/-- The pointer is not nil. -/
def NN (p : Option Addr) (f : Addr → Prop) : Prop := ∃ a, p = some a ∧ f a
@[simp] theorem NN_some (a : Addr) (f : Addr → Prop) : NN (some a) f ↔ f a := by simp [NN]
@[simp] theorem NN_none (f : Addr → Prop) : NN none f ↔ False := by simp [NN]

def vNil (x : Value) (f : Value → Prop) : Prop :=
  match x with
  | .pointer p => NN p fun a => f (.pointer (some a))
  | .func (.func g) fi ca => f (.func (.func g) fi ca)
  | _ => False

def fldQ (P : Program) (s : TypeId) (i : Nat) : Option Nat :=
  match P.underlying s with
  | some (.struct fs) => match fs[i]? with
    | some fd => match szQ P fd.type with
      | some (_ + 1) => some fd.offset
      | _ => none
    | none => none
  | _ => none

def vFieldAddr (P : Program) (s : TypeId) (x : Value) (i : Nat) (f : Value → Prop) : Prop :=
  match x with
  | .pointer (some a) => match fldQ P s i with
    | some o => f (.pointer (some (a.add o)))
    | none => False
  | _ => False

def vLoad (P : Program) (k : K1) (t : TypeId) (x : Value) (w : World) (f : Value → Prop) : Prop :=
  match x with
  | .pointer (some a) => ldK P k t a w f
  | _ => False

def vPick (c x y : Value) (f : Value → Prop) : Prop :=
  match c, x, y with
  | .bool b, .bool p, .bool q => f (.bool (bif b then p else q))
  | .bool true, x, _ => f x
  | .bool false, _, y => f y
  | _, _, _ => False

def andI (k : IntKind) (m n : Int) : Int := k.wrap (BitVec.ofInt k.bits m &&& BitVec.ofInt k.bits n).toNat
def orI (k : IntKind) (m n : Int) : Int := k.wrap (BitVec.ofInt k.bits m ||| BitVec.ofInt k.bits n).toNat
def xorI (k : IntKind) (m n : Int) : Int := k.wrap (BitVec.ofInt k.bits m ^^^ BitVec.ofInt k.bits n).toNat
def andNotI (k : IntKind) (m n : Int) : Int := k.wrap (BitVec.ofInt k.bits m &&& ~~~ BitVec.ofInt k.bits n).toNat
def notI (k : IntKind) (n : Int) : Int := k.wrap (BitVec.ofInt k.bits (if k.signed then -1 else k.max) ^^^ BitVec.ofInt k.bits n).toNat

def vInt (op : BinOp) (k : IntKind) (m : Int) (k' : IntKind) (n : Int) (f : Value → Prop) : Prop :=
  match op with
  | .shl => 0 ≤ n ∧ f (.int k (k.wrap (m * 2 ^ (min n.toNat k.bits))))
  | .shr => 0 ≤ n ∧ f (.int k (m.fdiv (2 ^ (min n.toNat k.bits))))
  | op => match decide (k = k') with
    | false => False
    | true => match op with
      | .add => f (.int k (k.wrap (m + n)))
      | .sub => f (.int k (k.wrap (m - n)))
      | .mul => f (.int k (k.wrap (m * n)))
      | .quo => n ≠ 0 ∧ f (.int k (k.wrap (m.tdiv n)))
      | .rem => n ≠ 0 ∧ f (.int k (m.tmod n))
      | .and => f (.int k (andI k m n))
      | .or => f (.int k (orI k m n))
      | .xor => f (.int k (xorI k m n))
      | .andNot => f (.int k (andNotI k m n))
      | .eql => f (.bool (m == n))
      | .neq => f (.bool (m != n))
      | .lss => f (.bool (m < n))
      | .leq => f (.bool (m ≤ n))
      | .gtr => f (.bool (m > n))
      | .geq => f (.bool (m ≥ n))
      | _ => False

def vStr (op : BinOp) (s t : ByteArray) (f : Value → Prop) : Prop :=
  match op with
  | .add => s.size + t.size ≤ 9223372036854775807 ∧ f (.string (s ++ t))
  | .eql => f (.bool (s.toList == t.toList))
  | .neq => f (.bool (!(s.toList == t.toList)))
  | .lss => f (.bool (Op.bytesLess s.toList t.toList))
  | _ => False

def isBoolT (P : Program) (t : TypeId) : Bool := match P.underlying t with | some .bool => true | _ => false
def isPtrT (P : Program) (t : TypeId) : Bool := match P.underlying t with | some (.pointer _) => true | _ => false
def isSliceT (P : Program) (t : TypeId) : Bool := match P.underlying t with | some (.slice _) => true | _ => false
def isMapT (P : Program) (t : TypeId) : Bool := match P.underlying t with | some (.map _ _) => true | _ => false

/-- What a comparison of two values comes to, in every world. -/
def EqV (P : Program) (op : BinOp) (t : TypeId) (x y : Value) (b : Bool) : Prop :=
  (∀ ox oy w, (eqGuard op t ox oy x y).run P w = .ok () w) ∧ ∀ w, (binOp op t x y).run P w = .ok (.bool b) w

def vOther (P : Program) (op : BinOp) (t : TypeId) (x y : Value) (f : Value → Prop) : Prop :=
  match op with
  | .eql => ∃ b : Bool, EqV P .eql t x y b ∧ f (.bool b)
  | .neq => ∃ b : Bool, EqV P .neq t x y b ∧ f (.bool b)
  | _ => False

def vBin0 (P : Program) (op : BinOp) (t : TypeId) (x y : Value) (f : Value → Prop) : Prop :=
  match x, y with
  | .int k m, .int k' n => vInt op k m k' n f
  | .string s, .string u => vStr op s u f
  | .bool p, .bool q => match isBoolT P t, op with
    | true, .eql => f (.bool (p == q))
    | true, .neq => f (.bool (!(p == q)))
    | _, _ => False
  | .pointer p, .pointer none => match isPtrT P t, op with
    | true, .eql => f (.bool p.isNone)
    | true, .neq => f (.bool (!p.isNone))
    | _, _ => False
  | .slice p _ _, .slice none _ _ => match isSliceT P t, op with
    | true, .eql => f (.bool p.isNone)
    | true, .neq => f (.bool (!p.isNone))
    | _, _ => False
  | .map r, .map none => match isMapT P t, op with
    | true, .eql => f (.bool r.isNone)
    | true, .neq => f (.bool (!r.isNone))
    | _, _ => False
  | x, y => vOther P op t x y f
def vBin (P : Program) (op : BinOp) (t : TypeId) (x y : Value) (f : Value → Prop) : Prop :=
  match y with
  | .nilFunc => vOther P op t x .nilFunc f
  | y => vBin0 P op t x y f

def vUn (op : UnOp) (x : Value) (f : Value → Prop) : Prop :=
  match op, x with
  | .not, .bool b => f (.bool !b)
  | .neg, .int k n => f (.int k (k.wrap (0 - n)))
  | .xor, .int k n => f (.int k (notI k n))
  | _, _ => False

def vConv (P : Program) (d : TypeId) (x : Value) (f : Value → Prop) : Prop :=
  match P.underlying d, x with
  | some (.int k), .int _ n => f (.int k (k.wrap n))
  | some .string, .string s => f (.string s)
  | _, _ => False

def isStrT (P : Program) (t : TypeId) : Bool := match P.underlying t with | some .string => true | _ => false

/-- A string's byte. -/
def strAt (s : ByteArray) (i : Int) (f : Int → Prop) : Prop := 0 ≤ i ∧ ∃ b : UInt8, s[i.toNat]? = some b ∧ f (b.toNat : Int)

def vIndex (P : Program) (t : TypeId) (x i : Value) (f : Value → Prop) : Prop :=
  match x, i with
  | .string s, .int _ i => match isStrT P t with
    | true => strAt s i fun b => f (.int .u8 b)
    | false => False
  | _, _ => False

def arrQ (P : Program) (t : TypeId) : Option (Nat × Nat) :=
  match P.underlying t with
  | some (.array n e) => match szQ P e with
    | some m => some (n, m)
    | none => none
  | _ => none
def sliQ (P : Program) (t : TypeId) : Option Nat :=
  match P.underlying t with
  | some (.slice e) => szQ P e
  | _ => none

/-- The address of an element of a slice, or an array. -/
def elAt (p : Option Addr) (n : Nat) (i : Int) (m : Nat) (f : Addr → Prop) : Prop := ∃ a, p = some a ∧ (0 ≤ i ∧ i < n) ∧ f (a.add (i.toNat * m))

def vIndexAddr (P : Program) (t : TypeId) (x i : Value) (f : Value → Prop) : Prop :=
  match x, i with
  | .slice p n _, .int _ i => match sliQ P t with
    | some m => elAt p n i m fun a => f (.pointer (some a))
    | none => False
  | .pointer p, .int _ i => match arrQ P t with
    | some (n, m) => elAt p n i m fun a => f (.pointer (some a))
    | none => False
  | _, _ => False

def partQ (P : Program) (t : TypeId) (cs : Array Value) (off : Nat) : Option Value :=
  match aggQ P t, szQ P t with
  | some true, some n => some (.agg (cs.extract off (off + n)))
  | some false, _ => cs[off]?
  | _, _ => none

def vField (P : Program) (t : TypeId) (x : Value) (i : Nat) (f : Value → Prop) : Prop :=
  match P.underlying t, x with
  | some (.struct fs), .agg cs => match fs[i]? with
    | some fd => match partQ P fd.type cs fd.offset with
      | some v => f v
      | none => False
    | none => False
  | _, _ => False

def vExtract (x : Value) (i : Nat) (f : Value → Prop) : Prop :=
  match x with
  | .tuple vs => match vs[i]? with
    | some v => f v
    | none => False
  | _ => False

/-- A slice's bounds; n the length, m the capacity. -/
def slB (n m : Nat) (lo hi mx : Option Value) (f : Nat → Nat → Nat → Prop) : Prop :=
  let low (h c : Nat) : Prop := match lo with
    | none => f 0 h c
    | some (.int _ l) => (0 ≤ l ∧ l ≤ h) ∧ f l.toNat h c
    | _ => False
  match hi, mx with
  | none, none => low n m
  | some (.int _ h), none => (0 ≤ h ∧ h ≤ m) ∧ low h.toNat m
  | some (.int _ h), some (.int _ c) => (0 ≤ c ∧ c ≤ m) ∧ (0 ≤ h ∧ h ≤ c.toNat) ∧ low h.toNat c.toNat
  | _, _ => False

def slA (a : Option Addr) (l c m : Nat) : Option Addr := if c = l then a else a.map (·.add (l * m))
def slA1 (a : Addr) (l c m : Nat) : Option Addr := some (if c = l then a else a.add (l * m))

def vSlice (P : Program) (t : TypeId) (x : Value) (lo hi mx : Option Value) (f : Value → Prop) : Prop :=
  match x with
  | .slice p n c => match sliQ P t with
    | some m => slB n c lo hi mx fun l h c => f (.slice (slA p l c m) (h - l) (c - l))
    | none => False
  | .string s => match isStrT P t, mx with
    | true, none => slB s.size s.size lo hi none fun l h _ => f (.string (s.extract l h))
    | _, _ => False
  | .pointer (some a) => match arrQ P t with
    | some (n, m) => slB n n lo hi mx fun l h c => f (.slice (slA1 a l c m) (h - l) (c - l))
    | none => False
  | _ => False

def min1 (x y : Int) : Int := if y < x then y else x
def max1 (x y : Int) : Int := if y > x then y else x

def vBuiltin1 (P : Program) (b : Builtin) (t : TypeId) (args : List Value) (f : Value → Prop) : Prop :=
  match b, args with
  | .len, [.slice _ n _] => match isSliceT P t with | true => f (.int .i64 n) | false => False
  | .len, [.string s] => match isStrT P t with | true => f (.int .i64 s.size) | false => False
  | .len, [.pointer _] => match P.underlying t with
    | some (.pointer e) => match arrQ P e with | some (n, _) => f (.int .i64 n) | none => False
    | _ => False
  | .len, [.agg _] => match arrQ P t with
    | some (n, _) => f (.int .i64 n)
    | none => False
  | .min, [.int k x, .int _ y] => f (.int k (min1 x y))
  | .max, [.int k x, .int _ y] => f (.int k (max1 x y))
  | _, _ => False

def vBuiltin (P : Program) (b : Builtin) (ts : Array TypeId) (args : Array Value) (f : Value → Prop) : Prop :=
  match ts[0]? with
  | some t => vBuiltin1 P b t args.toList f
  | none => False

/-- A struct or an array, put together. -/
def buildQ (P : Program) (t : TypeId) (ps : Array (Nat × Value)) : Option (Array Value) :=
  match zeroQ P t, P.underlying t with
  | some z, some (.struct fs) => match fs.toList.mapM fun f => (szQ P f.type).map fun n => (f.offset, n) with
    | some l => Instr.fill (fun i => l[i]?) z.cells ps.toList
    | none => none
  | some z, some (.array _ e) => match szQ P e with
    | some m => Instr.fill (fun i => some (i * m, m)) z.cells ps.toList
    | none => none
  | _, _ => none

def vBuild (P : Program) (t : TypeId) (ps : Array (Nat × Value)) (f : Value → Prop) : Prop :=
  match buildQ P t ps with
  | some cs => f (.agg cs)
  | none => False

def isIfaceT (P : Program) (t : TypeId) : Option Bool := match P.underlying t with | some (.interface _) => some true | some _ => some false | none => none

/-- Does it read the world? -/
def readsW : Op → Bool
  | .load .. | .lookup .. | .convert .. => true
  | _ => false

/-- What a look into a map gives, in every world that has grown. -/
def LookV (P : Program) (t : TypeId) (m k : Value) (ok : Bool) (w : World) (v : Value) : Prop := ∀ w', Grow w w' → (Instr.lookup t m k ok).run P w' = .ok v w'

/-- What a conversion gives, in every world that has grown. -/
def CvV (P : Program) (s d : TypeId) (x : Value) (w : World) (v : Value) : Prop := ∀ w', Grow w w' → (convert s d x).run P w' = .ok v w'
def vConvQ (P : Program) (s d : TypeId) (x : Value) (w : World) (f : Value → Prop) : Prop :=
  match P.underlying d, x with
  | some (.int k), .int _ n => f (.int k (k.wrap n))
  | some .string, .string t => f (.string t)
  | some .string, .slice p n c => ∃ l : ByteArray, CvV P s d (.slice p n c) w (.string l) ∧ f (.string l)
  | _, _ => False

def vQ (P : Program) (τ : TypeId → K1) (ρ : TypeId → Kd) (o : Oper) (ev : Operand → Value) (w : World) (f : Value → Prop) : Prop :=
  match o.op with
  | .move x => f (ev x)
  | .assign x => f (ev x)
  | .pick c x y => vPick (ev c) (ev x) (ev y) f
  | .nilCheck x => vNil (ev x) f
  | .fieldAddr s x i => vFieldAddr P s (ev x) i f
  | .load t x => vLoad P (τ t) t (ev x) w f
  | .binOp op t x y _ => vBin P op t (ev x) (ev y) f
  | .unOp op _ x => vUn op (ev x) f
  | .convert s d x => vConvQ P s d (ev x) w f
  | .index t x i => vIndex P t (ev x) (ev i) f
  | .indexAddr t x i => vIndexAddr P t (ev x) (ev i) f
  | .field t x i => vField P t (ev x) i f
  | .extract t i => vExtract (ev t) i f
  | .slice t x lo hi mx => vSlice P t (ev x) (lo.map ev) (hi.map ev) (mx.map ev) f
  | .build t ps => vBuild P t (ps.map fun (i, x) => (i, ev x)) f
  | .makeInterface t x => match isIfaceT P t with | some false => f (.iface t (ev x)) | _ => False
  | .lookup t m k ok => (ρ o.type).ex fun v => LookV P t (ev m) (ev k) ok w v ∧ f v
  | .makeFunc fn fi ca => f (.func fn (fi.map ev) (ca.map ev))
  | .call { callee := .builtin b, args, argTypes } => vBuiltin P b argTypes (args.map ev) f
  | _ => False

/-! ### the frame as a trie (for the kernel's sake) -/

inductive Tr where
  | nil
  | node (v : Value) (l r : Tr)

noncomputable def Tr.get (T : Tr) : Nat → Value :=
  Tr.rec (fun _ => undef) (fun v _ _ gl gr n => bif Nat.beq n 0 then v else bif Nat.beq (n % 2) 1 then gl (n / 2) else gr (n / 2 - 1)) T

noncomputable def Tr.putF (f : Nat) : Tr → Nat → Value → Tr :=
  Nat.rec (fun T _ _ => T) (fun _ ih T n x =>
    Tr.rec (bif Nat.beq n 0 then .node x .nil .nil else bif Nat.beq (n % 2) 1 then .node undef (ih .nil (n / 2) x) .nil else .node undef .nil (ih .nil (n / 2 - 1) x))
      (fun v l r _ _ => bif Nat.beq n 0 then .node x l r else bif Nat.beq (n % 2) 1 then .node v (ih l (n / 2) x) r else .node v l (ih r (n / 2 - 1) x)) T) f

noncomputable def Tr.put (T : Tr) (d : Option Nat) (v : Value) : Tr := match d with | some d => Tr.putF 13 T d v | none => T

theorem Tr.get_nil (n : Nat) : Tr.get .nil n = undef := rfl
theorem Tr.get_node (v : Value) (l r : Tr) (n : Nat) : Tr.get (.node v l r) n = bif Nat.beq n 0 then v else bif Nat.beq (n % 2) 1 then l.get (n / 2) else r.get (n / 2 - 1) := rfl
theorem Tr.putF_node (f : Nat) (v : Value) (l r : Tr) (n : Nat) (x : Value) : Tr.putF (f + 1) (.node v l r) n x =
    bif Nat.beq n 0 then .node x l r else bif Nat.beq (n % 2) 1 then .node v (Tr.putF f l (n / 2) x) r else .node v l (Tr.putF f r (n / 2 - 1) x) := rfl
theorem Tr.putF_nil (f : Nat) (n : Nat) (x : Value) : Tr.putF (f + 1) .nil n x =
    bif Nat.beq n 0 then .node x .nil .nil else bif Nat.beq (n % 2) 1 then .node undef (Tr.putF f .nil (n / 2) x) .nil else .node undef .nil (Tr.putF f .nil (n / 2 - 1) x) := rfl

theorem beq_eq (a b : Nat) : Nat.beq a b = (a == b) := by rw [Bool.eq_iff_iff]; simp

theorem Tr.get_putF : ∀ (f : Nat) (T : Tr) (n m : Nat) (x : Value), n + 1 < 2 ^ f → (Tr.putF f T n x).get m = if m = n then x else T.get m
  | 0, _, _, _, _, h => by simp at h
  | f + 1, T, n, m, x, h => by
    have e : Tr.putF (f + 1) T n x = match T with
      | .nil => Tr.putF (f + 1) (.node undef .nil .nil) n x
      | T => Tr.putF (f + 1) T n x := by cases T <;> rfl
    have hnil : ∀ k, (Tr.nil).get k = (Tr.node undef .nil .nil).get k := by
      intro k; rw [Tr.get_node, Tr.get_nil]; cases Nat.beq k 0 <;> cases Nat.beq (k % 2) 1 <;> rfl
    have key : ∀ (v : Value) (l r : Tr), (Tr.putF (f + 1) (.node v l r) n x).get m = if m = n then x else (Tr.node v l r).get m := by
      intro v l r
      rw [Tr.putF_node]
      have h2 : 2 ^ (f + 1) = 2 ^ f + 2 ^ f := by rw [Nat.pow_succ]; omega
      by_cases hn : n = 0
      · subst hn
        simp only [beq_eq, beq_self_eq_true, cond_true]
        rw [Tr.get_node, Tr.get_node]
        by_cases hm : m = 0
        · subst hm; simp [beq_eq]
        · have : (m == 0) = false := by simpa using hm
          simp only [beq_eq, this, cond_false, if_neg hm]
      · have hn' : Nat.beq n 0 = false := by rw [beq_eq]; simpa using hn
        rw [hn', cond_false]
        by_cases hp : n % 2 = 1
        · have hp' : Nat.beq (n % 2) 1 = true := by rw [beq_eq]; simpa using hp
          rw [hp', cond_true, Tr.get_node, Tr.get_node, Tr.get_putF f l (n / 2) (m / 2) x (by omega)]
          by_cases hm : m = 0
          · subst hm; rw [if_neg (by omega : ¬ 0 = n)]; rfl
          · have hm' : Nat.beq m 0 = false := by rw [beq_eq]; simpa using hm
            rw [hm', cond_false, cond_false]
            by_cases hq : m % 2 = 1
            · have hq' : Nat.beq (m % 2) 1 = true := by rw [beq_eq]; simpa using hq
              rw [hq', cond_true, cond_true]
              by_cases e : m = n
              · subst e; simp
              · rw [if_neg e, if_neg (by omega : ¬ m / 2 = n / 2)]
            · have hq' : Nat.beq (m % 2) 1 = false := by rw [beq_eq]; simpa using hq
              rw [hq', cond_false, cond_false, if_neg (fun e : m = n => hq (by rw [e]; exact hp))]
        · have hp' : Nat.beq (n % 2) 1 = false := by rw [beq_eq]; simpa using hp
          rw [hp', cond_false, Tr.get_node, Tr.get_node, Tr.get_putF f r (n / 2 - 1) (m / 2 - 1) x (by omega)]
          by_cases hm : m = 0
          · subst hm; rw [if_neg (by omega : ¬ 0 = n)]; rfl
          · have hm' : Nat.beq m 0 = false := by rw [beq_eq]; simpa using hm
            rw [hm', cond_false, cond_false]
            by_cases hq : m % 2 = 1
            · have hq' : Nat.beq (m % 2) 1 = true := by rw [beq_eq]; simpa using hq
              rw [hq', cond_true, cond_true, if_neg (fun e : m = n => hp (by rw [← e]; exact hq))]
            · have hq' : Nat.beq (m % 2) 1 = false := by rw [beq_eq]; simpa using hq
              rw [hq', cond_false, cond_false]
              by_cases e : m = n
              · subst e; simp
              · rw [if_neg e, if_neg (by omega : ¬ m / 2 - 1 = n / 2 - 1)]
    cases T with
    | nil => rw [hnil m]; exact key _ _ _
    | node v l r => exact key v l r

theorem Tr.get_put (T : Tr) (d m : Nat) (v : Value) (h : d < 8000) : (T.put (some d) v).get m = if m = d then v else T.get m :=
  Tr.get_putF 13 T d m v (by omega)

noncomputable def Tr.ev (T : Tr) : Operand → Value
  | .tmp t => T.get t
  | .const v => v
  | .global g => .pointer (some ⟨g, 0, none⟩)
  | .func f => .func (.func f) #[] #[]

end Go.Vc
