/- The VC generator, part D: operations with an effect, regions, code. -/
import Derived.Test.YtkjihkmkchcmcaaGreatDoorVcC
import Derived.Scope
import Derived.ScopeJumps
import Derived.StillTail
namespace Go.Vc
open Go

/-- A cell that is there, and may be written. -/
def okCell (w : World) (a : Addr) : Prop := (∃ v, w.cell? a = some v) ∧ w.frozen? a = false

def stN : List Value → Addr → Nat → World → (World → Prop) → Prop
  | [], _, _, w, f => f w
  | v :: l, a, i, w, f => okCell w (a.add i) ∧ stN l a (i + 1) (w.setCell (a.add i) v) f

def setFrom (w : World) (a : Addr) (i : Nat) : List Value → World
  | [] => w
  | v :: l => setFrom (w.setCell (a.add i) v) a (i + 1) l

def stArr (n : Nat) (k : IntKind) (v : Value) (a : Addr) (w : World) (f : World → Prop) : Prop :=
  ∃ ys : List Int, v = .agg (ys.map (Value.int k)).toArray ∧ ys.length = n ∧ (∀ i, i < n → okCell w (a.add i)) ∧ f (setFrom w a 0 (ys.map (Value.int k)))

/-- A store of one cell. -/
def St (a : Addr) (v : Value) (f : World → Prop) (w : World) : Prop := okCell w a ∧ f (w.setCell a v)
/-- A store of several cells. -/
def StN (vs : List Value) (a : Addr) (f : World → Prop) (w : World) : Prop := stN vs a 0 w f

def vStore (P : Program) (k : K1) (t : TypeId) (x v : Value) (w : World) (f : World → Prop) : Prop :=
  match x with
  | .pointer (some a) => match k with
    | .one _ => match szQ P t with
      | some 1 => match v.oneCell' with
        | true => St a v f w
        | false => False
      | _ => False
    | .agg _ => match v with
      | .agg cs => match szQ P t with
        | some n => bif n == cs.size && cs.toList.all (·.oneCell') then StN cs.toList a f w else False
        | none => False
      | _ => False
    | .arr n k => match szQ P t with
      | some m => bif m == n then stArr n k v a w f else False
      | none => False
  | _ => False

/-- A new block. -/
def Al (o : Obj) (f : Addr → World → Prop) (w : World) : Prop := f ⟨w.heap.size, 0, none⟩ (w.alloc o)

/-- A new map. -/
def AlM (f : Nat → World → Prop) (w : World) : Prop := f w.heap.size (w.alloc (.map #[] 0))

def sliceCellsQ (P : Program) (t : TypeId) (n : Nat) (ps : List (Nat × Value)) : Option (TypeId × Array Value) :=
  match P.underlying t with
  | some (.slice e) => match szQ P e, zeroQ P e with
    | some m, some z => match decide (n * m ≤ 2 ^ 24) && decide (0 < n * m), Instr.fill (fun i => some (i * m, m)) (((List.replicate n z.cells.toList).flatten).toArray) ps with
      | true, some cs => bif m == z.cells.size then some (e, cs) else none
      | _, _ => none
    | _, _ => none
  | _ => none

def vBuildSlice (P : Program) (t : TypeId) (n : Nat) (ps : Array (Nat × Value)) (f : Value → World → Prop) (w : World) : Prop :=
  match sliceCellsQ P t n ps.toList with
  | some (e, cs) => Al (.cells cs e) (fun q => f (.slice (some q) n n)) w
  | none => False

def callN (P : Program) (g : FuncId) (args : Array Value) (k : Kd) (w : World) (f : Value → World → Prop) : Prop :=
  Calls P g args w fun e w' => k.ex fun v => e = .returned v ∧ f v w'

/-- A call of what may panic. -/
def callP (P : Program) (g : FuncId) (args : Array Value) (k : Kd) (w : World) (f : Value → World → Prop) (p : List PanicEntry → World → Prop) : Prop :=
  Calls P g args w fun e w' => (k.ex fun v => e = .returned v ∧ f v w') ∨ ∃ ch, e = .panicked ch ∧ p ch w'

def vCall (P : Program) (pan : FuncId → Bool) (g : Value) (args : Array Value) (k : Kd) (w : World) (f : Value → World → Prop) (p : List PanicEntry → World → Prop) : Prop :=
  match g with
  | .func (.func g) fi ca => match P.funcs[g]? with
    | some fn => match fn.body.isSome && !(fn.name == "runtime.NumGoroutine") with
      | true => bif pan g then callP P g (fi ++ args ++ ca) k w f p else callN P g (fi ++ args ++ ca) k w f
      | false => False
    | none => False
  | _ => False

def okFnB (P : Program) (g : FuncId) : Bool := match P.funcs[g]? with
  | some fn => fn.body.isSome && !(fn.name == "runtime.NumGoroutine")
  | none => false

/-- A call of a function value that is not known here. -/
def callD (P : Program) (g : Value) (args : Array Value) (w : World) (R : Ending → World → Prop) : Prop :=
  ∃ (h : FuncId) (ca : Array Value), g = .func (.func h) #[] ca ∧ okFnB P h = true ∧ Calls P h (args ++ ca) w R

def vCallD (P : Program) (g : Value) (args : Array Value) (k : Kd) (w : World) (f : Value → World → Prop) : Prop :=
  callD P g args w fun e w' => k.ex fun v => e = .returned v ∧ f v w'

/-- What the model runs, as it stands: a value and a world behind it. -/
def eff (P : Program) (s : Sem Value) (k : Kd) (w : World) (f : Value → World → Prop) : Prop := k.ex fun v => ∃ w', s.run P w = .ok v w' ∧ f v w'
/-- A step of a range: it is over, or there is one more. -/
def vNext (P : Program) (it : Value) (str : Bool) (t : TypeId) (w : World) (f : Value → World → Prop) : Prop :=
  (∃ w', (Instr.next it str t).run P w = .ok (.tuple #[.bool false]) w' ∧ f (.tuple #[.bool false]) w') ∨
  (match str with
    | true => ∃ k c : Int, ∃ w', (Instr.next it true t).run P w = .ok (.tuple #[.bool true, .int .i64 k, .int .i32 c]) w' ∧ f (.tuple #[.bool true, .int .i64 k, .int .i32 c]) w'
    | false => ∃ k v : Value, ∃ w', (Instr.next it false t).run P w = .ok (.tuple #[.bool true, k, v]) w' ∧ f (.tuple #[.bool true, k, v]) w')
def effU (P : Program) (s : Sem Unit) (w : World) (f : World → Prop) : Prop := ∃ w', s.run P w = .ok () w' ∧ f w'

/-- The marks of the one who prints: which regions that draw have how many quiet operations at their head; which comparisons, conversions, lens are quiet; which slots a loop turns that are read later. -/
structure Ann where
  quiet : Nat → Bool := fun _ => false   -- by the slot that is written: it goes by 'vQ'
  dyn : Nat → Bool := fun _ => false   -- by the slot that is written: a call of a function value that is not known
  ent : Nat → List K1 := fun _ => [.one .raw, .one .raw]   -- of a map's entry (by the slot that is written): the kinds of its key, and of what it holds
  calm : Nat → Bool := fun _ => false   -- of a region that draws: all in it is quiet, or calls what only reads
  sig : Nat → Option (List Nat × List Nat) := fun _ => none   -- of a region that draws: in which order it is looked at, and which operations have an effect
  fork : Nat → Bool := fun _ => false   -- of a region that draws: all orders are gone through
  head : Nat → Nat := fun _ => 0   -- of a region that draws: how many operations are quiet (all, if as many as there are)
  loop : Nat → List (Nat × C1) := fun _ => []   -- by the number of the first region in the loop
  goto : Nat → Option (List (Nat × C1)) := fun _ => none   -- by the label: where the run jumps back to it
  join : Nat → Option (List (Nat × C1)) := fun _ => none   -- by the number of the first region behind it: where the ways meet again

def dynB (A : Ann) (o : Oper) : Bool := match o.dst with | some d => A.dyn d | none => false
def isQ : Op → Bool
  | .move _ | .assign _ | .pick .. | .nilCheck _ | .fieldAddr .. | .load .. | .unOp .. | .indexAddr .. | .field .. | .extract .. | .slice .. | .makeFunc .. | .build .. | .makeInterface .. | .lookup .. => true
  | _ => false

/-- What the operation does, where it is none of the quiet ones. q: of those whose kind tells nothing (a comparison, a conversion, len), whether it is quiet. -/
def vE (P : Program) (τ : TypeId → K1) (ρ : TypeId → Kd) (pan : FuncId → Bool) (A : Ann) (o : Oper) (ev : Operand → Value) (w : World) (f : Value → World → Prop) (p : List PanicEntry → World → Prop) : Prop :=
  match o.op with
  | .store t x v => vStore P (τ t) t (ev x) (ev v) w (f undef)
  | .box t x => Al (.cells (ev x).cells t) (fun q => f (.pointer (some q))) w
  | .alloc t => match zeroQ P t with
    | some z => Al (.cells z.cells t) (fun q => f (.pointer (some q))) w
    | none => False
  | .call { callee := .value g, args, .. } => bif dynB A o then vCallD P (ev g) (args.map ev) (ρ o.type) w f else vCall P pan (ev g) (args.map ev) (ρ o.type) w f p
  | .call { callee := .builtin .append, args, argTypes } => eff P (Builtin.append_ argTypes o.type (args.map ev)) (ρ o.type) w f
  | .call { callee := .builtin .copy, args, argTypes } => eff P (Builtin.copy_ argTypes o.type (args.map ev)) (ρ o.type) w f
  | .call { callee := .builtin .delete, args, argTypes } => eff P (Builtin.delete_ argTypes o.type (args.map ev)) (ρ o.type) w f
  | .call { callee := .builtin .clear, args, argTypes } => eff P (Builtin.clear_ argTypes o.type (args.map ev)) (ρ o.type) w f
  | .call { callee := .builtin .len, args, argTypes } => eff P (Builtin.len_ argTypes o.type (args.map ev)) (ρ o.type) w f
  | .call { callee := .builtin .cap, args, argTypes } => eff P (Builtin.cap_ argTypes o.type (args.map ev)) (ρ o.type) w f
  | .buildSlice t n ps => vBuildSlice P t n (ps.map fun (i, x) => (i, ev x)) f w
  | .makeSlice t l c => eff P (Instr.makeSlice t (ev l) (ev c)) (ρ o.type) w f
  | .makeMap _ none => AlM (fun q => f (.map (some q))) w
  | .mapUpdate t m k x => effU P (Instr.mapUpdate t (ev m) (ev k) (ev x)) w (f undef)
  | .insert t m k x => effU P (Instr.mapUpdate t (ev m) (ev k) (ev x)) w (f undef)
  | .mapEntry t m k => eff P (Instr.mapEntry t (ev m) (ev k)) (ρ o.type) w f
  | .entryStore t m s x => effU P (Instr.entryStore t (ev m) (ev s) (ev x)) w (f undef)
  | .range t x => eff P (Instr.range t (ev x)) (.k (.one .ptr)) w f
  | .next it s => vNext P (ev it) s o.type w f
  | .entry it => match o.dst with
    | some d => exTup (A.ent d) #[] fun vs => ∃ w', (Instr.entry (ev it)).run P w = .ok (.tuple vs) w' ∧ f (.tuple vs) w'
    | none => False
  | .convert s d x => eff P (convert s d (ev x)) (ρ o.type) w f
  | .index t x i => eff P (Instr.index t (ev x) (ev i)) (ρ o.type) w f
  | .binOp op t x y _ => eff P (do eqGuard op t x y (ev x) (ev y); binOp op t (ev x) (ev y)) (ρ o.type) w f
  | .typeAssert x t u ok => eff P (Instr.typeAssert (ev x) t u ok) (ρ o.type) w f
  | .panic x => match ev x with
    | .iface t v => p [{ v := .iface t v, recovered := false }] w
    | _ => False
  | _ => False

def quietB (A : Ann) (o : Oper) : Bool := isQ o.op || (match o.dst with | some d => A.quiet d | none => false)

def vOp (P : Program) (τ : TypeId → K1) (ρ : TypeId → Kd) (pan : FuncId → Bool) (A : Ann) (o : Oper) (T : Tr) (w : World) (next : Tr → World → Prop) (Q : Exit → Tr → World → Prop) : Prop :=
  bif quietB A o then vQ P τ ρ o T.ev w (fun v => next (T.put o.dst v) w)
  else vE P τ ρ pan A o T.ev w (fun v w' => next (T.put o.dst v) w') (fun ch w' => Q (.panic ch) T w')

/-- Where the guard of an operation is known it is carried out ('yes'), or not ('no'); where it is not, both ways are gone. -/
def vGuard (ops : Array Oper) (o : Oper) (T : Tr) (yes no : Tr → Prop) : Prop :=
  match o.guard with
  | none => yes T
  | some (j, want) => match (ops[j]?).bind (·.dst) with
    | none => False
    | some d => match T.get d with
      | .bool b => bif b then (bif want then yes (T.put (some d) (.bool true)) else no (T.put (some d) (.bool true)))
          else (bif want then no (T.put (some d) (.bool false)) else yes (T.put (some d) (.bool false)))
      | .tuple _ => no T
      | _ => False

/-- The operations, one behind the other. -/
def vOps (P : Program) (τ : TypeId → K1) (ρ : TypeId → Kd) (pan : FuncId → Bool) (A : Ann) (ops : Array Oper) (Q : Exit → Tr → World → Prop) : List Oper → Tr → World → Prop
  | [], T, w => Q .normal T w
  | o :: rest, T, w => vGuard ops o T (fun T => vOp P τ ρ pan A o T w (vOps P τ ρ pan A ops Q rest) Q) (fun T => vOps P τ ρ pan A ops Q rest (T.put o.dst undef) w)

/-- Quiet operations alone. -/
def vQs (P : Program) (τ : TypeId → K1) (ρ : TypeId → Kd) (ops : Array Oper) (w : World) (Q : Tr → Prop) : List Oper → Tr → Prop
  | [], T => Q T
  | o :: rest, T => vGuard ops o T (fun T => vQ P τ ρ o T.ev w (fun v => vQs P τ ρ ops w Q rest (T.put o.dst v))) (fun T => vQs P τ ρ ops w Q rest (T.put o.dst undef))

/-- A call of a function that only reads, and whose answer no draw, and nothing new, turns. -/
def qcall (P : Program) (g : FuncId) (args : Array Value) (k : Kd) (w : World) (f : Value → Prop) : Prop :=
  k.ex fun v => (∀ w1, Grow w w1 → Calls P g args w1 fun e w2 => e = .returned v ∧ Grow w1 w2) ∧ f v

def vQCall (P : Program) (g : Value) (args : Array Value) (k : Kd) (w : World) (f : Value → Prop) : Prop :=
  match g with
  | .func (.func g) fi ca => match okFnB P g with
    | true => qcall P g (fi ++ args ++ ca) k w f
    | false => False
  | _ => False

def vQC (P : Program) (τ : TypeId → K1) (ρ : TypeId → Kd) (o : Oper) (ev : Operand → Value) (w : World) (f : Value → Prop) : Prop :=
  match o.op with
  | .call { callee := .value g, args, .. } => vQCall P (ev g) (args.map ev) (ρ o.type) w f
  | _ => vQ P τ ρ o ev w f

/-- Quiet operations, and calls of what only reads. -/
def vQCs (P : Program) (τ : TypeId → K1) (ρ : TypeId → Kd) (ops : Array Oper) (w : World) (Q : Tr → Prop) : List Oper → Tr → Prop
  | [], T => Q T
  | o :: rest, T => vGuard ops o T (fun T => vQC P τ ρ o T.ev w (fun v => vQCs P τ ρ ops w Q rest (T.put o.dst v))) (fun T => vQCs P τ ρ ops w Q rest (T.put o.dst undef))

/-! Drawn regions in which there are effects, in a forced order, and reads that float among them. -/

def maskOf (ops : Array Oper) (j : Nat) (sub : Nat → Nat) : Nat := match ops[j]? with
  | none => 0
  | some o => o.after.toList.foldl (fun s e => bif Region.binds .any e then s ||| 2 ^ e.on ||| sub e.on else s) 0
/-- The operations ahead of one, as a mask. -/
def bmask (ops : Array Oper) : Nat → Nat → Nat
  | 0, _ => 0
  | f + 1, j => maskOf ops j (bmask ops f)

/-- Again the same. -/
def vRe (P : Program) (τ : TypeId → K1) (ρ : TypeId → Kd) (ops : Array Oper) (T : Tr) (w : World) (next : Prop) : List Nat → Prop
  | [] => next
  | j :: l => match ops[j]? with
    | none => False
    | some o => vGuard ops o T (fun T => vQ P τ ρ o T.ev w fun v => v = (match o.dst with | some d => T.get d | none => v) ∧ vRe P τ ρ ops T w next l) (fun T => vRe P τ ρ ops T w next l)

/-- Where it panics in between: whatever the frame holds. -/
def vPan (Q : Exit → Tr → World → Prop) : Exit → Tr → World → Prop
  | .panic ch, _, w => ∀ T : Tr, Q (.panic ch) T w
  | _, _, _ => False

def vSig (P : Program) (τ : TypeId → K1) (ρ : TypeId → Kd) (pan : FuncId → Bool) (A : Ann) (ops : Array Oper) (effs : List Nat) (Q : Exit → Tr → World → Prop) : List Nat → List Nat → Tr → World → Prop
  | [], _, T, w => Q .normal T w
  | i :: rest, done, T, w => match ops[i]? with
    | none => False
    | some o => bif effs.contains i
        then vGuard ops o T (fun T => vOp P τ ρ pan A o T w (fun T' w' => vRe P τ ρ ops T' w' (vSig P τ ρ pan A ops effs Q rest done T' w') (done.filter fun j => !(bmask ops ops.size i).testBit j)) (vPan Q))
          (fun T => vSig P τ ρ pan A ops effs Q rest done (T.put o.dst undef) w)
        else vGuard ops o T (fun T => vQ P τ ρ o T.ev w fun v => vSig P τ ρ pan A ops effs Q rest (bif readsW o.op then i :: done else done) (T.put o.dst v) w)
          (fun T => vSig P τ ρ pan A ops effs Q rest done (T.put o.dst undef) w)

/-- An order is drawn. -/
def Dr (f : World → Prop) (w : World) : Prop := f w.drew
/-- An order is drawn; what is called may make new things. -/
def DrG (f : World → Prop) (w : World) : Prop := ∀ w', Grow w w' → f w'

def vEach (f : Nat → Prop) : List Nat → Prop
  | [] => True
  | i :: l => f i ∧ vEach f l
/-- All orders. -/
def vAny (P : Program) (τ : TypeId → K1) (ρ : TypeId → Kd) (pan : FuncId → Bool) (A : Ann) (ops : Array Oper) (Q : Exit → Tr → World → Prop) : Nat → Array Bool → Tr → World → Prop
  | 0, listed, T, w => match Region.ready .any ops listed with
    | [] => Q .normal T w
    | _ => False
  | fuel + 1, listed, T, w => match Region.ready .any ops listed with
    | [] => Q .normal T w
    | i :: l => vEach (fun i => match ops[i]? with
      | none => False
      | some o => vGuard ops o T (fun T => vOp P τ ρ pan A o T w (vAny P τ ρ pan A ops Q fuel (listed.setIfInBounds i true)) Q) (fun T => vAny P τ ρ pan A ops Q fuel (listed.setIfInBounds i true) (T.put o.dst undef) w)) (i :: l)

def vRegion (P : Program) (τ : TypeId → K1) (ρ : TypeId → Kd) (pan : FuncId → Bool) (A : Ann) (id : Nat) (ops : Array Oper) (draw : Bool) (Q : Exit → Tr → World → Prop) (T : Tr) (w : World) : Prop :=
  match draw with
  | false => vOps P τ ρ pan A ops Q ops.toList T w
  | true => match A.sig id with
    | some (σ, effs) => Dr (fun w' => vSig P τ ρ pan A ops effs Q σ [] T w') w
    | none => bif A.fork id then Dr (fun w' => vAny P τ ρ pan A ops Q ops.size (Array.replicate ops.size false) T w') w
    else bif A.calm id then vQCs P τ ρ ops w (fun T' => DrG (fun w' => Q .normal T' w') w) ops.toList T
    else Dr (fun w' => vQs P τ ρ ops w' (fun T' => vOps P τ ρ pan A ops Q (ops.toList.drop (A.head id)) T' w') (ops.toList.take (A.head id)) T) w

def wrOps (l : List Oper) : List Nat := l.filterMap (·.dst)
def wr : Code → List Nat
  | .region _ ops _ => wrOps ops.toList
  | .seq x y => wr x ++ wr y
  | .cond _ x y => wr x ++ wr y
  | .block _ c => wr c
  | .loop c => wr c
  | .scope c => wr c
  | .rangeFunc _ ps x y => ps.toList ++ wr x ++ wr y
  | _ => []

def firstRegion : Code → Option Nat
  | .region id _ _ => some id
  | .seq x y => (firstRegion x).or (firstRegion y)
  | .cond _ x y => (firstRegion x).or (firstRegion y)
  | .block _ c => firstRegion c
  | .loop c => firstRegion c
  | .scope c => firstRegion c
  | _ => none

/-- What holds at a loop's head: of the slots' contents and the world. -/
def InvT : List (Nat × C1) → Type
  | [] => World → Prop
  | (_, c) :: l => c.ty → InvT l
def MeaT : List (Nat × C1) → Type
  | [] => World → Nat
  | (_, c) :: l => c.ty → MeaT l

/-- The invariant at a frame: its slots must hold values of these kinds. -/
def InvAt : (l : List (Nat × C1)) → InvT l → Tr → World → Prop
  | [], I, _, w => I w
  | (s, c) :: l, I, T, w => match c.un (T.get s) with
    | some x => InvAt l (I x) T w
    | none => False
/-- .. and the measure is below m. -/
def InvLt : (l : List (Nat × C1)) → InvT l → MeaT l → Nat → Tr → World → Prop
  | [], I, μ, m, _, w => I w ∧ μ w < m
  | (s, c) :: l, I, μ, m, T, w => match c.un (T.get s) with
    | some x => InvLt l (I x) (μ x) m T w
    | none => False
/-- For all contents of the slots. -/
def AllS : (l : List (Nat × C1)) → InvT l → MeaT l → Tr → (Tr → (World → Prop) → (World → Nat) → Prop) → Prop
  | [], I, μ, T, K => K T I μ
  | (s, c) :: l, I, μ, T, K => ∀ x : c.ty, AllS l (I x) (μ x) (T.put (some s) (c.mk x)) K

def deadOf (W : List Nat) (l : List (Nat × C1)) : List Nat := W.filter fun s => !(l.map (·.1)).contains s
noncomputable def putDead (u : Nat → Value) : List Nat → Tr → Tr
  | [], T => T
  | s :: l, T => putDead u l (T.put (some s) (u s))

def vLoop (l : List (Nat × C1)) (W : List Nat) (body : (Tr → World → Prop) → Tr → World → Prop) (T : Tr) (w : World) : Prop :=
  ∃ (I : InvT l) (μ : MeaT l), InvAt l I T w ∧ ∀ u : Nat → Value, AllS l I μ (putDead u (deadOf W l) T) fun T' I' μ' => ∀ w', I' w' → body (InvLt l I μ (μ' w')) T' w'

/-- No measure. -/
def noMea : (l : List (Nat × C1)) → MeaT l
  | [] => fun _ => 0
  | (_, _) :: l => fun _ => noMea l
/-- Where ways meet: what holds there, of the slots' contents and the world. -/
def vJoin (l : List (Nat × C1)) (W : List Nat) (first : (Tr → World → Prop) → Tr → World → Prop) (rest : Tr → World → Prop) (T : Tr) (w : World) : Prop :=
  ∃ J : InvT l, first (InvAt l J) T w ∧ ∀ u : Nat → Value, AllS l J (noMea l) (putDead u (deadOf W l) T) fun T' J' _ => ∀ w', J' w' → rest T' w'

/-! What stands behind a code. -/
def joinOf (A : Ann) (y : Code) : Option (List (Nat × C1)) := match firstRegion y with
  | some r => A.join r
  | none => none
def XThen (next : Tr → World → Prop) (Q : Exit → Tr → World → Prop) : Exit → Tr → World → Prop
  | .normal, T, w => next T w
  | e, T, w => Q e T w
def XBlock (id : Nat) (Q : Exit → Tr → World → Prop) : Exit → Tr → World → Prop
  | .exit id', T, w => bif Nat.beq id' id then Q .normal T w else Q (.exit id') T w
  | e, T, w => Q e T w
def XNoGoto (Q : Exit → Tr → World → Prop) : Exit → Tr → World → Prop
  | .goto _, _, _ => False
  | e, T, w => Q e T w
def XJump (l : Nat) (J : Tr → World → Prop) (Q : Exit → Tr → World → Prop) : Exit → Tr → World → Prop
  | .goto l', T, w => bif Nat.beq l' l then J T w else False
  | e, T, w => Q e T w

def labelOf : Code → Option Nat
  | .label l => some l
  | .seq x y => (labelOf x).or (labelOf y)
  | _ => none

def vScope (l : List (Nat × C1)) (W : List Nat) (first pass : (Tr → World → Prop) → Tr → World → Prop) (T : Tr) (w : World) : Prop :=
  ∃ (I : InvT l) (μ : MeaT l), first (InvAt l I) T w ∧ ∀ u : Nat → Value, AllS l I μ (putDead u (deadOf W l) T) fun T' I' μ' => ∀ w', I' w' → pass (InvLt l I μ (μ' w')) T' w'

/-- THE VC OF A CODE. (The number: how deep it may go.) -/
def vc (P : Program) (τ : TypeId → K1) (ρ : TypeId → Kd) (pan : FuncId → Bool) (A : Ann) : Nat → Code → (Exit → Tr → World → Prop) → Tr → World → Prop
  | 0, _, _, _, _ => False
  | n + 1, c, Q, T, w => match c with
    | .skip => Q .normal T w
    | .label _ => Q .normal T w
    | .exit id => Q (.exit id) T w
    | .goto l => Q (.goto l) T w
    | .ret => Q .ret T w
    | .region id ops draw => vRegion P τ ρ pan A id ops draw Q T w
    | .seq x y => match joinOf A y with
      | none => vc P τ ρ pan A n x (XThen (vc P τ ρ pan A n y Q) Q) T w
      | some ks => vJoin ks (wr x) (fun J => vc P τ ρ pan A n x (XThen J Q)) (vc P τ ρ pan A n y Q) T w
    | .cond c x y => match T.ev c with
      | .bool t => bif t then vc P τ ρ pan A n x Q T w else vc P τ ρ pan A n y Q T w
      | _ => False
    | .block id c => vc P τ ρ pan A n c (XBlock id Q) T w
    | .scope c => match labelOf c with
      | none => vc P τ ρ pan A n c (XNoGoto Q) T w
      | some l => match A.goto l with
        | none => vc P τ ρ pan A n c (XNoGoto Q) T w
        | some ks => match findLabel c l with
          | some rest => vScope ks (wr c) (fun J => vc P τ ρ pan A n c (XJump l J Q)) (fun J => vc P τ ρ pan A n rest (XJump l J Q)) T w
          | none => False
    | .loop c => vLoop (A.loop ((firstRegion c).getD 0)) (wr c) (fun next => vc P τ ρ pan A n c (XThen next Q)) T w
    | _ => False

end Go.Vc
