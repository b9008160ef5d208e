/- Rules for what the model runs, over lists of owned pieces. -/
import Derived.Test.YtkjihkmkchcmcaaGreatDoorSep
import Derived.Deep.AppendSrc
import Derived.Laws.MakeOwn
import Derived.Laws.IdiomStrings
import Derived.Stop.BytesEq
namespace Go.Sp
open Go Go.Vc

@[simp] theorem add_mk (b o n : Nat) : (⟨b, o, none⟩ : Addr).add n = ⟨b, o + n, none⟩ := by
  unfold Addr.add; split
  · subst_vars; rfl
  · rfl

theorem bifI {b : Bool} {A B : Prop} (h1 : b = true → A) (h2 : b = false → B) : bif b then A else B := by
  cases b
  · exact h2 rfl
  · exact h1 rfl

theorem bifT {A B : Prop} (h : A) : bif true then A else B := h
theorem bifF {A B : Prop} (h : B) : bif false then A else B := h

theorem use {P : Program} {f : FuncId} {args : Array Value} {w : World} {K : Value → World → Prop} {R : Ending → World → Prop} (h : Calls P f args w (Ret K)) (k : ∀ v w', K v w' → R (.returned v) w') : Calls P f args w R :=
  h.mono fun e w' ⟨v, he, hk⟩ => by subst he; exact k v w' hk

theorem w64 {n : Int} (h1 : -9223372036854775808 ≤ n) (h2 : n ≤ 9223372036854775807) : IntKind.i64.wrap n = n := by
  unfold IntKind.wrap
  simp only [IntKind.signed, IntKind.bits, Bool.true_and]
  by_cases hc : n % 2 ^ 64 ≥ 2 ^ (64 - 1)
  · rw [if_pos (by simpa using hc)]; omega
  · rw [if_neg (by simpa using hc)]; omega

/-! ### cells -/

def setAll (c : List Value) (o : Nat) : List Value → List Value
  | [] => c
  | v :: r => setAll (c.set o v) (o + 1) r

@[simp] theorem length_setAll : ∀ (vs : List Value) (c : List Value) (o : Nat), (setAll c o vs).length = c.length
  | [], _, _ => rfl
  | v :: r, c, o => by rw [setAll, length_setAll r]; simp

theorem setAll_get : ∀ (vs : List Value) (c : List Value) (o i : Nat), (setAll c o vs)[i]? = if o ≤ i ∧ i < o + vs.length ∧ i < c.length then vs[i - o]? else c[i]?
  | [], c, o, i => by
    have : ¬ (o ≤ i ∧ i < o + 0 ∧ i < c.length) := by omega
    simp only [setAll, List.length_nil, if_neg this]
  | v :: r, c, o, i => by
    rw [setAll, setAll_get r]
    simp only [List.length_set, List.length_cons, List.getElem?_set]
    by_cases h1 : o = i
    · subst h1
      by_cases h2 : o < c.length
      · have : ¬ (o + 1 ≤ o ∧ o < o + 1 + r.length ∧ o < c.length) := by omega
        rw [if_neg this, if_pos rfl, if_pos h2, if_pos (by omega)]; simp
      · have : ¬ (o + 1 ≤ o ∧ o < o + 1 + r.length ∧ o < c.length) := by omega
        rw [if_neg this, if_pos rfl, if_neg h2, if_neg (by omega)]
        simp; omega
    · rw [if_neg h1]
      by_cases h2 : o + 1 ≤ i ∧ i < o + 1 + r.length ∧ i < c.length
      · rw [if_pos h2, if_pos (by omega)]
        rw [show i - o = (i - (o + 1)) + 1 by omega]; simp
      · rw [if_neg h2, if_neg (by omega)]

theorem setAll_eq : ∀ (vs c : List Value) (o : Nat), o + vs.length ≤ c.length → setAll c o vs = c.take o ++ vs ++ c.drop (o + vs.length) := by
  intro vs c o hl
  apply List.ext_getElem?
  intro i
  rw [setAll_get]
  by_cases h1 : o ≤ i ∧ i < o + vs.length ∧ i < c.length
  · rw [if_pos h1, List.append_assoc, List.getElem?_append_right (by simp; omega), List.getElem?_append_left (by simp; omega)]
    simp [show min o c.length = o by omega]
  · rw [if_neg h1]
    by_cases h2 : i < o
    · rw [List.append_assoc, List.getElem?_append_left (by simp; omega)]; simp [h2]
    · by_cases h3 : i < c.length
      · rw [List.getElem?_append_right (by simp; omega)]
        simp only [List.length_append, List.length_take, List.getElem?_drop]
        congr 1; omega
      · rw [List.getElem?_eq_none (by omega), List.getElem?_eq_none (by simp; omega)]

section
variable {E : Env} {L : List Asn} {w : World} {P : Program}

theorem Sep.setCells {b : Nat} : ∀ (vs : List Value) {c : List Value} {w : World} (_ : Sep E (blk b c :: L) w) (o : Nat), Sep E (blk b (setAll c o vs) :: L) (w.setCells b o vs)
  | [], _, _, h, _ => h
  | v :: r, _, _, h, o => Sep.setCells r (h.setCell o v) (o + 1)

theorem Sep.isSome {b : Nat} {c : List Value} (h : Sep E (blk b c :: L) w) {o : Nat} (ho : o < c.length) : (w.cell? ⟨b, o, none⟩).isSome = true := by
  rw [h.cell o]; simp [ho]
theorem Sep.warm {b : Nat} {c : List Value} (h : Sep E (blk b c :: L) w) {o : Nat} (ho : o < c.length) : w.frozen? ⟨b, o, none⟩ = false := (h.okCell ho).2

theorem setFrom_eq (b : Nat) : ∀ (vs : List Value) (w : World) (o i : Nat), setFrom w ⟨b, o, none⟩ i vs = w.setCells b (o + i) vs
  | [], _, _, _ => rfl
  | v :: r, w, o, i => by rw [setFrom, add_mk, setFrom_eq b r, World.setCells]; rfl

theorem St.j {b : Nat} {c : List Value} {v : Value} {f : World → Prop} {o n : Nat} (h : Sep E (blk b c :: L) w) (ho : o + n < c.length)
    (k : ∀ w1, Sep E (blk b (c.set (o + n) v) :: L) w1 → f w1) : St ((⟨b, o, none⟩ : Addr).add n) v f w := by
  rw [add_mk]; exact St.i h ho k

theorem StN.i {b : Nat} {c : List Value} {f : World → Prop} {o : Nat} {vs : List Value} (h : Sep E (blk b c :: L) w) (hl : o + vs.length ≤ c.length)
    (k : ∀ w1, Sep E (blk b (setAll c o vs) :: L) w1 → f w1) : StN vs ⟨b, o, none⟩ f w := by
  have go : ∀ (vs : List Value) (i : Nat) {c : List Value} {w : World} (_ : Sep E (blk b c :: L) w) (_ : o + i + vs.length ≤ c.length) (_ : ∀ w1, Sep E (blk b (setAll c (o + i) vs) :: L) w1 → f w1), stN vs ⟨b, o, none⟩ i w f := by
    intro vs
    induction vs with
    | nil => intro i c w h _ k; exact k _ h
    | cons v r ih =>
      intro i c w h hl k
      simp only [List.length_cons] at hl
      refine ⟨by rw [add_mk]; exact h.okCell (by omega), ?_⟩
      rw [add_mk]
      refine ih (i + 1) (h.setCell (o + i) v) (by simp; omega) (fun w1 h1 => k w1 h1)
  exact go vs 0 h hl k

theorem stArr.i {b : Nat} {c : List Value} {f : World → Prop} {o n : Nat} {k : IntKind} {v : Value} (ys : List Int) (h : Sep E (blk b c :: L) w) (hv : v = .agg (ys.map (Value.int k)).toArray) (hn : ys.length = n) (hl : o + n ≤ c.length)
    (kk : ∀ w1, Sep E (blk b (setAll c o (ys.map (Value.int k))) :: L) w1 → f w1) : stArr n k v ⟨b, o, none⟩ w f := by
  refine ⟨ys, hv, hn, fun i hi => ?_, ?_⟩
  · rw [add_mk]; exact h.okCell (by omega)
  · rw [setFrom_eq]; exact kk _ (h.setCells _ _)

/-! ### types, as facts that the kernel finds -/

/-- A slice's element: its bytes, its cells, its noughts. -/
def slQ (P : Program) (t : TypeId) : Option (Nat × Nat × List Value) :=
  match P.underlying t with
  | some (.slice e) => match P.info? e with
    | some i => match i.zero with
      | some z => some (i.bytes, i.size, z.cells.toList)
      | none => none
    | none => none
  | _ => none
theorem slQ_of {t : TypeId} {by_ sz : Nat} {zs : List Value} (h : slQ P t = some (by_, sz, zs)) : ∃ e i z, P.underlying t = some (.slice e) ∧ P.info? e = some i ∧ i.zero = some z ∧ i.bytes = by_ ∧ i.size = sz ∧ z.cells.toList = zs := by
  unfold slQ at h
  split at h
  · next e he =>
    split at h
    · next i hi =>
      split at h
      · next z hz => simp only [Option.some.injEq, Prod.mk.injEq] at h; exact ⟨e, i, z, he, hi, hz, h.1, h.2.1, h.2.2⟩
      · simp at h
    · simp at h
  · simp at h

/-- A slice of bytes. -/
def bsQ (P : Program) (t : TypeId) : Bool :=
  match P.underlying t with
  | some (.slice e) => match P.underlying e with
    | some (.int .u8) => true
    | _ => false
  | _ => false
theorem bsQ_of {t : TypeId} (h : bsQ P t = true) : ∃ e, P.underlying t = some (.slice e) ∧ P.underlying e = some (.int .u8) := by
  unfold bsQ at h
  split at h
  · next e he =>
    split at h
    · next h2 => exact ⟨e, he, h2⟩
    · simp at h
  · simp at h
theorem isStrT_of {t : TypeId} (h : isStrT P t = true) : P.underlying t = some .string := by
  unfold isStrT at h
  split at h
  · assumption
  · simp at h

/-- Makes. -/
theorem makeSlice.i (h : Sep E L w) {t : TypeId} {by_ sz : Nat} {zs : List Value} (hq : slQ P t = some (by_, sz, zs)) {kl kc : IntKind} {l c : Int} (h0 : 0 ≤ l) (hlc : l ≤ c)
    (hb : (by_ : Int) * c ≤ 281474976710656) (h63 : c ≤ 9223372036854775807) {G : Sl → World → Prop}
    (k : ∀ b w1, Sep E (blk b ((List.range (c.toNat * sz)).map fun i => (zs.toArray)[i % zs.length]!) :: L) w1 → G ⟨some ⟨b, 0, none⟩, l.toNat, c.toNat⟩ w1) :
    ∃ x : Sl, ∃ w1, Sem.run P (Instr.makeSlice t (.int kl l) (.int kc c)) w = .ok (.slice x.p x.n x.c) w1 ∧ G x w1 := by
  obtain ⟨e, i, z, ht, hi, hz, hb', hs, hzs⟩ := slQ_of hq
  subst hb' hs hzs
  have := h.alloc (madeCells z.cells (c.toNat * i.size)) e
  refine ⟨⟨_, _, _⟩, _, run_make w t e i z ht hi hz kl kc l c h0 hlc hb h63, k _ _ ?_⟩
  simpa [madeCells] using this

/-- Strings of bytes. -/
def u8s (l : List UInt8) : List Value := l.map fun b => Value.int .u8 b.toNat

@[simp] theorem u8s_get (l : List UInt8) (i : Nat) : (u8s l)[i]? = l[i]?.map fun b => Value.int .u8 b.toNat := by simp [u8s]
@[simp] theorem u8s_length (l : List UInt8) : (u8s l).length = l.length := by simp [u8s]

theorem makeBytes.i (h : Sep E L w) {t : TypeId} {by_ sz m : Nat} (hq : slQ P t = some (by_, sz, u8s (List.replicate m 0))) (hm : 0 < m) {kl kc : IntKind} {l : Int} (h0 : 0 ≤ l)
    (hb : (by_ : Int) * l ≤ 281474976710656) (h63 : l ≤ 9223372036854775807) {G : Sl → World → Prop}
    (k : ∀ b w1, Sep E (blk b (u8s (List.replicate (l.toNat * sz) 0)) :: L) w1 → G ⟨some ⟨b, 0, none⟩, l.toNat, l.toNat⟩ w1) :
    ∃ x : Sl, ∃ w1, Sem.run P (Instr.makeSlice t (.int kl l) (.int kc l)) w = .ok (.slice x.p x.n x.c) w1 ∧ G x w1 := by
  refine makeSlice.i h hq h0 (Int.le_refl _) hb h63 (fun b w1 h1 => k b w1 ?_)
  have : ((List.range (l.toNat * sz)).map fun i => ((u8s (List.replicate m 0)).toArray)[i % (u8s (List.replicate m 0)).length]!) = u8s (List.replicate (l.toNat * sz) 0) := by
    apply List.ext_getElem?
    intro i
    simp only [List.getElem?_map, u8s_length, List.length_replicate, u8s_get]
    have hlt : i % m < m := Nat.mod_lt _ hm
    by_cases hi : i < l.toNat * sz
    · simp [hi, u8s, hlt]
    · simp [hi]
  rw [this] at h1; exact h1

theorem toStr.i (l : List UInt8) {b o n c : Nat} {C : List Value} {s d : TypeId} (m : Nat) (h : Sep E L w) (hi : L[m]? = some (blk b C)) (hs : bsQ P s = true) (hd : isStrT P d = true)
    (hn : l.length = n) (hc : ∀ j (hj : j < l.length), C[o + j]? = some (.int .u8 (l[j].toNat : Int))) {G : ByteArray → World → Prop} (k : G ⟨l.toArray⟩ w) :
    ∃ x : ByteArray, ∃ w1, Sem.run P (convert s d (.slice (some ⟨b, o, none⟩) n c)) w = .ok (.string x) w1 ∧ G x w1 := by
  subst hn
  obtain ⟨e, h1, h2⟩ := bsQ_of hs
  exact ⟨_, _, run_convert_bytes_back w s d e ⟨b, o, none⟩ c l h1 h2 (isStrT_of hd) (fun j hj => by rw [add_mk, h.cellAt m hi]; exact hc j hj), k⟩

theorem copyStr.i {b o n c : Nat} {C : List Value} {s : ByteArray} {dt st ty : TypeId} {by_ : Nat} {zs : List Value} (h : Sep E (blk b C :: L) w) (hq : slQ P dt = some (by_, 1, zs)) (hn : s.size = n) (hC : o + n ≤ C.length) {G : Int → World → Prop}
    (k : ∀ w1, Sep E (blk b (setAll C o (byteCells s)) :: L) w1 → G (n : Int) w1) :
    ∃ x : Int, ∃ w1, Sem.run P (Builtin.copy_ #[dt, st] ty #[.slice (some ⟨b, o, none⟩) n c, .string s]) w = .ok (.int .i64 x) w1 ∧ G x w1 := by
  subst hn
  obtain ⟨e, i, z, ht, hi, hz, hb', hs1, hzs⟩ := slQ_of hq
  have hl : (byteCells s).length = s.size := byteCells_length s
  have hst := run_storeCells_cells (P := P) b o (byteCells s) 0 w (fun j hj => h.isSome (by omega)) (fun j hj => h.warm (by omega)) (fun u hu => by
    obtain ⟨_, _, rfl⟩ := List.mem_map.1 hu; rfl)
  refine ⟨(s.size : Int), w.setCells b o (byteCells s), ?_, k _ (h.setCells _ _)⟩
  have hf := firstCells_string (P := P) s w
  simp only [Nat.add_zero] at hst
  simp [Builtin.copy_, run_underlying ht, Builtin.lenOf, sizeOf, typeInfo, hi, hs1, hf, hst, goInt]

/-- Appends: there is room, or there is a new row. -/
theorem append.i {b o n c : Nat} {C : List Value} {x : Value} {k : Nat} {news : List Value} {st xt ty : TypeId} {by_ sz : Nat} {zs : List Value} (h : Sep E (blk b C :: L) w) (hq : slQ P st = some (by_, sz, zs)) (hs : Src P sz xt x k news w)
    (hC : o + n * sz ≤ C.length) (hroomC : n + k ≤ c → o + (n + k) * sz ≤ C.length)
    (h63 : ((n + k : Nat) : Int) ≤ 9223372036854775807) (hfit : c < n + k → Builtin.nextslicecap (n + k) c * by_ ≤ 281474976710656) {G : Sl → World → Prop}
    (k1 : n + k ≤ c → ∀ w1, Sep E (blk b (setAll C (o + n * sz) news) :: L) w1 → G ⟨some ⟨b, o, none⟩, n + k, c⟩ w1)
    (k2 : c < n + k → ∀ b' c' w1, n + k ≤ c' → Sep E (blk b' ((C.drop o).take (n * sz) ++ news ++ (Builtin.zeroCells zs.toArray (c' - (n + k))).toList) :: blk b C :: L) w1 → G ⟨some ⟨b', 0, none⟩, n + k, c'⟩ w1) :
    ∃ x1 : Sl, ∃ w1, Sem.run P (Builtin.append_ #[st, xt] ty #[.slice (some ⟨b, o, none⟩) n c, x]) w = .ok (.slice x1.p x1.n x1.c) w1 ∧ G x1 w1 := by
  obtain ⟨e, i, z, ht, hi, hz, hb', hs1, hzs⟩ := slQ_of hq
  subst hb' hs1 hzs
  by_cases hr : n + k ≤ c
  · have hl := hs.newsLen
    have hsz := hroomC hr
    rw [Nat.add_mul] at hsz
    exact ⟨⟨_, _, _⟩, _, run_append_room_src w st xt ty e i ht hi b o n c x k news hs hr (fun j hj => h.isSome (by omega)) (fun j hj => h.warm (by omega)), k1 hr _ (h.setCells _ _)⟩
  · have hr' : c < n + k := by omega
    let olds : List Value := (C.drop o).take (n * i.size)
    have hlo : olds.length = n * i.size := by simp [olds]; omega
    have hold : (Builtin.firstCells i.size n (.slice (some ⟨b, o, none⟩) n c)).run P w.drew = .ok olds.toArray w.drew := by
      refine run_firstCells_some w.drew i.size n ⟨b, o, none⟩ n c olds hlo (fun j v hj => ?_)
      have hjl : j < n * i.size := by
        rcases Nat.lt_or_ge j (n * i.size) with h' | h'
        · exact h'
        · simp [List.getElem?_eq_none (show olds.length ≤ j by omega)] at hj
      rw [add_mk, h.drew.cell]
      rw [← hj]; simp [olds, hjl]
    have hg := run_append_grow_src w st xt ty e i z ht hi hz (some ⟨b, o, none⟩) n c olds hold x k news hs hr' h63 (hfit hr')
    refine ⟨⟨_, _, _⟩, _, hg, ?_⟩
    refine k2 hr' w.heap.size (grownCap w (n + k) c e) _ ?_ ?_
    · show n + k ≤ n + k + _; omega
    · have := h.drew.alloc ((olds ++ news).toArray ++ Builtin.zeroCells z.cells (grownCap w (n + k) c e - (n + k))) e
      simpa [olds] using this

theorem appendNil.i {c : Nat} {x : Value} {k : Nat} {news : List Value} {st xt ty : TypeId} {by_ sz : Nat} {zs : List Value} (h : Sep E L w) (hq : slQ P st = some (by_, sz, zs)) (hs : Src P sz xt x k news w)
    (hc : c < k) (h63 : (k : Int) ≤ 9223372036854775807) (hfit : Builtin.nextslicecap k c * by_ ≤ 281474976710656) {G : Sl → World → Prop}
    (k2 : ∀ b' c' w1, k ≤ c' → Sep E (blk b' (news ++ (Builtin.zeroCells zs.toArray (c' - k)).toList) :: L) w1 → G ⟨some ⟨b', 0, none⟩, k, c'⟩ w1) :
    ∃ x1 : Sl, ∃ w1, Sem.run P (Builtin.append_ #[st, xt] ty #[.slice none 0 c, x]) w = .ok (.slice x1.p x1.n x1.c) w1 ∧ G x1 w1 := by
  obtain ⟨e, i, z, ht, hi, hz, hb', hs1, hzs⟩ := slQ_of hq
  subst hb' hs1 hzs
  have hold : (Builtin.firstCells i.size 0 (.slice none 0 c)).run P w.drew = .ok ([] : List Value).toArray w.drew := run_firstCells_none w.drew i.size 0 0 c
  have hg := run_append_grow_src w st xt ty e i z ht hi hz none 0 c [] hold x k news hs (by omega) (by simpa using h63) (by simpa using hfit)
  refine ⟨⟨_, _, _⟩, _, hg, ?_⟩
  have e0 : 0 + k = k := Nat.zero_add k
  rw [e0]
  refine k2 w.heap.size (grownCap w k c e) _ ?_ ?_
  · show k ≤ k + _; omega
  · have := h.drew.alloc (news.toArray ++ Builtin.zeroCells z.cells (grownCap w k c e - k)) e
    simpa using this

/-- Arrays of bytes, beside each other. -/
def arrB (P : Program) (t : TypeId) (n : Nat) : Bool :=
  match P.underlying t with
  | some (.array m e) => Nat.beq m n && !P.eqGuardType P.depth t && (match P.underlying e with
    | some (.int .u8) => match P.info? e with
      | some i => Nat.beq i.size 1
      | none => false
    | _ => false)
  | _ => false
theorem EqV.bytes {t : TypeId} {n : Nat} (hq : arrB P t n = true) (xs ys : List UInt8) (hx : xs.length = n) (hy : ys.length = n) : EqV P .neq t (.agg (u8s xs).toArray) (.agg (u8s ys).toArray) (!(xs == ys)) := by
  unfold arrB at hq
  split at hq
  · next m e ht =>
    simp only [Bool.and_eq_true, Bool.not_eq_true'] at hq
    obtain ⟨⟨h1, hg⟩, h3⟩ := hq
    have h1 := Nat.eq_of_beq_eq_true h1
    subst h1
    split at h3
    · next he =>
      split at h3
      · next i hi =>
        have hsz : ∀ w, (sizeOf e).run P w = .ok 1 w := fun w => by simp [sizeOf, typeInfo, hi, Nat.eq_of_beq_eq_true h3]
        constructor
        · intro ox oy w; simp [eqGuard, hg]
        · intro w
          have := run_equalIn_bytes w 9998 t e m ht he hsz xs ys hx hy
          simp only [binOp, Op.equal, Op.maxDepth, Sem.run_bind]
          have h2 : (Op.equalIn 10000 t (.agg (u8s xs).toArray) (.agg (u8s ys).toArray)).run P w = .ok (xs == ys) w := this
          rw [h2]; rfl
      · simp at h3
    · simp at h3
  · simp at hq

end
end Go.Sp
