/- A law's row, out of a walk that ends in 'true' and lets all that lay there be. -/
import Derived.Test.YtkjihkmkchcmcaaGreatDoorEff
import Derived.ProofKit
import Derived.OpenVars
namespace Go.Sp
open Go Go.Vc Go.RowKit Go.ChangeShapes

/-- Cells that read as a type's. -/
def Rd (P : Program) (W : World) (t : TypeId) (cs : List Value) : Prop :=
  ∃ (H : Type) (enc : TypeId × Value → H) (fuel : Nat) (x : DataW H × List MemPlace), DataW.trod enc P W 0 (fun _ => true) true fuel t cs = some x

section
variable {P : Program} {W : World} {t : TypeId} {cs : List Value}

theorem Rd.int {k : IntKind} (h : Rd P W t cs) (ht : P.underlying t = some (.int k)) : ∃ n, cs = [.int k n] ∧ (Lit.int k n).wf = true := by
  obtain ⟨H, enc, fuel, x, h⟩ := h
  obtain ⟨n, h1, _, h2⟩ := DataW.trod_int ht h
  exact ⟨n, h1, h2⟩
theorem Rd.bool (h : Rd P W t cs) (ht : P.underlying t = some .bool) : ∃ b, cs = [.bool b] := by
  obtain ⟨H, enc, fuel, x, h⟩ := h
  obtain ⟨n, h1, _⟩ := DataW.trod_bool ht h
  exact ⟨n, h1⟩
theorem Rd.str (h : Rd P W t cs) (ht : P.underlying t = some .string) : ∃ s, cs = [.string s] ∧ s.size ≤ maxLen := by
  obtain ⟨H, enc, fuel, x, h⟩ := h
  obtain ⟨s, h1, _, h2⟩ := DataW.trod_string ht h
  exact ⟨s, h1, h2⟩
theorem Rd.slice {e : TypeId} (h : Rd P W t cs) (ht : P.underlying t = some (.slice e)) : ∃ (p : Option Addr) (n c : Nat), cs = [.slice p n c] ∧ n ≤ c ∧ c ≤ maxLen ∧
    ∀ i, i < n → ∃ a es, p = some a ∧ es.length = P.cellsOf e ∧ (∀ j, j < P.cellsOf e → W.cell? ((a.add (i * P.cellsOf e)).add j) = es[j]?) ∧ Rd P W e es := by
  obtain ⟨H, enc, fuel, x, h⟩ := h
  rcases DataW.trod_slice ht h with ⟨rfl, rfl⟩ | ⟨a, len, cap, elems, rest, n, rfl, rfl, rfl, _, h1, h2, h3, h4, _⟩
  · exact ⟨none, 0, 0, rfl, Nat.le_refl _, Nat.zero_le _, fun i hi => by omega⟩
  · refine ⟨some a, len, cap, rfl, h1, h2, fun i hi => ?_⟩
    have := h4 i hi
    rw [List.getElem?_eq_getElem (by omega)] at this
    obtain ⟨es, he, hr⟩ := Option.bind_eq_some_iff.1 this
    obtain ⟨_, hl, hc⟩ := World.cells?_some he
    exact ⟨a, es, rfl, hl, hc, H, enc, n, _, hr⟩
theorem Rd.struct {fs : Array Field} (h : Rd P W t cs) (ht : P.underlying t = some (.struct fs)) : cs.length = P.cellsOf t ∧
    ∀ (i : Nat) (f : Field), fs[i]? = some f → Rd P W f.type ((cs.drop f.offset).take (P.cellsOf f.type)) := by
  obtain ⟨H, enc, fuel, x, h⟩ := h
  obtain ⟨xs, n, rfl, rfl, hl, hx, hf⟩ := DataW.trod_struct ht h
  refine ⟨hl, fun i f hi => ?_⟩
  have hlt : i < xs.length := by
    rw [hx]
    rcases Nat.lt_or_ge i fs.size with h' | h'
    · exact h'
    · simp [h'] at hi
  have := hf i f hi
  rw [List.getElem?_eq_getElem hlt] at this
  exact ⟨H, enc, n, _, this⟩

/-- A struct whose fields are one cell each: their types. -/
def flatQ (P : Program) (t : TypeId) : Option (List TypeId) :=
  match P.underlying t with
  | some (.struct fs) => match Nat.beq (P.cellsOf t) fs.size && (fs.toList.zipIdx.all fun x => Nat.beq x.1.offset x.2 && Nat.beq (P.cellsOf x.1.type) 1) with
    | true => some (fs.toList.map (·.type))
    | false => none
  | _ => none

theorem Rd.flat {ts : List TypeId} (h : Rd P W t cs) (hq : flatQ P t = some ts) : cs.length = ts.length ∧ ∀ (i : Nat) (u : TypeId), ts[i]? = some u → ∃ v, cs[i]? = some v ∧ Rd P W u [v] := by
  unfold flatQ at hq
  split at hq
  · next fs ht =>
    split at hq
    · next hc =>
      simp only [Option.some.injEq] at hq
      subst hq
      simp only [Bool.and_eq_true, List.all_eq_true] at hc
      obtain ⟨h1, h2⟩ := h.struct ht
      have hl : cs.length = fs.size := h1.trans (Nat.eq_of_beq_eq_true hc.1)
      refine ⟨by simpa using hl, fun i u hu => ?_⟩
      have hi : i < fs.size := by
        rcases Nat.lt_or_ge i fs.size with h' | h'
        · exact h'
        · simp [h'] at hu
      have hx := hc.2 (fs[i], i) (by rw [List.mk_mem_zipIdx_iff_getElem?]; simp [hi])
      have hr := h2 i fs[i] (by simp [hi])
      have e1 := Nat.eq_of_beq_eq_true hx.1
      have e2 := Nat.eq_of_beq_eq_true hx.2
      simp only at e1 e2
      rw [e1, e2] at hr
      have hu' : fs[i].type = u := by simpa [hi] using hu
      rw [hu'] at hr
      have e3 : (cs.drop i).take 1 = [cs[i]] := by
        rw [List.drop_eq_getElem_cons (by omega)]; rfl
      rw [e3] at hr
      exact ⟨cs[i], List.getElem?_eq_getElem (by omega), hr⟩
    · simp at hq
  · simp at hq

theorem Rd.int1 {k : IntKind} {v : Value} (h : Rd P W t [v]) (ht : P.underlying t = some (.int k)) : ∃ n, v = .int k n ∧ (Lit.int k n).wf = true := by
  obtain ⟨n, h1, h2⟩ := h.int ht
  exact ⟨n, by simpa using h1, h2⟩
theorem Rd.u8 {v : Value} (h : Rd P W t [v]) (ht : P.underlying t = some (.int .u8)) : ∃ n : UInt8, v = .int .u8 n.toNat := by
  obtain ⟨n, h1, h2⟩ := h.int1 ht
  have : 0 ≤ n ∧ n ≤ 255 := by simpa [Lit.wf, IntKind.has, IntKind.min, IntKind.max, IntKind.signed, IntKind.bits] using h2
  refine ⟨n.toNat.toUInt8, ?_⟩
  have e : (n.toNat.toUInt8.toNat : Int) = n := by
    show ((n.toNat % 2 ^ 8 : Nat) : Int) = n; omega
  rw [e]; exact h1
theorem Rd.bool1 {v : Value} (h : Rd P W t [v]) (ht : P.underlying t = some .bool) : ∃ b, v = .bool b := by
  obtain ⟨n, h1⟩ := h.bool ht
  exact ⟨n, by simpa using h1⟩
theorem Rd.str1 {v : Value} (h : Rd P W t [v]) (ht : P.underlying t = some .string) : ∃ s, v = .string s ∧ s.size ≤ maxLen := by
  obtain ⟨n, h1, h2⟩ := h.str ht
  exact ⟨n, by simpa using h1, h2⟩
theorem Rd.slice1 {e : TypeId} {v : Value} (h : Rd P W t [v]) (ht : P.underlying t = some (.slice e)) : ∃ (p : Option Addr) (n c : Nat), v = .slice p n c ∧ n ≤ c ∧ c ≤ maxLen ∧
    ∀ i, i < n → ∃ a es, p = some a ∧ es.length = P.cellsOf e ∧ (∀ j, j < P.cellsOf e → W.cell? ((a.add (i * P.cellsOf e)).add j) = es[j]?) ∧ Rd P W e es := by
  obtain ⟨p, n, c, h1, h2⟩ := h.slice ht
  exact ⟨p, n, c, by simpa using h1, h2⟩

/-- One cell, but of a struct or an array. -/
theorem okWide_cells {r : Reach} {base : Nat} {v : Value} (h : Value.okWide P W r base t v) (hp : aggQ P t = some false) : v.cells.toList = [v] := by
  cases v with
  | agg cs =>
    exfalso
    unfold aggQ at hp
    cases hu : P.underlying t with
    | none => simp [hu] at hp
    | some d => cases d <;> simp [Value.okWide, Cell.okWide, Cell.ok, hu] at h hp
  | _ => rfl

end

section
variable {H : Type} {enc : TypeId × Value → H} {P : Program}

theorem trodAll_len : ∀ {ts : List TypeId} {vs : List Value} {ds : List (DataW H)} {ps : List MemPlace} {w : World} {b : Nat} {sp : Nat → Bool} {hd : Bool}, DataW.TrodAll enc P w b sp hd ts vs ds ps → vs.length = ts.length ∧ ds.length = ts.length
  | [], [], [], _, _, _, _, _, _ => ⟨rfl, rfl⟩
  | _ :: _, _ :: _, _ :: _, _, _, _, _, _, ⟨_, _, _, h, _⟩ => by have := trodAll_len h; simp [this]
  | [], _ :: _, _, _, _, _, _, _, h => h.elim
  | [], [], _ :: _, _, _, _, _, _, h => h.elim
  | _ :: _, [], _, _, _, _, _, _, h => h.elim
  | _ :: _, _ :: _, [], _, _, _, _, _, h => h.elim

theorem trodAll_rd : ∀ {ts : List TypeId} {vs : List Value} {ds : List (DataW H)} {ps : List MemPlace} {w : World}, DataW.TrodAll enc P w 0 (fun _ => true) true ts vs ds ps →
    ∀ (j : Nat) t v, ts[j]? = some t → vs[j]? = some v → Rd P w t v.cells.toList
  | [], [], [], _, _, _, j, _, _, h, _ => by simp at h
  | _ :: _, _ :: _, _ :: _, _, _, ⟨_, _, ⟨fuel, h1⟩, h2, _⟩, 0, _, _, ht, hv => by
    simp only [List.getElem?_cons_zero, Option.some.injEq] at ht hv
    subst ht hv
    exact ⟨H, enc, fuel, _, h1⟩
  | _ :: _, _ :: _, _ :: _, _, _, ⟨_, _, _, h2, _⟩, j + 1, t, v, ht, hv => trodAll_rd h2 j t v (by simpa using ht) (by simpa using hv)
  | [], _ :: _, _, _, _, h, _, _, _, _, _ => h.elim
  | [], [], _ :: _, _, _, h, _, _, _, _, _ => h.elim
  | _ :: _, [], _, _, _, h, _, _, _, _, _ => h.elim
  | _ :: _, _ :: _, [], _, _, h, _, _, _, _, _ => h.elim

theorem trodAll_stays (hl : laidOutB P = true) {W W' : World} (hb : Below W.heap.size W W') : ∀ {ts : List TypeId} {vs : List Value} {ds : List (DataW H)} {ps : List MemPlace}, (ts.all fun t => P.readableRec t && Nat.blt t P.types.size) = true →
    (∀ x ∈ ps, x.block < W.heap.size) → DataW.TrodAll enc P W 0 (fun _ => true) true ts vs ds ps → DataW.TrodAll enc P W' 0 (fun b => decide (b < W.heap.size)) true ts vs ds ps
  | [], [], [], _, _, _, h => h
  | t :: ts, _ :: _, _ :: _, _, hr, hlt, ⟨p, q, h1, h2, h3⟩ => by
    subst h3
    simp only [List.all_cons, Bool.and_eq_true] at hr
    exact ⟨p, q, Below.trod hl hr.1.1 (by simpa using hr.1.2) h1 hb (fun x hx => hlt x (by simp [hx])), trodAll_stays hl hb hr.2 (fun x hx => hlt x (by simp [hx])) h2, rfl⟩
  | [], _ :: _, _, _, _, _, h => h.elim
  | [], [], _ :: _, _, _, _, h => h.elim
  | _ :: _, [], _, _, _, _, h => h.elim
  | _ :: _, _ :: _, [], _, _, _, h => h.elim

theorem law_post (hl : laidOutB P = true) {f : Func} {s : ChangeSpec} {apart fresh handsOn : Bool} {W W' : World} {args : Array Value} {ds gs : List (DataW H)} {before : List MemPlace} {tb : TypeId}
    (hread : (f.params.toList.all fun t => P.readableRec t && Nat.blt t P.types.size) = true) (hvars : varsRowed P s.vars = true) (hres : f.resultTypes.toList = [tb]) (htb : P.underlying tb = some .bool)
    (hspec : ds.length = f.params.size → gs.length = s.vars.length → s.fn H (ds ++ gs) = { results := [.lit (.bool true)], args := ds, vars := gs })
    (hW : DataW.Whole enc P f.params.toList s.vars apart W args.toList ds gs before) (hb : Below W.heap.size W W') : s.post enc P f apart fresh handsOn false W args (.bool true) W' := by
  have hW' := hW
  obtain ⟨p, q, hA, hV, rfl, hfz, hnd⟩ := hW
  have hlt : ∀ x ∈ p ++ q, x.block < W.heap.size := fun x hx => hW'.lt x hx
  have hlen := trodAll_len hA
  have hgl : gs.length = s.vars.length := by
    have go : ∀ {ns : List String} {gs : List (DataW H)} {ps : List MemPlace}, DataW.TrodVars enc P W (fun _ => true) ns gs ps → gs.length = ns.length := by
      intro ns
      induction ns with
      | nil => intro gs ps h; cases gs with
        | nil => rfl
        | cons _ _ => exact h.elim
      | cons n ns ih => intro gs ps h; cases gs with
        | nil => exact h.elim
        | cons g gs =>
          obtain ⟨_, _, _, _, _, _, _, _, _, _, h, _⟩ := h
          simp [ih h]
    exact go hV
  have hsp := hspec (by simpa using hlen.2) hgl
  refine ⟨ds, gs, p ++ q, [], p, q, hW', ?_, ?_, ?_, hb.frame _, fun h => by cases h⟩
  · rw [hsp, hres]
    have : f.resultTypes.size = 1 := by rw [← Array.length_toList, hres]; rfl
    rw [this]
    refine ⟨[], [], ⟨1, ?_⟩, rfl, rfl⟩
    unfold DataW.trod; rw [htb]; rfl
  · rw [hsp]; exact trodAll_stays hl hb hread (fun x hx => hlt x (by simp [hx])) hA
  · rw [hsp]; exact Below.trodVars hl hb hvars hV


theorem Sep.start (W : World) : Sep (World.env W) [old W.heap] W :=
  ⟨rfl, fun x => x < W.heap.size, ⟨fun _ _ => rfl, fun _ => Iff.rfl⟩, fun _ hb => ⟨hb, id⟩, trivial⟩

theorem Sep.below {L : List Asn} {W W' : World} {i : Nat} (h : Sep (World.env W) L W') (hi : L[i]? = some (old W.heap)) : Below W.heap.size W W' := by
  have h := h.fr i hi
  obtain ⟨he, F, ⟨h1, h2⟩, h3, _⟩ := h
  have e := he
  simp only [World.env, Env.mk.injEq] at e
  refine ⟨e.1, e.2.1, e.2.2, ?_, h1⟩
  rcases Nat.eq_zero_or_pos W.heap.size with h0 | h0
  · omega
  · have := (h3 (W.heap.size - 1) ((h2 _).2 (by omega))).1; omega

/-- What lay there reads as it did. -/
theorem Sep.oldCell {E : Env} {L : List Asn} {w : World} {W : World} {i : Nat} (h : Sep E L w) (hi : L[i]? = some (old W.heap)) {a : Addr} {v : Value} (hc : W.cell? a = some v) : w.cell? a = some v := by
  have h := h.fr i hi
  have hb : a.block < W.heap.size := by
    rcases Nat.lt_or_ge a.block W.heap.size with h' | h'
    · exact h'
    · simp [World.cell?, Array.getElem?_eq_none h'] at hc
  have := h.oldBlock a.block hb
  unfold World.cell? at hc ⊢
  rw [this]; exact hc

theorem law_lifted {C : Checked} {os : Os} {f : FuncId} {fn : Func} {s : ChangeSpec} {conds : List PathCond} {apart fresh handsOn : Bool} {tb : TypeId}
    (own : ownKnob C.prog.godebug = none) (started : os.Started) (noInit : C.prog.inits.idxOf? f = none) (hfn : C.prog.funcs[f]? = some fn)
    (witness : ∃ (w : World) (tape : Tape) (i : Input), w.os = os ∧ (w.forCall tape i).Shaped C.prog ∧ i.vars = [] ∧ Input.okWide C.prog (w.forCall tape i) .any w.heap.size f i ∧
      s.pre6 enc C.prog fn conds apart (w.forCall tape i).memory i.args ∧ Assume.holds {} C.prog (lone (Frame.enter C.prog f i.args .normal) [] (w.forCall tape i)))
    (hl : laidOutB C.prog = true) (hread : (fn.params.toList.all fun t => C.prog.readableRec t && Nat.blt t C.prog.types.size) = true) (hvars : varsRowed C.prog s.vars = true) (hres : fn.resultTypes.toList = [tb]) (htb : C.prog.underlying tb = some .bool)
    (hspec : ∀ ds gs : List (DataW H), ds.length = fn.params.size → gs.length = s.vars.length → s.fn H (ds ++ gs) = { results := [.lit (.bool true)], args := ds, vars := gs })
    (contract : ∀ (W : World) (base : Nat) (args : Array Value), args.size = fn.params.size → (∀ (j : Nat) t v, fn.params[j]? = some t → args[j]? = some v → Rd C.prog W t v.cells.toList ∧ Value.okWide C.prog W .any base t v) →
      Calls C.prog f args W (Ret fun v W' => v = .bool true ∧ Below W.heap.size W W')) :
    ReturnsInHanded {} C os f .any (s.pre6 enc C.prog fn conds apart) (s.post enc C.prog fn apart fresh handsOn false) := by
  refine returnsInHanded_of_change (C := C) own started noInit hfn witness ?_
  intro W base args ds gs before hval hW _ _
  obtain ⟨p, q, hA, hV, hpq, hfz, hnd⟩ := id hW
  refine (contract W base args (by have := (trodAll_len hA).1; simpa using this) (fun j t v ht hv => ⟨trodAll_rd hA j t v (by simpa using ht) (by simpa using hv), hval j t v ht hv⟩)).mono fun e W' ⟨v, he, hv, hb⟩ => ?_
  subst hv
  exact ⟨_, he, law_post hl hread hvars hres htb (hspec ds gs) hW hb⟩

end
end Go.Sp
