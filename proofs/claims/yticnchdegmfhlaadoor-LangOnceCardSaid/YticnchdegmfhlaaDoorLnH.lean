/- Operations are printed, parsed and held side by side. -/
import Derived.Test.YticnchdegmfhlaaDoorLnG
set_option maxRecDepth 100000
namespace Go.Mp
open Go Go.Vc Go.Sp Go.Proofs Go.Ct Go.Lg

variable {E : Env} {L : List Asn} {w W : World}

/-- A row of operations that can be read. -/
structure Ops (w : World) (s : Sl) (l : List Lg.Op) : Prop where
  n : s.n = l.length
  rd : ∀ (i : Nat) o, l[i]? = some o → ∃ a, s.p = some a ∧ ∀ (j : Nat) v, o.vs[j]? = some v → w.cell? ((a.add (i * 5)).add j) = some v
theorem Ops.grow {s : Sl} {l : List Lg.Op} (h : Ops W s l) (g : Grow W w) : Ops w s l := ⟨h.n, fun i x hx => let ⟨a, h1, h2⟩ := h.rd i x hx; ⟨a, h1, fun j v hv => g.cell (h2 j v hv)⟩⟩
theorem Ops.at_ {s : Sl} {l : List Lg.Op} {i : Int} {f : Addr → Prop} (h : Ops w s l) (k : Nat) (hi : i = k) {o : Lg.Op} (hx : l[k]? = some o) (kk : ∀ a, (∀ (j : Nat) v, o.vs[j]? = some v → w.cell? (a.add j) = some v) → f a) : elAt s.p s.n i 5 f := by
  have hlt := (List.getElem?_eq_some_iff.1 hx).1
  obtain ⟨a, hp, ha⟩ := h.rd k o hx
  have := h.n
  refine ⟨a, hp, ⟨by omega, by omega⟩, kk _ (fun j v hv => ?_)⟩
  have e : i.toNat = k := by omega
  rw [e]; exact ha j v hv

theorem vs5 (o : Lg.Op) : o.vs.length = 5 := rfl
theorem slOp : slQ P 22 = some (40, 5, [.int .i64 0, .int .i64 0, .int .i64 0, .int .i64 0, .int .i64 0]) := by kernel_rfl
theorem op_push {s : Sl} {q : Nat} {l : List Lg.Op} {x : Lg.Op} (hn : s.n = l.length) (hb : l.length < 100000000) (h : Sep E (blk q x.vs :: rowA s 5 (recs Lg.Op.vs l) :: L) w) {G : Sl → World → Prop}
    (g : ∀ s' w1, s'.n = (l ++ [x]).length → Sep E (rowA s' 5 (recs Lg.Op.vs (l ++ [x])) :: L) w1 → G s' w1) :
    ∃ x1 : Sl, ∃ w1, Sem.run P (Builtin.append_ #[22, 22] 22 #[.slice s.p s.n s.c, .slice (some ⟨q, 0, none⟩) 1 1]) w = .ok (.slice x1.p x1.n x1.c) w1 ∧ G x1 w1 := by
  have hs := Src.blk (n := 1) (c := 1) h (i := 0) rfl slOp rfl (fun u hu => by
    simp [Lg.Op.vs] at hu; rcases hu with rfl | rfl | rfl | rfl | rfl <;> rfl)
  refine rowA.append h.swap slOp rfl hs (by omega) (by rw [hn]; omega) (fun s' w1 hs' h1 => g s' w1 (by rw [hs', hn]; simp) ?_)
  rw [recs_append, recs_one]
  exact (h1.fr 0 rfl).ro 2 [0] rfl
theorem Ops.row {s : Sl} {l : List Lg.Op} {q : Nat} (h : Sep E L w) (hq : L[q]? = some (rowA s 5 (recs Lg.Op.vs l))) (hn : s.n = l.length) : Ops w s l := by
  refine ⟨hn, fun i o ho => ?_⟩
  have hlt := (List.getElem?_eq_some_iff.1 ho).1
  have h1 := h.fr q hq
  obtain ⟨b, spare, hp, g1, g2, g3, h2⟩ := rowA.get_ h1 (by omega)
  refine ⟨_, hp, fun j v hv => ?_⟩
  have hj : j < 5 := by have := (List.getElem?_eq_some_iff.1 hv).1; rwa [vs5] at this
  rw [add_mk, add_mk, Nat.zero_add, rowA.cell h2 ?_, recs_at vs5 ho j hj]
  · exact hv
  · rw [recs_length vs5]
    have : (i + 1) * 5 ≤ l.length * 5 := Nat.mul_le_mul_right _ hlt
    omega

theorem op_inj {a b : Lg.Op} (h : a.v = b.v) : a = b := by
  cases a; cases b
  simp [Lg.Op.v] at h
  simp [h]
theorem op_vt (o : Lg.Op) : Typed P 25 [.int .i64, .int .i64, .int .i64, .int .i64, .int .i64] o.v := op_typed _ _ _ _ _

theorem Dr.g {f : World → Prop} (k : ∀ w1, Grow w w1 → f w1) : Dr f w := k _ (Grow.drew w)
theorem c_same {a b : Sl} {xs ys : List Lg.Op} (hx : Ops W a xs) (hy : Ops W b ys) (hb : xs.length < 4611686018427387904) (h : Sep E L W) :
    Calls P fn_millpondlaw21_same #[.slice a.p a.n a.c, .slice b.p b.n b.c] W (Ret fun v w' => (∃ r : Bool, v = .bool r ∧ (r = true ↔ xs = ys)) ∧ Grow W w' ∧ Sep E L w') := by
  apply of_millpondlaw21_same
  unfold sh_millpondlaw21_same
  have hxn := hx.n
  have hyn := hy.n
  refine bNe (fun hne => ⟨⟨false, rfl, ⟨fun hh => (by cases hh), fun e => by subst e; omega⟩⟩, Grow.refl _, h⟩) (fun heq => ?_)
  refine ⟨fun i w' => ∃ k : Nat, i = k ∧ k ≤ xs.length ∧ (∀ j, j < k → xs[j]? = ys[j]?) ∧ Grow W w', fun i _ => (xs.length - i).toNat, ⟨0, rfl, Nat.zero_le _, fun j hj => by omega, Grow.refl _⟩, ?_⟩
  rintro _ i w1 ⟨k, rfl, hk, hall, g1⟩
  refine bLt (fun hlt => ?_) (fun hge => ?_)
  · refine Dr.g (fun w2 g2 => ?_)
    have g := g1.trans g2
    obtain ⟨x, hx'⟩ : ∃ x, xs[k]? = some x := ⟨_, List.getElem?_eq_getElem (by omega)⟩
    obtain ⟨y, hy'⟩ : ∃ x, ys[k]? = some x := ⟨_, List.getElem?_eq_getElem (by omega)⟩
    refine (hx.grow g).at_ k rfl hx' (fun p hp => ?_)
    refine ⟨_, hp 0 _ rfl, _, hp 1 _ rfl, _, hp 2 _ rfl, _, hp 3 _ rfl, _, hp 4 _ rfl, ?_⟩
    refine (hy.grow g).at_ k rfl hy' (fun p hp => ?_)
    refine ⟨_, hp 0 _ rfl, _, hp 1 _ rfl, _, hp 2 _ rfl, _, hp 3 _ rfl, _, hp 4 _ rfl, ?_⟩
    obtain ⟨q, hq1, hq2⟩ := op_neq x.v y.v (op_vt x) (op_vt y)
    refine ⟨q, hq1, bifI (fun hq => ?_) (fun hq => ?_)⟩
    · refine ⟨⟨_, rfl, ⟨fun hh => (by cases hh), fun e => ?_⟩⟩, g, h.grow g⟩
      subst e
      rw [hx'] at hy'
      have := hq2.2 (by rw [Option.some.inj hy'])
      rw [this] at hq; cases hq
    · have e := op_inj (hq2.1 hq)
      rw [wrapS (by omega)]
      refine ⟨⟨k + 1, rfl, by omega, fun j hj => ?_, g⟩, by dsimp only; omega⟩
      by_cases hjk : j = k
      · subst hjk; rw [hx', hy', e]
      · exact hall j (by omega)
  · refine ⟨⟨_, rfl, ⟨fun _ => ?_, fun _ => rfl⟩⟩, g1, h.grow g1⟩
    apply List.ext_getElem?
    intro j
    by_cases hj : j < xs.length
    · exact hall j (by omega)
    · rw [List.getElem?_eq_none (by omega), List.getElem?_eq_none (by omega)]

/-! ### Print -/

theorem Al.bld {H : Array Obj} {i : Nat} {f : Addr → World → Prop} (h : Sep E L w) (hi : L[i]? = some (old H)) (k : ∀ b w1, Sep E (bld H.size b [] :: L) w1 → f ⟨b, 0, none⟩ w1) : Al (.cells #[.pointer none, .slice none 0 0] 44) f w := k _ _ (bld.new h hi)

theorem ok_len {o : Lg.Op} (h : Lg.Ok o) : (text o).length ≤ 160 := text_len h.kd h.v
theorem printT_len : ∀ {l : List Lg.Op}, (∀ o ∈ l, Lg.Ok o) → (printT l).length ≤ l.length * 161
  | [], _ => by simp [printT_nil]
  | o :: l, h => by
    have h1 := ok_len (h o (by simp))
    have h2 := printT_len (l := l) (fun p hp => h p (by simp [hp]))
    rw [printT_cons, List.length_append, List.length_cons]
    show _ ≤ (l.length + 1) * 161
    omega

def PrintEnd (l : List Lg.Op) (v : Value) : Prop := v = .tuple #[.string (mk ((printO l).getD [])), .int .i64 (if (printO l).isSome then 0 else 1)]

theorem no5 : ∀ c fz, (Obj.cells #[Value.bool false] 4) ≠ .cells c (Tryd.bwL_ren.t 5) fz := by
  intro c fz h
  have : (4 : TypeId) = Tryd.bwL_ren.t 5 := by injection h
  exact absurd this (by decide)

theorem c_Print {s : Sl} {l : List Lg.Op} (hO : Ops W s l) (hI : ∀ o ∈ l, Lg.Op.I o) (lib : Libs W) (h : Sep E L W) :
    Calls P fn_lang_Print #[.slice s.p s.n s.c] W (Ret fun v w' => PrintEnd l v ∧ Grow W w' ∧ Sep E L w') := by
  apply of_lang_Print
  unfold sh_lang_Print
  have hsn := hO.n
  have fin : ∀ {w' : World} {L' : List Asn} {i : Nat}, Sep (World.env W) L' w' → L'[i]? = some (old W.heap) → Grow W w' := fun hh hi => grow_old rfl hh hi
  refine Al.i (Sep.start W) (fun p1 w1 h1 => ?_)
  refine Al.bld h1 (i := 1) rfl (fun p3 w2 h2 => ?_)
  have h2 : Sep (World.env W) [bld W.heap.size p3 [], blk p1 [.slice s.p s.n s.c], old W.heap] w2 := h2
  have hcall := c_caughtO h2 (G := fn_lang_Print_1) (caps := #[.pointer (some ⟨p1, 0, none⟩), .pointer (some ⟨p3, 0, none⟩)])
    (R := fun v w' => (v = .bool true ∧ (∀ o ∈ l, Lg.Ok o) ∧ l.length ≤ 1000 ∧ Sep (World.env W) [bld W.heap.size p3 (printT l), old W.heap] w') ∨ (v = .bool false ∧ ((∃ o ∈ l, ¬ Lg.Ok o) ∨ 1000 < l.length) ∧ Sep (World.env W) [old W.heap] w'))
    (enters_of Go.Proofs.Tryd.func18 (by kernel_rfl) rfl _) (by
      intro b w3 h3
      apply of_lang_Print_1
      unfold sh_lang_Print_1
      refine ⟨s, h3.cellAt 2 rfl 0, ?_⟩
      refine mustI (fun hc => ?_) (fun hc => ⟨rfl, [old W.heap], h3.ro 4 [0, 3] rfl, fun w6 h6 => .inr ⟨rfl, .inr ?_, h6⟩⟩)
      · have hc := of_decide_eq_true hc
        refine ⟨s, h3.cellAt 2 rfl 0, ?_⟩
        refine ⟨fun x w' => ∃ j : Nat, x = j ∧ j ≤ l.length ∧ (∀ o ∈ l.take j, Lg.Ok o) ∧ Sep (World.env W) [bld W.heap.size p3 (printT (l.take j)), objB b (.cells #[.bool false] 4), old W.heap] w', fun x _ => (l.length - x).toNat,
          ⟨0, rfl, Nat.zero_le _, by simp, h3.ro 4 [1, 0, 3] rfl⟩, ?_⟩
        rintro _ x w4 ⟨j, rfl, hj, hok, h4⟩
        refine bLt (fun hlt => ?_) (fun hge => ?_)
        · obtain ⟨o, ho⟩ : ∃ o, l[j]? = some o := ⟨_, List.getElem?_eq_getElem (by omega)⟩
          have hoI := hI o (List.mem_of_getElem? ho)
          refine (hO.grow (fin (i := 2) h4 rfl)).at_ j rfl ho (fun p hp => ?_)
          refine ⟨_, hp 0 _ rfl, _, hp 1 _ rfl, _, hp 2 _ rfl, _, hp 3 _ rfl, _, hp 4 _ rfl, ?_⟩
          refine Al.i h4 (fun p17 w5 h5 => ?_)
          refine zst _ h5 rfl (fun w6 h6 => ?_)
          refine ⟨_, h6.cell 0, _, h6.cell 1, _, h6.cell 2, _, h6.cell 3, _, h6.cell 4, ?_⟩
          refine useP (c_line hoI (lib.old (i := 3) rfl h6) h6) ?_ ?_
          · rintro _ w7 ⟨hoo, rfl, _, h7⟩
            have h8 : Sep (World.env W) [bld W.heap.size p3 (printT (l.take j)), objB b (.cells #[.bool false] 4), old W.heap] w7 := h7.ro 4 [1, 2, 3] rfl
            have ht := ok_len hoo
            have hpl := printT_len hok
            have htl : (l.take j).length ≤ 1000 := by rw [List.length_take]; omega
            have s10 : (ByteArray.mk #[10]).size = 1 := rfl
            refine .inl ⟨_, rfl, by rw [mk_size, s10]; omega, ?_⟩
            refine use (c_WS _ no5 (by rw [ByteArray.size_append, mk_size, s10]; omega) h8) ?_
            rintro _ w9 ⟨rfl, h9⟩
            have e : printT (l.take j) ++ bs (mk (text o) ++ ByteArray.mk #[10]) = printT (l.take (j + 1)) := by
              rw [take_succ ho, printT_append, printT_one, bs_append, bs_mk]
            rw [e] at h9
            refine ⟨_, _, rfl, ⟨j + 1, wrapS (by omega), by omega, fun q hq => ?_, h9⟩, by rw [wrapS (by omega)]; dsimp only; omega⟩
            rw [take_succ ho] at hq
            rcases List.mem_append.1 hq with hq | hq
            · exact hok q hq
            · rw [List.mem_singleton.1 hq]; exact hoo
          · rintro ch w7 ⟨hoo, rfl, _, h7⟩
            exact .inr ⟨_, rfl, rfl, [old W.heap], h7.ro 4 [2, 3] rfl, fun w8 h8 => .inr ⟨rfl, .inl ⟨o, List.mem_of_getElem? ho, hoo⟩, h8⟩⟩
        · have e : j = l.length := by omega
          subst e
          rw [List.take_length] at h4 hok
          exact ⟨rfl, [bld W.heap.size p3 (printT l), old W.heap], h4.swap, fun w5 h5 => .inl ⟨rfl, hok, by omega, h5⟩⟩
      · have := of_decide_eq_false hc
        omega)
  refine use hcall ?_
  rintro _ w3 (⟨rfl, hok, hl, h3⟩ | ⟨rfl, hno, h3⟩)
  · refine ⟨_, rfl, bF rfl ?_⟩
    refine use (c_BS h3) ?_
    rintro _ w4 ⟨rfl, h4⟩
    have g := fin (i := 0) h4 rfl
    refine ⟨_, rfl, ?_, g, h.grow g⟩
    unfold PrintEnd; rw [printO_some hok hl]; rfl
  · have g := fin (i := 0) h3 rfl
    refine ⟨_, rfl, bT rfl ⟨?_, g, h.grow g⟩⟩
    unfold PrintEnd; rw [printO_none hno]; rfl

end Go.Mp
