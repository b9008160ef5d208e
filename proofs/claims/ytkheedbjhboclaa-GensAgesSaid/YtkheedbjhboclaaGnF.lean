/- Whatever ids are added, dropped, touched, aged and moved in generations, each of the laws of gens answers true and lets its arguments be; for every input. -/
import Derived.Test.YtkheedbjhboclaaGnM
import Derived.Test.YtkheedbjhboclaaRows
set_option maxRecDepth 100000
namespace Go.Proofs.Ytkheedbjhboclaa
open Go Go.Vc Go.Sp Go.Mp

theorem own : ownKnob P.godebug = none := by kernel_rfl
theorem laidOut : laidOutB P = true := by kernel_rfl

theorem args2 {α : Type} {a : Array α} (h : a.size = 2) : ∃ x0 x1, a = #[x0, x1] := by
  obtain ⟨l⟩ := a
  match l, h with
  | [x0, x1], _ => exact ⟨x0, x1, rfl⟩

theorem args3 {α : Type} {a : Array α} (h : a.size = 3) : ∃ x0 x1 x2, a = #[x0, x1, x2] := by
  obtain ⟨l⟩ := a
  match l, h with
  | [x0, x1, x2], _ => exact ⟨x0, x1, x2, rfl⟩

theorem args4 {α : Type} {a : Array α} (h : a.size = 4) : ∃ x0 x1 x2 x3, a = #[x0, x1, x2, x3] := by
  obtain ⟨l⟩ := a
  match l, h with
  | [x0, x1, x2, x3], _ => exact ⟨x0, x1, x2, x3, rfl⟩

theorem int_arg {W : World} {t : TypeId} {base : Nat} {v : Value} (ht : P.underlying t = some (.int .i64)) (ha : aggQ P t = some false) (h : Rd P W t v.cells.toList ∧ Value.okWide P W .any base t v) : ∃ n, v = .int .i64 n := by
  obtain ⟨h1, h2⟩ := h
  rw [okWide_cells h2 ha] at h1
  obtain ⟨n, h3, _⟩ := h1.int1 ht
  exact ⟨n, h3⟩
theorem bool_arg {W : World} {t : TypeId} {base : Nat} {v : Value} (ht : P.underlying t = some .bool) (ha : aggQ P t = some false) (h : Rd P W t v.cells.toList ∧ Value.okWide P W .any base t v) : ∃ n, v = .bool n := by
  obtain ⟨h1, h2⟩ := h
  rw [okWide_cells h2 ha] at h1
  exact h1.bool1 ht
theorem u8_arg {W : World} {t : TypeId} {base : Nat} {v : Value} (ht : P.underlying t = some (.int .u8)) (ha : aggQ P t = some false) (h : Rd P W t v.cells.toList ∧ Value.okWide P W .any base t v) : ∃ n : UInt8, v = .int .u8 n.toNat := by
  obtain ⟨h1, h2⟩ := h
  rw [okWide_cells h2 ha] at h1
  exact h1.u8 ht
theorem str_arg {W : World} {t : TypeId} {base : Nat} {v : Value} (ht : P.underlying t = some .string) (ha : aggQ P t = some false) (h : Rd P W t v.cells.toList ∧ Value.okWide P W .any base t v) : ∃ s : ByteArray, v = .string s := by
  obtain ⟨h1, h2⟩ := h
  rw [okWide_cells h2 ha] at h1
  obtain ⟨n, h3, _⟩ := h1.str1 ht
  exact ⟨n, h3⟩
theorem row_arg {W : World} {t : TypeId} {base : Nat} {v : Value} (ha : aggQ P t = some false) (h : Rd P W t v.cells.toList ∧ Value.okWide P W .any base t v) : Rd P W t [v] := by
  obtain ⟨h1, h2⟩ := h
  rw [okWide_cells h2 ha] at h1
  exact h1
/-- A struct of some cells. -/
theorem agg_arg {v : Value} {x y : Value} {l : List Value} (h : v.cells.toList = x :: y :: l) : v = .agg (x :: y :: l).toArray := by
  cases v <;> simp [Value.cells] at h
  rename_i cs
  obtain ⟨cs⟩ := cs
  simp only at h
  rw [h]

theorem acts_arg {W : World} {base : Nat} {v : Value} (h : Rd P W ty_sl_millpondlaw12_Act v.cells.toList ∧ Value.okWide P W .any base ty_sl_millpondlaw12_Act v) : ∃ l : Sl, v = .slice l.p l.n l.c ∧ ActsAt W l.p l.n := acts_rd (row_arg (by kernel_rfl) h)
theorem ints_arg {W : World} {base : Nat} {v : Value} (h : Rd P W ty_sl_int v.cells.toList ∧ Value.okWide P W .any base ty_sl_int v) : ∃ (l : Sl) (gs : List Int), v = .slice l.p l.n l.c ∧ IntsO W l gs := ints_rd (row_arg (by kernel_rfl) h)
theorem bools_arg {W : World} {base : Nat} {v : Value} (h : Rd P W ty_sl_bool v.cells.toList ∧ Value.okWide P W .any base ty_sl_bool v) : ∃ l : Sl, v = .slice l.p l.n l.c ∧ BoolsO W l := bools_rd (row_arg (by kernel_rfl) h)

theorem gensOld_lifted (os : Os) (started : os.Started) (H : Type) (enc : TypeId × Value → H) :
    ReturnsInHanded {} Chk os fn_millpondlaw12_GensOld .any (Rows.gensOldSpec.pre6 enc P F_millpondlaw12_GensOld Rows.gensOldRow.domain false) (Rows.gensOldSpec.post enc P F_millpondlaw12_GensOld false true false false) := by
  refine law_lifted (C := Chk) (tb := ty_bool) own started (by kernel_rfl) func_millpondlaw12_GensOld
    (ChangeSpec.witness6 (enc := enc) (C := Chk) false ⟨#[], #[.slice none 0 0, .slice none 0 0], []⟩ 8 (by kernel_rfl) (by kernel_rfl) (by kernel_rfl) (by kernel_rfl))
    laidOut (by kernel_rfl) (by kernel_rfl) rfl (by kernel_rfl) ?_ ?_
  · intro ds gs hd hg
    match ds, gs, hd, hg with
    | [d0, d1], [], _, _ => rfl
  · intro W base args hsz hargs
    obtain ⟨x0, x1, rfl⟩ := args2 hsz
    have a0 := hargs 0 _ _ rfl rfl
    have a1 := hargs 1 _ _ rfl rfl
    obtain ⟨q, qs, rfl, hq⟩ := ints_arg a0
    obtain ⟨bs, rfl, hbs⟩ := bools_arg a1
    refine use (law_GensOld q qs bs hq hbs) ?_
    rintro v w' ⟨rfl, L, i, hi, h⟩
    exact ⟨_, rfl, rfl, h.below hi⟩

theorem gensOld_holds : Rows.GensOldSaid :=
  OpenClaim.holds_of_wide fn_millpondlaw12_GensOld F_millpondlaw12_GensOld rfl rfl rfl rfl rfl rfl rfl ⟨rfl, rfl, rfl, rfl, rfl⟩ rfl rfl rfl rfl rfl (by kernel_rfl) func_millpondlaw12_GensOld (by kernel_rfl)
    (of_decide_eq_true (by kernel_rfl)) (by unfold Func.isWrapper; rw [if_neg (by decide +kernel)]; exact ⟨rfl, rfl⟩)
    (fun os started H enc _ => gensOld_lifted os started H enc)

theorem gensOrder_lifted (os : Os) (started : os.Started) (H : Type) (enc : TypeId × Value → H) :
    ReturnsInHanded {} Chk os fn_millpondlaw12_GensOrder .any (Rows.gensOrderSpec.pre6 enc P F_millpondlaw12_GensOrder Rows.gensOrderRow.domain false) (Rows.gensOrderSpec.post enc P F_millpondlaw12_GensOrder false true false false) := by
  refine law_lifted (C := Chk) (tb := ty_bool) own started (by kernel_rfl) func_millpondlaw12_GensOrder
    (ChangeSpec.witness6 (enc := enc) (C := Chk) false ⟨#[], #[.slice none 0 0, .slice none 0 0, .int .i64 0], []⟩ 8 (by kernel_rfl) (by kernel_rfl) (by kernel_rfl) (by kernel_rfl))
    laidOut (by kernel_rfl) (by kernel_rfl) rfl (by kernel_rfl) ?_ ?_
  · intro ds gs hd hg
    match ds, gs, hd, hg with
    | [d0, d1, d2], [], _, _ => rfl
  · intro W base args hsz hargs
    obtain ⟨x0, x1, x2, rfl⟩ := args3 hsz
    have a0 := hargs 0 _ _ rfl rfl
    have a1 := hargs 1 _ _ rfl rfl
    have a2 := hargs 2 _ _ rfl rfl
    obtain ⟨l, rfl, hl⟩ := acts_arg a0
    obtain ⟨q, qs, rfl, hq⟩ := ints_arg a1
    obtain ⟨id1, rfl⟩ := int_arg (t := ty_int) (by kernel_rfl) (by kernel_rfl) a2
    refine use (law_GensOrder l q qs id1 hl hq) ?_
    rintro v w' ⟨rfl, L, i, hi, h⟩
    exact ⟨_, rfl, rfl, h.below hi⟩

theorem gensOrder_holds : Rows.GensOrderSaid :=
  OpenClaim.holds_of_wide fn_millpondlaw12_GensOrder F_millpondlaw12_GensOrder rfl rfl rfl rfl rfl rfl rfl ⟨rfl, rfl, rfl, rfl, rfl⟩ rfl rfl rfl rfl rfl (by kernel_rfl) func_millpondlaw12_GensOrder (by kernel_rfl)
    (of_decide_eq_true (by kernel_rfl)) (by unfold Func.isWrapper; rw [if_neg (by decide +kernel)]; exact ⟨rfl, rfl⟩)
    (fun os started H enc _ => gensOrder_lifted os started H enc)

theorem gensAges_lifted (os : Os) (started : os.Started) (H : Type) (enc : TypeId × Value → H) :
    ReturnsInHanded {} Chk os fn_millpondlaw12_GensAges .any (Rows.gensAgesSpec.pre6 enc P F_millpondlaw12_GensAges Rows.gensAgesRow.domain false) (Rows.gensAgesSpec.post enc P F_millpondlaw12_GensAges false true false false) := by
  refine law_lifted (C := Chk) (tb := ty_bool) own started (by kernel_rfl) func_millpondlaw12_GensAges
    (ChangeSpec.witness6 (enc := enc) (C := Chk) false ⟨#[], #[.slice none 0 0, .int .i64 0, .int .i64 0, .int .i64 0], []⟩ 8 (by kernel_rfl) (by kernel_rfl) (by kernel_rfl) (by kernel_rfl))
    laidOut (by kernel_rfl) (by kernel_rfl) rfl (by kernel_rfl) ?_ ?_
  · intro ds gs hd hg
    match ds, gs, hd, hg with
    | [d0, d1, d2, d3], [], _, _ => rfl
  · intro W base args hsz hargs
    obtain ⟨x0, x1, x2, x3, rfl⟩ := args4 hsz
    have a0 := hargs 0 _ _ rfl rfl
    have a1 := hargs 1 _ _ rfl rfl
    have a2 := hargs 2 _ _ rfl rfl
    have a3 := hargs 3 _ _ rfl rfl
    obtain ⟨l, rfl, hl⟩ := acts_arg a0
    obtain ⟨g, rfl⟩ := int_arg (t := ty_int) (by kernel_rfl) (by kernel_rfl) a1
    obtain ⟨o, rfl⟩ := int_arg (t := ty_int) (by kernel_rfl) (by kernel_rfl) a2
    obtain ⟨id1, rfl⟩ := int_arg (t := ty_int) (by kernel_rfl) (by kernel_rfl) a3
    refine use (law_GensAges l g o id1 hl) ?_
    rintro v w' ⟨rfl, L, i, hi, h⟩
    exact ⟨_, rfl, rfl, h.below hi⟩

theorem gensAges_holds : Rows.GensAgesSaid :=
  OpenClaim.holds_of_wide fn_millpondlaw12_GensAges F_millpondlaw12_GensAges rfl rfl rfl rfl rfl rfl rfl ⟨rfl, rfl, rfl, rfl, rfl⟩ rfl rfl rfl rfl rfl (by kernel_rfl) func_millpondlaw12_GensAges (by kernel_rfl)
    (of_decide_eq_true (by kernel_rfl)) (by unfold Func.isWrapper; rw [if_neg (by decide +kernel)]; exact ⟨rfl, rfl⟩)
    (fun os started H enc _ => gensAges_lifted os started H enc)

theorem gensTouch_lifted (os : Os) (started : os.Started) (H : Type) (enc : TypeId × Value → H) :
    ReturnsInHanded {} Chk os fn_millpondlaw12_GensTouch .any (Rows.gensTouchSpec.pre6 enc P F_millpondlaw12_GensTouch Rows.gensTouchRow.domain false) (Rows.gensTouchSpec.post enc P F_millpondlaw12_GensTouch false true false false) := by
  refine law_lifted (C := Chk) (tb := ty_bool) own started (by kernel_rfl) func_millpondlaw12_GensTouch
    (ChangeSpec.witness6 (enc := enc) (C := Chk) false ⟨#[], #[.slice none 0 0, .int .i64 0, .int .i64 0, .slice none 0 0], []⟩ 8 (by kernel_rfl) (by kernel_rfl) (by kernel_rfl) (by kernel_rfl))
    laidOut (by kernel_rfl) (by kernel_rfl) rfl (by kernel_rfl) ?_ ?_
  · intro ds gs hd hg
    match ds, gs, hd, hg with
    | [d0, d1, d2, d3], [], _, _ => rfl
  · intro W base args hsz hargs
    obtain ⟨x0, x1, x2, x3, rfl⟩ := args4 hsz
    have a0 := hargs 0 _ _ rfl rfl
    have a1 := hargs 1 _ _ rfl rfl
    have a2 := hargs 2 _ _ rfl rfl
    have a3 := hargs 3 _ _ rfl rfl
    obtain ⟨l, rfl, hl⟩ := acts_arg a0
    obtain ⟨id1, rfl⟩ := int_arg (t := ty_int) (by kernel_rfl) (by kernel_rfl) a1
    obtain ⟨o, rfl⟩ := int_arg (t := ty_int) (by kernel_rfl) (by kernel_rfl) a2
    obtain ⟨q, qs, rfl, hq⟩ := ints_arg a3
    refine use (law_GensTouch l id1 o q qs hl hq) ?_
    rintro v w' ⟨rfl, L, i, hi, h⟩
    exact ⟨_, rfl, rfl, h.below hi⟩

theorem gensTouch_holds : Rows.GensTouchSaid :=
  OpenClaim.holds_of_wide fn_millpondlaw12_GensTouch F_millpondlaw12_GensTouch rfl rfl rfl rfl rfl rfl rfl ⟨rfl, rfl, rfl, rfl, rfl⟩ rfl rfl rfl rfl rfl (by kernel_rfl) func_millpondlaw12_GensTouch (by kernel_rfl)
    (of_decide_eq_true (by kernel_rfl)) (by unfold Func.isWrapper; rw [if_neg (by decide +kernel)]; exact ⟨rfl, rfl⟩)
    (fun os started H enc _ => gensTouch_lifted os started H enc)

theorem gensMoves_lifted (os : Os) (started : os.Started) (H : Type) (enc : TypeId × Value → H) :
    ReturnsInHanded {} Chk os fn_millpondlaw12_GensMoves .any (Rows.gensMovesSpec.pre6 enc P F_millpondlaw12_GensMoves Rows.gensMovesRow.domain false) (Rows.gensMovesSpec.post enc P F_millpondlaw12_GensMoves false true false false) := by
  refine law_lifted (C := Chk) (tb := ty_bool) own started (by kernel_rfl) func_millpondlaw12_GensMoves
    (ChangeSpec.witness6 (enc := enc) (C := Chk) false ⟨#[], #[.slice none 0 0, .int .i64 0, .int .i64 0, .int .i64 0], []⟩ 8 (by kernel_rfl) (by kernel_rfl) (by kernel_rfl) (by kernel_rfl))
    laidOut (by kernel_rfl) (by kernel_rfl) rfl (by kernel_rfl) ?_ ?_
  · intro ds gs hd hg
    match ds, gs, hd, hg with
    | [d0, d1, d2, d3], [], _, _ => rfl
  · intro W base args hsz hargs
    obtain ⟨x0, x1, x2, x3, rfl⟩ := args4 hsz
    have a0 := hargs 0 _ _ rfl rfl
    have a1 := hargs 1 _ _ rfl rfl
    have a2 := hargs 2 _ _ rfl rfl
    have a3 := hargs 3 _ _ rfl rfl
    obtain ⟨l, rfl, hl⟩ := acts_arg a0
    obtain ⟨f, rfl⟩ := int_arg (t := ty_int) (by kernel_rfl) (by kernel_rfl) a1
    obtain ⟨t, rfl⟩ := int_arg (t := ty_int) (by kernel_rfl) (by kernel_rfl) a2
    obtain ⟨id1, rfl⟩ := int_arg (t := ty_int) (by kernel_rfl) (by kernel_rfl) a3
    refine use (law_GensMoves l f t id1 hl) ?_
    rintro v w' ⟨rfl, L, i, hi, h⟩
    exact ⟨_, rfl, rfl, h.below hi⟩

theorem gensMoves_holds : Rows.GensMovesSaid :=
  OpenClaim.holds_of_wide fn_millpondlaw12_GensMoves F_millpondlaw12_GensMoves rfl rfl rfl rfl rfl rfl rfl ⟨rfl, rfl, rfl, rfl, rfl⟩ rfl rfl rfl rfl rfl (by kernel_rfl) func_millpondlaw12_GensMoves (by kernel_rfl)
    (of_decide_eq_true (by kernel_rfl)) (by unfold Func.isWrapper; rw [if_neg (by decide +kernel)]; exact ⟨rfl, rfl⟩)
    (fun os started H enc _ => gensMoves_lifted os started H enc)

end Go.Proofs.Ytkheedbjhboclaa
