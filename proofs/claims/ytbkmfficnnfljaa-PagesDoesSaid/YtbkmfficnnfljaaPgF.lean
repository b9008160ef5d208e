/- Whatever is made, put, referred to, dropped, owned and marked in a table of pages, each of the seven laws answers true and lets its arguments be; for every input. -/
import Derived.Test.YtbkmfficnnfljaaPgF0
import Derived.Test.YtbkmfficnnfljaaRows
set_option maxRecDepth 100000
namespace Go.Proofs.Ytbkmfficnnfljaa
open Go Go.Vc Go.Sp Go.Mp

theorem own : ownKnob P.godebug = none := by kernel_rfl
theorem laidOut : laidOutB P = true := by kernel_rfl

theorem args1 {α : Type} {a : Array α} (h : a.size = 1) : ∃ x0, a = #[x0] := by
  obtain ⟨l⟩ := a
  match l, h with
  | [x0], _ => exact ⟨x0, rfl⟩

theorem args2 {α : Type} {a : Array α} (h : a.size = 2) : ∃ x0 x1, a = #[x0, x1] := by
  obtain ⟨l⟩ := a
  match l, h with
  | [x0, x1], _ => exact ⟨x0, x1, rfl⟩

theorem args3 {α : Type} {a : Array α} (h : a.size = 3) : ∃ x0 x1 x2, a = #[x0, x1, x2] := by
  obtain ⟨l⟩ := a
  match l, h with
  | [x0, x1, x2], _ => exact ⟨x0, x1, x2, rfl⟩

theorem args4 {α : Type} {a : Array α} (h : a.size = 4) : ∃ x0 x1 x2 x3, a = #[x0, x1, x2, x3] := by
  obtain ⟨l⟩ := a
  match l, h with
  | [x0, x1, x2, x3], _ => exact ⟨x0, x1, x2, x3, rfl⟩

theorem args5 {α : Type} {a : Array α} (h : a.size = 5) : ∃ x0 x1 x2 x3 x4, a = #[x0, x1, x2, x3, x4] := by
  obtain ⟨l⟩ := a
  match l, h with
  | [x0, x1, x2, x3, x4], _ => exact ⟨x0, x1, x2, x3, x4, rfl⟩

theorem int_arg {W : World} {t : TypeId} {base : Nat} {v : Value} (ht : P.underlying t = some (.int .i64)) (ha : aggQ P t = some false) (h : Rd P W t v.cells.toList ∧ Value.okWide P W .any base t v) : ∃ n, v = .int .i64 n := by
  obtain ⟨h1, h2⟩ := h
  rw [okWide_cells h2 ha] at h1
  obtain ⟨n, h3, _⟩ := h1.int1 ht
  exact ⟨n, h3⟩
theorem bool_arg {W : World} {t : TypeId} {base : Nat} {v : Value} (ht : P.underlying t = some .bool) (ha : aggQ P t = some false) (h : Rd P W t v.cells.toList ∧ Value.okWide P W .any base t v) : ∃ n, v = .bool n := by
  obtain ⟨h1, h2⟩ := h
  rw [okWide_cells h2 ha] at h1
  exact h1.bool1 ht
theorem u8_arg {W : World} {t : TypeId} {base : Nat} {v : Value} (ht : P.underlying t = some (.int .u8)) (ha : aggQ P t = some false) (h : Rd P W t v.cells.toList ∧ Value.okWide P W .any base t v) : ∃ n : UInt8, v = .int .u8 n.toNat := by
  obtain ⟨h1, h2⟩ := h
  rw [okWide_cells h2 ha] at h1
  exact h1.u8 ht
theorem str_arg {W : World} {t : TypeId} {base : Nat} {v : Value} (ht : P.underlying t = some .string) (ha : aggQ P t = some false) (h : Rd P W t v.cells.toList ∧ Value.okWide P W .any base t v) : ∃ s : ByteArray, v = .string s := by
  obtain ⟨h1, h2⟩ := h
  rw [okWide_cells h2 ha] at h1
  obtain ⟨n, h3, _⟩ := h1.str1 ht
  exact ⟨n, h3⟩
theorem row_arg {W : World} {t : TypeId} {base : Nat} {v : Value} (ha : aggQ P t = some false) (h : Rd P W t v.cells.toList ∧ Value.okWide P W .any base t v) : Rd P W t [v] := by
  obtain ⟨h1, h2⟩ := h
  rw [okWide_cells h2 ha] at h1
  exact h1
/-- A struct of some cells. -/
theorem agg_arg {v : Value} {x y : Value} {l : List Value} (h : v.cells.toList = x :: y :: l) : v = .agg (x :: y :: l).toArray := by
  cases v <;> simp [Value.cells] at h
  rename_i cs
  obtain ⟨cs⟩ := cs
  simp only at h
  rw [h]

theorem acts_arg {W : World} {base : Nat} {v : Value} (h : Rd P W ty_sl_millpondlaw14_Act v.cells.toList ∧ Value.okWide P W .any base ty_sl_millpondlaw14_Act v) : ∃ l : Sl, v = .slice l.p l.n l.c ∧ ActsAt W l.p l.n := acts_rd (row_arg (by kernel_rfl) h)
theorem key_arg {W : World} {base : Nat} {v : Value} (h : Rd P W ty_api_Key v.cells.toList ∧ Value.okWide P W .any base ty_api_Key v) : ∃ a b, v = .agg #[.int .i64 a, .int .i64 b] := by
  have hf := h.1.leaves 3 (ts := [ty_int, ty_int]) (by kernel_rfl)
  generalize he : v.cells.toList = es at hf
  match es, hf with
  | [v0, v1], ⟨r0, r1, _⟩ =>
  obtain ⟨a, rfl, _⟩ := r0.int1 (k := .i64) (by kernel_rfl)
  obtain ⟨b, rfl, _⟩ := r1.int1 (k := .i64) (by kernel_rfl)
  exact ⟨a, b, agg_arg he⟩
theorem act_arg {W : World} {base : Nat} {v : Value} (h : Rd P W ty_millpondlaw14_Act v.cells.toList ∧ Value.okWide P W .any base ty_millpondlaw14_Act v) : ∃ a : Mp.Act, v = .agg a.vs.toArray := by
  have hf := h.1.leaves 3 (ts := [ty_int, ty_int, ty_int, ty_int, ty_api_Place, ty_int]) (by kernel_rfl)
  generalize he : v.cells.toList = es at hf
  match es, hf with
  | [v0, v1, v2, v3, v4, v5], ⟨r0, r1, r2, r3, r4, r5, _⟩ =>
  obtain ⟨k, rfl, _⟩ := r0.int1 (k := .i64) (by kernel_rfl)
  obtain ⟨id, rfl, _⟩ := r1.int1 (k := .i64) (by kernel_rfl)
  obtain ⟨kf, rfl, _⟩ := r2.int1 (k := .i64) (by kernel_rfl)
  obtain ⟨ki, rfl, _⟩ := r3.int1 (k := .i64) (by kernel_rfl)
  obtain ⟨pl, rfl, _⟩ := r4.int1 (k := .i64) (by kernel_rfl)
  obtain ⟨nn, rfl, _⟩ := r5.int1 (k := .i64) (by kernel_rfl)
  exact ⟨⟨k, id, kf, ki, pl, nn⟩, agg_arg he⟩

theorem pagesDoes_lifted (os : Os) (started : os.Started) (H : Type) (enc : TypeId × Value → H) :
    ReturnsInHanded {} Chk os fn_millpondlaw14_PagesDoes .any (Rows.pagesDoesSpec.pre6 enc P F_millpondlaw14_PagesDoes Rows.pagesDoesRow.domain false) (Rows.pagesDoesSpec.post enc P F_millpondlaw14_PagesDoes false true false false) := by
  refine law_lifted (C := Chk) (tb := ty_bool) own started (by kernel_rfl) func_millpondlaw14_PagesDoes
    (ChangeSpec.witness6 (enc := enc) (C := Chk) false ⟨#[], #[.slice none 0 0, .agg #[.int .i64 0, .int .i64 0], .int .i64 0, .int .i64 0], []⟩ 8 (by kernel_rfl) (by kernel_rfl) (by kernel_rfl) (by kernel_rfl))
    laidOut (by kernel_rfl) (by kernel_rfl) rfl (by kernel_rfl) ?_ ?_
  · intro ds gs hd hg
    match ds, gs, hd, hg with
    | [d0, d1, d2, d3], [], _, _ => rfl
  · intro W base args hsz hargs
    obtain ⟨x0, x1, x2, x3, rfl⟩ := args4 hsz
    have a0 := hargs 0 _ _ rfl rfl
    have a1 := hargs 1 _ _ rfl rfl
    have a2 := hargs 2 _ _ rfl rfl
    have a3 := hargs 3 _ _ rfl rfl
    obtain ⟨l, rfl, hl⟩ := acts_arg a0
    obtain ⟨kf, ki, rfl⟩ := key_arg a1
    obtain ⟨place, rfl⟩ := int_arg (t := ty_api_Place) (by kernel_rfl) (by kernel_rfl) a2
    obtain ⟨at1, rfl⟩ := int_arg (t := ty_int) (by kernel_rfl) (by kernel_rfl) a3
    refine use (law_PagesDoes l kf ki place at1 hl) ?_
    rintro v w' ⟨rfl, L, i, hi, h⟩
    exact ⟨_, rfl, rfl, h.below hi⟩

theorem pagesDoes_holds : Rows.PagesDoesSaid :=
  OpenClaim.holds_of_wide fn_millpondlaw14_PagesDoes F_millpondlaw14_PagesDoes rfl rfl rfl rfl rfl rfl rfl ⟨rfl, rfl, rfl, rfl, rfl⟩ rfl rfl rfl rfl rfl (by kernel_rfl) func_millpondlaw14_PagesDoes (by kernel_rfl)
    (of_decide_eq_true (by kernel_rfl)) (by unfold Func.isWrapper; rw [if_neg (by decide +kernel)]; exact ⟨rfl, rfl⟩)
    (fun os started H enc _ => pagesDoes_lifted os started H enc)

theorem pagesOnce_lifted (os : Os) (started : os.Started) (H : Type) (enc : TypeId × Value → H) :
    ReturnsInHanded {} Chk os fn_millpondlaw14_PagesOnce .any (Rows.pagesOnceSpec.pre6 enc P F_millpondlaw14_PagesOnce Rows.pagesOnceRow.domain false) (Rows.pagesOnceSpec.post enc P F_millpondlaw14_PagesOnce false true false false) := by
  refine law_lifted (C := Chk) (tb := ty_bool) own started (by kernel_rfl) func_millpondlaw14_PagesOnce
    (ChangeSpec.witness6 (enc := enc) (C := Chk) false ⟨#[], #[.slice none 0 0], []⟩ 8 (by kernel_rfl) (by kernel_rfl) (by kernel_rfl) (by kernel_rfl))
    laidOut (by kernel_rfl) (by kernel_rfl) rfl (by kernel_rfl) ?_ ?_
  · intro ds gs hd hg
    match ds, gs, hd, hg with
    | [d0], [], _, _ => rfl
  · intro W base args hsz hargs
    obtain ⟨x0, rfl⟩ := args1 hsz
    have a0 := hargs 0 _ _ rfl rfl
    obtain ⟨l, rfl, hl⟩ := acts_arg a0
    refine use (law_PagesOnce l hl) ?_
    rintro v w' ⟨rfl, L, i, hi, h⟩
    exact ⟨_, rfl, rfl, h.below hi⟩

theorem pagesOnce_holds : Rows.PagesOnceSaid :=
  OpenClaim.holds_of_wide fn_millpondlaw14_PagesOnce F_millpondlaw14_PagesOnce rfl rfl rfl rfl rfl rfl rfl ⟨rfl, rfl, rfl, rfl, rfl⟩ rfl rfl rfl rfl rfl (by kernel_rfl) func_millpondlaw14_PagesOnce (by kernel_rfl)
    (of_decide_eq_true (by kernel_rfl)) (by unfold Func.isWrapper; rw [if_neg (by decide +kernel)]; exact ⟨rfl, rfl⟩)
    (fun os started H enc _ => pagesOnce_lifted os started H enc)

theorem pagesErr_lifted (os : Os) (started : os.Started) (H : Type) (enc : TypeId × Value → H) :
    ReturnsInHanded {} Chk os fn_millpondlaw14_PagesErr .any (Rows.pagesErrSpec.pre6 enc P F_millpondlaw14_PagesErr Rows.pagesErrRow.domain false) (Rows.pagesErrSpec.post enc P F_millpondlaw14_PagesErr false true false false) := by
  refine law_lifted (C := Chk) (tb := ty_bool) own started (by kernel_rfl) func_millpondlaw14_PagesErr
    (ChangeSpec.witness6 (enc := enc) (C := Chk) false ⟨#[], #[.slice none 0 0, .agg #[.int .i64 0, .int .i64 0, .int .i64 0, .int .i64 0, .int .i64 0, .int .i64 0]], []⟩ 8 (by kernel_rfl) (by kernel_rfl) (by kernel_rfl) (by kernel_rfl))
    laidOut (by kernel_rfl) (by kernel_rfl) rfl (by kernel_rfl) ?_ ?_
  · intro ds gs hd hg
    match ds, gs, hd, hg with
    | [d0, d1], [], _, _ => rfl
  · intro W base args hsz hargs
    obtain ⟨x0, x1, rfl⟩ := args2 hsz
    have a0 := hargs 0 _ _ rfl rfl
    have a1 := hargs 1 _ _ rfl rfl
    obtain ⟨l, rfl, hl⟩ := acts_arg a0
    obtain ⟨act, rfl⟩ := act_arg a1
    refine use (law_PagesErr l act hl) ?_
    rintro v w' ⟨rfl, L, i, hi, h⟩
    exact ⟨_, rfl, rfl, h.below hi⟩

theorem pagesErr_holds : Rows.PagesErrSaid :=
  OpenClaim.holds_of_wide fn_millpondlaw14_PagesErr F_millpondlaw14_PagesErr rfl rfl rfl rfl rfl rfl rfl ⟨rfl, rfl, rfl, rfl, rfl⟩ rfl rfl rfl rfl rfl (by kernel_rfl) func_millpondlaw14_PagesErr (by kernel_rfl)
    (of_decide_eq_true (by kernel_rfl)) (by unfold Func.isWrapper; rw [if_neg (by decide +kernel)]; exact ⟨rfl, rfl⟩)
    (fun os started H enc _ => pagesErr_lifted os started H enc)

theorem pagesMoves_lifted (os : Os) (started : os.Started) (H : Type) (enc : TypeId × Value → H) :
    ReturnsInHanded {} Chk os fn_millpondlaw14_PagesMoves .any (Rows.pagesMovesSpec.pre6 enc P F_millpondlaw14_PagesMoves Rows.pagesMovesRow.domain false) (Rows.pagesMovesSpec.post enc P F_millpondlaw14_PagesMoves false true false false) := by
  refine law_lifted (C := Chk) (tb := ty_bool) own started (by kernel_rfl) func_millpondlaw14_PagesMoves
    (ChangeSpec.witness6 (enc := enc) (C := Chk) false ⟨#[], #[.slice none 0 0, .int .i64 0, .int .i64 0, .int .i64 0, .int .i64 0], []⟩ 8 (by kernel_rfl) (by kernel_rfl) (by kernel_rfl) (by kernel_rfl))
    laidOut (by kernel_rfl) (by kernel_rfl) rfl (by kernel_rfl) ?_ ?_
  · intro ds gs hd hg
    match ds, gs, hd, hg with
    | [d0, d1, d2, d3, d4], [], _, _ => rfl
  · intro W base args hsz hargs
    obtain ⟨x0, x1, x2, x3, x4, rfl⟩ := args5 hsz
    have a0 := hargs 0 _ _ rfl rfl
    have a1 := hargs 1 _ _ rfl rfl
    have a2 := hargs 2 _ _ rfl rfl
    have a3 := hargs 3 _ _ rfl rfl
    have a4 := hargs 4 _ _ rfl rfl
    obtain ⟨l, rfl, hl⟩ := acts_arg a0
    obtain ⟨id1, rfl⟩ := int_arg (t := ty_int) (by kernel_rfl) (by kernel_rfl) a1
    obtain ⟨place, rfl⟩ := int_arg (t := ty_api_Place) (by kernel_rfl) (by kernel_rfl) a2
    obtain ⟨at1, rfl⟩ := int_arg (t := ty_int) (by kernel_rfl) (by kernel_rfl) a3
    obtain ⟨other, rfl⟩ := int_arg (t := ty_int) (by kernel_rfl) (by kernel_rfl) a4
    refine use (law_PagesMoves l id1 place at1 other hl) ?_
    rintro v w' ⟨rfl, L, i, hi, h⟩
    exact ⟨_, rfl, rfl, h.below hi⟩

theorem pagesMoves_holds : Rows.PagesMovesSaid :=
  OpenClaim.holds_of_wide fn_millpondlaw14_PagesMoves F_millpondlaw14_PagesMoves rfl rfl rfl rfl rfl rfl rfl ⟨rfl, rfl, rfl, rfl, rfl⟩ rfl rfl rfl rfl rfl (by kernel_rfl) func_millpondlaw14_PagesMoves (by kernel_rfl)
    (of_decide_eq_true (by kernel_rfl)) (by unfold Func.isWrapper; rw [if_neg (by decide +kernel)]; exact ⟨rfl, rfl⟩)
    (fun os started H enc _ => pagesMoves_lifted os started H enc)

theorem pagesIds_lifted (os : Os) (started : os.Started) (H : Type) (enc : TypeId × Value → H) :
    ReturnsInHanded {} Chk os fn_millpondlaw14_PagesIds .any (Rows.pagesIdsSpec.pre6 enc P F_millpondlaw14_PagesIds Rows.pagesIdsRow.domain false) (Rows.pagesIdsSpec.post enc P F_millpondlaw14_PagesIds false true false false) := by
  refine law_lifted (C := Chk) (tb := ty_bool) own started (by kernel_rfl) func_millpondlaw14_PagesIds
    (ChangeSpec.witness6 (enc := enc) (C := Chk) false ⟨#[], #[.slice none 0 0], []⟩ 8 (by kernel_rfl) (by kernel_rfl) (by kernel_rfl) (by kernel_rfl))
    laidOut (by kernel_rfl) (by kernel_rfl) rfl (by kernel_rfl) ?_ ?_
  · intro ds gs hd hg
    match ds, gs, hd, hg with
    | [d0], [], _, _ => rfl
  · intro W base args hsz hargs
    obtain ⟨x0, rfl⟩ := args1 hsz
    have a0 := hargs 0 _ _ rfl rfl
    obtain ⟨l, rfl, hl⟩ := acts_arg a0
    refine use (law_PagesIds l hl) ?_
    rintro v w' ⟨rfl, L, i, hi, h⟩
    exact ⟨_, rfl, rfl, h.below hi⟩

theorem pagesIds_holds : Rows.PagesIdsSaid :=
  OpenClaim.holds_of_wide fn_millpondlaw14_PagesIds F_millpondlaw14_PagesIds rfl rfl rfl rfl rfl rfl rfl ⟨rfl, rfl, rfl, rfl, rfl⟩ rfl rfl rfl rfl rfl (by kernel_rfl) func_millpondlaw14_PagesIds (by kernel_rfl)
    (of_decide_eq_true (by kernel_rfl)) (by unfold Func.isWrapper; rw [if_neg (by decide +kernel)]; exact ⟨rfl, rfl⟩)
    (fun os started H enc _ => pagesIds_lifted os started H enc)

theorem pagesRefs_lifted (os : Os) (started : os.Started) (H : Type) (enc : TypeId × Value → H) :
    ReturnsInHanded {} Chk os fn_millpondlaw14_PagesRefs .any (Rows.pagesRefsSpec.pre6 enc P F_millpondlaw14_PagesRefs Rows.pagesRefsRow.domain false) (Rows.pagesRefsSpec.post enc P F_millpondlaw14_PagesRefs false true false false) := by
  refine law_lifted (C := Chk) (tb := ty_bool) own started (by kernel_rfl) func_millpondlaw14_PagesRefs
    (ChangeSpec.witness6 (enc := enc) (C := Chk) false ⟨#[], #[.int .i64 0, .int .i64 0, .int .i64 0], []⟩ 8 (by kernel_rfl) (by kernel_rfl) (by kernel_rfl) (by kernel_rfl))
    laidOut (by kernel_rfl) (by kernel_rfl) rfl (by kernel_rfl) ?_ ?_
  · intro ds gs hd hg
    match ds, gs, hd, hg with
    | [d0, d1, d2], [], _, _ => rfl
  · intro W base args hsz hargs
    obtain ⟨x0, x1, x2, rfl⟩ := args3 hsz
    have a0 := hargs 0 _ _ rfl rfl
    have a1 := hargs 1 _ _ rfl rfl
    have a2 := hargs 2 _ _ rfl rfl
    obtain ⟨n1, rfl⟩ := int_arg (t := ty_int) (by kernel_rfl) (by kernel_rfl) a0
    obtain ⟨less, rfl⟩ := int_arg (t := ty_int) (by kernel_rfl) (by kernel_rfl) a1
    obtain ⟨place, rfl⟩ := int_arg (t := ty_api_Place) (by kernel_rfl) (by kernel_rfl) a2
    refine use (law_PagesRefs n1 less place) ?_
    rintro v w' ⟨rfl, L, i, hi, h⟩
    exact ⟨_, rfl, rfl, h.below hi⟩

theorem pagesRefs_holds : Rows.PagesRefsSaid :=
  OpenClaim.holds_of_wide fn_millpondlaw14_PagesRefs F_millpondlaw14_PagesRefs rfl rfl rfl rfl rfl rfl rfl ⟨rfl, rfl, rfl, rfl, rfl⟩ rfl rfl rfl rfl rfl (by kernel_rfl) func_millpondlaw14_PagesRefs (by kernel_rfl)
    (of_decide_eq_true (by kernel_rfl)) (by unfold Func.isWrapper; rw [if_neg (by decide +kernel)]; exact ⟨rfl, rfl⟩)
    (fun os started H enc _ => pagesRefs_lifted os started H enc)

theorem pagesFields_lifted (os : Os) (started : os.Started) (H : Type) (enc : TypeId × Value → H) :
    ReturnsInHanded {} Chk os fn_millpondlaw14_PagesFields .any (Rows.pagesFieldsSpec.pre6 enc P F_millpondlaw14_PagesFields Rows.pagesFieldsRow.domain false) (Rows.pagesFieldsSpec.post enc P F_millpondlaw14_PagesFields false true false false) := by
  refine law_lifted (C := Chk) (tb := ty_bool) own started (by kernel_rfl) func_millpondlaw14_PagesFields
    (ChangeSpec.witness6 (enc := enc) (C := Chk) false ⟨#[], #[.slice none 0 0, .int .i64 0, .int .i64 0, .bool false, .int .i64 0], []⟩ 8 (by kernel_rfl) (by kernel_rfl) (by kernel_rfl) (by kernel_rfl))
    laidOut (by kernel_rfl) (by kernel_rfl) rfl (by kernel_rfl) ?_ ?_
  · intro ds gs hd hg
    match ds, gs, hd, hg with
    | [d0, d1, d2, d3, d4], [], _, _ => rfl
  · intro W base args hsz hargs
    obtain ⟨x0, x1, x2, x3, x4, rfl⟩ := args5 hsz
    have a0 := hargs 0 _ _ rfl rfl
    have a1 := hargs 1 _ _ rfl rfl
    have a2 := hargs 2 _ _ rfl rfl
    have a3 := hargs 3 _ _ rfl rfl
    have a4 := hargs 4 _ _ rfl rfl
    obtain ⟨l, rfl, hl⟩ := acts_arg a0
    obtain ⟨id1, rfl⟩ := int_arg (t := ty_int) (by kernel_rfl) (by kernel_rfl) a1
    obtain ⟨owner, rfl⟩ := int_arg (t := ty_int) (by kernel_rfl) (by kernel_rfl) a2
    obtain ⟨dirty, rfl⟩ := bool_arg (t := ty_bool) (by kernel_rfl) (by kernel_rfl) a3
    obtain ⟨other, rfl⟩ := int_arg (t := ty_int) (by kernel_rfl) (by kernel_rfl) a4
    refine use (law_PagesFields l id1 owner dirty other hl) ?_
    rintro v w' ⟨rfl, L, i, hi, h⟩
    exact ⟨_, rfl, rfl, h.below hi⟩

theorem pagesFields_holds : Rows.PagesFieldsSaid :=
  OpenClaim.holds_of_wide fn_millpondlaw14_PagesFields F_millpondlaw14_PagesFields rfl rfl rfl rfl rfl rfl rfl ⟨rfl, rfl, rfl, rfl, rfl⟩ rfl rfl rfl rfl rfl (by kernel_rfl) func_millpondlaw14_PagesFields (by kernel_rfl)
    (of_decide_eq_true (by kernel_rfl)) (by unfold Func.isWrapper; rw [if_neg (by decide +kernel)]; exact ⟨rfl, rfl⟩)
    (fun os started H enc _ => pagesFields_lifted os started H enc)

end Go.Proofs.Ytbkmfficnnfljaa
