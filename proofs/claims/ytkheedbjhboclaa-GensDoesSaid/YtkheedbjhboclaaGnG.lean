/- Whatever ids are added, dropped, touched, aged and moved in generations, each call answers, and order, groups and ages are, just what the document says; for every input. -/
import Derived.Test.YtkheedbjhboclaaGnU
import Derived.Test.YtkheedbjhboclaaRows
set_option maxRecDepth 100000
namespace Go.Proofs.Ytkheedbjhboclaa
open Go Go.Vc Go.Sp Go.Mp

theorem own : ownKnob P.godebug = none := by kernel_rfl
theorem laidOut : laidOutB P = true := by kernel_rfl

theorem args3 {α : Type} {a : Array α} (h : a.size = 3) : ∃ x0 x1 x2, a = #[x0, x1, x2] := by
  obtain ⟨l⟩ := a
  match l, h with
  | [x0, x1, x2], _ => exact ⟨x0, x1, x2, rfl⟩

theorem int_arg {W : World} {t : TypeId} {base : Nat} {v : Value} (ht : P.underlying t = some (.int .i64)) (ha : aggQ P t = some false) (h : Rd P W t v.cells.toList ∧ Value.okWide P W .any base t v) : ∃ n, v = .int .i64 n := by
  obtain ⟨h1, h2⟩ := h
  rw [okWide_cells h2 ha] at h1
  obtain ⟨n, h3, _⟩ := h1.int1 ht
  exact ⟨n, h3⟩
theorem bool_arg {W : World} {t : TypeId} {base : Nat} {v : Value} (ht : P.underlying t = some .bool) (ha : aggQ P t = some false) (h : Rd P W t v.cells.toList ∧ Value.okWide P W .any base t v) : ∃ n, v = .bool n := by
  obtain ⟨h1, h2⟩ := h
  rw [okWide_cells h2 ha] at h1
  exact h1.bool1 ht
theorem u8_arg {W : World} {t : TypeId} {base : Nat} {v : Value} (ht : P.underlying t = some (.int .u8)) (ha : aggQ P t = some false) (h : Rd P W t v.cells.toList ∧ Value.okWide P W .any base t v) : ∃ n : UInt8, v = .int .u8 n.toNat := by
  obtain ⟨h1, h2⟩ := h
  rw [okWide_cells h2 ha] at h1
  exact h1.u8 ht
theorem str_arg {W : World} {t : TypeId} {base : Nat} {v : Value} (ht : P.underlying t = some .string) (ha : aggQ P t = some false) (h : Rd P W t v.cells.toList ∧ Value.okWide P W .any base t v) : ∃ s : ByteArray, v = .string s := by
  obtain ⟨h1, h2⟩ := h
  rw [okWide_cells h2 ha] at h1
  obtain ⟨n, h3, _⟩ := h1.str1 ht
  exact ⟨n, h3⟩
theorem row_arg {W : World} {t : TypeId} {base : Nat} {v : Value} (ha : aggQ P t = some false) (h : Rd P W t v.cells.toList ∧ Value.okWide P W .any base t v) : Rd P W t [v] := by
  obtain ⟨h1, h2⟩ := h
  rw [okWide_cells h2 ha] at h1
  exact h1
/-- A struct of some cells. -/
theorem agg_arg {v : Value} {x y : Value} {l : List Value} (h : v.cells.toList = x :: y :: l) : v = .agg (x :: y :: l).toArray := by
  cases v <;> simp [Value.cells] at h
  rename_i cs
  obtain ⟨cs⟩ := cs
  simp only at h
  rw [h]

theorem acts_arg {W : World} {base : Nat} {v : Value} (h : Rd P W ty_sl_millpondlaw12_Act v.cells.toList ∧ Value.okWide P W .any base ty_sl_millpondlaw12_Act v) : ∃ l : Sl, v = .slice l.p l.n l.c ∧ ActsAt W l.p l.n := acts_rd (row_arg (by kernel_rfl) h)
theorem ints_arg {W : World} {base : Nat} {v : Value} (h : Rd P W ty_sl_int v.cells.toList ∧ Value.okWide P W .any base ty_sl_int v) : ∃ (l : Sl) (gs : List Int), v = .slice l.p l.n l.c ∧ IntsO W l gs := ints_rd (row_arg (by kernel_rfl) h)

theorem gensDoes_lifted (os : Os) (started : os.Started) (H : Type) (enc : TypeId × Value → H) :
    ReturnsInHanded {} Chk os fn_millpondlaw12_GensDoes .any (Rows.gensDoesSpec.pre6 enc P F_millpondlaw12_GensDoes Rows.gensDoesRow.domain false) (Rows.gensDoesSpec.post enc P F_millpondlaw12_GensDoes false true false false) := by
  refine law_lifted (C := Chk) (tb := ty_bool) own started (by kernel_rfl) func_millpondlaw12_GensDoes
    (ChangeSpec.witness6 (enc := enc) (C := Chk) false ⟨#[], #[.slice none 0 0, .int .i64 0, .slice none 0 0], []⟩ 8 (by kernel_rfl) (by kernel_rfl) (by kernel_rfl) (by kernel_rfl))
    laidOut (by kernel_rfl) (by kernel_rfl) rfl (by kernel_rfl) ?_ ?_
  · intro ds gs hd hg
    match ds, gs, hd, hg with
    | [d0, d1, d2], [], _, _ => rfl
  · intro W base args hsz hargs
    obtain ⟨x0, x1, x2, rfl⟩ := args3 hsz
    have a0 := hargs 0 _ _ rfl rfl
    have a1 := hargs 1 _ _ rfl rfl
    have a2 := hargs 2 _ _ rfl rfl
    obtain ⟨l, rfl, hl⟩ := acts_arg a0
    obtain ⟨id1, rfl⟩ := int_arg (t := ty_int) (by kernel_rfl) (by kernel_rfl) a1
    obtain ⟨q, qs, rfl, hq⟩ := ints_arg a2
    refine use (law_GensDoes l id1 q qs hl hq) ?_
    rintro v w' ⟨rfl, L, i, hi, h⟩
    exact ⟨_, rfl, rfl, h.below hi⟩

theorem gensDoes_holds : Rows.GensDoesSaid :=
  OpenClaim.holds_of_wide fn_millpondlaw12_GensDoes F_millpondlaw12_GensDoes rfl rfl rfl rfl rfl rfl rfl ⟨rfl, rfl, rfl, rfl, rfl⟩ rfl rfl rfl rfl rfl (by kernel_rfl) func_millpondlaw12_GensDoes (by kernel_rfl)
    (of_decide_eq_true (by kernel_rfl)) (by unfold Func.isWrapper; rw [if_neg (by decide +kernel)]; exact ⟨rfl, rfl⟩)
    (fun os started H enc _ => gensDoes_lifted os started H enc)

end Go.Proofs.Ytkheedbjhboclaa
