/- Whatever is written, moved and cleared in a store of pages, each of the four laws answers true and lets its arguments be; for every input. -/
import Derived.Test.YtdlmhicackopnaaByM
import Derived.Test.YtdlmhicackopnaaRows
set_option maxRecDepth 100000
namespace Go.Proofs.Ytdlmhicackopnaa
open Go Go.Vc Go.Sp Go.Mp

theorem own : ownKnob P.godebug = none := by kernel_rfl
theorem laidOut : laidOutB P = true := by kernel_rfl

theorem args3 {α : Type} {a : Array α} (h : a.size = 3) : ∃ x0 x1 x2, a = #[x0, x1, x2] := by
  obtain ⟨l⟩ := a
  match l, h with
  | [x0, x1, x2], _ => exact ⟨x0, x1, x2, rfl⟩

theorem args4 {α : Type} {a : Array α} (h : a.size = 4) : ∃ x0 x1 x2 x3, a = #[x0, x1, x2, x3] := by
  obtain ⟨l⟩ := a
  match l, h with
  | [x0, x1, x2, x3], _ => exact ⟨x0, x1, x2, x3, rfl⟩

theorem args5 {α : Type} {a : Array α} (h : a.size = 5) : ∃ x0 x1 x2 x3 x4, a = #[x0, x1, x2, x3, x4] := by
  obtain ⟨l⟩ := a
  match l, h with
  | [x0, x1, x2, x3, x4], _ => exact ⟨x0, x1, x2, x3, x4, rfl⟩

theorem args7 {α : Type} {a : Array α} (h : a.size = 7) : ∃ x0 x1 x2 x3 x4 x5 x6, a = #[x0, x1, x2, x3, x4, x5, x6] := by
  obtain ⟨l⟩ := a
  match l, h with
  | [x0, x1, x2, x3, x4, x5, x6], _ => exact ⟨x0, x1, x2, x3, x4, x5, x6, rfl⟩

theorem int_arg {W : World} {t : TypeId} {base : Nat} {v : Value} (ht : P.underlying t = some (.int .i64)) (ha : aggQ P t = some false) (h : Rd P W t v.cells.toList ∧ Value.okWide P W .any base t v) : ∃ n, v = .int .i64 n := by
  obtain ⟨h1, h2⟩ := h
  rw [okWide_cells h2 ha] at h1
  obtain ⟨n, h3, _⟩ := h1.int1 ht
  exact ⟨n, h3⟩
theorem u8_arg {W : World} {t : TypeId} {base : Nat} {v : Value} (ht : P.underlying t = some (.int .u8)) (ha : aggQ P t = some false) (h : Rd P W t v.cells.toList ∧ Value.okWide P W .any base t v) : ∃ n : UInt8, v = .int .u8 n.toNat := by
  obtain ⟨h1, h2⟩ := h
  rw [okWide_cells h2 ha] at h1
  exact h1.u8 ht
theorem str_arg {W : World} {t : TypeId} {base : Nat} {v : Value} (ht : P.underlying t = some .string) (ha : aggQ P t = some false) (h : Rd P W t v.cells.toList ∧ Value.okWide P W .any base t v) : ∃ s : ByteArray, v = .string s := by
  obtain ⟨h1, h2⟩ := h
  rw [okWide_cells h2 ha] at h1
  obtain ⟨n, h3, _⟩ := h1.str1 ht
  exact ⟨n, h3⟩
theorem acts_arg {W : World} {base : Nat} {v : Value} (h : Rd P W ty_sl_millpondlaw03_Act v.cells.toList ∧ Value.okWide P W .any base ty_sl_millpondlaw03_Act v) : ∃ l : Sl, v = .slice l.p l.n l.c ∧ ActsAt W l.p l.n := by
  obtain ⟨h1, h2⟩ := h
  rw [okWide_cells h2 (by kernel_rfl)] at h1
  exact acts_rd h1

theorem bytesDoes_lifted (os : Os) (started : os.Started) (H : Type) (enc : TypeId × Value → H) :
    ReturnsInHanded {} Chk os fn_millpondlaw03_BytesDoes .any (Rows.bytesDoesSpec.pre6 enc P F_millpondlaw03_BytesDoes Rows.bytesDoesRow.domain false) (Rows.bytesDoesSpec.post enc P F_millpondlaw03_BytesDoes false true false false) := by
  refine law_lifted (C := Chk) (tb := ty_bool) own started (by kernel_rfl) func_millpondlaw03_BytesDoes
    (ChangeSpec.witness6 (enc := enc) (C := Chk) false ⟨#[], #[.int .i64 0, .slice none 0 0, .int .i64 0, .int .i64 0], []⟩ 8 (by kernel_rfl) (by kernel_rfl) (by kernel_rfl) (by kernel_rfl))
    laidOut (by kernel_rfl) (by kernel_rfl) rfl (by kernel_rfl) ?_ ?_
  · intro ds gs hd hg
    match ds, gs, hd, hg with
    | [d0, d1, d2, d3], [], _, _ => rfl
  · intro W base args hsz hargs
    obtain ⟨x0, x1, x2, x3, rfl⟩ := args4 hsz
    have a0 := hargs 0 _ _ rfl rfl
    have a1 := hargs 1 _ _ rfl rfl
    have a2 := hargs 2 _ _ rfl rfl
    have a3 := hargs 3 _ _ rfl rfl
    obtain ⟨n, rfl⟩ := int_arg (t := ty_int) (by kernel_rfl) (by kernel_rfl) a0
    obtain ⟨l, rfl, hl⟩ := acts_arg a1
    obtain ⟨page, rfl⟩ := int_arg (t := ty_int) (by kernel_rfl) (by kernel_rfl) a2
    obtain ⟨at1, rfl⟩ := int_arg (t := ty_int) (by kernel_rfl) (by kernel_rfl) a3
    refine use (law_BytesDoes n l page at1 hl) ?_
    rintro v w' ⟨rfl, h⟩
    exact ⟨_, rfl, rfl, h.below (i := 0) rfl⟩

theorem bytesDoes_holds : Rows.BytesDoesSaid :=
  OpenClaim.holds_of_wide fn_millpondlaw03_BytesDoes F_millpondlaw03_BytesDoes rfl rfl rfl rfl rfl rfl rfl ⟨rfl, rfl, rfl, rfl, rfl⟩ rfl rfl rfl rfl rfl (by kernel_rfl) func_millpondlaw03_BytesDoes (by kernel_rfl)
    (of_decide_eq_true (by kernel_rfl)) (by unfold Func.isWrapper; rw [if_neg (by decide +kernel)]; exact ⟨rfl, rfl⟩)
    (fun os started H enc _ => bytesDoes_lifted os started H enc)

theorem bytesLast_lifted (os : Os) (started : os.Started) (H : Type) (enc : TypeId × Value → H) :
    ReturnsInHanded {} Chk os fn_millpondlaw03_BytesLast .any (Rows.bytesLastSpec.pre6 enc P F_millpondlaw03_BytesLast Rows.bytesLastRow.domain false) (Rows.bytesLastSpec.post enc P F_millpondlaw03_BytesLast false true false false) := by
  refine law_lifted (C := Chk) (tb := ty_bool) own started (by kernel_rfl) func_millpondlaw03_BytesLast
    (ChangeSpec.witness6 (enc := enc) (C := Chk) false ⟨#[], #[.int .i64 0, .slice none 0 0, .int .i64 0, .string ⟨#[]⟩, .int .i64 0, .int .i64 0, .int .u8 0], []⟩ 8 (by kernel_rfl) (by kernel_rfl) (by kernel_rfl) (by kernel_rfl))
    laidOut (by kernel_rfl) (by kernel_rfl) rfl (by kernel_rfl) ?_ ?_
  · intro ds gs hd hg
    match ds, gs, hd, hg with
    | [d0, d1, d2, d3, d4, d5, d6], [], _, _ => rfl
  · intro W base args hsz hargs
    obtain ⟨x0, x1, x2, x3, x4, x5, x6, rfl⟩ := args7 hsz
    have a0 := hargs 0 _ _ rfl rfl
    have a1 := hargs 1 _ _ rfl rfl
    have a2 := hargs 2 _ _ rfl rfl
    have a3 := hargs 3 _ _ rfl rfl
    have a4 := hargs 4 _ _ rfl rfl
    have a5 := hargs 5 _ _ rfl rfl
    have a6 := hargs 6 _ _ rfl rfl
    obtain ⟨n, rfl⟩ := int_arg (t := ty_int) (by kernel_rfl) (by kernel_rfl) a0
    obtain ⟨l, rfl, hl⟩ := acts_arg a1
    obtain ⟨page, rfl⟩ := int_arg (t := ty_int) (by kernel_rfl) (by kernel_rfl) a2
    obtain ⟨text, rfl⟩ := str_arg (t := ty_string) (by kernel_rfl) (by kernel_rfl) a3
    obtain ⟨other, rfl⟩ := int_arg (t := ty_int) (by kernel_rfl) (by kernel_rfl) a4
    obtain ⟨at1, rfl⟩ := int_arg (t := ty_int) (by kernel_rfl) (by kernel_rfl) a5
    obtain ⟨b, rfl⟩ := u8_arg (t := ty_uint8) (by kernel_rfl) (by kernel_rfl) a6
    refine use (law_BytesLast n l page text other at1 b hl) ?_
    rintro v w' ⟨rfl, h⟩
    exact ⟨_, rfl, rfl, h.below (i := 0) rfl⟩

theorem bytesLast_holds : Rows.BytesLastSaid :=
  OpenClaim.holds_of_wide fn_millpondlaw03_BytesLast F_millpondlaw03_BytesLast rfl rfl rfl rfl rfl rfl rfl ⟨rfl, rfl, rfl, rfl, rfl⟩ rfl rfl rfl rfl rfl (by kernel_rfl) func_millpondlaw03_BytesLast (by kernel_rfl)
    (of_decide_eq_true (by kernel_rfl)) (by unfold Func.isWrapper; rw [if_neg (by decide +kernel)]; exact ⟨rfl, rfl⟩)
    (fun os started H enc _ => bytesLast_lifted os started H enc)

theorem bytesMoves_lifted (os : Os) (started : os.Started) (H : Type) (enc : TypeId × Value → H) :
    ReturnsInHanded {} Chk os fn_millpondlaw03_BytesMoves .any (Rows.bytesMovesSpec.pre6 enc P F_millpondlaw03_BytesMoves Rows.bytesMovesRow.domain false) (Rows.bytesMovesSpec.post enc P F_millpondlaw03_BytesMoves false true false false) := by
  refine law_lifted (C := Chk) (tb := ty_bool) own started (by kernel_rfl) func_millpondlaw03_BytesMoves
    (ChangeSpec.witness6 (enc := enc) (C := Chk) false ⟨#[], #[.int .i64 0, .slice none 0 0, .int .i64 0, .int .i64 0, .int .i64 0], []⟩ 8 (by kernel_rfl) (by kernel_rfl) (by kernel_rfl) (by kernel_rfl))
    laidOut (by kernel_rfl) (by kernel_rfl) rfl (by kernel_rfl) ?_ ?_
  · intro ds gs hd hg
    match ds, gs, hd, hg with
    | [d0, d1, d2, d3, d4], [], _, _ => rfl
  · intro W base args hsz hargs
    obtain ⟨x0, x1, x2, x3, x4, rfl⟩ := args5 hsz
    have a0 := hargs 0 _ _ rfl rfl
    have a1 := hargs 1 _ _ rfl rfl
    have a2 := hargs 2 _ _ rfl rfl
    have a3 := hargs 3 _ _ rfl rfl
    have a4 := hargs 4 _ _ rfl rfl
    obtain ⟨n, rfl⟩ := int_arg (t := ty_int) (by kernel_rfl) (by kernel_rfl) a0
    obtain ⟨l, rfl, hl⟩ := acts_arg a1
    obtain ⟨fr, rfl⟩ := int_arg (t := ty_int) (by kernel_rfl) (by kernel_rfl) a2
    obtain ⟨to, rfl⟩ := int_arg (t := ty_int) (by kernel_rfl) (by kernel_rfl) a3
    obtain ⟨other, rfl⟩ := int_arg (t := ty_int) (by kernel_rfl) (by kernel_rfl) a4
    refine use (law_BytesMoves n l fr to other hl) ?_
    rintro v w' ⟨rfl, h⟩
    exact ⟨_, rfl, rfl, h.below (i := 0) rfl⟩

theorem bytesMoves_holds : Rows.BytesMovesSaid :=
  OpenClaim.holds_of_wide fn_millpondlaw03_BytesMoves F_millpondlaw03_BytesMoves rfl rfl rfl rfl rfl rfl rfl ⟨rfl, rfl, rfl, rfl, rfl⟩ rfl rfl rfl rfl rfl (by kernel_rfl) func_millpondlaw03_BytesMoves (by kernel_rfl)
    (of_decide_eq_true (by kernel_rfl)) (by unfold Func.isWrapper; rw [if_neg (by decide +kernel)]; exact ⟨rfl, rfl⟩)
    (fun os started H enc _ => bytesMoves_lifted os started H enc)

theorem bytesByte_lifted (os : Os) (started : os.Started) (H : Type) (enc : TypeId × Value → H) :
    ReturnsInHanded {} Chk os fn_millpondlaw03_BytesByte .any (Rows.bytesByteSpec.pre6 enc P F_millpondlaw03_BytesByte Rows.bytesByteRow.domain false) (Rows.bytesByteSpec.post enc P F_millpondlaw03_BytesByte false true false false) := by
  refine law_lifted (C := Chk) (tb := ty_bool) own started (by kernel_rfl) func_millpondlaw03_BytesByte
    (ChangeSpec.witness6 (enc := enc) (C := Chk) false ⟨#[], #[.int .i64 0, .slice none 0 0, .int .i64 0], []⟩ 8 (by kernel_rfl) (by kernel_rfl) (by kernel_rfl) (by kernel_rfl))
    laidOut (by kernel_rfl) (by kernel_rfl) rfl (by kernel_rfl) ?_ ?_
  · intro ds gs hd hg
    match ds, gs, hd, hg with
    | [d0, d1, d2], [], _, _ => rfl
  · intro W base args hsz hargs
    obtain ⟨x0, x1, x2, rfl⟩ := args3 hsz
    have a0 := hargs 0 _ _ rfl rfl
    have a1 := hargs 1 _ _ rfl rfl
    have a2 := hargs 2 _ _ rfl rfl
    obtain ⟨n, rfl⟩ := int_arg (t := ty_int) (by kernel_rfl) (by kernel_rfl) a0
    obtain ⟨l, rfl, hl⟩ := acts_arg a1
    obtain ⟨page, rfl⟩ := int_arg (t := ty_int) (by kernel_rfl) (by kernel_rfl) a2
    refine use (law_BytesByte n l page hl) ?_
    rintro v w' ⟨rfl, h⟩
    exact ⟨_, rfl, rfl, h.below (i := 0) rfl⟩

theorem bytesByte_holds : Rows.BytesByteSaid :=
  OpenClaim.holds_of_wide fn_millpondlaw03_BytesByte F_millpondlaw03_BytesByte rfl rfl rfl rfl rfl rfl rfl ⟨rfl, rfl, rfl, rfl, rfl⟩ rfl rfl rfl rfl rfl (by kernel_rfl) func_millpondlaw03_BytesByte (by kernel_rfl)
    (of_decide_eq_true (by kernel_rfl)) (by unfold Func.isWrapper; rw [if_neg (by decide +kernel)]; exact ⟨rfl, rfl⟩)
    (fun os started H enc _ => bytesByte_lifted os started H enc)

end Go.Proofs.Ytdlmhicackopnaa
