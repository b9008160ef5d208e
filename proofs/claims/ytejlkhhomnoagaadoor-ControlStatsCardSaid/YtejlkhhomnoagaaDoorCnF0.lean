/- Control: what is read of any file, shown, told and named, each of the six laws answers true and lets its arguments be; for every input. -/
import Derived.Test.YtejlkhhomnoagaaDoorCnY
import Derived.Test.YtejlkhhomnoagaaDoorLawD
import Derived.LaidMore
import Derived.OpenShut
import Derived.Stop.LaidErr
import Derived.Lib.LaidTab
import Derived.SevenTiedAt
import Derived.Test.YtejlkhhomnoagaaDoorRows
import Derived.Test.YtejlkhhomnoagaaDoorTie
import Derived.Test.YtejlkhhomnoagaaDoorCards
set_option maxRecDepth 100000
namespace Go.Proofs.YtejlkhhomnoagaaDoor
open Go Go.Vc Go.Sp Go.Mp Go.Ct

theorem own : ownKnob P.godebug = none := by kernel_rfl
theorem laidOut : laidOutB P = true := by kernel_rfl

theorem args2 {α : Type} {a : Array α} (h : a.size = 2) : ∃ x0 x1, a = #[x0, x1] := by
  obtain ⟨l⟩ := a
  match l, h with
  | [x0, x1], _ => exact ⟨x0, x1, rfl⟩
theorem args3 {α : Type} {a : Array α} (h : a.size = 3) : ∃ x0 x1 x2, a = #[x0, x1, x2] := by
  obtain ⟨l⟩ := a
  match l, h with
  | [x0, x1, x2], _ => exact ⟨x0, x1, x2, rfl⟩
theorem args4 {α : Type} {a : Array α} (h : a.size = 4) : ∃ x0 x1 x2 x3, a = #[x0, x1, x2, x3] := by
  obtain ⟨l⟩ := a
  match l, h with
  | [x0, x1, x2, x3], _ => exact ⟨x0, x1, x2, x3, rfl⟩

theorem wf_i64 {n : Int} (h : (Lit.int .i64 n).wf = true) : i64 n := by
  have : -9223372036854775808 ≤ n ∧ n ≤ 9223372036854775807 := by simpa [Lit.wf, IntKind.has, IntKind.min, IntKind.max, IntKind.signed, IntKind.bits] using h
  exact this
theorem int_arg {W : World} {base : Nat} {v : Value} (h : Rd P W ty_int v.cells.toList ∧ Value.okWide P W .any base ty_int v) : ∃ n, v = .int .i64 n ∧ i64 n := by
  obtain ⟨h1, h2⟩ := h
  rw [okWide_cells h2 (by kernel_rfl)] at h1
  obtain ⟨n, h3, h4⟩ := h1.int1 (k := .i64) (by kernel_rfl)
  exact ⟨n, h3, wf_i64 h4⟩
theorem u8_arg {W : World} {base : Nat} {v : Value} (h : Rd P W ty_uint8 v.cells.toList ∧ Value.okWide P W .any base ty_uint8 v) : ∃ n : UInt8, v = .int .u8 n.toNat := by
  obtain ⟨h1, h2⟩ := h
  rw [okWide_cells h2 (by kernel_rfl)] at h1
  exact h1.u8 (by kernel_rfl)
theorem str_arg {W : World} {base : Nat} {v : Value} (h : Rd P W ty_string v.cells.toList ∧ Value.okWide P W .any base ty_string v) : ∃ s : ByteArray, v = .string s := by
  obtain ⟨h1, h2⟩ := h
  rw [okWide_cells h2 (by kernel_rfl)] at h1
  obtain ⟨n, h3, _⟩ := h1.str1 (by kernel_rfl)
  exact ⟨n, h3⟩
theorem row_arg {t : TypeId} {W : World} {base : Nat} {v : Value} (ha : aggQ P t = some false) (h : Rd P W t v.cells.toList ∧ Value.okWide P W .any base t v) : Rd P W t [v] := by
  obtain ⟨h1, h2⟩ := h
  rw [okWide_cells h2 ha] at h1
  exact h1

theorem pick_row {α : Type} {n : Nat} {R : Nat → α → Prop} (h : ∀ i, i < n → ∃ x, R i x) : ∃ l : List α, l.length = n ∧ ∀ i x, l[i]? = some x → R i x := by
  induction n with
  | zero => exact ⟨[], rfl, fun i x hx => by simp at hx⟩
  | succ n ih =>
    obtain ⟨l, hl, hr⟩ := ih (fun i hi => h i (by omega))
    obtain ⟨x, hx⟩ := h n (by omega)
    refine ⟨l ++ [x], by simp [hl], fun i y hy => ?_⟩
    rcases Nat.lt_or_ge i n with hi | hi
    · rw [List.getElem?_append_left (by omega)] at hy; exact hr i y hy
    · have hlt := (List.getElem?_eq_some_iff.1 hy).1
      have : i = n := by simp [hl] at hlt; omega
      subst this
      rw [List.getElem?_append_right (by omega), hl, Nat.sub_self] at hy
      rw [← Option.some.inj hy]; exact hx

theorem strs_arg {W : World} {base : Nat} {v : Value} (h0 : Rd P W 28 v.cells.toList ∧ Value.okWide P W .any base 28 v) : ∃ (s : Sl) (ns : List Bytes), v = .slice s.p s.n s.c ∧ Strs W s ns := by
  have h := row_arg (by kernel_rfl) h0
  obtain ⟨p, n, c, rfl, _, _, hi⟩ := h.slice1 (e := ty_string) (by kernel_rfl)
  have h1 : P.cellsOf ty_string = 1 := by kernel_rfl
  obtain ⟨ns, hl, hr⟩ := pick_row (R := fun i (x : Bytes) => ∃ a, p = some a ∧ W.cell? (a.add i) = some (strV x)) (n := n) (fun i hlt => by
    obtain ⟨a, es, hp, hl, hc, hr⟩ := hi i hlt
    rw [h1] at hc hl
    match es, hl with
    | [v0], _ =>
    obtain ⟨x, rfl, _⟩ := hr.str1 (by kernel_rfl)
    have := hc 0 (by decide)
    rw [Nat.mul_one] at this
    refine ⟨bs x, a, hp, ?_⟩
    have e : (a.add i).add 0 = a.add i := by unfold Addr.add; simp
    rw [e] at this
    rw [this]; show some (Value.string x) = some (Value.string (mk (bs x))); rw [mk_bs])
  exact ⟨⟨p, n, c⟩, ns, rfl, hl.symm, hr⟩
theorem ints_arg {W : World} {base : Nat} {v : Value} (h0 : Rd P W 29 v.cells.toList ∧ Value.okWide P W .any base 29 v) : ∃ (s : Sl) (vs : List Int), v = .slice s.p s.n s.c ∧ Intz W s vs ∧ ∀ x ∈ vs, i64 x := by
  have h := row_arg (by kernel_rfl) h0
  obtain ⟨p, n, c, rfl, _, _, hi⟩ := h.slice1 (e := ty_int) (by kernel_rfl)
  have h1 : P.cellsOf ty_int = 1 := by kernel_rfl
  obtain ⟨vs, hl, hr⟩ := pick_row (R := fun i (x : Int) => i64 x ∧ ∃ a, p = some a ∧ W.cell? (a.add i) = some (.int .i64 x)) (n := n) (fun i hlt => by
    obtain ⟨a, es, hp, hl, hc, hr⟩ := hi i hlt
    rw [h1] at hc hl
    match es, hl with
    | [v0], _ =>
    obtain ⟨x, rfl, hwf⟩ := hr.int1 (k := .i64) (by kernel_rfl)
    have := hc 0 (by decide)
    rw [Nat.mul_one] at this
    refine ⟨x, wf_i64 hwf, a, hp, ?_⟩
    have e : (a.add i).add 0 = a.add i := by unfold Addr.add; simp
    rw [e] at this
    rw [this]; rfl)
  refine ⟨⟨p, n, c⟩, vs, rfl, ⟨hl.symm, fun i x hx => (hr i x hx).2⟩, fun x hx => ?_⟩
  obtain ⟨i, hi⟩ := List.mem_iff_getElem?.1 hx
  exact (hr i x hi).1

/-! ### what is laid -/

abbrev laidL : List (String × DataW Unit) := Rows.controlReadsRow.laid

theorem door_met (os : Os) (args : Array Value) : laidMetH P laidL ((World.doorLaid P 62 os).forCall (fun _ _ => 0) ⟨#[], args, []⟩).memory :=
  laidMetH_of_parts3 (fuel := 8) (laidMet_of_run' 8 (by kernel_rfl) (by kernel_rfl)) (by kernel_rfl) (by kernel_rfl)

theorem row98 (u : TypeId) (hu : P.typeName? 3 u = some ("*" ++ "errors.errorString")) : u = 98 := typeName_ptr_named (P := P) (nm := "errors.errorString") (tp := 98) (by kernel_rfl) (by kernel_rfl) (by decide) u hu

theorem libs_of {W : World} (h : laidMetH P laidL W) (hs : W.ShapedOpen P) : Libs W := by
  rw [MakeChecks.laidMetH_plain _ _ _ (by kernel_rfl)] at h
  have h3 := laidMet.tail (laidMet.tail h)
  have h4 := laidMet.tail h3
  have h5 := laidMet.tail h4
  obtain ⟨m, hm⟩ := Tryd.cutL.s1_3 W hs
  obtain ⟨a1, s1, hv1, -, -, -⟩ := laid_sentinel h4 Tryd.atoiL.m16 (ti := 53) (tp := 98) (te := 100) (ts := 9) (by kernel_rfl) iface53 row98 Tryd.underlying98 Tryd.underlying100 rfl rfl Tryd.underlying9 (by kernel_rfl) (by kernel_rfl)
  obtain ⟨a2, s2, hv2, -, -, -⟩ := laid_sentinel h5 Tryd.atoiL.m15 (ti := 53) (tp := 98) (te := 100) (ts := 9) (by kernel_rfl) iface53 row98 Tryd.underlying98 Tryd.underlying100 rfl rfl Tryd.underlying9 (by kernel_rfl) (by kernel_rfl)
  have ht : Lib.TabIs P W _ .u64 Lib.pow10Tab := Lib.tabIs_of_head (t := 90) (e := 75) (n := 20) Tryd.itoaL.m17 (by kernel_rfl) (by kernel_rfl) (by kernel_rfl) (by kernel_rfl) (by kernel_rfl) h3
  refine ⟨fun n hn => ?_, ⟨m, hm⟩, ⟨_, by have h0 := World.var?_cell Tryd.atoiL.m15 hv2 0; simpa using h0, .inr ⟨_, _, rfl⟩⟩, ⟨_, by have h0 := World.var?_cell Tryd.atoiL.m16 hv1 0; simpa using h0, .inr ⟨_, _, rfl⟩⟩⟩
  unfold Lib.TabIs World.var? at ht ⊢
  rw [Tryd.itoaL.m17] at ht
  rw [hn]; exact ht


end Go.Proofs.YtejlkhhomnoagaaDoor
