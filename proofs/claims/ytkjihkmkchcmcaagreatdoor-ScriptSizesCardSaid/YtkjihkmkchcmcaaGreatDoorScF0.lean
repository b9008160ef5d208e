/- Script: what the rows of the five laws need. -/
import Derived.Test.YtkjihkmkchcmcaaGreatDoorScL
import Derived.Test.YtkjihkmkchcmcaaGreatDoorLawD
import Derived.Test.YtkjihkmkchcmcaaGreatDoorJoinB
import Derived.LaidMore
import Derived.Lay
import Derived.OpenShut
import Derived.Stop.LaidErr
import Derived.Lib.LaidTab
import Derived.SevenTiedAt
import Derived.Test.YtkjihkmkchcmcaaGreatDoorRows
import Derived.Test.YtkjihkmkchcmcaaGreatDoorTie
import Derived.Test.YtkjihkmkchcmcaaGreatDoorCards
set_option maxRecDepth 100000
namespace Go.Proofs.YtkjihkmkchcmcaaGreatDoor
open Go Go.Vc Go.Sp Go.Mp Go.Ct

theorem own : ownKnob P.godebug = none := by kernel_rfl
theorem laidOut : laidOutB P = true := by kernel_rfl

theorem args1 {α : Type} {a : Array α} (h : a.size = 1) : ∃ x0, a = #[x0] := by
  obtain ⟨l⟩ := a
  match l, h with
  | [x0], _ => exact ⟨x0, rfl⟩
theorem args2 {α : Type} {a : Array α} (h : a.size = 2) : ∃ x0 x1, a = #[x0, x1] := by
  obtain ⟨l⟩ := a
  match l, h with
  | [x0, x1], _ => exact ⟨x0, x1, rfl⟩
theorem args3 {α : Type} {a : Array α} (h : a.size = 3) : ∃ x0 x1 x2, a = #[x0, x1, x2] := by
  obtain ⟨l⟩ := a
  match l, h with
  | [x0, x1, x2], _ => exact ⟨x0, x1, x2, rfl⟩
theorem wf_i64 {n : Int} (h : (Lit.int .i64 n).wf = true) : i64 n := by
  have : -9223372036854775808 ≤ n ∧ n ≤ 9223372036854775807 := by simpa [Lit.wf, IntKind.has, IntKind.min, IntKind.max, IntKind.signed, IntKind.bits] using h
  exact this
theorem int_arg {W : World} {base : Nat} {v : Value} (h : Rd P W ty_int v.cells.toList ∧ Value.okWide P W .any base ty_int v) : ∃ n, v = .int .i64 n ∧ i64 n := by
  obtain ⟨h1, h2⟩ := h
  rw [okWide_cells h2 (by kernel_rfl)] at h1
  obtain ⟨n, h3, h4⟩ := h1.int1 (k := .i64) (by kernel_rfl)
  exact ⟨n, h3, wf_i64 h4⟩
theorem str_arg {W : World} {base : Nat} {v : Value} (h : Rd P W ty_string v.cells.toList ∧ Value.okWide P W .any base ty_string v) : ∃ s : ByteArray, v = .string s := by
  obtain ⟨h1, h2⟩ := h
  rw [okWide_cells h2 (by kernel_rfl)] at h1
  obtain ⟨n, h3, _⟩ := h1.str1 (by kernel_rfl)
  exact ⟨n, h3⟩
theorem row_arg {t : TypeId} {W : World} {base : Nat} {v : Value} (ha : aggQ P t = some false) (h : Rd P W t v.cells.toList ∧ Value.okWide P W .any base t v) : Rd P W t [v] := by
  obtain ⟨h1, h2⟩ := h
  rw [okWide_cells h2 ha] at h1
  exact h1

theorem pick_row {α : Type} {n : Nat} {R : Nat → α → Prop} (h : ∀ i, i < n → ∃ x, R i x) : ∃ l : List α, l.length = n ∧ ∀ i x, l[i]? = some x → R i x := by
  induction n with
  | zero => exact ⟨[], rfl, fun i x hx => by simp at hx⟩
  | succ n ih =>
    obtain ⟨l, hl, hr⟩ := ih (fun i hi => h i (by omega))
    obtain ⟨x, hx⟩ := h n (by omega)
    refine ⟨l ++ [x], by simp [hl], fun i y hy => ?_⟩
    rcases Nat.lt_or_ge i n with hi | hi
    · rw [List.getElem?_append_left (by omega)] at hy; exact hr i y hy
    · have hlt := (List.getElem?_eq_some_iff.1 hy).1
      have : i = n := by simp [hl] at hlt; omega
      subst this
      rw [List.getElem?_append_right (by omega), hl, Nat.sub_self] at hy
      rw [← Option.some.inj hy]; exact hx

theorem op_of {W : World} {cs : List Value} (h : Rd P W 25 cs) : ∃ o : Scr.Op, cs = o.vs := by
  obtain ⟨hl, hv⟩ := h.flat (ts := [23, 3, 3, 3, 3]) (by kernel_rfl)
  have key : ∀ (i : Nat) (u : TypeId), ([23, 3, 3, 3, 3] : List TypeId)[i]? = some u → P.underlying u = some (.int .i64) → ∃ n, cs[i]? = some (.int .i64 n) ∧ i64 n := fun i u hi hu => by
    obtain ⟨v, h1, h2⟩ := hv i u hi
    obtain ⟨n, rfl, h4⟩ := h2.int1 (k := .i64) hu
    exact ⟨n, h1, wf_i64 h4⟩
  obtain ⟨k, hk, _⟩ := key 0 23 rfl (by kernel_rfl)
  obtain ⟨a, ha, _⟩ := key 1 3 rfl (by kernel_rfl)
  obtain ⟨b, hb, _⟩ := key 2 3 rfl (by kernel_rfl)
  obtain ⟨c, hc, _⟩ := key 3 3 rfl (by kernel_rfl)
  obtain ⟨d, hd, _⟩ := key 4 3 rfl (by kernel_rfl)
  refine ⟨⟨k, a, b, c, d⟩, ?_⟩
  · match cs, hl, hk, ha, hb, hc, hd with
    | [x0, x1, x2, x3, x4], _, hk, ha, hb, hc, hd =>
      simp only [List.getElem?_cons_zero, List.getElem?_cons_succ, Option.some.injEq] at hk ha hb hc hd
      subst hk ha hb hc hd; rfl

theorem op_arg {W : World} {base : Nat} {v : Value} (h0 : Rd P W 25 v.cells.toList ∧ Value.okWide P W .any base 25 v) : ∃ o : Scr.Op, v = o.v := by
  obtain ⟨o, ho⟩ := op_of h0.1
  refine ⟨o, ?_⟩
  cases v with
  | agg cs =>
    have : cs.toList = o.vs := ho
    show Value.agg cs = Value.agg o.vs.toArray
    rw [← this]
  | _ => exact absurd (congrArg List.length ho) (by show ¬ (1 : Nat) = 5; decide)

theorem ops_arg {W : World} {base : Nat} {v : Value} (h0 : Rd P W 22 v.cells.toList ∧ Value.okWide P W .any base 22 v) : ∃ (s : Sl) (l : List Scr.Op), v = .slice s.p s.n s.c ∧ Ops W s l := by
  have h := row_arg (by kernel_rfl) h0
  obtain ⟨p, n, c, rfl, _, _, hi⟩ := h.slice1 (e := 25) (by kernel_rfl)
  have h1 : P.cellsOf 25 = 5 := by kernel_rfl
  obtain ⟨l, hl, hr⟩ := pick_row (R := fun i (x : Scr.Op) => ∃ a, p = some a ∧ ∀ (j : Nat) v, x.vs[j]? = some v → W.cell? ((a.add (i * 5)).add j) = some v) (n := n) (fun i hlt => by
    obtain ⟨a, es, hp, _, hc, hr⟩ := hi i hlt
    rw [h1] at hc
    obtain ⟨o, ho⟩ := op_of hr
    refine ⟨o, a, hp, fun j v hv => ?_⟩
    have hj : j < 5 := (List.getElem?_eq_some_iff.1 hv).1
    rw [hc j hj, ho]; exact hv)
  exact ⟨⟨p, n, c⟩, l, rfl, ⟨hl.symm, hr⟩⟩

/-! ### what is laid -/

abbrev laidL : List (String × DataW Unit) := Rows.scriptPutsRow.laid

theorem door_met (os : Os) (args : Array Value) : laidMetH P laidL ((World.laidAll P os laidL).forCall (fun _ _ => 0) ⟨#[], args, []⟩).memory := by
  rw [MakeChecks.laidMetH_plain _ _ _ (by kernel_rfl)]
  exact laidMet_laidAll _ (by kernel_rfl) (by kernel_rfl)


end Go.Proofs.YtkjihkmkchcmcaaGreatDoor
