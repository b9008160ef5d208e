/- core.New: all orders. -/
import Derived.Test.YtkjihkmkchcmcaaGreatDoorScV
set_option maxRecDepth 100000
namespace Go.Mp
open Go Go.Vc Go.Sp Go.Proofs Go.Ct

variable {E : Env} {L : List Asn} {w W : World}

def regOps (id : Nat) : Code → Option (Array Oper)
  | .region i ops _ => bif Nat.beq i id then some ops else none
  | .seq x y => match regOps id x with
    | some o => some o
    | none => regOps id y
  | _ => none
noncomputable def opsC : Array Oper := ((Tryz.f26.body.bind (regOps 1)).getD #[])
def oper0 : Oper := { dst := none, op := .assign (.const (.pointer none)), type := 0, pos := "", after := #[], guard := none }
noncomputable def opC (i : Nat) : Oper := (opsC[i]?).getD oper0
def ann_core_New : Ann := { fork := fun r => Nat.beq r 1 }
noncomputable def T0C (fr sl : Int) (sz : Sl) : Tr := (initT [.int .i64 fr, .int .i64 sl, .slice sz.p sz.n sz.c] 0 .nil).put (some 6) (.pointer none)
def QFC (K : Value → World → Prop) : Exit → Tr → World → Prop := XThen (vc P tau rho pan ann_core_New 998 .ret (vRet P tau [.tmp 6] K (fun _ _ => False))) (vRet P tau [.tmp 6] K (fun _ _ => False))
theorem vc_made {P : Program} {τ : TypeId → K1} {ρ : TypeId → Kd} {pan : FuncId → Bool} {A : Ann} {n i j : Nat} {ops0 ops : Array Oper} {Q : Exit → Tr → World → Prop} {T : Tr} {w : World} (h1 : A.join j = none) (h2 : A.sig j = none) (h3 : A.fork j = true) :
    vc P τ ρ pan A (n + 3) (.seq (.region i ops0 false) (.seq (.region j ops true) .ret)) Q T w =
      vOps P τ ρ pan A ops0 (XThen (fun T w => Dr (fun w' => vAny P τ ρ pan A ops (XThen (vc P τ ρ pan A (n + 1) .ret Q) Q) ops.size (Array.replicate ops.size false) T w') w) Q) ops0.toList T w := by
  have e1 : joinOf A (.seq (.region j ops true) .ret) = none := by simp [joinOf, firstRegion, h1]
  have e2 : joinOf A .ret = none := rfl
  have e3 : ∀ T w, vc P τ ρ pan A (n + 2) (.seq (.region j ops true) .ret) Q T w = Dr (fun w' => vAny P τ ρ pan A ops (XThen (vc P τ ρ pan A (n + 1) .ret Q) Q) ops.size (Array.replicate ops.size false) T w') w := by
    intro T w
    rw [vc]
    simp only [e2]
    rw [vc]
    unfold vRegion
    simp only [h2, h3, cond_true]
  rw [vc]
  simp only [e1]
  rw [vc]
  unfold vRegion
  dsimp only
  have e4 : vc P τ ρ pan A (n + 2) (.seq (.region j ops true) .ret) Q = fun T w => Dr (fun w' => vAny P τ ρ pan A ops (XThen (vc P τ ρ pan A (n + 1) .ret Q) Q) ops.size (Array.replicate ops.size false) T w') w := by
    funext T w; exact e3 T w
  rw [e4]
noncomputable def opsC0 : Array Oper := ((Tryz.f26.body.bind (regOps 0)).getD #[])
theorem body_core_New : Tryz.f26.body = some (.seq (.region 0 opsC0 false) (.seq (.region 1 opsC true) .ret)) := by kernel_rfl
theorem res_core_New : Tryz.f26.results = #[.tmp 6] := by kernel_rfl
theorem start_core_New (next : Tr → World → Prop) (Q : Exit → Tr → World → Prop) (T : Tr) (w : World) : vOps P tau rho pan ann_core_New opsC0 (XThen next Q) opsC0.toList T w = next (T.put (some 6) (.pointer none)) w := by kernel_rfl
theorem vc_core_New (fr sl : Int) (sz : Sl) (K : Value → World → Prop) (w : World) :
    vcFn P tau rho pan ann_core_New Tryz.f26 #[.int .i64 fr, .int .i64 sl, .slice sz.p sz.n sz.c] K (fun _ _ => False) w = Dr (fun w' => vAny P tau rho pan ann_core_New opsC (QFC K) opsC.size (Array.replicate opsC.size false) (T0C fr sl sz) w') w := by
  unfold vcFn
  rw [body_core_New, res_core_New]
  dsimp only
  rw [show (1000 : Nat) = 997 + 3 from rfl, vc_made rfl rfl rfl, start_core_New]
  rfl
theorem ok_core_New : okFn P ann_core_New Tryz.f26 3 = true := by kernel_rfl
theorem own_core_New : ownB opsC = true := by decide +kernel
theorem size_core_New : opsC.size = 16 := by kernel_rfl
theorem fin_core_New (K : Value → World → Prop) (T : Tr) (w : World) : QFC K .normal T w = K (T.get 6) w := by kernel_rfl

variable (T : Tr) (next : Tr → World → Prop) (Q : Exit → Tr → World → Prop)
abbrev vopC (i : Nat) := vOp P tau rho pan ann_core_New (opC i) T w next Q
theorem opC0 : vopC (w := w) T next Q 0 = Calls P fn_tree_New #[] w fun e w' => ∃ p : Option Addr, e = .returned (.pointer p) ∧ next (T.put (some 7) (.pointer p)) w' := by kernel_rfl
theorem opC1 : vopC (w := w) T next Q 1 = next (T.put (some 8) (T.get 0)) w := by kernel_rfl
theorem opC2 : vopC (w := w) T next Q 2 = Calls P fn_core_newStore #[T.get 8] w fun e w' => ∃ a b c : Option Addr, e = .returned (.agg #[.pointer a, .pointer b, .pointer c]) ∧ next (T.put (some 9) (.agg #[.pointer a, .pointer b, .pointer c])) w' := by kernel_rfl
theorem opC3 : vopC (w := w) T next Q 3 = next (T.put (some 10) (T.get 1)) w := by kernel_rfl
theorem opC4 : vopC (w := w) T next Q 4 = Calls P fn_core_newStore #[T.get 10] w fun e w' => ∃ a b c : Option Addr, e = .returned (.agg #[.pointer a, .pointer b, .pointer c]) ∧ next (T.put (some 11) (.agg #[.pointer a, .pointer b, .pointer c])) w' := by kernel_rfl
theorem opC5 : vopC (w := w) T next Q 5 = next (T.put (some 12) (T.get 2)) w := by kernel_rfl
theorem opC6 : vopC (w := w) T next Q 6 = Calls P fn_files_New #[T.get 12] w fun e w' => ∃ p : Option Addr, e = .returned (.pointer p) ∧ next (T.put (some 13) (.pointer p)) w' := by kernel_rfl
theorem opC7 : vopC (w := w) T next Q 7 = Calls P fn_gens_New #[] w fun e w' => ∃ p : Option Addr, e = .returned (.pointer p) ∧ next (T.put (some 14) (.pointer p)) w' := by kernel_rfl
theorem opC8 : vopC (w := w) T next Q 8 = Calls P fn_shadow_New #[] w fun e w' => ∃ p : Option Addr, e = .returned (.pointer p) ∧ next (T.put (some 15) (.pointer p)) w' := by kernel_rfl
theorem opC9 : vopC (w := w) T next Q 9 = Calls P fn_pages_New #[] w fun e w' => ∃ p : Option Addr, e = .returned (.pointer p) ∧ next (T.put (some 16) (.pointer p)) w' := by kernel_rfl
theorem opC10 : vopC (w := w) T next Q 10 = AlM (fun q => next (T.put (some 17) (.map (some q)))) w := by kernel_rfl
theorem opC11 : vopC (w := w) T next Q 11 = ∃ x : Sl, ∃ w', Sem.run P (Instr.makeSlice 98 (.int .i64 1) (.int .i64 1)) w = .ok (.slice x.p x.n x.c) w' ∧ next (T.put (some 18) (.slice x.p x.n x.c)) w' := by kernel_rfl
theorem opC12 : vopC (w := w) T next Q 12 = Al (.cells #[.int .i64 (-1)] 3) (fun q => next (T.put (some 19) (.slice (some q) 1 1))) w := by kernel_rfl
theorem opC14 : vopC (w := w) T next Q 14 = Al (.cells (T.get 20).cells 100) (fun q => next (T.put (some 21) (.pointer (some q)))) w := by kernel_rfl
theorem opC15 : vopC (w := w) T next Q 15 = next (T.put (some 6) (T.get 21)) w := by kernel_rfl
end Go.Mp
