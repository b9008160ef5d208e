/- Control: one of its laws: true, and its arguments are let be; for every input. -/
import Derived.Test.YtejlkhhomnoagaaDoorCnF0
set_option maxRecDepth 100000
namespace Go.Proofs.YtejlkhhomnoagaaDoor
open Go Go.Vc Go.Sp Go.Mp Go.Ct

theorem controlKilo_lifted (os : Os) (started : os.Started) (H : Type) (enc : TypeId × Value → H) :
    ReturnsInHanded {} Chk os fn_millpondlaw11_ControlKilo .any (fun w args => (Rows.controlKiloSpec.pre enc P F_millpondlaw11_ControlKilo [] false w args ∧ laidMetH P laidL w) ∧ sizedMet enc P F_millpondlaw11_ControlKilo (OpenSpec.ofChange Rows.controlKiloSpec) false w args) (Rows.controlKiloSpec.post enc P F_millpondlaw11_ControlKilo false true false false) := by
  refine law_lifted_laid (C := Chk) (tb := ty_bool) (X := fun w => laidMetH P laidL w) (fun _ _ hh h => h.of_heap hh) own started (by kernel_rfl) func_millpondlaw11_ControlKilo
    (ChangeSpec.witness_shaped (enc := enc) (C := Chk) (os := os) (X := fun w _ => laidMetH P laidL w) false (World.doorLaid P 62 os) #[.int .i64 0, .string ⟨#[]⟩] 8 rfl (World.shaped_of_RefB (by kernel_rfl) (by kernel_rfl)) (by kernel_rfl) (by kernel_rfl) (by kernel_rfl) (door_met os _))
    laidOut (by kernel_rfl) (by kernel_rfl) rfl (by kernel_rfl) ?_ ?_
  · intro ds gs hd hg
    match ds, gs, hd, hg with
    | [d0, d1], [], _, _ => rfl
  · intro W base args hsz hargs hsh hx
    have l := libs_of hx hsh
    obtain ⟨x0, x1, rfl⟩ := args2 hsz
    have a0 := hargs 0 _ _ rfl rfl
    have a1 := hargs 1 _ _ rfl rfl
    obtain ⟨n, rfl, hn⟩ := int_arg a0
    obtain ⟨file, rfl⟩ := str_arg a1
    refine use (law_Kilo n file hn l) ?_
    rintro v w' ⟨rfl, L, i, hi, h⟩
    exact ⟨_, rfl, rfl, h.below hi⟩

theorem controlKilo_holds : Rows.ControlKiloSaid :=
  OpenClaim.holds_of_wide fn_millpondlaw11_ControlKilo F_millpondlaw11_ControlKilo rfl rfl rfl rfl rfl rfl rfl ⟨rfl, rfl, rfl, rfl, rfl⟩ rfl rfl rfl rfl rfl (by kernel_rfl) func_millpondlaw11_ControlKilo (by kernel_rfl)
    (of_decide_eq_true (by kernel_rfl)) (by unfold Func.isWrapper; rw [if_neg (by decide +kernel)]; exact ⟨rfl, rfl⟩)
    (fun os started H enc _ => controlKilo_lifted os started H enc)

theorem controlKilo_card : Rows.ControlKiloCardSaid :=
  Claim7.holds_tied_plain_at .later [] [.data, .data, .data, .sentinel, .sentinel] true (true, "60d162a71b7587fef49b1a5e8c43e9004ef89a10a2e784d0e122b5a218a3aed1") true
    controlKilo_holds (fun _ h => by cases h) (by kernel_rfl) (fun _ h => by cases h) controlKilo_row_tie rfl ⟨rfl, rfl⟩ (by kernel_rfl) rfl
    (fun f fn hf hfn => by
      obtain rfl : f = fn_millpondlaw11_ControlKilo := Option.some.inj ((show P.funcNamed Rows.controlKiloRow.func = some fn_millpondlaw11_ControlKilo by kernel_rfl).symm.trans hf) |>.symm
      obtain rfl : fn = F_millpondlaw11_ControlKilo := (Option.some.inj (func_millpondlaw11_ControlKilo.symm.trans hfn)).symm
      refine ⟨by kernel_rfl, fun j t ht => ?_⟩
      have hall : (F_millpondlaw11_ControlKilo.params.toList.all fun u => !P.wantsStandIn u) = true := by kernel_rfl
      have hm : t ∈ F_millpondlaw11_ControlKilo.params.toList := by simpa using Array.mem_of_getElem? ht
      exact (show P.wantsStandIn t = false by simpa using List.all_eq_true.1 hall t hm))
    (by kernel_rfl)

end Go.Proofs.YtejlkhhomnoagaaDoor
