/- Control: one of its laws: true, and its arguments are let be; for every input. -/
import Derived.Test.YtejlkhhomnoagaaDoorCnF0
set_option maxRecDepth 100000
namespace Go.Proofs.YtejlkhhomnoagaaDoor
open Go Go.Vc Go.Sp Go.Mp Go.Ct

theorem controlNames_lifted (os : Os) (started : os.Started) (H : Type) (enc : TypeId × Value → H) :
    ReturnsInHanded {} Chk os fn_millpondlaw11_ControlNames .any (fun w args => (Rows.controlNamesSpec.pre enc P F_millpondlaw11_ControlNames [] false w args ∧ laidMetH P laidL w) ∧ sizedMet enc P F_millpondlaw11_ControlNames (OpenSpec.ofChange Rows.controlNamesSpec) false w args) (Rows.controlNamesSpec.post enc P F_millpondlaw11_ControlNames false true false false) := by
  refine law_lifted_laid (C := Chk) (tb := ty_bool) (X := fun w => laidMetH P laidL w) (fun _ _ hh h => h.of_heap hh) own started (by kernel_rfl) func_millpondlaw11_ControlNames
    (ChangeSpec.witness_shaped (enc := enc) (C := Chk) (os := os) (X := fun w _ => laidMetH P laidL w) false (World.doorLaid P 62 os) #[.slice none 0 0, .slice none 0 0, .string ⟨#[]⟩, .int .i64 0] 8 rfl (World.shaped_of_RefB (by kernel_rfl) (by kernel_rfl)) (by kernel_rfl) (by kernel_rfl) (by kernel_rfl) (door_met os _))
    laidOut (by kernel_rfl) (by kernel_rfl) rfl (by kernel_rfl) ?_ ?_
  · intro ds gs hd hg
    match ds, gs, hd, hg with
    | [d0, d1, d2, d3], [], _, _ => rfl
  · intro W base args hsz hargs hsh hx
    have l := libs_of hx hsh
    obtain ⟨x0, x1, x2, x3, rfl⟩ := args4 hsz
    have a0 := hargs 0 _ _ rfl rfl
    have a1 := hargs 1 _ _ rfl rfl
    have a2 := hargs 2 _ _ rfl rfl
    have a3 := hargs 3 _ _ rfl rfl
    obtain ⟨sn, ns, rfl, hN⟩ := strs_arg a0
    obtain ⟨sv, vs, rfl, hV, hv⟩ := ints_arg a1
    obtain ⟨name, rfl⟩ := str_arg a2
    obtain ⟨n, rfl, hn⟩ := int_arg a3
    refine use (law_Names name n hn hN hV hv l) ?_
    rintro v w' ⟨rfl, L, i, hi, h⟩
    exact ⟨_, rfl, rfl, h.below hi⟩

theorem controlNames_holds : Rows.ControlNamesSaid :=
  OpenClaim.holds_of_wide fn_millpondlaw11_ControlNames F_millpondlaw11_ControlNames rfl rfl rfl rfl rfl rfl rfl ⟨rfl, rfl, rfl, rfl, rfl⟩ rfl rfl rfl rfl rfl (by kernel_rfl) func_millpondlaw11_ControlNames (by kernel_rfl)
    (of_decide_eq_true (by kernel_rfl)) (by unfold Func.isWrapper; rw [if_neg (by decide +kernel)]; exact ⟨rfl, rfl⟩)
    (fun os started H enc _ => controlNames_lifted os started H enc)

theorem controlNames_card : Rows.ControlNamesCardSaid :=
  Claim7.holds_tied_plain_at .later [] [.data, .data, .data, .sentinel, .sentinel] true (true, "60d162a71b7587fef49b1a5e8c43e9004ef89a10a2e784d0e122b5a218a3aed1") true
    controlNames_holds (fun _ h => by cases h) (by kernel_rfl) (fun _ h => by cases h) controlNames_row_tie rfl ⟨rfl, rfl⟩ (by kernel_rfl) rfl
    (fun f fn hf hfn => by
      obtain rfl : f = fn_millpondlaw11_ControlNames := Option.some.inj ((show P.funcNamed Rows.controlNamesRow.func = some fn_millpondlaw11_ControlNames by kernel_rfl).symm.trans hf) |>.symm
      obtain rfl : fn = F_millpondlaw11_ControlNames := (Option.some.inj (func_millpondlaw11_ControlNames.symm.trans hfn)).symm
      refine ⟨by kernel_rfl, fun j t ht => ?_⟩
      have hall : (F_millpondlaw11_ControlNames.params.toList.all fun u => !P.wantsStandIn u) = true := by kernel_rfl
      have hm : t ∈ F_millpondlaw11_ControlNames.params.toList := by simpa using Array.mem_of_getElem? ht
      exact (show P.wantsStandIn t = false by simpa using List.all_eq_true.1 hall t hm))
    (by kernel_rfl)

end Go.Proofs.YtejlkhhomnoagaaDoor
