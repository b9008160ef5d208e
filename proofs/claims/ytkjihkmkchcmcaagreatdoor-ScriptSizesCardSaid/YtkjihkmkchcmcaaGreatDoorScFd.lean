/- Script: A script is as long as its operations: the law answers true and lets its arguments be; for every input. -/
import Derived.Test.YtkjihkmkchcmcaaGreatDoorScF0
set_option maxRecDepth 100000
namespace Go.Proofs.YtkjihkmkchcmcaaGreatDoor
open Go Go.Vc Go.Sp Go.Mp Go.Ct

theorem scriptSizes_lifted (os : Os) (started : os.Started) (H : Type) (enc : TypeId × Value → H) :
    ReturnsInHanded {} Chk os fn_millpondlaw20_ScriptSizes .any (fun w args => (Rows.scriptSizesSpec.pre enc P F_millpondlaw20_ScriptSizes [] false w args ∧ laidMetH P laidL w) ∧ sizedMet enc P F_millpondlaw20_ScriptSizes (OpenSpec.ofChange Rows.scriptSizesSpec) false w args) (Rows.scriptSizesSpec.post enc P F_millpondlaw20_ScriptSizes false true false false) := by
  refine law_lifted_laid (C := Chk) (tb := ty_bool) (X := fun w => laidMetH P laidL w) (fun _ _ hh h => h.of_heap hh) own started (by kernel_rfl) func_millpondlaw20_ScriptSizes
    (ChangeSpec.witness_shaped (enc := enc) (C := Chk) (os := os) (X := fun w _ => laidMetH P laidL w) false (World.laidAll P os laidL) #[.slice none 0 0, .int .i64 0] 8 (World.laidAll_os _ _ _) (World.shaped_of_ZipB (by kernel_rfl) (by kernel_rfl)) (by kernel_rfl) (by kernel_rfl) (by kernel_rfl) (door_met os _))
    laidOut (by kernel_rfl) (by kernel_rfl) rfl (by kernel_rfl) ?_ ?_
  · intro ds gs hd hg
    match ds, gs, hd, hg with
    | [d0, d1], [], _, _ => rfl
  · intro W base args hsz hargs _ _
    obtain ⟨x0, x1, rfl⟩ := args2 hsz
    have a0 := hargs 0 _ _ rfl rfl
    have a1 := hargs 1 _ _ rfl rfl
    obtain ⟨s, l, rfl, hO⟩ := ops_arg a0
    obtain ⟨k, rfl, _⟩ := int_arg a1
    refine use (law_Sizes k hO) ?_
    rintro v w' ⟨rfl, L, i, hi, h⟩
    exact ⟨_, rfl, rfl, h.below hi⟩

theorem scriptSizes_named : Tryz.pinned.checked.prog.funcNamed Rows.scriptSizesRow.func = some fn_millpondlaw20_ScriptSizes := by kernel_rfl
theorem scriptSizes_jA : jfA P F_millpondlaw20_ScriptSizes Rows.scriptSizesSpec Rows.scriptSizesRow = true := by kernel_rfl
theorem scriptSizes_jB : jfB P fn_millpondlaw20_ScriptSizes Rows.scriptSizesRow = true := by kernel_rfl
theorem scriptSizes_jC : jfC P fn_millpondlaw20_ScriptSizes Rows.scriptSizesRow = true := by kernel_rfl
theorem scriptSizes_jD : jfD P fn_millpondlaw20_ScriptSizes Rows.scriptSizesRow = true := by kernel_rfl
theorem scriptSizes_jE : jfE P fn_millpondlaw20_ScriptSizes Rows.scriptSizesRow = true := by kernel_rfl
theorem scriptSizes_jF : jfF P F_millpondlaw20_ScriptSizes Rows.scriptSizesSpec Rows.scriptSizesRow = true := by kernel_rfl
theorem scriptSizes_jG : jfG P F_millpondlaw20_ScriptSizes Rows.scriptSizesSpec Rows.scriptSizesRow = true := by kernel_rfl
theorem scriptSizes_jH : jfH P Rows.scriptSizesRow = true := by kernel_rfl
theorem scriptSizes_jI : jfI P F_millpondlaw20_ScriptSizes Rows.scriptSizesSpec Rows.scriptSizesRow = true := by kernel_rfl

theorem scriptSizes_holds : Rows.ScriptSizesSaid :=
  OpenClaim.holds_of_wide fn_millpondlaw20_ScriptSizes F_millpondlaw20_ScriptSizes rfl rfl rfl rfl rfl rfl rfl ⟨rfl, rfl, rfl, rfl, rfl⟩ rfl rfl rfl rfl rfl scriptSizes_named func_millpondlaw20_ScriptSizes
    (joined_of scriptSizes_jA scriptSizes_jB scriptSizes_jC scriptSizes_jD scriptSizes_jE scriptSizes_jF scriptSizes_jG scriptSizes_jH scriptSizes_jI)
    (of_decide_eq_true (by kernel_rfl)) (by unfold Func.isWrapper; rw [if_neg (by decide +kernel)]; exact ⟨rfl, rfl⟩)
    (fun os started H enc _ => scriptSizes_lifted os started H enc)

theorem scriptSizes_wf : Rows.scriptSizesRow.wfByText (OpenSpec.ofChange Rows.scriptSizesSpec) = true := by kernel_rfl
theorem scriptSizes_main : Tryz.pinned.checked.prog.mainIs = some (true, "9d1bfa84baeb23974ba420b5cf0e19ce5018ef84fdb3c880c0f41174af44bc20".toList) := by kernel_rfl
theorem scriptSizes_looks : false = Tryz.pinned.checked.prog.looks [] := by kernel_rfl
theorem scriptSizes_goes : false = Rows.scriptSizesRow.goesBy Tryz.pinned.checked.prog := by kernel_rfl
theorem scriptSizes_stand : (F_millpondlaw20_ScriptSizes.params.toList.all fun u => !P.wantsStandIn u) = true := by kernel_rfl

theorem scriptSizes_card : Rows.ScriptSizesCardSaid :=
  Claim7.holds_tied_plain_at .later [] [.data] true (true, "9d1bfa84baeb23974ba420b5cf0e19ce5018ef84fdb3c880c0f41174af44bc20") false
    scriptSizes_holds (fun _ h => by cases h) scriptSizes_wf (fun _ h => by cases h) scriptSizes_row_tie rfl ⟨rfl, rfl⟩ scriptSizes_main rfl
    (fun f fn hf hfn => by
      obtain rfl : f = fn_millpondlaw20_ScriptSizes := Option.some.inj (scriptSizes_named.symm.trans hf) |>.symm
      obtain rfl : fn = F_millpondlaw20_ScriptSizes := (Option.some.inj (func_millpondlaw20_ScriptSizes.symm.trans hfn)).symm
      refine ⟨scriptSizes_looks, fun j t ht => ?_⟩
      have hm : t ∈ F_millpondlaw20_ScriptSizes.params.toList := by simpa using Array.mem_of_getElem? ht
      exact (show P.wantsStandIn t = false by simpa using List.all_eq_true.1 scriptSizes_stand t hm))
    scriptSizes_goes

end Go.Proofs.YtkjihkmkchcmcaaGreatDoor
