/- Script: What is put is got again: the law answers true and lets its arguments be; for every input. -/
import Derived.Test.YtkjihkmkchcmcaaGreatDoorScF0
set_option maxRecDepth 100000
namespace Go.Proofs.YtkjihkmkchcmcaaGreatDoor
open Go Go.Vc Go.Sp Go.Mp Go.Ct

theorem scriptBack_lifted (os : Os) (started : os.Started) (H : Type) (enc : TypeId × Value → H) :
    ReturnsInHanded {} Chk os fn_millpondlaw20_ScriptBack .any (fun w args => (Rows.scriptBackSpec.pre enc P F_millpondlaw20_ScriptBack [] false w args ∧ laidMetH P laidL w) ∧ sizedMet enc P F_millpondlaw20_ScriptBack (OpenSpec.ofChange Rows.scriptBackSpec) false w args) (Rows.scriptBackSpec.post enc P F_millpondlaw20_ScriptBack false true false false) := by
  refine law_lifted_laid (C := Chk) (tb := ty_bool) (X := fun w => laidMetH P laidL w) (fun _ _ hh h => h.of_heap hh) own started (by kernel_rfl) func_millpondlaw20_ScriptBack
    (ChangeSpec.witness_shaped (enc := enc) (C := Chk) (os := os) (X := fun w _ => laidMetH P laidL w) false (World.laidAll P os laidL) #[.slice none 0 0, .string ⟨#[]⟩] 8 (World.laidAll_os _ _ _) (World.shaped_of_ZipB (by kernel_rfl) (by kernel_rfl)) (by kernel_rfl) (by kernel_rfl) (by kernel_rfl) (door_met os _))
    laidOut (by kernel_rfl) (by kernel_rfl) rfl (by kernel_rfl) ?_ ?_
  · intro ds gs hd hg
    match ds, gs, hd, hg with
    | [d0, d1], [], _, _ => rfl
  · intro W base args hsz hargs _ _
    obtain ⟨x0, x1, rfl⟩ := args2 hsz
    have a0 := hargs 0 _ _ rfl rfl
    have a1 := hargs 1 _ _ rfl rfl
    obtain ⟨s, l, rfl, hO⟩ := ops_arg a0
    obtain ⟨text, rfl⟩ := str_arg a1
    refine use (law_Back text hO) ?_
    rintro v w' ⟨rfl, L, i, hi, h⟩
    exact ⟨_, rfl, rfl, h.below hi⟩

theorem scriptBack_named : Tryz.pinned.checked.prog.funcNamed Rows.scriptBackRow.func = some fn_millpondlaw20_ScriptBack := by kernel_rfl
theorem scriptBack_jA : jfA P F_millpondlaw20_ScriptBack Rows.scriptBackSpec Rows.scriptBackRow = true := by kernel_rfl
theorem scriptBack_jB : jfB P fn_millpondlaw20_ScriptBack Rows.scriptBackRow = true := by kernel_rfl
theorem scriptBack_jC : jfC P fn_millpondlaw20_ScriptBack Rows.scriptBackRow = true := by kernel_rfl
theorem scriptBack_jD : jfD P fn_millpondlaw20_ScriptBack Rows.scriptBackRow = true := by kernel_rfl
theorem scriptBack_jE : jfE P fn_millpondlaw20_ScriptBack Rows.scriptBackRow = true := by kernel_rfl
theorem scriptBack_jF : jfF P F_millpondlaw20_ScriptBack Rows.scriptBackSpec Rows.scriptBackRow = true := by kernel_rfl
theorem scriptBack_jG : jfG P F_millpondlaw20_ScriptBack Rows.scriptBackSpec Rows.scriptBackRow = true := by kernel_rfl
theorem scriptBack_jH : jfH P Rows.scriptBackRow = true := by kernel_rfl
theorem scriptBack_jI : jfI P F_millpondlaw20_ScriptBack Rows.scriptBackSpec Rows.scriptBackRow = true := by kernel_rfl

theorem scriptBack_holds : Rows.ScriptBackSaid :=
  OpenClaim.holds_of_wide fn_millpondlaw20_ScriptBack F_millpondlaw20_ScriptBack rfl rfl rfl rfl rfl rfl rfl ⟨rfl, rfl, rfl, rfl, rfl⟩ rfl rfl rfl rfl rfl scriptBack_named func_millpondlaw20_ScriptBack
    (joined_of scriptBack_jA scriptBack_jB scriptBack_jC scriptBack_jD scriptBack_jE scriptBack_jF scriptBack_jG scriptBack_jH scriptBack_jI)
    (of_decide_eq_true (by kernel_rfl)) (by unfold Func.isWrapper; rw [if_neg (by decide +kernel)]; exact ⟨rfl, rfl⟩)
    (fun os started H enc _ => scriptBack_lifted os started H enc)

theorem scriptBack_wf : Rows.scriptBackRow.wfByText (OpenSpec.ofChange Rows.scriptBackSpec) = true := by kernel_rfl
theorem scriptBack_main : Tryz.pinned.checked.prog.mainIs = some (true, "9d1bfa84baeb23974ba420b5cf0e19ce5018ef84fdb3c880c0f41174af44bc20".toList) := by kernel_rfl
theorem scriptBack_looks : false = Tryz.pinned.checked.prog.looks [] := by kernel_rfl
theorem scriptBack_goes : false = Rows.scriptBackRow.goesBy Tryz.pinned.checked.prog := by kernel_rfl
theorem scriptBack_stand : (F_millpondlaw20_ScriptBack.params.toList.all fun u => !P.wantsStandIn u) = true := by kernel_rfl

theorem scriptBack_card : Rows.ScriptBackCardSaid :=
  Claim7.holds_tied_plain_at .later [] [.data] true (true, "9d1bfa84baeb23974ba420b5cf0e19ce5018ef84fdb3c880c0f41174af44bc20") false
    scriptBack_holds (fun _ h => by cases h) scriptBack_wf (fun _ h => by cases h) scriptBack_row_tie rfl ⟨rfl, rfl⟩ scriptBack_main rfl
    (fun f fn hf hfn => by
      obtain rfl : f = fn_millpondlaw20_ScriptBack := Option.some.inj (scriptBack_named.symm.trans hf) |>.symm
      obtain rfl : fn = F_millpondlaw20_ScriptBack := (Option.some.inj (func_millpondlaw20_ScriptBack.symm.trans hfn)).symm
      refine ⟨scriptBack_looks, fun j t ht => ?_⟩
      have hm : t ∈ F_millpondlaw20_ScriptBack.params.toList := by simpa using Array.mem_of_getElem? ht
      exact (show P.wantsStandIn t = false by simpa using List.all_eq_true.1 scriptBack_stand t hm))
    scriptBack_goes

end Go.Proofs.YtkjihkmkchcmcaaGreatDoor
