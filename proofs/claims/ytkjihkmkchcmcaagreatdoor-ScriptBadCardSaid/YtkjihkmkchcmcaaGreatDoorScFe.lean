/- Script: Where bytes are wrong, what is ahead is told, and where: the law answers true and lets its arguments be; for every input. -/
import Derived.Test.YtkjihkmkchcmcaaGreatDoorScF0
set_option maxRecDepth 100000
namespace Go.Proofs.YtkjihkmkchcmcaaGreatDoor
open Go Go.Vc Go.Sp Go.Mp Go.Ct

theorem scriptBad_lifted (os : Os) (started : os.Started) (H : Type) (enc : TypeId × Value → H) :
    ReturnsInHanded {} Chk os fn_millpondlaw20_ScriptBad .any (fun w args => (Rows.scriptBadSpec.pre enc P F_millpondlaw20_ScriptBad [] false w args ∧ laidMetH P laidL w) ∧ sizedMet enc P F_millpondlaw20_ScriptBad (OpenSpec.ofChange Rows.scriptBadSpec) false w args) (Rows.scriptBadSpec.post enc P F_millpondlaw20_ScriptBad false true false false) := by
  refine law_lifted_laid (C := Chk) (tb := ty_bool) (X := fun w => laidMetH P laidL w) (fun _ _ hh h => h.of_heap hh) own started (by kernel_rfl) func_millpondlaw20_ScriptBad
    (ChangeSpec.witness_shaped (enc := enc) (C := Chk) (os := os) (X := fun w _ => laidMetH P laidL w) false (World.laidAll P os laidL) #[.string ⟨#[]⟩, .string ⟨#[]⟩] 8 (World.laidAll_os _ _ _) (World.shaped_of_ZipB (by kernel_rfl) (by kernel_rfl)) (by kernel_rfl) (by kernel_rfl) (by kernel_rfl) (door_met os _))
    laidOut (by kernel_rfl) (by kernel_rfl) rfl (by kernel_rfl) ?_ ?_
  · intro ds gs hd hg
    match ds, gs, hd, hg with
    | [d0, d1], [], _, _ => rfl
  · intro W base args hsz hargs _ _
    obtain ⟨x0, x1, rfl⟩ := args2 hsz
    have a0 := hargs 0 _ _ rfl rfl
    have a1 := hargs 1 _ _ rfl rfl
    obtain ⟨s, rfl⟩ := str_arg a0
    obtain ⟨t, rfl⟩ := str_arg a1
    refine use (law_Bad s t) ?_
    rintro v w' ⟨rfl, L, i, hi, h⟩
    exact ⟨_, rfl, rfl, h.below hi⟩

theorem scriptBad_named : Tryz.pinned.checked.prog.funcNamed Rows.scriptBadRow.func = some fn_millpondlaw20_ScriptBad := by kernel_rfl
theorem scriptBad_jA : jfA P F_millpondlaw20_ScriptBad Rows.scriptBadSpec Rows.scriptBadRow = true := by kernel_rfl
theorem scriptBad_jB : jfB P fn_millpondlaw20_ScriptBad Rows.scriptBadRow = true := by kernel_rfl
theorem scriptBad_jC : jfC P fn_millpondlaw20_ScriptBad Rows.scriptBadRow = true := by kernel_rfl
theorem scriptBad_jD : jfD P fn_millpondlaw20_ScriptBad Rows.scriptBadRow = true := by kernel_rfl
theorem scriptBad_jE : jfE P fn_millpondlaw20_ScriptBad Rows.scriptBadRow = true := by kernel_rfl
theorem scriptBad_jF : jfF P F_millpondlaw20_ScriptBad Rows.scriptBadSpec Rows.scriptBadRow = true := by kernel_rfl
theorem scriptBad_jG : jfG P F_millpondlaw20_ScriptBad Rows.scriptBadSpec Rows.scriptBadRow = true := by kernel_rfl
theorem scriptBad_jH : jfH P Rows.scriptBadRow = true := by kernel_rfl
theorem scriptBad_jI : jfI P F_millpondlaw20_ScriptBad Rows.scriptBadSpec Rows.scriptBadRow = true := by kernel_rfl

theorem scriptBad_holds : Rows.ScriptBadSaid :=
  OpenClaim.holds_of_wide fn_millpondlaw20_ScriptBad F_millpondlaw20_ScriptBad rfl rfl rfl rfl rfl rfl rfl ⟨rfl, rfl, rfl, rfl, rfl⟩ rfl rfl rfl rfl rfl scriptBad_named func_millpondlaw20_ScriptBad
    (joined_of scriptBad_jA scriptBad_jB scriptBad_jC scriptBad_jD scriptBad_jE scriptBad_jF scriptBad_jG scriptBad_jH scriptBad_jI)
    (of_decide_eq_true (by kernel_rfl)) (by unfold Func.isWrapper; rw [if_neg (by decide +kernel)]; exact ⟨rfl, rfl⟩)
    (fun os started H enc _ => scriptBad_lifted os started H enc)

theorem scriptBad_wf : Rows.scriptBadRow.wfByText (OpenSpec.ofChange Rows.scriptBadSpec) = true := by kernel_rfl
theorem scriptBad_main : Tryz.pinned.checked.prog.mainIs = some (true, "9d1bfa84baeb23974ba420b5cf0e19ce5018ef84fdb3c880c0f41174af44bc20".toList) := by kernel_rfl
theorem scriptBad_looks : false = Tryz.pinned.checked.prog.looks [] := by kernel_rfl
theorem scriptBad_goes : false = Rows.scriptBadRow.goesBy Tryz.pinned.checked.prog := by kernel_rfl
theorem scriptBad_stand : (F_millpondlaw20_ScriptBad.params.toList.all fun u => !P.wantsStandIn u) = true := by kernel_rfl

theorem scriptBad_card : Rows.ScriptBadCardSaid :=
  Claim7.holds_tied_plain_at .later [] [.data] true (true, "9d1bfa84baeb23974ba420b5cf0e19ce5018ef84fdb3c880c0f41174af44bc20") false
    scriptBad_holds (fun _ h => by cases h) scriptBad_wf (fun _ h => by cases h) scriptBad_row_tie rfl ⟨rfl, rfl⟩ scriptBad_main rfl
    (fun f fn hf hfn => by
      obtain rfl : f = fn_millpondlaw20_ScriptBad := Option.some.inj (scriptBad_named.symm.trans hf) |>.symm
      obtain rfl : fn = F_millpondlaw20_ScriptBad := (Option.some.inj (func_millpondlaw20_ScriptBad.symm.trans hfn)).symm
      refine ⟨scriptBad_looks, fun j t ht => ?_⟩
      have hm : t ∈ F_millpondlaw20_ScriptBad.params.toList := by simpa using Array.mem_of_getElem? ht
      exact (show P.wantsStandIn t = false by simpa using List.all_eq_true.1 scriptBad_stand t hm))
    scriptBad_goes

end Go.Proofs.YtkjihkmkchcmcaaGreatDoor
