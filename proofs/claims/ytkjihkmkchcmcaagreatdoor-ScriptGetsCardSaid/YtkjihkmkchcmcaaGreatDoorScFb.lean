/- Script: The operations of any bytes, and where the first one is that is wrong, is just what the document says: the law answers true and lets its arguments be; for every input. -/
import Derived.Test.YtkjihkmkchcmcaaGreatDoorScF0
set_option maxRecDepth 100000
namespace Go.Proofs.YtkjihkmkchcmcaaGreatDoor
open Go Go.Vc Go.Sp Go.Mp Go.Ct

theorem scriptGets_lifted (os : Os) (started : os.Started) (H : Type) (enc : TypeId × Value → H) :
    ReturnsInHanded {} Chk os fn_millpondlaw20_ScriptGets .any (fun w args => (Rows.scriptGetsSpec.pre enc P F_millpondlaw20_ScriptGets [] false w args ∧ laidMetH P laidL w) ∧ sizedMet enc P F_millpondlaw20_ScriptGets (OpenSpec.ofChange Rows.scriptGetsSpec) false w args) (Rows.scriptGetsSpec.post enc P F_millpondlaw20_ScriptGets false true false false) := by
  refine law_lifted_laid (C := Chk) (tb := ty_bool) (X := fun w => laidMetH P laidL w) (fun _ _ hh h => h.of_heap hh) own started (by kernel_rfl) func_millpondlaw20_ScriptGets
    (ChangeSpec.witness_shaped (enc := enc) (C := Chk) (os := os) (X := fun w _ => laidMetH P laidL w) false (World.laidAll P os laidL) #[.string ⟨#[]⟩] 8 (World.laidAll_os _ _ _) (World.shaped_of_ZipB (by kernel_rfl) (by kernel_rfl)) (by kernel_rfl) (by kernel_rfl) (by kernel_rfl) (door_met os _))
    laidOut (by kernel_rfl) (by kernel_rfl) rfl (by kernel_rfl) ?_ ?_
  · intro ds gs hd hg
    match ds, gs, hd, hg with
    | [d0], [], _, _ => rfl
  · intro W base args hsz hargs _ _
    obtain ⟨x0, rfl⟩ := args1 hsz
    have a0 := hargs 0 _ _ rfl rfl
    obtain ⟨text, rfl⟩ := str_arg a0
    refine use (law_Gets text) ?_
    rintro v w' ⟨rfl, L, i, hi, h⟩
    exact ⟨_, rfl, rfl, h.below hi⟩

theorem scriptGets_named : Tryz.pinned.checked.prog.funcNamed Rows.scriptGetsRow.func = some fn_millpondlaw20_ScriptGets := by kernel_rfl
theorem scriptGets_jA : jfA P F_millpondlaw20_ScriptGets Rows.scriptGetsSpec Rows.scriptGetsRow = true := by kernel_rfl
theorem scriptGets_jB : jfB P fn_millpondlaw20_ScriptGets Rows.scriptGetsRow = true := by kernel_rfl
theorem scriptGets_jC : jfC P fn_millpondlaw20_ScriptGets Rows.scriptGetsRow = true := by kernel_rfl
theorem scriptGets_jD : jfD P fn_millpondlaw20_ScriptGets Rows.scriptGetsRow = true := by kernel_rfl
theorem scriptGets_jE : jfE P fn_millpondlaw20_ScriptGets Rows.scriptGetsRow = true := by kernel_rfl
theorem scriptGets_jF : jfF P F_millpondlaw20_ScriptGets Rows.scriptGetsSpec Rows.scriptGetsRow = true := by kernel_rfl
theorem scriptGets_jG : jfG P F_millpondlaw20_ScriptGets Rows.scriptGetsSpec Rows.scriptGetsRow = true := by kernel_rfl
theorem scriptGets_jH : jfH P Rows.scriptGetsRow = true := by kernel_rfl
theorem scriptGets_jI : jfI P F_millpondlaw20_ScriptGets Rows.scriptGetsSpec Rows.scriptGetsRow = true := by kernel_rfl

theorem scriptGets_holds : Rows.ScriptGetsSaid :=
  OpenClaim.holds_of_wide fn_millpondlaw20_ScriptGets F_millpondlaw20_ScriptGets rfl rfl rfl rfl rfl rfl rfl ⟨rfl, rfl, rfl, rfl, rfl⟩ rfl rfl rfl rfl rfl scriptGets_named func_millpondlaw20_ScriptGets
    (joined_of scriptGets_jA scriptGets_jB scriptGets_jC scriptGets_jD scriptGets_jE scriptGets_jF scriptGets_jG scriptGets_jH scriptGets_jI)
    (of_decide_eq_true (by kernel_rfl)) (by unfold Func.isWrapper; rw [if_neg (by decide +kernel)]; exact ⟨rfl, rfl⟩)
    (fun os started H enc _ => scriptGets_lifted os started H enc)

theorem scriptGets_wf : Rows.scriptGetsRow.wfByText (OpenSpec.ofChange Rows.scriptGetsSpec) = true := by kernel_rfl
theorem scriptGets_main : Tryz.pinned.checked.prog.mainIs = some (true, "9d1bfa84baeb23974ba420b5cf0e19ce5018ef84fdb3c880c0f41174af44bc20".toList) := by kernel_rfl
theorem scriptGets_looks : false = Tryz.pinned.checked.prog.looks [] := by kernel_rfl
theorem scriptGets_goes : false = Rows.scriptGetsRow.goesBy Tryz.pinned.checked.prog := by kernel_rfl
theorem scriptGets_stand : (F_millpondlaw20_ScriptGets.params.toList.all fun u => !P.wantsStandIn u) = true := by kernel_rfl

theorem scriptGets_card : Rows.ScriptGetsCardSaid :=
  Claim7.holds_tied_plain_at .later [] [.data] true (true, "9d1bfa84baeb23974ba420b5cf0e19ce5018ef84fdb3c880c0f41174af44bc20") false
    scriptGets_holds (fun _ h => by cases h) scriptGets_wf (fun _ h => by cases h) scriptGets_row_tie rfl ⟨rfl, rfl⟩ scriptGets_main rfl
    (fun f fn hf hfn => by
      obtain rfl : f = fn_millpondlaw20_ScriptGets := Option.some.inj (scriptGets_named.symm.trans hf) |>.symm
      obtain rfl : fn = F_millpondlaw20_ScriptGets := (Option.some.inj (func_millpondlaw20_ScriptGets.symm.trans hfn)).symm
      refine ⟨scriptGets_looks, fun j t ht => ?_⟩
      have hm : t ∈ F_millpondlaw20_ScriptGets.params.toList := by simpa using Array.mem_of_getElem? ht
      exact (show P.wantsStandIn t = false by simpa using List.all_eq_true.1 scriptGets_stand t hm))
    scriptGets_goes

end Go.Proofs.YtkjihkmkchcmcaaGreatDoor
