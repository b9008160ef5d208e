/- Script: Any operations as bytes is just what the document says: the law answers true and lets its arguments be; for every input. -/
import Derived.Test.YtkjihkmkchcmcaaGreatDoorScF0
set_option maxRecDepth 100000
namespace Go.Proofs.YtkjihkmkchcmcaaGreatDoor
open Go Go.Vc Go.Sp Go.Mp Go.Ct

theorem scriptPuts_lifted (os : Os) (started : os.Started) (H : Type) (enc : TypeId × Value → H) :
    ReturnsInHanded {} Chk os fn_millpondlaw20_ScriptPuts .any (fun w args => (Rows.scriptPutsSpec.pre enc P F_millpondlaw20_ScriptPuts [] false w args ∧ laidMetH P laidL w) ∧ sizedMet enc P F_millpondlaw20_ScriptPuts (OpenSpec.ofChange Rows.scriptPutsSpec) false w args) (Rows.scriptPutsSpec.post enc P F_millpondlaw20_ScriptPuts false true false false) := by
  refine law_lifted_laid (C := Chk) (tb := ty_bool) (X := fun w => laidMetH P laidL w) (fun _ _ hh h => h.of_heap hh) own started (by kernel_rfl) func_millpondlaw20_ScriptPuts
    (ChangeSpec.witness_shaped (enc := enc) (C := Chk) (os := os) (X := fun w _ => laidMetH P laidL w) false (World.laidAll P os laidL) #[.slice none 0 0, .agg #[.int .i64 0, .int .i64 0, .int .i64 0, .int .i64 0, .int .i64 0]] 8 (World.laidAll_os _ _ _) (World.shaped_of_ZipB (by kernel_rfl) (by kernel_rfl)) (by kernel_rfl) (by kernel_rfl) (by kernel_rfl) (door_met os _))
    laidOut (by kernel_rfl) (by kernel_rfl) rfl (by kernel_rfl) ?_ ?_
  · intro ds gs hd hg
    match ds, gs, hd, hg with
    | [d0, d1], [], _, _ => rfl
  · intro W base args hsz hargs _ _
    obtain ⟨x0, x1, rfl⟩ := args2 hsz
    have a0 := hargs 0 _ _ rfl rfl
    have a1 := hargs 1 _ _ rfl rfl
    obtain ⟨s, l, rfl, hO⟩ := ops_arg a0
    obtain ⟨o, rfl⟩ := op_arg a1
    refine use (law_Puts o hO) ?_
    rintro v w' ⟨rfl, L, i, hi, h⟩
    exact ⟨_, rfl, rfl, h.below hi⟩

theorem scriptPuts_named : Tryz.pinned.checked.prog.funcNamed Rows.scriptPutsRow.func = some fn_millpondlaw20_ScriptPuts := by kernel_rfl
theorem scriptPuts_jA : jfA P F_millpondlaw20_ScriptPuts Rows.scriptPutsSpec Rows.scriptPutsRow = true := by kernel_rfl
theorem scriptPuts_jB : jfB P fn_millpondlaw20_ScriptPuts Rows.scriptPutsRow = true := by kernel_rfl
theorem scriptPuts_jC : jfC P fn_millpondlaw20_ScriptPuts Rows.scriptPutsRow = true := by kernel_rfl
theorem scriptPuts_jD : jfD P fn_millpondlaw20_ScriptPuts Rows.scriptPutsRow = true := by kernel_rfl
theorem scriptPuts_jE : jfE P fn_millpondlaw20_ScriptPuts Rows.scriptPutsRow = true := by kernel_rfl
theorem scriptPuts_jF : jfF P F_millpondlaw20_ScriptPuts Rows.scriptPutsSpec Rows.scriptPutsRow = true := by kernel_rfl
theorem scriptPuts_jG : jfG P F_millpondlaw20_ScriptPuts Rows.scriptPutsSpec Rows.scriptPutsRow = true := by kernel_rfl
theorem scriptPuts_jH : jfH P Rows.scriptPutsRow = true := by kernel_rfl
theorem scriptPuts_jI : jfI P F_millpondlaw20_ScriptPuts Rows.scriptPutsSpec Rows.scriptPutsRow = true := by kernel_rfl

theorem scriptPuts_holds : Rows.ScriptPutsSaid :=
  OpenClaim.holds_of_wide fn_millpondlaw20_ScriptPuts F_millpondlaw20_ScriptPuts rfl rfl rfl rfl rfl rfl rfl ⟨rfl, rfl, rfl, rfl, rfl⟩ rfl rfl rfl rfl rfl scriptPuts_named func_millpondlaw20_ScriptPuts
    (joined_of scriptPuts_jA scriptPuts_jB scriptPuts_jC scriptPuts_jD scriptPuts_jE scriptPuts_jF scriptPuts_jG scriptPuts_jH scriptPuts_jI)
    (of_decide_eq_true (by kernel_rfl)) (by unfold Func.isWrapper; rw [if_neg (by decide +kernel)]; exact ⟨rfl, rfl⟩)
    (fun os started H enc _ => scriptPuts_lifted os started H enc)

theorem scriptPuts_wf : Rows.scriptPutsRow.wfByText (OpenSpec.ofChange Rows.scriptPutsSpec) = true := by kernel_rfl
theorem scriptPuts_main : Tryz.pinned.checked.prog.mainIs = some (true, "9d1bfa84baeb23974ba420b5cf0e19ce5018ef84fdb3c880c0f41174af44bc20".toList) := by kernel_rfl
theorem scriptPuts_looks : false = Tryz.pinned.checked.prog.looks [] := by kernel_rfl
theorem scriptPuts_goes : false = Rows.scriptPutsRow.goesBy Tryz.pinned.checked.prog := by kernel_rfl
theorem scriptPuts_stand : (F_millpondlaw20_ScriptPuts.params.toList.all fun u => !P.wantsStandIn u) = true := by kernel_rfl

theorem scriptPuts_card : Rows.ScriptPutsCardSaid :=
  Claim7.holds_tied_plain_at .later [] [.data] true (true, "9d1bfa84baeb23974ba420b5cf0e19ce5018ef84fdb3c880c0f41174af44bc20") false
    scriptPuts_holds (fun _ h => by cases h) scriptPuts_wf (fun _ h => by cases h) scriptPuts_row_tie rfl ⟨rfl, rfl⟩ scriptPuts_main rfl
    (fun f fn hf hfn => by
      obtain rfl : f = fn_millpondlaw20_ScriptPuts := Option.some.inj (scriptPuts_named.symm.trans hf) |>.symm
      obtain rfl : fn = F_millpondlaw20_ScriptPuts := (Option.some.inj (func_millpondlaw20_ScriptPuts.symm.trans hfn)).symm
      refine ⟨scriptPuts_looks, fun j t ht => ?_⟩
      have hm : t ∈ F_millpondlaw20_ScriptPuts.params.toList := by simpa using Array.mem_of_getElem? ht
      exact (show P.wantsStandIn t = false by simpa using List.all_eq_true.1 scriptPuts_stand t hm))
    scriptPuts_goes

end Go.Proofs.YtkjihkmkchcmcaaGreatDoor
