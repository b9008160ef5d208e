/- Lang: Each operation has one line alone: the law answers true and lets its arguments be; for every input. -/
import Derived.Test.YticnchdegmfhlaaDoorLnF0
set_option maxRecDepth 100000
namespace Go.Proofs.YticnchdegmfhlaaDoor
open Go Go.Vc Go.Sp Go.Mp Go.Ct Go.Lg

theorem langOnce_lifted (os : Os) (started : os.Started) (H : Type) (enc : TypeId × Value → H) :
    ReturnsInHanded {} Chk os fn_millpondlaw21_LangOnce .any (fun w args => (Rows.langOnceSpec.pre enc P F_millpondlaw21_LangOnce [] false w args ∧ laidMetH P laidL w) ∧ sizedMet enc P F_millpondlaw21_LangOnce (OpenSpec.ofChange Rows.langOnceSpec) false w args) (Rows.langOnceSpec.post enc P F_millpondlaw21_LangOnce false true false false) := by
  refine law_lifted_laid (C := Chk) (tb := ty_bool) (X := fun w => laidMetH P laidL w) (fun _ _ hh h => h.of_heap hh) own started (by kernel_rfl) func_millpondlaw21_LangOnce
    (ChangeSpec.witness_shaped (enc := enc) (C := Chk) (os := os) (X := fun w _ => laidMetH P laidL w) false (World.laidAll P os laidL) #[.agg #[.int .i64 0, .int .i64 0, .int .i64 0, .int .i64 0, .int .i64 0], .agg #[.int .i64 0, .int .i64 0, .int .i64 0, .int .i64 0, .int .i64 0], .string ⟨#[]⟩] 8 (World.laidAll_os _ _ _) (World.shaped_of_ZipB (by kernel_rfl) (by kernel_rfl)) (by kernel_rfl) (by kernel_rfl) (by kernel_rfl) (door_met os _))
    laidOut (by kernel_rfl) (by kernel_rfl) rfl (by kernel_rfl) ?_ ?_
  · intro ds gs hd hg
    match ds, gs, hd, hg with
    | [d0, d1, d2], [], _, _ => rfl
  · intro W base args hsz hargs hsh hx
    have lib := libs_of hx hsh
    obtain ⟨x0, x1, x2, rfl⟩ := args3 hsz
    have a0 := hargs 0 _ _ rfl rfl
    have a1 := hargs 1 _ _ rfl rfl
    have a2 := hargs 2 _ _ rfl rfl
    obtain ⟨p, rfl, hp⟩ := op_arg a0
    obtain ⟨q, rfl, hq⟩ := op_arg a1
    obtain ⟨text, rfl⟩ := str_arg a2
    refine use (law_Once text hp hq lib) ?_
    rintro v w' ⟨rfl, L, i, hi, h⟩
    exact ⟨_, rfl, rfl, h.below hi⟩

theorem langOnce_holds : Rows.LangOnceSaid :=
  OpenClaim.holds_of_wide fn_millpondlaw21_LangOnce F_millpondlaw21_LangOnce rfl rfl rfl rfl rfl rfl rfl ⟨rfl, rfl, rfl, rfl, rfl⟩ rfl rfl rfl rfl rfl (by kernel_rfl) func_millpondlaw21_LangOnce (by kernel_rfl)
    (of_decide_eq_true (by kernel_rfl)) (by unfold Func.isWrapper; rw [if_neg (by decide +kernel)]; exact ⟨rfl, rfl⟩)
    (fun os started H enc _ => langOnce_lifted os started H enc)

theorem langOnce_card : Rows.LangOnceCardSaid :=
  Claim7.holds_tied_plain_at .later [] [.data, .data, .data, .data, .sentinel, .sentinel, .pinned] true (true, "0c53d64052676ac3945c8dbd91f76d8c6db1033be65675914f72c23632275998") true
    langOnce_holds (fun _ h => by cases h) (by kernel_rfl) (fun _ h => by cases h) langOnce_row_tie rfl ⟨rfl, rfl⟩ (by kernel_rfl) rfl
    (fun f fn hf hfn => by
      obtain rfl : f = fn_millpondlaw21_LangOnce := Option.some.inj ((show P.funcNamed Rows.langOnceRow.func = some fn_millpondlaw21_LangOnce by kernel_rfl).symm.trans hf) |>.symm
      obtain rfl : fn = F_millpondlaw21_LangOnce := (Option.some.inj (func_millpondlaw21_LangOnce.symm.trans hfn)).symm
      refine ⟨by kernel_rfl, fun j t ht => ?_⟩
      have hall : (F_millpondlaw21_LangOnce.params.toList.all fun u => !P.wantsStandIn u) = true := by kernel_rfl
      have hm : t ∈ F_millpondlaw21_LangOnce.params.toList := by simpa using Array.mem_of_getElem? ht
      exact (show P.wantsStandIn t = false by simpa using List.all_eq_true.1 hall t hm))
    (by kernel_rfl)

end Go.Proofs.YticnchdegmfhlaaDoor
