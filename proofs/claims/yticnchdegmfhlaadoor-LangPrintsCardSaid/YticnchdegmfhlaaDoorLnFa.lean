/- Lang: The line of any operation, and the text of any, is just what the document says: the law answers true and lets its arguments be; for every input. -/
import Derived.Test.YticnchdegmfhlaaDoorLnF0
set_option maxRecDepth 100000
namespace Go.Proofs.YticnchdegmfhlaaDoor
open Go Go.Vc Go.Sp Go.Mp Go.Ct Go.Lg

theorem langPrints_lifted (os : Os) (started : os.Started) (H : Type) (enc : TypeId × Value → H) :
    ReturnsInHanded {} Chk os fn_millpondlaw21_LangPrints .any (fun w args => (Rows.langPrintsSpec.pre enc P F_millpondlaw21_LangPrints [] false w args ∧ laidMetH P laidL w) ∧ sizedMet enc P F_millpondlaw21_LangPrints (OpenSpec.ofChange Rows.langPrintsSpec) false w args) (Rows.langPrintsSpec.post enc P F_millpondlaw21_LangPrints false true false false) := by
  refine law_lifted_laid (C := Chk) (tb := ty_bool) (X := fun w => laidMetH P laidL w) (fun _ _ hh h => h.of_heap hh) own started (by kernel_rfl) func_millpondlaw21_LangPrints
    (ChangeSpec.witness_shaped (enc := enc) (C := Chk) (os := os) (X := fun w _ => laidMetH P laidL w) false (World.laidAll P os laidL) #[.slice none 0 0, .agg #[.int .i64 0, .int .i64 0, .int .i64 0, .int .i64 0, .int .i64 0]] 8 (World.laidAll_os _ _ _) (World.shaped_of_ZipB (by kernel_rfl) (by kernel_rfl)) (by kernel_rfl) (by kernel_rfl) (by kernel_rfl) (door_met os _))
    laidOut (by kernel_rfl) (by kernel_rfl) rfl (by kernel_rfl) ?_ ?_
  · intro ds gs hd hg
    match ds, gs, hd, hg with
    | [d0, d1], [], _, _ => rfl
  · intro W base args hsz hargs hsh hx
    have lib := libs_of hx hsh
    obtain ⟨x0, x1, rfl⟩ := args2 hsz
    have a0 := hargs 0 _ _ rfl rfl
    have a1 := hargs 1 _ _ rfl rfl
    obtain ⟨s, l, rfl, hO, hI, _⟩ := ops_arg a0
    obtain ⟨o, rfl, ho⟩ := op_arg a1
    refine use (law_Prints hO hI ho lib) ?_
    rintro v w' ⟨rfl, L, i, hi, h⟩
    exact ⟨_, rfl, rfl, h.below hi⟩

theorem langPrints_holds : Rows.LangPrintsSaid :=
  OpenClaim.holds_of_wide fn_millpondlaw21_LangPrints F_millpondlaw21_LangPrints rfl rfl rfl rfl rfl rfl rfl ⟨rfl, rfl, rfl, rfl, rfl⟩ rfl rfl rfl rfl rfl (by kernel_rfl) func_millpondlaw21_LangPrints (by kernel_rfl)
    (of_decide_eq_true (by kernel_rfl)) (by unfold Func.isWrapper; rw [if_neg (by decide +kernel)]; exact ⟨rfl, rfl⟩)
    (fun os started H enc _ => langPrints_lifted os started H enc)

theorem langPrints_card : Rows.LangPrintsCardSaid :=
  Claim7.holds_tied_plain_at .later [] [.data, .data, .data, .data, .sentinel, .sentinel, .pinned] true (true, "0c53d64052676ac3945c8dbd91f76d8c6db1033be65675914f72c23632275998") true
    langPrints_holds (fun _ h => by cases h) (by kernel_rfl) (fun _ h => by cases h) langPrints_row_tie rfl ⟨rfl, rfl⟩ (by kernel_rfl) rfl
    (fun f fn hf hfn => by
      obtain rfl : f = fn_millpondlaw21_LangPrints := Option.some.inj ((show P.funcNamed Rows.langPrintsRow.func = some fn_millpondlaw21_LangPrints by kernel_rfl).symm.trans hf) |>.symm
      obtain rfl : fn = F_millpondlaw21_LangPrints := (Option.some.inj (func_millpondlaw21_LangPrints.symm.trans hfn)).symm
      refine ⟨by kernel_rfl, fun j t ht => ?_⟩
      have hall : (F_millpondlaw21_LangPrints.params.toList.all fun u => !P.wantsStandIn u) = true := by kernel_rfl
      have hm : t ∈ F_millpondlaw21_LangPrints.params.toList := by simpa using Array.mem_of_getElem? ht
      exact (show P.wantsStandIn t = false by simpa using List.all_eq_true.1 hall t hm))
    (by kernel_rfl)

end Go.Proofs.YticnchdegmfhlaaDoor
