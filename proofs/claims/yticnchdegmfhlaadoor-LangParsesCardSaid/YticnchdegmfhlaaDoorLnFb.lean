/- Lang: The operations of any text, or which line is none, is just what the document says: the law answers true and lets its arguments be; for every input. -/
import Derived.Test.YticnchdegmfhlaaDoorLnF0
set_option maxRecDepth 100000
namespace Go.Proofs.YticnchdegmfhlaaDoor
open Go Go.Vc Go.Sp Go.Mp Go.Ct Go.Lg

theorem langParses_lifted (os : Os) (started : os.Started) (H : Type) (enc : TypeId × Value → H) :
    ReturnsInHanded {} Chk os fn_millpondlaw21_LangParses .any (fun w args => (Rows.langParsesSpec.pre enc P F_millpondlaw21_LangParses [] false w args ∧ laidMetH P laidL w) ∧ sizedMet enc P F_millpondlaw21_LangParses (OpenSpec.ofChange Rows.langParsesSpec) false w args) (Rows.langParsesSpec.post enc P F_millpondlaw21_LangParses false true false false) := by
  refine law_lifted_laid (C := Chk) (tb := ty_bool) (X := fun w => laidMetH P laidL w) (fun _ _ hh h => h.of_heap hh) own started (by kernel_rfl) func_millpondlaw21_LangParses
    (ChangeSpec.witness_shaped (enc := enc) (C := Chk) (os := os) (X := fun w _ => laidMetH P laidL w) false (World.laidAll P os laidL) #[.string ⟨#[]⟩] 8 (World.laidAll_os _ _ _) (World.shaped_of_ZipB (by kernel_rfl) (by kernel_rfl)) (by kernel_rfl) (by kernel_rfl) (by kernel_rfl) (door_met os _))
    laidOut (by kernel_rfl) (by kernel_rfl) rfl (by kernel_rfl) ?_ ?_
  · intro ds gs hd hg
    match ds, gs, hd, hg with
    | [d0], [], _, _ => rfl
  · intro W base args hsz hargs hsh hx
    have lib := libs_of hx hsh
    obtain ⟨x0, rfl⟩ := args1 hsz
    have a0 := hargs 0 _ _ rfl rfl
    obtain ⟨text, rfl⟩ := str_arg a0
    refine use (law_Parses text lib) ?_
    rintro v w' ⟨rfl, L, i, hi, h⟩
    exact ⟨_, rfl, rfl, h.below hi⟩

theorem langParses_holds : Rows.LangParsesSaid :=
  OpenClaim.holds_of_wide fn_millpondlaw21_LangParses F_millpondlaw21_LangParses rfl rfl rfl rfl rfl rfl rfl ⟨rfl, rfl, rfl, rfl, rfl⟩ rfl rfl rfl rfl rfl (by kernel_rfl) func_millpondlaw21_LangParses (by kernel_rfl)
    (of_decide_eq_true (by kernel_rfl)) (by unfold Func.isWrapper; rw [if_neg (by decide +kernel)]; exact ⟨rfl, rfl⟩)
    (fun os started H enc _ => langParses_lifted os started H enc)

theorem langParses_card : Rows.LangParsesCardSaid :=
  Claim7.holds_tied_plain_at .later [] [.data, .data, .data, .data, .sentinel, .sentinel, .pinned] true (true, "0c53d64052676ac3945c8dbd91f76d8c6db1033be65675914f72c23632275998") true
    langParses_holds (fun _ h => by cases h) (by kernel_rfl) (fun _ h => by cases h) langParses_row_tie rfl ⟨rfl, rfl⟩ (by kernel_rfl) rfl
    (fun f fn hf hfn => by
      obtain rfl : f = fn_millpondlaw21_LangParses := Option.some.inj ((show P.funcNamed Rows.langParsesRow.func = some fn_millpondlaw21_LangParses by kernel_rfl).symm.trans hf) |>.symm
      obtain rfl : fn = F_millpondlaw21_LangParses := (Option.some.inj (func_millpondlaw21_LangParses.symm.trans hfn)).symm
      refine ⟨by kernel_rfl, fun j t ht => ?_⟩
      have hall : (F_millpondlaw21_LangParses.params.toList.all fun u => !P.wantsStandIn u) = true := by kernel_rfl
      have hm : t ∈ F_millpondlaw21_LangParses.params.toList := by simpa using Array.mem_of_getElem? ht
      exact (show P.wantsStandIn t = false by simpa using List.all_eq_true.1 hall t hm))
    (by kernel_rfl)

end Go.Proofs.YticnchdegmfhlaaDoor
