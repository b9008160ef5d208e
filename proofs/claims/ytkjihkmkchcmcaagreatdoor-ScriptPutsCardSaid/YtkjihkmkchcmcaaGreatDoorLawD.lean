/- A law's row where package-level variables are laid: as Law.lean's, and the first world's shape. -/
import Derived.Test.YtkjihkmkchcmcaaGreatDoorLaw
import Derived.HandedShaped
import Derived.LaidMore
namespace Go.Sp
open Go Go.Vc Go.RowKit Go.ChangeShapes

section
variable {H : Type} {enc : TypeId × Value → H}

theorem law_lifted_laid {C : Checked} {os : Os} {f : FuncId} {fn : Func} {s : ChangeSpec} {conds : List PathCond} {apart fresh handsOn : Bool} {tb : TypeId} {X : World → Prop} (hX : ∀ (w w' : World), w.heap = w'.heap → X w → X w')
    (own : ownKnob C.prog.godebug = none) (started : os.Started) (noInit : C.prog.inits.idxOf? f = none) (hfn : C.prog.funcs[f]? = some fn)
    (witness : ∃ (w : World) (tape : Tape) (i : Input), w.os = os ∧ (w.forCall tape i).Shaped C.prog ∧ i.vars = [] ∧ Input.okWide C.prog (w.forCall tape i) .any w.heap.size f i ∧
      ((s.pre enc C.prog fn conds apart (w.forCall tape i).memory i.args ∧ X (w.forCall tape i).memory) ∧ sizedMet enc C.prog fn (OpenSpec.ofChange s) apart (w.forCall tape i).memory i.args) ∧ Assume.holds {} C.prog (lone (Frame.enter C.prog f i.args .normal) [] (w.forCall tape i)))
    (hl : laidOutB C.prog = true) (hread : (fn.params.toList.all fun t => C.prog.readableRec t && Nat.blt t C.prog.types.size) = true) (hvars : varsRowed C.prog s.vars = true) (hres : fn.resultTypes.toList = [tb]) (htb : C.prog.underlying tb = some .bool)
    (hspec : ∀ ds gs : List (DataW H), ds.length = fn.params.size → gs.length = s.vars.length → s.fn H (ds ++ gs) = { results := [.lit (.bool true)], args := ds, vars := gs })
    (contract : ∀ (W : World) (base : Nat) (args : Array Value), args.size = fn.params.size → (∀ (j : Nat) t v, fn.params[j]? = some t → args[j]? = some v → Rd C.prog W t v.cells.toList ∧ Value.okWide C.prog W .any base t v) → W.ShapedOpen C.prog → X W →
      Calls C.prog f args W (Ret fun v W' => v = .bool true ∧ Below W.heap.size W W')) :
    ReturnsInHanded {} C os f .any (fun w args => (s.pre enc C.prog fn conds apart w args ∧ X w) ∧ sizedMet enc C.prog fn (OpenSpec.ofChange s) apart w args) (s.post enc C.prog fn apart fresh handsOn false) := by
  refine returnsInHanded_of_calls own started noInit witness ?_
  intro w tape i _ hsh _ hok hpre hholds
  obtain ⟨_, _, _, fn', hfn', _, _, _, _, hval⟩ := hok
  have e : fn' = fn := Option.some.inj (hfn'.symm.trans hfn)
  subst e
  obtain ⟨⟨⟨ds, gs, before, hw, hc⟩, hx⟩, hz⟩ := hpre
  have hW := DataW.Whole.of_heap (w' := w.forCall tape i) (by rfl) hw
  obtain ⟨p, q, hA, hV, hpq, hfz, hnd⟩ := id hW
  refine (contract (w.forCall tape i) w.heap.size i.args (by have := (trodAll_len hA).1; simpa using this) (fun j t v ht hv => ⟨trodAll_rd hA j t v (by simpa using ht) (by simpa using hv), hval j t v ht hv⟩) hsh (hX _ _ (by rfl) hx)).mono fun e W' ⟨v, he, hv, hb⟩ => ?_
  subst he
  subst hv
  exact ChangeSpec.post_blind (law_post hl hread hvars hres htb (hspec ds gs) hW hb)

end
end Go.Sp
