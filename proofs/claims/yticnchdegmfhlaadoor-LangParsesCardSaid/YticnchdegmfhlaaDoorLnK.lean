/- Something is done; what panics by bad{} is caught. -/
import Derived.Test.YticnchdegmfhlaaDoorLnN
import Derived.Test.YticnchdegmfhlaaDoorSep
import Derived.Test.YticnchdegmfhlaaDoorEff
import Derived.WalkKit
import Derived.WideLaws
import Derived.Defers
import Derived.Recover
import Derived.Laws.Pointers
set_option maxRecDepth 100000
namespace Go.Mp
open Go Go.Vc Go.Sp Go.Proofs

theorem isF20 : Tryd.prog.underlying 20 = some (.interface (Tryd.prog.methodsAt 20)) := by kernel_rfl

/-- What was done returned: it is told. -/
theorem catch_idle (p : Addr) (x : Bool) (w : World) (hc : w.cell? p = some (.bool x)) (hz : w.frozen? p = false) :
    CallsD Tryd.prog 34 #[.pointer (some p)] .returning w fun e u' w' => e = .returned (.tuple #[]) ∧ u' = .returning ∧ w' = w.setCell p (.bool true) := by
  refine callsD_of_wpS Tryd.func34 rfl fun c₀ cs hu => ?_
  apply wpS_seq
  apply wpS_region
  simp [wpOpsS, go_sem, recoverD, hu, Tryd.ntmps34, Exit.thenS]
  have hnil : ∀ w : World, (binOp BinOp.eql 20 .nilIface .nilIface).run Tryd.prog w = .ok (.bool true) w := fun _ => by kernel_rfl
  refine wpS_of_wp ?_
  go_wp2
  cases c₀
  simp_all [bodyPostS, results, Tryd.results34]

def badV : Value := .iface 68 (.agg #[])

/-- What was done panicked by bad{}: it is caught. -/
theorem catch_bad (p : Addr) (older : List PanicEntry) (w : World) :
    CallsD Tryd.prog 34 #[.pointer (some p)] (.panicking ({ v := .iface 68 (.agg #[]), recovered := false } :: older)) w fun e u' w' => e = .returned (.tuple #[]) ∧ u' = .panicking ({ v := .iface 68 (.agg #[]), recovered := true } :: older) ∧ Grow w w' := by
  refine callsD_of_wpS Tryd.func34 rfl fun c₀ cs hu => ?_
  apply wpS_seq
  apply wpS_region
  simp [wpOpsS, go_sem, recoverD, hu, Tryd.ntmps34, Exit.thenS]
  have hnn : ∀ w : World, (binOp BinOp.eql 20 (.iface 68 (.agg #[])) .nilIface).run Tryd.prog w = .ok (.bool false) w := fun _ => by kernel_rfl
  have hta : ∀ w : World, (Instr.typeAssert (.iface 68 (.agg #[])) 20 68 true).run Tryd.prog w = .ok (.tuple #[.agg #[], .bool true]) w := fun _ => by kernel_rfl
  refine wpS_of_wp ?_
  go_wp2
  have g := Grow.alloc w (Obj.cells #[] 68)
  simp [bodyPostS, results, Tryd.results34, g]

/-- Of what is done: what it must come to. -/
theorem c_caught {E : Env} {L : List Asn} {w : World} (h : Sep E L w) {G : FuncId} {caps : Array Value} {R : Value → World → Prop} (hent : ∀ w, (callFunc G caps).run P w = .ok (.enter G caps) w)
    (hdo : ∀ b w1, Sep E (blk b [.bool false] :: L) w1 → Calls P G caps w1 (RetP (fun v w' => v = .tuple #[] ∧ ∃ L1, Sep E (blk b [.bool false] :: L1) w' ∧ ∀ w'', Sep E L1 w'' → R (.bool true) w'')
      (fun ch w' => ch = [{ v := .iface 68 (.agg #[]), recovered := false }] ∧ ∃ L1, Sep E (blk b [.bool false] :: L1) w' ∧ ∀ w'', Sep E L1 w'' → R (.bool false) w''))) :
    Calls P fn_lang_caught #[.func (.func G) #[] caps] w (Ret R) := by
  have hmf : ∀ (fn : Fn) (first cap : Array Value) (w : World), (Instr.makeFunc fn first cap).run Tryd.prog w = .ok (.func fn first cap) w := fun _ _ _ _ => rfl
  have hdo' := hdo _ _ (h.alloc #[.bool false] 4)
  show Calls Tryd.prog 17 _ w _
  go_enter_defers Tryd.func17, Tryd.ntmps17
  go_wp2
  refine Calls.mono hdo' ?_
  rintro e w' (⟨v, rfl, rfl, L1, h1, hR⟩ | ⟨ch, rfl, rfl, L1, h1, hR⟩)
  · have hc : w'.cell? ⟨w.heap.size, 0, none⟩ = some (.bool false) := h1.cell 0
    have hz : w'.frozen? ⟨w.heap.size, 0, none⟩ = false := h1.warm (by simp)
    go_wp2
    refine leaves_cons (f := 34) (args := #[.pointer (some ⟨w.heap.size, 0, none⟩)]) (by simp) (by simp [go_sem]) ?_
    refine (catch_idle ⟨w.heap.size, 0, none⟩ false w' hc hz).mono ?_
    rintro e u' w'' ⟨rfl, rfl, rfl⟩
    have h2 := h1.setCell 0 (.bool true)
    have hc2 : (w'.setCell ⟨w.heap.size, 0, none⟩ (.bool true)).cell? ⟨w.heap.size, 0, none⟩ = some (.bool true) := h2.cell 0
    have hr := hR _ h2.tail
    simp [Leaves, settle, results, Tryd.results17, go_sem, hc2, Ret, hr]
  · refine leaves_cons (f := 34) (args := #[.pointer (some ⟨w.heap.size, 0, none⟩)]) (by simp) (by simp [go_sem]) ?_
    refine (catch_bad ⟨w.heap.size, 0, none⟩ [] w').mono ?_
    rintro e u' w'' ⟨rfl, rfl, g⟩
    have h2 := h1.grow g
    have hc2 : w''.cell? ⟨w.heap.size, 0, none⟩ = some (.bool false) := h2.cell 0
    have hr := hR _ h2.tail
    simp [Leaves, settle, results, Tryd.results17, go_sem, hc2, Ret, hr]

theorem ofObj {E : Env} {L : List Asn} {w : World} {b : Nat} {c : Array Value} {t : TypeId} (h : Sep E (objB b (.cells c t) :: L) w) : Sep E (blk b c.toList :: L) w := by
  obtain ⟨he, F, ⟨h1, h2⟩, h3⟩ := h
  exact ⟨he, F, ⟨⟨t, (0, 0), h1, fun _ _ h => by omega⟩, h2⟩, h3⟩

/-- The same, where the flag's type is kept in sight. -/
theorem c_caughtO {E : Env} {L : List Asn} {w : World} (h : Sep E L w) {G : FuncId} {caps : Array Value} {R : Value → World → Prop} (hent : ∀ w, (callFunc G caps).run P w = .ok (.enter G caps) w)
    (hdo : ∀ b w1, Sep E (objB b (.cells #[.bool false] 4) :: L) w1 → Calls P G caps w1 (RetP (fun v w' => v = .tuple #[] ∧ ∃ L1, Sep E (objB b (.cells #[.bool false] 4) :: L1) w' ∧ ∀ w'', Sep E L1 w'' → R (.bool true) w'')
      (fun ch w' => ch = [{ v := .iface 68 (.agg #[]), recovered := false }] ∧ ∃ L1, Sep E (objB b (.cells #[.bool false] 4) :: L1) w' ∧ ∀ w'', Sep E L1 w'' → R (.bool false) w''))) :
    Calls P fn_lang_caught #[.func (.func G) #[] caps] w (Ret R) := by
  have hmf : ∀ (fn : Fn) (first cap : Array Value) (w : World), (Instr.makeFunc fn first cap).run Tryd.prog w = .ok (.func fn first cap) w := fun _ _ _ _ => rfl
  have hdo' := hdo _ _ (h.allocO (.cells #[.bool false] 4))
  show Calls Tryd.prog 17 _ w _
  go_enter_defers Tryd.func17, Tryd.ntmps17
  go_wp2
  refine Calls.mono hdo' ?_
  rintro e w' (⟨v, rfl, rfl, L1, h1, hR⟩ | ⟨ch, rfl, rfl, L1, h1, hR⟩)
  · have h1 := ofObj h1
    have hc : w'.cell? ⟨w.heap.size, 0, none⟩ = some (.bool false) := h1.cell 0
    have hz : w'.frozen? ⟨w.heap.size, 0, none⟩ = false := h1.warm (by simp)
    go_wp2
    refine leaves_cons (f := 34) (args := #[.pointer (some ⟨w.heap.size, 0, none⟩)]) (by simp) (by simp [go_sem]) ?_
    refine (catch_idle ⟨w.heap.size, 0, none⟩ false w' hc hz).mono ?_
    rintro e u' w'' ⟨rfl, rfl, rfl⟩
    have h2 := h1.setCell 0 (.bool true)
    have hc2 : (w'.setCell ⟨w.heap.size, 0, none⟩ (.bool true)).cell? ⟨w.heap.size, 0, none⟩ = some (.bool true) := h2.cell 0
    have hr := hR _ h2.tail
    simp [Leaves, settle, results, Tryd.results17, go_sem, hc2, Ret, hr]
  · refine leaves_cons (f := 34) (args := #[.pointer (some ⟨w.heap.size, 0, none⟩)]) (by simp) (by simp [go_sem]) ?_
    refine (catch_bad ⟨w.heap.size, 0, none⟩ [] w').mono ?_
    rintro e u' w'' ⟨rfl, rfl, g⟩
    have h2 := (ofObj h1).grow g
    have hc2 : w''.cell? ⟨w.heap.size, 0, none⟩ = some (.bool false) := h2.cell 0
    have hr := hR _ h2.tail
    simp [Leaves, settle, results, Tryd.results17, go_sem, hc2, Ret, hr]

end Go.Mp
