/- What is asked of each function. Printed by vcprint.py. -/
import Derived.Test.YtkjihkmkchcmcaaGreatDoorSrN
set_option maxRecDepth 100000
namespace Go.Mp
open Go Go.Vc

def ann_radix_New : Ann := {}
/-- millpond/radix.New -/
def sh_radix_New (K : Value → World → Prop) (w : World) : Prop :=
  Al (.cells #[(.pointer none), (.pointer none), (.pointer none), (.pointer none), (.pointer none), (.pointer none), (.pointer none), (.pointer none), (.pointer none), (.pointer
    none), (.pointer none), (.pointer none), (.pointer none), (.pointer none), (.pointer none), (.pointer none), (.int .u64 0), (.int .u64 0), (.int .u64 0), (.int .u64 0), (.int
    .u64 0), (.int .u64 0), (.int .u64 0), (.int .u64 0), (.int .u64 0), (.int .u64 0), (.int .u64 0), (.int .u64 0), (.int .u64 0), (.int .u64 0), (.int .u64 0), (.int .u64 0),
    (.int .u16 0)] 240) (fun p1 w2 => K (.pointer (some p1)) w2) w
theorem vc_radix_New (K : Value → World → Prop) (w : World) : vcFn P tau rho pan ann_radix_New Go.Proofs.Tryz.f91 #[] K (fun _ _ => False) w = sh_radix_New K w := by kernel_rfl
theorem ok_radix_New : okFn P ann_radix_New Go.Proofs.Tryz.f91 0 = true := by kernel_rfl
theorem of_radix_New {K : Value → World → Prop} {w : World} (h : sh_radix_New K w) : Calls P fn_radix_New #[] w (Ret K) := calls_of_vc mixed Go.Proofs.Tryz.func91 ok_radix_New (by rw [vc_radix_New]; exact h)

end Go.Mp
