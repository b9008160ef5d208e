/- Vm: One that df lets go of all that nobody else has: where all are gone, nothing is left, and all is free: the law answers true and lets its arguments be; for every input. -/
import Derived.Test.YtafigbgagbolgaaGreatDoorF06
set_option linter.all false
open Go.IntKind(i64 u64)
