/- Vm: A fork is of the same group, has as many entries, and loads just what its parent does: the law answers true and lets its arguments be; for every input. -/
import Derived.Test.YtafigbgagbolgaaGreatDoorE06
set_option linter.all false
open Go.IntKind(i64 u64)
