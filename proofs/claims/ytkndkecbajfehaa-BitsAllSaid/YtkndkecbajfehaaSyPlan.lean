/- The orders in which regions that draw theirs are walked; each is held good. (Printed by mkplan.py.) -/
import Derived.Test.YtkndkecbajfehaaSyExec
import Derived.Test.YtkndkecbajfehaaProg
import Derived.KernelRfl
namespace Go.Proofs.Ytkndkecbajfehaa.Sy
open Go
set_option maxRecDepth 100000
def sch : List (List (Nat × Sch)) := []
theorem plan_ok : planB Try.prog Try.prog.funcs.toList sch = true := by kernel_rfl
end Go.Proofs.Ytkndkecbajfehaa.Sy
