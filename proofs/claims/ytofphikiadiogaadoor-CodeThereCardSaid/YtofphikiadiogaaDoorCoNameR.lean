/- The names of the ops, by the reference. -/
import Derived.Test.YtofphikiadiogaaDoorCoName
namespace Go.Proofs.YtofphikiadiogaaDoor.K
open Go Sy
set_option maxRecDepth 100000
set_option linter.unusedVariables false
set_option linter.unusedSimpArgs false
theorem refName0 : namesOk 46 0 (nameT.take 64) = true := by kernel_rfl
theorem refName1 : namesOk 46 64 ((nameT.drop 64).take 64) = true := by kernel_rfl
theorem refName2 : namesOk 46 128 ((nameT.drop 128).take 64) = true := by kernel_rfl
theorem refName3 : namesOk 46 192 (nameT.drop 192) = true := by kernel_rfl
end Go.Proofs.YtofphikiadiogaaDoor.K
