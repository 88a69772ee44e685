/- CodeThere over the names: C. -/
import Derived.Test.YtofphikiadiogaaDoorCoThere0
namespace Go.Proofs.YtofphikiadiogaaDoor.K
open Go Sy
set_option maxRecDepth 100000
theorem nm128 : (List.range' 128 64).all nmOk = true := by kernel_rfl
theorem nm192 : (List.range' 192 8).all nmOk = true := by kernel_rfl
theorem nm200 : (List.range' 200 8).all nmOk = true := by kernel_rfl
end Go.Proofs.YtofphikiadiogaaDoor.K
