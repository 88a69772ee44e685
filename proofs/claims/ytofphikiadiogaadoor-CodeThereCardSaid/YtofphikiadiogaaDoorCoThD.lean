/- CodeThere over the names: D. -/
import Derived.Test.YtofphikiadiogaaDoorCoThere0
namespace Go.Proofs.YtofphikiadiogaaDoor.K
open Go Sy
set_option maxRecDepth 100000
theorem nm208 : (List.range' 208 32).all nmOk = true := by kernel_rfl
theorem nm240 : (List.range' 240 8).all nmOk = true := by kernel_rfl
theorem nm248 : (List.range' 248 8).all nmOk = true := by kernel_rfl
end Go.Proofs.YtofphikiadiogaaDoor.K
