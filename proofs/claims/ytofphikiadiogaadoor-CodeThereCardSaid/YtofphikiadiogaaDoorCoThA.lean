/- CodeThere over the names: A. -/
import Derived.Test.YtofphikiadiogaaDoorCoThere0
namespace Go.Proofs.YtofphikiadiogaaDoor.K
open Go Sy
set_option maxRecDepth 100000
theorem nm0 : (List.range' 0 48).all nmOk = true := by kernel_rfl
theorem nm48 : (List.range' 48 8).all nmOk = true := by kernel_rfl
theorem nm56 : (List.range' 56 8).all nmOk = true := by kernel_rfl
end Go.Proofs.YtofphikiadiogaaDoor.K
