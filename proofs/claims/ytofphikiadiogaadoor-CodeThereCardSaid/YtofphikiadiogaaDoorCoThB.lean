/- CodeThere over the names: B. -/
import Derived.Test.YtofphikiadiogaaDoorCoThere0
namespace Go.Proofs.YtofphikiadiogaaDoor.K
open Go Sy
set_option maxRecDepth 100000
theorem nm64 : (List.range' 64 48).all nmOk = true := by kernel_rfl
theorem nm112 : (List.range' 112 8).all nmOk = true := by kernel_rfl
theorem nm120 : (List.range' 120 8).all nmOk = true := by kernel_rfl
end Go.Proofs.YtofphikiadiogaaDoor.K
