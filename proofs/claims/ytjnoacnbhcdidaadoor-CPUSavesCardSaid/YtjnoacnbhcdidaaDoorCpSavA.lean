/- CPUSaves: some of its ways. -/
import Derived.Test.YtjnoacnbhcdidaaDoorCpSav0
namespace Go.Proofs.YtjnoacnbhcdidaaDoor.K
open Go Sy
set_option maxRecDepth 100000
set_option linter.unusedVariables false
set_option linter.unusedSimpArgs false
theorem sav1 : savQ (1, 16383) = true := by kernel_rfl
end Go.Proofs.YtjnoacnbhcdidaaDoor.K
