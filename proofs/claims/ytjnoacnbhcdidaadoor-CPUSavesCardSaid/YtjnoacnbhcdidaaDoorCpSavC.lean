/- CPUSaves: some of its ways. -/
import Derived.Test.YtjnoacnbhcdidaaDoorCpSav0
namespace Go.Proofs.YtjnoacnbhcdidaaDoor.K
open Go Sy
set_option maxRecDepth 100000
set_option linter.unusedVariables false
set_option linter.unusedSimpArgs false
theorem sav0 : savQ (0, 0) = true := by kernel_rfl
theorem sav2 : savQ (16384, 16639) = true := by kernel_rfl
end Go.Proofs.YtjnoacnbhcdidaaDoor.K
