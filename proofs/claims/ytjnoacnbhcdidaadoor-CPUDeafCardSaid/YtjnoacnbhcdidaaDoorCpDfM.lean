/- CPUDeaf: its ways in the other modes. -/
import Derived.Test.YtjnoacnbhcdidaaDoorCpDf0
namespace Go.Proofs.YtjnoacnbhcdidaaDoor.K
open Go Sy
set_option maxRecDepth 100000
set_option linter.unusedVariables false
set_option linter.unusedSimpArgs false
theorem df1 : deafC op ph 1 [] true true true true = true := by kernel_rfl
theorem df2 : deafC op ph 2 [] true true true true = true := by kernel_rfl
theorem df3 : deafC op ph 3 [] true true false true = true := by kernel_rfl
theorem df4 : deafHi = true := by kernel_rfl
end Go.Proofs.YtjnoacnbhcdidaaDoor.K
