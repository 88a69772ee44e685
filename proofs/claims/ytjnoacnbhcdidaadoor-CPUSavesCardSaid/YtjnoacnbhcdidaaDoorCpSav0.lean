/- CPUSaves: what is run. -/
import Derived.Test.YtjnoacnbhcdidaaDoorCpMayT
namespace Go.Proofs.YtjnoacnbhcdidaaDoor.K
open Go Sy
set_option maxRecDepth 100000
set_option linter.unusedVariables false
set_option linter.unusedSimpArgs false
noncomputable def savT (s : IExp) (aq : Asm) : WT (SVal × St) := xCall Tryd.prog 1 plan noTab 1000 1 10 [cpuV op ph, .v (.c (.i .u16 s))] ⟨g0, aq⟩
noncomputable def savQ (g : Int × Int) : Bool := (savT (grp .u16 0 g).1 (grp .u16 0 g).2).all isT
end Go.Proofs.YtjnoacnbhcdidaaDoor.K
