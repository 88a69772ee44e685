/- CPUAsked: its ways. -/
import Derived.Test.YtbkkeedanfmfeaaDoorCBase
namespace Go.Proofs.YtbkkeedanfmfeaaDoor.Cpu
open Go Sx
noncomputable def ask (o p : IExp) (q : Asm) : WT (SVal × St) := xCall Tryd.prog 1 plan tab 1000 1 7 [cpuV o p, pinsV mode 8 3] ⟨g0, q⟩
noncomputable def askG (p : Int) (gs : List (Int × Int)) : Bool := gs.all fun g => (ask (grp .u8 4 g).1 (.lit p) (grp .u8 4 g).2).all isT
end Go.Proofs.YtbkkeedanfmfeaaDoor.Cpu
