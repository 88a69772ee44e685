/- Two functions of the processor answer alike: what is checked. -/
import Derived.Test.YtjnoacnbhcdidaaDoorCpBase
namespace Go.Proofs.YtjnoacnbhcdidaaDoor.K
open Go Sy
set_option maxRecDepth 100000
set_option linter.unusedVariables false
set_option linter.unusedSimpArgs false
def sameVal (aq : Asm) : SVal → SVal → WT Bool
  | .v (.agg l), .v (.agg l') => (cmpSegs 200 aq l l').bindW fun r => .leaf r.1
  | .v (.c a), .v (.c b) => (cmpCell aq a b).bindW fun r => .leaf r.1
  | _, _ => .stop
noncomputable def run1 (f : Nat) (args : List SVal) (aq : Asm) : WT (SVal × St) := xCall Tryd.prog 1 plan noTab 1000 1 f args ⟨g0, aq⟩
/-- All ways, no two orders side by side. -/
def allOne {α : Type} (p : α → Bool) : WT α → Bool
  | .leaf a => p a
  | .node _ t f => allOne p t && allOne p f
  | .both _ _ => false
  | .stop => false
noncomputable def eqvT (f g : Nat) (args : List SVal) (aq : Asm) : Bool := allOne (fun q => allOne (fun r => allOne id (sameVal r.2.«as» q.1 r.1)) (run1 g args q.2.«as»)) (run1 f args aq)
def leaves1 {α : Type} : WT α → List α
  | .leaf a => [a]
  | .node _ t f => leaves1 t ++ leaves1 f
  | .both t f => leaves1 t ++ leaves1 f
  | .stop => []
noncomputable def stepQ (x y : IExp) (aq : Asm) : Bool := eqvT 20 14 [cpuV x y, pinsV mode 8 3] aq
noncomputable def driveQ (x y : IExp) (aq : Asm) : Bool := eqvT 19 13 [cpuV x y, .v (.c (.i .u8 mode))] aq
noncomputable def stepEq (p : Int) (g : Int × Int) : Bool := (stepQ (grp .u8 4 g).1 (.lit p) (grp .u8 4 g).2)
noncomputable def driveEq (p : Int) (g : Int × Int) : Bool := (driveQ (grp .u8 4 g).1 (.lit p) (grp .u8 4 g).2)
end Go.Proofs.YtjnoacnbhcdidaaDoor.K
