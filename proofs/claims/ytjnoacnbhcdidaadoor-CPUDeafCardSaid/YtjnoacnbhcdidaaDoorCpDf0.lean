/- CPUDeaf: its ways: what is run. -/
import Derived.Test.YtjnoacnbhcdidaaDoorCpMayT
namespace Go.Proofs.YtjnoacnbhcdidaaDoor.K
open Go Sy
set_option maxRecDepth 100000
set_option linter.unusedVariables false
set_option linter.unusedSimpArgs false
/-- One function at two rows of arguments. -/
noncomputable def eqv2T (f : Nat) (args args' : List SVal) (aq : Asm) : Bool := allOne (fun q => allOne (fun r => allOne id (sameVal r.2.«as» q.1 r.1)) (run1 f args' q.2.«as»)) (run1 f args aq)
def pinsA (m : Int) : PinsE := pinsX (.lit m) 8 3
def pinsB (m : Int) (dD dF dL : Bool) : PinsE := ⟨.lit m, if dD then .var .u8 10 else .var .u8 8, if dF then .var 10 else .var 3, if dF then .var 11 else .var 4, if dF then .var 12 else .var 5, if dF then .var 13 else .var 6, if dL then .var 14 else .var 7, if dL then .var 15 else .var 8, if dL then .var 16 else .var 9⟩
noncomputable def stepD (x y : IExp) (m : Int) (aq : Asm) (dD dF dL : Bool) : Bool := eqv2T 20 [cpuV x y, (pinsA m).v] [cpuV x y, (pinsB m dD dF dL).v] aq
def normP (dD dF dL : Bool) (p : PinsE) : PinsE := ⟨p.m, if dD then .lit 0 else p.d, if dF then .lit false else p.f0, if dF then .lit false else p.f1, if dF then .lit false else p.f2, if dF then .lit false else p.f3, if dL then .lit false else p.i, if dL then .lit false else p.o, if dL then .lit false else p.t⟩
def isLit (m : Int) : IExp → Bool
  | .lit n => decide (n = m)
  | _ => false
def cpuSegs (x y : IExp) : List Seg := [.arr .u16 16 (.var .u16 0), v8 0, vb 0, v8 1, v8 2, v8 3, vb 1, vb 2, e8 x, v8 5, e8 y]
def varCpu : List SVal → Bool
  | a :: _ => (match cpuOf a with
    | some c => isVar c.D
    | none => false)
  | [] => false
/-- Step of this processor: a letter of what it hears. -/
def tabDeaf (x y : IExp) (m : Int) (dD dF dL drv : Bool) : Tab := fun _ f args st =>
  if f = 20 then (match args with
    | [.v (.agg l), b] => (match pinsOf b with
      | some p => if allSame Seg.same l (cpuSegs x y) && ((cpuX x y).fits st.as && isLit m p.m && (inKind .u8 (p.m.rng st.as) && inKind .u8 (p.d.rng st.as)) && laidB st.h) then some (.leaf ((stepE ((cpuX x y).l (normP dD dF dL p).l)).v, st)) else none
      | none => none)
    | _ => none)
  else if f = 19 then (if drv && varCpu args then driveTab args st else none)
  else none
noncomputable def deafT (x y : IExp) (m : Int) (aq : Asm) (dD dF dL drv : Bool) : WT (SVal × St) := xCall Tryd.prog 1 plan (tabDeaf x y m dD dF dL drv) 1000 1 6 [cpuV x y, (pinsA m).v, pinsV (.var .u8 9) 10 10] ⟨g0, aq⟩
noncomputable def deafC (x y : IExp) (m : Int) (aq : Asm) (dD dF dL drv : Bool) : Bool := stepD x y m aq dD dF dL && (deafT x y m aq dD dF dL drv).all isT
/-- Which of it is not heard in the mode Run. -/
def lowOf (aq : Asm) (x : IExp) : Int := match x.rng aq with
  | some (l, _) => l
  | none => 0
def phOf : IExp → Int
  | .lit n => n
  | _ => 0
def noData (o : Int) : Bool := (decide (16 ≤ o) && decide (o ≤ 47)) || (decide (80 ≤ o) && decide (o ≤ 95)) || decide (o = 104) || decide (o = 115) || decide (o = 118) || (decide (120 ≤ o) && decide (o ≤ 123)) || decide (o = 126) || (decide (128 ≤ o) && decide (o ≤ 191)) || (decide (208 ≤ o) && decide (o ≤ 239)) || decide (o = 246) || decide (o = 254)
def someFlags (o : Int) : Bool := (decide (52 ≤ o) && decide (o ≤ 55)) || (decide (60 ≤ o) && decide (o ≤ 63))
def longO (o : Int) : Bool := decide (192 ≤ o) && decide (o ≤ 207)
def dDof (p o : Int) : Bool := if p = 2 then noData o else decide (4 ≤ p)
def dFof (p o : Int) : Bool := if p = 2 then !someFlags o else decide (1 ≤ p)
def dLof (p o : Int) : Bool := if p = 2 then longO o else decide (p = 1)
noncomputable def deafQ (x y : IExp) (aq : Asm) : Bool := deafC x y 0 aq (dDof (phOf y) (lowOf aq x)) (dFof (phOf y) (lowOf aq x)) (dLof (phOf y) (lowOf aq x)) false
noncomputable def deafHi : Bool := (xCall Tryd.prog 1 plan noTab 1000 1 6 [cpuV op ph, pinsV mode 8 3, pinsV (.var .u8 9) 10 10] ⟨g0, [(.le mode (.lit 3), false)]⟩).all isT
end Go.Proofs.YtjnoacnbhcdidaaDoor.K
