/- CPUMay: its ways: what is run. -/
import Derived.Test.YtjnoacnbhcdidaaDoorCpDet
namespace Go.Proofs.YtjnoacnbhcdidaaDoor.K
open Go Sy
set_option maxRecDepth 100000
set_option linter.unusedVariables false
set_option linter.unusedSimpArgs false
def isFn : IExp → Bool
  | .fn _ _ _ _ => true
  | _ => false
def isVar : IExp → Bool
  | .var _ _ => true
  | _ => false
def cpuMayE (c : CpuE) : BExp := validE c.P c.X c.Op c.B c.Ph
def chk0 (n : CpuE) : BExp := .eq (.fn .i64 3 0 (n.l .nil)) (.lit 0)
/-- Step in a mode that is a letter, from what may be: letters, checked so. Check of such letters: a letter. -/
def tabMay : Tab := fun _ f args st =>
  if f = 20 then (match args with
    | [x, y] => (match cpuOf x, pinsOf y with
      | some c, some p => if isVar p.m && (c.fits st.as && inKind .u8 (p.m.rng st.as) && inKind .u8 (p.d.rng st.as) && laidB st.h) && (isB (decideB st.as (cpuMayE c)) true && isB (decideB st.as (.le p.m (.lit 3))) true) then
          some (.leaf ((stepE (c.l p.l)).v, { st with «as» := (chk0 (stepE (c.l p.l)), true) :: st.as })) else none
      | _, _ => none)
    | _ => none)
  else if f = 17 then (match args with
    | [x] => (match cpuOf x with
      | some c => if isFn c.D then checkTab args st else none
      | none => none)
    | _ => none)
  else none
noncomputable def mayT (x y : IExp) (aq : Asm) : WT (SVal × St) := xCall Tryd.prog 1 plan tabMay 1000 1 5 [cpuV x y, pinsV mode 8 3, pinsV (.var .u8 9) 10 10] ⟨g0, aq⟩
noncomputable def mayL (x y : IExp) (aq : Asm) : Bool := (mayT x y ((.le mode (.lit 3), true) :: aq)).all isT && (mayT x y ((.le mode (.lit 3), false) :: aq)).all isT
end Go.Proofs.YtjnoacnbhcdidaaDoor.K
