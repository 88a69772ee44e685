/- CodeCuts: its loop, group of ops by group. -/
import Derived.Test.YtofphikiadiogaaDoorCoSameT
namespace Go.Proofs.YtofphikiadiogaaDoor.K
open Go Sy
set_option maxRecDepth 100000
set_option linter.unusedVariables false
set_option linter.unusedSimpArgs false
def tabCuts : Tab := fun ro f args st => match tabOps ro f args st with
  | some x => some x
  | none => tabSame 11 ro f args st
def cuB : SVal := .v (.c (.sl (some ⟨7, 0, none⟩) (.var .i64 0) (some (.var .i64 1))))
def cuArgs : List SVal := [cuB]
def qCu : Path := [true, true, true, false, false]
def cuAs : Asm := [(.le (.var .i64 1000) (.lit (-1)), false), (.le (.var .i64 1000) (.var .i64 0), true), (.le (.var .i64 0) (.lit 2147483647), true), (.le (.var .i64 0) (.lit (-1)), false), (.le (.var .i64 0) (.var .i64 1), true)]
def cuTm : List (Nat × SVal) := [(0, cuB), (3, .v (.c (.i .i64 (.var .i64 1000))))]
def cuRow : Blk := some ([.row .u8 (.cat (.var .u8 5000) (.cat (.one (.var .u8 5000)) (.var .u8 5001)))], 5)
def pCu (g : Nat × Nat) : Pat := ⟨gS true false ++ [cuRow], 96, cuTm, [(.le (.var .u8 5000) (.lit g.2), true), (.le (.var .u8 5000) (.lit ((g.1 : Int) - 1)), false), (.eq (.len (.var .u8 5000)) (.var .i64 1000), true), (.eq (.len (.var .u8 5001)) (.bin .sub .i64 (.bin .sub .i64 (.var .i64 0) (.var .i64 1000)) (.lit 1)), true), (.lt (.var .i64 1000) (.var .i64 0), true)] ++ cuAs⟩
def pCuE : Pat := ⟨gS true false ++ [none], 96, cuTm, (.lt (.var .i64 1000) (.var .i64 0), false) :: cuAs⟩
def cuFrom : Nat → List (Nat × Nat) → Pats
  | k, [] => [((qCu, k), pCuE)]
  | k, g :: r => ((qCu, k), pCu g) :: cuFrom (k + 1) r
def opG80 : List (Nat × Nat) := opGs.take 80
def cuPats : Pats := cuFrom 0 opG80
def cuSt : St := ⟨gS true false ++ [none], [(.le (.var .i64 0) (.lit (-1)), false), (.le (.var .i64 0) (.var .i64 1), true)]⟩
noncomputable def cuS : WT Sy.GoF := startTF Tryd.prog 7 plan tabCuts 1000 1000 3 8 (fnOf 3) (bodyOf 3) cuPats cuArgs cuSt
noncomputable def cuH (k : Nat) : WT Sy.GoF := headTF Tryd.prog 7 plan tabCuts 1000 1000 3 8 8 (fnOf 3) (bodyOf 3) cuPats (qCu, k)
def stepOf : IExp → Bool
  | .bin .add .i64 x (.lit k) => x.same (.var .i64 1000) && decide (1 ≤ k) && decide (k ≤ 3)
  | _ => false
def isGoC : Sy.GoF → Bool
  | .go q l left => decide (q = (qCu, 0)) && left.all (fun j => decide (j < 5)) && (match getI l .i64 1000 with | some x => stepOf x | none => false) && (getI l .i64 0).isNone && (getI l .i64 1).isNone
  | .done v _ => isT1 v
  | .bad => false
noncomputable def cutsOk : Nat → Nat → Bool
  | _, 0 => true
  | k, n + 1 => (cuH k).all isGoC && cutsOk (k + 1) n
end Go.Proofs.YtofphikiadiogaaDoor.K
