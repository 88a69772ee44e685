/- CodeOps: a closed sentence: its loop, group of ops by group. -/
import Derived.Test.YtofphikiadiogaaDoorCoFirst
namespace Go.Proofs.YtofphikiadiogaaDoor.K
open Go Sy
set_option maxRecDepth 100000
set_option linter.unusedVariables false
set_option linter.unusedSimpArgs false
def tabOps : Tab := fun ro f args st => match tabName 21 ro f args st with
  | some x => some x
  | none => tabFirst 23 ro f args st
def oneBy (h : Nat) : List (Nat × Nat) := (List.range 16).map fun n => (16 * h + n, 16 * h + n)
def opGs : List (Nat × Nat) := [(0, 0), (1, 15), (16, 31), (32, 47)] ++ oneBy 3 ++ [(64, 79), (80, 95), (96, 96), (97, 103), (104, 104), (105, 111)] ++ oneBy 7 ++ [(128, 143), (144, 159), (160, 175), (176, 191)] ++ oneBy 12 ++ [(208, 223), (224, 239)] ++ oneBy 15 ++ [(256, 256)]
def qOps : Path := [true, false, true, false]
def pOps (g : Nat × Nat) : Pat := ⟨gS true false, 177, [(1, .v (.c (.i .i64 (.var .i64 1000))))], [(.le (.var .i64 1000) (.lit g.2), true), (.le (.var .i64 1000) (.lit ((g.1 : Int) - 1)), false)]⟩
def opsFrom : Nat → List (Nat × Nat) → Pats
  | _, [] => []
  | k, g :: r => ((qOps, k), pOps g) :: opsFrom (k + 1) r
def opsPats : Pats := opsFrom 0 opGs
def opsSt : St := ⟨gS true false, []⟩
noncomputable def opsS : WT Sy.Go := startT Tryd.prog 7 plan tabOps 1000 1000 4 7 (fnOf 4) (bodyOf 4) opsPats [] opsSt
noncomputable def opsH (k : Nat) : WT Sy.Go := headT Tryd.prog 7 plan tabOps 1000 1000 4 7 7 (fnOf 4) (bodyOf 4) opsPats (qOps, k)
def isT1 : SVal → Bool
  | .v (.c (.b (.lit b))) => b
  | _ => false
def isGoK : Sy.Go → Bool
  | .go q l => decide (q = (qOps, 0)) && (match getI l .i64 1000 with | some x => x.same (.bin .add .i64 (.var .i64 1000) (.lit 1)) | none => false)
  | .done v _ => isT1 v
  | .bad => false
noncomputable def opsOk : Nat → Nat → Bool
  | _, 0 => true
  | k, n + 1 => (opsH k).all isGoK && opsOk (k + 1) n
end Go.Proofs.YtofphikiadiogaaDoor.K
