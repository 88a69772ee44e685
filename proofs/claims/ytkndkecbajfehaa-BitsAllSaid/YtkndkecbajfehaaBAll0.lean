/- BitsAll: one round of the innermost loop. -/
import Derived.Test.YtkndkecbajfehaaBRolls
namespace Go.Proofs.Ytkndkecbajfehaa.Bits
open Go Sy
set_option maxRecDepth 100000
set_option linter.unusedVariables false
set_option linter.unusedSimpArgs false

def path (l : List Nat) : List Bool := l.map (· == 1)
noncomputable def loop3 : Code := sub (body 5) (path [1, 0, 1, 0, 0, 1, 0, 0, 1, 0, 0, 1, 0, 0, 1, 0, 0])
def asB : Asm := [(.le (.var .i64 0) (.lit 255), true), (.le (.var .i64 0) (.lit (-1)), false), (.le (.var .i64 1) (.lit 255), true), (.le (.var .i64 1) (.lit (-1)), false)]
def tmAll (s : Int) : Tm := ⟨95, [(1, .v (.c (.i .i64 (.lit s)))), (2, .v (.c (.i .i64 (.var .i64 0)))), (3, .v (.c (.i .i64 (.var .i64 1))))], true⟩
noncomputable def round3 (s : Int) : WT (XE × List SVal × Nat) := (xCode Try.prog 0 plan tabA 1000 (plan.at 5) 0 loop3 (tmAll s) ⟨[], asB⟩).map (slotsOf [1, 2, 3])
/-- One further. -/
def isRound (s : Int) (q : XE × List SVal × Nat) : Bool := match q with
  | (.normal, [.v (.c (.i .i64 (.lit s'))), .v (.c (.i .i64 (.var .i64 0))), .v (.c (.i .i64 (.bin .add .i64 (.var .i64 1) (.lit 1))))], 95) => decide (s' = s)
  | _ => false
/-- The code of the loops. -/
theorem all_body : body 5 = .seq (sub (body 5) [false]) (.seq (.seq (sub (body 5) (path [1, 0, 0])) (.block 0 (.loop (sub (body 5) (path [1, 0, 1, 0, 0]))))) (sub (body 5) (path [1, 1]))) := by kernel_rfl
theorem all_loop1 : sub (body 5) (path [1, 0, 1, 0, 0]) = .seq (sub (body 5) (path [1, 0, 1, 0, 0, 0])) (.seq (.block 1 (.seq (sub (body 5) (path [1, 0, 1, 0, 0, 1, 0, 0, 0])) (.block 2 (.loop (sub (body 5) (path [1, 0, 1, 0, 0, 1, 0, 0, 1, 0, 0])))))) (sub (body 5) (path [1, 0, 1, 0, 0, 1, 1]))) := by kernel_rfl
theorem all_loop2 : sub (body 5) (path [1, 0, 1, 0, 0, 1, 0, 0, 1, 0, 0]) = .seq (sub (body 5) (path [1, 0, 1, 0, 0, 1, 0, 0, 1, 0, 0, 0])) (.seq (.block 3 (.seq (sub (body 5) (path [1, 0, 1, 0, 0, 1, 0, 0, 1, 0, 0, 1, 0, 0, 0])) (.block 4 (.loop loop3)))) (sub (body 5) (path [1, 0, 1, 0, 0, 1, 0, 0, 1, 0, 0, 1, 1]))) := by kernel_rfl
theorem round_end : (xCode Try.prog 0 plan tabA 1000 (plan.at 5) 0 loop3 ⟨95, [(1, .v (.c (.i .i64 (.var .i64 0)))), (2, .v (.c (.i .i64 (.var .i64 1)))), (3, .v (.c (.i .i64 (.lit 256))))], true⟩ ⟨[], []⟩).map (slotsOf [1, 2, 3]) = .leaf (.exit 4, [.v (.c (.i .i64 (.var .i64 0))), .v (.c (.i .i64 (.var .i64 1))), .v (.c (.i .i64 (.lit 256)))], 95) := by kernel_rfl
theorem round_0 : (round3 0).all (isRound 0) = true := by kernel_rfl
theorem round_1 : (round3 1).all (isRound 1) = true := by kernel_rfl
theorem round_2 : (round3 2).all (isRound 2) = true := by kernel_rfl
theorem round_3 : (round3 3).all (isRound 3) = true := by kernel_rfl
theorem round_4 : (round3 4).all (isRound 4) = true := by kernel_rfl
theorem round_5 : (round3 5).all (isRound 5) = true := by kernel_rfl
theorem round_6 : (round3 6).all (isRound 6) = true := by kernel_rfl
theorem round_7 : (round3 7).all (isRound 7) = true := by kernel_rfl
theorem round_8 : (round3 8).all (isRound 8) = true := by kernel_rfl
theorem round_9 : (round3 9).all (isRound 9) = true := by kernel_rfl
theorem round_10 : (round3 10).all (isRound 10) = true := by kernel_rfl
theorem round_11 : (round3 11).all (isRound 11) = true := by kernel_rfl
theorem round_12 : (round3 12).all (isRound 12) = true := by kernel_rfl
theorem round_13 : (round3 13).all (isRound 13) = true := by kernel_rfl
theorem round_14 : (round3 14).all (isRound 14) = true := by kernel_rfl
end Go.Proofs.Ytkndkecbajfehaa.Bits
