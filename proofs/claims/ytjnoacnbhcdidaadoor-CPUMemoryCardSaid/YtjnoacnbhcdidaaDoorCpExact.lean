/- CPUExact. -/
import Derived.Test.YtjnoacnbhcdidaaDoorCpTabs
import Derived.Test.YtjnoacnbhcdidaaDoorKRecs
namespace Go.Proofs.YtjnoacnbhcdidaaDoor.K
open Go Sy
set_option maxRecDepth 100000
set_option linter.unusedVariables false
set_option linter.unusedSimpArgs false

def qEx : Path := [true, true, true, true, false, true, false]
def exArgs : List SVal := [cpuV op ph, .v (.c (.sl (some ⟨1, 0, none⟩) (.var .i64 0) (some (.var .i64 1))))]
def exSt : St := ⟨g0 ++ [none], []⟩
/-- A processor of letters from n on. -/
def cpuN (n : Nat) : CpuE := ⟨.var .u16 n, .var .u8 n, .var n, .var .u8 (n + 1), .var .u8 (n + 2), .var .u8 (n + 3), .var (n + 1), .var (n + 2), .var .u8 (n + 4), .var .u8 (n + 5), .var .u8 (n + 6)⟩
def cpuSegs (c : CpuE) : List Seg := [.arr .u16 16 c.R, .c (.i .u8 c.D), .c (.b c.DF), .c (.i .u8 c.P), .c (.i .u8 c.X), .c (.i .u8 c.T), .c (.b c.IE), .c (.b c.Q), .c (.i .u8 c.Op), .c (.i .u8 c.B), .c (.i .u8 c.Ph)]
def pinsCells (n : Nat) : List Cell := [.i .u8 (.var .u8 n), .i .u8 (.var .u8 (n + 1)), .b (.var n), .b (.var (n + 1)), .b (.var (n + 2)), .b (.var (n + 3)), .b (.var (n + 4)), .b (.var (n + 5)), .b (.var (n + 6))]
def exTm : List (Nat × SVal) := [(1, .v (.c (.sl (some ⟨1, 0, none⟩) (.var .i64 0) (some (.var .i64 1))))), (5, .v (.c (.p (some ⟨2, 0, none⟩)))), (6, .v (.c (.i .i64 (.var .i64 1000))))]
def pEx0 : Pat := ⟨g0 ++ [some ([.el (.var .i64 1) 9 (.var .i64 1000) (pinsCells 5000)], 36), some (cpuSegs (cpuN 1000), 26)], 75, exTm,
  [(.le (.var .i64 1000) (.lit (-1)), false), (.lt (.var .i64 1000) (.var .i64 0), true), (.le (.var .i64 0) (.var .i64 1), true), (.le (.var .i64 0) (.lit 2147483647), true)]⟩
def pEx1 : Pat := ⟨g0 ++ [none, some (cpuSegs (cpuN 1000), 26)], 75, exTm, [(.lt (.var .i64 1000) (.var .i64 0), false)]⟩
def exPats : Pats := [((qEx, 0), pEx0), ((qEx, 1), pEx1)]
def exST : WT Sy.Go := WT.node (BExp.le (IExp.var .i64 0) (IExp.lit 2147483647)) (WT.leaf (Go.go ([true, true, true, true, false, true, false], 0) [Asg.i .u8 1006 (IExp.var .u8 6), Asg.i .u8 1005 (IExp.var .u8 5), Asg.i .u8 1004 (IExp.var .u8 4), Asg.b 1002 (BExp.var 2), Asg.b 1001 (BExp.var 1), Asg.i .u8 1003 (IExp.var .u8 3), Asg.i .u8 1002 (IExp.var .u8 2), Asg.i .u8 1001 (IExp.var .u8 1), Asg.b 1000 (BExp.var 0), Asg.i .u8 1000 (IExp.var .u8 0), Asg.a .u16 1000 (AExp.var .u16 0), Asg.i .i64 1000 (IExp.lit 0)])) (WT.leaf (Go.done (SVal.v (SV.c (Cell.b (BExp.lit true)))) { h := [some ([Seg.c (Cell.i .u8 (IExp.lit 0)), Seg.c (Cell.i .u8 (IExp.lit 1)), Seg.c (Cell.i .u8 (IExp.lit 2)), Seg.c (Cell.i .u8 (IExp.lit 3)), Seg.c (Cell.i .u8 (IExp.lit 4)), Seg.c (Cell.i .u8 (IExp.lit 6)), Seg.c (Cell.i .u8 (IExp.lit 10)), Seg.c (Cell.i .u8 (IExp.lit 8))], 0), none], «as» := [] }))
theorem exS : startT Tryd.prog 1 plan tabCpu 1000 1000 4 2 (fnOf 4) (bodyOf 4) exPats exArgs exSt = exST := by kernel_rfl
def exH0T : WT Sy.Go := WT.both (WT.leaf (Go.go ([true, true, true, true, false, true, false], 0) [Asg.i .u8 1006 (IExp.fn .u8 1 7 (LExp.a (AExp.var .u16 1000) (LExp.i (IExp.var .u8 1000) (LExp.b (BExp.var 1000) (LExp.i (IExp.var .u8 1001) (LExp.i (IExp.var .u8 1002) (LExp.i (IExp.var .u8 1003) (LExp.b (BExp.var 1001) (LExp.b (BExp.var 1002) (LExp.i (IExp.var .u8 1004) (LExp.i (IExp.var .u8 1005) (LExp.i (IExp.var .u8 1006) (LExp.i (IExp.var .u8 5000) (LExp.i (IExp.var .u8 5001) (LExp.b (BExp.var 5000) (LExp.b (BExp.var 5001) (LExp.b (BExp.var 5002) (LExp.b (BExp.var 5003) (LExp.b (BExp.var 5004) (LExp.b (BExp.var 5005) (LExp.b (BExp.var 5006) LExp.nil))))))))))))))))))))), Asg.i .u8 1005 (IExp.fn .u8 1 6 (LExp.a (AExp.var .u16 1000) (LExp.i (IExp.var .u8 1000) (LExp.b (BExp.var 1000) (LExp.i (IExp.var .u8 1001) (LExp.i (IExp.var .u8 1002) (LExp.i (IExp.var .u8 1003) (LExp.b (BExp.var 1001) (LExp.b (BExp.var 1002) (LExp.i (IExp.var .u8 1004) (LExp.i (IExp.var .u8 1005) (LExp.i (IExp.var .u8 1006) (LExp.i (IExp.var .u8 5000) (LExp.i (IExp.var .u8 5001) (LExp.b (BExp.var 5000) (LExp.b (BExp.var 5001) (LExp.b (BExp.var 5002) (LExp.b (BExp.var 5003) (LExp.b (BExp.var 5004) (LExp.b (BExp.var 5005) (LExp.b (BExp.var 5006) LExp.nil))))))))))))))))))))), Asg.i .u8 1004 (IExp.fn .u8 1 5 (LExp.a (AExp.var .u16 1000) (LExp.i (IExp.var .u8 1000) (LExp.b (BExp.var 1000) (LExp.i (IExp.var .u8 1001) (LExp.i (IExp.var .u8 1002) (LExp.i (IExp.var .u8 1003) (LExp.b (BExp.var 1001) (LExp.b (BExp.var 1002) (LExp.i (IExp.var .u8 1004) (LExp.i (IExp.var .u8 1005) (LExp.i (IExp.var .u8 1006) (LExp.i (IExp.var .u8 5000) (LExp.i (IExp.var .u8 5001) (LExp.b (BExp.var 5000) (LExp.b (BExp.var 5001) (LExp.b (BExp.var 5002) (LExp.b (BExp.var 5003) (LExp.b (BExp.var 5004) (LExp.b (BExp.var 5005) (LExp.b (BExp.var 5006) LExp.nil))))))))))))))))))))), Asg.b 1002 (BExp.fn 1 2 (LExp.a (AExp.var .u16 1000) (LExp.i (IExp.var .u8 1000) (LExp.b (BExp.var 1000) (LExp.i (IExp.var .u8 1001) (LExp.i (IExp.var .u8 1002) (LExp.i (IExp.var .u8 1003) (LExp.b (BExp.var 1001) (LExp.b (BExp.var 1002) (LExp.i (IExp.var .u8 1004) (LExp.i (IExp.var .u8 1005) (LExp.i (IExp.var .u8 1006) (LExp.i (IExp.var .u8 5000) (LExp.i (IExp.var .u8 5001) (LExp.b (BExp.var 5000) (LExp.b (BExp.var 5001) (LExp.b (BExp.var 5002) (LExp.b (BExp.var 5003) (LExp.b (BExp.var 5004) (LExp.b (BExp.var 5005) (LExp.b (BExp.var 5006) LExp.nil))))))))))))))))))))), Asg.b 1001 (BExp.fn 1 1 (LExp.a (AExp.var .u16 1000) (LExp.i (IExp.var .u8 1000) (LExp.b (BExp.var 1000) (LExp.i (IExp.var .u8 1001) (LExp.i (IExp.var .u8 1002) (LExp.i (IExp.var .u8 1003) (LExp.b (BExp.var 1001) (LExp.b (BExp.var 1002) (LExp.i (IExp.var .u8 1004) (LExp.i (IExp.var .u8 1005) (LExp.i (IExp.var .u8 1006) (LExp.i (IExp.var .u8 5000) (LExp.i (IExp.var .u8 5001) (LExp.b (BExp.var 5000) (LExp.b (BExp.var 5001) (LExp.b (BExp.var 5002) (LExp.b (BExp.var 5003) (LExp.b (BExp.var 5004) (LExp.b (BExp.var 5005) (LExp.b (BExp.var 5006) LExp.nil))))))))))))))))))))), Asg.i .u8 1003 (IExp.fn .u8 1 4 (LExp.a (AExp.var .u16 1000) (LExp.i (IExp.var .u8 1000) (LExp.b (BExp.var 1000) (LExp.i (IExp.var .u8 1001) (LExp.i (IExp.var .u8 1002) (LExp.i (IExp.var .u8 1003) (LExp.b (BExp.var 1001) (LExp.b (BExp.var 1002) (LExp.i (IExp.var .u8 1004) (LExp.i (IExp.var .u8 1005) (LExp.i (IExp.var .u8 1006) (LExp.i (IExp.var .u8 5000) (LExp.i (IExp.var .u8 5001) (LExp.b (BExp.var 5000) (LExp.b (BExp.var 5001) (LExp.b (BExp.var 5002) (LExp.b (BExp.var 5003) (LExp.b (BExp.var 5004) (LExp.b (BExp.var 5005) (LExp.b (BExp.var 5006) LExp.nil))))))))))))))))))))), Asg.i .u8 1002 (IExp.fn .u8 1 3 (LExp.a (AExp.var .u16 1000) (LExp.i (IExp.var .u8 1000) (LExp.b (BExp.var 1000) (LExp.i (IExp.var .u8 1001) (LExp.i (IExp.var .u8 1002) (LExp.i (IExp.var .u8 1003) (LExp.b (BExp.var 1001) (LExp.b (BExp.var 1002) (LExp.i (IExp.var .u8 1004) (LExp.i (IExp.var .u8 1005) (LExp.i (IExp.var .u8 1006) (LExp.i (IExp.var .u8 5000) (LExp.i (IExp.var .u8 5001) (LExp.b (BExp.var 5000) (LExp.b (BExp.var 5001) (LExp.b (BExp.var 5002) (LExp.b (BExp.var 5003) (LExp.b (BExp.var 5004) (LExp.b (BExp.var 5005) (LExp.b (BExp.var 5006) LExp.nil))))))))))))))))))))), Asg.i .u8 1001 (IExp.fn .u8 1 2 (LExp.a (AExp.var .u16 1000) (LExp.i (IExp.var .u8 1000) (LExp.b (BExp.var 1000) (LExp.i (IExp.var .u8 1001) (LExp.i (IExp.var .u8 1002) (LExp.i (IExp.var .u8 1003) (LExp.b (BExp.var 1001) (LExp.b (BExp.var 1002) (LExp.i (IExp.var .u8 1004) (LExp.i (IExp.var .u8 1005) (LExp.i (IExp.var .u8 1006) (LExp.i (IExp.var .u8 5000) (LExp.i (IExp.var .u8 5001) (LExp.b (BExp.var 5000) (LExp.b (BExp.var 5001) (LExp.b (BExp.var 5002) (LExp.b (BExp.var 5003) (LExp.b (BExp.var 5004) (LExp.b (BExp.var 5005) (LExp.b (BExp.var 5006) LExp.nil))))))))))))))))))))), Asg.b 1000 (BExp.fn 1 0 (LExp.a (AExp.var .u16 1000) (LExp.i (IExp.var .u8 1000) (LExp.b (BExp.var 1000) (LExp.i (IExp.var .u8 1001) (LExp.i (IExp.var .u8 1002) (LExp.i (IExp.var .u8 1003) (LExp.b (BExp.var 1001) (LExp.b (BExp.var 1002) (LExp.i (IExp.var .u8 1004) (LExp.i (IExp.var .u8 1005) (LExp.i (IExp.var .u8 1006) (LExp.i (IExp.var .u8 5000) (LExp.i (IExp.var .u8 5001) (LExp.b (BExp.var 5000) (LExp.b (BExp.var 5001) (LExp.b (BExp.var 5002) (LExp.b (BExp.var 5003) (LExp.b (BExp.var 5004) (LExp.b (BExp.var 5005) (LExp.b (BExp.var 5006) LExp.nil))))))))))))))))))))), Asg.i .u8 1000 (IExp.fn .u8 1 1 (LExp.a (AExp.var .u16 1000) (LExp.i (IExp.var .u8 1000) (LExp.b (BExp.var 1000) (LExp.i (IExp.var .u8 1001) (LExp.i (IExp.var .u8 1002) (LExp.i (IExp.var .u8 1003) (LExp.b (BExp.var 1001) (LExp.b (BExp.var 1002) (LExp.i (IExp.var .u8 1004) (LExp.i (IExp.var .u8 1005) (LExp.i (IExp.var .u8 1006) (LExp.i (IExp.var .u8 5000) (LExp.i (IExp.var .u8 5001) (LExp.b (BExp.var 5000) (LExp.b (BExp.var 5001) (LExp.b (BExp.var 5002) (LExp.b (BExp.var 5003) (LExp.b (BExp.var 5004) (LExp.b (BExp.var 5005) (LExp.b (BExp.var 5006) LExp.nil))))))))))))))))))))), Asg.a .u16 1000 (AExp.fn .u16 1 0 (LExp.a (AExp.var .u16 1000) (LExp.i (IExp.var .u8 1000) (LExp.b (BExp.var 1000) (LExp.i (IExp.var .u8 1001) (LExp.i (IExp.var .u8 1002) (LExp.i (IExp.var .u8 1003) (LExp.b (BExp.var 1001) (LExp.b (BExp.var 1002) (LExp.i (IExp.var .u8 1004) (LExp.i (IExp.var .u8 1005) (LExp.i (IExp.var .u8 1006) (LExp.i (IExp.var .u8 5000) (LExp.i (IExp.var .u8 5001) (LExp.b (BExp.var 5000) (LExp.b (BExp.var 5001) (LExp.b (BExp.var 5002) (LExp.b (BExp.var 5003) (LExp.b (BExp.var 5004) (LExp.b (BExp.var 5005) (LExp.b (BExp.var 5006) LExp.nil))))))))))))))))))))), Asg.i .i64 1000 (IExp.bin BinOp.add .i64 (IExp.var .i64 1000) (IExp.lit 1))])) (WT.leaf (Go.go ([true, true, true, true, false, true, false], 0) [Asg.i .u8 1006 (IExp.fn .u8 1 7 (LExp.a (AExp.var .u16 1000) (LExp.i (IExp.var .u8 1000) (LExp.b (BExp.var 1000) (LExp.i (IExp.var .u8 1001) (LExp.i (IExp.var .u8 1002) (LExp.i (IExp.var .u8 1003) (LExp.b (BExp.var 1001) (LExp.b (BExp.var 1002) (LExp.i (IExp.var .u8 1004) (LExp.i (IExp.var .u8 1005) (LExp.i (IExp.var .u8 1006) (LExp.i (IExp.var .u8 5000) (LExp.i (IExp.var .u8 5001) (LExp.b (BExp.var 5000) (LExp.b (BExp.var 5001) (LExp.b (BExp.var 5002) (LExp.b (BExp.var 5003) (LExp.b (BExp.var 5004) (LExp.b (BExp.var 5005) (LExp.b (BExp.var 5006) LExp.nil))))))))))))))))))))), Asg.i .u8 1005 (IExp.fn .u8 1 6 (LExp.a (AExp.var .u16 1000) (LExp.i (IExp.var .u8 1000) (LExp.b (BExp.var 1000) (LExp.i (IExp.var .u8 1001) (LExp.i (IExp.var .u8 1002) (LExp.i (IExp.var .u8 1003) (LExp.b (BExp.var 1001) (LExp.b (BExp.var 1002) (LExp.i (IExp.var .u8 1004) (LExp.i (IExp.var .u8 1005) (LExp.i (IExp.var .u8 1006) (LExp.i (IExp.var .u8 5000) (LExp.i (IExp.var .u8 5001) (LExp.b (BExp.var 5000) (LExp.b (BExp.var 5001) (LExp.b (BExp.var 5002) (LExp.b (BExp.var 5003) (LExp.b (BExp.var 5004) (LExp.b (BExp.var 5005) (LExp.b (BExp.var 5006) LExp.nil))))))))))))))))))))), Asg.i .u8 1004 (IExp.fn .u8 1 5 (LExp.a (AExp.var .u16 1000) (LExp.i (IExp.var .u8 1000) (LExp.b (BExp.var 1000) (LExp.i (IExp.var .u8 1001) (LExp.i (IExp.var .u8 1002) (LExp.i (IExp.var .u8 1003) (LExp.b (BExp.var 1001) (LExp.b (BExp.var 1002) (LExp.i (IExp.var .u8 1004) (LExp.i (IExp.var .u8 1005) (LExp.i (IExp.var .u8 1006) (LExp.i (IExp.var .u8 5000) (LExp.i (IExp.var .u8 5001) (LExp.b (BExp.var 5000) (LExp.b (BExp.var 5001) (LExp.b (BExp.var 5002) (LExp.b (BExp.var 5003) (LExp.b (BExp.var 5004) (LExp.b (BExp.var 5005) (LExp.b (BExp.var 5006) LExp.nil))))))))))))))))))))), Asg.b 1002 (BExp.fn 1 2 (LExp.a (AExp.var .u16 1000) (LExp.i (IExp.var .u8 1000) (LExp.b (BExp.var 1000) (LExp.i (IExp.var .u8 1001) (LExp.i (IExp.var .u8 1002) (LExp.i (IExp.var .u8 1003) (LExp.b (BExp.var 1001) (LExp.b (BExp.var 1002) (LExp.i (IExp.var .u8 1004) (LExp.i (IExp.var .u8 1005) (LExp.i (IExp.var .u8 1006) (LExp.i (IExp.var .u8 5000) (LExp.i (IExp.var .u8 5001) (LExp.b (BExp.var 5000) (LExp.b (BExp.var 5001) (LExp.b (BExp.var 5002) (LExp.b (BExp.var 5003) (LExp.b (BExp.var 5004) (LExp.b (BExp.var 5005) (LExp.b (BExp.var 5006) LExp.nil))))))))))))))))))))), Asg.b 1001 (BExp.fn 1 1 (LExp.a (AExp.var .u16 1000) (LExp.i (IExp.var .u8 1000) (LExp.b (BExp.var 1000) (LExp.i (IExp.var .u8 1001) (LExp.i (IExp.var .u8 1002) (LExp.i (IExp.var .u8 1003) (LExp.b (BExp.var 1001) (LExp.b (BExp.var 1002) (LExp.i (IExp.var .u8 1004) (LExp.i (IExp.var .u8 1005) (LExp.i (IExp.var .u8 1006) (LExp.i (IExp.var .u8 5000) (LExp.i (IExp.var .u8 5001) (LExp.b (BExp.var 5000) (LExp.b (BExp.var 5001) (LExp.b (BExp.var 5002) (LExp.b (BExp.var 5003) (LExp.b (BExp.var 5004) (LExp.b (BExp.var 5005) (LExp.b (BExp.var 5006) LExp.nil))))))))))))))))))))), Asg.i .u8 1003 (IExp.fn .u8 1 4 (LExp.a (AExp.var .u16 1000) (LExp.i (IExp.var .u8 1000) (LExp.b (BExp.var 1000) (LExp.i (IExp.var .u8 1001) (LExp.i (IExp.var .u8 1002) (LExp.i (IExp.var .u8 1003) (LExp.b (BExp.var 1001) (LExp.b (BExp.var 1002) (LExp.i (IExp.var .u8 1004) (LExp.i (IExp.var .u8 1005) (LExp.i (IExp.var .u8 1006) (LExp.i (IExp.var .u8 5000) (LExp.i (IExp.var .u8 5001) (LExp.b (BExp.var 5000) (LExp.b (BExp.var 5001) (LExp.b (BExp.var 5002) (LExp.b (BExp.var 5003) (LExp.b (BExp.var 5004) (LExp.b (BExp.var 5005) (LExp.b (BExp.var 5006) LExp.nil))))))))))))))))))))), Asg.i .u8 1002 (IExp.fn .u8 1 3 (LExp.a (AExp.var .u16 1000) (LExp.i (IExp.var .u8 1000) (LExp.b (BExp.var 1000) (LExp.i (IExp.var .u8 1001) (LExp.i (IExp.var .u8 1002) (LExp.i (IExp.var .u8 1003) (LExp.b (BExp.var 1001) (LExp.b (BExp.var 1002) (LExp.i (IExp.var .u8 1004) (LExp.i (IExp.var .u8 1005) (LExp.i (IExp.var .u8 1006) (LExp.i (IExp.var .u8 5000) (LExp.i (IExp.var .u8 5001) (LExp.b (BExp.var 5000) (LExp.b (BExp.var 5001) (LExp.b (BExp.var 5002) (LExp.b (BExp.var 5003) (LExp.b (BExp.var 5004) (LExp.b (BExp.var 5005) (LExp.b (BExp.var 5006) LExp.nil))))))))))))))))))))), Asg.i .u8 1001 (IExp.fn .u8 1 2 (LExp.a (AExp.var .u16 1000) (LExp.i (IExp.var .u8 1000) (LExp.b (BExp.var 1000) (LExp.i (IExp.var .u8 1001) (LExp.i (IExp.var .u8 1002) (LExp.i (IExp.var .u8 1003) (LExp.b (BExp.var 1001) (LExp.b (BExp.var 1002) (LExp.i (IExp.var .u8 1004) (LExp.i (IExp.var .u8 1005) (LExp.i (IExp.var .u8 1006) (LExp.i (IExp.var .u8 5000) (LExp.i (IExp.var .u8 5001) (LExp.b (BExp.var 5000) (LExp.b (BExp.var 5001) (LExp.b (BExp.var 5002) (LExp.b (BExp.var 5003) (LExp.b (BExp.var 5004) (LExp.b (BExp.var 5005) (LExp.b (BExp.var 5006) LExp.nil))))))))))))))))))))), Asg.b 1000 (BExp.fn 1 0 (LExp.a (AExp.var .u16 1000) (LExp.i (IExp.var .u8 1000) (LExp.b (BExp.var 1000) (LExp.i (IExp.var .u8 1001) (LExp.i (IExp.var .u8 1002) (LExp.i (IExp.var .u8 1003) (LExp.b (BExp.var 1001) (LExp.b (BExp.var 1002) (LExp.i (IExp.var .u8 1004) (LExp.i (IExp.var .u8 1005) (LExp.i (IExp.var .u8 1006) (LExp.i (IExp.var .u8 5000) (LExp.i (IExp.var .u8 5001) (LExp.b (BExp.var 5000) (LExp.b (BExp.var 5001) (LExp.b (BExp.var 5002) (LExp.b (BExp.var 5003) (LExp.b (BExp.var 5004) (LExp.b (BExp.var 5005) (LExp.b (BExp.var 5006) LExp.nil))))))))))))))))))))), Asg.i .u8 1000 (IExp.fn .u8 1 1 (LExp.a (AExp.var .u16 1000) (LExp.i (IExp.var .u8 1000) (LExp.b (BExp.var 1000) (LExp.i (IExp.var .u8 1001) (LExp.i (IExp.var .u8 1002) (LExp.i (IExp.var .u8 1003) (LExp.b (BExp.var 1001) (LExp.b (BExp.var 1002) (LExp.i (IExp.var .u8 1004) (LExp.i (IExp.var .u8 1005) (LExp.i (IExp.var .u8 1006) (LExp.i (IExp.var .u8 5000) (LExp.i (IExp.var .u8 5001) (LExp.b (BExp.var 5000) (LExp.b (BExp.var 5001) (LExp.b (BExp.var 5002) (LExp.b (BExp.var 5003) (LExp.b (BExp.var 5004) (LExp.b (BExp.var 5005) (LExp.b (BExp.var 5006) LExp.nil))))))))))))))))))))), Asg.a .u16 1000 (AExp.fn .u16 1 0 (LExp.a (AExp.var .u16 1000) (LExp.i (IExp.var .u8 1000) (LExp.b (BExp.var 1000) (LExp.i (IExp.var .u8 1001) (LExp.i (IExp.var .u8 1002) (LExp.i (IExp.var .u8 1003) (LExp.b (BExp.var 1001) (LExp.b (BExp.var 1002) (LExp.i (IExp.var .u8 1004) (LExp.i (IExp.var .u8 1005) (LExp.i (IExp.var .u8 1006) (LExp.i (IExp.var .u8 5000) (LExp.i (IExp.var .u8 5001) (LExp.b (BExp.var 5000) (LExp.b (BExp.var 5001) (LExp.b (BExp.var 5002) (LExp.b (BExp.var 5003) (LExp.b (BExp.var 5004) (LExp.b (BExp.var 5005) (LExp.b (BExp.var 5006) LExp.nil))))))))))))))))))))), Asg.i .i64 1000 (IExp.bin BinOp.add .i64 (IExp.var .i64 1000) (IExp.lit 1))]))
theorem exH0 : headT Tryd.prog 1 plan tabCpu 1000 1000 4 2 2 (fnOf 4) (bodyOf 4) exPats (qEx, 0) = exH0T := by kernel_rfl
def exH1T : WT Sy.Go := WT.leaf (Go.done (SVal.v (SV.c (Cell.b (BExp.eq (IExp.fn .i64 3 0 (LExp.a (AExp.var .u16 1000) (LExp.i (IExp.var .u8 1000) (LExp.b (BExp.var 1000) (LExp.i (IExp.var .u8 1001) (LExp.i (IExp.var .u8 1002) (LExp.i (IExp.var .u8 1003) (LExp.b (BExp.var 1001) (LExp.b (BExp.var 1002) (LExp.i (IExp.var .u8 1004) (LExp.i (IExp.var .u8 1005) (LExp.i (IExp.var .u8 1006) LExp.nil)))))))))))) (IExp.fn .i64 3 0 (LExp.a (AExp.var .u16 1000) (LExp.i (IExp.var .u8 1000) (LExp.b (BExp.var 1000) (LExp.i (IExp.var .u8 1001) (LExp.i (IExp.var .u8 1002) (LExp.i (IExp.var .u8 1003) (LExp.b (BExp.var 1001) (LExp.b (BExp.var 1002) (LExp.i (IExp.var .u8 1004) (LExp.i (IExp.var .u8 1005) (LExp.i (IExp.var .u8 1006) LExp.nil)))))))))))))))) { h := [some ([Seg.c (Cell.i .u8 (IExp.lit 0)), Seg.c (Cell.i .u8 (IExp.lit 1)), Seg.c (Cell.i .u8 (IExp.lit 2)), Seg.c (Cell.i .u8 (IExp.lit 3)), Seg.c (Cell.i .u8 (IExp.lit 4)), Seg.c (Cell.i .u8 (IExp.lit 6)), Seg.c (Cell.i .u8 (IExp.lit 10)), Seg.c (Cell.i .u8 (IExp.lit 8))], 0), none], «as» := [] })
theorem exH1 : headT Tryd.prog 1 plan tabCpu 1000 1000 4 2 2 (fnOf 4) (bodyOf 4) exPats (qEx, 1) = exH1T := by kernel_rfl

def pinKs : List Ck := [.i .u8, .i .u8, .b, .b, .b, .b, .b, .b, .b]
def pinSrc (p : Pins) : Src := { i := fun k => match k with | .u8 => [p.m, p.d] | _ => [], b := [p.f0, p.f1, p.f2, p.f3, p.i, p.o, p.t], a := fun _ _ => [] }
theorem pins_ck {W : World} {r : List Value} (h : CellsIs W pinKs r) : ∃ p : Pins, p.Ok ∧ r = p.cells := by
  simp only [pinKs, CellsIs, CellIs] at h
  obtain ⟨_, _, rfl, ⟨m, rfl, hm⟩, _, _, rfl, ⟨d, rfl, hd⟩, _, _, rfl, ⟨f0, rfl⟩, _, _, rfl, ⟨f1, rfl⟩, _, _, rfl, ⟨f2, rfl⟩, _, _, rfl, ⟨f3, rfl⟩, _, _, rfl, ⟨i, rfl⟩, _, _, rfl, ⟨o, rfl⟩, _, _, rfl, ⟨t, rfl⟩, rfl⟩ := h
  exact ⟨⟨m, d, f0, f1, f2, f3, i, o, t⟩, ⟨hm, hd⟩, rfl⟩
theorem pinsCells_D {E : Env} {ρ : Rho} {N : Nat} {p : Pins} (hp : p.Ok) : CellsD (over E N (pinSrc p)) ρ (pinsCells N) p.cells := by
  have hm : (over E N (pinSrc p)).i .u8 N = p.m := (over_i E N _ .u8 0).trans (clip_of hp.1)
  have hd : (over E N (pinSrc p)).i .u8 (N + 1) = p.d := (over_i E N _ .u8 1).trans (clip_of hp.2)
  have hb : ∀ j, (over E N (pinSrc p)).b (N + j) = [p.f0, p.f1, p.f2, p.f3, p.i, p.o, p.t].getD j false := fun j => over_b E N _ j
  refine ⟨_, _, rfl, ?_, _, _, rfl, ?_, _, _, rfl, ?_, _, _, rfl, ?_, _, _, rfl, ?_, _, _, rfl, ?_, _, _, rfl, ?_, _, _, rfl, ?_, _, _, rfl, ?_, rfl⟩
  · exact congrArg _ hm.symm
  · exact congrArg _ hd.symm
  · exact congrArg _ (hb 0).symm
  · exact congrArg _ (hb 1).symm
  · exact congrArg _ (hb 2).symm
  · exact congrArg _ (hb 3).symm
  · exact congrArg _ (hb 4).symm
  · exact congrArg _ (hb 5).symm
  · exact congrArg _ (hb 6).symm

def exInv (n : Nat) : Inv := ⟨fun k e => ∃ i : Nat, e.i .i64 1000 = i ∧ i ≤ n ∧ (k.2 = 0 → i < n) ∧ (n : Int) ≤ 2147483647, fun _ e => n - (e.i .i64 1000).toNat⟩
theorem exPats_get {k : Key} {p : Pat} (h : patAt exPats k = some p) : (k = (qEx, 0) ∧ p = pEx0) ∨ (k = (qEx, 1) ∧ p = pEx1) := by
  simp only [exPats, patAt] at h
  by_cases h0 : (qEx, 0) = k
  · rw [show decide ((qEx, 0) = k) = true from decide_eq_true h0] at h
    exact .inl ⟨h0.symm, (Option.some.inj h).symm⟩
  · rw [show decide ((qEx, 0) = k) = false from decide_eq_false h0] at h
    simp only [cond_false] at h
    by_cases h1 : (qEx, 1) = k
    · rw [show decide ((qEx, 1) = k) = true from decide_eq_true h1] at h
      exact .inr ⟨h1.symm, (Option.some.inj h).symm⟩
    · rw [show decide ((qEx, 1) = k) = false from decide_eq_false h1] at h
      cases h
theorem exPats_nd : ∀ k p, (k, p) ∈ exPats → patAt exPats k = some p := by
  intro k p h
  simp only [exPats, List.mem_cons, List.not_mem_nil, or_false, Prod.mk.injEq] at h
  rcases h with ⟨rfl, rfl⟩ | ⟨rfl, rfl⟩ <;> rfl
theorem Segs.mono0 {e : Env} {ρ : Rho} {x : Nat × Nat × Nat} {l : List Seg} {vs : List Value} (h : SegsD e [x] l vs) : SegsD e ([x] ++ ρ) l vs := SegsD.mono ⟨ρ, rfl⟩ h
section
variable {W : World} {b o c n : Nat} {Z : List (List Value)} (hL : Laid W) (hZ : 0 < c → RecsAt W pinKs b o c Z) (hn : n ≤ c) (htop : (n : Int) ≤ 2147483647)
include hL hZ hn htop
/-- Behind a round, or at first: the next element is told. -/
theorem ex_next {e : Env} {l : List Asg} {i : Nat} {m : Option Nat} {D : Env → SVal → St → Prop} (e0 : (Env.upd e e l).i .i64 0 = n) (e1 : (Env.upd e e l).i .i64 1 = c) (hi : (Env.upd e e l).i .i64 1000 = i) (hle : i ≤ n) (hm : ∀ m', m = some m' → n - i < m') :
    Owed 1000 5000 2 2 [(0, 0, 0), (b, o, 0)] W exPats (exInv n) D e m (.go (qEx, 0) l) := by
  intro ok' hag
  generalize Env.upd e e l = E at *
  have hg : ∀ e', RoOk e' 2 [(0, 0, 0), (b, o, 0)] [(0, 0, 0), (b, o, 0)] W (g0 ++ [none]) := by
    intro e' i l t hi2 hl
    obtain ⟨b', o', r', vs, h1, h2, h3⟩ := (hL e').blk i l t (by
      rcases i with _ | i
      · exact hl
      · rcases i with _ | i
        · simp [g0] at hl
        · omega)
    rcases i with _ | i
    · cases h1
      exact ⟨0, 0, 0, vs, rfl, h2.weak (fun q => q.elim), Segs.mono0 h3, fun x hx => by simp at hx⟩
    · rcases i with _ | i
      · simp [g0] at hl
      · omega
  by_cases hlt : i < n
  · have hc : 0 < c := by omega
    have hR := hZ hc
    obtain ⟨r, hr⟩ : ∃ r, Z[i]? = some r := ⟨_, List.getElem?_eq_getElem (by rw [hR.len]; omega)⟩
    obtain ⟨p, hp, rfl⟩ := pins_ck (hR.each i r hr)
    have a0 : (over E 5000 (pinSrc p)).i .i64 0 = n := e0
    have a1 : (over E 5000 (pinSrc p)).i .i64 1 = c := e1
    have a2 : (over E 5000 (pinSrc p)).i .i64 1000 = i := hi
    refine ⟨over E 5000 (pinSrc p), [(0, 0, 0), (b, o, 0)], (qEx, 0), pEx0, over_ok ok' _ _, over_agree _ _ _, Base.refl _ _ _, rfl, rfl, fun p2 hp2 => ?_, ?_, ?_, ⟨i, a2, hle, fun _ => hlt, htop⟩, fun m' hm' => ?_⟩
    · rcases exPats_get hp2 with ⟨_, rfl⟩ | ⟨h, _⟩
      · exact ⟨rfl, rfl, rfl⟩
      · cases h
    · refine AsmOk.cons ?_ (AsmOk.cons ?_ (AsmOk.cons ?_ (AsmOk.cons ?_ (AsmOk.nil _)))) <;> simp only [BExp.den, IExp.den, a0, a1, a2]
      · exact decide_eq_false (by omega)
      · exact decide_eq_true (by omega)
      · exact decide_eq_true (by omega)
      · exact decide_eq_true htop
    · intro j l1 t1 hj hl1
      rcases j with _ | j
      · exact hg _ 0 l1 t1 (by omega) hl1
      · rcases j with _ | j
        · have hl1 : some ([Seg.el (.var .i64 1) 9 (.var .i64 1000) (pinsCells 5000)], _) = some (l1, t1) := Option.some.inj hl1
          cases hl1
          exact ⟨b, o, 0, _, rfl, hR.at', hR.el (i := i) hr (pinsCells_D hp) a1 a2, fun x hx => by simp at hx⟩
        · omega
    · simp only [exInv, a2, Int.toNat_natCast]
      exact hm m' hm'
  · have hin : i = n := by omega
    refine ⟨E, [(0, 0, 0), (b, o, 0)], (qEx, 1), pEx1, ok', Agree.refl _ _, Base.refl _ _ _, rfl, rfl, fun p2 hp2 => ?_, ?_, ?_, ⟨i, hi, hle, (fun h => by cases h), htop⟩, fun m' hm' => ?_⟩
    · rcases exPats_get hp2 with ⟨_, rfl⟩ | ⟨h, _⟩
      · exact ⟨rfl, rfl, rfl⟩
      · cases h
    · refine AsmOk.cons ?_ (AsmOk.nil _)
      simp only [BExp.den, IExp.den, e0, hi]
      exact decide_eq_false (by omega)
    · intro j l1 t1 hj hl1
      refine hg _ j l1 t1 hj ?_
      rcases j with _ | j
      · exact hl1
      · rcases j with _ | j
        · cases (Option.some.inj hl1)
        · omega
    · simp only [exInv, hi, Int.toNat_natCast]
      exact hm m' hm'
end

noncomputable def exSrc (c : Cpu) (n cap : Nat) : Src := withCpu { srcC c.R (c.D :: c.P :: c.X :: c.T :: c.Op :: c.B :: c.Ph :: []) (c.DF :: c.IE :: c.Q :: []) with i := fun k => match k with | .u8 => [c.D, c.P, c.X, c.T, c.Op, c.B, c.Ph] | .i64 => [n, cap] | _ => [] }
theorem exact_walk (W : World) (cs0 : List Value) (k0 : Flat.AllOk cpuFs cs0) (a : Option Addr) (n cap : Nat) (ck : CellsIs W [.recs pinKs] [.slice a n cap]) (hL : laidMetH Tryd.prog [("vesper/cpu.lasts", Rows.laid_vesper_cpu_lasts)] W) :
    Calls Tryd.prog 4 #[.agg cs0.toArray, .slice a n cap] W (Yes W) := by
  obtain ⟨c, hc, rfl⟩ := cpu_of k0
  have hlaid : Laid W := fun e => of_laid hL e
  obtain ⟨hf, hb⟩ := fn_of (f := 4) (by kernel_rfl)
  -- the slice
  obtain ⟨b, o, Z, hnc, hcap, hsl, hZ⟩ : ∃ (b o : Nat) (Z : List (List Value)), n ≤ cap ∧ (cap : Int) ≤ lenTop ∧ ((cap = 0 ∧ n = 0) ∨ (0 < cap ∧ a = some ⟨b, o, none⟩)) ∧ (0 < cap → RecsAt W pinKs b o cap Z) := by
    rcases recs_open (by decide) ck with ⟨h1, h2⟩ | ⟨b, o, Z, h1, h2, h3, h4⟩
    · exact ⟨0, 0, [], by omega, by rw [h1]; decide, .inl ⟨h1, h2⟩, fun h => by omega⟩
    · exact ⟨b, o, Z, h3, h4.top, .inr ⟨h2, h1⟩, fun _ => h4⟩
  have htop : lenTop = 9223372036854775807 := rfl
  have ok := (exSrc c n cap).ok
  have he := withCpu_env { srcC c.R (c.D :: c.P :: c.X :: c.T :: c.Op :: c.B :: c.Ph :: []) (c.DF :: c.IE :: c.Q :: []) with i := fun k => match k with | .u8 => [c.D, c.P, c.X, c.T, c.Op, c.B, c.Ph] | .i64 => [n, cap] | _ => [] }
  have he : CpuEnv (exSrc c n cap).env := he
  have e0 : (exSrc c n cap).env.i .i64 0 = n := clip_of (k := .i64) (n := (n : Int)) (i64_in (by omega) (by omega))
  have e1 : (exSrc c n cap).env.i .i64 1 = cap := clip_of (k := .i64) (n := (cap : Int)) (i64_in (by omega) (by omega))
  have hcD : ∀ ρ, (cpuV op ph).D (exSrc c n cap).env ρ c.val := by
    intro ρ
    have hR : (AExp.var .u16 0).den (exSrc c n cap).env = c.R := clipL_of hc.hR (by show ((c.R.length : Nat) : Int) ≤ lenTop; rw [hc.hlen]; decide)
    refine ⟨c.cells, rfl, _, by rw [hR]; exact hc.hcs, by rw [hR]; exact hc.hlen, ?_⟩
    refine ⟨_, _, rfl, ?_, _, _, rfl, ?_, _, _, rfl, ?_, _, _, rfl, ?_, _, _, rfl, ?_, _, _, rfl, ?_, _, _, rfl, ?_, _, _, rfl, ?_, _, _, rfl, ?_, _, _, rfl, ?_, rfl⟩
    · exact congrArg _ (clip_of hc.hD).symm
    · rfl
    · exact congrArg _ (clip_of hc.hP).symm
    · exact congrArg _ (clip_of hc.hX).symm
    · exact congrArg _ (clip_of hc.hT).symm
    · rfl
    · rfl
    · exact congrArg _ (clip_of hc.hOp).symm
    · exact congrArg _ (clip_of hc.hB).symm
    · exact congrArg _ (clip_of hc.hPh).symm
  generalize (exSrc c n cap).env = E at ok he e0 e1 hcD
  have hr : HRel E 2 [(0, 0, 0), (b, o, 0)] (g0 ++ [none]) W := by
    have := HRel.ro (e := E) (W := W) (ρ := [(0, 0, 0), (b, o, 0)]) (h := g0 ++ [none]) rfl (fun i l t hi => by
      rcases i with _ | i
      · obtain ⟨b', o', r', vs, h1, h2, h3⟩ := (hlaid E).blk 0 l t hi
        cases h1
        exact ⟨0, 0, 0, vs, rfl, h2.weak (fun q => q.elim), Segs.mono0 h3⟩
      · rcases i with _ | i
        · simp [g0] at hi
        · simp [g0] at hi)
    exact this
  refine cfgR (G := 1) (ov := 2) (plan := plan) (tab := tabCpu) (n := 1000) (N := 1000) (NE := 5000) (sv := 2) (ro := 2) (base := 2) (pats := exPats) (args := exArgs) (st := exSt) (e0 := E) (ρ0 := [(0, 0, 0), (b, o, 0)]) (vs := [c.val, .slice a n cap]) (W0 := W) (exInv n) (fun e v _ => ∀ ρ V, v.D e ρ V → V = .bool true)
    mixed plan_ok rfl (fun _ _ _ => LtOk.none) (fun e ok g => tabCpu_ok ok (he.agree g) _) rfl hf hb ok ?_ (AsmOk.nil _) hr ?_ (Nat.le_refl _) (show 2 ≤ 2 by omega) (by decide) (by decide) (by decide) ?_ ?_ ?_ exPats_nd ?_
  · refine ⟨_, _, rfl, hcD _, _, _, rfl, ?_, rfl⟩
    rcases hsl with ⟨h1, h2⟩ | ⟨h1, rfl⟩
    · subst h1 h2
      exact ⟨_, _, _, rfl, by show _ = E.i .i64 0; rw [e0], Nat.le_refl _, .inr ⟨rfl, rfl, fun x hx => by cases hx; exact e1⟩⟩
    · exact slice_D (i := 1) rfl e0 e1 hnc
  · intro g hg
    have : g = 0 := by omega
    subst this; rfl
  · intro k p hm
    simp only [exPats, List.mem_cons, List.not_mem_nil, or_false, Prod.mk.injEq] at hm
    rcases hm with ⟨rfl, rfl⟩ | ⟨rfl, rfl⟩ <;> kernel_rfl
  · rw [exS]
    unfold exST
    simp only [WT.holds]
    split
    · rename_i hle
      rw [le_den, litD, show (IExp.var .i64 0).den E = n from e0] at hle
      have hle := of_decide_eq_true hle
      refine ex_next hlaid hZ hnc hle (i := 0) ((updI_none rfl).trans e0) ((updI_none rfl).trans e1) ((updI rfl).trans (litD _ _)) (Nat.zero_le _) (fun m' hm' => by cases hm')
    · intro ρ V hV
      exact hV
  · intro q hq e ok' g ha hI
    have a0 : e.i .i64 0 = n := by rw [g.i .i64 0 (by omega)]; exact e0
    have a1 : e.i .i64 1 = cap := by rw [g.i .i64 1 (by omega)]; exact e1
    obtain ⟨i, hi, hle, hlt, hn31⟩ := hI
    simp only [exPats, List.map_cons, List.map_nil, List.mem_cons, List.not_mem_nil, or_false] at hq
    rcases hq with rfl | rfl
    · have hlt := hlt rfl
      rw [exH0]
      have hi1 : ∀ x : IExp, x = .bin .add .i64 (.var .i64 1000) (.lit 1) → x.den e = ((i + 1 : Nat) : Int) := by
        rintro x rfl
        rw [binE, litD, show (IExp.var .i64 1000).den e = i from hi]
        simp only [binDen]
        rw [wrap64 (by omega) (by omega)]; simp
      have hm : ∀ m', some ((exInv n).μ (qEx, 0) e) = some m' → n - (i + 1) < m' := by
        intro m' hm'
        cases hm'
        simp only [exInv, hi, Int.toNat_natCast]
        omega
      unfold exH0T
      simp only [WT.holds]
      constructor
      · exact ex_next hlaid hZ hnc hn31 (i := i + 1) ((updI_none rfl).trans a0) ((updI_none rfl).trans a1) ((updI rfl).trans (hi1 _ rfl)) hlt hm
      · exact ex_next hlaid hZ hnc hn31 (i := i + 1) ((updI_none rfl).trans a0) ((updI_none rfl).trans a1) ((updI rfl).trans (hi1 _ rfl)) hlt hm
    · rw [exH1]
      unfold exH1T
      intro ρ V hV
      have hV : V = .bool (BExp.den e (.eq _ _)) := hV
      rw [hV]
      simp only [BExp.den, decide_true]
  · rintro e v st' ok' g hd ρb hbb ρ' V W' hp hV
    exact ⟨congrArg _ (hd _ _ hV), below_of_post hp (by rw [hbb.len]; exact Nat.le_refl _)⟩
end Go.Proofs.YtjnoacnbhcdidaaDoor.K
