/- The store's laws: a list that comes out twice is its owner's. -/
import Derived.Test.YtopgnohobmlegaaStBack
namespace Go.Proofs.Ytopgnohobmlegaa.K
open Go Sy
set_option maxRecDepth 100000
set_option linter.unusedVariables false
set_option linter.unusedSimpArgs false
def qBy : Path := [true, true, false, true, false]
def bySl (i : Nat) : SVal := .v (.c (.sl (some ⟨i, 0, none⟩) (.var .i64 0) (some (.var .i64 0))))
def byRow (j : Nat) : Blk := some ([.row .u8 (.var .u8 j)], 5)
def byAs : Asm := [(.le (.var .i64 0) (.lit 0), false), (.le (.var .i64 0) (.lit 32768), true), (.eq (.len (.var .u8 1)) (.var .i64 0), true), (.eq (.len (.var .u8 2)) (.var .i64 0), true)]
def bySt : St := ⟨[byRow 2, byRow 0, byRow 1], (.eq (.len (.var .u8 0)) (.var .i64 0), true) :: byAs⟩
def pBy : Pat := ⟨[byRow 2, byRow 1000, byRow 1], 76, [(0, bySl 1), (1, bySl 2), (2, bySl 0), (7, .v (.c (.i .i64 (.var .i64 1000))))],
  (.aeq (.var .u8 1) (.var .u8 2), true) :: (.le (.var .i64 1000) (.lit (-1)), false) :: (.eq (.len (.var .u8 1000)) (.var .i64 0), true) :: byAs⟩
def byPats : Pats := [((qBy, 0), pBy)]
def byST : WT Sy.Go := WT.node (BExp.aeq (AExp.var .u8 0) (AExp.var .u8 2)) (WT.node (BExp.aeq (AExp.var .u8 1) (AExp.var .u8 2)) (WT.leaf (Go.go ([true, true, false, true, false], 0) [Asg.a .u8 1000 (AExp.var .u8 0), Asg.i .i64 1000 (IExp.lit 0)])) (WT.leaf (Go.done (SVal.v (SV.c (Cell.b (BExp.lit false)))) { h := [some ([Seg.row .u8 (AExp.var .u8 2)], 5), some ([Seg.row .u8 (AExp.var .u8 0)], 5), some ([Seg.row .u8 (AExp.var .u8 1)], 5)], «as» := [] }))) (WT.leaf (Go.done (SVal.v (SV.c (Cell.b (BExp.lit false)))) { h := [some ([Seg.row .u8 (AExp.var .u8 2)], 5), some ([Seg.row .u8 (AExp.var .u8 0)], 5), some ([Seg.row .u8 (AExp.var .u8 1)], 5)], «as» := [] }))
theorem byS : startT Try.prog 0 plan (tabSame 28) 2000 1000 49 1 (fnOf 49) (bodyOf 49) byPats [bySl 1, bySl 2, bySl 0] bySt = byST := by kernel_rfl
def byHT : WT Sy.Go := WT.node (BExp.lt (IExp.var .i64 1000) (IExp.var .i64 0)) (WT.leaf (Go.go ([true, true, false, true, false], 0) [Asg.a .u8 1000 (AExp.upd (AExp.var .u8 1000) (IExp.var .i64 1000) (IExp.lit 7)), Asg.i .i64 1000 (IExp.bin BinOp.add .i64 (IExp.var .i64 1000) (IExp.lit 1))])) (WT.leaf (Go.done (SVal.v (SV.c (Cell.b (BExp.eq (IExp.var .i64 0) (IExp.var .i64 0))))) { h := [some ([Seg.row .u8 (AExp.var .u8 2)], 5), some ([Seg.row .u8 (AExp.var .u8 1000)], 5), some ([Seg.row .u8 (AExp.var .u8 1)], 5)], «as» := [] }))
theorem byH : headT Try.prog 0 plan (tabSame 28) 2000 1000 49 1 3 (fnOf 49) (bodyOf 49) byPats (qBy, 0) = byHT := by kernel_rfl
end Go.Proofs.Ytopgnohobmlegaa.K
