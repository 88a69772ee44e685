/- StorePlays. -/
import Derived.Test.YtopgnohobmlegaaStPlays0
namespace Go.Proofs.Ytopgnohobmlegaa.K
open Go Sy
set_option maxRecDepth 100000
set_option linter.unusedVariables false
set_option linter.unusedSimpArgs false
/-- The bytes of the ROM that is handed in: some, or none. -/
def plB1 : SVal := .v (.c (.sl (some ⟨0, 0, none⟩) (.lit 512) (some (.var .i64 2))))
def plB2 : SVal := .v (.c (.sl (some ⟨0, 0, none⟩) (.var .i64 1) (some (.var .i64 2))))
def plB0 : SVal := .v (.c (.sl (some ⟨0, 0, none⟩) (.lit 0) (some (.lit 0))))
def plS : SVal := .v (.c (.sl (some ⟨1, 0, none⟩) (.var .i64 3) (some (.var .i64 4))))
def tabVast2 (x y : SVal) (nr : IExp) (l : Nat) : Tab := fun _ f args st => match args with
  | [u, v] => if f = 26 ∧ u.same x = true ∧ v.same y = true then some (.node (.var l) (.leaf (.v (.c (.b (.lit true))), st)) (.leaf (.v (.c (.b (.lit false))), ⟨st.h, (.le nr (.lit 2147483647), true) :: (.le (.var .i64 3) (.lit 2147483647), true) :: st.as⟩))) else none
  | _ => none
noncomputable def tabP (x : SVal) (nr : IExp) : Tab := fun ro f args st => match tabV ro f args st with
  | some x => some x
  | none => match tabSame 28 ro f args st with
    | some x => some x
    | none => match tabBack ro f args st with
      | some x => some x
      | none => match tabBytes ro f args st with
        | some x => some x
        | none => match tabNew ro f args st with
          | some x => some x
          | none => tabVast2 x plS nr 9 ro f args st
noncomputable def tabP1 : Tab := tabP plB1 (.lit 512)
noncomputable def tabP2 : Tab := tabP plB2 (.var .i64 1)
noncomputable def tabP0 : Tab := tabP plB0 (.lit 0)
def qPl : Path := [true, true, true, true, true, true, true, true, true, true, false, true, false]
def plStore (d b : Nat) : Blk := some ([.arr .u8 32768 (.cat (.var .u8 d) (.var .u8 (d + 1))), .c (.i .i64 (.var .i64 0)), .arr .u8 512 (.var .u8 (d + 2)), .c (.b (.var b))], 68)
def plRef (i b : Nat) : Blk := some ([.c (.sl (some ⟨i, 0, none⟩) (.var .i64 0) (some (.var .i64 0))), .c (.sl (some ⟨i + 1, 0, none⟩) (.lit 512) (some (.lit 512))), .c (.b (.var b))], 71)
def plRow (d : Nat) : Blk := some ([.row .u8 (.var .u8 d)], 5)
def plOwn : SHeap := [plStore 1001 1000, plStore 1011 1001, plRef 7 1000, plRef 9 1001, plRow 1001, plRow 1003, plRow 1011, plRow 1013]
def plTm : List (Nat × SVal) := [(2, plS), (8, .v (.c (.p (some ⟨3, 0, none⟩)))), (10, .v (.c (.p (some ⟨5, 0, none⟩)))), (13, .v (.c (.p (some ⟨4, 0, none⟩)))), (14, .v (.c (.p (some ⟨6, 0, none⟩)))), (15, .v (.c (.i .i64 (.var .i64 1000))))]
def plLen (d : Nat) : Asm := [(.eq (.len (.var .u8 d)) (.var .i64 0), true), (.eq (.len (.var .u8 (d + 2))) (.lit 512), true)]
def plAs : Asm := (.le (.var .i64 1000) (.lit (-1)), false) :: (.le (.var .i64 0) (.lit 2047), false) :: (.le (.var .i64 0) (.lit 32768), true) :: (plLen 1001 ++ plLen 1011)
def plElA : Asm := [(.lt (.var .i64 1000) (.var .i64 3), true), (.le (.var .i64 3) (.var .i64 4), true), (.le (.var .i64 5002) (.lit (-1)), false), (.le (.var .i64 5002) (.lit 2147483647), true), (.le (.var .i64 5002) (.var .i64 5003), true), (.le (.var .i64 5002) (.len (.var .u8 5000)), true), (.eq (.len (.var .u8 5000)) (.var .i64 5003), true)]
def plKind (c : Nat) : Int := [1, 3, 4, 5, 6, 7, 8].getD c 0
def plCase (c : Nat) : Asm := if c < 7 then [(.eq (.var .i64 5000) (.lit (plKind c)), true)] else (List.range 7).map fun d => (.eq (.var .i64 5000) (.lit (plKind d)), false)
def pPlE (c : Nat) (o : Bool) : Pat := ⟨[none, some ([.el (.var .i64 4) 7 (.var .i64 1000) (actCells 2)], 48), plRow 5000] ++ plOwn, 152, plTm, plCase c ++ ((.var 5000, o) :: (plElA ++ plAs))⟩
def pPl1 : Pat := ⟨[none, none, none] ++ plOwn, 152, plTm, (.lt (.var .i64 1000) (.var .i64 3), false) :: plAs⟩
def plPats : Pats := [((qPl, 0), pPlE 0 false), ((qPl, 1), pPlE 0 true), ((qPl, 2), pPlE 1 false), ((qPl, 3), pPlE 1 true), ((qPl, 4), pPlE 2 false), ((qPl, 5), pPlE 2 true), ((qPl, 6), pPlE 3 false), ((qPl, 7), pPlE 3 true),
  ((qPl, 8), pPlE 4 false), ((qPl, 9), pPlE 4 true), ((qPl, 10), pPlE 5 false), ((qPl, 11), pPlE 5 true), ((qPl, 12), pPlE 6 false), ((qPl, 13), pPlE 6 true), ((qPl, 14), pPlE 7 false), ((qPl, 15), pPlE 7 true), ((qPl, 16), pPl1)]
def plArgs (x : SVal) : List SVal := [.v (.c (.i .i64 (.var .i64 0))), x, plS]
def plSt1 : St := ⟨[plRow 0, none, none], (.le (.var .i64 2) (.lit 511), false) :: (.eq (.len (.var .u8 0)) (.var .i64 2), true) :: (.le (.var .i64 3) (.lit (-1)), false) :: asV⟩
def plSt2 : St := ⟨[plRow 0, none, none], (.eq (.var .i64 1) (.lit 512), false) :: (.le (.var .i64 1) (.lit (-1)), false) :: (.le (.var .i64 1) (.var .i64 2), true) :: (.le (.var .i64 1) (.len (.var .u8 0)), true) :: (.eq (.len (.var .u8 0)) (.var .i64 2), true) :: (.le (.var .i64 3) (.lit (-1)), false) :: asV⟩
def plSt0 : St := ⟨[none, none, none], (.le (.var .i64 3) (.lit (-1)), false) :: asV⟩
def plS1T : WT Sy.GoF := WT.node (BExp.var 9) (WT.leaf (GoF.done (SVal.v (SV.c (Cell.b (BExp.lit true)))) { h := [some ([Seg.row .u8 (AExp.var .u8 0)], 5), none, none], «as» := [] })) (WT.node (BExp.le (IExp.var .i64 0) (IExp.lit 2047)) (WT.leaf (GoF.done (SVal.v (SV.c (Cell.b (BExp.lit true)))) { h := [some ([Seg.row .u8 (AExp.var .u8 0)], 5), none, none], «as» := [] })) (WT.node (BExp.le (IExp.var .i64 0) (IExp.lit 32768)) (WT.node (BExp.eq (IExp.bin BinOp.rem .i64 (IExp.var .i64 0) (IExp.lit 2048)) (IExp.lit 0)) (WT.both (WT.leaf (GoF.go ([true, true, true, true, true, true, true, true, true, true, false, true, false], 0) [Asg.a .u8 1003 (AExp.sub (AExp.var .u8 0) (IExp.lit 0) (IExp.lit 512)), Asg.a .u8 1002 (AExp.zeros (IExp.bin BinOp.add .i64 (IExp.bin BinOp.sub .i64 (IExp.lit 0) (IExp.var .i64 0)) (IExp.lit 32768))), Asg.a .u8 1001 (AExp.zeros (IExp.var .i64 0)), Asg.b 1000 (BExp.lit true), Asg.a .u8 1013 (AExp.sub (AExp.var .u8 0) (IExp.lit 0) (IExp.lit 512)), Asg.a .u8 1012 (AExp.zeros (IExp.bin BinOp.add .i64 (IExp.bin BinOp.sub .i64 (IExp.lit 0) (IExp.var .i64 0)) (IExp.lit 32768))), Asg.a .u8 1011 (AExp.zeros (IExp.var .i64 0)), Asg.b 1001 (BExp.lit true), Asg.i .i64 1000 (IExp.lit 0)] [0, 1, 2, 3, 4, 5, 6, 7, 8])) (WT.leaf (GoF.go ([true, true, true, true, true, true, true, true, true, true, false, true, false], 0) [Asg.a .u8 1003 (AExp.sub (AExp.var .u8 0) (IExp.lit 0) (IExp.lit 512)), Asg.a .u8 1002 (AExp.zeros (IExp.bin BinOp.add .i64 (IExp.bin BinOp.sub .i64 (IExp.lit 0) (IExp.var .i64 0)) (IExp.lit 32768))), Asg.a .u8 1001 (AExp.zeros (IExp.var .i64 0)), Asg.b 1000 (BExp.lit true), Asg.a .u8 1013 (AExp.sub (AExp.var .u8 0) (IExp.lit 0) (IExp.lit 512)), Asg.a .u8 1012 (AExp.zeros (IExp.bin BinOp.add .i64 (IExp.bin BinOp.sub .i64 (IExp.lit 0) (IExp.var .i64 0)) (IExp.lit 32768))), Asg.a .u8 1011 (AExp.zeros (IExp.var .i64 0)), Asg.b 1001 (BExp.lit true), Asg.i .i64 1000 (IExp.lit 0)] [0, 1, 2, 3, 4, 5, 6, 7, 8]))) (WT.leaf (GoF.done (SVal.v (SV.c (Cell.b (BExp.lit true)))) { h := [some ([Seg.row .u8 (AExp.var .u8 0)], 5), none, none], «as» := [] }))) (WT.leaf (GoF.done (SVal.v (SV.c (Cell.b (BExp.lit true)))) { h := [some ([Seg.row .u8 (AExp.var .u8 0)], 5), none, none], «as» := [] }))))
theorem plS1 : startTF Try.prog 0 plan tabP1 1000 1000 7 3 (fnOf 7) (bodyOf 7) plPats (plArgs plB1) plSt1 = plS1T := by kernel_rfl
def plS2T : WT Sy.GoF := WT.node (BExp.var 9) (WT.leaf (GoF.done (SVal.v (SV.c (Cell.b (BExp.lit true)))) { h := [some ([Seg.row .u8 (AExp.var .u8 0)], 5), none, none], «as» := [] })) (WT.node (BExp.le (IExp.var .i64 0) (IExp.lit 2047)) (WT.leaf (GoF.done (SVal.v (SV.c (Cell.b (BExp.lit true)))) { h := [some ([Seg.row .u8 (AExp.var .u8 0)], 5), none, none], «as» := [] })) (WT.node (BExp.le (IExp.var .i64 0) (IExp.lit 32768)) (WT.node (BExp.eq (IExp.bin BinOp.rem .i64 (IExp.var .i64 0) (IExp.lit 2048)) (IExp.lit 0)) (WT.leaf (GoF.done (SVal.v (SV.c (Cell.b (BExp.lit true)))) { h := [some ([Seg.row .u8 (AExp.var .u8 0)], 5), none, none], «as» := [] })) (WT.leaf (GoF.done (SVal.v (SV.c (Cell.b (BExp.lit true)))) { h := [some ([Seg.row .u8 (AExp.var .u8 0)], 5), none, none], «as» := [] }))) (WT.leaf (GoF.done (SVal.v (SV.c (Cell.b (BExp.lit true)))) { h := [some ([Seg.row .u8 (AExp.var .u8 0)], 5), none, none], «as» := [] }))))
theorem plS2 : startTF Try.prog 0 plan tabP2 1000 1000 7 3 (fnOf 7) (bodyOf 7) plPats (plArgs plB2) plSt2 = plS2T := by kernel_rfl
def plS0T : WT Sy.GoF := WT.node (BExp.var 9) (WT.leaf (GoF.done (SVal.v (SV.c (Cell.b (BExp.lit true)))) { h := [none, none, none], «as» := [] })) (WT.node (BExp.le (IExp.var .i64 0) (IExp.lit 2047)) (WT.leaf (GoF.done (SVal.v (SV.c (Cell.b (BExp.lit true)))) { h := [none, none, none], «as» := [] })) (WT.node (BExp.le (IExp.var .i64 0) (IExp.lit 32768)) (WT.node (BExp.eq (IExp.bin BinOp.rem .i64 (IExp.var .i64 0) (IExp.lit 2048)) (IExp.lit 0)) (WT.leaf (GoF.done (SVal.v (SV.c (Cell.b (BExp.lit true)))) { h := [none, none, none], «as» := [] })) (WT.leaf (GoF.done (SVal.v (SV.c (Cell.b (BExp.lit true)))) { h := [none, none, none], «as» := [] }))) (WT.leaf (GoF.done (SVal.v (SV.c (Cell.b (BExp.lit true)))) { h := [none, none, none], «as» := [] }))))
theorem plS0 : startTF Try.prog 0 plan tabP0 1000 1000 7 3 (fnOf 7) (bodyOf 7) plPats (plArgs plB0) plSt0 = plS0T := by kernel_rfl

/-- One round further. -/
def isGoP : Sy.GoF → Bool
  | .go q l left => decide (q = (qPl, 0)) && left.all (fun j => decide (j < 9)) && (match getI l .i64 1000 with | some x => x.same (.bin .add .i64 (.var .i64 1000) (.lit 1)) | none => false) && (getI l .i64 0).isNone && (getI l .i64 3).isNone && (getI l .i64 4).isNone
  | _ => false
def isEndP : Sy.GoF → Bool
  | .done (.v (.c (.b (.lit b)))) _ => b
  | .done (.v (.c (.b (.beq x y)))) _ => x.same y
  | _ => false
noncomputable def plHd (j : Nat) : WT Sy.GoF := headTF Try.prog 0 plan tabP1 1000 1000 7 3 3 (fnOf 7) (bodyOf 7) plPats (qPl, j)

theorem plH16 : (plHd 16).all isEndP = true := by kernel_rfl
end Go.Proofs.Ytopgnohobmlegaa.K
