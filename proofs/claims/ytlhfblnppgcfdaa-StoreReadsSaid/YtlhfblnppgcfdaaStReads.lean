/- StoreReads. -/
import Derived.Test.YtlhfblnppgcfdaaStAwake
import Derived.Test.YtlhfblnppgcfdaaKRow
namespace Go.Proofs.Ytlhfblnppgcfdaa.K
open Go Sy
set_option maxRecDepth 100000
set_option linter.unusedVariables false
set_option linter.unusedSimpArgs false
def qReads : Path := [true, true, true, true, true, true, true, true, true, false, true, false]
def rdArgs : List SVal := [.v (.c (.i .i64 (.var .i64 0))), .v (.c (.sl (some ⟨0, 0, none⟩) (.var .i64 1) (some (.var .i64 2)))), .v (.c (.b (.var 0)))]
def rdSt : St := ⟨[some ([.row .u8 (.var .u8 0)], 5)], [(.le (.var .i64 1) (.len (.var .u8 0)), true), (.eq (.len (.var .u8 0)) (.var .i64 2), true), (.le (.var .i64 1) (.var .i64 2), true), (.le (.var .i64 1) (.lit (-1)), false), (.eq (.len (.var .u8 9)) (.lit 512), true)]⟩
def pReads : Pat := ⟨[none,
    some ([.arr .u8 32768 (.var .u8 1001), .c (.i .i64 (.var .i64 1001)), .arr .u8 512 (.var .u8 1002), .c (.b (.var 1000))], 68),
    some ([.c (.sl (some ⟨3, 0, none⟩) (.var .i64 1001) (some (.var .i64 1001))), .c (.sl (some ⟨4, 0, none⟩) (.lit 512) (some (.lit 512))), .c (.b (.var 1000))], 71),
    some ([.row .u8 (.var .u8 1003)], 5), some ([.row .u8 (.var .u8 1004)], 5)],
  69, [(7, .v (.c (.p (some ⟨1, 0, none⟩)))), (9, .v (.c (.p (some ⟨2, 0, none⟩)))), (11, .v (.c (.i .i64 (.var .i64 1000))))],
  [(.eq (.len (.var .u8 1003)) (.var .i64 1001), true), (.le (.var .i64 1001) (.lit 2047), false), (.le (.var .i64 1001) (.lit 32768), true), (.eq (.len (.var .u8 1004)) (.lit 512), true), (.le (.var .i64 1000) (.lit 65536), true), (.le (.var .i64 1000) (.lit (-1)), false)]⟩
def rdPats : Pats := [(qReads, pReads)]
def rdST : WT Sy.Go := WT.node (BExp.le (IExp.var .i64 1) (IExp.lit 2147483647)) (WT.node (BExp.le (IExp.var .i64 0) (IExp.lit 2047)) (WT.leaf (Go.done (SVal.v (SV.c (Cell.b (BExp.lit true)))) { h := [some ([Seg.row .u8 (AExp.var .u8 0)], 5)], «as» := [] })) (WT.node (BExp.le (IExp.var .i64 0) (IExp.lit 32768)) (WT.node (BExp.eq (IExp.bin BinOp.rem .i64 (IExp.var .i64 0) (IExp.lit 2048)) (IExp.lit 0)) (WT.both (WT.node (BExp.lt (IExp.var .i64 0) (IExp.var .i64 1)) (WT.leaf (Go.go [true, true, true, true, true, true, true, true, true, false, true, false] [Asg.a .u8 1003 (AExp.zeros (IExp.var .i64 0)), Asg.a .u8 1004 (AExp.sub (AExp.var .u8 9) (IExp.lit 0) (IExp.lit 512)), Asg.a .u8 1002 (AExp.sub (AExp.var .u8 9) (IExp.lit 0) (IExp.lit 512)), Asg.a .u8 1001 (AExp.zeros (IExp.lit 32768)), Asg.b 1000 (BExp.var 0), Asg.i .i64 1001 (IExp.var .i64 0), Asg.i .i64 1000 (IExp.lit 0)])) (WT.leaf (Go.go [true, true, true, true, true, true, true, true, true, false, true, false] [Asg.a .u8 1003 (AExp.cat (AExp.sub (AExp.var .u8 0) (IExp.lit 0) (IExp.var .i64 1)) (AExp.sub (AExp.zeros (IExp.var .i64 0)) (IExp.var .i64 1) (IExp.bin BinOp.sub .i64 (IExp.var .i64 0) (IExp.var .i64 1)))), Asg.a .u8 1004 (AExp.sub (AExp.var .u8 9) (IExp.lit 0) (IExp.lit 512)), Asg.a .u8 1002 (AExp.sub (AExp.var .u8 9) (IExp.lit 0) (IExp.lit 512)), Asg.a .u8 1001 (AExp.cat (AExp.sub (AExp.var .u8 0) (IExp.lit 0) (IExp.var .i64 1)) (AExp.sub (AExp.zeros (IExp.lit 32768)) (IExp.var .i64 1) (IExp.bin BinOp.add .i64 (IExp.bin BinOp.sub .i64 (IExp.lit 0) (IExp.var .i64 1)) (IExp.lit 32768)))), Asg.b 1000 (BExp.var 0), Asg.i .i64 1001 (IExp.var .i64 0), Asg.i .i64 1000 (IExp.lit 0)]))) (WT.node (BExp.lt (IExp.var .i64 0) (IExp.var .i64 1)) (WT.leaf (Go.go [true, true, true, true, true, true, true, true, true, false, true, false] [Asg.a .u8 1003 (AExp.zeros (IExp.var .i64 0)), Asg.a .u8 1004 (AExp.sub (AExp.var .u8 9) (IExp.lit 0) (IExp.lit 512)), Asg.a .u8 1002 (AExp.sub (AExp.var .u8 9) (IExp.lit 0) (IExp.lit 512)), Asg.a .u8 1001 (AExp.zeros (IExp.lit 32768)), Asg.b 1000 (BExp.var 0), Asg.i .i64 1001 (IExp.var .i64 0), Asg.i .i64 1000 (IExp.lit 0)])) (WT.leaf (Go.go [true, true, true, true, true, true, true, true, true, false, true, false] [Asg.a .u8 1003 (AExp.cat (AExp.sub (AExp.var .u8 0) (IExp.lit 0) (IExp.var .i64 1)) (AExp.sub (AExp.zeros (IExp.var .i64 0)) (IExp.var .i64 1) (IExp.bin BinOp.sub .i64 (IExp.var .i64 0) (IExp.var .i64 1)))), Asg.a .u8 1004 (AExp.sub (AExp.var .u8 9) (IExp.lit 0) (IExp.lit 512)), Asg.a .u8 1002 (AExp.sub (AExp.var .u8 9) (IExp.lit 0) (IExp.lit 512)), Asg.a .u8 1001 (AExp.cat (AExp.sub (AExp.var .u8 0) (IExp.lit 0) (IExp.var .i64 1)) (AExp.sub (AExp.zeros (IExp.lit 32768)) (IExp.var .i64 1) (IExp.bin BinOp.add .i64 (IExp.bin BinOp.sub .i64 (IExp.lit 0) (IExp.var .i64 1)) (IExp.lit 32768)))), Asg.b 1000 (BExp.var 0), Asg.i .i64 1001 (IExp.var .i64 0), Asg.i .i64 1000 (IExp.lit 0)])))) (WT.leaf (Go.done (SVal.v (SV.c (Cell.b (BExp.lit true)))) { h := [some ([Seg.row .u8 (AExp.var .u8 0)], 5)], «as» := [] }))) (WT.leaf (Go.done (SVal.v (SV.c (Cell.b (BExp.lit true)))) { h := [some ([Seg.row .u8 (AExp.var .u8 0)], 5)], «as» := [] })))) (WT.leaf (Go.done (SVal.v (SV.c (Cell.b (BExp.lit true)))) { h := [some ([Seg.row .u8 (AExp.var .u8 0)], 5)], «as» := [] }))
theorem rdS : startT Try.prog 0 plan tabV 1000 1000 5 1 (fnOf 5) (bodyOf 5) rdPats rdArgs rdSt = rdST := by kernel_rfl
def rdArgs0 : List SVal := [.v (.c (.i .i64 (.var .i64 0))), .v (.c (.sl (some ⟨0, 0, none⟩) (.lit 0) (some (.lit 0)))), .v (.c (.b (.var 0)))]
def rdSt0 : St := ⟨[none], asV⟩
def rdS0T : WT Sy.Go := WT.node (BExp.le (IExp.var .i64 0) (IExp.lit 2047)) (WT.leaf (Go.done (SVal.v (SV.c (Cell.b (BExp.lit true)))) { h := [none], «as» := [] })) (WT.node (BExp.le (IExp.var .i64 0) (IExp.lit 32768)) (WT.node (BExp.eq (IExp.bin BinOp.rem .i64 (IExp.var .i64 0) (IExp.lit 2048)) (IExp.lit 0)) (WT.both (WT.leaf (Go.go [true, true, true, true, true, true, true, true, true, false, true, false] [Asg.a .u8 1003 (AExp.zeros (IExp.var .i64 0)), Asg.a .u8 1004 (AExp.sub (AExp.var .u8 9) (IExp.lit 0) (IExp.lit 512)), Asg.a .u8 1002 (AExp.sub (AExp.var .u8 9) (IExp.lit 0) (IExp.lit 512)), Asg.a .u8 1001 (AExp.zeros (IExp.lit 32768)), Asg.b 1000 (BExp.var 0), Asg.i .i64 1001 (IExp.var .i64 0), Asg.i .i64 1000 (IExp.lit 0)])) (WT.leaf (Go.go [true, true, true, true, true, true, true, true, true, false, true, false] [Asg.a .u8 1003 (AExp.zeros (IExp.var .i64 0)), Asg.a .u8 1004 (AExp.sub (AExp.var .u8 9) (IExp.lit 0) (IExp.lit 512)), Asg.a .u8 1002 (AExp.sub (AExp.var .u8 9) (IExp.lit 0) (IExp.lit 512)), Asg.a .u8 1001 (AExp.zeros (IExp.lit 32768)), Asg.b 1000 (BExp.var 0), Asg.i .i64 1001 (IExp.var .i64 0), Asg.i .i64 1000 (IExp.lit 0)]))) (WT.leaf (Go.done (SVal.v (SV.c (Cell.b (BExp.lit true)))) { h := [none], «as» := [] }))) (WT.leaf (Go.done (SVal.v (SV.c (Cell.b (BExp.lit true)))) { h := [none], «as» := [] })))
theorem rdS0 : startT Try.prog 0 plan tabV 1000 1000 5 1 (fnOf 5) (bodyOf 5) rdPats rdArgs0 rdSt0 = rdS0T := by kernel_rfl
def rdHT : WT Sy.Go := WT.node (BExp.le (IExp.var .i64 1000) (IExp.lit 65535)) (WT.node (BExp.le (IExp.var .i64 1000) (IExp.lit 32767)) (WT.node (BExp.var 1000) (WT.node (BExp.eq (IExp.sel .u8 (AExp.var .u8 1002) (IExp.bin BinOp.rem .i64 (IExp.var .i64 1000) (IExp.lit 512))) (IExp.sel .u8 (AExp.var .u8 1004) (IExp.bin BinOp.rem .i64 (IExp.var .i64 1000) (IExp.lit 512)))) (WT.leaf (Go.go [true, true, true, true, true, true, true, true, true, false, true, false] [Asg.a .u8 1003 (AExp.var .u8 1003), Asg.a .u8 1004 (AExp.var .u8 1004), Asg.a .u8 1002 (AExp.var .u8 1002), Asg.a .u8 1001 (AExp.var .u8 1001), Asg.b 1000 (BExp.var 1000), Asg.i .i64 1001 (IExp.var .i64 1001), Asg.i .i64 1000 (IExp.bin BinOp.add .i64 (IExp.var .i64 1000) (IExp.lit 1))])) (WT.leaf (Go.done (SVal.v (SV.c (Cell.b (BExp.lit false)))) { h := [none], «as» := [] }))) (WT.node (BExp.lt (IExp.var .i64 1000) (IExp.var .i64 1001)) (WT.node (BExp.eq (IExp.sel .u8 (AExp.var .u8 1001) (IExp.var .i64 1000)) (IExp.sel .u8 (AExp.var .u8 1003) (IExp.var .i64 1000))) (WT.leaf (Go.go [true, true, true, true, true, true, true, true, true, false, true, false] [Asg.a .u8 1003 (AExp.var .u8 1003), Asg.a .u8 1004 (AExp.var .u8 1004), Asg.a .u8 1002 (AExp.var .u8 1002), Asg.a .u8 1001 (AExp.var .u8 1001), Asg.b 1000 (BExp.var 1000), Asg.i .i64 1001 (IExp.var .i64 1001), Asg.i .i64 1000 (IExp.bin BinOp.add .i64 (IExp.var .i64 1000) (IExp.lit 1))])) (WT.leaf (Go.done (SVal.v (SV.c (Cell.b (BExp.lit false)))) { h := [none], «as» := [] }))) (WT.leaf (Go.go [true, true, true, true, true, true, true, true, true, false, true, false] [Asg.a .u8 1003 (AExp.var .u8 1003), Asg.a .u8 1004 (AExp.var .u8 1004), Asg.a .u8 1002 (AExp.var .u8 1002), Asg.a .u8 1001 (AExp.var .u8 1001), Asg.b 1000 (BExp.var 1000), Asg.i .i64 1001 (IExp.var .i64 1001), Asg.i .i64 1000 (IExp.bin BinOp.add .i64 (IExp.var .i64 1000) (IExp.lit 1))])))) (WT.node (BExp.le (IExp.var .i64 1000) (IExp.lit 33279)) (WT.node (BExp.eq (IExp.sel .u8 (AExp.var .u8 1002) (IExp.bin BinOp.add .i64 (IExp.var .i64 1000) (IExp.lit (-32768)))) (IExp.sel .u8 (AExp.var .u8 1004) (IExp.bin BinOp.add .i64 (IExp.var .i64 1000) (IExp.lit (-32768))))) (WT.leaf (Go.go [true, true, true, true, true, true, true, true, true, false, true, false] [Asg.a .u8 1003 (AExp.var .u8 1003), Asg.a .u8 1004 (AExp.var .u8 1004), Asg.a .u8 1002 (AExp.var .u8 1002), Asg.a .u8 1001 (AExp.var .u8 1001), Asg.b 1000 (BExp.var 1000), Asg.i .i64 1001 (IExp.var .i64 1001), Asg.i .i64 1000 (IExp.bin BinOp.add .i64 (IExp.var .i64 1000) (IExp.lit 1))])) (WT.leaf (Go.done (SVal.v (SV.c (Cell.b (BExp.lit false)))) { h := [none], «as» := [] }))) (WT.leaf (Go.go [true, true, true, true, true, true, true, true, true, false, true, false] [Asg.a .u8 1003 (AExp.var .u8 1003), Asg.a .u8 1004 (AExp.var .u8 1004), Asg.a .u8 1002 (AExp.var .u8 1002), Asg.a .u8 1001 (AExp.var .u8 1001), Asg.b 1000 (BExp.var 1000), Asg.i .i64 1001 (IExp.var .i64 1001), Asg.i .i64 1000 (IExp.bin BinOp.add .i64 (IExp.var .i64 1000) (IExp.lit 1))])))) (WT.leaf (Go.done (SVal.v (SV.c (Cell.b (BExp.lit true)))) { h := [none], «as» := [] }))
theorem rdH : headT Try.prog 0 plan tabV 1000 1000 5 1 1 (fnOf 5) (bodyOf 5) rdPats qReads = rdHT := by kernel_rfl

structure RdI (e : Env) (a n : Nat) : Prop where
  i0 : e.i .i64 1000 = a
  a1 : a ≤ 65536
  i1 : e.i .i64 1001 = n
  n0 : 2048 ≤ n
  n1 : n ≤ 32768
  l3 : (e.a .u8 1003).length = n
  t : e.a .u8 1003 = (e.a .u8 1001).take n
  f : e.a .u8 1004 = e.a .u8 1002
  l4 : (e.a .u8 1004).length = 512
def rdInv : Inv := ⟨fun _ e => ∃ a n, RdI e a n, fun _ e => (65536 - e.i .i64 1000).toNat⟩
theorem rd_asm {e : Env} {q : Path} (h : rdInv.I q e) : ∀ p, patAt rdPats q = some p → AsmOk e p.as := by
  obtain ⟨a, n, h⟩ := h
  intro p hp
  have hp : p = pReads := by
    simp only [rdPats, patAt] at hp
    by_cases hq : qReads = q
    · rw [show decide (qReads = q) = true from decide_eq_true hq] at hp; exact (Option.some.inj hp).symm
    · rw [show decide (qReads = q) = false from decide_eq_false hq] at hp; cases hp
  subst hp
  have := h.a1
  have := h.n0
  have := h.n1
  refine AsmOk.cons ?_ (AsmOk.cons ?_ (AsmOk.cons ?_ (AsmOk.cons ?_ (AsmOk.cons ?_ (AsmOk.cons ?_ (AsmOk.nil _)))))) <;> simp only [BExp.den, IExp.den, AExp.den, h.i0, h.i1, h.l3, h.l4]
  · exact decide_eq_true trivial
  · exact decide_eq_false (by omega)
  · exact decide_eq_true (by omega)
  · exact decide_eq_true rfl
  · exact decide_eq_true (by omega)
  · exact decide_eq_false (by omega)
abbrev rdL : List Asg := [Asg.a .u8 1003 (AExp.var .u8 1003), Asg.a .u8 1004 (AExp.var .u8 1004), Asg.a .u8 1002 (AExp.var .u8 1002), Asg.a .u8 1001 (AExp.var .u8 1001), Asg.b 1000 (BExp.var 1000), Asg.i .i64 1001 (IExp.var .i64 1001), Asg.i .i64 1000 (IExp.bin BinOp.add .i64 (IExp.var .i64 1000) (IExp.lit 1))]
theorem rd_next {e : Env} {a n : Nat} (h : RdI e a n) (ha : a < 65536) {D : Env → SVal → St → Prop} : Owed rdPats rdInv D e (some (rdInv.μ qReads e)) (.go qReads rdL) := by
  have h1 : RdI (Env.upd e e rdL) (a + 1) n := by
    have hw := wrap64 (n := (a : Int) + 1) (by omega) (by omega)
    exact ⟨by simp [Env.upd, IExp.den, binDen, h.i0, hw], ha, by simp [Env.upd, IExp.den, h.i1], h.n0, h.n1, by simp [Env.upd, AExp.den, h.l3], by simp [Env.upd, AExp.den, h.t], by simp [Env.upd, AExp.den, h.f], by simp [Env.upd, AExp.den, h.l4]⟩
  refine ⟨rd_asm ⟨_, _, h1⟩, ⟨_, _, h1⟩, fun m hm => ?_⟩
  cases hm
  simp only [rdInv, h1.i0, h.i0]
  omega
theorem take_getD {l : List Int} {n i : Nat} (h : i < n) : (l.take n).getD i 0 = l.getD i 0 := by
  rw [List.getD_eq_getElem?_getD, List.getD_eq_getElem?_getD, List.getElem?_take_of_lt h]
abbrev yesV (v : SVal) : Prop := v = .v (.c (.b (.lit true)))
theorem rd_head {e : Env} (hI : rdInv.I qReads e) : WT.holds e (Owed rdPats rdInv (fun _ v _ => yesV v) e (some (rdInv.μ qReads e))) rdHT := by
  obtain ⟨a, n, h⟩ := hI
  have hi : (IExp.var .i64 1000).den e = a := h.i0
  have hn : (IExp.var .i64 1001).den e = n := h.i1
  have fx : ∀ x, (BExp.eq (.sel .u8 (.var .u8 1002) x) (.sel .u8 (.var .u8 1004) x)).den e = true := fun x => by simp only [BExp.den, IExp.den, AExp.den, h.f, decide_true]
  simp only [rdHT, WT.holds]
  simp only [fx, if_true]
  have q1 : (BExp.le (.var .i64 1000) (.lit 65535)).den e = decide ((a : Int) ≤ 65535) := by rw [le_den, hi, litD]
  have q2 : (BExp.lt (.var .i64 1000) (.var .i64 1001)).den e = decide ((a : Int) < n) := by simp only [BExp.den, hi, hn]
  rw [q1, q2]
  simp only [decide_eq_true_eq]
  split
  · have go := rd_next (D := fun _ v _ => yesV v) h (show a < 65536 by omega)
    split
    · split
      · exact go
      · split
        · rename_i h1 h2
          rw [if_pos ?_]
          · exact go
          · simp only [BExp.den, IExp.den, AExp.den, h.i0, h.t, Int.toNat_natCast]
            rw [take_getD (by omega)]
            exact decide_eq_true rfl
        · exact go
    · split
      · exact go
      · exact go
  · exact rfl
def srcRd (size : Int) (on : Bool) (n c : Nat) (z : List Int) : Src := { i := fun k => match k with | .i64 => [size, n, c] | _ => [], b := [on], a := fun k j => match k, j with | .u8, 0 => z | .u8, 9 => romL | _, _ => [] }
theorem romL_in : ∀ x ∈ romL, In .u8 x := by
  intro x hx
  obtain ⟨j, hj, rfl⟩ := List.mem_map.1 hx
  exact u8_in (by omega) (by omega)
abbrev rdL1 : List Asg := [Asg.a .u8 1003 (AExp.zeros (IExp.var .i64 0)), Asg.a .u8 1004 (AExp.sub (AExp.var .u8 9) (IExp.lit 0) (IExp.lit 512)), Asg.a .u8 1002 (AExp.sub (AExp.var .u8 9) (IExp.lit 0) (IExp.lit 512)), Asg.a .u8 1001 (AExp.zeros (IExp.lit 32768)), Asg.b 1000 (BExp.var 0), Asg.i .i64 1001 (IExp.var .i64 0), Asg.i .i64 1000 (IExp.lit 0)]
abbrev rdL2 : List Asg := [Asg.a .u8 1003 (AExp.cat (AExp.sub (AExp.var .u8 0) (IExp.lit 0) (IExp.var .i64 1)) (AExp.sub (AExp.zeros (IExp.var .i64 0)) (IExp.var .i64 1) (IExp.bin BinOp.sub .i64 (IExp.var .i64 0) (IExp.var .i64 1)))), Asg.a .u8 1004 (AExp.sub (AExp.var .u8 9) (IExp.lit 0) (IExp.lit 512)), Asg.a .u8 1002 (AExp.sub (AExp.var .u8 9) (IExp.lit 0) (IExp.lit 512)), Asg.a .u8 1001 (AExp.cat (AExp.sub (AExp.var .u8 0) (IExp.lit 0) (IExp.var .i64 1)) (AExp.sub (AExp.zeros (IExp.lit 32768)) (IExp.var .i64 1) (IExp.bin BinOp.add .i64 (IExp.bin BinOp.sub .i64 (IExp.lit 0) (IExp.var .i64 1)) (IExp.lit 32768)))), Asg.b 1000 (BExp.var 0), Asg.i .i64 1001 (IExp.var .i64 0), Asg.i .i64 1000 (IExp.lit 0)]
theorem rom_take : romL.take 512 = romL := List.take_of_length_le (by rw [romL_len]; exact Nat.le_refl _)
theorem rd_s1 {e : Env} {size : Nat} (e0 : e.i .i64 0 = size) (er : e.a .u8 9 = romL) (h0 : 2048 ≤ size) (h1 : size ≤ 32768) : RdI (Env.upd e e rdL1) 0 size := by
  have m0 : (Env.upd e e rdL1).i .i64 1000 = 0 := (updI rfl).trans (litD _ _)
  have m1 : (Env.upd e e rdL1).i .i64 1001 = size := (updI (x := .var .i64 0) rfl).trans e0
  have m3 : (Env.upd e e rdL1).a .u8 1003 = List.replicate size 0 := (updA rfl).trans (by simp only [AExp.den, IExp.den, e0, Int.toNat_natCast])
  have m2 : (Env.upd e e rdL1).a .u8 1001 = List.replicate 32768 0 := (updA rfl).trans (by simp only [AExp.den, IExp.den]; rfl)
  have m4 : (Env.upd e e rdL1).a .u8 1004 = romL := (updA rfl).trans (by simp only [AExp.den, IExp.den, er]; exact rom_take)
  have m5 : (Env.upd e e rdL1).a .u8 1002 = romL := (updA rfl).trans (by simp only [AExp.den, IExp.den, er]; exact rom_take)
  exact ⟨m0, by omega, m1, h0, h1, by rw [m3, List.length_replicate], by rw [m3, m2, List.take_replicate, Nat.min_eq_left h1], by rw [m4, m5], by rw [m4, romL_len]⟩
theorem rd_s2 {e : Env} {size n : Nat} {z : List Int} (e0 : e.i .i64 0 = size) (e1 : e.i .i64 1 = n) (ea : e.a .u8 0 = z) (er : e.a .u8 9 = romL) (hz : n ≤ z.length) (hle : n ≤ size) (h0 : 2048 ≤ size) (h1 : size ≤ 32768) : RdI (Env.upd e e rdL2) 0 size := by
  have w1 : IntKind.i64.wrap ((size : Int) - n) = size - n := wrap64 (by omega) (by omega)
  have w2 : IntKind.i64.wrap (IntKind.i64.wrap (0 - (n : Int)) + 32768) = 32768 - n := by
    rw [wrap64 (n := 0 - (n : Int)) (by omega) (by omega), wrap64 (by omega) (by omega)]; omega
  have t1 : ((size : Int) - n).toNat = size - n := by omega
  have t2 : (32768 - (n : Int)).toNat = 32768 - n := by omega
  have m0 : (Env.upd e e rdL2).i .i64 1000 = 0 := (updI rfl).trans (litD _ _)
  have m1 : (Env.upd e e rdL2).i .i64 1001 = size := (updI (x := .var .i64 0) rfl).trans e0
  have m3 : (Env.upd e e rdL2).a .u8 1003 = z.take n ++ List.replicate (size - n) 0 := (updA rfl).trans (by
    simp only [AExp.den, IExp.den, binDen, e0, e1, ea, w1, t1, Int.toNat_natCast, List.drop_replicate, List.take_replicate, Nat.min_self]; rfl)
  have m2 : (Env.upd e e rdL2).a .u8 1001 = z.take n ++ List.replicate (32768 - n) 0 := (updA rfl).trans (by
    have h32 : (32768 : Int).toNat = 32768 := rfl
    simp only [AExp.den, IExp.den, binDen, e1, ea, w2, t2, Int.toNat_natCast, List.drop_replicate, List.take_replicate, h32, Nat.min_self]; rfl)
  have m4 : (Env.upd e e rdL2).a .u8 1004 = romL := (updA rfl).trans (by simp only [AExp.den, IExp.den, er]; exact rom_take)
  have m5 : (Env.upd e e rdL2).a .u8 1002 = romL := (updA rfl).trans (by simp only [AExp.den, IExp.den, er]; exact rom_take)
  have ht : (z.take n).length = n := by rw [List.length_take]; omega
  refine ⟨m0, by omega, m1, h0, h1, ?_, ?_, by rw [m4, m5], by rw [m4, romL_len]⟩
  · rw [m3, List.length_append, ht, List.length_replicate]; omega
  · rw [m3, m2, List.take_append, ht, List.take_of_length_le (l := z.take n) (by omega), List.take_replicate, Nat.min_eq_left (by omega)]
theorem reads_start {e : Env} {size : Int} {n : Nat} {z : List Int} (e0 : e.i .i64 0 = size) (e1 : e.i .i64 1 = n) (ea : e.a .u8 0 = z) (er : e.a .u8 9 = romL) (hz : n ≤ z.length) : WT.holds e (Owed rdPats rdInv (fun _ v _ => yesV v) e none) rdST := by
  have hi : (IExp.var .i64 0).den e = size := e0
  have hn : (IExp.var .i64 1).den e = n := e1
  simp only [rdST, WT.holds]
  have key : ∀ l, (∃ a n, RdI (Env.upd e e l) a n) → Owed rdPats rdInv (fun _ v _ => yesV v) e none (.go qReads l) := fun l h => ⟨rd_asm h, h, fun m hm => by cases hm⟩
  have q1 : (BExp.le (.var .i64 0) (.lit 2047)).den e = decide (size ≤ 2047) := by rw [le_den, hi, litD]
  have q2 : (BExp.le (.var .i64 0) (.lit 32768)).den e = decide (size ≤ 32768) := by rw [le_den, hi, litD]
  have q3 : (BExp.lt (.var .i64 0) (.var .i64 1)).den e = decide (size < n) := by simp only [BExp.den, hi, hn]
  rw [q1, q2, q3]
  simp only [decide_eq_true_eq]
  have g1 : 2048 ≤ size → size ≤ 32768 → Owed rdPats rdInv (fun _ v _ => yesV v) e none (.go qReads rdL1) := fun h0 h1 =>
    key _ ⟨0, size.toNat, rd_s1 (by rw [e0]; omega) er (by omega) (by omega)⟩
  have g2 : 2048 ≤ size → size ≤ 32768 → ¬ size < n → Owed rdPats rdInv (fun _ v _ => yesV v) e none (.go qReads rdL2) := fun h0 h1 h2 =>
    key _ ⟨0, size.toNat, rd_s2 (n := n) (by rw [e0]; omega) e1 ea er hz (by omega) (by omega) (by omega)⟩
  split
  · split
    · exact rfl
    · split
      · split
        · constructor
          · split
            · exact g1 (by omega) (by omega)
            · exact g2 (by omega) (by omega) (by assumption)
          · split
            · exact g1 (by omega) (by omega)
            · exact g2 (by omega) (by omega) (by assumption)
        · exact rfl
      · exact rfl
  · exact rfl
theorem reads_start0 {e : Env} {size : Int} (e0 : e.i .i64 0 = size) (er : e.a .u8 9 = romL) : WT.holds e (Owed rdPats rdInv (fun _ v _ => yesV v) e none) rdS0T := by
  have hi : (IExp.var .i64 0).den e = size := e0
  simp only [rdS0T, WT.holds]
  have q1 : (BExp.le (.var .i64 0) (.lit 2047)).den e = decide (size ≤ 2047) := by rw [le_den, hi, litD]
  have q2 : (BExp.le (.var .i64 0) (.lit 32768)).den e = decide (size ≤ 32768) := by rw [le_den, hi, litD]
  rw [q1, q2]
  simp only [decide_eq_true_eq]
  have g1 : 2048 ≤ size → size ≤ 32768 → Owed rdPats rdInv (fun _ v _ => yesV v) e none (.go qReads rdL1) := fun h0 h1 =>
    have h : ∃ a n, RdI (Env.upd e e rdL1) a n := ⟨0, size.toNat, rd_s1 (by rw [e0]; omega) er (by omega) (by omega)⟩
    ⟨rd_asm h, h, fun m hm => by cases hm⟩
  split
  · exact rfl
  · split
    · split
      · exact ⟨g1 (by omega) (by omega), g1 (by omega) (by omega)⟩
      · exact rfl
    · exact rfl
theorem reads_walk (W : World) (size : Int) (hs : IntKind.i64.min ≤ size ∧ size ≤ IntKind.i64.max) (p : Option Addr) (n c : Nat) (z : List Int) (hz : IsRow .u8 W p n c z) (on : Bool) :
    Calls Try.prog 5 #[.int .i64 size, .slice p n c, .bool on] W (Yes W) := by
  obtain ⟨hf, hb⟩ := fn_of (f := 5) (by kernel_rfl)
  have fin : ∀ {e0 e : Env} {v : SVal} {st' : St} {ov : Nat} {ρ0 : Rho}, ρ0.length = 1 → yesV v → ∀ ρ' V W', Post e ov 1 ρ0 W ρ' st'.h W' → v.D e ρ' V → Yes W (.returned V) W' := by
    rintro e0 e v st' ov ρ0 h1 rfl ρ' V W' hp hV
    exact ⟨congrArg _ (show V = .bool true from hV), below_of_post hp (by omega)⟩
  have hheads : ∀ (e0 : Env) (q : Path), q ∈ rdPats.map (·.1) → ∀ e, EnvOk e → Agree 1000 e0 e → (∀ p, patAt rdPats q = some p → AsmOk e p.as) → rdInv.I q e → (headT Try.prog 0 plan tabV 1000 1000 5 1 1 (fnOf 5) (bodyOf 5) rdPats q).holds e (Owed rdPats rdInv (fun _ v _ => yesV v) e (some (rdInv.μ q e))) := by
    intro e0 q hq e ok g ha hI
    have hq : q = qReads := by simpa [rdPats] using hq
    subst hq
    rw [rdH]
    exact rd_head hI
  have hrom : ∀ (e0 e : Env), e0.a .u8 9 = romL → Agree 1000 e0 e → e.a .u8 9 = romL := fun e0 e h g => by rw [g.a .u8 9 (by omega)]; exact h
  have er : ∀ s : Src, s.a .u8 9 = romL → s.env.a .u8 9 = romL := fun s h => by
    show clipL .u8 (s.a .u8 9) = romL
    rw [h]
    exact clipL_of romL_in (by rw [romL_len]; show (512 : Int) ≤ 9223372036854775807; omega)
  rcases isRow_cases hz with ⟨hc, hn, hzz⟩ | ⟨b, o, rfl, hc, hn, hct, hzl, hat, hin⟩
  · subst hc hn
    have ok := (srcRd size on 0 0 []).ok
    have e0 : (srcRd size on 0 0 []).env.i .i64 0 = size := clip_of (k := .i64) (n := size) hs
    have e9 := er (srcRd size on 0 0 []) rfl
    have eb : (srcRd size on 0 0 []).env.b 0 = on := rfl
    generalize (srcRd size on 0 0 []).env = E at ok e0 e9 eb
    refine cfg (G := 0) (ov := 1) (plan := plan) (tab := tabV) (n := 1000) (N := 1000) (ro := 1) (base := 1) (pats := rdPats) (args := rdArgs0) (st := rdSt0) (e0 := E) (ρ0 := [(0, 0, 0)]) (vs := [.int .i64 size, .slice p 0 0, .bool on]) rdInv (fun _ v _ => yesV v)
      mixed plan_ok rfl (fun _ _ _ => LtOk.none) (fun e ok g => tabV_ok (hrom E e e9 g) _ _) rfl hf hb ok ?_ (AsmOk.cons ?_ (AsmOk.nil _)) (hrel_dead _ _ 1) (noGlob _) (Nat.le_refl _) (Nat.le_refl _) ?_ (hheads E) (fun e v st' ok g h => fin (e0 := E) rfl h)
    · refine ⟨_, _, rfl, congrArg _ e0.symm, _, _, rfl, ⟨_, _, _, rfl, ?_, Nat.le_refl _, .inr ⟨rfl, rfl, ?_⟩⟩, _, _, rfl, congrArg _ eb.symm, rfl⟩
      · rw [litD]; rfl
      · intro x hx; cases hx; exact litD _ _
    · simp only [BExp.den, IExp.den, AExp.den, e9, romL_len]; rfl
    · rw [rdS0]; exact reads_start0 e0 e9
  · have ok := (srcRd size on n c z).ok
    have e0 : (srcRd size on n c z).env.i .i64 0 = size := clip_of (k := .i64) (n := size) hs
    have htop : lenTop = 9223372036854775807 := rfl
    have e1 : (srcRd size on n c z).env.i .i64 1 = n := clip_of (k := .i64) (n := (n : Int)) (i64_in (by omega) (by rw [htop] at hct; omega))
    have e2 : (srcRd size on n c z).env.i .i64 2 = c := clip_of (k := .i64) (n := (c : Int)) (i64_in (by omega) (by rw [htop] at hct; omega))
    have ea : (srcRd size on n c z).env.a .u8 0 = z := clipL_of hin (by show ((z.length : Nat) : Int) ≤ lenTop; rw [hzl]; exact hct)
    have e9 := er (srcRd size on n c z) rfl
    have eb : (srcRd size on n c z).env.b 0 = on := rfl
    generalize (srcRd size on n c z).env = E at ok e0 e1 e2 ea e9 eb
    refine cfg (G := 0) (ov := 1) (plan := plan) (tab := tabV) (n := 1000) (N := 1000) (ro := 1) (base := 1) (pats := rdPats) (args := rdArgs) (st := rdSt) (e0 := E) (ρ0 := [(b, o, c)]) (vs := [.int .i64 size, .slice (some ⟨b, o, none⟩) n c, .bool on]) rdInv (fun _ v _ => yesV v)
      mixed plan_ok rfl (fun _ _ _ => LtOk.none) (fun e ok g => tabV_ok (hrom E e e9 g) _ _) rfl hf hb ok ?_ ?_ (hrel_row hat (by simp only [AExp.den, ea])) (noGlob _) (Nat.le_refl _) (Nat.le_refl _) ?_ (hheads E) (fun e v st' ok g h => fin (e0 := E) rfl h)
    · exact ⟨_, _, rfl, congrArg _ e0.symm, _, _, rfl, slice_D (i := 0) rfl e1 e2 hn, _, _, rfl, congrArg _ eb.symm, rfl⟩
    · refine AsmOk.cons ?_ (AsmOk.cons ?_ (AsmOk.cons ?_ (AsmOk.cons ?_ (AsmOk.cons ?_ (AsmOk.nil _))))) <;> simp only [BExp.den, IExp.den, AExp.den, e0, e1, e2, ea, e9, romL_len, hzl]
      · exact decide_eq_true (by omega)
      · exact decide_eq_true trivial
      · exact decide_eq_true (by omega)
      · exact decide_eq_false (by omega)
      · exact decide_eq_true rfl
    · rw [rdS]; exact reads_start e0 e1 ea e9 (by omega)
end Go.Proofs.Ytlhfblnppgcfdaa.K
