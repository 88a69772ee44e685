/- A symbolic executor for Go code: what a run told over letters, the letters replaced by texts. -/
import Derived.Test.YtaijkkkgpgldbaaDoorSyCfgF
namespace Go.Proofs.YtaijkkkgpgldbaaDoor.Sy
noncomputable section
set_option linter.unusedVariables false
set_option linter.unusedSimpArgs false
open Go

/-! ### Texts -/
def mkAnd2 : BExp → BExp → BExp
  | .lit true, y => y
  | .lit false, _ => .lit false
  | x, y => .and x y
theorem mkAnd2_den {e : Env} {x y : BExp} : (mkAnd2 x y).den e = (x.den e && y.den e) := by
  unfold mkAnd2
  split
  · simp [BExp.den]
  · simp [BExp.den]
  · simp only [BExp.den]
/-- An element, simplified where it is surely there. -/
def mkSelS (aq : Asm) (k : IntKind) (a : AExp) (i : IExp) : IExp := if knowsLe aq (.lit 0) i && knowsLt aq i (mkLen aq a) then mkSel aq k a i else .sel k a i
theorem mkSelS_den {e : Env} (ok : EnvOk e) {aq : Asm} (ha : AsmOk e aq) {k : IntKind} {a : AExp} {i : IExp} : (mkSelS aq k a i).den e = (a.den e).getD (i.den e).toNat 0 := by
  unfold mkSelS
  split
  · rename_i h
    simp only [Bool.and_eq_true] at h
    have h1 := knowsLe_ok ok ha h.1
    have h2 := knowsLt_ok ok ha h.2
    rw [litD] at h1
    rw [mkLen_den ok ha] at h2
    exact mkSel_den ok ha a i h1 h2
  · simp only [IExp.den]
mutual
def IExp.sb (aq : Asm) (l : List Asg) : IExp → IExp
  | .lit n => .lit n
  | .var k j => (getI l k j).getD (.var k j)
  | .bin op k x y => mkBinR aq op k (x.sb aq l) (y.sb aq l)
  | .conv k x => mkConv aq k (x.sb aq l)
  | .sel k a i => mkSelS aq k (a.sb aq l) (i.sb aq l)
  | .len a => mkLen aq (a.sb aq l)
  | .fn k f j m => .fn k f j (m.sb aq l)
  | .bit b => .bit (b.sb aq l)
def BExp.sb (aq : Asm) (l : List Asg) : BExp → BExp
  | .lit b => .lit b
  | .var j => (getB l j).getD (.var j)
  | .eq x y => mkEq aq (x.sb aq l) (y.sb aq l)
  | .lt x y => mkLt aq (x.sb aq l) (y.sb aq l)
  | .le x y => mkLe aq (x.sb aq l) (y.sb aq l)
  | .not x => mkNot (x.sb aq l)
  | .beq x y => mkBeq (x.sb aq l) (y.sb aq l)
  | .and x y => mkAnd2 (x.sb aq l) (y.sb aq l)
  | .aeq x y => mkAeq aq (x.sb aq l) (y.sb aq l)
  | .fn f j m => .fn f j (m.sb aq l)
def AExp.sb (aq : Asm) (l : List Asg) : AExp → AExp
  | .var k j => (getA l k j).getD (.var k j)
  | .upd a i v => mkUpd aq (a.sb aq l) (i.sb aq l) (v.sb aq l)
  | .nil => .nil
  | .one x => mkOne (x.sb aq l)
  | .cat x y => mkCat (x.sb aq l) (y.sb aq l)
  | .zeros n => .zeros (n.sb aq l)
  | .sub a i n => mkPart aq (a.sb aq l) (i.sb aq l) (n.sb aq l)
  | .cst c => .cst c
  | .fn k f j m => .fn k f j (m.sb aq l)
def LExp.sb (aq : Asm) (l : List Asg) : LExp → LExp
  | .nil => .nil
  | .i x m => .i (x.sb aq l) (m.sb aq l)
  | .b x m => .b (x.sb aq l) (m.sb aq l)
  | .a x m => .a (x.sb aq l) (m.sb aq l)
end
theorem upd_fns (e0 e : Env) (l : List Asg) : (Env.upd e0 e l).fi = e0.fi ∧ (Env.upd e0 e l).fb = e0.fb ∧ (Env.upd e0 e l).fa = e0.fa := by
  have h : l.all (asgLet 0) = true := by
    rw [List.all_eq_true]
    intro x _
    cases x <;> simp [asgLet]
  have := Env.upd_agree (N := 0) (e0 := e0) (e := e) h
  exact ⟨this.fi, this.fb, this.fa⟩
section
variable {e : Env} (ok : EnvOk e) {aq : Asm} (ha : AsmOk e aq) {l : List Asg}
include ok ha
mutual
theorem IExp.sb_ok : ∀ (x : IExp), x.den (Env.upd e e l) = (x.sb aq l).den e
  | .lit n => by simp only [IExp.sb, IExp.den]
  | .var k j => by
    simp only [IExp.sb]
    cases h : getI l k j with
    | none => rw [Option.getD_none]; exact updI_none h
    | some x => rw [Option.getD_some]; exact updI h
  | .bin op k x y => by
    simp only [IExp.sb]
    rw [mkBinR_den ok ha, ← IExp.sb_ok x, ← IExp.sb_ok y]
    simp only [IExp.den]
  | .conv k x => by
    simp only [IExp.sb]
    rw [mkConv_den ok ha, ← IExp.sb_ok x]
    simp only [IExp.den]
  | .sel k a i => by
    simp only [IExp.sb]
    rw [mkSelS_den ok ha, ← AExp.sb_ok a, ← IExp.sb_ok i]
    simp only [IExp.den]
  | .len a => by
    simp only [IExp.sb]
    rw [mkLen_den ok ha, ← AExp.sb_ok a]
    simp only [IExp.den]
  | .fn k f j m => by
    simp only [IExp.sb, IExp.den]
    rw [← LExp.sb_ok m, (upd_fns e e l).1]
  | .bit b => by
    simp only [IExp.sb, IExp.den]
    rw [← BExp.sb_ok b]
theorem BExp.sb_ok : ∀ (x : BExp), x.den (Env.upd e e l) = (x.sb aq l).den e
  | .lit b => by simp only [BExp.sb, BExp.den]
  | .var j => by
    simp only [BExp.sb]
    cases h : getB l j with
    | none => rw [Option.getD_none]; exact updB_none h
    | some x => rw [Option.getD_some]; exact updB h
  | .eq x y => by
    simp only [BExp.sb]
    rw [mkEq_den ok ha]
    simp only [BExp.den, IExp.sb_ok x, IExp.sb_ok y]
  | .lt x y => by
    simp only [BExp.sb]
    rw [mkLt_den ok ha]
    simp only [BExp.den, IExp.sb_ok x, IExp.sb_ok y]
  | .le x y => by
    simp only [BExp.sb]
    rw [mkLe_den ok ha]
    simp only [BExp.den, IExp.sb_ok x, IExp.sb_ok y]
  | .not x => by
    simp only [BExp.sb]
    rw [mkNot_den]
    simp only [BExp.den, BExp.sb_ok x]
  | .beq x y => by
    simp only [BExp.sb]
    rw [mkBeq_den]
    simp only [BExp.den, BExp.sb_ok x, BExp.sb_ok y]
  | .and x y => by
    simp only [BExp.sb]
    rw [mkAnd2_den]
    simp only [BExp.den, BExp.sb_ok x, BExp.sb_ok y]
  | .aeq x y => by
    simp only [BExp.sb]
    rw [mkAeq_den ok ha]
    simp only [BExp.den, AExp.sb_ok x, AExp.sb_ok y]
  | .fn f j m => by
    simp only [BExp.sb, BExp.den]
    rw [← LExp.sb_ok m, (upd_fns e e l).2.1]
theorem AExp.sb_ok : ∀ (x : AExp), x.den (Env.upd e e l) = (x.sb aq l).den e
  | .var k j => by
    simp only [AExp.sb]
    cases h : getA l k j with
    | none => rw [Option.getD_none]; exact updA_none h
    | some x => rw [Option.getD_some]; exact updA h
  | .upd a i v => by
    simp only [AExp.sb]
    rw [mkUpd_den ok ha, ← AExp.sb_ok a, ← IExp.sb_ok i, ← IExp.sb_ok v]
    simp only [AExp.den]
  | .nil => by simp only [AExp.sb, AExp.den]
  | .one x => by
    simp only [AExp.sb]
    rw [mkOne_den, ← IExp.sb_ok x]
    simp only [AExp.den]
  | .cat x y => by
    simp only [AExp.sb]
    rw [mkCat_den, ← AExp.sb_ok x, ← AExp.sb_ok y]
    simp only [AExp.den]
  | .zeros n => by
    simp only [AExp.sb, AExp.den]
    rw [← IExp.sb_ok n]
  | .sub a i n => by
    simp only [AExp.sb]
    rw [mkPart_den ok ha, ← AExp.sb_ok a, ← IExp.sb_ok i, ← IExp.sb_ok n]
    simp only [AExp.den]
  | .cst c => by simp only [AExp.sb, AExp.den]
  | .fn k f j m => by
    simp only [AExp.sb, AExp.den]
    rw [← LExp.sb_ok m, (upd_fns e e l).2.2]
theorem LExp.sb_ok : ∀ (x : LExp), x.den (Env.upd e e l) = (x.sb aq l).den e
  | .nil => by
    have _ := ok
    have _ := ha
    simp only [LExp.sb, LExp.den]
  | .i x m => by simp only [LExp.sb, LExp.den, IExp.sb_ok x, LExp.sb_ok m]
  | .b x m => by simp only [LExp.sb, LExp.den, BExp.sb_ok x, LExp.sb_ok m]
  | .a x m => by simp only [LExp.sb, LExp.den, AExp.sb_ok x, LExp.sb_ok m]
end
end
end
end Go.Proofs.YtaijkkkgpgldbaaDoor.Sy
