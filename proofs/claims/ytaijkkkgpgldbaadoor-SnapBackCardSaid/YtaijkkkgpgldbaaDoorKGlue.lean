/- A list that is put together of another one's pieces is that list; leaves that can not be. -/
import Derived.Test.YtaijkkkgpgldbaaDoorKPat
namespace Go.Proofs.YtaijkkkgpgldbaaDoor.K
open Go Sy
set_option maxRecDepth 100000
set_option linter.unusedVariables false
set_option linter.unusedSimpArgs false
/-- Equal by what is known. -/
def eqKnown (bs : Asm) (x y : IExp) : Bool := x.same y || knows bs (mkEq bs x y) || eqRed0 bs x y
theorem eqKnown_ok {e : Env} (ok : EnvOk e) {bs : Asm} (ha : AsmOk e bs) {x y : IExp} (h : eqKnown bs x y = true) : x.den e = y.den e := by
  simp only [eqKnown, Bool.or_eq_true] at h
  rcases h with (h | h) | h
  · rw [IExp.same_eq _ _ h]
  · have := knows_ok ok ha h
    rw [mkEq_den ok ha] at this
    exact of_decide_eq_true this
  · exact eqRed0_ok ok ha h
def flatA : AExp → List AExp → List AExp
  | .cat x y, r => flatA x (flatA y r)
  | .nil, r => r
  | a, r => a :: r
def denL (e : Env) : List AExp → List Int
  | [] => []
  | a :: r => a.den e ++ denL e r
theorem flatA_den (e : Env) : ∀ (a : AExp) (r : List AExp), denL e (flatA a r) = a.den e ++ denL e r
  | .cat x y, r => by simp only [flatA, AExp.den, flatA_den e x, flatA_den e y, List.append_assoc]
  | .nil, r => by simp only [flatA, AExp.den, List.nil_append]
  | .var _ _, _ => rfl
  | .upd _ _ _, _ => rfl
  | .one _, _ => rfl
  | .zeros _, _ => rfl
  | .sub _ _ _, _ => rfl
  | .cst _, _ => rfl
  | .fn _ _ _ _, _ => rfl
abbrev OneF := AExp → IExp → IExp → Bool
/-- x is element p of A. -/
def OneOk (e : Env) (one : OneF) : Prop := ∀ A p x, one A p x = true → 0 ≤ p.den e → p.den e < ((A.den e).length : Int) → x.den e = (A.den e).getD (p.den e).toNat 0
def at1 (one : OneF) (bs : Asm) (A : AExp) (p x : IExp) : Option IExp := if nnI bs p && knowsLt bs p (mkLen bs A) && one A p x then sumI bs p (.lit 1) else none
def glueL (one : OneF) (bs : Asm) (A : AExp) : List Int → IExp → Option IExp
  | [], p => some p
  | c :: r, p => (at1 one bs A p (.lit c)).bind (glueL one bs A r)
def glue1 (one : OneF) (bs : Asm) (A : AExp) (p : IExp) : AExp → Option IExp
  | .one x => at1 one bs A p x
  | .cst l => glueL one bs A l p
  | .sub B i n => if B.same A && eqKnown bs i p && nnI bs p && nnI bs n then (match sumI bs p n with
    | some z => if knowsLe bs z (mkLen bs A) then some z else none
    | none => none) else none
  | _ => none
def glue (one : OneF) (bs : Asm) (A : AExp) : List AExp → IExp → Option IExp
  | [], p => some p
  | x :: r, p => (glue1 one bs A p x).bind (glue one bs A r)
/-- l lies in L from p up to q. -/
structure Lies (L : List Int) (p q : Int) (l : List Int) : Prop where
  lo : 0 ≤ p
  le : p ≤ q
  hi : q ≤ (L.length : Int)
  is : l = (L.drop p.toNat).take (q - p).toNat
theorem Lies.nil {L : List Int} {p : Int} (h0 : 0 ≤ p) (h1 : p ≤ (L.length : Int)) : Lies L p p [] := ⟨h0, Int.le_refl _, h1, by simp⟩
theorem Lies.app {L l m : List Int} {p q r : Int} (h : Lies L p q l) (k : Lies L q r m) : Lies L p r (l ++ m) := by
  obtain ⟨h1, h2, h3, h4⟩ := h
  obtain ⟨k1, k2, k3, k4⟩ := k
  refine ⟨h1, by omega, k3, ?_⟩
  rw [h4, k4, show (r - p).toNat = (q - p).toNat + (r - q).toNat by omega, List.take_add, List.drop_drop]
  congr 3
  omega
theorem Lies.one {L : List Int} {p : Int} (h0 : 0 ≤ p) (h1 : p < (L.length : Int)) : Lies L p (p + 1) [L.getD p.toNat 0] := by
  refine ⟨h0, by omega, by omega, ?_⟩
  have hlt : p.toNat < L.length := by omega
  rw [show (p + 1 - p).toNat = 1 by omega, List.drop_eq_getElem_cons hlt, List.getD_eq_getElem?_getD, List.getElem?_eq_getElem hlt]
  rfl
section
variable {e : Env} (ok : EnvOk e) {bs : Asm} (ha : AsmOk e bs) {one : OneF} (ho : OneOk e one) {A : AExp}
include ok ha ho
theorem at1_ok {p x q : IExp} (h : at1 one bs A p x = some q) : Lies (A.den e) (p.den e) (q.den e) [x.den e] := by
  unfold at1 at h
  split at h
  · rename_i hc
    simp only [Bool.and_eq_true] at hc
    have h0 := nnI_ok ok ha hc.1.1
    have h1 := knowsLt_ok ok ha hc.1.2
    rw [mkLen_den ok ha] at h1
    rw [sumI_ok ok ha h, litD, ho A p x hc.2 h0 h1]
    exact Lies.one h0 h1
  · cases h
theorem glueL_ok : ∀ {l : List Int} {p q : IExp}, 0 ≤ p.den e → p.den e ≤ ((A.den e).length : Int) → glueL one bs A l p = some q → Lies (A.den e) (p.den e) (q.den e) l
  | [], p, q, h0, h1, h => by
    cases h
    exact Lies.nil h0 h1
  | c :: r, p, q, h0, h1, h => by
    simp only [glueL, Option.bind_eq_some_iff] at h
    obtain ⟨z, hz, h⟩ := h
    have g := at1_ok ok ha ho hz
    have := g.app (glueL_ok (Int.le_trans g.lo g.le) g.hi h)
    rwa [litD] at this
theorem glue1_ok {p q : IExp} (h0 : 0 ≤ p.den e) (h1 : p.den e ≤ ((A.den e).length : Int)) {a : AExp} (h : glue1 one bs A p a = some q) : Lies (A.den e) (p.den e) (q.den e) (a.den e) := by
  unfold glue1 at h
  split at h
  · rename_i x
    have := at1_ok ok ha ho h
    simpa only [AExp.den] using this
  · rename_i l
    have := glueL_ok ok ha ho h0 h1 h
    simpa only [AExp.den] using this
  · rename_i B i n
    split at h
    · rename_i hc
      simp only [Bool.and_eq_true] at hc
      obtain ⟨⟨⟨c1, c2⟩, c3⟩, c4⟩ := hc
      split at h
      · rename_i z hz
        split at h
        · rename_i hle
          cases h
          have e1 := eqKnown_ok ok ha c2
          have e2 := nnI_ok ok ha c4
          have e3 := sumI_ok ok ha hz
          have e4 := knowsLe_ok ok ha hle
          rw [mkLen_den ok ha] at e4
          refine ⟨h0, by omega, e4, ?_⟩
          simp only [AExp.den]
          rw [AExp.same_eq _ _ c1, e1, e3]
          congr 2
          omega
        · cases h
      · cases h
    · cases h
  · cases h
theorem glue_ok : ∀ {l : List AExp} {p q : IExp}, 0 ≤ p.den e → p.den e ≤ ((A.den e).length : Int) → glue one bs A l p = some q → Lies (A.den e) (p.den e) (q.den e) (denL e l)
  | [], p, q, h0, h1, h => by
    cases h
    exact Lies.nil h0 h1
  | x :: r, p, q, h0, h1, h => by
    simp only [glue, Option.bind_eq_some_iff] at h
    obtain ⟨z, hz, h⟩ := h
    have g := glue1_ok ok ha ho h0 h1 hz
    exact g.app (glue_ok (Int.le_trans g.lo g.le) g.hi h)
end
/-! ### Elements -/
def isSel (bs : Asm) (A : AExp) (p : IExp) : IExp → Bool
  | .sel _ a i => a.same A && eqKnown bs i p
  | _ => false
def one0 (bs : Asm) : OneF := fun A p x => isSel bs A p x || eqKnown bs x (mkSel bs .u8 A p)
theorem one0_ok {e : Env} (ok : EnvOk e) {bs : Asm} (ha : AsmOk e bs) : OneOk e (one0 bs) := fun A p x h h0 h1 => by
  simp only [one0, Bool.or_eq_true] at h
  rcases h with h | h
  · unfold isSel at h
    split at h
    · rename_i k a i
      simp only [Bool.and_eq_true] at h
      simp only [IExp.den]
      rw [AExp.same_eq _ _ h.1, eqKnown_ok ok ha h.2]
    · cases h
  · rw [eqKnown_ok ok ha h, mkSel_den ok ha A p h0 h1]
def in01 : Option (Int × Int) → Bool
  | some (l, h) => decide (0 ≤ l) && decide (h ≤ 1)
  | none => false
/-- A byte of 0 or 1 is the bit of its being 1. -/
def bitX (bs : Asm) (b : BExp) : IExp := match b with
  | .eq y (.lit n) => if n = 1 ∧ in01 (y.rng bs) = true then y else .bit (.eq y (.lit n))
  | b => .bit b
theorem bitX_den {e : Env} (ok : EnvOk e) {bs : Asm} (ha : AsmOk e bs) (b : BExp) : (bitX bs b).den e = (IExp.bit b).den e := by
  unfold bitX
  split
  · rename_i y n
    split
    · rename_i hc
      obtain ⟨rfl, hr⟩ := hc
      have hy := IExp.rng_ok ok ha y
      unfold in01 at hr
      split at hr
      · rename_i l h heq
        rw [heq] at hy
        simp only [Bool.and_eq_true, decide_eq_true_eq] at hr
        obtain ⟨y1, y2⟩ := hy
        simp only [IExp.den, BExp.den]
        by_cases h1 : y.den e = 1
        · simp [h1]
        · simp only [h1, decide_false, Bool.false_eq_true, if_false]
          omega
      · cases hr
    · rfl
  · rfl
/-- A quotient of 64 bits, whatever its kind. -/
def rwBin (bs : Asm) (op : BinOp) (k : IntKind) (x y : IExp) : IExp := match op, k, isLit y with
  | .quo, .i64, some n => if geZ (x.rng bs) && quoIn n (x.rng bs) && decide (0 < n) then mkQuo bs x n else mkBinR bs .quo .i64 x y
  | op, k, _ => mkBinR bs op k x y
theorem rwBin_den {e : Env} (ok : EnvOk e) {bs : Asm} (ha : AsmOk e bs) {op : BinOp} {k : IntKind} {x y : IExp} : (rwBin bs op k x y).den e = binDen op k (x.den e) (y.den e) := by
  unfold rwBin
  split
  · rename_i n hn
    split
    · rename_i hc
      simp only [Bool.and_eq_true, decide_eq_true_eq] at hc
      obtain ⟨⟨h1, h2⟩, h3⟩ := hc
      have hr := IExp.rng_ok ok ha x
      have h0 := geZ_ok h1 hr
      have hin := quoIn_ok h2 hr h0 h3
      rw [mkQuo_den ok ha h0 (.inr hin) h3, isLit_eq hn, litD]
      show _ = IntKind.i64.wrap ((x.den e).tdiv n)
      rw [Int.tdiv_eq_ediv_of_nonneg h0, wrap_id hin]
    · exact mkBinR_den ok ha
  · exact mkBinR_den ok ha
/-- Without functions. -/
def rw0 (bs : Asm) : IExp → IExp
  | .bin op k x y => rwBin bs op k (rw0 bs x) y
  | .conv k x => mkConv bs k (rw0 bs x)
  | .bit b => bitX bs b
  | x => x
theorem rw0_den {e : Env} (ok : EnvOk e) {bs : Asm} (ha : AsmOk e bs) : ∀ x : IExp, (rw0 bs x).den e = x.den e
  | .bin op k x y => by
    simp only [rw0]
    rw [rwBin_den ok ha, rw0_den ok ha x]
    rfl
  | .conv k x => by
    simp only [rw0]
    rw [mkConv_den ok ha, rw0_den ok ha x]
    rfl
  | .bit b => by simp only [rw0]; exact bitX_den ok ha b
  | .lit _ => rfl
  | .var _ _ => rfl
  | .sel _ _ _ => rfl
  | .len _ => rfl
  | .fn _ _ _ _ => rfl
/-- Both parts of a sum that is nothing are nothing. -/
def zeroF (bs : Asm) (s : IExp) (p : BExp × Bool) : Bool := match p with
  | (.eq (.bin .add .u64 (.bin .mul .u64 a (.lit c)) b) (.lit z), true) => decide (z = 0) && mulFits .u64 .u64 c (a.rng bs) (b.rng bs) && (a.same s || b.same s)
  | _ => false
theorem zeroF_ok {e : Env} (ok : EnvOk e) {bs : Asm} (ha : AsmOk e bs) {s : IExp} {p : BExp × Bool} (hp : p.1.den e = p.2) (h : zeroF bs s p = true) : s.den e = 0 := by
  unfold zeroF at h
  split at h
  · rename_i a c b z
    simp only [Bool.and_eq_true, Bool.or_eq_true, decide_eq_true_eq] at h
    obtain ⟨⟨rfl, h2⟩, h3⟩ := h
    obtain ⟨g1, g2, g3, g4, g5⟩ := mulFits_ok h2 (IExp.rng_ok ok ha a) (IExp.rng_ok ok ha b)
    have hd := eqT hp
    rw [litD] at hd
    have hd : IntKind.u64.wrap (IntKind.u64.wrap (a.den e * c) + b.den e) = 0 := by
      have e1 : (IExp.bin .add .u64 (.bin .mul .u64 a (.lit c)) b).den e = IntKind.u64.wrap (IntKind.u64.wrap (a.den e * (IExp.lit c).den e) + b.den e) := rfl
      rw [e1, litD] at hd
      exact hd
    rw [g1, g2] at hd
    have k1 : 0 ≤ a.den e * c := Int.mul_nonneg g3 (by omega)
    have k2 : b.den e = 0 := by omega
    have k3 : a.den e * c = 0 := by omega
    have k4 : a.den e = 0 := by
      rcases Int.mul_eq_zero.1 k3 with h | h
      · exact h
      · omega
    rcases h3 with h3 | h3
    · rw [← IExp.same_eq _ _ h3]; exact k4
    · rw [← IExp.same_eq _ _ h3]; exact k2
  · cases h
def oneA (bs : Asm) : OneF := fun A p x => one0 bs A p x || one0 bs A p (rw0 bs x) || (isZ x && bs.any (zeroF bs (mkSel bs .u8 A p)))
theorem oneA_ok {e : Env} (ok : EnvOk e) {bs : Asm} (ha : AsmOk e bs) : OneOk e (oneA bs) := fun A p x h h0 h1 => by
  simp only [oneA, Bool.or_eq_true, Bool.and_eq_true] at h
  rcases h with (h | h) | h
  · exact one0_ok ok ha A p x h h0 h1
  · rw [← rw0_den ok ha x]; exact one0_ok ok ha A p _ h h0 h1
  · obtain ⟨q, hq, hz⟩ := List.any_eq_true.1 h.2
    rw [isZ_eq h.1, litD, ← mkSel_den ok ha (k := .u8) A p h0 h1]
    exact (zeroF_ok ok ha (ha q hq) hz).symm
/-- What a text is known to be equal to. -/
def findP (pr : IExp → Bool) (x : IExp) : Asm → IExp
  | [] => x
  | (.eq l r, true) :: t => if pr l = true then r else if pr r = true then l else findP pr x t
  | _ :: t => findP pr x t
theorem findP_den {e : Env} {pr : IExp → Bool} {x : IExp} (hpr : ∀ y, pr y = true → y.den e = x.den e) : ∀ {bs : Asm}, AsmOk e bs → (findP pr x bs).den e = x.den e
  | [], _ => rfl
  | p :: t, ha => by
    have ht : AsmOk e t := fun q hq => ha q (List.mem_cons_of_mem _ hq)
    unfold findP
    split
    · rfl
    · rename_i l r t' heq
      cases heq
      have hp := eqT (ha _ List.mem_cons_self)
      split
      · rename_i hs; rw [← hp, hpr _ hs]
      · split
        · rename_i hs; rw [hp, hpr _ hs]
        · exact findP_den hpr ht
    · rename_i heq
      cases heq
      exact findP_den hpr ht
theorem lies_take {L l : List Int} {q : Int} (h : Lies L 0 q l) : l = L.take q.toNat := by
  have := h.is
  simpa using this
/-- That function of A's first q elements. -/
def fnPart (bs : Asm) (A : AExp) (k : IntKind) (f j : Nat) (q : IExp) : IExp → Bool
  | .fn k' f' j' (.a (.sub B i m) .nil) => decide (k' = k) && Nat.beq f' f && Nat.beq j' j && B.same A && isZ i && eqKnown bs m q
  | _ => false
theorem fnPart_ok {e : Env} (ok : EnvOk e) {bs : Asm} (ha : AsmOk e bs) {A : AExp} {k : IntKind} {f j : Nat} {q y : IExp} (h : fnPart bs A k f j q y = true) : y.den e = e.fi k f j [.a ((A.den e).take (q.den e).toNat)] := by
  unfold fnPart at h
  split at h
  · rename_i k' f' j' B i m
    simp only [Bool.and_eq_true, decide_eq_true_eq] at h
    obtain ⟨⟨⟨⟨⟨rfl, h2⟩, h3⟩, h4⟩, h5⟩, h6⟩ := h
    rw [Nat.eq_of_beq_eq_true h2, Nat.eq_of_beq_eq_true h3, AExp.same_eq _ _ h4, isZ_eq h5]
    simp only [IExp.den, LExp.den, AExp.den]
    rw [eqKnown_ok ok ha h6]
    simp
  · cases h
def rwFn (bs : Asm) (A : AExp) (k : IntKind) (f j : Nat) (l : LExp) : IExp := match l with
  | .a X .nil => (match glue (oneA bs) bs A (flatA X []) (.lit 0) with
    | some q => findP (fnPart bs A k f j q) (.fn k f j (.a X .nil)) bs
    | none => .fn k f j (.a X .nil))
  | l => .fn k f j l
theorem rwFn_den {e : Env} (ok : EnvOk e) {bs : Asm} (ha : AsmOk e bs) (A : AExp) (k : IntKind) (f j : Nat) (l : LExp) : (rwFn bs A k f j l).den e = (IExp.fn k f j l).den e := by
  unfold rwFn
  split
  · rename_i X
    split
    · rename_i q hq
      have h := glue_ok ok ha (oneA_ok ok ha) (by rw [litD]; omega) (by rw [litD]; omega) hq
      rw [litD, flatA_den] at h
      have h := lies_take h
      simp only [denL, List.append_nil] at h
      refine findP_den (fun y hy => ?_) ha
      rw [fnPart_ok ok ha hy]
      simp only [IExp.den, LExp.den]
      rw [h]
    · rfl
  · rfl
def rwI (bs : Asm) (A : AExp) : IExp → IExp
  | .fn k f j l => rwFn bs A k f j l
  | .bin op k x y => rwBin bs op k (rwI bs A x) y
  | .conv k x => mkConv bs k (rwI bs A x)
  | .bit b => bitX bs b
  | x => x
theorem rwI_den {e : Env} (ok : EnvOk e) {bs : Asm} (ha : AsmOk e bs) (A : AExp) : ∀ x : IExp, (rwI bs A x).den e = x.den e
  | .fn k f j l => by simp only [rwI]; exact rwFn_den ok ha A k f j l
  | .bin op k x y => by
    simp only [rwI]
    rw [rwBin_den ok ha, rwI_den ok ha A x]
    rfl
  | .conv k x => by
    simp only [rwI]
    rw [mkConv_den ok ha, rwI_den ok ha A x]
    rfl
  | .bit b => by simp only [rwI]; exact bitX_den ok ha b
  | .lit _ => rfl
  | .var _ _ => rfl
  | .sel _ _ _ => rfl
  | .len _ => rfl
def one1 (bs : Asm) : OneF := fun A p x => oneA bs A p x || one0 bs A p (rwI bs A x)
theorem one1_ok {e : Env} (ok : EnvOk e) {bs : Asm} (ha : AsmOk e bs) : OneOk e (one1 bs) := fun A p x h h0 h1 => by
  simp only [one1, Bool.or_eq_true] at h
  rcases h with h | h
  · exact oneA_ok ok ha A p x h h0 h1
  · rw [← rwI_den ok ha A x]; exact one0_ok ok ha A p _ h h0 h1
/-- X is Y, piece by piece. -/
def glueAll (bs : Asm) (X Y : AExp) : Bool := match glue (one1 bs) bs Y (flatA X []) (.lit 0) with
  | some q => eqKnown bs q (mkLen bs Y)
  | none => false
theorem glueAll_ok {e : Env} (ok : EnvOk e) {bs : Asm} (ha : AsmOk e bs) {X Y : AExp} (h : glueAll bs X Y = true) : X.den e = Y.den e := by
  unfold glueAll at h
  split at h
  · rename_i q hq
    have g := glue_ok ok ha (one1_ok ok ha) (by rw [litD]; omega) (by rw [litD]; omega) hq
    rw [litD, flatA_den] at g
    have g := lies_take g
    simp only [denL, List.append_nil] at g
    rw [g, eqKnown_ok ok ha h, mkLen_den ok ha]
    simp
  · cases h
/-- What can not be. -/
def refGlue (bs : Asm) : Bool := bs.any fun p => match p with
  | (.aeq X Y, false) => glueAll bs X Y || glueAll bs Y X
  | _ => false
def RefOk (ref : Asm → Bool) : Prop := ∀ e bs, EnvOk e → AsmOk e bs → ref bs = true → False
theorem refGlue_ok : RefOk refGlue := fun e bs ok ha h => by
  obtain ⟨p, hp, h⟩ := List.any_eq_true.1 h
  split at h
  · rename_i X Y
    have hd := ha _ hp
    simp only [BExp.den, decide_eq_false_iff_not] at hd
    simp only [Bool.or_eq_true] at h
    rcases h with h | h
    · exact hd (glueAll_ok ok ha h)
    · exact hd (glueAll_ok ok ha h).symm
  · cases h
/-! ### Leaves that can not be -/
def okR (ref : Asm → Bool) (rs : List Sh) (pats : Pats) (rk : Key → Nat) (mu : Key → IExp) (chk : LExp → Bool) (m : Option (Nat × IExp)) : Asm → WT GoF → Bool
  | bs, .leaf a => leafOkF rs pats rk mu chk bs m a || ref bs
  | bs, .node b t f => okR ref rs pats rk mu chk m ((b, true) :: bs) t && okR ref rs pats rk mu chk m ((b, false) :: bs) f
  | bs, .both t f => okR ref rs pats rk mu chk m bs t && okR ref rs pats rk mu chk m bs f
  | _, .stop => false
def badR (ref : Asm → Bool) (rs : List Sh) (pats : Pats) (rk : Key → Nat) (mu : Key → IExp) (chk : LExp → Bool) (m : Option (Nat × IExp)) : Asm → WT GoF → List (Asm × GoF)
  | bs, .leaf a => if leafOkF rs pats rk mu chk bs m a || ref bs then [] else [(bs, a)]
  | bs, .node b t f => badR ref rs pats rk mu chk m ((b, true) :: bs) t ++ badR ref rs pats rk mu chk m ((b, false) :: bs) f
  | bs, .both t f => badR ref rs pats rk mu chk m bs t ++ badR ref rs pats rk mu chk m bs f
  | bs, .stop => [(bs, .bad)]
theorem okR_holds {ref : Asm → Bool} (href : RefOk ref) {rs : List Sh} {pats : Pats} {rk : Key → Nat} {mu : Key → IExp} (hmu : MuOk mu) {chk : LExp → Bool} {e : Env} (ok : EnvOk e) {r : List LV} (hr : ∀ e L, EnvOk e → chk L = true → L.den e = r) {m : Option (Nat × IExp)} {m' : Option Nat} (hm : ∀ x, m' = some x → ∃ k y, m = some (k, y) ∧ k * 18446744073709551616 + (y.den e).toNat ≤ x) :
    ∀ {bs : Asm} {t : WT GoF}, AsmOk e bs → okR ref rs pats rk mu chk m bs t = true → t.holds e (Owed1F pats ⟨fun _ _ => True, meas rk mu⟩ (fun e v st => ∃ L, resL rs (v, ⟨st.h, []⟩) = some L ∧ L.den e = r) e m')
  | bs, .leaf a, ha, h => by
    simp only [okR, Bool.or_eq_true] at h
    rcases h with h | h
    · exact okF_holds hmu ok hr hm ha (t := .leaf a) h
    · exact (href e bs ok ha h).elim
  | bs, .node b t f, ha, h => by
    simp only [okR, Bool.and_eq_true] at h
    simp only [WT.holds]
    cases hb : b.den e with
    | true => simp only [if_true]; exact okR_holds href hmu ok hr hm (AsmOk.cons hb ha) h.1
    | false => simp only [Bool.false_eq_true, if_false]; exact okR_holds href hmu ok hr hm (AsmOk.cons hb ha) h.2
  | bs, .both t f, ha, h => by
    simp only [okR, Bool.and_eq_true] at h
    exact ⟨okR_holds href hmu ok hr hm ha h.1, okR_holds href hmu ok hr hm ha h.2⟩
  | _, .stop, _, h => by simp [okR] at h
/-- A law without heads. -/
theorem law_run {ref : Asm → Bool} (href : RefOk ref) {n f : Nat} {tab : Tab} {gs : SHeap} {ps : List Shr} (hps : ps.all Shr.plain = true) (hhas : hasBody f = true) (hplain : plainB 1000 (rH gs ps).length (rH gs ps) [] = true)
    (hstart : okR ref [.c .b] [] (fun _ => 0) (fun _ => .lit 0) chkT none (canonRAs 0 (shrFlat ps)) (lawS n f tab gs ps []) = true) (s : Src)
    (htab : ∀ e : Env, EnvOk e → e.fi = s.env.fi → e.fa = s.env.fa → e.fb = s.env.fb → e.fx = [] → KnowsP gs e → TabOk Tryd.prog gs.length (rH gs ps).length tab e)
    (W : World) (hW : Pre gs W) (lv : List LV) (vs : List Value) (hlv : WfR (shrFlat ps) lv) (hvs : shrsIs W ps lv vs) :
    Calls Tryd.prog f vs.toArray W fun en W' => en = .returned (.bool true) ∧ RowKit.Below W.heap.size W W' := by
  obtain ⟨ρ, hD, hA, hrel, hg⟩ := r_start hps s hW hlv hvs
  have hlen : (rH gs ps).length = ρ.length := hrel.len
  obtain ⟨hf, hb⟩ := fn_of hhas
  have hmu' : MuOk (fun _ => IExp.lit 0) := fun q e oke => by rw [litD]; omega
  have hgl : gs.length ≤ (rH gs ps).length := by rw [rH, List.length_append]; omega
  refine cfg1F (G := gs.length) (ov := (rH gs ps).length) (plan := plan) (tab := tab) (n := n) (N := 1000) (ro := (rH gs ps).length) (base := (rH gs ps).length) (pats := []) (args := rArgs gs ps) (st := ⟨rH gs ps, canonRAs 0 (shrFlat ps)⟩) (e0 := (Src.know (envOf s lv) W []).env) (ρ0 := ρ) (vs := vs)
    ⟨fun _ _ => True, meas (fun _ => 0) (fun _ => .lit 0)⟩ (fun e v st => ∃ L, resL [.c .b] (v, ⟨st.h, []⟩) = some L ∧ L.den e = [.b true])
    mixed plan_ok rfl (fun _ _ _ => LtOk.none) (fun e ok' g => htab e ok' g.fi g.fa g.fb g.fx ⟨W, g.base, g.h0, hW⟩) rfl hf hb (Src.know (envOf s lv) W []).ok hD hA hrel hg (Nat.le_refl _) (by omega) hgl (by decide) hplain (okR_holds href hmu' (Src.know (envOf s lv) W []).ok chkT_ok (fun x hx => by cases hx) hA hstart) (fun q hq => by cases hq) (fun k p h => by cases h) ?_
  rintro e v st' ok' g ⟨L, hL, hd⟩ ρ' V W' hp' hV
  obtain ⟨h1, h2⟩ := resL_ok (q := (v, ⟨st'.h, []⟩)) (ρ := ρ') ok' (AsmOk.nil _) hL hV
  rw [hd] at h2
  exact ⟨congrArg _ h2, below_of_post hp' (by omega)⟩
end Go.Proofs.YtaijkkkgpgldbaaDoor.K
