/- A small symbolic executor for loop-free Go code: operands, and the operations that look at no memory. -/
import Derived.Test.YtaijkkkgpgldbaaDoorSyEq
import Derived.Laws.Tables
namespace Go.Proofs.YtaijkkkgpgldbaaDoor.Sy
set_option linter.unusedVariables false
set_option linter.unusedSimpArgs false
open Go

/-! ### Operands -/
def constCell : Value → Option Cell
  | .bool b => some (.b (.lit b))
  | .int k n => some (.i k (.lit n))
  | .string s => some (.s (.cst (ints s)))
  | .pointer none => some (.p none)
  | .slice none 0 0 => some (.sl none (.lit 0) (some (.lit 0)))
  | .nilFunc => some .nf
  | _ => none
def constCells : List Value → Option (List Seg)
  | [] => some []
  | v :: r => match constCell v, constCells r with
    | some x, some l => some (.c x :: l)
    | _, _ => none
def constVal : Value → Option SVal
  | .agg cs => (constCells cs.toList).map fun l => .v (.agg l)
  | .tuple vs => if vs.size = 0 then some (.tup []) else none
  | v => (constCell v).map fun x => .v (.c x)

theorem constCell_ok {e : Env} {ρ : Rho} {v : Value} {x : Cell} (h : constCell v = some x) : x.D e ρ v := by
  unfold constCell at h
  split at h <;> cases h <;> simp [Cell.D, BExp.den, IExp.den, AExp.den, strOf_ints]
theorem constCells_ok {e : Env} {ρ : Rho} : ∀ {vs : List Value} {l : List Seg}, constCells vs = some l → SegsD e ρ l vs
  | [], l, h => by simp only [constCells, Option.some.injEq] at h; subst h; rfl
  | v :: r, l, h => by
    simp only [constCells] at h
    split at h
    · rename_i x q h1 h2
      cases h
      exact ⟨v, r, rfl, constCell_ok h1, constCells_ok h2⟩
    · cases h
theorem constVal_ok {e : Env} {ρ : Rho} {v : Value} {x : SVal} (h : constVal v = some x) : x.D e ρ v := by
  unfold constVal at h
  split at h
  · rename_i cs
    simp only [Option.map_eq_some_iff] at h
    obtain ⟨l, hl, rfl⟩ := h
    exact ⟨cs.toList, by simp, constCells_ok hl⟩
  · rename_i vs
    split at h
    · rename_i hz
      cases h
      exact ⟨[], by simp at hz; simp [hz], rfl⟩
    · cases h
  · simp only [Option.map_eq_some_iff] at h
    obtain ⟨x, hx, rfl⟩ := h
    exact constCell_ok hx

/-! ### Zero values with long rows of numbers -/
def checkRun (k : IntKind) : Nat → List Value → Option (List Value)
  | 0, l => some l
  | n + 1, l => match l with
    | .int k' z :: r => if k' = k ∧ z = 0 then checkRun k n r else none
    | _ => none
theorem checkRun_ok {k : IntKind} : ∀ {n : Nat} {l r : List Value}, checkRun k n l = some r → l = (List.replicate n (0 : Int)).map (.int k) ++ r
  | 0, l, r, h => by simp only [checkRun, Option.some.injEq] at h; simp [h]
  | n + 1, l, r, h => by
    unfold checkRun at h
    split at h
    · rename_i k' z q
      split at h
      · rename_i hc
        rw [checkRun_ok h, hc.1, hc.2, List.replicate_succ, List.map_cons, List.cons_append]
      · cases h
    · cases h
/-- Rows of numbers of these lengths, in this order, are kept whole. -/
def runSegs : Nat → List Nat → List Value → Option (List Seg)
  | 0, _, _ => none
  | _ + 1, _, [] => some []
  | f + 1, [], v :: r => match constCell v, runSegs f [] r with
    | some x, some l => some (.c x :: l)
    | _, _ => none
  | f + 1, n :: ns, v :: r => match v with
    | .int k z => (match checkRun k n (.int k z :: r) with
      | some rest => (runSegs f ns rest).map (.arr k n (.zeros (.lit n)) :: ·)
      | none => (runSegs f (n :: ns) r).map (.c (.i k (.lit z)) :: ·))
    | v => match constCell v, runSegs f (n :: ns) r with
      | some x, some l => some (.c x :: l)
      | _, _ => none
theorem runSegs_ok {e : Env} {ρ : Rho} : ∀ {f : Nat} {ns : List Nat} {vs : List Value} {l : List Seg}, runSegs f ns vs = some l → SegsD e ρ l vs
  | 0, _, _, _, h => by cases h
  | f + 1, ns, [], l, h => by
    have h : some [] = some l := by cases ns <;> exact h
    cases h; rfl
  | f + 1, [], v :: r, l, h => by
    simp only [runSegs] at h
    split at h
    · rename_i x q h1 h2
      cases h
      exact ⟨v, r, rfl, constCell_ok h1, runSegs_ok h2⟩
    · cases h
  | f + 1, n :: ns, v :: r, l, h => by
    unfold runSegs at h
    split at h
    · rename_i k z
      split at h
      · rename_i rest hr
        obtain ⟨q, hq, rfl⟩ := Option.map_eq_some_iff.1 h
        have h1 := checkRun_ok hr
        have e1 : (AExp.zeros (.lit (n : Int))).den e = List.replicate n 0 := by simp [AExp.den, IExp.den]
        exact ⟨rest, by rw [e1]; exact h1, by rw [e1, List.length_replicate], runSegs_ok hq⟩
      · obtain ⟨q, hq, rfl⟩ := Option.map_eq_some_iff.1 h
        exact ⟨.int k z, r, rfl, by simp [Cell.D, IExp.den], runSegs_ok hq⟩
    · split at h
      · rename_i x q h1 h2
        cases h
        exact ⟨v, r, rfl, constCell_ok h1, runSegs_ok h2⟩
      · cases h
def arrs (P : Program) : Nat → TypeId → List Nat
  | 0, _ => []
  | f + 1, t => match P.underlying t with
    | some (.array n el) => (match P.underlying el with
      | some (.int _) => if 64 < n then [n] else []
      | _ => [])
    | some (.struct fs) => fs.toList.flatMap fun fl => arrs P f fl.type
    | _ => []
/-- The cells of a type's zero value. -/
def zeroOf (P : Program) (t : TypeId) (size : Nat) (z : Value) : Option (List Seg) :=
  if size ≤ 64 then constCells z.cells.toList else runSegs 2000 (arrs P 20 t) z.cells.toList
theorem zeroOf_ok {e : Env} {ρ : Rho} {P : Program} {t : TypeId} {n : Nat} {z : Value} {l : List Seg} (h : zeroOf P t n z = some l) : SegsD e ρ l z.cells.toList := by
  unfold zeroOf at h
  split at h
  · exact constCells_ok h
  · exact runSegs_ok h


/-- The frame's slots: the last written first. -/
structure Tm where
  n : Nat
  l : List (Nat × SVal)
  /-- Of the slots that are not listed nothing is known (else they are unset). -/
  dead : Bool
def tmFind (dead : Bool) : List (Nat × SVal) → Nat → SVal
  | [], _ => cond dead .any (.tup [])
  | (i, x) :: r, t => cond (Nat.beq i t) x (tmFind dead r t)
def Tm.get (tm : Tm) (t : Nat) : SVal := tmFind tm.dead tm.l t
def Tm.put (tm : Tm) (d : Nat) (x : SVal) : Tm := match tm with
  | ⟨n, l, dd⟩ => cond (Nat.blt d n) ⟨n, (d, x) :: l, dd⟩ ⟨n, l, dd⟩
def TmD (e : Env) (ρ : Rho) (tm : Tm) (vs : List Value) : Prop := tm.n = vs.length ∧ ∀ t, (tm.get t).D e ρ (vs.getD t undef)
theorem TmD.mono {e : Env} {ρ ρ' : Rho} (hp : Pre ρ ρ') {tm : Tm} {vs : List Value} (h : TmD e ρ tm vs) : TmD e ρ' tm vs := ⟨h.1, fun t => SVal.mono hp (h.2 t)⟩
theorem TmD.put {e : Env} {ρ : Rho} {tm : Tm} {vs : List Value} {x : SVal} {v : Value} (hx : x.D e ρ v) (h : TmD e ρ tm vs) (d : Nat) : TmD e ρ (tm.put d x) (vs.set d v) := by
  obtain ⟨tn, tl, dd⟩ := tm
  simp only [Tm.put]
  cases hb : Nat.blt d tn with
  | true =>
    have hlt : d < vs.length := by rw [← h.1]; exact Nat.le_of_ble_eq_true hb
    refine ⟨by simpa using h.1, fun t => ?_⟩
    simp only [cond_true, Tm.get, tmFind]
    cases hq : Nat.beq d t with
    | true =>
      have := Nat.eq_of_beq_eq_true hq
      subst this
      simpa [List.getD_eq_getElem?_getD, hlt] using hx
    | false =>
      have hne : d ≠ t := fun hh => by rw [hh] at hq; simp at hq
      simpa [Tm.get, List.getD_eq_getElem?_getD, List.getElem?_set_ne hne] using h.2 t
  | false =>
    have hge : vs.length ≤ d := by
      rw [← h.1]
      rcases Nat.lt_or_ge d tn with hlt | hge
      · have : Nat.blt d tn = true := Nat.ble_eq_true_of_le hlt
        rw [hb] at this; cases this
      · exact hge
    rw [List.set_eq_of_length_le hge]
    exact h
def tmArgs : Nat → List SVal → List (Nat × SVal)
  | _, [] => []
  | i, x :: r => (i, x) :: tmArgs (i + 1) r

def seval (G : Nat) (tmps : Tm) : Operand → Option SVal
  | .tmp t => some (tmps.get t)
  | .const v => constVal v
  | .global g => if g < G then some (.v (.c (.p (some ⟨g, 0, none⟩)))) else none
  | .func f => some (.v (.c (.fn f [])))

def Glob (G : Nat) (ρ : Rho) : Prop := ∀ g, g < G → ρ[g]? = some (g, 0, 0)
theorem Glob.mono {G : Nat} {ρ ρ' : Rho} (h : Glob G ρ) (hp : Pre ρ ρ') : Glob G ρ' := fun g hg => hp.get (h g hg)

theorem seval_ok {e : Env} {ρ : Rho} {G : Nat} (hG : Glob G ρ) {tmps : Tm} {a : Act} (ht : TmD e ρ tmps a.tmps.toList) {o : Operand} {x : SVal} (h : seval G tmps o = some x) : x.D e ρ (a.eval o) := by
  cases o with
  | tmp t =>
    simp only [seval, Option.some.injEq] at h
    subst h
    have := ht.2 t
    have e1 : a.eval (.tmp t) = a.tmps.toList.getD t undef := by
      simp [Act.eval, Array.getD_eq_getD_getElem?, List.getD_eq_getElem?_getD]
    rw [e1]; exact this
  | const v => exact constVal_ok h
  | global g =>
    simp only [seval] at h
    split at h
    · rename_i hg
      cases h
      exact ⟨⟨g, 0, none⟩, ⟨g, 0, 0, hG g hg, rfl⟩, rfl⟩
    · cases h
  | func f =>
    simp only [seval, Option.some.injEq] at h
    subst h
    exact ⟨[], rfl, rfl⟩

def asCell : Option SVal → Option Cell
  | some (.v (.c x)) => some x
  | _ => none
def asSV : Option SVal → Option SV
  | some (.v x) => some x
  | _ => none
theorem asCell_eq {o : Option SVal} {x : Cell} (h : asCell o = some x) : o = some (.v (.c x)) := by
  unfold asCell at h; split at h <;> simp_all
theorem asSV_eq {o : Option SVal} {x : SV} (h : asSV o = some x) : o = some (.v x) := by
  unfold asSV at h; split at h <;> simp_all

section ev
variable {e : Env} {ρ : Rho} {G : Nat} (hG : Glob G ρ) {tmps : Tm} {a : Act} (ht : TmD e ρ tmps a.tmps.toList)
include hG ht
theorem evalCell {o : Operand} {x : Cell} (h : asCell (seval G tmps o) = some x) : x.D e ρ (a.eval o) := seval_ok hG ht (asCell_eq h)
theorem evalSV {o : Operand} {x : SV} (h : asSV (seval G tmps o) = some x) : x.D e ρ (a.eval o) := seval_ok hG ht (asSV_eq h)
end ev

/-! ### Operators -/
def sbinI (as : Asm) (op : BinOp) (k : IntKind) (x y : IExp) : Tree (Cell × Asm) :=
  match op with
  | .add | .sub | .mul | .and | .or | .xor | .andNot => .leaf (.i k (mkBinR as op k x y), as)
  | .quo | .rem => (fork as (mkEq as y (.lit 0))).bind fun r => match r with | (v, as1) => if v then .stop else .leaf (.i k (mkBinR as1 op k x y), as1)
  | .eql => .leaf (.b (mkEq as x y), as)
  | .neq => .leaf (.b (mkNot (mkEq as x y)), as)
  | .lss => .leaf (.b (mkLt as x y), as)
  | .leq => .leaf (.b (mkLe as x y), as)
  | .gtr => .leaf (.b (mkLt as y x), as)
  | .geq => .leaf (.b (mkLe as y x), as)
  | .shl | .shr => .stop

def sbin (P : Program) (as : Asm) (op : BinOp) (t : TypeId) (x y : Cell) : Tree (Cell × Asm) :=
  match x, y with
  | .i k x, .i k' y =>
    match op with
    | .shl | .shr => (fork as (mkLe as (.lit 0) y)).bind fun r => match r with | (v, as1) => if v then .leaf (.i k (mkBinR as1 op k x y), as1) else .stop
    | _ => if k = k' then sbinI as op k x y else .stop
  | .b x, .b y =>
    match P.underlying t, op with
    | some .bool, .eql => .leaf (.b (mkBeq x y), as)
    | some .bool, .neq => .leaf (.b (mkNot (mkBeq x y)), as)
    | _, _ => .stop
  | .s x, .s y =>
    match op with
    | .eql => if x.inK as .u8 && y.inK as .u8 then .leaf (.b (mkAeq as x y), as) else .stop
    | .neq => if x.inK as .u8 && y.inK as .u8 then .leaf (.b (mkNot (mkAeq as x y)), as) else .stop
    | .add => if inKind .i64 (addR2 (x.lenR as) (y.lenR as)) then .leaf (.s (mkCat x y), as) else .stop
    | _ => .stop
  | .p a, .p b =>
    match P.underlying t, op, a, b with
    | some (.pointer _), .eql, none, none => .leaf (.b (.lit true), as)
    | some (.pointer _), .eql, none, some _ => .leaf (.b (.lit false), as)
    | some (.pointer _), .eql, some _, none => .leaf (.b (.lit false), as)
    | some (.pointer _), .neq, none, none => .leaf (.b (.lit false), as)
    | some (.pointer _), .neq, none, some _ => .leaf (.b (.lit true), as)
    | some (.pointer _), .neq, some _, none => .leaf (.b (.lit true), as)
    | _, _, _, _ => .stop
  | _, _ => .stop

theorem leaf_inv {α : Type} {e : Env} {a b : α} (h : (Tree.leaf a).pick e = some b) : a = b := by simpa [Tree.pick] using h

theorem sbinI_ok {e : Env} (ok : EnvOk e) {P : Program} {ρ : Rho} {as as' : Asm} (ha : AsmOk e as) {op : BinOp} {k : IntKind} {x y : IExp} {c : Cell} {t : TypeId} (hs1 : op ≠ .shl) (hs2 : op ≠ .shr)
    (h : (sbinI as op k x y).pick e = some (c, as')) : AsmOk e as' ∧ ∃ V, c.D e ρ V ∧ ∀ w, (binOp op t (.int k (x.den e)) (.int k (y.den e))).run P w = .ok V w := by
  cases op
  case shl => exact absurd rfl hs1
  case shr => exact absurd rfl hs2
  case quo =>
    obtain ⟨⟨b, as1⟩, h1, h2⟩ := Tree.pick_bind h
    have hf := fork_ok ok ha h1
    rw [mkEq_den ok ha, litD] at hf
    cases b with
    | true => simp [Tree.pick] at h2
    | false =>
      have h2 := leaf_inv h2
      cases h2
      have hne : ¬ y.den e = 0 := of_decide_eq_false hf.1
      exact ⟨hf.2, _, rfl, fun w => by simp [binOp, Op.intDiv, hne, mkBinR_den ok hf.2, binDen]⟩
  case rem =>
    obtain ⟨⟨b, as1⟩, h1, h2⟩ := Tree.pick_bind h
    have hf := fork_ok ok ha h1
    rw [mkEq_den ok ha, litD] at hf
    cases b with
    | true => simp [Tree.pick] at h2
    | false =>
      have h2 := leaf_inv h2
      cases h2
      have hne : ¬ y.den e = 0 := of_decide_eq_false hf.1
      exact ⟨hf.2, _, rfl, fun w => by simp [binOp, Op.intDiv, hne, mkBinR_den ok hf.2, binDen]⟩
  all_goals
    have h2 := leaf_inv h
    cases h2
    refine ⟨ha, _, rfl, fun w => ?_⟩
    simp [binOp, Op.intArith, Op.intCmp, intBits_and, intBits_or, intBits_xor, mkBinR_den ok ha, binDen, mkEq_den ok ha, mkNot_den, mkLt_den ok ha, mkLe_den ok ha]
    try rfl
  all_goals first | (rw [Bool.eq_iff_iff]; simp) | skip

section ptr
variable {P : Program} {t el : TypeId} (hu : P.underlying t = some (.pointer el)) (w : World)
include hu
theorem eqIn_nn (d : Nat) : (Op.equalIn (d + 1) t (.pointer none) (.pointer none)).run P w = .ok true w := by
  simp only [Op.equalIn, Sem.run_bind, run_underlying hu, Result.andThen_ok]; rfl
theorem eqIn_ns (d : Nat) (A : Addr) : (Op.equalIn (d + 1) t (.pointer none) (.pointer (some A))).run P w = .ok false w := by
  simp only [Op.equalIn, Sem.run_bind, run_underlying hu, Result.andThen_ok]; rfl
theorem eqIn_sn (d : Nat) (A : Addr) : (Op.equalIn (d + 1) t (.pointer (some A)) (.pointer none)).run P w = .ok false w := by
  simp only [Op.equalIn, Sem.run_bind, run_underlying hu, Result.andThen_ok]; rfl
end ptr
theorem run_eql_ptr {P : Program} {t : TypeId} {a b : Option Addr} {r : Bool} {w : World} (h : (Op.equalIn (9999 + 1) t (.pointer a) (.pointer b)).run P w = .ok r w) : (binOp .eql t (.pointer a) (.pointer b)).run P w = .ok (.bool r) w := by
  show ((Op.equalIn (9999 + 1) t (.pointer a) (.pointer b)) >>= fun q => (pure (.bool q) : Sem Value)).run P w = _
  rw [Sem.run_bind, h]; rfl
theorem run_neq_ptr {P : Program} {t : TypeId} {a b : Option Addr} {r : Bool} {w : World} (h : (Op.equalIn (9999 + 1) t (.pointer a) (.pointer b)).run P w = .ok r w) : (binOp .neq t (.pointer a) (.pointer b)).run P w = .ok (.bool (!r)) w := by
  show ((Op.equalIn (9999 + 1) t (.pointer a) (.pointer b)) >>= fun q => (pure (.bool (!q)) : Sem Value)).run P w = _
  rw [Sem.run_bind, h]; rfl

theorem sbin_ok {e : Env} (ok : EnvOk e) {P : Program} {ρ : Rho} {as as' : Asm} (ha : AsmOk e as) {op : BinOp} {t : TypeId} {x y c : Cell} {X Y : Value} (hx : x.D e ρ X) (hy : y.D e ρ Y) (o1 o2 : Operand)
    (h : (sbin P as op t x y).pick e = some (c, as')) : AsmOk e as' ∧ ∃ V, c.D e ρ V ∧ ∀ w, (do eqGuard op t o1 o2 X Y; binOp op t X Y : Sem Value).run P w = .ok V w := by
  unfold sbin at h
  split at h
  · rename_i k x k' y
    cases hx; cases hy
    simp only [eqGuard_at_int, Sem.run_bind, Sem.run_pure, Result.andThen_ok]
    split at h
    · obtain ⟨⟨b, as1⟩, h1, h2⟩ := Tree.pick_bind h
      have hf := fork_ok ok ha h1
      rw [mkLe_den ok ha, litD] at hf
      cases b with
      | false => simp [Tree.pick] at h2
      | true =>
        have h2 := leaf_inv h2
        cases h2
        have hge : 0 ≤ y.den e := of_decide_eq_true hf.1
        exact ⟨hf.2, _, rfl, fun w => by simp [binOp, Op.shift, show ¬ y.den e < 0 by omega, mkBinR_den ok hf.2, binDen]⟩
    · obtain ⟨⟨b, as1⟩, h1, h2⟩ := Tree.pick_bind h
      have hf := fork_ok ok ha h1
      rw [mkLe_den ok ha, litD] at hf
      cases b with
      | false => simp [Tree.pick] at h2
      | true =>
        have h2 := leaf_inv h2
        cases h2
        have hge : 0 ≤ y.den e := of_decide_eq_true hf.1
        exact ⟨hf.2, _, rfl, fun w => by simp [binOp, Op.shift, show ¬ y.den e < 0 by omega, mkBinR_den ok hf.2, binDen]⟩
    · rename_i n1 n2
      split at h
      · rename_i hk
        subst hk
        exact sbinI_ok ok ha (fun hh => n1 hh) (fun hh => n2 hh) h
      · cases h
  · rename_i x y
    cases hx; cases hy
    simp only [eqGuard_at_bool, Sem.run_bind, Sem.run_pure, Result.andThen_ok]
    split at h
    · rename_i hu
      have h2 := leaf_inv h
      cases h2
      refine ⟨ha, _, rfl, fun w => ?_⟩
      simp [binOp, Op.equal, Op.maxDepth, run_equalIn_bool' w 9999 t _ _ hu, mkBeq_den]
    · rename_i hu
      have h2 := leaf_inv h
      cases h2
      refine ⟨ha, _, rfl, fun w => ?_⟩
      simp [binOp, Op.equal, Op.maxDepth, run_equalIn_bool' w 9999 t _ _ hu, mkBeq_den, mkNot_den]
    · cases h
  · rename_i x y
    cases hx; cases hy
    simp only [eqGuard_at_string, Sem.run_bind, Sem.run_pure, Result.andThen_ok]
    split at h
    · split at h
      · rename_i hk
        simp only [Bool.and_eq_true] at hk
        have h2 := leaf_inv h
        cases h2
        have hi := strOf_inj (AExp.inK_ok ok ha _ _ hk.1) (AExp.inK_ok ok ha _ _ hk.2)
        refine ⟨ha, _, rfl, fun w => ?_⟩
        have e1 : ((strOf (x.den e)).toList == (strOf (y.den e)).toList) = decide (x.den e = y.den e) := by
          rw [Bool.eq_iff_iff, ← beq_toListBytes, bytes_eq_iff, hi, decide_eq_true_iff]
        simp only [binOp, Op.stringOp, e1, mkAeq_den ok ha, Sem.run_pure]
      · cases h
    · split at h
      · rename_i hk
        simp only [Bool.and_eq_true] at hk
        have h2 := leaf_inv h
        cases h2
        have hi := strOf_inj (AExp.inK_ok ok ha _ _ hk.1) (AExp.inK_ok ok ha _ _ hk.2)
        refine ⟨ha, _, rfl, fun w => ?_⟩
        have e1 : ((strOf (x.den e)).toList == (strOf (y.den e)).toList) = decide (x.den e = y.den e) := by
          rw [Bool.eq_iff_iff, ← beq_toListBytes, bytes_eq_iff, hi, decide_eq_true_iff]
        simp only [binOp, Op.stringOp, e1, mkNot_den, mkAeq_den ok ha, Sem.run_pure]
      · cases h
    · split at h
      · rename_i hk
        have h2 := leaf_inv h
        cases h2
        refine ⟨ha, _, rfl, fun w => ?_⟩
        have hl := inKind_spec hk (addR2_ok (AExp.lenR_ok ok ha x) (AExp.lenR_ok ok ha y))
        have hz : ¬ ((((strOf (x.den e)).size + (strOf (y.den e)).size : Nat) : Int) > IntKind.i64.max) := by
          rw [strOf_size, strOf_size]
          have := hl.2
          push_cast; omega
        simp only [binOp, Op.stringOp, if_neg hz, mkCat_den, strOf_append, Sem.run_pure]
      · cases h
    · cases h
  · rename_i a b
    split at h
    all_goals first | (exfalso; cases h; done) | skip
    all_goals
      rename_i hu
      have h2 := leaf_inv h
      cases h2
    · cases hx; cases hy
      exact ⟨ha, _, rfl, fun w => by rw [eqGuard_at_pointer]; exact run_eql_ptr (eqIn_nn hu w 9999)⟩
    · cases hx; obtain ⟨B, _, rfl⟩ := hy
      exact ⟨ha, _, rfl, fun w => by rw [eqGuard_at_pointer]; exact run_eql_ptr (eqIn_ns hu w 9999 B)⟩
    · cases hy; obtain ⟨A, _, rfl⟩ := hx
      exact ⟨ha, _, rfl, fun w => by rw [eqGuard_at_pointer]; exact run_eql_ptr (eqIn_sn hu w 9999 A)⟩
    · cases hx; cases hy
      exact ⟨ha, _, rfl, fun w => by rw [eqGuard_at_pointer]; exact run_neq_ptr (eqIn_nn hu w 9999)⟩
    · cases hx; obtain ⟨B, _, rfl⟩ := hy
      exact ⟨ha, _, rfl, fun w => by rw [eqGuard_at_pointer]; exact run_neq_ptr (eqIn_ns hu w 9999 B)⟩
    · cases hy; obtain ⟨A, _, rfl⟩ := hx
      exact ⟨ha, _, rfl, fun w => by rw [eqGuard_at_pointer]; exact run_neq_ptr (eqIn_sn hu w 9999 A)⟩
  · cases h

/-! ### Building structs and arrays -/
def sfill (as : Asm) (place : Nat → Option (Nat × Nat)) (cells : List Seg) : List (Nat × SV) → Option (List Seg)
  | [] => some cells
  | (i, v) :: rest =>
    match place i with
    | none => none
    | some (off, size) =>
      if segsLen v.segs = some size then
        match writeSegs as cells off v.segs with
        | some l => sfill as place l rest
        | none => none
      else none

theorem fold_set (off : Nat) : ∀ (vs : List Value) (k : Nat) (cs : Array Value), off + k + vs.length ≤ cs.size →
    ((vs.zipIdx k).foldl (fun (cs : Array Value) (x : Value × Nat) => cs.setIfInBounds (off + x.2) x.1) cs).toList = cs.toList.take (off + k) ++ vs ++ cs.toList.drop (off + k + vs.length)
  | [], k, cs, _ => by simp
  | v :: vs, k, cs, h => by
    simp only [List.length_cons] at h
    rw [List.zipIdx_cons, List.foldl_cons, fold_set off vs (k + 1) _ (by simp; omega)]
    have := list_seg_step cs.toList (off + k) v vs (by simp; omega)
    simp only [Array.toList_setIfInBounds]
    rw [show off + (k + 1) = off + k + 1 by omega, this]
    simp

def PartsD (e : Env) (ρ : Rho) : List (Nat × SV) → List (Nat × Value) → Prop
  | [], vs => vs = []
  | (i, x) :: r, vs => ∃ v vs', vs = (i, v) :: vs' ∧ x.D e ρ v ∧ PartsD e ρ r vs'

theorem sfill_ok {e : Env} (ok : EnvOk e) {as : Asm} (ha : AsmOk e as) {ρ : Rho} {place : Nat → Option (Nat × Nat)} : ∀ {parts : List (Nat × SV)} {vals : List (Nat × Value)} {l l' : List Seg} {cs : Array Value}, PartsD e ρ parts vals → SegsD e ρ l cs.toList → sfill as place l parts = some l' →
    ∃ cs', Instr.fill place cs vals = some cs' ∧ SegsD e ρ l' cs'.toList
  | [], _, l, l', cs, hp, hl, h => by
    cases hp
    simp only [sfill, Option.some.injEq] at h
    subst h
    exact ⟨cs, rfl, hl⟩
  | (i, x) :: r, _, l, l', cs, ⟨v, vs', h1, h2, h3⟩, hl, h => by
    subst h1
    simp only [sfill] at h
    split at h
    · cases h
    · rename_i off size hpl
      split at h
      · rename_i hsz
        split at h
        · rename_i l1 hw
          have hd := SV.segs_D h2
          have hlen := segsLen_eq hd hsz
          have := writeSegs_ok ok ha hl hd hw
          have hfold := fold_set off v.cells.toList 0 cs (by simpa using this.1)
          have hS : SegsD e ρ l1 ((v.cells.zipIdx.foldl (fun (cs : Array Value) (x : Value × Nat) => cs.setIfInBounds (off + x.2) x.1) cs)).toList := by
            rw [← Array.foldl_toList, Array.toList_zipIdx, hfold]
            simpa using this.2
          obtain ⟨cs', hf, hr⟩ := sfill_ok ok ha h3 hS h
          refine ⟨cs', ?_, hr⟩
          have hc : ¬ (v.cells.size ≠ size ∨ off + v.cells.size > cs.size) := by
            have := this.1
            simp only [Array.length_toList] at this hlen
            omega
          simp only [Instr.fill, hpl]
          rw [if_neg (by simpa using hc)]
          exact hf
        · cases h
      · cases h

def evalParts (G : Nat) (tmps : Tm) : List (Nat × Operand) → Option (List (Nat × SV))
  | [] => some []
  | (i, o) :: r => match asSV (seval G tmps o), evalParts G tmps r with
    | some x, some l => some ((i, x) :: l)
    | _, _ => none
theorem evalParts_ok {e : Env} {ρ : Rho} {G : Nat} (hG : Glob G ρ) {tmps : Tm} {a : Act} (ht : TmD e ρ tmps a.tmps.toList) : ∀ {ps : List (Nat × Operand)} {l : List (Nat × SV)}, evalParts G tmps ps = some l →
    PartsD e ρ l (ps.map fun x => (x.1, a.eval x.2))
  | [], l, h => by simp only [evalParts, Option.some.injEq] at h; subst h; rfl
  | (i, o) :: r, l, h => by
    simp only [evalParts] at h
    split at h
    · rename_i x q h1 h2
      cases h
      exact ⟨_, _, rfl, evalSV hG ht h1, evalParts_ok hG ht h2⟩
    · cases h

def places (P : Program) : List Field → Option (List (Nat × Nat))
  | [] => some []
  | f :: r => match P.info? f.type, places P r with
    | some i, some l => some ((f.offset, i.size) :: l)
    | _, _ => none
theorem places_eq {P : Program} : ∀ {fs : List Field} {l : List (Nat × Nat)}, places P fs = some l → fs.mapM (fun f => (P.info? f.type).map fun i => (f.offset, i.size)) = some l
  | [], l, h => by simp only [places, Option.some.injEq] at h; subst h; rfl
  | f :: r, l, h => by
    simp only [places] at h
    split at h
    · rename_i i q h1 h2
      cases h
      simp [h1, places_eq h2]
    · cases h

def sbuild (as : Asm) (P : Program) (t : TypeId) (parts : List (Nat × SV)) : Option (List Seg) :=
  match P.info? t, P.underlying t with
  | some it, some (.array _ e) =>
    match it.zero, P.info? e with
    | some z, some ie => match zeroOf P t it.size z with
      | some l => sfill as (fun i => some (i * ie.size, ie.size)) l parts
      | none => none
    | _, _ => none
  | some it, some (.struct fields) =>
    match it.zero, places P fields.toList with
    | some z, some pl => match zeroOf P t it.size z with
      | some l => sfill as (fun i => pl[i]?) l parts
      | none => none
    | _, _ => none
  | _, _ => none
theorem sbuild_ok {e : Env} (ok : EnvOk e) {as : Asm} (ha : AsmOk e as) {ρ : Rho} {P : Program} {t : TypeId} {parts : List (Nat × SV)} {vals : List (Nat × Value)} {l : List Seg} (hp : PartsD e ρ parts vals) (h : sbuild as P t parts = some l) :
    ∃ cs, P.built t vals = some cs ∧ SegsD e ρ l cs.toList := by
  unfold sbuild at h
  split at h
  · rename_i it n el h1 h2
    split at h
    · rename_i z ie h3 h4
      split at h
      · rename_i q h5
        obtain ⟨cs', hf, hr⟩ := sfill_ok ok ha hp (zeroOf_ok h5) h
        exact ⟨cs', by simp [Program.built, h1, h2, h3, h4, hf], hr⟩
      · cases h
    · cases h
  · rename_i it fields h1 h2
    split at h
    · rename_i z pl h3 h4
      split at h
      · rename_i q h5
        obtain ⟨cs', hf, hr⟩ := sfill_ok ok ha hp (zeroOf_ok h5) h
        refine ⟨cs', ?_, hr⟩
        simp only [Program.built, h1, h2, h3, places_eq h4]
        simpa using hf
      · cases h
    · cases h
  · cases h
end Go.Proofs.YtaijkkkgpgldbaaDoor.Sy
