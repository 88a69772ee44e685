/- A symbolic executor for Go code: heads whose assumptions are found true by the engine itself where it can. -/
import Derived.Test.YtaijkkkgpgldbaaDoorSyLin
namespace Go.Proofs.YtaijkkkgpgldbaaDoor.Sy
noncomputable section
set_option linter.unusedVariables false
set_option linter.unusedSimpArgs false
open Go

/-! ### A text, its letters standing for what was found -/
mutual
def IExp.sbst (aq : Asm) (l : List Asg) : IExp → Option IExp
  | .lit n => some (.lit n)
  | .var k j => some ((getI l k j).getD (.var k j))
  | .bin op k x y => match x.sbst aq l, y.sbst aq l with
    | some x', some y' => some (mkBinR aq op k x' y')
    | _, _ => none
  | .conv k x => (x.sbst aq l).map (mkConv aq k)
  | .len a => (a.sbst aq l).map (mkLen aq)
  | _ => none
def AExp.sbst (aq : Asm) (l : List Asg) : AExp → Option AExp
  | .var k j => some ((getA l k j).getD (.var k j))
  | .cat x y => match x.sbst aq l, y.sbst aq l with
    | some x', some y' => some (mkCat x' y')
    | _, _ => none
  | .sub a i n => match a.sbst aq l, i.sbst aq l, n.sbst aq l with
    | some a', some i', some n' => some (mkPart aq a' i' n')
    | _, _, _ => none
  | .zeros n => (n.sbst aq l).map .zeros
  | .cst c => some (.cst c)
  | .nil => some .nil
  | _ => none
end
def BExp.sbst (aq : Asm) (l : List Asg) : BExp → Option BExp
  | .lit b => some (.lit b)
  | .var j => some ((getB l j).getD (.var j))
  | .eq x y => match x.sbst aq l, y.sbst aq l with
    | some x', some y' => some (mkEq aq x' y')
    | _, _ => none
  | .lt x y => match x.sbst aq l, y.sbst aq l with
    | some x', some y' => some (mkLt aq x' y')
    | _, _ => none
  | .le x y => match x.sbst aq l, y.sbst aq l with
    | some x', some y' => some (mkLe aq x' y')
    | _, _ => none
  | .not x => (x.sbst aq l).map mkNot
  | .aeq x y => match x.sbst aq l, y.sbst aq l with
    | some x', some y' => some (mkAeq aq x' y')
    | _, _ => none
  | _ => none
section sbst
variable {e : Env} (ok : EnvOk e) {aq : Asm} (ha : AsmOk e aq) {l : List Asg}
include ok ha
mutual
theorem IExp.sbst_ok : ∀ (x : IExp) {y : IExp}, x.sbst aq l = some y → x.den (Env.upd e e l) = y.den e
  | .lit n, y, h => by simp only [IExp.sbst, Option.some.injEq] at h; subst h; rfl
  | .var k j, y, h => by
    simp only [IExp.sbst, Option.some.injEq] at h
    subst h
    cases hg : getI l k j with
    | none => exact updI_none hg
    | some x => exact updI hg
  | .bin op k x y, z, h => by
    simp only [IExp.sbst] at h
    split at h
    · rename_i x' y' hx hy
      cases h
      rw [mkBinR_den ok ha, ← IExp.sbst_ok x hx, ← IExp.sbst_ok y hy]; rfl
    · cases h
  | .conv k x, z, h => by
    simp only [IExp.sbst, Option.map_eq_some_iff] at h
    obtain ⟨x', hx, rfl⟩ := h
    rw [mkConv_den ok ha, ← IExp.sbst_ok x hx]; rfl
  | .len a, z, h => by
    simp only [IExp.sbst, Option.map_eq_some_iff] at h
    obtain ⟨a', hx, rfl⟩ := h
    rw [mkLen_den ok ha, ← AExp.sbst_ok a hx]; rfl
  | .sel _ _ _, _, h => by simp [IExp.sbst] at h
  | .fn _ _ _ _, _, h => by simp [IExp.sbst] at h
  | .bit _, _, h => by simp [IExp.sbst] at h
theorem AExp.sbst_ok : ∀ (x : AExp) {y : AExp}, x.sbst aq l = some y → x.den (Env.upd e e l) = y.den e
  | .var k j, y, h => by
    simp only [AExp.sbst, Option.some.injEq] at h
    subst h
    cases hg : getA l k j with
    | none => exact updA_none hg
    | some x => exact updA hg
  | .cat x y, z, h => by
    simp only [AExp.sbst] at h
    split at h
    · rename_i x' y' hx hy
      cases h
      rw [mkCat_den, ← AExp.sbst_ok x hx, ← AExp.sbst_ok y hy]; rfl
    · cases h
  | .sub a i n, z, h => by
    simp only [AExp.sbst] at h
    split at h
    · rename_i a' i' n' h1 h2 h3
      cases h
      rw [mkPart_den ok ha, ← AExp.sbst_ok a h1, ← IExp.sbst_ok i h2, ← IExp.sbst_ok n h3]; rfl
    · cases h
  | .zeros n, z, h => by
    simp only [AExp.sbst, Option.map_eq_some_iff] at h
    obtain ⟨n', hn, rfl⟩ := h
    simp only [AExp.den, IExp.sbst_ok n hn]
  | .cst c, z, h => by simp only [AExp.sbst, Option.some.injEq] at h; subst h; rfl
  | .nil, z, h => by simp only [AExp.sbst, Option.some.injEq] at h; subst h; rfl
  | .upd _ _ _, _, h => by simp [AExp.sbst] at h
  | .one _, _, h => by simp [AExp.sbst] at h
  | .fn _ _ _ _, _, h => by simp [AExp.sbst] at h
end
theorem BExp.sbst_ok : ∀ (x : BExp) {y : BExp}, x.sbst aq l = some y → x.den (Env.upd e e l) = y.den e
  | .lit b, y, h => by simp only [BExp.sbst, Option.some.injEq] at h; subst h; rfl
  | .var j, y, h => by
    simp only [BExp.sbst, Option.some.injEq] at h
    subst h
    cases hg : getB l j with
    | none => exact updB_none hg
    | some x => exact updB hg
  | .eq x y, z, h => by
    simp only [BExp.sbst] at h
    split at h
    · rename_i x' y' hx hy
      cases h
      rw [mkEq_den ok ha, ← IExp.sbst_ok ok ha x hx, ← IExp.sbst_ok ok ha y hy]; rfl
    · cases h
  | .lt x y, z, h => by
    simp only [BExp.sbst] at h
    split at h
    · rename_i x' y' hx hy
      cases h
      rw [mkLt_den ok ha, ← IExp.sbst_ok ok ha x hx, ← IExp.sbst_ok ok ha y hy]; rfl
    · cases h
  | .le x y, z, h => by
    simp only [BExp.sbst] at h
    split at h
    · rename_i x' y' hx hy
      cases h
      rw [mkLe_den ok ha, ← IExp.sbst_ok ok ha x hx, ← IExp.sbst_ok ok ha y hy]; rfl
    · cases h
  | .not x, z, h => by
    simp only [BExp.sbst, Option.map_eq_some_iff] at h
    obtain ⟨x', hx, rfl⟩ := h
    rw [mkNot_den, ← BExp.sbst_ok x hx]; rfl
  | .aeq x y, z, h => by
    simp only [BExp.sbst] at h
    split at h
    · rename_i x' y' hx hy
      cases h
      rw [mkAeq_den ok ha, ← AExp.sbst_ok ok ha x hx, ← AExp.sbst_ok ok ha y hy]; rfl
    · cases h
  | .beq _ _, _, h => by simp [BExp.sbst] at h
  | .and _ _, _, h => by simp [BExp.sbst] at h
  | .fn _ _ _, _, h => by simp [BExp.sbst] at h
/-- Found true. -/
def found1 (aq : Asm) (l : List Asg) (p : BExp × Bool) : Bool := match p.1.sbst aq l with
  | some b => (match decideB aq b with
    | some v => v == p.2
    | none => false)
  | none => false
/-- Found true by sums. -/
def found2 (aq : Asm) (l : List Asg) (p : BExp × Bool) : Bool := match p with
  | (.eq x y, true) => (match x.sbst aq l, y.sbst aq l with
    | some x', some y' => eqLin aq x' y'
    | _, _ => false)
  | _ => false
def found (aq : Asm) (l : List Asg) (p : BExp × Bool) : Bool := found1 aq l p || found2 aq l p
theorem found2_ok {p : BExp × Bool} (h : found2 aq l p = true) : p.1.den (Env.upd e e l) = p.2 := by
  unfold found2 at h
  split at h
  · rename_i x y
    split at h
    · rename_i x' y' hx hy
      have := eqLin_ok ok ha h
      simp only [BExp.den]
      rw [IExp.sbst_ok ok ha x hx, IExp.sbst_ok ok ha y hy, this]
      exact decide_eq_true rfl
    · cases h
  · cases h
theorem found_ok {p : BExp × Bool} (h : found aq l p = true) : p.1.den (Env.upd e e l) = p.2 := by
  rcases Bool.or_eq_true _ _ ▸ h with h | h
  case inr => exact found2_ok ok ha h
  unfold found1 at h
  split at h
  · rename_i b hb
    split at h
    · rename_i v hv
      rw [BExp.sbst_ok ok ha _ hb, decideB_ok ok ha hv]
      exact eq_of_beq h
    · cases h
  · cases h
end sbst
/-- What is left to be shown of a pattern's assumptions: their places. -/
def leftOf (aq : Asm) (l : List Asg) : Nat → Asm → List Nat
  | _, [] => []
  | i, p :: r => cond (found aq l p) (leftOf aq l (i + 1) r) (i :: leftOf aq l (i + 1) r)
theorem leftOf_ok {e : Env} (ok : EnvOk e) {aq : Asm} (ha : AsmOk e aq) {l : List Asg} : ∀ {i : Nat} {as : Asm}, ∀ (j : Nat) p, as[j]? = some p → i + j ∉ leftOf aq l i as → p.1.den (Env.upd e e l) = p.2
  | i, [], j, p, h, _ => by simp at h
  | i, x :: r, j, p, h, hn => by
    simp only [leftOf] at hn
    cases hf : found aq l x with
    | true =>
      rw [hf, cond_true] at hn
      rcases j with _ | j
      · simp only [List.getElem?_cons_zero, Option.some.injEq] at h
        subst h
        exact found_ok ok ha hf
      · exact leftOf_ok ok ha (i := i + 1) j p (by simpa using h) (by rw [show i + 1 + j = i + (j + 1) by omega]; exact hn)
    | false =>
      rw [hf, cond_false] at hn
      rcases j with _ | j
      · exact absurd List.mem_cons_self hn
      · exact leftOf_ok ok ha (i := i + 1) j p (by simpa using h) (by rw [show i + 1 + j = i + (j + 1) by omega]; exact fun hh => hn (List.mem_cons_of_mem _ hh))
inductive GoF where
  | go (q : Key) (l : List Asg) (left : List Nat)
  | done (v : SVal) (st : St)
  | bad
def doneOfF (P : Program) (G k : Nat) (rs : List ResultVar) (x : XE) (tm : Tm) (st : St) : GoF := match retF P G k rs (x, tm, st) with
  | .leaf q => .done q.1 ⟨q.2.h, []⟩
  | _ => .bad
def tryFitF (G N base ov : Nat) (q : Path) (tm : Tm) (st : St) : Pats → GoF
  | [] => .bad
  | (k, p) :: r => cond (decide (k.1 = q))
    (match mtAll N base ⟨roNone ov p.h, p.n, p.tm, p.as⟩ tm st with
    | (pp, l) => cond (fitAll N G pp l p.tms tm (roNone ov p.h) st && decide (pp.take base = List.range base)) (.go k l (leftOf st.as l 0 p.as)) (tryFitF G N base ov q tm st r))
    (tryFitF G N base ov q tm st r)
def goOfF (P : Program) (G N base ov : Nat) (rs : List ResultVar) (pats : Pats) : Out → GoF
  | .cut q tm st => tryFitF G N base ov q tm st pats
  | .fin x tm st => doneOfF P G base rs x tm st
theorem tryFitF_ok {G N base ov : Nat} {q : Path} {tm : Tm} {st : St} : ∀ {ps : Pats}, tryFitF G N base ov q tm st ps = .bad ∨ ∃ k p pp l, (k, p) ∈ ps ∧ k.1 = q ∧ fitAll N G pp l p.tms tm (roNone ov p.h) st = true ∧ pp.take base = List.range base ∧ tryFitF G N base ov q tm st ps = .go k l (leftOf st.as l 0 p.as)
  | [] => .inl rfl
  | (k, p) :: r => by
    have ih := tryFitF_ok (G := G) (N := N) (base := base) (ov := ov) (q := q) (tm := tm) (st := st) (ps := r)
    have later : tryFitF G N base ov q tm st r = .bad ∨ ∃ k' p' pp l, (k', p') ∈ (k, p) :: r ∧ k'.1 = q ∧ fitAll N G pp l p'.tms tm (roNone ov p'.h) st = true ∧ pp.take base = List.range base ∧ tryFitF G N base ov q tm st r = .go k' l (leftOf st.as l 0 p'.as) := by
      rcases ih with h | ⟨k', p', pp, l, h1, h2⟩
      · exact .inl h
      · exact .inr ⟨k', p', pp, l, List.mem_cons_of_mem _ h1, h2⟩
    simp only [tryFitF]
    by_cases hq : k.1 = q
    · rw [show decide (k.1 = q) = true from decide_eq_true hq, cond_true]
      cases hc : (fitAll N G (mtAll N base ⟨roNone ov p.h, p.n, p.tm, p.as⟩ tm st).1 (mtAll N base ⟨roNone ov p.h, p.n, p.tm, p.as⟩ tm st).2 p.tms tm (roNone ov p.h) st && decide ((mtAll N base ⟨roNone ov p.h, p.n, p.tm, p.as⟩ tm st).1.take base = List.range base)) with
      | true =>
        have hc' := hc
        simp only [Bool.and_eq_true, decide_eq_true_eq] at hc'
        rw [cond_true]
        exact .inr ⟨k, p, _, _, List.mem_cons_self, hq, hc'.1, hc'.2, rfl⟩
      | false => rw [cond_false]; exact later
    · rw [show decide (k.1 = q) = false from decide_eq_false hq, cond_false]
      exact later

theorem doneF_ok {P : Program} {G ov ro : Nat} {e : Env} (ok : EnvOk e) {fn : Func} {x : XE} {tm : Tm} {st : St} {v : SVal} {st' : St} {ρ0 ρ : Rho} {W0 W : World} {a : Act} (hfl : e.fx.length ≤ ρ0.length) (hd : doneOfF P G ρ0.length fn.results.toList x tm st = .done v st')
    (hp : Post e ov ro ρ0 W0 ρ st.h W) (hR : Rl e G ov ρ tm st a W) {R : Ending → World → Prop} (hRR : ∀ ρ' V, Post e ov ro ρ0 W0 ρ' st'.h W → v.D e ρ' V → R (.returned V) W) : bodyPost P fn R x.to a W := by
  have key : ∀ (q : WT (SVal × St)) (st1 : St), st'.h = st1.h → (q = match sresults P G tm st.as st.h fn.results.toList with
        | some [x] => .leaf (cutOut ρ0.length (.v x, st))
        | some l => .leaf (cutOut ρ0.length (.tup l, st))
        | none => .stop) → q = .leaf (v, st1) →
      a.defers = [] ∧ ∃ V, (results fn a.tmps).run P W = .ok V W ∧ R (.returned V) W := by
    intro q st1 hh hq hz
    subst hz
    refine ⟨hR.df, ?_⟩
    rw [hh] at hRR
    split at hq
    · rename_i y hy
      obtain ⟨ws, hws, hrun⟩ := results_ok ok hR.gl hR.as hR.hr hR.tm hy
      obtain ⟨V, _, rfl, hV, rfl⟩ := hws
      have hq := WT.leaf.inj hq
      obtain ⟨ρ'', hp2, hV2, has2⟩ := cutOut_ok (h0 := List.replicate ρ0.length none) (v := .v y) (by simp) hp hV hR.as hfl
      rw [List.length_replicate, ← hq] at hp2 hV2 has2
      exact ⟨V, by simpa using hrun, hRR ρ'' V hp2 hV2⟩
    · rename_i l hne hl
      obtain ⟨ws, hws, hrun⟩ := results_ok ok hR.gl hR.as hR.hr hR.tm hl
      have hl1 : ws.toArray.size ≠ 1 := by
        intro hh
        have : ws.length = 1 := by simpa using hh
        obtain ⟨w0, rfl⟩ := List.length_eq_one_iff.1 this
        cases l with
        | nil => cases hws
        | cons y r =>
          obtain ⟨v0, vs0, he, _, hrest⟩ := hws
          simp only [List.cons.injEq] at he
          obtain ⟨rfl, rfl⟩ := he
          cases r with
          | nil => exact hne y rfl
          | cons z r => obtain ⟨_, _, he, _⟩ := hrest; cases he
      rw [dif_neg hl1] at hrun
      have hq := WT.leaf.inj hq
      obtain ⟨ρ'', hp2, hV2, has2⟩ := cutOut_ok (h0 := List.replicate ρ0.length none) (v := .tup l) (V := .tuple ws.toArray) (by simp) hp ⟨ws, rfl, hws⟩ hR.as hfl
      rw [List.length_replicate, ← hq] at hp2 hV2 has2
      exact ⟨_, hrun, hRR ρ'' _ hp2 hV2⟩
    · cases hq
  unfold doneOfF at hd
  cases x with
  | exit id => simp [retF, withP_eq, withSt_eq] at hd
  | normal =>
    simp only [retF, withP_eq, withSt_eq] at hd
    split at hd
    · rename_i q hq
      obtain ⟨v1, s1⟩ := q
      cases hd
      exact key _ s1 rfl rfl hq
    · cases hd
  | ret =>
    simp only [retF, withP_eq, withSt_eq] at hd
    split at hd
    · rename_i q hq
      obtain ⟨v1, s1⟩ := q
      cases hd
      exact key _ s1 rfl rfl hq
    · cases hd

def startTF (P : Program) (G : Nat) (plan : Plan) (tab : Tab) (n N f ov : Nat) (fn : Func) (body : Code) (pats : Pats) (args : List SVal) (st : St) (ro : Nat := ov) : WT GoF :=
  (kCode P G plan tab n (plan.at f) ro (cutsOf pats) n [] body [] (firstTm fn args) st).map (goOfF P G N st.h.length ov fn.results.toList pats)
def headTF (P : Program) (G : Nat) (plan : Plan) (tab : Tab) (n N f ov base : Nat) (fn : Func) (body : Code) (pats : Pats) (q : Key) (ro : Nat := ov) : WT GoF := match patAt pats q, placeOf body q.1 with
  | some p, (.loop b, k) => (kCode P G plan tab n (plan.at f) ro (cutsOf pats) n (q.1 ++ [false]) b (.loop q.1 b :: k) p.tms p.st).map (goOfF P G N base ov fn.results.toList pats)
  | _, _ => .stop
/-- What is owed at each end of a walk. -/
def OwedF (N NE sv ov : Nat) (ρ0 : Rho) (W0 : World) (pats : Pats) (inv : Inv) (D : Env → SVal → St → Prop) (e : Env) (m : Option Nat) : GoF → Prop
  | .go q l left => EnvOk (Env.upd e e l) → Agree N e (Env.upd e e l) → (∀ p, patAt pats q = some p → ∀ (j : Nat) x, p.as[j]? = some x → j ∉ left → x.1.den (Env.upd e e l) = x.2) → ∃ e' ρb q' p', EnvOk e' ∧ Agree NE (Env.upd e e l) e' ∧ Base sv ov ρ0 ρb ∧ q'.1 = q.1 ∧ patAt pats q' = some p' ∧ (∀ p, patAt pats q = some p → p'.tm = p.tm ∧ p'.n = p.n ∧ roNone ov p'.h = roNone ov p.h) ∧ AsmOk e' p'.as ∧ RoOk e' ov ρ0 ρb W0 p'.h ∧ inv.I q' e' ∧ (∀ m', m = some m' → inv.μ q' e' < m')
  | .done v st => D e v st
  | .bad => False

theorem cfgF {P : Program} {G ov : Nat} {plan : Plan} {tab : Tab} {n N NE sv f ro base : Nat} {fn : Func} {body : Code} {pats : Pats} {args : List SVal} {vs : List Value} {st : St} {e0 : Env} {ρ0 : Rho} {W0 : World} {R : Ending → World → Prop}
    (inv : Inv) (D : Env → SVal → St → Prop)
    (hmix : P.follows .mixedOrders = true) (hplan : planB P P.funcs.toList plan.sch = true) (hltn : plan.lt f = fun _ => none) (hlt : ∀ e, EnvOk e → Agree N e0 e → LtOk P G ov e plan) (htab : ∀ e, EnvOk e → Agree N e0 e → TabOk P G ov tab e)
    (hbs : st.h.length = base) (hf : P.funcs[f]? = some fn) (hb : fn.body = some body) (ok0 : EnvOk e0) (hargs : SValsD e0 ρ0 args vs) (has : AsmOk e0 st.as) (hr : HRel e0 ov ρ0 st.h W0) (hg : Glob G ρ0) (hov : ov ≤ ro) (hov2 : ov ≤ ρ0.length)
    (hN : N ≤ NE) (hGs : G ≤ sv) (hsv : sv ≤ ov) (hfine : ∀ k p, (k, p) ∈ pats → patFine NE sv ov p = true)
    (hstart : (startTF P G plan tab n N f ov fn body pats args st ro).holds e0 (OwedF N NE sv ov ρ0 W0 pats inv D e0 none))
    (hheads : ∀ q, q ∈ pats.map (·.1) → ∀ e, EnvOk e → Agree N e0 e → (∀ p, patAt pats q = some p → AsmOk e p.as) → inv.I q e → (headTF P G plan tab n N f ov base fn body pats q ro).holds e (OwedF N NE sv ov ρ0 W0 pats inv D e (some (inv.μ q e))))
    (hnd : ∀ k p, (k, p) ∈ pats → patAt pats k = some p)
    (hdone : ∀ e v st', EnvOk e → Agree N e0 e → D e v st' → ∀ ρb, Base sv ov ρ0 ρb → ∀ ρ' V W', Post e ov ro ρb W0 ρ' st'.h W' → v.D e ρ' V → R (.returned V) W') (hfx : e0.fx.length ≤ sv) : Calls P f vs.toArray W0 R := by
  subst hbs
  refine calls_of_wp hf hb ?_
  have hlen := hargs.length
  have hbase : st.h.length = ρ0.length := hr.len
  have good : ∀ e, GoodC P G ov e (plan.at f) body := fun e => ⟨planB_get hplan (by simpa using hf) hb, LtAll.none (fun id => by show plan.lt f id = none; rw [hltn]) _⟩
  have mem_of : ∀ {ps : Pats} {q : Key} {p : Pat}, patAt ps q = some p → (q, p) ∈ ps := by
    intro ps
    induction ps with
    | nil => intro q p h; cases h
    | cons x r ih =>
      intro q p h
      obtain ⟨y, z⟩ := x
      simp only [patAt] at h
      by_cases hq : y = q
      · subst hq
        rw [show decide (y = y) = true from decide_eq_true rfl, cond_true] at h
        cases h
        exact List.mem_cons_self
      · rw [show decide (y = q) = false from decide_eq_false hq] at h
        exact List.mem_cons_of_mem _ (ih h)
  -- the ends of a walk
  have ends : ∀ (m : Option Nat) (ihm : ∀ q e' ρb ρ' a' W', (∀ m', m = some m' → inv.μ q e' < m') → EnvOk e' → Agree N e0 e' → inv.I q e' → ∀ p, patAt pats q = some p → AsmOk e' p.as → Base sv ov ρ0 ρb → Since ro ρb W0 ρ' W' → Rl e' G ov ρ' p.tms p.st a' W' → OutOk P body (bodyPost P fn R) (.cut q.1 p.tms p.st) a' W')
      (e : Env) (ok : EnvOk e) (g : Agree N e0 e) (ρb ρ : Rho) (W : World), Base sv ov ρ0 ρb → Since ro ρb W0 ρ W → OutsOk P G ov ro e body (bodyPost P fn R) (fun o => OwedF N NE sv ov ρ0 W0 pats inv D e m (goOfF P G N st.h.length ov fn.results.toList pats o)) ρ W := by
    intro m ihm e ok g ρb ρ W hbb hs o hz ρ' a' W' hp hR'
    have hs' := hs.step hp
    have hbl : st.h.length = ρb.length := hbase.trans hbb.len.symm
    cases o with
    | fin x tm' st' =>
      simp only [goOfF] at hz
      cases hd : doneOfF P G st.h.length fn.results.toList x tm' st' with
      | go q l left =>
        exfalso
        unfold doneOfF at hd
        split at hd <;> cases hd
      | bad => rw [hd] at hz; exact hz.elim
      | done v st1 =>
        rw [hd] at hz
        rw [hbl] at hd
        exact doneF_ok ok (by rw [g.fx, hbb.len]; exact hr.old.len) hd ⟨hs'.pre, hs'.new, hR'.hr, hs'.fr⟩ hR' fun ρ'' V hp2 hV => hdone e v st1 ok g hz ρb hbb ρ'' V W' hp2 hV
    | cut q tm' st' =>
      simp only [goOfF] at hz
      rcases tryFitF_ok (G := G) (N := N) (base := st.h.length) (ov := ov) (q := q) (tm := tm') (st := st') (ps := pats) with hbad | ⟨k, p, pp, l, hmem, hkq, hfit, htake, hgo⟩
      · rw [hbad] at hz; exact hz.elim
      · rw [hgo] at hz
        simp only [OwedF] at hz
        have hpk : patAt pats k = some p := hnd k p hmem
        subst hkq
        have fit := fitAll_ok hfit
        obtain ⟨e', ρb', k', p', ok', hag, hbb', hkk, hpk', hcore, has', hro', hz2, hz3⟩ := hz (Env.upd_ok ok ok hR'.as fit.oks) (Env.upd_agree fit.lets) (fun p2 hp2 j x hx hn => by rw [hpk] at hp2; cases hp2; exact leftOf_ok (i := 0) ok hR'.as j x hx (by rw [Nat.zero_add]; exact hn))
        obtain ⟨hc1, hc2, hc3⟩ := hcore p hpk
        have hov3 : pp.take ov = List.range ov := by
          have := congrArg (List.take ov) htake
          rw [List.take_take, Nat.min_eq_left (by omega)] at this
          rw [this, List.take_range, Nat.min_eq_left (by omega)]
        have hRl := fit.rl (Agree.refl N e) hR' hov3 (AsmOk.nil _)
        have htms : p.tms = p'.tms := by simp only [Pat.tms, hc1, hc2]
        rw [htms, ← hc3] at hRl
        have hs2 : Since ro ρb W0 (pickRho ρ' pp) W' := hs'.pick (by rw [← hbl]; exact htake) fit.inj (by
          have h1 := fit.lt
          have h2 := hR'.hr.len
          simp only [Out.st, Out.tm] at h2
          rw [← h2]; exact h1)
        have hagu : Agree N e (Env.upd e e l) := Env.upd_agree fit.lets
        have hmem' := mem_of hpk'
        have hfn := hfine _ _ hmem'
        simp only [patFine, Bool.and_eq_true] at hfn
        obtain ⟨hf1, hf2⟩ := hfn
        generalize pickRho ρ' pp = ρ1 at hRl hs2
        generalize Env.upd e e l = E1 at hRl hag hagu
        obtain ⟨ρx, rfl⟩ := hs2.pre
        have hlb : ρb'.length = ρb.length := hbb'.len.trans hbb.len.symm
        have hgetlow : ∀ b, (Nat.blt b sv || Nat.ble ov b) = true → (ρb' ++ ρx)[b]? = (ρb ++ ρx)[b]? := by
          intro b hb
          simp only [Bool.or_eq_true] at hb
          rcases Nat.lt_or_ge b ρb.length with hlt | hge
          · rw [List.getElem?_append_left (by omega), List.getElem?_append_left hlt]
            rcases hb with hb | hb
            · have hb := Nat.le_of_ble_eq_true hb
              have h1 := congrArg (fun l => l[b]?) (hbb'.stay.trans hbb.stay.symm)
              simpa [List.getElem?_take_of_lt (show b < sv from hb)] using h1
            · have hb := Nat.le_of_ble_eq_true hb
              have h1 := congrArg (fun l => l[b - ov]?) (hbb'.rest.trans hbb.rest.symm)
              simp only [List.getElem?_drop] at h1
              rwa [show ov + (b - ov) = b by omega] at h1
          · rw [List.getElem?_append_right (by omega), List.getElem?_append_right hge, hlb]
        have hdrop : ρb'.drop ro = ρb.drop ro := by
          have h1 := congrArg (List.drop (ro - ov)) (hbb'.rest.trans hbb.rest.symm)
          simp only [List.drop_drop] at h1
          rwa [show ov + (ro - ov) = ro by omega] at h1
        have hs3 : Since ro ρb' W0 (ρb' ++ ρx) W' := by
          refine ⟨⟨ρx, rfl⟩, fun x hx => ?_, ⟨hs2.fr.os, hs2.fr.tape, hs2.fr.output, hs2.fr.size, fun k hk hn => hs2.fr.same k hk (by rw [← hdrop]; exact hn)⟩⟩
          rw [List.drop_left] at hx
          rw [hdrop]
          exact hs2.new x (by rw [List.drop_left]; exact hx)
        have hrl : Rl e' G ov (ρb' ++ ρx) p'.tms p'.st a' W' := by
          have hlen1 := hRl.hr.len
          simp only [roNone_len] at hlen1
          refine ⟨⟨hRl.tm.1, fun t => ?_⟩, hRl.df, has', ⟨?_, ?_, ?_, ⟨?_, ?_, ?_, ?_, ?_⟩⟩, fun q hq => ?_⟩
          · have h1 := hRl.tm.2 t
            show SVal.D _ _ (tmFind true p'.tm t) _
            rcases tmFind_mem (l := p'.tm) (t := t) with hm | hm
            · rw [hm]; trivial
            · exact SVal.conv hag hgetlow (List.all_eq_true.1 hf1 _ hm) h1
          · show p'.h.length = _
            rw [hlen1, List.length_append, List.length_append, hlb]
          · intro i j b c hi hj hbi hcj hij hovv
            have ro_ne : ∀ i j (b c : Nat × Nat × Nat), i < ov → ov ≤ j → live p'.h i → live p'.h j → (ρb' ++ ρx)[i]? = some b → (ρb' ++ ρx)[j]? = some c → b.1 ≠ c.1 := by
              intro i j b c hi hj hli hlj hb hc
              obtain ⟨⟨l1, t1⟩, h1⟩ := hli
              obtain ⟨b1, o1, r1, vs1, g1, g2, _, g4⟩ := hro' i l1 t1 hi h1
              have hil : i < ρb'.length := (List.getElem?_eq_some_iff.1 g1).1
              rw [List.getElem?_append_left hil, g1] at hb
              cases hb
              have hlt1 := g2.lt
              simp only
              rcases Nat.lt_or_ge j ρb'.length with hjl | hjl
              · rw [List.getElem?_append_left hjl] at hc
                have h2 := congrArg (fun l => l[j - ov]?) hbb'.rest
                simp only [List.getElem?_drop] at h2
                rw [show ov + (j - ov) = j by omega, hc] at h2
                have h3 : c ∈ ρ0.drop ov := List.mem_of_getElem? (i := j - ov) (by rw [List.getElem?_drop, show ov + (j - ov) = j by omega]; exact h2.symm)
                exact fun hh => g4 c h3 hh.symm
              · rw [List.getElem?_append_right hjl] at hc
                have h2 := hs3.new c (by rw [List.drop_left]; exact List.mem_of_getElem? hc)
                rcases h2 with h2 | ⟨o2, h2⟩
                · omega
                · have h3 : (c.1, o2) ∈ ρ0.drop ov := by
                    rw [← hbb'.rest]; exact mem_lower hov h2
                  exact fun hh => g4 _ h3 hh.symm
            have liv : ∀ {i}, ov ≤ i → live p'.h i → live (roNone ov p'.h) i := by
              rintro i hi ⟨s, hs⟩
              exact ⟨s, by rw [roNone_get, if_neg (by omega)]; exact hs⟩
            rcases Nat.lt_or_ge i ov with hio | hio
            · rcases Nat.lt_or_ge j ov with hjo | hjo
              · omega
              · exact ro_ne i j b c hio hjo hi hj hbi hcj
            · rcases Nat.lt_or_ge j ov with hjo | hjo
              · exact fun hh => ro_ne j i c b hjo hio hj hi hcj hbi hh.symm
              · rw [hgetlow i (by simp [hio])] at hbi
                rw [hgetlow j (by simp [hjo])] at hcj
                exact hRl.hr.apart i j b c (liv hio hi) (liv hjo hj) hbi hcj hij hovv
          · intro i l1 t1 hi
            have hi : p'.h[i]? = some (some (l1, t1)) := hi
            rcases Nat.lt_or_ge i ov with hio | hio
            · obtain ⟨b1, o1, r1, vs1, g1, g2, g3, g4⟩ := hro' i l1 t1 hio hi
              have hil : i < ρb'.length := (List.getElem?_eq_some_iff.1 g1).1
              refine ⟨b1, o1, r1, vs1, by rw [List.getElem?_append_left hil]; exact g1, ?_, SegsD.mono ⟨ρx, rfl⟩ g3⟩
              refine (g2.same (hs3.fr.same b1 g2.lt ?_)).weak (fun q => by omega)
              rintro ⟨o2, h2⟩
              have h3 : (b1, o2) ∈ ρ0.drop ov := by rw [← hbb'.rest]; exact mem_lower hov h2
              exact g4 _ h3 rfl
            · obtain ⟨b1, o1, r1, vs1, g1, g2, g3⟩ := hRl.hr.blk i l1 t1 (by rw [roNone_get, if_neg (by omega)]; exact hi)
              refine ⟨b1, o1, r1, vs1, by rw [hgetlow i (by simp [hio])]; exact g1, g2, Segs.conv hag hgetlow ?_ g3⟩
              have h1 : some (l1, t1) ∈ p'.h.drop ov := List.mem_of_getElem? (i := i - ov) (by rw [List.getElem?_drop, show ov + (i - ov) = i by omega]; exact hi)
              exact List.all_eq_true.1 hf2 _ h1
          · intro i x hx
            rw [hag.fx] at hx
            rw [hgetlow i (by
              have h1 := (List.getElem?_eq_some_iff.1 hx).1
              have h2 : E1.fx = e0.fx := by rw [hagu.fx, g.fx]
              rw [h2] at h1
              have : Nat.blt i sv = true := Nat.ble_eq_true_of_le (by omega)
              simp [this])]
            exact hRl.hr.old.fx i x hx
          · rw [hag.fx]; exact hRl.hr.old.fl
          · rw [hag.base]; exact hRl.hr.old.size
          · intro k hk
            rw [hag.base] at hk
            rw [hag.h0]; exact hRl.hr.old.same k hk
          · intro b hb
            rw [hag.base]
            refine hRl.hr.old.own b ?_
            rw [List.drop_append] at hb ⊢
            have h1 : ρb'.drop ov = ρb.drop ov := hbb'.rest.trans hbb.rest.symm
            rw [h1, hlb] at hb
            exact hb
          · rw [hgetlow q (by have : Nat.blt q sv = true := Nat.ble_eq_true_of_le (by omega); simp [this])]
            exact hRl.gl q hq
        have hago : Agree N E1 e' := ⟨fun k j hj => hag.i k j (by omega), fun j hj => hag.b j (by omega), fun k j hj => hag.a k j (by omega), hag.fi, hag.fb, hag.fa, hag.v, hag.base, hag.h0, hag.fx⟩
        rw [← hkk]
        have := ihm k' e' ρb' _ a' W' hz3 ok' ((g.trans hagu).trans hago) hz2 p' hpk' has' hbb' hs3 hrl
        exact this
  -- heads
  have heads : ∀ m q e ρb ρ a W, inv.μ q e = m → EnvOk e → Agree N e0 e → inv.I q e → ∀ p, patAt pats q = some p → AsmOk e p.as → Base sv ov ρ0 ρb → Since ro ρb W0 ρ W → Rl e G ov ρ p.tms p.st a W → OutOk P body (bodyPost P fn R) (.cut q.1 p.tms p.st) a W := by
    intro m
    induction m using Nat.strongRecOn with
    | _ m ih =>
      intro q e ρb ρ a W hm ok g hI p hpq hasp hbb hs hR
      have hq : q ∈ pats.map (·.1) := List.mem_map.2 ⟨_, mem_of hpq, rfl⟩
      have hh := hheads q hq e ok g (fun p' hp' => by rw [hpq] at hp'; cases hp'; exact hasp) hI
      unfold headTF at hh
      rw [hpq] at hh
      split at hh
      · rename_i p2 b k he1 heq
        cases he1
        refine ⟨b, k, heq, head_step ?_⟩
        have hpl := place_ok (good e) q.1
        rw [heq] at hpl
        have h1 := place_step heq (by simp) false
        have hw := (k_sound (Q := bodyPost P fn R) (pl := plan.at f) (cuts := cutsOf pats) (body := body) ok (sound ok hmix hplan (hlt e ok g) (htab e ok g) n).1 hov n).1 (q.1 ++ [false]) b (.loop q.1 b :: k) _ _ _
          (by simpa [goTo] using h1) hpl.1 ⟨heq, hpl.1, hpl.2⟩ (WT.holds_of_map hh) ρ a W hR (ends (some (inv.μ q e)) (fun q' e' ρb' ρ' a' W' hlt' ok' g' hI' p' hp' has' hb' hs' hR' => ih _ (by rw [← hm]; exact hlt' _ rfl) q' e' ρb' ρ' a' W' rfl ok' g' hI' p' hp' has' hb' hs' hR') e ok g ρb ρ W hbb hs)
        exact hw
      · exact hh.elim
  have ht : TmD e0 ρ0 (firstTm fn args) (vs.toArray ++ Array.replicate (fn.ntmps - vs.toArray.size) undef).toList := by
    rw [Array.toList_append, Array.toList_replicate, List.size_toArray]
    have := TmD.init hargs (fn.ntmps - vs.length)
    unfold firstTm
    rwa [hlen] at this ⊢
  have hw := (k_sound (Q := bodyPost P fn R) (pl := plan.at f) (cuts := cutsOf pats) (body := body) ok0 (sound ok0 hmix hplan (hlt e0 ok0 (Agree.refl _ _)) (htab e0 ok0 (Agree.refl _ _)) n).1 hov n).1 [] body [] _ _ _ rfl (good e0) trivial (WT.holds_of_map hstart) ρ0 { tmps := vs.toArray ++ Array.replicate (fn.ntmps - vs.toArray.size) undef, defers := [] } W0
    ⟨ht, rfl, has, hr, hg⟩ (ends none (fun q' e' ρb' ρ' a' W' _ ok' g' hI' p' hp' has' hb' hs' hR' => heads _ q' e' ρb' ρ' a' W' rfl ok' g' hI' p' hp' has' hb' hs' hR') e0 ok0 (Agree.refl _ _) ρ0 ρ0 W0 (Base.refl _ _ _) (Since.refl _ _ _))
  exact hw

end
end Go.Proofs.YtaijkkkgpgldbaaDoor.Sy
