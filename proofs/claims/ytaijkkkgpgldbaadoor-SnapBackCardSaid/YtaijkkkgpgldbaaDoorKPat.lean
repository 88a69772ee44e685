/- Contracts by patterns: a function with loops that answers one value, run over a pattern of its arguments and of blocks; of the blocks that it may write nothing is known behind it. -/
import Derived.Test.YtaijkkkgpgldbaaDoorKFr5
import Derived.Test.YtaijkkkgpgldbaaDoorKBut
namespace Go.Proofs.YtaijkkkgpgldbaaDoor.K
open Go Sy
set_option maxRecDepth 100000
set_option linter.unusedVariables false
set_option linter.unusedSimpArgs false
/-! ### Heads whose assumptions the engine finds true with all that it knows -/
def Owed1F (pats : Pats) (inv : Inv) (D : Env → SVal → St → Prop) (e : Env) (m : Option Nat) : GoF → Prop
  | .go q l left => (∃ p, patAt pats q = some p) ∧ left = [] ∧ (EnvOk (Env.upd e e l) → inv.I q (Env.upd e e l) ∧ (∀ m', m = some m' → inv.μ q (Env.upd e e l) < m'))
  | .done v st => D e v st
  | .bad => False
theorem cfg1F {P : Program} {G ov : Nat} {plan : Plan} {tab : Tab} {n N f ro base : Nat} {fn : Func} {body : Code} {pats : Pats} {args : List SVal} {vs : List Value} {st : St} {e0 : Env} {ρ0 : Rho} {W0 : World} {R : Ending → World → Prop}
    (inv : Inv) (D : Env → SVal → St → Prop)
    (hmix : P.follows .mixedOrders = true) (hplan : planB P P.funcs.toList plan.sch = true) (hltn : plan.lt f = fun _ => none) (hlt : ∀ e, EnvOk e → Agree N e0 e → LtOk P G ov e plan) (htab : ∀ e, EnvOk e → Agree N e0 e → TabOk P G ov tab e)
    (hbs : st.h.length = base) (hf : P.funcs[f]? = some fn) (hb : fn.body = some body) (ok0 : EnvOk e0) (hargs : SValsD e0 ρ0 args vs) (has : AsmOk e0 st.as) (hr : HRel e0 ov ρ0 st.h W0) (hg : Glob G ρ0) (hov : ov ≤ ro) (hov2 : ov ≤ ρ0.length)
    (hGs : G ≤ ov) (hN : N ≤ 1000000000) (hplain : plainB N ov st.h pats = true)
    (hstart : (startTF P G plan tab n N f ov fn body pats args st ro).holds e0 (Owed1F pats inv D e0 none))
    (hheads : ∀ q, q ∈ pats.map (·.1) → ∀ e, EnvOk e → Agree N e0 e → (∀ p, patAt pats q = some p → AsmOk e p.as) → inv.I q e → (headTF P G plan tab n N f ov base fn body pats q ro).holds e (Owed1F pats inv D e (some (inv.μ q e))))
    (hnd : ∀ k p, (k, p) ∈ pats → patAt pats k = some p)
    (hdone : ∀ e v st', EnvOk e → Agree N e0 e → D e v st' → ∀ ρ' V W', Post e ov ro ρ0 W0 ρ' st'.h W' → v.D e ρ' V → R (.returned V) W') : Calls P f vs.toArray W0 R := by
  simp only [plainB, Bool.and_eq_true, List.all_eq_true] at hplain
  obtain ⟨hlive, hpl⟩ := hplain
  have up : ∀ (e : Env) (g : Agree N e0 e) (m : Option Nat) (o : GoF), Owed1F pats inv D e m o → OwedF N 1000000000 ov ov ρ0 W0 pats inv D e m o := by
    intro e g m o ho
    cases o with
    | bad => exact ho
    | done v st => exact ho
    | go q l left =>
      obtain ⟨h0, h1, h23⟩ := ho
      intro ok' hag hall
      obtain ⟨h2, h3⟩ := h23 ok'
      obtain ⟨p, hp⟩ := h0
      have hA : AsmOk (Env.upd e e l) p.as := by
        intro x hx
        obtain ⟨j, hj⟩ := List.mem_iff_getElem?.1 hx
        exact hall p hp j x hj (by rw [h1]; simp)
      refine ⟨Env.upd e e l, ρ0, q, p, ok', Agree.refl _ _, Base.refl _ _ _, rfl, hp, fun p2 hp2 => by rw [hp] at hp2; cases hp2; exact ⟨rfl, rfl, rfl⟩, hA, ?_, h2, h3⟩
      intro i l1 t1 hi hl
      have hp2 := (hpl _ (patAt_mem' hp)).1
      have hl' : (p.h.take ov)[i]? = some (some (l1, t1)) := by rw [List.getElem?_take_of_lt hi]; exact hl
      obtain ⟨hfine, t', ht'⟩ := roPlain_get hp2 hl'
      rw [List.getElem?_take_of_lt hi] at ht'
      obtain ⟨b, o, r, vs, g1, g2, g3⟩ := hr.blk i l1 t' ht'
      refine ⟨b, o, r, vs, g1, g2.weak (fun q => q.elim), Segs.conv (g.trans hag) (fun b _ => rfl) hfine g3, fun x hx => ?_⟩
      obtain ⟨j, hj⟩ := List.mem_iff_getElem?.1 hx
      rw [List.getElem?_drop] at hj
      have hjl : ov + j < st.h.length := by rw [hr.len]; exact (List.getElem?_eq_some_iff.1 hj).1
      have hlv : live st.h (ov + j) := by
        have := hlive _ (List.mem_of_getElem? (i := j) (by rw [List.getElem?_drop, List.getElem?_eq_getElem hjl]))
        obtain ⟨s, hs⟩ := Option.isSome_iff_exists.1 this
        exact ⟨s, by rw [List.getElem?_eq_getElem hjl, hs]⟩
      exact fun hh => hr.apart i (ov + j) _ _ ⟨_, ht'⟩ hlv g1 hj (by omega) (.inr (by omega)) hh.symm
  refine cfgF (NE := 1000000000) (sv := ov) inv D hmix hplan hltn hlt htab hbs hf hb ok0 hargs has hr hg hov hov2 hN hGs (Nat.le_refl _) (fun k p hm => (hpl _ hm).2) (WT.holds_mono (fun o ho => up e0 (Agree.refl _ _) none o ho) hstart)
    (fun q hq e ok g ha hI => WT.holds_mono (fun o ho => up e g _ o ho) (hheads q hq e ok g ha hI)) hnd (fun e v st' ok g hd ρb hbb ρ' V W' hp hV => ?_) hr.old.fl
  have : ρb = ρ0 := by
    have h1 := List.take_append_drop ov ρb
    rw [hbb.stay, hbb.rest, List.take_append_drop] at h1
    exact h1.symm
  subst this
  exact hdone e v st' ok g hd ρ' V W' hp hV
def leafOkF (rs : List Sh) (pats : Pats) (rk : Key → Nat) (mu : Key → IExp) (chk : LExp → Bool) (bs : Asm) (m : Option (Nat × IExp)) : GoF → Bool
  | .go q l left => left.isEmpty && (patAt pats q).isSome && (match m with
    | some (r, y) => Nat.blt (rk q) r || (Nat.beq (rk q) r && (match (mu q).sbst bs l with
      | some x => nnI bs x && knowsLt bs x y
      | none => false))
    | none => true)
  | .done v st => match resL rs (v, ⟨st.h, []⟩) with
    | some L => chk L
    | none => false
  | .bad => false
def okF (rs : List Sh) (pats : Pats) (rk : Key → Nat) (mu : Key → IExp) (chk : LExp → Bool) (m : Option (Nat × IExp)) : Asm → WT GoF → Bool
  | bs, .leaf a => leafOkF rs pats rk mu chk bs m a
  | bs, .node b t f => okF rs pats rk mu chk m ((b, true) :: bs) t && okF rs pats rk mu chk m ((b, false) :: bs) f
  | bs, .both t f => okF rs pats rk mu chk m bs t && okF rs pats rk mu chk m bs f
  | _, .stop => false
/-- The ways that are not well told (to look at). -/
def badF (rs : List Sh) (pats : Pats) (rk : Key → Nat) (mu : Key → IExp) (chk : LExp → Bool) (m : Option (Nat × IExp)) : Asm → WT GoF → List (Asm × GoF)
  | bs, .leaf a => if leafOkF rs pats rk mu chk bs m a then [] else [(bs, a)]
  | bs, .node b t f => badF rs pats rk mu chk m ((b, true) :: bs) t ++ badF rs pats rk mu chk m ((b, false) :: bs) f
  | bs, .both t f => badF rs pats rk mu chk m bs t ++ badF rs pats rk mu chk m bs f
  | bs, .stop => [(bs, .bad)]
/-- The measures are numbers of 64 bits. -/
def MuOk (mu : Key → IExp) : Prop := ∀ q (e : Env), EnvOk e → (mu q).den e ≤ 9223372036854775807
def mu64 : IExp → Bool
  | .var .i64 _ => true
  | .bin .add .i64 _ _ => true
  | .bin .sub .i64 _ _ => true
  | .lit n => decide (n ≤ 9223372036854775807)
  | _ => false
theorem mu64_ok {x : IExp} (h : mu64 x = true) {e : Env} (ok : EnvOk e) : x.den e ≤ 9223372036854775807 := by
  have top : IntKind.i64.max = 9223372036854775807 := rfl
  unfold mu64 at h
  split at h
  · exact (ok.i .i64 _).2
  · rw [← top]; exact (wrap_in .i64 _).2
  · rw [← top]; exact (wrap_in .i64 _).2
  · rw [litD]; exact of_decide_eq_true h
  · cases h
theorem okF_holds {rs : List Sh} {pats : Pats} {rk : Key → Nat} {mu : Key → IExp} (hmu : MuOk mu) {chk : LExp → Bool} {e : Env} (ok : EnvOk e) {r : List LV} (hr : ∀ e L, EnvOk e → chk L = true → L.den e = r) {m : Option (Nat × IExp)} {m' : Option Nat} (hm : ∀ x, m' = some x → ∃ k y, m = some (k, y) ∧ k * 18446744073709551616 + (y.den e).toNat ≤ x) :
    ∀ {bs : Asm} {t : WT GoF}, AsmOk e bs → okF rs pats rk mu chk m bs t = true → t.holds e (Owed1F pats ⟨fun _ _ => True, meas rk mu⟩ (fun e v st => ∃ L, resL rs (v, ⟨st.h, []⟩) = some L ∧ L.den e = r) e m')
  | bs, .leaf a, ha, h => by
    simp only [okF] at h
    simp only [WT.holds]
    cases a with
    | bad => cases h
    | done v st =>
      simp only [leafOkF] at h
      split at h
      · rename_i L hL
        exact ⟨L, hL, hr e L ok h⟩
      · cases h
    | go q l left =>
      simp only [leafOkF, Bool.and_eq_true] at h
      obtain ⟨⟨h1, h2⟩, h3⟩ := h
      obtain ⟨p, hp⟩ := Option.isSome_iff_exists.1 h2
      refine ⟨⟨p, hp⟩, List.isEmpty_iff.1 h1, fun oku => ⟨trivial, fun n hn => ?_⟩⟩
      obtain ⟨k, y, rfl, hle⟩ := hm n hn
      have g2 := hmu q _ oku
      simp only [Bool.or_eq_true, Bool.and_eq_true] at h3
      show rk q * 18446744073709551616 + ((mu q).den _).toNat < n
      rcases h3 with h5 | ⟨h5, h6⟩
      · rw [Nat.blt_eq] at h5
        omega
      · have e1 := Nat.eq_of_beq_eq_true h5
        split at h6
        · rename_i x hx
          simp only [Bool.and_eq_true] at h6
          have gx := IExp.sbst_ok ok ha (mu q) hx
          have g0 := nnI_ok ok ha h6.1
          have e2 := knowsLt_ok ok ha h6.2
          rw [gx, e1]
          omega
        · cases h6
  | bs, .node b t f, ha, h => by
    simp only [okF, Bool.and_eq_true] at h
    simp only [WT.holds]
    cases hb : b.den e with
    | true => simp only [if_true]; exact okF_holds hmu ok hr hm (AsmOk.cons hb ha) h.1
    | false => simp only [Bool.false_eq_true, if_false]; exact okF_holds hmu ok hr hm (AsmOk.cons hb ha) h.2
  | bs, .both t f, ha, h => by
    simp only [okF, Bool.and_eq_true] at h
    exact ⟨okF_holds hmu ok hr hm ha h.1, okF_holds hmu ok hr hm ha h.2⟩
  | _, .stop, _, h => by simp [okF] at h
noncomputable def pS (n f G ov : Nat) (tab : Tab) (args : List SVal) (st : St) (pats : Pats) : WT GoF := startTF Tryd.prog G plan tab n 1000 f ov (fnOf f) (bodyOf f) pats args st
noncomputable def pHd (n f G ov base : Nat) (tab : Tab) (pats : Pats) (q : Key) : WT GoF := headTF Tryd.prog G plan tab n 1000 f ov base (fnOf f) (bodyOf f) pats q
/-- What the calls of a function come to, from a pattern. -/
def PatCalls (f G ov : Nat) (args : List SVal) (st : St) (V : Value) (e0 : Env) : Prop := ∀ ρ vs W, SValsD e0 ρ args vs → AsmOk e0 st.as → HRel e0 ov ρ st.h W → Glob G ρ →
  Calls Tryd.prog f vs.toArray W fun en W' => en = .returned V ∧ But ((ρ.drop ov).map (·.1)) W W'
theorem callK {n f G ov : Nat} {tab : Tab} {args : List SVal} {st : St} {rs : List Sh} {pats : Pats} {rk : Key → Nat} {mu : Key → IExp} {chk : LExp → Bool} (hhas : hasBody f = true) (hplain : plainB 1000 ov st.h pats = true) (hnd : ∀ k p, (k, p) ∈ pats → patAt pats k = some p) (hG : G ≤ ov) (hov : ov ≤ st.h.length) (hmu : ∀ q, mu64 (mu q) = true)
    (hstart : okF rs pats rk mu chk none st.as (pS n f G ov tab args st pats) = true)
    (hheads : ∀ q p, patAt pats q = some p → okF rs pats rk mu chk (some (rk q, mu q)) p.as (pHd n f G ov st.h.length tab pats q) = true) {r : List LV} (hr : ∀ e L, EnvOk e → chk L = true → L.den e = r)
    {e0 : Env} (ok : EnvOk e0) (htab : ∀ e : Env, EnvOk e → Agree 1000 e0 e → TabOk Tryd.prog G ov tab e) : PatCalls f G ov args st (retV (shVals rs r)) e0 := by
  intro ρ vs W hD hA hrel hg
  obtain ⟨hf, hb⟩ := fn_of hhas
  have hlen : st.h.length = ρ.length := hrel.len
  have hmu' : MuOk mu := fun q e oke => mu64_ok (hmu q) oke
  refine cfg1F (G := G) (ov := ov) (plan := plan) (tab := tab) (n := n) (N := 1000) (ro := ov) (base := st.h.length) (pats := pats) (args := args) (st := st) (e0 := e0) (ρ0 := ρ) (vs := vs)
    ⟨fun _ _ => True, meas rk mu⟩ (fun e v st => ∃ L, resL rs (v, ⟨st.h, []⟩) = some L ∧ L.den e = r)
    mixed plan_ok rfl (fun _ _ _ => LtOk.none) htab rfl hf hb ok hD hA hrel hg (Nat.le_refl _) (by omega) hG (by decide) hplain (okF_holds hmu' ok hr (fun x hx => by cases hx) hA hstart) ?_ hnd ?_
  · intro q hq e ok' g ha hI
    obtain ⟨⟨q', p⟩, hm, rfl⟩ := List.mem_map.1 hq
    have hp := hnd _ _ hm
    exact okF_holds hmu' ok' hr (fun x hx => ⟨_, _, rfl, by cases hx; exact Nat.le_refl _⟩) (ha p hp) (hheads q' p hp)
  · rintro e v st' ok' g ⟨L, hL, hd⟩ ρ' V W' hp' hV
    obtain ⟨h1, h2⟩ := resL_ok (q := (v, ⟨st'.h, []⟩)) (ρ := ρ') ok' (AsmOk.nil _) hL hV
    rw [hd] at h2
    exact ⟨congrArg _ h2, But.of_post hp' (fun x hx => List.mem_map_of_mem hx)⟩
/-! ### At a call -/
def argTm (args : List SVal) : Tm := ⟨args.length, tmArgs 0 args, false⟩
def argPat (h : SHeap) (args : List SVal) (bs : Asm) : Pat := ⟨h, args.length, tmArgs 0 args, bs⟩
theorem argTm_D {e : Env} {ρ : Rho} {args : List SVal} {vs : List Value} (h : SValsD e ρ args vs) : TmD e ρ (argTm args) vs := by
  have := TmD.init h 0
  rw [List.replicate_zero, List.append_nil] at this
  exact this
theorem tmArgs_get (d : Bool) : ∀ (args : List SVal) (i j : Nat) (x : SVal), args[j]? = some x → tmFind d (tmArgs i args) (i + j) = x
  | [], _, _, _, h => by simp at h
  | y :: r, i, 0, x, h => by
    simp at h
    subst h
    simp only [tmArgs, tmFind, Nat.add_zero]
    rw [show Nat.beq i i = true by simp]
    rfl
  | y :: r, i, j + 1, x, h => by
    have := tmArgs_get d r (i + 1) j x (by simpa using h)
    simp only [tmArgs, tmFind]
    rw [show Nat.beq i (i + (j + 1)) = false from Bool.eq_false_iff.2 fun h => by have := Nat.eq_of_beq_eq_true h; omega, cond_false, show i + (j + 1) = i + 1 + j by omega]
    exact this
theorem svals_of {e : Env} {ρ : Rho} : ∀ {args : List SVal} {vs : List Value}, args.length = vs.length → (∀ (j : Nat) (x : SVal), args[j]? = some x → x.D e ρ (vs.getD j undef)) → SValsD e ρ args vs
  | [], [], _, _ => rfl
  | [], _ :: _, h, _ => by simp at h
  | _ :: _, [], h, _ => by simp at h
  | x :: r, v :: vs, h, hd => ⟨v, vs, rfl, hd 0 x rfl, svals_of (by simpa using h) fun j y hj => by simpa using hd (j + 1) y (by simpa using hj)⟩
theorem argTm_svals {e : Env} {ρ : Rho} {d : Bool} {args : List SVal} {vs : List Value} (h : TmD e ρ ⟨args.length, tmArgs 0 args, d⟩ vs) : SValsD e ρ args vs := by
  refine svals_of h.1 fun j x hj => ?_
  have := h.2 j
  have hg : (⟨args.length, tmArgs 0 args, d⟩ : Tm).get j = x := by
    have := tmArgs_get d args 0 j x hj
    rwa [Nat.zero_add] at this
  rwa [hg] at this
/-- What stands at a call is what the pattern says; its blocks from ov' on may be written. -/
theorem fit_call {N G ov ov' : Nat} {p : List Nat} {l : List Asg} {tm tm' : Tm} {h : SHeap} {st' : St} (f : Fit N G p l tm tm' h st') {e0 e : Env} (g : Agree N e0 e) {ρ : Rho} {vs : List Value} {W : World} (ht : TmD e ρ tm' vs) (hr : HRel e ov ρ st'.h W) (hg : Glob G ρ)
    (hwr : ∀ i i' : Nat, p[i]? = some i' → ov' ≤ i → ov ≤ i') (hfl : e.fx.length ≤ G) (hGo : G ≤ ov') : TmD (Env.upd e0 e l) (pickRho ρ p) tm vs ∧ HRel (Env.upd e0 e l) ov' (pickRho ρ p) h W ∧ Glob G (pickRho ρ p) := by
  have hget := f.get hr.len
  have hglob : ∀ {q : Nat}, q < G → p[q]? = some q := by
    intro q hq
    have := congrArg (·[q]?) f.glob
    simp only [List.getElem?_take_of_lt hq, List.getElem?_range hq] at this
    exact this
  have hlive : ∀ {i : Nat} {x : List Seg × TypeId}, h[i]? = some (some x) → ∃ j y, p[i]? = some j ∧ st'.h[j]? = some (some y) ∧ fitSs N p l x.1 y.1 = true := by
    intro i x hi
    have hil : i < p.length := by rw [← f.len]; exact (List.getElem?_eq_some_iff.1 hi).1
    have := fitH_get f.bl (List.getElem?_eq_getElem hil)
    rw [Nat.zero_add, hi] at this
    simp only at this
    split at this
    · rename_i y t hy
      exact ⟨_, (y, t), List.getElem?_eq_getElem hil, hy, this⟩
    · cases this
  have hag := Env.upd_agree (e0 := e0) (e := e) f.lets
  refine ⟨⟨?_, fun t => ?_⟩, ⟨?_, ?_, ?_, ⟨?_, ?_, ?_, ?_, ?_⟩⟩, ?_⟩
  · have h1 := f.tm
    simp only [fitTm, Bool.and_eq_true] at h1
    rw [Nat.eq_of_beq_eq_true h1.1.1]
    exact ht.1
  · have h1 := f.tm
    simp only [fitTm, Bool.and_eq_true] at h1
    obtain ⟨⟨_, hd⟩, hall⟩ := h1
    show SVal.D _ _ (tmFind tm.dead tm.l t) _
    rw [hd]
    rcases tmFind_mem (l := tm.l) (t := t) with hm | hm
    · rw [hm]; trivial
    · exact fitVal_ok g f.lets hget (List.all_eq_true.1 hall _ hm) (ht.2 t)
  · simp [pickRho, f.len]
  · intro i j b c hi hj hb hc hij hovv
    obtain ⟨x, hx⟩ := hi
    obtain ⟨y, hy⟩ := hj
    obtain ⟨i', x', hi', hx', _⟩ := hlive hx
    obtain ⟨j', y', hj', hy', _⟩ := hlive hy
    rw [hget _ _ hi'] at hb
    rw [hget _ _ hj'] at hc
    refine hr.apart i' j' b c ⟨_, hx'⟩ ⟨_, hy'⟩ hb hc ?_ ?_
    · intro hh
      subst hh
      obtain ⟨q1, r1⟩ := List.getElem?_eq_some_iff.1 hi'
      obtain ⟨q2, r2⟩ := List.getElem?_eq_some_iff.1 hj'
      exact hij ((List.getElem_inj f.inj).1 (r1.trans r2.symm))
    · rcases hovv with h1 | h1
      · exact .inl (hwr _ _ hi' h1)
      · exact .inr (hwr _ _ hj' h1)
  · intro i x t hi
    obtain ⟨j, y, hj, hy, hfit⟩ := hlive hi
    obtain ⟨b, o, r, vs, h1, h2, h3⟩ := hr.blk j y.1 y.2 hy
    exact ⟨b, o, r, vs, by rw [hget _ _ hj]; exact h1, h2.weak (fun q => hwr _ _ hj q), fitSs_ok g f.lets hget hfit h3⟩
  · intro i x hx
    rw [hag.fx, ← g.fx] at hx
    have hio : i < G := by
      have := (List.getElem?_eq_some_iff.1 hx).1
      omega
    rw [hget _ _ (hglob hio)]
    exact hr.old.fx i x hx
  · rw [hag.fx, ← g.fx]; omega
  · rw [hag.base, ← g.base]; exact hr.old.size
  · intro k hk
    rw [hag.base, ← g.base] at hk
    rw [hag.h0, ← g.h0]; exact hr.old.same k hk
  · intro b hb
    rw [hag.base, ← g.base]
    obtain ⟨i, hi⟩ := List.mem_iff_getElem?.1 hb
    rw [List.getElem?_drop] at hi
    have hil : ov' + i < p.length := by
      have := (List.getElem?_eq_some_iff.1 hi).1
      simpa [pickRho] using this
    have hpi : p[ov' + i]? = some p[ov' + i] := List.getElem?_eq_getElem hil
    have hlo := hwr _ _ hpi (Nat.le_add_right _ _)
    rw [hget _ _ hpi] at hi
    refine hr.old.own b ?_
    have : (ρ.drop ov)[p[ov' + i] - ov]? = some b := by rw [List.getElem?_drop, show ov + (p[ov' + i] - ov) = p[ov' + i] by omega]; exact hi
    exact List.mem_of_getElem? this
  · intro q hq
    rw [hget _ _ (hglob hq)]
    exact hg q hq
/-- A function at a pattern: the arguments, the blocks; those from ov' on are lost. -/
def tabPat (f G ov' : Nat) (h : SHeap) (pa : List SVal) (bs : Asm) (res : SVal) : Tab := fun ro g args st => if g = f then (match mtAll 0 G (argPat h pa bs) (argTm args) st with
  | (pp, l) => if (fitAll 0 G pp l ⟨pa.length, tmArgs 0 pa, true⟩ (argTm args) h st && (Sy.leftOf st.as l 0 bs).isEmpty && (pp.drop ov').all (fun i => Nat.ble ro i) && (h.drop ov').all Option.isSome) = true then some (.leaf (res, ⟨setNone (pp.drop ov') st.h, st.as⟩)) else none) else none
theorem tabPat_ok {f G ov' : Nat} {h : SHeap} {pa : List SVal} {bs : Asm} {res : SVal} {V : Value} (hres : ∀ e ρ, res.D e ρ V) (hGo : G ≤ ov') {e : Env} (ok : EnvOk e) (hfx : e.fx.length ≤ G)
    (hc : ∀ e' : Env, EnvOk e' → Agree 0 e e' → PatCalls f G ov' pa ⟨h, bs⟩ V e') (G' ov : Nat) (hG' : G ≤ G') : TabOk Tryd.prog G' ov (tabPat f G ov' h pa bs res) e := by
  intro ro g args st t Z ht hov hz ρ vs W R hv ha hr hg hR
  unfold tabPat at ht
  split at ht
  · rename_i hgf
    subst hgf
    generalize mtAll 0 G (argPat h pa bs) (argTm args) st = q at ht
    obtain ⟨pp, l⟩ := q
    simp only at ht
    split at ht
    · rename_i hcond
      cases ht
      simp only [Bool.and_eq_true] at hcond
      obtain ⟨⟨⟨hfit, hleft⟩, hwr⟩, hsome⟩ := hcond
      have f := fitAll_ok hfit
      have hw' : ∀ i i' : Nat, pp[i]? = some i' → ov' ≤ i → ro ≤ i' := by
        intro i i' hi hle
        have hm : i' ∈ pp.drop ov' := by
          have : (pp.drop ov')[i - ov']? = some i' := by rw [List.getElem?_drop, show ov' + (i - ov') = i by omega]; exact hi
          exact List.mem_of_getElem? this
        exact Nat.le_of_ble_eq_true (List.all_eq_true.1 hwr _ hm)
      have hg0 : Glob G ρ := fun q hq => hg q (by omega)
      obtain ⟨h1, h2, h3⟩ := fit_call (ov' := ov') f (Agree.refl 0 e) (argTm_D hv) hr hg0 (fun i i' hi hle => Nat.le_trans hov (hw' i i' hi hle)) hfx hGo
      have ok' := Env.upd_ok ok ok ha f.oks
      have hA : AsmOk (Env.upd e e l) bs := by
        intro x hx
        obtain ⟨j, hj⟩ := List.mem_iff_getElem?.1 hx
        refine Sy.leftOf_ok ok ha (i := 0) j x hj ?_
        rw [List.isEmpty_iff.1 hleft]
        simp
      refine (hc _ ok' (Env.upd_agree f.lets) (pickRho ρ pp) vs W (argTm_svals h1) hA h2 h3).mono ?_
      rintro en W' ⟨rfl, hb⟩
      refine hR _ _ hz ρ _ W' (Post.lose hr hov (is := pp.drop ov') (fun i hi => ?_) (fun i hi => ?_) (fun k hk => ?_) hb) (hres _ _) ha
      · exact Nat.le_of_ble_eq_true (List.all_eq_true.1 hwr _ hi)
      · obtain ⟨j, hj⟩ := List.mem_iff_getElem?.1 hi
        rw [List.getElem?_drop] at hj
        have hjl : ov' + j < h.length := by rw [f.len]; exact (List.getElem?_eq_some_iff.1 hj).1
        have hs := List.all_eq_true.1 hsome (h[ov' + j]) (by
          have : (h.drop ov')[j]? = some h[ov' + j] := by rw [List.getElem?_drop]; exact List.getElem?_eq_getElem hjl
          exact List.mem_of_getElem? this)
        obtain ⟨x, hx⟩ := Option.isSome_iff_exists.1 hs
        have := fitH_get f.bl hj
        rw [Nat.zero_add, List.getElem?_eq_getElem hjl, hx] at this
        simp only at this
        split at this
        · rename_i y t hy
          exact ⟨_, hy⟩
        · cases this
      · obtain ⟨x, hx, rfl⟩ := List.mem_map.1 hk
        obtain ⟨j, hj⟩ := List.mem_iff_getElem?.1 hx
        rw [List.getElem?_drop] at hj
        have hjl : ov' + j < pp.length := by
          have := (List.getElem?_eq_some_iff.1 hj).1
          simpa [pickRho] using this
        rw [f.get hr.len _ _ (List.getElem?_eq_getElem hjl)] at hj
        refine ⟨pp[ov' + j], ?_, x.2, hj⟩
        have : (pp.drop ov')[j]? = some pp[ov' + j] := by rw [List.getElem?_drop]; exact List.getElem?_eq_getElem hjl
        exact List.mem_of_getElem? this
    · cases ht
  · cases ht

/-! Arguments that come in, as letters; the worlds behind. -/
def frOf : Ck → Option Fr
  | .b => some (.f .b)
  | .i k => some (.f (.i k))
  | .s => some (.f .s)
  | .rows k => some (.row k)
  | .recs _ => none
theorem fr_is {W : World} : ∀ {k : Ck} {r : Fr} {v : Value}, frOf k = some r → CellIs W k v → ∃ x, r.Wf x ∧ r.Is W x [v]
  | .b, r, v, h, ⟨x, hv⟩ => by cases h; exact ⟨.b x, trivial, by rw [hv]; rfl⟩
  | .i k, r, v, h, ⟨n, hv, hn⟩ => by cases h; exact ⟨.i n, hn, by rw [hv]; rfl⟩
  | .s, r, v, h, ⟨x, hv, hx⟩ => by
    cases h
    refine ⟨.a (ints x), ⟨ints_in x, ?_⟩, ?_⟩
    · have e1 : (ints x).length = x.size := by rw [← strOf_size, strOf_ints]
      have htop : lenTop = 9223372036854775807 := rfl
      unfold maxLen at hx
      rw [e1]; omega
    · rw [hv]
      show [Value.string x] = [Value.string (strOf (ints x))]
      rw [strOf_ints]
  | .rows k, r, v, h, ⟨a, n, c, z, hv, hz⟩ => by
    cases h
    obtain ⟨h1, h2, h3⟩ := rowV_of hz
    exact ⟨.a (z.take n), ⟨h2, h3⟩, v, rfl, by rw [hv]; exact h1⟩
  | .recs _, _, _, h, _ => by cases h
theorem frs_in {W : World} : ∀ {ks : List Ck} {frs : List Fr} {vs : List Value}, ks.map frOf = frs.map some → CellsIs W ks vs → ∃ lv, WfR frs lv ∧ frsIs W frs lv vs
  | [], [], vs, _, h => ⟨[], trivial, h⟩
  | [], _ :: _, _, h, _ => by simp at h
  | _ :: _, [], _, h, _ => by simp at h
  | k :: ks, r :: frs, vs, h, hc => by
    simp only [List.map_cons, List.cons.injEq] at h
    obtain ⟨v, ws, rfl, h1, h2⟩ := hc
    obtain ⟨x, g1, g2⟩ := fr_is h.1 h1
    obtain ⟨lv, g3, g4⟩ := frs_in h.2 h2
    exact ⟨x :: lv, ⟨g1, g3⟩, [v], ws, rfl, g2, g4⟩
theorem frsIs_len {W : World} {frs : List Fr} {lv : List LV} {vs : List Value} (h : frsIs W frs lv vs) : lv.length = frs.length := h.length
/-- A struct. -/
theorem agg_in {W : World} {ks : List Ck} {frs : List Fr} {cs : List Value} (h : ks.map frOf = frs.map some) (hc : CellsIs W ks cs) : ∃ lv, WfR frs lv ∧ Shr.Is W (.agg frs) lv (.agg cs.toArray) := by
  obtain ⟨lv, h1, h2⟩ := frs_in h hc
  exact ⟨lv, h1, cs, rfl, h2⟩
/-- Arguments one behind the other. -/
theorem shrs_cons {W : World} {s : Shr} {r : List Shr} {l l' : List LV} {v : Value} {vs : List Value} (hl : l.length = s.frs.length) (h : s.Is W l v) (h' : shrsIs W r l' vs) : shrsIs W (s :: r) (l ++ l') (v :: vs) :=
  ⟨v, vs, rfl, by rw [List.take_left' hl]; exact h, by rw [List.drop_left' hl]; exact h'⟩
theorem below_but {W W' : World} (h : But [] W W') : RowKit.Below W.heap.size W W' :=
  ⟨h.os, h.tape, h.output, h.size, fun k hk => h.same k hk (by simp)⟩
/-- A law over letters: true. -/
noncomputable def lawS (n f : Nat) (tab : Tab) (gs : SHeap) (ps : List Shr) (pats : Pats) : WT GoF := pS n f gs.length (rH gs ps).length tab (rArgs gs ps) ⟨rH gs ps, canonRAs 0 (shrFlat ps)⟩ pats
noncomputable def lawH (n f : Nat) (tab : Tab) (gs : SHeap) (ps : List Shr) (pats : Pats) (q : Key) : WT GoF := pHd n f gs.length (rH gs ps).length (rH gs ps).length tab pats q
theorem law_walk {n f : Nat} {tab : Tab} {gs : SHeap} {ps : List Shr} {pats : Pats} {rk : Key → Nat} {mu : Key → IExp} (hps : ps.all Shr.plain = true) (hhas : hasBody f = true) (hplain : plainB 1000 (rH gs ps).length (rH gs ps) pats = true) (hnd : ∀ k p, (k, p) ∈ pats → patAt pats k = some p) (hmu : ∀ q, mu64 (mu q) = true)
    (hstart : okF [.c .b] pats rk mu chkT none (canonRAs 0 (shrFlat ps)) (lawS n f tab gs ps pats) = true)
    (hheads : ∀ q p, patAt pats q = some p → okF [.c .b] pats rk mu chkT (some (rk q, mu q)) p.as (lawH n f tab gs ps pats q) = true) (s : Src)
    (htab : ∀ e : Env, EnvOk e → e.fi = s.env.fi → e.fa = s.env.fa → e.fb = s.env.fb → e.fx = [] → KnowsP gs e → TabOk Tryd.prog gs.length (rH gs ps).length tab e)
    (W : World) (hW : Pre gs W) (lv : List LV) (vs : List Value) (hlv : WfR (shrFlat ps) lv) (hvs : shrsIs W ps lv vs) :
    Calls Tryd.prog f vs.toArray W fun en W' => en = .returned (.bool true) ∧ RowKit.Below W.heap.size W W' := by
  obtain ⟨ρ, hD, hA, hrel, hg⟩ := r_start hps s hW hlv hvs
  have hlen : (rH gs ps).length = ρ.length := hrel.len
  refine (callK (rs := [.c .b]) (r := [.b true]) (chk := chkT) (st := ⟨rH gs ps, canonRAs 0 (shrFlat ps)⟩) hhas hplain hnd (by rw [rH, List.length_append]; omega) (Nat.le_refl _) hmu hstart hheads chkT_ok (Src.know (envOf s lv) W []).ok (fun e ok' g => htab e ok' g.fi g.fa g.fb g.fx ⟨W, g.base, g.h0, hW⟩) ρ vs W hD hA hrel hg).mono ?_
  rintro en W' ⟨rfl, hb⟩
  rw [hlen, List.drop_length] at hb
  exact ⟨rfl, below_but hb⟩
/-- Arguments one by one: their letters. -/
def ArgsIn (W : World) (ps : List Shr) (vs : List Value) : Prop := ∃ lv, WfR (shrFlat ps) lv ∧ shrsIs W ps lv vs
theorem ArgsIn.nil (W : World) : ArgsIn W [] [] := ⟨[], trivial, rfl, rfl⟩
theorem ArgsIn.agg {W : World} {ks : List Ck} {frs : List Fr} {cs : List Value} (h : ks.map frOf = frs.map some) (hc : CellsIs W ks cs) {ps : List Shr} {vs : List Value} (hr : ArgsIn W ps vs) : ArgsIn W (.agg frs :: ps) (.agg cs.toArray :: vs) := by
  obtain ⟨lv, h1, h2⟩ := agg_in h hc
  obtain ⟨l', g1, g2⟩ := hr
  exact ⟨lv ++ l', WfR.append h1 g1, shrs_cons (s := .agg frs) h1.length h2 g2⟩
theorem ArgsIn.row {W : World} {k : IntKind} {a : Option Addr} {n c : Nat} {z : List Int} (hz : IsRow k W a n c z) {ps : List Shr} {vs : List Value} (hr : ArgsIn W ps vs) : ArgsIn W (.c (.row k) :: ps) (.slice a n c :: vs) := by
  obtain ⟨h1, h2, h3⟩ := rowV_of hz
  obtain ⟨l', g1, g2⟩ := hr
  have hw : WfR [Fr.row k] [LV.a (z.take n)] := ⟨⟨h2, h3⟩, trivial⟩
  exact ⟨[LV.a (z.take n)] ++ l', WfR.append hw g1, shrs_cons (s := .c (.row k)) rfl ⟨[.slice a n c], [], rfl, ⟨_, rfl, h1⟩, rfl⟩ g2⟩
theorem ArgsIn.int {W : World} {k : IntKind} {n : Int} (hn : In k n) {ps : List Shr} {vs : List Value} (hr : ArgsIn W ps vs) : ArgsIn W (.c (.f (.i k)) :: ps) (.int k n :: vs) := by
  obtain ⟨l', g1, g2⟩ := hr
  have hw : WfR [Fr.f (.i k)] [LV.i n] := ⟨hn, trivial⟩
  exact ⟨[LV.i n] ++ l', WfR.append hw g1, shrs_cons (s := .c (.f (.i k))) rfl ⟨[.int k n], [], rfl, rfl, rfl⟩ g2⟩
end Go.Proofs.YtaijkkkgpgldbaaDoor.K
