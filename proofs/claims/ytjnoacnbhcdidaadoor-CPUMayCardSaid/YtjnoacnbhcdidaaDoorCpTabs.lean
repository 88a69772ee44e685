/- Step, Drive, Check as contracts: their answers are letters of what they are given. -/
import Derived.Test.YtjnoacnbhcdidaaDoorCpCall
namespace Go.Proofs.YtjnoacnbhcdidaaDoor.K
open Go Sy
set_option maxRecDepth 100000
set_option linter.unusedVariables false
set_option linter.unusedSimpArgs false

/-! ### A processor's letters -/
def cpuLV (c : Cpu) (l : List LV) : List LV := .a c.R :: .i c.D :: .b c.DF :: .i c.P :: .i c.X :: .i c.T :: .b c.IE :: .b c.Q :: .i c.Op :: .i c.B :: .i c.Ph :: l
def pinsLV (p : Pins) : List LV := [.i p.m, .i p.d, .b p.f0, .b p.f1, .b p.f2, .b p.f3, .b p.i, .b p.o, .b p.t]
structure CpuE where
  R : AExp
  D : IExp
  DF : BExp
  P : IExp
  X : IExp
  T : IExp
  IE : BExp
  Q : BExp
  Op : IExp
  B : IExp
  Ph : IExp
def CpuE.l (c : CpuE) (r : LExp) : LExp := .a c.R (.i c.D (.b c.DF (.i c.P (.i c.X (.i c.T (.b c.IE (.b c.Q (.i c.Op (.i c.B (.i c.Ph r))))))))))
def CpuE.v (c : CpuE) : SVal := .v (.agg [.arr .u16 16 c.R, .c (.i .u8 c.D), .c (.b c.DF), .c (.i .u8 c.P), .c (.i .u8 c.X), .c (.i .u8 c.T), .c (.b c.IE), .c (.b c.Q), .c (.i .u8 c.Op), .c (.i .u8 c.B), .c (.i .u8 c.Ph)])
def CpuE.den (e : Env) (c : CpuE) : Cpu := ⟨c.R.den e, c.D.den e, c.P.den e, c.X.den e, c.T.den e, c.Op.den e, c.B.den e, c.Ph.den e, c.DF.den e, c.IE.den e, c.Q.den e⟩
def CpuE.fits (aq : Asm) (c : CpuE) : Bool := c.R.inK aq .u16 && inKind .u8 (c.D.rng aq) && inKind .u8 (c.P.rng aq) && inKind .u8 (c.X.rng aq) && inKind .u8 (c.T.rng aq) && inKind .u8 (c.Op.rng aq) && inKind .u8 (c.B.rng aq) && inKind .u8 (c.Ph.rng aq)
def cpuOf : SVal → Option CpuE
  | .v (.agg [.arr .u16 16 R, .c (.i .u8 D), .c (.b DF), .c (.i .u8 P), .c (.i .u8 X), .c (.i .u8 T), .c (.b IE), .c (.b Q), .c (.i .u8 Op), .c (.i .u8 B), .c (.i .u8 Ph)]) => some ⟨R, D, DF, P, X, T, IE, Q, Op, B, Ph⟩
  | _ => none
theorem cpuOf_eq {v : SVal} {c : CpuE} (h : cpuOf v = some c) : v = c.v := by
  unfold cpuOf at h
  split at h
  · cases h; rfl
  · cases h
theorem CpuE.l_den (e : Env) (c : CpuE) (r : LExp) : (c.l r).den e = cpuLV (c.den e) (r.den e) := by simp only [CpuE.l, LExp.den, cpuLV, CpuE.den]
theorem CpuE.val_of {e : Env} {ρ : Rho} {c : CpuE} {v : Value} (h : c.v.D e ρ v) : v = (c.den e).val ∧ (c.R.den e).length = 16 := by
  obtain ⟨vs, rfl, vs', rfl, hl, hr⟩ := h
  obtain ⟨w1, _, rfl, d1, w2, _, rfl, d2, w3, _, rfl, d3, w4, _, rfl, d4, w5, _, rfl, d5, w6, _, rfl, d6, w7, _, rfl, d7, w8, _, rfl, d8, w9, _, rfl, d9, w10, _, rfl, d10, rfl⟩ := hr
  cases d1; cases d2; cases d3; cases d4; cases d5; cases d6; cases d7; cases d8; cases d9; cases d10
  exact ⟨rfl, hl⟩
theorem CpuE.isV {e : Env} {ρ : Rho} {c : CpuE} (hl : (c.R.den e).length = 16) : c.v.D e ρ (c.den e).val :=
  ⟨_, rfl, _, rfl, hl, _, _, rfl, rfl, _, _, rfl, rfl, _, _, rfl, rfl, _, _, rfl, rfl, _, _, rfl, rfl, _, _, rfl, rfl, _, _, rfl, rfl, _, _, rfl, rfl, _, _, rfl, rfl, _, _, rfl, rfl, rfl⟩
theorem CpuE.ok {e : Env} (ok : EnvOk e) {aq : Asm} (ha : AsmOk e aq) {c : CpuE} (h : c.fits aq = true) (hl : (c.R.den e).length = 16) : (c.den e).Ok := by
  simp only [CpuE.fits, Bool.and_eq_true] at h
  obtain ⟨⟨⟨⟨⟨⟨⟨h1, h2⟩, h3⟩, h4⟩, h5⟩, h6⟩, h7⟩, h8⟩ := h
  exact ⟨hl, AExp.inK_ok ok ha _ _ h1, inKind_spec h2 (IExp.rng_ok ok ha _), inKind_spec h3 (IExp.rng_ok ok ha _), inKind_spec h4 (IExp.rng_ok ok ha _), inKind_spec h5 (IExp.rng_ok ok ha _), inKind_spec h6 (IExp.rng_ok ok ha _), inKind_spec h7 (IExp.rng_ok ok ha _), inKind_spec h8 (IExp.rng_ok ok ha _), rfl⟩
structure PinsE where
  m : IExp
  d : IExp
  f0 : BExp
  f1 : BExp
  f2 : BExp
  f3 : BExp
  i : BExp
  o : BExp
  t : BExp
def PinsE.l (p : PinsE) : LExp := .i p.m (.i p.d (.b p.f0 (.b p.f1 (.b p.f2 (.b p.f3 (.b p.i (.b p.o (.b p.t .nil))))))))
def PinsE.v (p : PinsE) : SVal := .v (.agg [.c (.i .u8 p.m), .c (.i .u8 p.d), .c (.b p.f0), .c (.b p.f1), .c (.b p.f2), .c (.b p.f3), .c (.b p.i), .c (.b p.o), .c (.b p.t)])
def PinsE.den (e : Env) (p : PinsE) : Pins := ⟨p.m.den e, p.d.den e, p.f0.den e, p.f1.den e, p.f2.den e, p.f3.den e, p.i.den e, p.o.den e, p.t.den e⟩
def pinsOf : SVal → Option PinsE
  | .v (.agg [.c (.i .u8 m), .c (.i .u8 d), .c (.b f0), .c (.b f1), .c (.b f2), .c (.b f3), .c (.b i), .c (.b o), .c (.b t)]) => some ⟨m, d, f0, f1, f2, f3, i, o, t⟩
  | _ => none
theorem pinsOf_eq {v : SVal} {p : PinsE} (h : pinsOf v = some p) : v = p.v := by
  unfold pinsOf at h
  split at h
  · cases h; rfl
  · cases h
theorem PinsE.l_den (e : Env) (p : PinsE) : p.l.den e = pinsLV (p.den e) := by simp only [PinsE.l, LExp.den, pinsLV, PinsE.den]
theorem PinsE.val_of {e : Env} {ρ : Rho} {p : PinsE} {v : Value} (h : p.v.D e ρ v) : v = (p.den e).val := by
  obtain ⟨vs, rfl, w1, _, rfl, d1, w2, _, rfl, d2, w3, _, rfl, d3, w4, _, rfl, d4, w5, _, rfl, d5, w6, _, rfl, d6, w7, _, rfl, d7, w8, _, rfl, d8, w9, _, rfl, d9, rfl⟩ := h
  cases d1; cases d2; cases d3; cases d4; cases d5; cases d6; cases d7; cases d8; cases d9
  rfl

/-! ### The answers -/
def stepE (l : LExp) : CpuE := ⟨.fn .u16 1 0 l, .fn .u8 1 1 l, .fn 1 0 l, .fn .u8 1 2 l, .fn .u8 1 3 l, .fn .u8 1 4 l, .fn 1 1 l, .fn 1 2 l, .fn .u8 1 5 l, .fn .u8 1 6 l, .fn .u8 1 7 l⟩
def driveV (l : LExp) : SVal := .v (.agg [.c (.i .u8 (.fn .u8 2 0 l)), .c (.i .u16 (.fn .u16 2 1 l)), .c (.b (.fn 2 0 l)), .c (.b (.fn 2 1 l)), .c (.b (.fn 2 2 l)), .c (.i .u8 (.fn .u8 2 2 l)), .c (.i .u8 (.fn .u8 2 3 l)), .c (.b (.fn 2 3 l))])
structure CpuEnv (e : Env) : Prop where
  step : ∀ c p, c.Ok → p.Ok → (stepE .nil).den { e with fi := fun k f j _ => e.fi k f j (cpuLV c (pinsLV p)), fb := fun f j _ => e.fb f j (cpuLV c (pinsLV p)), fa := fun k f j _ => e.fa k f j (cpuLV c (pinsLV p)) } = step c p
  code : ∀ c m, e.fi .u8 2 0 (cpuLV c [.i m]) = (drive c m).code
  addr : ∀ c m, e.fi .u16 2 1 (cpuLV c [.i m]) = (drive c m).addr
  rd : ∀ c m, e.fb 2 0 (cpuLV c [.i m]) = (drive c m).rd
  wr : ∀ c m, e.fb 2 1 (cpuLV c [.i m]) = (drive c m).wr
  own : ∀ c m, e.fb 2 2 (cpuLV c [.i m]) = (drive c m).own
  data : ∀ c m, e.fi .u8 2 2 (cpuLV c [.i m]) = (drive c m).data
  port : ∀ c m, e.fi .u8 2 3 (cpuLV c [.i m]) = (drive c m).port
  pulse : ∀ c m, e.fb 2 3 (cpuLV c [.i m]) = (drive c m).pulse
  check : ∀ c, e.fi .i64 3 0 (cpuLV c []) = check c
theorem stepE_den {e : Env} (he : CpuEnv e) {l : LExp} {c : Cpu} {p : Pins} (hc : c.Ok) (hp : p.Ok) (hl : l.den e = cpuLV c (pinsLV p)) : (stepE l).den e = step c p := by
  rw [← he.step c p hc hp]
  simp only [CpuE.den, stepE, IExp.den, BExp.den, AExp.den, hl]

/-! ### The table in the memory that is known -/
def laidB (h : SHeap) : Bool := match h, g0 with
  | some (l, _) :: _, some (l', _) :: _ => allSame Seg.same l l'
  | _, _ => false
theorem laid_of {e : Env} {ov : Nat} {ρ : Rho} {h : SHeap} {W : World} (hr : HRel e ov ρ h W) (hg : Glob 1 ρ) (hb : laidB h = true) : Laid W := by
  cases h with
  | nil => simp [laidB] at hb
  | cons x r =>
    cases x with
    | none => simp [laidB] at hb
    | some x =>
      obtain ⟨l, t⟩ := x
      simp only [laidB, g0] at hb
      have := allSame_eq (fun a b h => Seg.same_eq h) hb
      subst this
      obtain ⟨b, o, r, vs, h1, h2, h3⟩ := hr.blk 0 _ _ rfl
      rw [hg 0 (by omega)] at h1
      cases h1
      intro e'
      refine HRel.ro (ρ := [(0, 0, 0)]) rfl (fun i l t' hi => ?_)
      rcases i with _ | i
      · simp only [g0, List.getElem?_cons_zero, Option.some.injEq, Prod.mk.injEq] at hi
        obtain ⟨rfl, rfl⟩ := hi
        refine ⟨0, 0, 0, vs, rfl, h2.weak (fun q => q.elim), ?_⟩
        obtain ⟨w1, _, rfl, d1, w2, _, rfl, d2, w3, _, rfl, d3, w4, _, rfl, d4, w5, _, rfl, d5, w6, _, rfl, d6, w7, _, rfl, d7, w8, _, rfl, d8, rfl⟩ := h3
        exact ⟨_, _, rfl, lit_D d1, _, _, rfl, lit_D d2, _, _, rfl, lit_D d3, _, _, rfl, lit_D d4, _, _, rfl, lit_D d5, _, _, rfl, lit_D d6, _, _, rfl, lit_D d7, _, _, rfl, lit_D d8, rfl⟩
      · simp [g0] at hi
where
  lit_D {e e' : Env} {ρ ρ' : Rho} {k : IntKind} {n : Int} {v : Value} (h : (Cell.i k (.lit n)).D e ρ v) : (Cell.i k (.lit n)).D e' ρ' v := by
    simp only [Cell.D, IExp.den] at h ⊢; exact h

/-! ### Contracts -/
def stepTab (args : List SVal) (st : St) : Option (WT (SVal × St)) := match args with
  | [x, y] => (match cpuOf x, pinsOf y with
    | some c, some p => if c.fits st.as && inKind .u8 (p.m.rng st.as) && inKind .u8 (p.d.rng st.as) && laidB st.h then some (.leaf ((stepE (c.l p.l)).v, st)) else none
    | _, _ => none)
  | _ => none
def driveTab (args : List SVal) (st : St) : Option (WT (SVal × St)) := match args with
  | [x, .v (.c (.i .u8 m))] => (match cpuOf x with
    | some c => if c.fits st.as && inKind .u8 (m.rng st.as) && laidB st.h then some (.leaf (driveV (c.l (.i m .nil)), st)) else none
    | none => none)
  | _ => none
def checkTab (args : List SVal) (st : St) : Option (WT (SVal × St)) := match args with
  | [x] => (match cpuOf x with
    | some c => if c.fits st.as && laidB st.h then some (.leaf (.v (.c (.i .i64 (.fn .i64 3 0 (c.l .nil)))), st)) else none
    | none => none)
  | _ => none
def tabCpu : Tab := fun _ f args st =>
  if f = 20 ∨ f = 14 then stepTab args st
  else if f = 19 ∨ f = 13 then driveTab args st
  else if f = 17 ∨ f = 18 then checkTab args st
  else none
theorem tabCpu_ok {e : Env} (ok : EnvOk e) (he : CpuEnv e) (ov : Nat) : TabOk Tryd.prog 1 ov tabCpu e := by
  intro ro f args st t Z ht hov hz ρ vs W R hv ha hr hg hR
  unfold tabCpu at ht
  split at ht
  · rename_i hf
    unfold stepTab at ht
    split at ht
    · split at ht
      · rename_i c p hc hp
        split at ht
        · rename_i hcond
          cases ht
          simp only [Bool.and_eq_true] at hcond
          obtain ⟨⟨⟨h1, h2⟩, h3⟩, h4⟩ := hcond
          obtain ⟨v1, _, rfl, d1, v2, _, rfl, d2, rfl⟩ := hv
          rw [cpuOf_eq hc] at d1
          rw [pinsOf_eq hp] at d2
          obtain ⟨rfl, hl⟩ := CpuE.val_of d1
          have := PinsE.val_of d2
          subst this
          have hcok := CpuE.ok ok ha h1 hl
          have hpok : (p.den e).Ok := ⟨inKind_spec h2 (IExp.rng_ok ok ha _), inKind_spec h3 (IExp.rng_ok ok ha _)⟩
          have hs := step_is hcok hpok (laid_of hr hg h4)
          have hden : (stepE (c.l p.l)).den e = step (c.den e) (p.den e) := stepE_den he hcok hpok (by rw [CpuE.l_den, PinsE.l_den])
          have hD : ∀ ρ', (stepE (c.l p.l)).v.D e ρ' (step (c.den e) (p.den e)).val := fun ρ' => by
            rw [← hden]
            refine CpuE.isV ?_
            have := hs.1.hlen
            rw [← hden] at this
            exact this
          have hW := hs.2.2 W (laid_of hr hg h4)
          rcases hf with rfl | rfl
          · refine hW.1.mono ?_
            rintro en W' ⟨rfl, hb⟩
            exact hR _ _ hz ρ _ W' (Post.of_below hr hb) (hD ρ) ha
          · refine hW.2.mono ?_
            rintro en W' ⟨rfl, hb⟩
            exact hR _ _ hz ρ _ W' (Post.of_below hr hb) (hD ρ) ha
        · cases ht
      · cases ht
    · cases ht
  split at ht
  · rename_i hf
    unfold driveTab at ht
    split at ht
    · rename_i m
      split at ht
      · rename_i c hc
        split at ht
        · rename_i hcond
          cases ht
          simp only [Bool.and_eq_true] at hcond
          obtain ⟨⟨h1, h2⟩, h4⟩ := hcond
          obtain ⟨v1, _, rfl, d1, v2, _, rfl, d2, rfl⟩ := hv
          rw [cpuOf_eq hc] at d1
          obtain ⟨rfl, hl⟩ := CpuE.val_of d1
          have d2 : v2 = .int .u8 (m.den e) := d2
          subst d2
          have hcok := CpuE.ok ok ha h1 hl
          have hs := drive_is hcok (inKind_spec h2 (IExp.rng_ok ok ha m)) (laid_of hr hg h4)
          have hll : (c.l (.i m .nil)).den e = cpuLV (c.den e) [.i (m.den e)] := by rw [CpuE.l_den]; simp only [LExp.den]
          have hD : ∀ ρ', (driveV (c.l (.i m .nil))).D e ρ' (drive (c.den e) (m.den e)).val := fun ρ' => by
            refine ⟨_, rfl, _, _, rfl, ?_, _, _, rfl, ?_, _, _, rfl, ?_, _, _, rfl, ?_, _, _, rfl, ?_, _, _, rfl, ?_, _, _, rfl, ?_, _, _, rfl, ?_, rfl⟩ <;> simp only [Cell.D, IExp.den, BExp.den, hll, he.code, he.addr, he.rd, he.wr, he.own, he.data, he.port, he.pulse]
          have hW := hs.2 W (laid_of hr hg h4)
          rcases hf with rfl | rfl
          · refine hW.1.mono ?_
            rintro en W' ⟨rfl, hb⟩
            exact hR _ _ hz ρ _ W' (Post.of_below hr hb) (hD ρ) ha
          · refine hW.2.mono ?_
            rintro en W' ⟨rfl, hb⟩
            exact hR _ _ hz ρ _ W' (Post.of_below hr hb) (hD ρ) ha
        · cases ht
      · cases ht
    · cases ht
  split at ht
  · rename_i hf
    unfold checkTab at ht
    split at ht
    · split at ht
      · rename_i c hc
        split at ht
        · rename_i hcond
          cases ht
          simp only [Bool.and_eq_true] at hcond
          obtain ⟨h1, h4⟩ := hcond
          obtain ⟨v1, _, rfl, d1, rfl⟩ := hv
          rw [cpuOf_eq hc] at d1
          obtain ⟨rfl, hl⟩ := CpuE.val_of d1
          have hcok := CpuE.ok ok ha h1 hl
          have hs := check_is hcok (laid_of hr hg h4)
          have hll : (c.l .nil).den e = cpuLV (c.den e) [] := by rw [CpuE.l_den]; simp only [LExp.den]
          have hD : ∀ ρ', (SVal.v (.c (.i .i64 (.fn .i64 3 0 (c.l .nil))))).D e ρ' (.int .i64 (check (c.den e))) := fun ρ' => by
            show Value.int .i64 _ = .int .i64 (IExp.den e _)
            simp only [IExp.den, hll, he.check]
          have hW := hs.2 W (laid_of hr hg h4)
          rcases hf with rfl | rfl
          · refine hW.1.mono ?_
            rintro en W' ⟨rfl, hb⟩
            exact hR _ _ hz ρ _ W' (Post.of_below hr hb) (hD ρ) ha
          · refine hW.2.mono ?_
            rintro en W' ⟨rfl, hb⟩
            exact hR _ _ hz ρ _ W' (Post.of_below hr hb) (hD ρ) ha
        · cases ht
      · cases ht
    · cases ht
  · cases ht

/-! ### Letters that mean that -/
def cpuOfLV : List LV → Option (Cpu × List LV)
  | .a R :: .i D :: .b DF :: .i P :: .i X :: .i T :: .b IE :: .b Q :: .i Op :: .i B :: .i Ph :: l => some (⟨R, D, P, X, T, Op, B, Ph, DF, IE, Q⟩, l)
  | _ => none
def pinsOfLV : List LV → Option Pins
  | [.i m, .i d, .b f0, .b f1, .b f2, .b f3, .b i, .b o, .b t] => some ⟨m, d, f0, f1, f2, f3, i, o, t⟩
  | _ => none
noncomputable def stepOfLV (l : List LV) : Cpu := match cpuOfLV l with
  | some (c, r) => (match pinsOfLV r with | some p => step c p | none => c)
  | none => ⟨[], 0, 0, 0, 0, 0, 0, 0, false, false, false⟩
noncomputable def driveOfLV (l : List LV) : Drv := match cpuOfLV l with
  | some (c, [.i m]) => drive c m
  | _ => ⟨0, 0, false, false, false, 0, 0, false⟩
noncomputable def checkOfLV (l : List LV) : Int := match cpuOfLV l with
  | some (c, _) => check c
  | none => 0
noncomputable def cpuFi (k : IntKind) (f j : Nat) (l : List LV) : Int := match k, f, j with
  | .u8, 1, 1 => (stepOfLV l).D
  | .u8, 1, 2 => (stepOfLV l).P
  | .u8, 1, 3 => (stepOfLV l).X
  | .u8, 1, 4 => (stepOfLV l).T
  | .u8, 1, 5 => (stepOfLV l).Op
  | .u8, 1, 6 => (stepOfLV l).B
  | .u8, 1, 7 => (stepOfLV l).Ph
  | .u8, 2, 0 => (driveOfLV l).code
  | .u16, 2, 1 => (driveOfLV l).addr
  | .u8, 2, 2 => (driveOfLV l).data
  | .u8, 2, 3 => (driveOfLV l).port
  | .i64, 3, 0 => checkOfLV l
  | _, _, _ => 0
noncomputable def cpuFb (f j : Nat) (l : List LV) : Bool := match f, j with
  | 1, 0 => (stepOfLV l).DF
  | 1, 1 => (stepOfLV l).IE
  | 1, 2 => (stepOfLV l).Q
  | 2, 0 => (driveOfLV l).rd
  | 2, 1 => (driveOfLV l).wr
  | 2, 2 => (driveOfLV l).own
  | 2, 3 => (driveOfLV l).pulse
  | _, _ => false
noncomputable def cpuFa (k : IntKind) (f j : Nat) (l : List LV) : List Int := match k, f, j with
  | .u16, 1, 0 => (stepOfLV l).R
  | _, _, _ => []
noncomputable def withCpu (s : Src) : Src := { s with fi := cpuFi, fb := cpuFb, fa := cpuFa }
theorem withCpu_env (s : Src) : CpuEnv (withCpu s).env := by
  constructor
  · intro c p hc hp
    have h := step_ok (p := p) hc
    have hs : stepOfLV (cpuLV c (pinsLV p)) = step c p := rfl
    simp only [CpuE.den, stepE, IExp.den, BExp.den, AExp.den]
    show (⟨clipL .u16 (stepOfLV (cpuLV c (pinsLV p))).R, clip .u8 (stepOfLV (cpuLV c (pinsLV p))).D, clip .u8 (stepOfLV (cpuLV c (pinsLV p))).P, clip .u8 (stepOfLV (cpuLV c (pinsLV p))).X, clip .u8 (stepOfLV (cpuLV c (pinsLV p))).T, clip .u8 (stepOfLV (cpuLV c (pinsLV p))).Op, clip .u8 (stepOfLV (cpuLV c (pinsLV p))).B, clip .u8 (stepOfLV (cpuLV c (pinsLV p))).Ph, (stepOfLV (cpuLV c (pinsLV p))).DF, (stepOfLV (cpuLV c (pinsLV p))).IE, (stepOfLV (cpuLV c (pinsLV p))).Q⟩ : Cpu) = step c p
    rw [hs, clipL_of h.hR (by rw [h.hlen]; decide), clip_of h.hD, clip_of h.hP, clip_of h.hX, clip_of h.hT, clip_of h.hOp, clip_of h.hB, clip_of h.hPh]
  · intro c m; exact clip_of (drive_ok c m).code
  · intro c m; exact clip_of (drive_ok c m).addr
  · intro c m; rfl
  · intro c m; rfl
  · intro c m; rfl
  · intro c m; exact clip_of (drive_ok c m).data
  · intro c m; exact clip_of (drive_ok c m).port
  · intro c m; rfl
  · intro c; exact clip_of (check_in c)
theorem CpuEnv.agree {N : Nat} {e e' : Env} (g : Agree N e e') (h : CpuEnv e) : CpuEnv e' := by
  obtain ⟨h1, h2, h3, h4, h5, h6, h7, h8, h9, h10⟩ := h
  refine ⟨?_, ?_, ?_, ?_, ?_, ?_, ?_, ?_, ?_, ?_⟩ <;> (try rw [g.fi]) <;> (try rw [g.fb]) <;> (try assumption)
  intro c p hc hp
  rw [← h1 c p hc hp]
  simp only [CpuE.den, stepE, IExp.den, BExp.den, AExp.den, g.fi, g.fb, g.fa]
end Go.Proofs.YtjnoacnbhcdidaaDoor.K
