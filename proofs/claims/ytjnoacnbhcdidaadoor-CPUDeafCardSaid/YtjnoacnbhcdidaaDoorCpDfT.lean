/- CPUDeaf: what is run is sound. -/
import Derived.Test.YtjnoacnbhcdidaaDoorCpDf0
namespace Go.Proofs.YtjnoacnbhcdidaaDoor.K
open Go Sy
set_option maxRecDepth 100000
set_option linter.unusedVariables false
set_option linter.unusedSimpArgs false
theorem eqv2_ok {e : Env} (ok : EnvOk e) {f : Nat} {args args' : List SVal} {vs vs' : List Value} {aq : Asm} (h : eqv2T f args args' aq = true) (hvs : SValsD e [(0, 0, 0)] args vs) (hvs' : SValsD e [(0, 0, 0)] args' vs') (ha : AsmOk e aq) {W : World} (hW : Laid W) :
    ∃ V, Calls Tryd.prog f vs.toArray W (Ret V W) ∧ Calls Tryd.prog f vs'.toArray W (Ret V W) := by
  obtain ⟨q, _, hq, hq2⟩ := allOne_pick e h
  obtain ⟨r, _, hr, hr2⟩ := allOne_pick e hq
  have c1 := run1_calls ok hvs ha hq2 hW
  obtain ⟨_, _, V1, ρ1, _, d1, ha1, _⟩ := calls_some c1
  have c2 := run1_calls ok hvs' ha1 hr2 hW
  obtain ⟨_, _, V2, ρ2, _, d2, ha2, _⟩ := calls_some c2
  obtain ⟨⟨V, v1⟩, ⟨V', v2⟩, hvv⟩ := sameVal_ok ok ha2 hr
  have : V = V' := by rw [← svalV_eq v1 d1, ← svalV_eq v2 d2]; exact hvv _ _ _ _ d1 d2
  subst this
  refine ⟨V, c1.mono ?_, c2.mono ?_⟩
  · rintro en W' ⟨V', ρ', rfl, hD, _, hb⟩
    exact ⟨by rw [svalV_eq v1 hD], hb⟩
  · rintro en W' ⟨V', ρ', rfl, hD, _, hb⟩
    exact ⟨by rw [svalV_eq v2 hD], hb⟩
structure Alike (m : Int) (dD dF dL : Bool) (p p' : Pins) : Prop where
  m1 : p.m = m
  m2 : p'.m = m
  d : dD = false → p.d = p'.d
  f : dF = false → p.f0 = p'.f0 ∧ p.f1 = p'.f1 ∧ p.f2 = p'.f2 ∧ p.f3 = p'.f3
  l : dL = false → p.i = p'.i ∧ p.o = p'.o ∧ p.t = p'.t
def DeafTo (c : Cpu) (m : Int) (dD dF dL : Bool) : Prop := ∀ p p', p.Ok → p'.Ok → Alike m dD dF dL p p' → (step c p).val = (step c p').val
theorem deaf_to {c : Cpu} (hc : c.Ok) {x y : IExp} {m : Int} {aq : Asm} {dD dF dL : Bool} (h : stepD x y m aq dD dF dL = true)
    (hxy : ∀ e : Env, e.i .u8 4 = c.Op → e.i .u8 6 = c.Ph → x.den e = c.Op ∧ y.den e = c.Ph ∧ AsmOk e aq) {W : World} (hW : Laid W) : DeafTo c m dD dF dL := by
  intro p p' hp hp' hA
  have ok := (srcQ c p p').ok
  have hh := srcQ_has hc p p'
  have h1 := srcQ_p (c := c) (q := p') hp
  have h2 := srcQ_q (c := c) (p := p) hp'
  generalize (srcQ c p p').env = e at ok hh h1 h2
  obtain ⟨hx, hy, ha⟩ := hxy e hh.Op hh.Ph
  obtain ⟨m1, m2, hd, hf, hl⟩ := hA
  have g1 : (pinsA m).den e = p := by
    rw [← h1]
    simp only [PinsE.den, pinsA, pinsX, Pins.mk.injEq, and_true]
    have := congrArg Pins.m h1
    rw [litD, ← m1, ← this]; rfl
  have g2 : (pinsB m dD dF dL).den e = p' := by
    have hm : m = (pinsX (.var .u8 9) 10 10).m.den e := by rw [← m2]; exact (congrArg Pins.m h2).symm
    have e1 : ((pinsX mode 8 3).den e) = p := h1
    rw [← h2]
    rw [← h1, ← h2] at hd hf hl
    simp only [PinsE.den, pinsX, IExp.den, BExp.den] at hd hf hl
    simp only [PinsE.den, pinsB, pinsX, Pins.mk.injEq]
    refine ⟨by rw [litD]; exact hm, ?_, ?_, ?_, ?_, ?_, ?_, ?_, ?_⟩
    · cases dD
      · exact hd rfl
      · rfl
    · cases dF
      · exact (hf rfl).1
      · rfl
    · cases dF
      · exact (hf rfl).2.1
      · rfl
    · cases dF
      · exact (hf rfl).2.2.1
      · rfl
    · cases dF
      · exact (hf rfl).2.2.2
      · rfl
    · cases dL
      · exact (hl rfl).1
      · rfl
    · cases dL
      · exact (hl rfl).2.1
      · rfl
    · cases dL
      · exact (hl rfl).2.2
      · rfl
  have D1 : (pinsA m).v.D e [(0, 0, 0)] p.val := by rw [← g1]; exact pinsE_D
  have D2 : (pinsB m dD dF dL).v.D e [(0, 0, 0)] p'.val := by rw [← g2]; exact pinsE_D
  obtain ⟨V, c1, c2⟩ := eqv2_ok ok h (vs := [c.val, p.val]) (vs' := [c.val, p'.val]) ⟨_, _, rfl, cpuX_D hh hc hx hy, _, _, rfl, D1, rfl⟩ ⟨_, _, rfl, cpuX_D hh hc hx hy, _, _, rfl, D2, rfl⟩ ha hW
  have s1 := ((step_is hc hp hW).2.2 W hW).1
  have s2 := ((step_is hc hp' hW).2.2 W hW).1
  rw [calls_det (by kernel_rfl) s1 c1, calls_det (by kernel_rfl) s2 c2]
theorem tabDeaf_ok {e : Env} (ok : EnvOk e) (he : CpuEnv e) (ov : Nat) {c : Cpu} (hc : c.Ok) {x y : IExp} (hx : (cpuX x y).den e = c) {m : Int} {dD dF dL drv : Bool} (hS : DeafTo c m dD dF dL) : TabOk Tryd.prog 1 ov (tabDeaf x y m dD dF dL drv) e := by
  intro ro f args st t Z ht hov hz ρ vs W R hv ha hr hg hR
  unfold tabDeaf at ht
  split at ht
  · rename_i hf
    subst hf
    split at ht
    · rename_i l b
      split at ht
      · rename_i p hp
        split at ht
        · rename_i hcond
          cases ht
          simp only [Bool.and_eq_true] at hcond
          obtain ⟨h0, ⟨⟨h1, h2⟩, h3⟩, h4⟩ := hcond
          obtain ⟨v1, _, rfl, d1, v2, _, rfl, d2, rfl⟩ := hv
          have := allSame_eq (fun a b h => Seg.same_eq h) h0
          subst this
          have d1 : (cpuX x y).v.D e ρ v1 := d1
          rw [pinsOf_eq hp] at d2
          obtain ⟨rfl, hl⟩ := CpuE.val_of d1
          have := PinsE.val_of d2
          subst this
          have hm : p.m.den e = m := by
            unfold isLit at h2
            split at h2
            · rename_i n hn
              rw [hn, litD]; exact of_decide_eq_true h2
            · cases h2
          have hmok : In .u8 (p.m.den e) := inKind_spec h3.1 (IExp.rng_ok ok ha _)
          have h3 := h3.2
          have hpok : (p.den e).Ok := ⟨hmok, inKind_spec h3 (IExp.rng_ok ok ha _)⟩
          have hnok : ((normP dD dF dL p).den e).Ok := by
            refine ⟨hmok, ?_⟩
            show In .u8 ((if dD then .lit 0 else p.d : IExp).den e)
            cases dD
            · exact hpok.2
            · exact u8_in (by rw [if_pos rfl, litD]; omega) (by rw [if_pos rfl, litD]; omega)
          have hlaid := laid_of hr hg h4
          have hal : Alike m dD dF dL (p.den e) ((normP dD dF dL p).den e) := by
            refine ⟨hm, hm, ?_, ?_, ?_⟩
            · rintro rfl; rfl
            · rintro rfl; exact ⟨rfl, rfl, rfl, rfl⟩
            · rintro rfl; exact ⟨rfl, rfl, rfl⟩
          have hval := hS _ _ hpok hnok hal
          have hden : (stepE ((cpuX x y).l (normP dD dF dL p).l)).den e = step c ((normP dD dF dL p).den e) := stepE_den he hc hnok (by rw [CpuE.l_den, PinsE.l_den, hx])
          have hD : ∀ ρ', (stepE ((cpuX x y).l (normP dD dF dL p).l)).v.D e ρ' (step c ((normP dD dF dL p).den e)).val := fun ρ' => by
            rw [← hden]
            refine CpuE.isV ?_
            have := (step_is hc hnok hlaid).1.hlen
            rw [← hden] at this
            exact this
          have hW := ((step_is hc hpok hlaid).2.2 W hlaid).1
          rw [hval] at hW
          rw [hx]
          refine hW.mono ?_
          rintro en W' ⟨rfl, hb⟩
          exact hR _ _ hz ρ _ W' (Post.of_below hr hb) (hD ρ) ha
        · cases ht
      · cases ht
    · cases ht
  split at ht
  · rename_i hf0 hf
    subst hf
    split at ht
    · exact tabCpu_ok ok he ov ro _ _ st t Z (by unfold tabCpu; rw [if_neg (by decide), if_pos (by decide)]; exact ht) hov hz ρ vs W R hv ha hr hg hR
    · cases ht
  · cases ht
end Go.Proofs.YtjnoacnbhcdidaaDoor.K
