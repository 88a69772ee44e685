/- The snap's contracts: Check, Save, Load, Same; awake. -/
import Derived.Test.YtaijkkkgpgldbaaDoorSnSvA
import Derived.Test.YtaijkkkgpgldbaaDoorSnSvB
import Derived.Test.YtaijkkkgpgldbaaDoorSnLdA
import Derived.Test.YtaijkkkgpgldbaaDoorSnLdB
import Derived.Test.YtaijkkkgpgldbaaDoorKPat
namespace Go.Proofs.YtaijkkkgpgldbaaDoor.K
open Go Sy
set_option maxRecDepth 100000
set_option linter.unusedVariables false
set_option linter.unusedSimpArgs false
noncomputable def snRows : FnRows := [(30, ckF), (33, sumF), (31, cpuF), (32, rasF)]
theorem snRow30 : rowF snRows 30 = some ckF := rfl
theorem snRow33 : rowF snRows 33 = some sumF := rfl
noncomputable def snSrc : Src := Src.fns snSrc0 snRows
/-- A reading of the snap's letters. -/
structure SnE (e : Env) : Prop where
  ok : EnvOk e
  hi : e.fi = snSrc.env.fi
  ha : e.fa = snSrc.env.fa
  hb : e.fb = snSrc.env.fb
  hk : KnowsP snG e
theorem tabCk_ok {f : Nat} (S : FnSpecR f ckPs ckRs snG) (hF : S.F = ckF) (hfs : S.fs = ckFacts) {e : Env} (h : SnE e) (G ov : Nat) : TabOk Tryd.prog G ov (tabCk f) e :=
  tabFnC_ok (by rfl) S h.ok (by rw [hF]; exact (FnER.rows snRow30).same h.hi h.hb h.ha) h.hk (by rw [← hfs]; exact ctZ_ok S (r := []) rfl (by rw [hfs]; rfl) h.ok) G ov
theorem tabS_ok {f : Nat} (S : FnSpecR f sumPs sumRs snG) (hF : S.F = sumF) {e : Env} (h : SnE e) (G ov : Nat) : TabOk Tryd.prog G ov (tabFnC f 33 sumPs sumRs noCt) e :=
  tabFnC_ok (by rfl) S h.ok (by rw [hF]; exact (FnER.rows snRow33).same h.hi h.hb h.ha) h.hk (noCt_ok _ _ _) G ov
theorem tabSvA_ok {e : Env} (h : SnE e) (G ov : Nat) : TabOk Tryd.prog G ov (tabSv 19 23) e :=
  orTab_ok (tabCk_ok ckSpecA rfl rfl h G ov) (orTab_ok (tabS_ok sumSpecA rfl h G ov) (tabFl_ok h.ok h.hk G ov))
theorem tabSvB_ok {e : Env} (h : SnE e) (G ov : Nat) : TabOk Tryd.prog G ov (tabSv 24 17) e :=
  orTab_ok (tabCk_ok ckSpecB rfl rfl h G ov) (orTab_ok (tabS_ok sumSpecB rfl h G ov) (tabFl_ok h.ok h.hk G ov))
theorem tabLdA_ok {e : Env} (h : SnE e) (G ov : Nat) : TabOk Tryd.prog G ov (tabLd 19 23) e :=
  orTab_ok (tabCk_ok ckSpecA rfl rfl h G ov) (tabS_ok sumSpecA rfl h G ov)
theorem tabLdB_ok {e : Env} (h : SnE e) (G ov : Nat) : TabOk Tryd.prog G ov (tabLd 24 17) e :=
  orTab_ok (tabCk_ok ckSpecB rfl rfl h G ov) (tabS_ok sumSpecB rfl h G ov)
theorem svA_summ {e : Env} (h : SnE e) : Summ 11 snG ckPs svAT e := by
  rw [← svA]; exact summ_slim (summ_cmp (summ_run h.ok (tabSvA_ok h _ _)))
theorem svB_summ {e : Env} (h : SnE e) : Summ 13 snG ckPs svBT e := by
  rw [← svB]; exact summ_slim (summ_cmp (summ_run h.ok (tabSvB_ok h _ _)))
theorem ldA_summ {e : Env} (h : SnE e) : Summ 14 snG ldPs ldAT e := by
  rw [← ldA]; exact summ_slim (summ_cmp (summ_run h.ok (tabLdA_ok h _ _)))
theorem ldB_summ {e : Env} (h : SnE e) : Summ 15 snG ldPs ldBT e := by
  rw [← ldB]; exact summ_slim (summ_cmp (summ_run h.ok (tabLdB_ok h _ _)))
theorem svAOk : treeOkS (callLay (shrFlat ckPs) [] [] snG.length (rH snG ckPs).length 0) svAT = true := by kernel_rfl
theorem svBOk : treeOkS (callLay (shrFlat ckPs) [] [] snG.length (rH snG ckPs).length 0) svBT = true := by kernel_rfl
theorem ldAOk : treeOkS (callLay (shrFlat ldPs) [] [] snG.length (rH snG ldPs).length 0) ldAT = true := by kernel_rfl
theorem ldBOk : treeOkS (callLay (shrFlat ldPs) [] [] snG.length (rH snG ldPs).length 0) ldBT = true := by kernel_rfl
def tabSvs : Tab := orTab (tabSum' 11 snG ckPs svAT) (tabSum' 13 snG ckPs svBT)
def tabLds : Tab := orTab (tabSum' 14 snG ldPs ldAT) (tabSum' 15 snG ldPs ldBT)
theorem SnE.of {e E : Env} (h : SnE e) (ok : EnvOk E) (hi : E.fi = e.fi) (ha : E.fa = e.fa) (hb : E.fb = e.fb) (hk : KnowsP snG E) : SnE E := ⟨ok, hi.trans h.hi, ha.trans h.ha, hb.trans h.hb, hk⟩
theorem tabSvs_ok {e : Env} (h : SnE e) (G ov : Nat) (hG : snG.length ≤ G) : TabOk Tryd.prog G ov tabSvs e :=
  orTab_ok (tabSum'_ok (by rfl) svAOk h.ok h.hk (fun E ok hi ha hb hk => svA_summ (h.of ok hi ha hb hk)) G ov hG) (tabSum'_ok (by rfl) svBOk h.ok h.hk (fun E ok hi ha hb hk => svB_summ (h.of ok hi ha hb hk)) G ov hG)
theorem tabLds_ok {e : Env} (h : SnE e) (G ov : Nat) (hG : snG.length ≤ G) : TabOk Tryd.prog G ov tabLds e :=
  orTab_ok (tabSum'_ok (by rfl) ldAOk h.ok h.hk (fun E ok hi ha hb hk => ldA_summ (h.of ok hi ha hb hk)) G ov hG) (tabSum'_ok (by rfl) ldBOk h.ok h.hk (fun E ok hi ha hb hk => ldB_summ (h.of ok hi ha hb hk)) G ov hG)
def tabSame : Tab := tabSm 16 (.agg bdKs)
theorem tabSame_ok {e : Env} (h : SnE e) (G ov : Nat) : TabOk Tryd.prog G ov tabSame e :=
  tabSm_ok (gs := snG) (fun W hW lv v v' h1 h2 h3 => same_calls W hW lv v v' h1 h2 h3) h.ok h.hk G ov
/-- Save, Load, Same. -/
def tabSn0 : Tab := orTab tabSvs (orTab tabLds tabSame)
theorem tabSn0_ok {e : Env} (h : SnE e) (G ov : Nat) (hG : snG.length ≤ G) : TabOk Tryd.prog G ov tabSn0 e := orTab_ok (tabSvs_ok h G ov hG) (orTab_ok (tabLds_ok h G ov hG) (tabSame_ok h G ov))
end Go.Proofs.YtaijkkkgpgldbaaDoor.K
