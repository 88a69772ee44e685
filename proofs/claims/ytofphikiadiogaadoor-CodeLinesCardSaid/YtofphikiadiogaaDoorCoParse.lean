/- Parse by letters: what it answers, and what is known of it. -/
import Derived.Test.YtofphikiadiogaaDoorCoFind
import Derived.Test.YtofphikiadiogaaDoorKFnE
namespace Go.Proofs.YtofphikiadiogaaDoor.K
open Go Sy
set_option maxRecDepth 100000
set_option linter.unusedVariables false
set_option linter.unusedSimpArgs false
def tabPa : Tab := orTab (tabFn 13 22 fdPs fdRs) (orTab (tabNumL 28) (orTab (tabFn 28 20 numPs numRs) (tabFn 16 21 prPs prRs)))
def qPa : Path := [true, false, true, true, false, true, false]
abbrev paLen : IExp := .len (.var .u8 0)
def pPa : Pat := ⟨[some ([.c (.s (.cst [])), .c (.i .i64 (.lit 0))], 24)], 66, [(0, .v (.c (.s (.var .u8 0)))), (2, .v (.c (.p (some ⟨0, 0, none⟩)))), (3, .v (.c (.i .i64 (.lit 0)))), (4, .v (.c (.i .i64 paLen))), (16, .v (.c (.i .i64 paLen))), (17, .v (.c (.i .i64 (.var .i64 1000))))],
  [(.le (.var .i64 1000) (.lit (-1)), false), (.le (.var .i64 1000) paLen, true)]⟩
def paPats : Pats := [((qPa, 0), pPa)]
def paPs : List Sh := [.c .s]
def paRs : List Sh := [.agg [.s, .i .i64], .c (.i .i64)]
def paMu : Key → IExp := fun _ => .bin .sub .i64 paLen (.var .i64 1000)
def isNilA (A : AExp) : Bool := match cstOf A with
  | some [] => true
  | _ => false
def paChk (bs : Asm) (L : LExp) : Bool := match L with
  | .a N (.i X (.i E .nil)) => (match isLit E with
    | some c => if c = 0 then knows bs (.aeq (.fn .u8 21 0 (.a N (.i X .nil))) (.var .u8 0)) && knows bs (.eq (.fn .i64 21 1 (.a N (.i X .nil))) (.lit 0)) else (decide (c = 20) || decide (c = 21)) && isNilA N && isZ X
    | none => false)
  | _ => false
noncomputable def paS : WT Sy.Go := loopS 1000 15 0 tabPa [] paPats paPs
noncomputable def paH : WT Sy.Go := loopH 1000 15 0 tabPa [] paPats (qPa, 0)
theorem paStart : okT paRs paPats paMu paChk none (canonAs 0 (shFlat paPs)) paS = true := by kernel_rfl
theorem paHead : okT paRs paPats paMu paChk (some (paMu (qPa, 0))) pPa.as paH = true := by kernel_rfl
theorem paOk : LoopOk paRs paPats paMu paChk (canonAs 0 (shFlat paPs)) (loopS 1000 15 0 tabPa [] paPats paPs) (loopH 1000 15 0 tabPa [] paPats) := by
  refine ⟨paStart, ⟨fun q p h => ?_⟩⟩
  obtain ⟨rfl, rfl⟩ : q = (qPa, 0) ∧ p = pPa := by
    have := patAt_mem' h
    simpa [paPats] using this
  exact paHead
/-! ### The letters' values -/
def coSrc0 : Src := { i := fun _ => [], b := [], a := fun _ _ => [], fa := coFa, fi := coFi }
noncomputable def paRows : FnRows := [(20, numFn), (21, prSpec.F), (22, fdSpec.F)]
noncomputable def paSrc : Src := Src.fns coSrc0 paRows
theorem paRow20 : rowF paRows 20 = some numSpec.F := rfl
theorem paRow21 : rowF paRows 21 = some prSpec.F := rfl
theorem paRow22 : rowF paRows 22 = some fdSpec.F := rfl
theorem paTab {W : World} (hG : GlobsAt true true W) {e : Env} (ok : EnvOk e) (hfi : e.fi = paSrc.env.fi) (hfa : e.fa = paSrc.env.fa) (hfb : e.fb = paSrc.env.fb) (hb : e.base = W.heap.size) (hh : e.h0 = fun k => W.heap[k]?) : TabOk Tryd.prog 0 0 tabPa e := by
  have hk : KnowsG true true e := ⟨W, hb, hh, hG⟩
  refine orTab_ok (tabFn_ok (by rfl) fdSpec ok ((FnE.rows paRow22).same hfi hfb hfa) 0 0 (fun ρ W' ho => hk.at' ho)) (orTab_ok (tabNumL_ok ok 0 0) (orTab_ok (tabFn_ok (by rfl) numSpec ok ((FnE.rows paRow20).same hfi hfb hfa) 0 0 (fun ρ W' ho => trivial)) (tabFn_ok (by rfl) prSpec ok ((FnE.rows paRow21).same hfi hfb hfa) 0 0 (fun ρ W' ho => hk.at' ho))))
/-- What is known of an answer of Parse. -/
def PaFact (s : Src) (lv r : List LV) : Prop := ∃ n x c, r = [.a n, .i x, .i c] ∧ (c = 0 → s.env.fa .u8 21 0 [.a n, .i x] = (envOf s lv).env.a .u8 0 ∧ s.env.fi .i64 21 1 [.a n, .i x] = 0) ∧ (c ≠ 0 → n = [] ∧ x = 0 ∧ (c = 20 ∨ c = 21))
theorem isNilA_den {e : Env} {A : AExp} (h : isNilA A = true) : A.den e = [] := by
  unfold isNilA at h
  split at h
  · rename_i hc; exact cstOf_den hc
  · cases h
theorem paFact (s : Src) (lv : List LV) : ChkOk (envOf s lv).env paChk (PaFact s lv) := by
  intro e bs L ok g ha hc
  unfold paChk at hc
  split at hc
  · rename_i N X E
    split at hc
    · rename_i c hE
      have hE := isLit_eq hE
      subst hE
      refine ⟨N.den e, X.den e, c, by simp only [LExp.den, litD], fun h0 => ?_, fun h0 => ?_⟩
      · rw [if_pos h0] at hc
        simp only [Bool.and_eq_true] at hc
        have h1 : e.fa .u8 21 0 [.a (N.den e), .i (X.den e)] = e.a .u8 0 := by
          have := knows_ok ok ha hc.1
          simp only [BExp.den] at this
          have := of_decide_eq_true this
          simpa only [AExp.den, LExp.den] using this
        have h2 : e.fi .i64 21 1 [.a (N.den e), .i (X.den e)] = 0 := by
          have := knows_ok ok ha hc.2
          simp only [BExp.den] at this
          have := of_decide_eq_true this
          simpa only [IExp.den, LExp.den, litD] using this
        rw [g.fa, g.a .u8 0 (by omega)] at h1
        rw [g.fi] at h2
        exact ⟨h1, h2⟩
      · rw [if_neg h0] at hc
        simp only [Bool.and_eq_true, Bool.or_eq_true, decide_eq_true_eq] at hc
        exact ⟨isNilA_den hc.1.2, by rw [isZ_eq hc.2, litD], hc.1.1⟩
    · cases hc
  · cases hc
theorem hrel_nil {e : Env} {W : World} (hk : Knows e W []) : HRel e 0 [] [] W := HRel.ro rfl (fun i l t hi => by simp at hi) hk
end Go.Proofs.YtofphikiadiogaaDoor.K
