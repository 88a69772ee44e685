/- Print by letters. -/
import Derived.Test.YtofphikiadiogaaDoorCoNum
namespace Go.Proofs.YtofphikiadiogaaDoor.K
open Go Sy
set_option maxRecDepth 100000
set_option linter.unusedVariables false
set_option linter.unusedSimpArgs false
theorem prOk : fnOk prRs prT = true := by kernel_rfl
def coSrc : Src := { i := fun _ => [], b := [], a := fun _ _ => [], fa := coFa, fi := coFi }
theorem coTab {W : World} (hG : GlobsAt true true W) (G ov : Nat) {e : Env} (ok : EnvOk e) (hfi : e.fi = coSrc.env.fi) (hfa : e.fa = coSrc.env.fa) (hb : e.base = W.heap.size) (hh : e.h0 = fun k => W.heap[k]?) : TabOk Tryd.prog G ov tabNm e :=
  TabOk.or (tabName_ok (len := true) (dig := true) names_a ok ⟨fun v hv => by rw [hfa]; exact (coFa_env (s := coSrc) rfl).name v hv⟩ ⟨W, hb, hh, hG⟩ G ov)
    (tabFirst_ok (len := true) (dig := true) first_a ok ⟨fun l => by rw [hfi]; exact (coFi_env (s := coSrc) rfl).first l⟩ ⟨W, hb, hh, hG⟩ G ov)
noncomputable def prSpec : FnSpec 16 prPs prRs (GlobsAt true true) where
  F := fnF coSrc prRs prT
  calls := fun W hW lv hlv => fnSpec_run (s := coSrc) (by rfl) prOk (fun W hG e hb hh hf => ⟨globs 7, hG.hrel ⟨fun i x h => by rw [hf] at h; simp at h, by rw [hb]; exact Nat.le_refl _, fun k _ => by rw [hh]⟩, globs_ok 7⟩)
    (fun W hG e ok hfi hfa hfb hb hh => coTab hG 7 7 ok hfi hfa hb hh) W hW lv hlv
/-- The letters of the code's laws: names and first ops as before, Number 20, Print 21. -/
def tabCode : Tab := fun ro f args st => match tabNm ro f args st with
  | some x => some x
  | none => match tabFn 28 20 numPs numRs ro f args st with
    | some x => some x
    | none => tabFn 16 21 prPs prRs ro f args st
end Go.Proofs.YtofphikiadiogaaDoor.K
