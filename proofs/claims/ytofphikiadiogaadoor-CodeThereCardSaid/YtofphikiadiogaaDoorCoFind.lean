/- Find by letters; Number of a known text; the code's contracts. -/
import Derived.Test.YtofphikiadiogaaDoorCoPrint
namespace Go.Proofs.YtofphikiadiogaaDoor.K
open Go Sy
set_option maxRecDepth 100000
set_option linter.unusedVariables false
set_option linter.unusedSimpArgs false
def fdPs : List Sh := [.c .s]
def fdRs : List Sh := [.agg [.s, .i .u8, .i .i64, .i .i64], .c .b]
noncomputable def fdT : WT (SVal × St) := fnTree 1000 13 7 tabNm (gS true true) fdPs
theorem fdOk : fnOk fdRs fdT = true := by kernel_rfl
noncomputable def fdSpec : FnSpec 13 fdPs fdRs (GlobsAt true true) where
  F := fnF coSrc fdRs fdT
  calls := fun W hW lv hlv => fnSpec_run (s := coSrc) (by rfl) fdOk (fun W hG e hb hh hf => ⟨globs 7, hG.hrel ⟨fun i x h => by rw [hf] at h; simp at h, by rw [hb]; exact Nat.le_refl _, fun k _ => by rw [hh]⟩, globs_ok 7⟩)
    (fun W hG e ok hfi hfa hfb hb hh => coTab hG 7 7 ok hfi hfa hb hh) W hW lv hlv
/-- Number of a text that is known. -/
def tabNumL (f : Nat) : Tab := fun _ g args st => if g = f then (match args with
  | [.v (.c (.s A))] => (match cstOf A with
    | some l => if (l.all (fun x => decide (0 ≤ x) && decide (x ≤ 255)) && decide (l.length ≤ 1000)) = true then some (.leaf (.tup [.c (.i .i64 (.lit (Bits.numR l).1)), .c (.i .i64 (.lit (Bits.numR l).2))], st)) else none
    | none => none)
  | _ => none) else none
theorem tabNumL_ok {e : Env} (ok : EnvOk e) (G ov : Nat) : TabOk Tryd.prog G ov (tabNumL 28) e := by
  intro ro g args st t Z ht hov hz ρ vs W R hv ha hr hg hR
  unfold tabNumL at ht
  split at ht
  · rename_i hgf
    subst hgf
    split at ht
    · rename_i A
      split at ht
      · rename_i l hl
        split at ht
        · rename_i hc
          cases ht
          simp only [Bool.and_eq_true, decide_eq_true_eq] at hc
          have hin : ∀ x ∈ l, In .u8 x := fun x hx => by
            have := List.all_eq_true.1 hc.1 x hx
            simp only [Bool.and_eq_true, decide_eq_true_eq] at this
            exact u8_in this.1 this.2
          obtain ⟨v1, _, rfl, d1, rfl⟩ := hv
          have d1 : v1 = .string (strOf (A.den e)) := d1
          rw [cstOf_den hl] at d1
          subst d1
          have hs : ((strOf l).size : Int) ≤ IntKind.i64.max := by rw [strOf_size]; simp only [IntKind.max_i64]; omega
          refine (Bits.num_calls hs W).mono ?_
          rintro en W' ⟨rfl, hb⟩
          rw [ints_strOf hin]
          exact hR _ _ hz ρ _ W' (Post.of_below hr hb) ⟨_, rfl, _, _, rfl, congrArg _ (litD _ _).symm, _, _, rfl, congrArg _ (litD _ _).symm, rfl⟩ ha
        · cases ht
      · cases ht
    · cases ht
  · cases ht
def tabAw : Tab := fun ro f args st => match tabNm ro f args st with
  | some x => some x
  | none => tabNumL 28 ro f args st
theorem coAwake : (xCall Tryd.prog 7 plan tabAw 1000 7 14 [] ⟨gS true true, []⟩).all isT = true := by kernel_rfl
end Go.Proofs.YtofphikiadiogaaDoor.K
