/- Parse by letters: the contract. -/
import Derived.Test.YtofphikiadiogaaDoorCoParse
namespace Go.Proofs.YtofphikiadiogaaDoor.K
open Go Sy
set_option maxRecDepth 100000
set_option linter.unusedVariables false
set_option linter.unusedSimpArgs false
noncomputable def paF : List LV → List LV := loopF paSrc paRs (loopS 1000 15 0 tabPa [] paPats paPs) (loopH 1000 15 0 tabPa [] paPats)
noncomputable def paSpec : FnSpec 15 paPs paRs (GlobsAt true true) where
  F := paF
  calls := fun W hW lv hlv => fnSpec_loop (G := 0) (gs := []) (by rfl) (by kernel_rfl) paOk (Nat.le_refl _) (by kernel_rfl) patAt_one paSrc (fun W hG e hb hh hf => ⟨[], hrel_nil ⟨fun i x h => by rw [hf] at h; simp at h, by rw [hb]; exact Nat.le_refl _, fun k _ => by rw [hh]⟩, noGlob _⟩)
    (fun W hG e ok hfi hfa hfb hb hh => paTab hG ok hfi hfa hfb hb hh) W hW lv hlv ⟨_, paFact paSrc lv⟩
theorem paF_fact {lv : List LV} (h : WfL (shFlat paPs) lv) : PaFact paSrc lv (paF lv) := by
  obtain ⟨n, h1, h2⟩ := loop_fact paOk paSrc h (paFact paSrc lv)
  exact h2
/-! ### The contract -/
noncomputable def liRows : FnRows := (23, paF) :: paRows
theorem liRow23 : rowF liRows 23 = some paF := rfl
theorem liRow21 : rowF liRows 21 = rowF paRows 21 := rfl
noncomputable def liSrc : Src := Src.fns coSrc0 liRows
def liFacts (A : AExp) (L : LExp) : Asm := [(.aeq (.fn .u8 21 0 (.a (.fn .u8 23 0 L) (.i (.fn .i64 23 1 L) .nil))) A, true), (.eq (.fn .i64 21 1 (.a (.fn .u8 23 0 L) (.i (.fn .i64 23 1 L) .nil))) (.lit 0), true)]
def tabLine : Tab := fun _ g args st => if g = 15 then (match args with
  | [.v (.c (.s A))] => if A.inK st.as .u8 = true ∧ fitsLen st.as A = true then
      some (.node (.eq (.fn .i64 23 2 (.a A .nil)) (.lit 0)) (.leaf (.tup [.agg [.c (.s (.fn .u8 23 0 (.a A .nil))), .c (.i .i64 (.fn .i64 23 1 (.a A .nil)))], .c (.i .i64 (.lit 0))], ⟨st.h, liFacts A (.a A .nil) ++ st.as⟩))
        (.node (.eq (.fn .i64 23 2 (.a A .nil)) (.lit 20)) (.leaf (.tup [.agg [.c (.s (.cst [])), .c (.i .i64 (.lit 0))], .c (.i .i64 (.lit 20))], st)) (.leaf (.tup [.agg [.c (.s (.cst [])), .c (.i .i64 (.lit 0))], .c (.i .i64 (.lit 21))], st)))) else none
  | _ => none) else none
theorem tabLine_ok {W0 : World} (hG : GlobsAt true true W0) {e : Env} (ok : EnvOk e) (hfi : e.fi = liSrc.env.fi) (hfa : e.fa = liSrc.env.fa) (hfb : e.fb = liSrc.env.fb) (hb : e.base = W0.heap.size) (hh : e.h0 = fun k => W0.heap[k]?) (G ov : Nat) : TabOk Tryd.prog G ov tabLine e := by
  have hk : KnowsG true true e := ⟨W0, hb, hh, hG⟩
  have h23 : FnE e 23 paPs paRs paF := (FnE.rows liRow23).same hfi hfb hfa
  intro ro g args st t Z ht hov hz ρ vs W R hv ha hr hg hR
  unfold tabLine at ht
  split at ht
  · rename_i hgf
    subst hgf
    split at ht
    · rename_i A
      split at ht
      · rename_i hc
        obtain ⟨c1, c2⟩ := hc
        cases ht
        obtain ⟨v1, _, rfl, d1, rfl⟩ := hv
        have d1 : v1 = .string (strOf (A.den e)) := d1
        subst d1
        have hin := AExp.inK_ok ok ha _ _ c1
        have hlen := fitsLen_ok ok ha c2
        have hlv : WfL (shFlat paPs) [.a (A.den e)] := ⟨⟨hin, hlen⟩, trivial⟩
        obtain ⟨n, x, c, hr0, f0, f1⟩ := paF_fact hlv
        have hcalls := paSpec.calls W (hk.at' hr.old) [.a (A.den e)] hlv
        have hF : paSpec.F [.a (A.den e)] = [.a n, .i x, .i c] := hr0
        rw [hF] at hcalls
        refine hcalls.mono ?_
        rintro en W' ⟨rfl, hwf, hbel⟩
        have hA : (envOf paSrc [.a (A.den e)]).env.a .u8 0 = A.den e := clipL_of hin hlen
        rw [hA] at f0
        have hle := h23 [.a (A.den e)] hlv (by rw [hr0]; exact hwf)
        rw [hr0] at hle
        obtain ⟨l0, l1, l2, _⟩ := hle
        have l0 : e.fa .u8 23 0 [.a (A.den e)] = n := l0
        have l1 : e.fi .i64 23 1 [.a (A.den e)] = x := l1
        have l2 : e.fi .i64 23 2 [.a (A.den e)] = c := l2
        have hsf : e.fa .u8 21 = paSrc.env.fa .u8 21 := by rw [hfa]; exact fns_fa liRow21 _
        have hsi : e.fi .i64 21 = paSrc.env.fi .i64 21 := by rw [hfi]; exact fns_fi liRow21 _
        have hP := Post.of_below (ov := ov) (ro := ro) hr hbel
        simp only [WT.holds, BExp.den, IExp.den, LExp.den, AExp.den, l2, decide_eq_true_eq] at hz
        have e0 : retV (shVals paRs [.a n, .i x, .i c]) = .tuple #[.agg #[.string (strOf n), .int .i64 x], .int .i64 c] := rfl
        rw [e0]
        split at hz
        · rename_i h0
          obtain ⟨p0, p1⟩ := f0 h0
          refine hR _ _ hz ρ _ W' hP ⟨_, rfl, _, _, rfl, ⟨_, rfl, _, _, rfl, ?_, _, _, rfl, ?_, rfl⟩, _, _, rfl, ?_, rfl⟩ (AsmOk.cons ?_ (AsmOk.cons ?_ ha))
          · show Value.string (strOf n) = .string (strOf _)
            rw [show (AExp.fn .u8 23 0 (.a A .nil)).den e = n by simp only [AExp.den, LExp.den, l0]]
          · show Value.int .i64 x = .int .i64 _
            rw [show (IExp.fn .i64 23 1 (.a A .nil)).den e = x by simp only [IExp.den, LExp.den, l1]]
          · show Value.int .i64 c = .int .i64 _
            rw [litD, h0]
          · simp only [BExp.den, AExp.den, IExp.den, LExp.den, l0, l1, hsf, p0, decide_true]
          · simp only [BExp.den, AExp.den, IExp.den, LExp.den, l0, l1, hsi, p1, decide_true]
        · rename_i h0
          obtain ⟨rfl, rfl, hcc⟩ := f1 h0
          have hgo : ∀ k : Int, c = k → Z (.tup [.agg [.c (.s (.cst [])), .c (.i .i64 (.lit 0))], .c (.i .i64 (.lit k))], st) → R (Ending.returned (.tuple #[.agg #[.string (strOf []), .int .i64 0], .int .i64 c])) W' := by
            intro k hck hz
            subst hck
            refine hR _ _ hz ρ _ W' hP ⟨_, rfl, _, _, rfl, ⟨_, rfl, _, _, rfl, ?_, _, _, rfl, ?_, rfl⟩, _, _, rfl, ?_, rfl⟩ ha
            · show Value.string (strOf []) = .string (strOf ((AExp.cst []).den e))
              simp only [AExp.den]
            · show Value.int .i64 0 = .int .i64 _
              rw [litD]
            · show Value.int .i64 c = .int .i64 _
              rw [litD]
          split at hz
          · rename_i h20; exact hgo 20 h20 hz
          · rename_i h20
            rcases hcc with h | h
            · exact absurd h h20
            · exact hgo 21 h hz
      · cases ht
    · cases ht
  · cases ht
end Go.Proofs.YtofphikiadiogaaDoor.K
