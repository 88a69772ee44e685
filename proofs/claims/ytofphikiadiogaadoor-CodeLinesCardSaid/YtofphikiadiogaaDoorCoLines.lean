/- CodeLines answers true. -/
import Derived.Test.YtofphikiadiogaaDoorCoParse2
namespace Go.Proofs.YtofphikiadiogaaDoor.K
open Go Sy
set_option maxRecDepth 100000
set_option linter.unusedVariables false
set_option linter.unusedSimpArgs false
theorem awake_calls (W : World) (hG : GlobsAt true true W) : Calls Tryd.prog 14 #[] W (Yes W) := by
  have ok := (Src.know coSrc0 W []).ok
  have hE : CoE (Src.know coSrc0 W []).env := coFa_env rfl
  have hE2 : CoE2 (Src.know coSrc0 W []).env := coFi_env rfl
  have hk : KnowsG true true (Src.know coSrc0 W []).env := ⟨W, rfl, rfl, hG⟩
  have hkn : Knows (Src.know coSrc0 W []).env W (globs 7) := ⟨fun i x h => by simp [Src.know, Src.env, coSrc0] at h, Nat.le_refl _, fun k _ => rfl⟩
  generalize (Src.know coSrc0 W []).env = E at ok hE hE2 hk hkn
  exact run_true (plan := plan) (tab := tabAw) (n := 1000) (G := 7) (ov := 7) (f := 14) ok mixed plan_ok LtOk.none (TabOk.or (TabOk.or (tabName_ok names_a ok hE hk 7 7) (tabFirst_ok first_a ok hE2 hk 7 7)) (tabNumL_ok ok 7 7)) (args := []) (vs := []) (h0 := gS true true) (ρ := globs 7) rfl (AsmOk.nil _) (hG.hrel hkn) (globs_ok 7) (Nat.le_refl _) coAwake
def tabLi : Tab := orTab (tabYes 14) (orTab tabLine (tabFn 16 21 prPs prRs))
theorem liRun : (xCall Tryd.prog 0 plan tabLi 1000 0 5 [.v (.c (.s (.var .u8 0)))] ⟨[], []⟩).all isT = true := by kernel_rfl
theorem lines_walk (a : ByteArray) (ha : (a.size : Int) ≤ IntKind.i64.max) (W : World) (hG : GlobsAt true true W) : Calls Tryd.prog 5 #[.string a] W (Yes W) := by
  have ok := (Src.know (envOf liSrc [.a (ints a)]) W []).ok
  have hfi : (Src.know (envOf liSrc [.a (ints a)]) W []).env.fi = liSrc.env.fi := rfl
  have hfa : (Src.know (envOf liSrc [.a (ints a)]) W []).env.fa = liSrc.env.fa := rfl
  have hfb : (Src.know (envOf liSrc [.a (ints a)]) W []).env.fb = liSrc.env.fb := rfl
  have hb : (Src.know (envOf liSrc [.a (ints a)]) W []).env.base = W.heap.size := rfl
  have hh : (Src.know (envOf liSrc [.a (ints a)]) W []).env.h0 = fun k => W.heap[k]? := rfl
  have hx : (Src.know (envOf liSrc [.a (ints a)]) W []).env.fx = [] := rfl
  have htop : lenTop = 9223372036854775807 := rfl
  have hl : (ints a).length = a.size := by rw [← strOf_size, strOf_ints]
  have e0 : (Src.know (envOf liSrc [.a (ints a)]) W []).env.a .u8 0 = ints a := clipL_of (l := ints a) (ints_in a) (by simp only [IntKind.max_i64] at ha; omega)
  generalize (Src.know (envOf liSrc [.a (ints a)]) W []).env = E at ok hfi hfa hfb hb hh hx e0
  have hk : KnowsG true true E := ⟨W, hb, hh, hG⟩
  have hr : HRel E 0 [] [] W := hrel_nil ⟨fun i x h => by rw [hx] at h; simp at h, by rw [hb]; exact Nat.le_refl _, fun k _ => by rw [hh]⟩
  refine run_true (plan := plan) (tab := tabLi) (n := 1000) (G := 0) (ov := 0) (f := 5) ok mixed plan_ok LtOk.none (orTab_ok (tabYes_ok awake_calls 0 0 (fun ρ W' ho => hk.at' ho)) (orTab_ok (tabLine_ok hG ok hfi hfa hfb hb hh 0 0) (tabFn_ok (by rfl) prSpec ok ((FnE.rows (liRow21.trans paRow21)).same hfi hfb hfa) 0 0 (fun ρ W' ho => hk.at' ho)))) (args := [.v (.c (.s (.var .u8 0)))]) (vs := [.string a]) (h0 := []) (ρ := []) ⟨_, _, rfl, ?_, rfl⟩ (AsmOk.nil _) hr (noGlob _) (Nat.le_refl _) liRun
  show Value.string a = .string (strOf (E.a .u8 0))
  rw [e0, strOf_ints]
abbrev laidB : List (String × DataW Unit) := [("vesper/code.rows", Rows.laid_vesper_code_rows), ("vesper/code.threes", Rows.laid_vesper_code_threes), ("vesper/code.sevens", Rows.laid_vesper_code_sevens), ("vesper/code.twelves", Rows.laid_vesper_code_twelves), ("vesper/code.fifteens", Rows.laid_vesper_code_fifteens), ("vesper/code.lengths", Rows.laid_vesper_code_lengths), ("vesper/code.digits", Rows.laid_vesper_code_digits)]
theorem codeLines_walk (W : World) (a : ByteArray) (ha : (a.size : Int) ≤ IntKind.i64.max) (hL : laidMetH Tryd.prog laidB W) : Calls Tryd.prog 5 #[.string a] W (Yes W) := lines_walk a ha W (globs_of hL (by kernel_rfl) true (fun x h => List.mem_append_left [("vesper/code.digits", Rows.laid_vesper_code_digits)] h) (fun _ => List.mem_append_right laidA (List.mem_singleton.2 rfl)))
end Go.Proofs.YtofphikiadiogaaDoor.K
