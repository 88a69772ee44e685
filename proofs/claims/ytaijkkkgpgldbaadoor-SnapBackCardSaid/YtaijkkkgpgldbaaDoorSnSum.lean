/- The sum of bytes. -/
import Derived.Test.YtaijkkkgpgldbaaDoorKFr4
import Derived.Test.YtaijkkkgpgldbaaDoorSnChk
namespace Go.Proofs.YtaijkkkgpgldbaaDoor.K
open Go Sy
set_option maxRecDepth 100000
set_option linter.unusedVariables false
set_option linter.unusedSimpArgs false
def smStep (h x : Int) : Int := binDen .mul .u64 (binDen .xor .u64 h x) 1099511628211
def sumL (l : List Int) : Int := l.foldl smStep 14695981039346656037
def sumPs : List Shr := [.c (.row .u8)]
def sumRs : List Sh := [.c (.i .u64)]
def qSum : Path := [true, true, false, true, false]
abbrev suSl : SVal := .v (.c (.sl (some ⟨1, 0, none⟩) (.len (.var .u8 0)) none))
def suAs : Asm := [(.le (.var .i64 1000) (.lit (-1)), false), (.le (.var .i64 1000) (.len (.var .u8 0)), true)]
def pSuA : Pat := ⟨rH snG sumPs, 19, [(6, suSl), (7, .v (.c (.i .i64 (.len (.var .u8 0))))), (8, .v (.c (.i .i64 (.var .i64 1000)))), (3, .v (.c (.i .u64 (.var .u64 1001))))], suAs⟩
def pSuB : Pat := ⟨rH snG sumPs, 20, [(0, suSl), (4, .v (.c (.i .i64 (.var .i64 1000)))), (3, .v (.c (.i .u64 (.var .u64 1001))))], suAs⟩
def suPats (p : Pat) : Pats := [((qSum, 0), p)]
def suS : WT Sy.Go := .leaf (.go (qSum, 0) [.i .u64 1001 (.lit 14695981039346656037), .i .i64 1000 (.lit 0)])
abbrev suNext : IExp := .bin .mul .u64 (.bin .xor .u64 (.var .u64 1001) (.sel .u8 (.var .u8 0) (.var .i64 1000))) (.lit 1099511628211)
def suH : WT Sy.Go := .node (.lt (.var .i64 1000) (.len (.var .u8 0))) (.leaf (.go (qSum, 0) [.i .u64 1001 suNext, .i .i64 1000 (.bin .add .i64 (.var .i64 1000) (.lit 1))])) (.leaf (.done (.v (.c (.i .u64 (.var .u64 1001)))) ⟨rH snG sumPs, []⟩))
theorem suSA : rS 1000 23 noTab snG sumPs (suPats pSuA) = suS := by kernel_rfl
theorem suHA : rHd 1000 23 noTab snG sumPs (suPats pSuA) (qSum, 0) = suH := by kernel_rfl
theorem suSB : rS 1000 17 noTab snG sumPs (suPats pSuB) = suS := by kernel_rfl
theorem suHB : rHd 1000 17 noTab snG sumPs (suPats pSuB) (qSum, 0) = suH := by kernel_rfl
theorem smStep_in (h x : Int) : In .u64 (smStep h x) := wrap_in .u64 _
theorem sum_in : ∀ (l : List Int) (h : Int), In .u64 h → In .u64 (l.foldl smStep h)
  | [], _, hh => hh
  | x :: r, h, _ => sum_in r _ (smStep_in h x)
theorem sumL_in (l : List Int) : In .u64 (sumL l) := sum_in l _ (by unfold In; decide)
def sumF : List LV → List LV
  | [.a l] => [.i (sumL l)]
  | _ => []
theorem patAt_single {q k : Key} {p p' : Pat} (h : patAt [(k, p)] q = some p') : q = k ∧ p' = p := by
  have := patAt_mem' h
  simpa using this
theorem sum_calls {f : Nat} (p : Pat) (hp : p.as = suAs) (hhas : hasBody f = true) (hplain : plainB 1000 (rH snG sumPs).length (rH snG sumPs) (suPats p) = true) (hS : rS 1000 f noTab snG sumPs (suPats p) = suS) (hH : rHd 1000 f noTab snG sumPs (suPats p) (qSum, 0) = suH)
    (W : World) (hW : Pre snG W) (lv : List LV) (vs : List Value) (hlv : WfR (shrFlat sumPs) lv) (hvs : shrsIs W sumPs lv vs) :
    Calls Tryd.prog f vs.toArray W fun en W' => en = .returned (retV (shVals sumRs (sumF lv))) ∧ WfL (shFlat sumRs) (sumF lv) ∧ RowKit.Below W.heap.size W W' := by
  obtain ⟨l, rfl⟩ : ∃ l, lv = [.a l] := by
    rcases lv with _ | ⟨x, _ | ⟨y, r⟩⟩
    · exact hlv.elim
    · cases x with
      | a l => exact ⟨l, rfl⟩
      | b _ => exact hlv.1.elim
      | i _ => exact hlv.1.elim
    · exact hlv.2.elim
  obtain ⟨⟨hin, hlen⟩, _⟩ := hlv
  have htop : lenTop = 9223372036854775807 := rfl
  have asm : ∀ {e : Env}, e.a .u8 0 = l → (∃ i : Nat, e.i .i64 1000 = i ∧ i ≤ l.length) → AsmOk e suAs := by
    rintro e ha ⟨i, hi, hle⟩
    refine AsmOk.cons ?_ (AsmOk.cons ?_ (AsmOk.nil _)) <;> simp only [BExp.den, IExp.den, AExp.den, hi, ha]
    · exact decide_eq_false (by omega)
    · exact decide_eq_true (by omega)
  have get : ∀ {q : Key} {p' : Pat}, patAt (suPats p) q = some p' → q = (qSum, 0) ∧ p' = p := fun h => patAt_single h
  refine callR_cfg (n := 1000) (tab := noTab) (pats := suPats p) (by rfl) hhas hplain patAt_one snSrc0 (fun e ok _ _ _ _ => TabOk.none _ _ _ _) W hW [.a l] vs ⟨⟨hin, hlen⟩, trivial⟩ hvs
    ⟨fun _ e => ∃ i : Nat, e.i .i64 1000 = i ∧ i ≤ l.length ∧ e.i .u64 1001 = (l.take i).foldl smStep 14695981039346656037, fun _ e => l.length - (e.i .i64 1000).toNat⟩ [.i (sumL l)] ?_ ?_
  · intro e ok g _
    have ha : e.a .u8 0 = l := by rw [g.a .u8 0 (by omega)]; exact clipL_of (l := l) hin hlen
    rw [hS]
    have h1 : (Env.upd e e [.i .u64 1001 (.lit 14695981039346656037), .i .i64 1000 (.lit 0)]).i .i64 1000 = ((0 : Nat) : Int) := (updI rfl).trans (litD _ _)
    have h2 : (Env.upd e e [.i .u64 1001 (.lit 14695981039346656037), .i .i64 1000 (.lit 0)]).i .u64 1001 = 14695981039346656037 := (updI rfl).trans (litD _ _)
    have h3 : (Env.upd e e [.i .u64 1001 (.lit 14695981039346656037), .i .i64 1000 (.lit 0)]).a .u8 0 = l := (updA_none rfl).trans ha
    refine ⟨⟨p, rfl⟩, fun p' hp' => ?_, ⟨0, h1, Nat.zero_le _, by rw [h2]; rfl⟩, fun m hm => by cases hm⟩
    obtain ⟨_, rfl⟩ := get hp'
    rw [hp]
    exact asm h3 ⟨0, h1, Nat.zero_le _⟩
  · rintro q p' hq e ok g _ ⟨i, hi, hle, hs⟩
    obtain ⟨rfl, rfl⟩ := get hq
    have ha : e.a .u8 0 = l := by rw [g.a .u8 0 (by omega)]; exact clipL_of (l := l) hin hlen
    rw [hH]
    have q1 : (BExp.lt (.var .i64 1000) (.len (.var .u8 0))).den e = decide ((i : Int) < l.length) := by simp only [BExp.den, IExp.den, AExp.den, hi, ha]
    simp only [suH, WT.holds, q1, decide_eq_true_eq]
    split
    · rename_i hlt
      have hlt : i < l.length := by omega
      have h1 : (Env.upd e e [.i .u64 1001 suNext, .i .i64 1000 (.bin .add .i64 (.var .i64 1000) (.lit 1))]).i .i64 1000 = ((i + 1 : Nat) : Int) := by
        rw [updI rfl, binE, litD, show (IExp.var .i64 1000).den e = i from hi]; simp only [binDen]; rw [wrap64 (by omega) (by omega)]; simp
      have h2 : (Env.upd e e [.i .u64 1001 suNext, .i .i64 1000 (.bin .add .i64 (.var .i64 1000) (.lit 1))]).i .u64 1001 = (l.take (i + 1)).foldl smStep 14695981039346656037 := by
        rw [updI rfl, binE, binE, litD]
        rw [show (IExp.var .u64 1001).den e = (l.take i).foldl smStep 14695981039346656037 from hs]
        have hsel : (IExp.sel .u8 (.var .u8 0) (.var .i64 1000)).den e = l[i] := by
          simp only [IExp.den, AExp.den, ha, hi, Int.toNat_natCast]
          rw [List.getD_eq_getElem?_getD, List.getElem?_eq_getElem hlt]; rfl
        rw [hsel, List.take_succ_eq_append_getElem hlt, List.foldl_append]
        rfl
      have h3 : (Env.upd e e [.i .u64 1001 suNext, .i .i64 1000 (.bin .add .i64 (.var .i64 1000) (.lit 1))]).a .u8 0 = l := (updA_none rfl).trans ha
      refine ⟨⟨_, hq⟩, fun p' hp' => ?_, ⟨i + 1, h1, hlt, h2⟩, fun m hm => ?_⟩
      · obtain ⟨_, rfl⟩ := get hp'
        rw [hp]
        exact asm h3 ⟨i + 1, h1, hlt⟩
      · cases hm
        simp only [h1, hi, Int.toNat_natCast]
        omega
    · rename_i hge
      refine ⟨.i (.var .u64 1001) .nil, by rfl, ?_⟩
      simp only [LExp.den]
      rw [show (IExp.var .u64 1001).den e = (l.take i).foldl smStep 14695981039346656037 from hs, List.take_of_length_le (by omega)]
      rfl
def sumSpecOf {f : Nat} (h : ∀ (W : World), Pre snG W → ∀ (lv : List LV) (vs : List Value), WfR (shrFlat sumPs) lv → shrsIs W sumPs lv vs → Calls Tryd.prog f vs.toArray W fun en W' => en = .returned (retV (shVals sumRs (sumF lv))) ∧ WfL (shFlat sumRs) (sumF lv) ∧ RowKit.Below W.heap.size W W') : FnSpecR f sumPs sumRs snG :=
  ⟨sumF, snSrc0, [], fun W hW lv vs h1 h2 => (h W hW lv vs h1 h2).mono fun en W' ⟨a, b, c⟩ => ⟨a, b, fun _ => AsmOk.nil _, c⟩⟩
def sumSpecA : FnSpecR 23 sumPs sumRs snG := sumSpecOf (sum_calls pSuA rfl (by kernel_rfl) (by kernel_rfl) suSA suHA)
def sumSpecB : FnSpecR 17 sumPs sumRs snG := sumSpecOf (sum_calls pSuB rfl (by kernel_rfl) (by kernel_rfl) suSB suHB)
end Go.Proofs.YtaijkkkgpgldbaaDoor.K
