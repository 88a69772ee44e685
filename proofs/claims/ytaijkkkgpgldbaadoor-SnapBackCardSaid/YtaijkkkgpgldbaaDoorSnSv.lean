/- Yes or no as a byte. -/
import Derived.Test.YtaijkkkgpgldbaaDoorSnAll
import Derived.Test.YtaijkkkgpgldbaaDoorKSum3
namespace Go.Proofs.YtaijkkkgpgldbaaDoor.K
open Go Sy
set_option maxRecDepth 100000
set_option linter.unusedVariables false
set_option linter.unusedSimpArgs false
def flPs : List Shr := [.c (.f .b)]
def flRs : List Sh := [.c (.i .u8)]
noncomputable def flT (f : Nat) : WT (SVal × St) := rTree 100 f noTab snG flPs (canonRAs 0 (shrFlat flPs))
def flTree : WT (SVal × St) := .node (.var 0) (.leaf (.v (.c (.i .u8 (.lit 1))), ⟨snG, [(.var 0, true)]⟩)) (.leaf (.v (.c (.i .u8 (.lit 0))), ⟨snG, [(.var 0, false)]⟩))
theorem flA : flT 68 = flTree := by kernel_rfl
theorem flB : flT 26 = flTree := by kernel_rfl
theorem flOk : treeOk flRs (fun _ _ => true) flTree = true := by kernel_rfl
def flagI (b : Bool) : Int := if b = true then 1 else 0
theorem flF (s : Src) (x : Bool) : fnF s flRs flTree [.b x] = [.i (flagI x)] := by
  cases x <;> rfl
theorem flag_calls {f : Nat} (hT : flT f = flTree) (W : World) (hW : Pre snG W) (x : Bool) : Calls Tryd.prog f #[.bool x] W fun en W' => en = .returned (.int .u8 (flagI x)) ∧ RowKit.Below W.heap.size W W' := by
  have hT : rTree 100 f noTab snG flPs (canonRAs 0 (shrFlat flPs)) = flTree := hT
  have h := fnSpecR_run (n := 100) (f := f) (tab := noTab) (gs := snG) (ps := flPs) (rs := flRs) (chk := fun _ _ => true) (fs := []) (by rfl) (fun _ _ _ => rfl) (by rw [hT]; exact flOk) snSrc0 (fun e ok _ _ _ _ => TabOk.none _ _ _ _) W hW [.b x] [.bool x] ⟨trivial, trivial⟩ ⟨.bool x, [], rfl, ⟨[.bool x], [], rfl, rfl, rfl⟩, rfl, rfl⟩
  rw [hT] at h
  refine h.mono ?_
  rintro en W' ⟨rfl, _, _, hb⟩
  refine ⟨?_, hb⟩
  rw [flF]
  rfl
/-- A truth as a byte's text. -/
def bitT : BExp → IExp
  | .lit true => .lit 1
  | .lit false => .lit 0
  | b => .bit b
theorem bitT_den (e : Env) (b : BExp) : (bitT b).den e = flagI (b.den e) := by
  unfold bitT flagI
  split <;> simp only [IExp.den, BExp.den] <;> rfl
def tabFlag (f : Nat) : Tab := fun _ g args st => if g = f then (match args with
  | [.v (.c (.b x))] => some (.leaf (.v (.c (.i .u8 (bitT x))), st))
  | _ => none) else none
theorem tabFlag_ok {f : Nat} (hT : flT f = flTree) {e : Env} (ok : EnvOk e) (hk : KnowsP snG e) (G ov : Nat) : TabOk Tryd.prog G ov (tabFlag f) e := by
  intro ro g args st t Z ht hov hz ρ vs W R hv ha hr hg hR
  unfold tabFlag at ht
  split at ht
  · rename_i hgf
    subst hgf
    split at ht
    · rename_i x
      cases ht
      obtain ⟨v1, _, rfl, d1, rfl⟩ := hv
      have d1 : v1 = .bool (x.den e) := d1
      subst d1
      refine (flag_calls hT W (hk.at' hr.old) (x.den e)).mono ?_
      rintro en W' ⟨rfl, hb⟩
      exact hR _ _ hz ρ _ W' (Post.of_below hr hb) (by show _ = Value.int .u8 ((bitT x).den e); rw [bitT_den]) ha
    · cases ht
  · cases ht
/-- Both. -/
def tabFl : Tab := orTab (tabFlag 68) (tabFlag 26)
theorem tabFl_ok {e : Env} (ok : EnvOk e) (hk : KnowsP snG e) (G ov : Nat) : TabOk Tryd.prog G ov tabFl e := orTab_ok (tabFlag_ok flA ok hk G ov) (tabFlag_ok flB ok hk G ov)

/-! Summaries of Save. -/
def tabSv (ck sm : Nat) : Tab := orTab (tabCk ck) (orTab (tabFnC sm 33 sumPs sumRs noCt) tabFl)
noncomputable def svT0 : WT (SVal × St) := slimW ((rTree 2000 11 (tabSv 19 23) snG ckPs (canonRAs 0 (shrFlat ckPs))).map (cmpQ (rH snG ckPs).length)) []
noncomputable def svR0 : WT (SVal × St) := slimW ((rTree 2000 13 (tabSv 24 17) snG ckPs (canonRAs 0 (shrFlat ckPs))).map (cmpQ (rH snG ckPs).length)) []

/-! Summaries of Load. -/
def ldPs : List Shr := [.c (.row .u8)]
def tabLd (ck sm : Nat) : Tab := orTab (tabCk ck) (tabFnC sm 33 sumPs sumRs noCt)
noncomputable def ldRun (n f ck sm : Nat) : WT (SVal × St) := rTree n f (tabLd ck sm) snG ldPs (canonRAs 0 (shrFlat ldPs))
noncomputable def ldT0 : WT (SVal × St) := slimW ((ldRun 2000 14 19 23).map (cmpQ (rH snG ldPs).length)) []
noncomputable def ldR0 : WT (SVal × St) := slimW ((ldRun 2000 15 24 17).map (cmpQ (rH snG ldPs).length)) []
end Go.Proofs.YtaijkkkgpgldbaaDoor.K
