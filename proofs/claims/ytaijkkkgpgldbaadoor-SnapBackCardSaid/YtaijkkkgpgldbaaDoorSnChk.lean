/- The checks of a processor, of a raster, of a machine, by letters. -/
import Derived.Test.YtaijkkkgpgldbaaDoorKFr3
namespace Go.Proofs.YtaijkkkgpgldbaaDoor.K
open Go Sy
set_option maxRecDepth 100000
set_option linter.unusedVariables false
set_option linter.unusedSimpArgs false
/-- The one laid variable: pixie's shown lines. -/
def snG : SHeap := [some ([.c (.i .i64 (.lit 80)), .c (.i .i64 (.lit 207))], 93)]
/-- A processor's cells: R 0 to 15, D 16, DF 17, P 18, X 19, T 20, IE 21, Q 22, Op 23, B 24, Phase 25. -/
def cpuKs : List Fr := List.replicate 16 (.f (.i .u16)) ++ [.f (.i .u8), .f .b, .f (.i .u8), .f (.i .u8), .f (.i .u8), .f .b, .f .b, .f (.i .u8), .f (.i .u8), .f (.i .u8)]
/-- A raster's: Line, Cycle, On, Got. -/
def rasKs : List Fr := [.f (.i .i64), .f (.i .i64), .f .b, .f (.i .i64)]
/-- A machine's: the processor's, the raster's 26 to 29, the pad's latch 30, the latch 31, RAM 32, ROM 33, Cycles 34. -/
def bdKs : List Fr := cpuKs ++ (rasKs ++ [.f (.i .u8), .f .b, .row .u8, .row .u8, .f (.i .u64)])
def cpuPs : List Shr := [.agg cpuKs]
def rasPs : List Shr := [.agg rasKs]
def ckPs : List Shr := [.agg bdKs]
def ckRs : List Sh := [.c (.i .i64)]
def cpuFacts : Asm := [(.le (.var .u8 18) (.lit 15), true), (.le (.var .u8 19) (.lit 15), true)]
def rasFacts : Asm := [(.le (.var .i64 0) (.lit (-1)), false), (.le (.var .i64 0) (.lit 261), true), (.le (.var .i64 1) (.lit (-1)), false), (.le (.var .i64 1) (.lit 13), true), (.le (.var .i64 3) (.lit (-1)), false), (.le (.var .i64 3) (.lit 8), true)]
/-- What may be. -/
def ckFacts : Asm := [(.le (.len (.var .u8 32)) (.lit 2047), false), (.le (.len (.var .u8 32)) (.lit 32768), true), (.eq (.bin .rem .i64 (.len (.var .u8 32)) (.lit 2048)) (.lit 0), true), (.eq (.len (.var .u8 33)) (.lit 512), true),
  (.le (.var .i64 26) (.lit (-1)), false), (.le (.var .i64 26) (.lit 261), true), (.le (.var .i64 27) (.lit (-1)), false), (.le (.var .i64 27) (.lit 13), true), (.le (.var .i64 29) (.lit (-1)), false), (.le (.var .i64 29) (.lit 8), true),
  (.le (.var .u8 18) (.lit 15), true), (.le (.var .u8 19) (.lit 15), true), (.le (.var .u8 30) (.lit 15), true)]
noncomputable def chk2 (fs : Asm) (f' : Nat) (tab' : Tab) (ps : List Shr) (bs : Asm) (L : LExp) : Bool := chkZ fs bs L && allAre ckRs (rTree 1000 f' tab' snG ps bs) L
noncomputable def cpuT : WT (SVal × St) := rTree 1000 33 noTab snG cpuPs (canonRAs 0 (shrFlat cpuPs))
noncomputable def rasT : WT (SVal × St) := rTree 1000 34 noTab snG rasPs (canonRAs 0 (shrFlat rasPs))
def tabCk1 (c r : Nat) : Tab := orTab (tabFnC c 31 cpuPs ckRs (ctZ 31 (shrFlat cpuPs) cpuFacts)) (tabFnC r 32 rasPs ckRs (ctZ 32 (shrFlat rasPs) rasFacts))
noncomputable def ckT : WT (SVal × St) := rTree 1000 19 (tabCk1 33 34) snG ckPs (canonRAs 0 (shrFlat ckPs))
theorem cpuOk : treeOk ckRs (chk2 cpuFacts 62 noTab cpuPs) cpuT = true := by kernel_rfl
theorem rasOk : treeOk ckRs (chk2 rasFacts 63 noTab rasPs) rasT = true := by kernel_rfl
theorem ckOk : treeOk ckRs (chk2 ckFacts 24 (tabCk1 62 63) ckPs) ckT = true := by kernel_rfl
theorem chk2_ok {fs : Asm} {f' : Nat} {tab' : Tab} {ps : List Shr} (bs : Asm) (L : LExp) (h : chk2 fs f' tab' ps bs L = true) : chkZ fs bs L = true ∧ allAre ckRs (rTree 1000 f' tab' snG ps bs) L = true := by
  unfold chk2 at h
  simpa only [Bool.and_eq_true] using h
def snSrc0 : Src := { i := fun _ => [], b := [], a := fun _ _ => [] }
noncomputable def cpuF : List LV → List LV := fnF snSrc0 ckRs cpuT
noncomputable def rasF : List LV → List LV := fnF snSrc0 ckRs rasT
noncomputable def cpuSpecA : FnSpecR 33 cpuPs ckRs snG := ⟨cpuF, snSrc0, cpuFacts, fun W hW lv vs h1 h2 => fnSpecR_run (by rfl) (fun bs L h => (chk2_ok bs L h).1) cpuOk snSrc0 (fun e ok _ _ _ _ => TabOk.none _ _ _ _) W hW lv vs h1 h2⟩
noncomputable def cpuSpecB : FnSpecR 62 cpuPs ckRs snG := ⟨cpuF, snSrc0, cpuFacts, fun W hW lv vs h1 h2 => fnSpecR_same (by rfl) chk2_ok cpuOk snSrc0 (fun e ok _ _ _ _ => TabOk.none _ _ _ _) (fun e ok _ _ _ _ => TabOk.none _ _ _ _) W hW lv vs h1 h2⟩
noncomputable def rasSpecA : FnSpecR 34 rasPs ckRs snG := ⟨rasF, snSrc0, rasFacts, fun W hW lv vs h1 h2 => fnSpecR_run (by rfl) (fun bs L h => (chk2_ok bs L h).1) rasOk snSrc0 (fun e ok _ _ _ _ => TabOk.none _ _ _ _) W hW lv vs h1 h2⟩
noncomputable def rasSpecB : FnSpecR 63 rasPs ckRs snG := ⟨rasF, snSrc0, rasFacts, fun W hW lv vs h1 h2 => fnSpecR_same (by rfl) chk2_ok rasOk snSrc0 (fun e ok _ _ _ _ => TabOk.none _ _ _ _) (fun e ok _ _ _ _ => TabOk.none _ _ _ _) W hW lv vs h1 h2⟩
noncomputable def snRows1 : FnRows := [(31, cpuF), (32, rasF)]
theorem snRow31 : rowF snRows1 31 = some cpuF := rfl
theorem snRow32 : rowF snRows1 32 = some rasF := rfl
noncomputable def snSrc1 : Src := Src.fns snSrc0 snRows1
theorem tabCk1_ok {c r : Nat} (Sc : FnSpecR c cpuPs ckRs snG) (hc : Sc.F = cpuF) (hcf : Sc.fs = cpuFacts) (Sr : FnSpecR r rasPs ckRs snG) (hr : Sr.F = rasF) (hrf : Sr.fs = rasFacts) {e : Env} (ok : EnvOk e) (h31 : FnER e 31 cpuPs ckRs cpuF) (h32 : FnER e 32 rasPs ckRs rasF) (hk : KnowsP snG e) (G ov : Nat) : TabOk Tryd.prog G ov (tabCk1 c r) e :=
  orTab_ok (tabFnC_ok (by rfl) Sc ok (by rw [hc]; exact h31) hk (by rw [← hcf]; exact ctZ_ok Sc (r := []) rfl (by rw [hcf]; rfl) ok) G ov) (tabFnC_ok (by rfl) Sr ok (by rw [hr]; exact h32) hk (by rw [← hrf]; exact ctZ_ok Sr (r := []) rfl (by rw [hrf]; rfl) ok) G ov)
theorem tabCk1_a {e : Env} (ok : EnvOk e) (hi : e.fi = snSrc1.env.fi) (ha : e.fa = snSrc1.env.fa) (hb : e.fb = snSrc1.env.fb) (hk : KnowsP snG e) (G ov : Nat) : TabOk Tryd.prog G ov (tabCk1 33 34) e :=
  tabCk1_ok cpuSpecA rfl rfl rasSpecA rfl rfl ok ((FnER.rows snRow31).same hi hb ha) ((FnER.rows snRow32).same hi hb ha) hk G ov
theorem tabCk1_b {e : Env} (ok : EnvOk e) (hi : e.fi = snSrc1.env.fi) (ha : e.fa = snSrc1.env.fa) (hb : e.fb = snSrc1.env.fb) (hk : KnowsP snG e) (G ov : Nat) : TabOk Tryd.prog G ov (tabCk1 62 63) e :=
  tabCk1_ok cpuSpecB rfl rfl rasSpecB rfl rfl ok ((FnER.rows snRow31).same hi hb ha) ((FnER.rows snRow32).same hi hb ha) hk G ov
noncomputable def ckF : List LV → List LV := fnF snSrc1 ckRs ckT
noncomputable def ckSpecA : FnSpecR 19 ckPs ckRs snG := ⟨ckF, snSrc1, ckFacts, fun W hW lv vs h1 h2 => fnSpecR_run (by rfl) (fun bs L h => (chk2_ok bs L h).1) ckOk snSrc1 (fun e ok hi ha hb hk => tabCk1_a ok hi ha hb hk _ _) W hW lv vs h1 h2⟩
noncomputable def ckSpecB : FnSpecR 24 ckPs ckRs snG := ⟨ckF, snSrc1, ckFacts, fun W hW lv vs h1 h2 => fnSpecR_same (by rfl) chk2_ok ckOk snSrc1 (fun e ok hi ha hb hk => tabCk1_a ok hi ha hb hk _ _) (fun e ok hi ha hb hk => tabCk1_b ok hi ha hb hk _ _) W hW lv vs h1 h2⟩
end Go.Proofs.YtaijkkkgpgldbaaDoor.K
