/- SnapMade: the law. -/
import Derived.Test.YtaijkkkgpgldbaaDoorSnAwake
namespace Go.Proofs.YtaijkkkgpgldbaaDoor.K
open Go Sy
set_option maxRecDepth 100000
set_option linter.unusedVariables false
set_option linter.unusedSimpArgs false
/-- The machine's letters 0 to 34; the places' 35, the turns' 36. -/
def mdPs : List Shr := [.agg bdKs, .c (.row .i64), .c (.row .u8)]
def qMd1 : Path := [true, true, true, true, true, false, true, false]
def qMd2 : Path := [true, true, true, true, true, true, true, false, true, false]
def mdSl (b : Nat) (n : IExp) : SVal := .v (.c (.sl (some ⟨b, 0, none⟩) n none))
def mdH : SHeap := rH snG mdPs ++ [some ([.row .u8 (.var .u8 1000)], 0)]
def mdN : Asm := [(.eq (.var .i64 1002) (.bin .add .i64 (.var .i64 1005) (.lit 8)), true), (.eq (.len (.var .u8 1000)) (.var .i64 1002), true), (.le (.var .i64 1002) (.lit 582), false), (.le (.var .i64 1002) (.lit 34000), true), (.le (.var .i64 1005) (.lit 574), false), (.le (.var .i64 1005) (.lit 34000), true), (.le (.var .i64 1003) (.lit (-1)), false), (.le (.var .i64 1003) (.lit 8), true)]
def mdSlots : List (Nat × SVal) := [(7, mdSl 5 (.var .i64 1002)), (9, .v (.c (.i .i64 (.var .i64 1005))))]
def pMd1 : Pat := ⟨mdH, 122, (1, mdSl 3 (.len (.var .i64 35))) :: (2, mdSl 4 (.len (.var .u8 36))) :: (10, .v (.c (.i .i64 (.var .i64 1003)))) :: mdSlots, mdN⟩
def pMd2 : Pat := ⟨mdH, 122, (12, .v (.c (.i .u64 (.var .u64 1006)))) :: (13, .v (.c (.i .i64 (.var .i64 1003)))) :: mdSlots, mdN⟩
def mdPats : Pats := [((qMd1, 0), pMd1), ((qMd2, 0), pMd2)]
def mdRk : Key → Nat := fun q => if q.1 = qMd1 then 1 else 0
def mdMu : Key → IExp := fun q => .bin .sub .i64 (.lit 8) (.var .i64 1003)
/-- The sum by a letter, the other contracts. -/
def tabMade : Tab := orTab (tabFnC 17 33 sumPs sumRs noCt) tabSn
noncomputable def mdS : WT GoF := lawS 2000 6 tabMade snG mdPs mdPats
noncomputable def mdHd (q : Key) : WT GoF := lawH 2000 6 tabMade snG mdPs mdPats q
noncomputable def mdOk (q : Key) (p : Pat) : Bool := okF [.c .b] mdPats mdRk mdMu chkT (some (mdRk q, mdMu q)) p.as (mdHd q)
theorem mdOkS : okF [.c .b] mdPats mdRk mdMu chkT none (canonRAs 0 (shrFlat mdPs)) mdS = true := by kernel_rfl
theorem mdOk1 : mdOk (qMd1, 0) pMd1 = true := by kernel_rfl
theorem mdOk2 : mdOk (qMd2, 0) pMd2 = true := by kernel_rfl
theorem md_mem {q : Key} {p : Pat} (h : (q, p) ∈ mdPats) : (q = (qMd1, 0) ∧ p = pMd1) ∨ (q = (qMd2, 0) ∧ p = pMd2) := by
  simpa [mdPats] using h
theorem md_nd : ∀ k p, (k, p) ∈ mdPats → patAt mdPats k = some p := by
  intro k p h
  rcases md_mem h with ⟨rfl, rfl⟩ | ⟨rfl, rfl⟩ <;> rfl
theorem tabMade_ok {e : Env} (h : SnE e) (G ov : Nat) (hG : snG.length ≤ G) : TabOk Tryd.prog G ov tabMade e := orTab_ok (tabS_ok sumSpecB rfl h G ov) (tabSn_ok h G ov hG)
theorem made_walk (W : World) (cs : List Value) (hc : CellsIs W bdCk cs) (a : Option Addr) (n c : Nat) (z : List Int) (hz : IsRow .i64 W a n c z) (a' : Option Addr) (n' c' : Nat) (z' : List Int) (hz' : IsRow .u8 W a' n' c' z') (hL : laidMetH Tryd.prog laidS W) :
    Calls Tryd.prog 6 #[.agg cs.toArray, .slice a n c, .slice a' n' c'] W (Yes W) := by
  obtain ⟨lv, h1, h2⟩ := ArgsIn.agg bdCk_frs hc (ArgsIn.row hz (ArgsIn.row hz' (ArgsIn.nil W)))
  exact law_walk (n := 2000) (f := 6) (tab := tabMade) (gs := snG) (ps := mdPs) (pats := mdPats) (rk := mdRk) (mu := mdMu) (by rfl) (by kernel_rfl) (by kernel_rfl) md_nd (fun q => rfl) mdOkS (fun q p hp => by
    rcases md_mem (patAt_mem' hp) with ⟨rfl, rfl⟩ | ⟨rfl, rfl⟩
    · exact mdOk1
    · exact mdOk2) snSrc (fun e ok hi ha hb hfx hk => tabMade_ok ⟨ok, hi, ha, hb, hk⟩ _ _ (Nat.le_refl _)) W (pre_laid hL) lv _ h1 h2
end Go.Proofs.YtaijkkkgpgldbaaDoor.K
