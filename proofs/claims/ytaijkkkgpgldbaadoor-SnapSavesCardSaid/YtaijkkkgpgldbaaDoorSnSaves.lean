/- SnapSaves: the law. -/
import Derived.Test.YtaijkkkgpgldbaaDoorSnAwake
namespace Go.Proofs.YtaijkkkgpgldbaaDoor.K
open Go Sy
set_option maxRecDepth 100000
set_option linter.unusedVariables false
set_option linter.unusedSimpArgs false
/-! ### back: a machine that was lent -/
abbrev nR : IExp := .bin .add .i64 (.len (.var .u8 32)) (.lit 1)
abbrev nO : IExp := .bin .add .i64 (.len (.var .u8 33)) (.lit 1)
def bkBox : List Seg := canonRs 0 1 cpuKs ++ canonRs 26 1 rasKs ++ [.c (.i .u8 (.var .u8 30)), .c (.b (.var 31)), .c (.sl (some ⟨3, 0, none⟩) (.len (.var .u8 32)) (some nR)), .c (.sl (some ⟨4, 0, none⟩) (.len (.var .u8 33)) (some nO)), .c (.i .u64 (.var .u64 34))]
def bkArgs : List SVal := [.v (.agg bkBox), .v (.agg (canonRs 0 1 bdKs))]
def bkH : SHeap := rH snG ckPs ++ [some ([.row .u8 (.cat (.var .u8 32) (.upd (.zeros (.lit 1)) (.lit 0) (.lit 77)))], 0), some ([.row .u8 (.cat (.var .u8 33) (.upd (.zeros (.lit 1)) (.lit 0) (.lit 78)))], 0)]
def bkAs : Asm := [(.le (.len (.var .u8 32)) (.lit 2147483647), true), (.le (.len (.var .u8 33)) (.lit 2147483647), true)]
def qBk1 : Path := [true, true, true, true, false, true, false]
def qBk2 : Path := [true, true, true, true, true, false, true, false]
def bkSl (b : Nat) (n : IExp) : SVal := .v (.c (.sl (some ⟨b, 0, none⟩) n (some n)))
def bkHp : SHeap := rH snG ckPs ++ [some ([.row .u8 (.var .u8 1001)], 0), some ([.row .u8 (.var .u8 1002)], 0)]
def bkFs : Asm := bkAs ++ [(.eq (.len (.var .u8 1001)) nR, true), (.eq (.len (.var .u8 1002)) nO, true), (.le (.var .i64 1000) (.lit (-1)), false)]
def pBk1 : Pat := ⟨bkHp, 64, [(5, bkSl 3 nR), (6, bkSl 4 nO), (7, .v (.c (.b (.lit true)))), (8, .v (.c (.i .i64 (.var .i64 1000))))], (.le (.var .i64 1000) nR, true) :: bkFs⟩
def pBk2 : Pat := ⟨bkHp, 64, [(6, bkSl 4 nO), (7, .v (.c (.b (.lit true)))), (9, .v (.c (.i .i64 (.var .i64 1000))))], (.le (.var .i64 1000) nO, true) :: bkFs⟩
def bkPats : Pats := [((qBk1, 0), pBk1), ((qBk2, 0), pBk2)]
def bkRk : Key → Nat := fun q => if q.1 = qBk1 then 1 else 0
def bkMu : Key → IExp := fun q => if q.1 = qBk1 then .bin .sub .i64 nR (.var .i64 1000) else .bin .sub .i64 nO (.var .i64 1000)
theorem bkS : okF [.c .b] bkPats bkRk bkMu chkT none bkAs (pS 1000 12 1 3 tabSame bkArgs ⟨bkH, bkAs⟩ bkPats) = true := by kernel_rfl
theorem bkHd1 : okF [.c .b] bkPats bkRk bkMu chkT (some (bkRk (qBk1, 0), bkMu (qBk1, 0))) pBk1.as (pHd 1000 12 1 3 5 tabSame bkPats (qBk1, 0)) = true := by kernel_rfl
theorem bkHd2 : okF [.c .b] bkPats bkRk bkMu chkT (some (bkRk (qBk2, 0), bkMu (qBk2, 0))) pBk2.as (pHd 1000 12 1 3 5 tabSame bkPats (qBk2, 0)) = true := by kernel_rfl
theorem bk_get {q : Key} {p : Pat} (h : patAt bkPats q = some p) : (q = (qBk1, 0) ∧ p = pBk1) ∨ (q = (qBk2, 0) ∧ p = pBk2) := by
  have := patAt_mem' h
  simpa [bkPats] using this
theorem bk_nd : ∀ k p, (k, p) ∈ bkPats → patAt bkPats k = some p := by
  intro k p h
  have : (k = (qBk1, 0) ∧ p = pBk1) ∨ (k = (qBk2, 0) ∧ p = pBk2) := by simpa [bkPats] using h
  rcases this with ⟨rfl, rfl⟩ | ⟨rfl, rfl⟩ <;> rfl
def tabBack : Tab := tabPat 12 1 3 bkH bkArgs bkAs (.v (.c (.b (.lit true))))
theorem tabBack_ok {e : Env} (h : SnE e) (hfx : e.fx = []) (G ov : Nat) (hG : 1 ≤ G) : TabOk Tryd.prog G ov tabBack e := by
  refine tabPat_ok (res := .v (.c (.b (.lit true)))) (V := .bool true) (fun _ _ => rfl) (by omega) h.ok (by rw [hfx]; exact Nat.zero_le _) (fun e' ok' g => ?_) G ov hG
  have h' : SnE e' := h.of ok' g.fi g.fa g.fb (h.hk.agree g)
  exact callK (rs := [.c .b]) (r := [.b true]) (chk := chkT) (pats := bkPats) (rk := bkRk) (mu := bkMu) (n := 1000) (tab := tabSame) (by kernel_rfl) (by kernel_rfl) bk_nd (by omega) (by decide) (fun q => by unfold bkMu; split <;> rfl) bkS (fun q p hp => by
    rcases bk_get hp with ⟨rfl, rfl⟩ | ⟨rfl, rfl⟩
    · exact bkHd1
    · exact bkHd2) chkT_ok ok' (fun e2 ok2 g2 => tabSame_ok (h'.of ok2 g2.fi g2.fa g2.fb (h'.hk.agree g2)) 1 3)
/-! ### The law -/
def tabSaves : Tab := orTab tabBack tabSn
def qSs1 : Path := [true, true, true, true, true, true, true, true, false, true, false]
def qSs2 : Path := [true, true, true, true, true, true, true, true, true, true, false, true, false]
def ssSl (b : Nat) (n : IExp) : SVal := .v (.c (.sl (some ⟨b, 0, none⟩) n none))
def ssNil : SVal := .v (.c (.sl none (.lit 0) (some (.lit 0))))
def ssH : SHeap := rH snG ckPs ++ [some ([.row .u8 (.var .u8 1000)], 0), some ([.row .u8 (.var .u8 1001)], 0), some ([.row .u8 (.var .u8 1001)], 0)]
def ssN : Asm := [(.le (.var .i64 1007) (.lit (-1)), false), (.le (.var .i64 1007) (.lit 34000), true), (.eq (.len (.var .u8 1001)) (.var .i64 1007), true)]
abbrev ssI (n : IExp) : Asm := [(.le (.var .i64 1003) (.lit (-1)), false), (.le (.var .i64 1003) n, true)]
def pSs10 : Pat := ⟨ssH, 99, [(4, ssSl 3 (.var .i64 1002)), (6, ssSl 4 (.var .i64 1007)), (8, ssSl 5 (.var .i64 1007)), (10, .v (.c (.i .i64 (.var .i64 1003))))], (.eq (.len (.var .u8 1000)) (.var .i64 1002), true) :: (.eq (.var .i64 1002) (.var .i64 1007), true) :: (.le (.var .i64 1002) (.lit (-1)), false) :: (.le (.var .i64 1002) (.lit 34000), true) :: (ssI (.var .i64 1002) ++ ssN)⟩
def pSs11 : Pat := ⟨rH snG ckPs, 99, [(4, ssNil), (6, ssNil), (8, ssNil), (10, .v (.c (.i .i64 (.lit 0))))], []⟩
def pSs20 : Pat := ⟨ssH, 99, [(11, ssSl 3 (.var .i64 1004)), (6, ssSl 4 (.var .i64 1007)), (8, ssSl 5 (.var .i64 1007)), (12, .v (.c (.i .i64 (.var .i64 1003))))], (.le (.var .i64 1004) (.lit 34040), true) :: (.eq (.len (.var .u8 1000)) (.var .i64 1004), true) :: (.eq (.var .i64 1004) (.bin .add .i64 (.var .i64 1007) (.var .i64 1003)), true) :: (ssI (.lit 40) ++ ssN)⟩
def pSs21 : Pat := ⟨rH snG ckPs, 99, [(11, ssNil), (6, ssNil), (8, ssNil), (12, .v (.c (.i .i64 (.lit 0))))], []⟩
def pSs22 : Pat := ⟨rH snG ckPs ++ [some ([.row .u8 (.var .u8 1000)], 0)], 99, [(11, ssSl 3 (.var .i64 1004)), (6, ssNil), (8, ssNil), (12, .v (.c (.i .i64 (.var .i64 1003))))], (.le (.var .i64 1004) (.lit 40), true) :: (.eq (.len (.var .u8 1000)) (.var .i64 1004), true) :: (.eq (.var .i64 1004) (.var .i64 1003), true) :: ssI (.lit 40)⟩
def ssPats : Pats := [((qSs1, 0), pSs10), ((qSs1, 1), pSs11), ((qSs2, 0), pSs20), ((qSs2, 1), pSs21), ((qSs2, 2), pSs22)]
def ssRk : Key → Nat := fun q => if q.1 = qSs1 then 2 else if q.2 = 1 then 1 else 0
def ssMu : Key → IExp := fun q => if q.1 = qSs1 then (if q.2 = 0 then .bin .sub .i64 (.var .i64 1002) (.var .i64 1003) else .lit 0) else if q.2 = 1 then .lit 0 else .bin .sub .i64 (.lit 40) (.var .i64 1003)
noncomputable def ssS : WT GoF := lawS 2000 4 tabSaves snG ckPs ssPats
noncomputable def ssHd (q : Key) : WT GoF := lawH 2000 4 tabSaves snG ckPs ssPats q
noncomputable def ssOk (q : Key) (p : Pat) : Bool := okF [.c .b] ssPats ssRk ssMu chkT (some (ssRk q, ssMu q)) p.as (ssHd q)
theorem ssOkS : okF [.c .b] ssPats ssRk ssMu chkT none (canonRAs 0 (shrFlat ckPs)) ssS = true := by kernel_rfl
theorem ssOk10 : ssOk (qSs1, 0) pSs10 = true := by kernel_rfl
theorem ssOk11 : ssOk (qSs1, 1) pSs11 = true := by kernel_rfl
theorem ssOk20 : ssOk (qSs2, 0) pSs20 = true := by kernel_rfl
theorem ssOk21 : ssOk (qSs2, 1) pSs21 = true := by kernel_rfl
theorem ssOk22 : ssOk (qSs2, 2) pSs22 = true := by kernel_rfl
theorem ss_mem {q : Key} {p : Pat} (h : (q, p) ∈ ssPats) : (q = (qSs1, 0) ∧ p = pSs10) ∨ (q = (qSs1, 1) ∧ p = pSs11) ∨ (q = (qSs2, 0) ∧ p = pSs20) ∨ (q = (qSs2, 1) ∧ p = pSs21) ∨ (q = (qSs2, 2) ∧ p = pSs22) := by
  simpa [ssPats] using h
theorem ss_nd : ∀ k p, (k, p) ∈ ssPats → patAt ssPats k = some p := by
  intro k p h
  rcases ss_mem h with ⟨rfl, rfl⟩ | ⟨rfl, rfl⟩ | ⟨rfl, rfl⟩ | ⟨rfl, rfl⟩ | ⟨rfl, rfl⟩ <;> rfl
theorem tabSaves_ok {e : Env} (h : SnE e) (hfx : e.fx = []) (G ov : Nat) (hG : snG.length ≤ G) : TabOk Tryd.prog G ov tabSaves e := orTab_ok (tabBack_ok h hfx G ov hG) (tabSn_ok h G ov hG)
theorem saves_walk (W : World) (cs : List Value) (hc : CellsIs W bdCk cs) (hL : laidMetH Tryd.prog laidS W) : Calls Tryd.prog 4 #[.agg cs.toArray] W (Yes W) := by
  obtain ⟨lv, h1, h2⟩ := ArgsIn.agg bdCk_frs hc (ArgsIn.nil W)
  exact law_walk (n := 2000) (f := 4) (tab := tabSaves) (gs := snG) (ps := ckPs) (pats := ssPats) (rk := ssRk) (mu := ssMu) (by rfl) (by kernel_rfl) (by kernel_rfl) ss_nd (fun q => by unfold ssMu; split <;> split <;> rfl) ssOkS (fun q p hp => by
    rcases ss_mem (patAt_mem' hp) with ⟨rfl, rfl⟩ | ⟨rfl, rfl⟩ | ⟨rfl, rfl⟩ | ⟨rfl, rfl⟩ | ⟨rfl, rfl⟩
    · exact ssOk10
    · exact ssOk11
    · exact ssOk20
    · exact ssOk21
    · exact ssOk22) snSrc (fun e ok hi ha hb hfx hk => tabSaves_ok ⟨ok, hi, ha, hb, hk⟩ hfx _ _ (Nat.le_refl _)) W (pre_laid hL) lv _ h1 h2
end Go.Proofs.YtaijkkkgpgldbaaDoor.K
