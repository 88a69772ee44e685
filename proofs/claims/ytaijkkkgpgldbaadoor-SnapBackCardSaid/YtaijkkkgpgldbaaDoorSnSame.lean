/- Two machines that read alike are the same. -/
import Derived.Test.YtaijkkkgpgldbaaDoorKFr5
import Derived.Test.YtaijkkkgpgldbaaDoorSnSum
namespace Go.Proofs.YtaijkkkgpgldbaaDoor.K
open Go Sy
set_option maxRecDepth 100000
set_option linter.unusedVariables false
set_option linter.unusedSimpArgs false
def qSa1 : Path := [true, true, false, true, false]
def qSa2 : Path := [true, true, true, false, true, false]
def saBox : SHeap := rH2 snG ckPs ++ [some (canonRs 0 1 bdKs, 35), some (canonRs 0 3 bdKs, 35)]
def saTm (t : Nat) : List (Nat × SVal) := [(2, .v (.c (.p (some ⟨5, 0, none⟩)))), (3, .v (.c (.p (some ⟨6, 0, none⟩)))), (4, .v (.c (.b (.lit false)))), (t, .v (.c (.i .i64 (.var .i64 1000))))]
def pSa1 : Pat := ⟨saBox, 92, saTm 5, [(.le (.var .i64 1000) (.lit (-1)), false), (.le (.var .i64 1000) (.len (.var .u8 32)), true)]⟩
def pSa2 : Pat := ⟨saBox, 92, saTm 6, [(.le (.var .i64 1000) (.lit (-1)), false), (.le (.var .i64 1000) (.len (.var .u8 33)), true)]⟩
def saPats : Pats := [((qSa1, 0), pSa1), ((qSa2, 0), pSa2)]
def saRk : Key → Nat := fun q => if q.1 = qSa1 then 1 else 0
def saMu : Key → IExp := fun q => if q.1 = qSa1 then .bin .sub .i64 (.len (.var .u8 32)) (.var .i64 1000) else .bin .sub .i64 (.len (.var .u8 33)) (.var .i64 1000)
def saRs : List Sh := [.c .b]
theorem saStart : okK saRs saPats saRk saMu chkT none (canonRAs 0 (shrFlat ckPs)) (rS2 1000 16 noTab snG ckPs saPats) = true := by kernel_rfl
theorem saHead1 : okK saRs saPats saRk saMu chkT (some (saRk (qSa1, 0), saMu (qSa1, 0))) pSa1.as (rHd2 1000 16 noTab snG ckPs saPats (qSa1, 0)) = true := by kernel_rfl
theorem saHead2 : okK saRs saPats saRk saMu chkT (some (saRk (qSa2, 0), saMu (qSa2, 0))) pSa2.as (rHd2 1000 16 noTab snG ckPs saPats (qSa2, 0)) = true := by kernel_rfl
theorem sa_get {q : Key} {p : Pat} (h : patAt saPats q = some p) : (q = (qSa1, 0) ∧ p = pSa1) ∨ (q = (qSa2, 0) ∧ p = pSa2) := by
  have := patAt_mem' h
  simpa [saPats] using this
theorem sa_nd : ∀ k p, (k, p) ∈ saPats → patAt saPats k = some p := by
  intro k p h
  have : (k = (qSa1, 0) ∧ p = pSa1) ∨ (k = (qSa2, 0) ∧ p = pSa2) := by simpa [saPats] using h
  rcases this with ⟨rfl, rfl⟩ | ⟨rfl, rfl⟩ <;> rfl
theorem same_calls (W : World) (hW : Pre snG W) (lv : List LV) (v v' : Value) (hlv : WfR (shrFlat ckPs) lv) (hv : shrsIs W ckPs lv [v]) (hv' : shrsIs W ckPs lv [v']) : Calls Tryd.prog 16 #[v, v'] W fun en W' => en = .returned (.bool true) ∧ RowKit.Below W.heap.size W W' :=
  callR2_const (rs := saRs) (mu := saMu) (rk := saRk) (n := 1000) (tab := noTab) (pats := saPats) (by rfl) (by kernel_rfl) (by kernel_rfl) sa_nd snSrc0 saStart (fun q p h => by
    rcases sa_get h with ⟨rfl, rfl⟩ | ⟨rfl, rfl⟩
    · exact saHead1
    · exact saHead2) [.b true] chkT_ok (fun e ok _ _ _ _ => TabOk.none _ _ _ _) W hW lv [v] [v'] hlv hv hv'
end Go.Proofs.YtaijkkkgpgldbaaDoor.K
