/- StoreKeeps answers true. -/
import Derived.Test.YtopgnohobmlegaaStKeepsP
namespace Go.Proofs.Ytopgnohobmlegaa.K
open Go Sy
set_option maxRecDepth 100000
set_option linter.unusedVariables false
set_option linter.unusedSimpArgs false
section
variable {W : World} {p : Option Addr} {n c b o size : Nat} {Z : List (List Value)} (h0 : 2048 ≤ size) (h1 : size ≤ 32768)
include h0 h1
theorem kH1_ok {e : Env} (e0 : e.i .i64 0 = size) (e9 : e.a .u8 9 = romL) (hI : (kInv n size Z).I (qK1, 1) e) :
    WT.holds e (Owed 1000 5000 1 2 [(b, o, 0), (0, 0, 0)] W kPats (kInv n size Z) (fun _ v _ => yesV v) e (some ((kInv n size Z).μ (qK1, 1) e))) kH1T := by
  obtain ⟨hk, i, hi, _, _, hin⟩ := hI
  have hin := hin rfl
  have go : ∀ l, getI l .i64 1000 = some (.lit 0) → getI l .i64 0 = none → getA l .u8 9 = none → getA l .u8 1001 = some (.var .u8 1001) → getA l .u8 1002 = some (.var .u8 1002) → getA l .u8 1003 = some (.var .u8 1003) →
      Owed 1000 5000 1 2 [(b, o, 0), (0, 0, 0)] W kPats (kInv n size Z) (fun _ v _ => yesV v) e (some ((kInv n size Z).μ (qK1, 1) e)) (.go (qK2, 0) l) := fun l g g0 g9 g11 g12 g13 =>
    k_next2 (i := 0) h0 h1 ((updI_none g0).trans e0) ((updA_none g9).trans e9) ((updI g).trans (litD _ _)) (Nat.zero_le _) ⟨by rw [updA g11]; exact hk.l, by rw [updA g13, updA g11]; exact hk.t, by rw [updA g12]; exact hk.f⟩ (fun m' hm' => by
      cases hm'
      simp only [kInv, if_true, hi, Int.toNat_natCast]
      omega)
  have q1 : (BExp.aeq (.sub (.var .u8 1001) (.lit 0) (.var .i64 0)) (.sub (.var .u8 1003) (.lit 0) (.var .i64 0))).den e = true := by
    simp only [BExp.den, AExp.den, IExp.den, e0, hk.t, Int.toNat_natCast]
    refine decide_eq_true ?_
    show (e.a .u8 1001).take size = ((e.a .u8 1001).take size).take size
    rw [List.take_take, Nat.min_self]
  have q2 : (BExp.aeq (.sub (.var .u8 1002) (.lit 0) (.lit 512)) (.sub (.var .u8 9) (.lit 0) (.lit 512))).den e = true := by
    simp only [BExp.den, AExp.den, IExp.den, e9, hk.f]
    exact decide_eq_true trivial
  simp only [kH1T, WT.holds, q1, q2, if_true]
  split
  · exact go _ rfl rfl rfl rfl rfl rfl
  · exact go _ rfl rfl rfl rfl rfl rfl
theorem kH2_ok {e : Env} (e0 : e.i .i64 0 = size) (e9 : e.a .u8 9 = romL) (hI : (kInv n size Z).I (qK2, 0) e) :
    WT.holds e (Owed 1000 5000 1 2 [(b, o, 0), (0, 0, 0)] W kPats (kInv n size Z) (fun _ v _ => yesV v) e (some ((kInv n size Z).μ (qK2, 0) e))) kH2T := by
  obtain ⟨hk, i, hi, _, hle, _⟩ := hI
  have hle := hle rfl
  have hq : ¬ (qK2 = qK1) := by decide
  have q1 : (BExp.lt (.var .i64 1000) (.var .i64 0)).den e = decide ((i : Int) < size) := by simp only [BExp.den, IExp.den, hi, e0]
  have q2 : (BExp.eq (.sel .u8 (.var .u8 1002) (.lit 0)) (.lit 0)).den e = true := by
    simp only [BExp.den, IExp.den, AExp.den, hk.f]
    exact decide_eq_true (by simp [romL])
  have q3 : (BExp.eq (.sel .u8 (.var .u8 1002) (.lit 511)) (.lit 9)).den e = true := by
    simp only [BExp.den, IExp.den, AExp.den, hk.f]
    refine decide_eq_true ?_
    show romL.getD 511 0 = 9
    rw [romL, List.getD_eq_getElem?_getD, List.getElem?_map, List.getElem?_range (by omega)]
    rfl
  simp only [kH2T, WT.holds, q1, q2, q3, if_true, decide_eq_true_eq]
  split
  · rename_i hlt
    have q4 : (BExp.eq (.sel .u8 (.var .u8 1001) (.var .i64 1000)) (.sel .u8 (.var .u8 1003) (.var .i64 1000))).den e = true := by
      simp only [BExp.den, IExp.den, AExp.den, hk.t, hi, Int.toNat_natCast]
      refine decide_eq_true ?_
      rw [List.getD_eq_getElem?_getD, List.getD_eq_getElem?_getD, List.getElem?_take_of_lt (by omega)]
    have go : ∀ l, getI l .i64 1000 = some (.bin .add .i64 (.var .i64 1000) (.lit 1)) → getI l .i64 0 = none → getA l .u8 9 = none → getA l .u8 1001 = some (.var .u8 1001) → getA l .u8 1002 = some (.var .u8 1002) → getA l .u8 1003 = some (.var .u8 1003) →
        Owed 1000 5000 1 2 [(b, o, 0), (0, 0, 0)] W kPats (kInv n size Z) (fun _ v _ => yesV v) e (some ((kInv n size Z).μ (qK2, 0) e)) (.go (qK2, 0) l) := fun l g g0 g9 g11 g12 g13 =>
      k_next2 (i := i + 1) h0 h1 ((updI_none g0).trans e0) ((updA_none g9).trans e9) (by rw [updI g, binE, litD, show (IExp.var .i64 1000).den e = i from hi]; simp only [binDen]; rw [wrap64 (by omega) (by omega)]; simp) (by omega) ⟨by rw [updA g11]; exact hk.l, by rw [updA g13, updA g11]; exact hk.t, by rw [updA g12]; exact hk.f⟩ (fun m' hm' => by
        cases hm'
        simp only [kInv, if_neg hq, hi, Int.toNat_natCast]
        omega)
    simp only [q4, if_true]
    exact ⟨go _ rfl rfl rfl rfl rfl rfl, go _ rfl rfl rfl rfl rfl rfl⟩
  · exact rfl
end
def kSrc (W : World) (size : Int) (n c b o : Nat) (v : Bool) : Src := Src.know { i := fun k => match k with | .i64 => [size, n, c] | _ => [], b := [false, false, false, false, false, false, false, false, false, v], a := fun k j => match k, j with | .u8, 9 => romL | _, _ => [] } W [(b, o, 0)]
theorem tabK_ok {W0 : World} {p : Option Addr} {n c b o : Nat} {Z : List (List Value)} (hz : SlRecs W0 actKs p n c b o Z) {e : Env} (ok : EnvOk e) (hb : e.base = W0.heap.size) (hh : e.h0 = fun k => W0.heap[k]?) (hfx : e.fx = [(b, o, 0)]) (e1 : e.i .i64 1 = n) (e2 : e.i .i64 2 = c) (hl : e.b 9 = vastB 0 n Z) (e9 : e.a .u8 9 = romL) (G ov : Nat) : TabOk Try.prog G ov tabK e :=
  TabOk.or (tabV_ok e9 G ov) (TabOk.or (tabSame_ok ok same_is G ov) (tabVast_ok hz hb hh (by rw [hfx]; rfl) e1 e2 hl G ov))
theorem keeps_walk (W : World) (size : Int) (hs : IntKind.i64.min ≤ size ∧ size ≤ IntKind.i64.max) (p : Option Addr) (n c : Nat) (hv : CellsIs W [.recs actKs] [.slice p n c]) : Calls Try.prog 6 #[.int .i64 size, .slice p n c] W (Yes W) := by
  obtain ⟨hf, hb⟩ := fn_of (f := 6) (by kernel_rfl)
  obtain ⟨b, o, Z, hz⟩ := slRecs_of (by decide) hv
  have hn := hz.1
  have ht := hz.2.1
  have htop : lenTop = 9223372036854775807 := rfl
  have ok := (kSrc W size n c b o (vastB 0 n Z)).ok
  have e0 : (kSrc W size n c b o (vastB 0 n Z)).env.i .i64 0 = size := clip_of (k := .i64) (n := size) hs
  have e1 : (kSrc W size n c b o (vastB 0 n Z)).env.i .i64 1 = n := clip_of (k := .i64) (n := (n : Int)) (i64_in (by omega) (by omega))
  have e2 : (kSrc W size n c b o (vastB 0 n Z)).env.i .i64 2 = c := clip_of (k := .i64) (n := (c : Int)) (i64_in (by omega) (by omega))
  have e9 : (kSrc W size n c b o (vastB 0 n Z)).env.a .u8 9 = romL := clipL_of (l := romL) (fun x hx => by
    obtain ⟨j, hj, rfl⟩ := List.mem_map.1 hx
    exact u8_in (by omega) (by omega)) (by rw [romL_len]; show (512 : Int) ≤ 9223372036854775807; omega)
  have eb : (kSrc W size n c b o (vastB 0 n Z)).env.b 9 = vastB 0 n Z := rfl
  have hbase : (kSrc W size n c b o (vastB 0 n Z)).env.base = W.heap.size := rfl
  have hh0 : (kSrc W size n c b o (vastB 0 n Z)).env.h0 = fun k => W.heap[k]? := rfl
  have hfx : (kSrc W size n c b o (vastB 0 n Z)).env.fx = [(b, o, 0)] := rfl
  generalize (kSrc W size n c b o (vastB 0 n Z)).env = E at ok e0 e1 e2 e9 eb hbase hh0 hfx
  have hkn : Knows E W [(b, o, 0), (0, 0, 0)] := by
    refine ⟨fun i x hx => ?_, by rw [hbase]; exact Nat.le_refl _, fun k _ => by rw [hh0]⟩
    rw [hfx] at hx
    rcases i with _ | i
    · exact hx
    · simp at hx
  have hr : HRel E 2 [(b, o, 0), (0, 0, 0)] [none, none] W := by
    have := HRel.ro (e := E) (W := W) (ρ := [(b, o, 0), (0, 0, 0)]) (h := [none, none]) rfl (fun i l t hi => by
      rcases i with _ | _ | i <;> simp at hi) hkn
    exact this
  have old : ∀ {e : Env}, Agree 1000 E e → e.i .i64 0 = size ∧ e.i .i64 1 = n ∧ e.i .i64 2 = c ∧ e.a .u8 9 = romL ∧ e.b 9 = vastB 0 n Z := fun g =>
    ⟨by rw [g.i .i64 0 (by omega)]; exact e0, by rw [g.i .i64 1 (by omega)]; exact e1, by rw [g.i .i64 2 (by omega)]; exact e2, by rw [g.a .u8 9 (by omega)]; exact e9, by rw [g.b 9 (by omega)]; exact eb⟩
  refine cfgR (G := 0) (ov := 2) (plan := plan) (tab := tabK) (n := 1000) (N := 1000) (NE := 5000) (sv := 1) (ro := 2) (base := 2) (pats := kPats) (args := kArgs) (st := kSt) (e0 := E) (ρ0 := [(b, o, 0), (0, 0, 0)]) (vs := [.int .i64 size, .slice p n c]) (W0 := W) (kInv n size.toNat Z) (fun _ v _ => yesV v)
    mixed plan_ok rfl (fun _ _ _ => LtOk.none) (fun e ok g => ?_) rfl hf hb ok ⟨_, _, rfl, congrArg _ e0.symm, _, _, rfl, hz.cell (i := 0) rfl e1 e2, rfl⟩ (AsmOk.cons ?_ (AsmOk.nil _)) hr (noGlob _) (Nat.le_refl _) (show 2 ≤ 2 by omega) (by decide) (by decide) (by decide) ?_ ?_ ?_ ?_ ?_ (by rw [hfx]; exact Nat.le_refl _)
  · obtain ⟨_, g1, g2, g9, gb⟩ := old g
    exact tabK_ok hz ok (by rw [g.base, hbase]) (by rw [g.h0, hh0]) (by rw [g.fx, hfx]) g1 g2 gb g9 0 2
  · simp only [BExp.den, IExp.den, AExp.den, e9, romL_len]; rfl
  · intro k p hm
    have hm : (k = (qK1, 0) ∧ p = pK0) ∨ (k = (qK1, 1) ∧ p = pK1) ∨ (k = (qK2, 0) ∧ p = pK2) := by simpa [kPats] using hm
    rcases hm with ⟨rfl, rfl⟩ | ⟨rfl, rfl⟩ | ⟨rfl, rfl⟩
    · show patFine 5000 1 2 pK0 = true; kernel_rfl
    · show patFine 5000 1 2 pK1 = true; kernel_rfl
    · show patFine 5000 1 2 pK2 = true; kernel_rfl
  · rw [kS]
    exact kS_ok hz e0 e1 e2 e9
  · intro q hq e ok' g ha hI
    obtain ⟨g0, g1, g2, g9, gb⟩ := old g
    have hq : q = (qK1, 0) ∨ q = (qK1, 1) ∨ q = (qK2, 0) := by simpa [kPats] using hq
    have szs : ∀ p, patAt kPats q = some p → ∃ as', p.as = as' ∧ 2048 ≤ size ∧ size ≤ 32768 := by
      intro p hp
      have := ha p hp
      have key : (BExp.le (.var .i64 0) (.lit 2047), false) ∈ p.as ∧ (BExp.le (.var .i64 0) (.lit 32768), true) ∈ p.as := by
        rcases kPats_get hp with ⟨_, rfl⟩ | ⟨_, rfl⟩ | ⟨_, rfl⟩ <;> simp [pK0, pK1, pK2, kAs]
      have k1 := leF (this _ key.1)
      have k2 := leT (this _ key.2)
      rw [litD, show (IExp.var .i64 0).den e = size from g0] at k1 k2
      exact ⟨_, rfl, by omega, k2⟩
    rcases hq with rfl | rfl | rfl
    · obtain ⟨_, _, s0, s1⟩ := szs pK0 rfl
      rw [kH0]
      exact kH0_ok hz (by omega) (by omega) ok' (g0.trans (by omega)) g1 g2 g9 hI
    · obtain ⟨_, _, s0, s1⟩ := szs pK1 rfl
      rw [kH1]
      exact kH1_ok (by omega) (by omega) (g0.trans (by omega)) g9 hI
    · obtain ⟨_, _, s0, s1⟩ := szs pK2 rfl
      rw [kH2]
      exact kH2_ok (by omega) (by omega) (g0.trans (by omega)) g9 hI
  · intro k p hm
    have hm : (k = (qK1, 0) ∧ p = pK0) ∨ (k = (qK1, 1) ∧ p = pK1) ∨ (k = (qK2, 0) ∧ p = pK2) := by simpa [kPats] using hm
    rcases hm with ⟨rfl, rfl⟩ | ⟨rfl, rfl⟩ | ⟨rfl, rfl⟩ <;> rfl
  · rintro e v st' ok' g hd ρb hbb ρ' V W' hp hV
    have hd : v = .v (.c (.b (.lit true))) := hd
    subst hd
    exact ⟨congrArg _ (show V = .bool true from hV), below_of_post hp (by rw [hbb.len]; exact Nat.le_refl _)⟩
end Go.Proofs.Ytopgnohobmlegaa.K
