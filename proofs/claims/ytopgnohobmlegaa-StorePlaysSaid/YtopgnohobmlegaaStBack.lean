/- The store's laws: lent bytes come back. -/
import Derived.Test.YtopgnohobmlegaaKLose
import Derived.Test.YtopgnohobmlegaaStVast
namespace Go.Proofs.Ytopgnohobmlegaa.K
open Go Sy
set_option maxRecDepth 100000
set_option linter.unusedVariables false
set_option linter.unusedSimpArgs false
theorem same_is : SameIs Try.prog .u8 28 := fun W p p' n n' c c' z z' h h' => same_calls W h h'
abbrev n2 : IExp := .bin .add .i64 (.var .i64 0) (.lit 2)
def qBk : Path := [true, true, true, false, true, false]
def bkArgs : List SVal := [.v (.c (.sl (some ⟨1, 0, none⟩) (.var .i64 0) (some n2))), .v (.c (.sl (some ⟨0, 0, none⟩) (.var .i64 0) (some (.var .i64 2))))]
def bkAs : Asm := [(.le (.var .i64 0) (.lit (-1)), false), (.le (.var .i64 0) (.lit 2147483647), true), (.le (.var .i64 0) (.var .i64 2), true)]
def bkSt : St := ⟨[some ([.row .u8 (.var .u8 1)], 5), some ([.row .u8 (.var .u8 0)], 5)], (.eq (.len (.var .u8 1)) (.var .i64 0), true) :: (.eq (.len (.var .u8 0)) n2, true) :: bkAs⟩
def pBk : Pat := ⟨[none, some ([.row .u8 (.var .u8 1000)], 5)], 48, [(5, .v (.c (.sl (some ⟨1, 0, none⟩) n2 (some n2)))), (6, .v (.c (.b (.var 1000)))), (7, .v (.c (.i .i64 (.var .i64 1000))))],
  (.le (.var .i64 1000) (.lit (-1)), false) :: (.eq (.len (.var .u8 1000)) n2, true) :: bkAs⟩
def bkPats : Pats := [((qBk, 0), pBk)]
def bkST : WT Sy.Go := WT.node (BExp.aeq (AExp.sub (AExp.var .u8 0) (IExp.lit 0) (IExp.var .i64 0)) (AExp.var .u8 1)) (WT.node (BExp.eq (IExp.sel .u8 (AExp.var .u8 0) (IExp.var .i64 0)) (IExp.lit 201)) (WT.leaf (Go.go ([true, true, true, false, true, false], 0) [Asg.a .u8 1000 (AExp.var .u8 0), Asg.i .i64 1000 (IExp.lit 0), Asg.b 1000 (BExp.eq (IExp.sel .u8 (AExp.var .u8 0) (IExp.bin BinOp.add .i64 (IExp.var .i64 0) (IExp.lit 1))) (IExp.lit 202))])) (WT.leaf (Go.go ([true, true, true, false, true, false], 0) [Asg.a .u8 1000 (AExp.var .u8 0), Asg.i .i64 1000 (IExp.lit 0), Asg.b 1000 (BExp.lit false)]))) (WT.leaf (Go.go ([true, true, true, false, true, false], 0) [Asg.a .u8 1000 (AExp.var .u8 0), Asg.i .i64 1000 (IExp.lit 0), Asg.b 1000 (BExp.lit false)]))
theorem bkS : startT Try.prog 0 plan (tabSame 28) 1000 1000 33 1 (fnOf 33) (bodyOf 33) bkPats bkArgs bkSt = bkST := by kernel_rfl
def bkHT : WT Sy.Go := WT.node (BExp.lt (IExp.var .i64 1000) (IExp.bin BinOp.add .i64 (IExp.var .i64 0) (IExp.lit 2))) (WT.leaf (Go.go ([true, true, true, false, true, false], 0) [Asg.a .u8 1000 (AExp.upd (AExp.var .u8 1000) (IExp.var .i64 1000) (IExp.bin BinOp.xor .u8 (IExp.sel .u8 (AExp.var .u8 1000) (IExp.var .i64 1000)) (IExp.lit 85))), Asg.i .i64 1000 (IExp.bin BinOp.add .i64 (IExp.var .i64 1000) (IExp.lit 1)), Asg.b 1000 (BExp.var 1000)])) (WT.leaf (Go.done (SVal.v (SV.c (Cell.b (BExp.var 1000)))) { h := [none, some ([Seg.row .u8 (AExp.var .u8 1000)], 5)], «as» := [] }))
theorem bkH : headT Try.prog 0 plan (tabSame 28) 1000 1000 33 1 2 (fnOf 33) (bodyOf 33) bkPats (qBk, 0) = bkHT := by kernel_rfl

def backB (n : Nat) (z w : List Int) : Bool := decide (z.take n = w) && (decide (z.getD n 0 = 201) && decide (z.getD (n + 1) 0 = 202))
def bkInv (n : Nat) (B : Bool) : Inv := ⟨fun _ e => e.b 1000 = B ∧ (e.a .u8 1000).length = n + 2 ∧ ∃ i : Nat, e.i .i64 1000 = i ∧ i ≤ n + 2, fun _ e => n + 2 - (e.i .i64 1000).toNat⟩
def bkSrc (n q : Nat) (z w : List Int) : Src := { i := fun k => match k with | .i64 => [n, 0, q] | _ => [], b := [], a := fun k j => match k, j with | .u8, 0 => z | .u8, 1 => w | _, _ => [] }
theorem bk_asm {n : Nat} {B : Bool} {e : Env} {q : Nat} (e0 : e.i .i64 0 = n) (e2 : e.i .i64 2 = q) (hn : (n : Int) ≤ 2147483647) (hq : n ≤ q) {k : Key} (h : (bkInv n B).I k e) : ∀ p, patAt bkPats k = some p → AsmOk e p.as := by
  intro p hp
  have hm := patAt_mem' hp
  have hp : p = pBk := by
    have : k = (qBk, 0) ∧ p = pBk := by simpa [bkPats] using hm
    exact this.2
  subst hp
  obtain ⟨_, hl, i, hi, hle⟩ := h
  have hw : IntKind.i64.wrap ((n : Int) + 2) = ((n + 2 : Nat) : Int) := by rw [wrap64 (by omega) (by omega)]; rfl
  refine AsmOk.cons ?_ (AsmOk.cons ?_ (AsmOk.cons ?_ (AsmOk.cons ?_ (AsmOk.cons ?_ (AsmOk.nil _))))) <;> simp only [BExp.den, IExp.den, AExp.den, binDen, e0, e2, hi, hl, hw]
  · exact decide_eq_false (by omega)
  · exact decide_eq_true trivial
  · exact decide_eq_false (by omega)
  · exact decide_eq_true hn
  · exact decide_eq_true (by omega)
theorem back_calls {W : World} {b o r n q b' o' : Nat} {p' : Option Addr} {z w : List Int} (hat : At True W b o r (z.map (.int .u8))) (hz : z.length = n + 2) (hzi : ∀ x ∈ z, In .u8 x) (hw : w.length = n) (hwi : ∀ x ∈ w, In .u8 x) (hn : (n : Int) ≤ 2147483647) (hnq : n ≤ q) (hq : (q : Int) ≤ lenTop)
    (hp : 0 < q → p' = some ⟨b', o', none⟩) (hat' : At False W b' o' 0 (w.map (.int .u8))) (hne : b' ≠ b) :
    Calls Try.prog 33 #[.slice (some ⟨b, o, none⟩) n (n + 2), .slice p' n q] W fun en W' => en = .returned (.bool (backB n z w)) ∧ But [b] W W' := by
  obtain ⟨hf, hb⟩ := fn_of (f := 33) (by kernel_rfl)
  have htop : lenTop = 9223372036854775807 := rfl
  have ok := (bkSrc n q z w).ok
  have e0 : (bkSrc n q z w).env.i .i64 0 = n := clip_of (k := .i64) (n := (n : Int)) (i64_in (by omega) (by omega))
  have e2 : (bkSrc n q z w).env.i .i64 2 = q := clip_of (k := .i64) (n := (q : Int)) (i64_in (by omega) (by omega))
  have ez : (bkSrc n q z w).env.a .u8 0 = z := clipL_of hzi (by show ((z.length : Nat) : Int) ≤ lenTop; rw [hz]; omega)
  have ew : (bkSrc n q z w).env.a .u8 1 = w := clipL_of hwi (by show ((w.length : Nat) : Int) ≤ lenTop; rw [hw]; omega)
  have hfx : (bkSrc n q z w).env.fx = [] := rfl
  have hb0 : (bkSrc n q z w).env.base = 0 := rfl
  generalize (bkSrc n q z w).env = E at ok e0 e2 ez ew hfx hb0
  have hw2 : IntKind.i64.wrap ((n : Int) + 2) = ((n + 2 : Nat) : Int) := by rw [wrap64 (by omega) (by omega)]; rfl
  have hw1 : IntKind.i64.wrap ((n : Int) + 1) = ((n + 1 : Nat) : Int) := by rw [wrap64 (by omega) (by omega)]; rfl
  have en2 : n2.den E = ((n + 2 : Nat) : Int) := by simp only [n2, IExp.den, binDen, e0, hw2]
  have hr : HRel E 1 [(b', o', 0), (b, o, r)] bkSt.h W := by
    refine ⟨rfl, fun i j x y hi hj hx hy hij hov => ?_, fun i l t hi => ?_, Old.of_none hb0 hfx _ _ _⟩
    · rcases i with _ | _ | i <;> rcases j with _ | _ | j <;> simp at hx hy <;> first | omega | (subst hx hy; simp only; omega)
    · rcases i with _ | _ | i
      · have hi : some ([Seg.row .u8 (.var .u8 1)], _) = some (l, t) := Option.some.inj hi
        cases hi
        exact ⟨b', o', 0, _, rfl, hat'.weak (fun h => by omega), ⟨[], by rw [show (AExp.var .u8 1).den E = w from ew, List.append_nil], rfl⟩⟩
      · have hi : some ([Seg.row .u8 (.var .u8 0)], _) = some (l, t) := Option.some.inj hi
        cases hi
        exact ⟨b, o, r, _, rfl, hat.weak (fun _ => trivial), ⟨[], by rw [show (AExp.var .u8 0).den E = z from ez, List.append_nil], rfl⟩⟩
      · simp [bkSt] at hi
  have hrow : (Cell.sl (some ⟨0, 0, none⟩) (.var .i64 0) (some (.var .i64 2))).D E [(b', o', 0), (b, o, r)] (.slice p' n q) := by
    rcases Nat.eq_zero_or_pos q with h0 | h0
    · refine ⟨_, n, q, rfl, e0.symm, hnq, .inr ⟨by omega, h0, fun x hx => ?_⟩⟩
      cases hx
      exact e2.trans (by rw [h0]; rfl)
    · rw [hp h0]
      exact slice_D (i := 0) rfl e0 e2 hnq
  refine cfg (G := 0) (ov := 1) (plan := plan) (tab := tabSame 28) (n := 1000) (N := 1000) (ro := 1) (base := 2) (pats := bkPats) (args := bkArgs) (st := bkSt) (e0 := E) (ρ0 := [(b', o', 0), (b, o, r)]) (vs := [.slice (some ⟨b, o, none⟩) n (n + 2), .slice p' n q]) (bkInv n (backB n z w)) (fun e v _ => ∀ ρ V, v.D e ρ V → V = .bool (backB n z w))
    mixed plan_ok rfl (fun _ _ _ => LtOk.none) (fun e ok g => tabSame_ok ok same_is 0 1) rfl hf hb ok ⟨_, _, rfl, slice_D (i := 1) rfl e0 en2 (Nat.le_add_right _ _), _, _, rfl, hrow, rfl⟩ ?_ hr (noGlob _) (Nat.le_refl _) (show 1 ≤ 2 by omega) (Nat.zero_le _) (by decide) (by kernel_rfl) ?_ ?_ patAt_one ?_
  · refine AsmOk.cons ?_ (AsmOk.cons ?_ (AsmOk.cons ?_ (AsmOk.cons ?_ (AsmOk.cons ?_ (AsmOk.nil _))))) <;> simp only [BExp.den, IExp.den, AExp.den, binDen, e0, e2, ez, ew, hz, hw, hw2]
    · exact decide_eq_true trivial
    · exact decide_eq_true trivial
    · exact decide_eq_false (by omega)
    · exact decide_eq_true hn
    · exact decide_eq_true (by omega)
  · rw [bkS]
    have q1 : (BExp.aeq (AExp.sub (AExp.var .u8 0) (IExp.lit 0) (IExp.var .i64 0)) (AExp.var .u8 1)).den E = decide (z.take n = w) := by
      simp only [BExp.den, IExp.den, AExp.den, e0, ez, ew, Int.toNat_natCast]
      rw [show (0 : Int).toNat = 0 from rfl, List.drop_zero]
    have q2 : (BExp.eq (IExp.sel .u8 (AExp.var .u8 0) (IExp.var .i64 0)) (IExp.lit 201)).den E = decide (z.getD n 0 = 201) := by simp only [BExp.den, IExp.den, AExp.den, e0, ez, Int.toNat_natCast]
    have q3 : (BExp.eq (IExp.sel .u8 (AExp.var .u8 0) (IExp.bin BinOp.add .i64 (IExp.var .i64 0) (IExp.lit 1))) (IExp.lit 202)).den E = decide (z.getD (n + 1) 0 = 202) := by simp only [BExp.den, IExp.den, AExp.den, binDen, e0, ez, hw1, Int.toNat_natCast]
    have go : ∀ l x, getB l 1000 = some x → x.den E = backB n z w → getI l .i64 1000 = some (.lit 0) → getI l .i64 0 = none → getI l .i64 2 = none → getA l .u8 1000 = some (.var .u8 0) → Owed1 bkPats (bkInv n (backB n z w)) (fun e v _ => ∀ ρ V, v.D e ρ V → V = .bool (backB n z w)) E none (.go (qBk, 0) l) := by
      intro l x g1 g2 g3 g4 g5 g6
      have hI : (bkInv n (backB n z w)).I (qBk, 0) (Env.upd E E l) := ⟨(updB g1).trans g2, by rw [updA g6]; exact (congrArg List.length ez).trans hz, 0, (updI g3).trans (litD _ _), Nat.zero_le _⟩
      exact ⟨⟨_, rfl⟩, bk_asm ((updI_none g4).trans e0) ((updI_none g5).trans e2) hn hnq hI, hI, fun m hm => by cases hm⟩
    simp only [bkST, WT.holds, q1, q2, decide_eq_true_eq]
    split
    · rename_i h1
      split
      · rename_i h2
        refine go _ _ rfl ?_ rfl rfl rfl rfl
        rw [q3, backB, decide_eq_true h1, decide_eq_true h2]; rfl
      · rename_i h2
        refine go _ _ rfl ?_ rfl rfl rfl rfl
        rw [backB, decide_eq_false h2]; simp [BExp.den]
    · rename_i h1
      refine go _ _ rfl ?_ rfl rfl rfl rfl
      rw [backB, decide_eq_false h1]; simp [BExp.den]
  · intro k hk e ok' g ha hI
    have hk : k = (qBk, 0) := by simpa [bkPats] using hk
    subst hk
    have a0 : e.i .i64 0 = n := by rw [g.i .i64 0 (by omega)]; exact e0
    have a2 : e.i .i64 2 = q := by rw [g.i .i64 2 (by omega)]; exact e2
    obtain ⟨hB, hl, i, hi, hle⟩ := hI
    have q1 : (BExp.lt (IExp.var .i64 1000) n2).den e = decide ((i : Int) < ((n + 2 : Nat) : Int)) := by simp only [BExp.den, n2, IExp.den, binDen, a0, hi, hw2]
    rw [bkH]
    simp only [bkHT, WT.holds, q1, decide_eq_true_eq]
    split
    · rename_i hlt
      have go : ∀ l, getB l 1000 = some (.var 1000) → getI l .i64 1000 = some (.bin .add .i64 (.var .i64 1000) (.lit 1)) → getI l .i64 0 = none → getI l .i64 2 = none → ((Env.upd e e l).a .u8 1000).length = n + 2 → Owed1 bkPats (bkInv n (backB n z w)) (fun e v _ => ∀ ρ V, v.D e ρ V → V = .bool (backB n z w)) e (some ((bkInv n (backB n z w)).μ (qBk, 0) e)) (.go (qBk, 0) l) := by
        intro l g1 g2 g3 g4 g5
        have hi1 : (Env.upd e e l).i .i64 1000 = ((i + 1 : Nat) : Int) := by
          rw [updI g2, binE, litD, show (IExp.var .i64 1000).den e = i from hi]; simp only [binDen]; rw [wrap64 (by omega) (by omega)]; simp
        have hI : (bkInv n (backB n z w)).I (qBk, 0) (Env.upd e e l) := ⟨(updB g1).trans hB, g5, i + 1, hi1, by omega⟩
        refine ⟨⟨_, rfl⟩, bk_asm ((updI_none g3).trans a0) ((updI_none g4).trans a2) hn hnq hI, hI, fun m hm => ?_⟩
        cases hm
        simp only [bkInv, hi1, hi, Int.toNat_natCast]
        omega
      refine go _ rfl rfl rfl rfl ?_
      rw [updA rfl]
      simp only [AExp.den, List.length_set]; exact hl
    · intro ρ V hV
      have hV : V = .bool (e.b 1000) := hV
      rw [hV, hB]
  · rintro e v st' ok' g hd ρ' V W' hp hV
    exact ⟨congrArg _ (hd _ _ hV), But.of_post hp (fun x hx => by simp at hx; rw [hx]; simp)⟩
end Go.Proofs.Ytopgnohobmlegaa.K
