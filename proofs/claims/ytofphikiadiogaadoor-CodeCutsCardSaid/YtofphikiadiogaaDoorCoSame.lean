/- The store's laws: two rows of bytes are held against each other. -/
import Derived.Test.YtofphikiadiogaaDoorCoOpsW
import Derived.Test.YtofphikiadiogaaDoorKMore
namespace Go.Proofs.YtofphikiadiogaaDoor.K
open Go Sy
set_option maxRecDepth 100000
set_option linter.unusedVariables false
set_option linter.unusedSimpArgs false
/-- The first n elements of a slice. -/
structure RowN (k : IntKind) (W : World) (p : Option Addr) (n c : Nat) (z : List Int) : Prop where
  len : z.length = n
  le : n ≤ c
  top : (c : Int) ≤ lenTop
  at' : 0 < c → ∃ b o, p = some ⟨b, o, none⟩ ∧ (0 < n → At False W b o 0 (z.map (.int k)))
  ins : ∀ x ∈ z, In k x
def qSame : Path := [true, true, false, true, false]
def smArgs : List SVal := [.v (.c (.sl (some ⟨0, 0, none⟩) (.var .i64 0) (some (.var .i64 2)))), .v (.c (.sl (some ⟨1, 0, none⟩) (.var .i64 1) (some (.var .i64 3))))]
def smTm : List (Nat × SVal) := [(0, .v (.c (.sl (some ⟨0, 0, none⟩) (.var .i64 0) (some (.var .i64 2))))), (1, .v (.c (.sl (some ⟨1, 0, none⟩) (.var .i64 1) (some (.var .i64 3))))), (5, .v (.c (.i .i64 (.var .i64 1000))))]
def pSame0 : Pat := ⟨[some ([.row .u8 (.var .u8 0)], 5), some ([.row .u8 (.var .u8 1)], 5)], 26, smTm,
  [(.lt (.var .i64 1000) (.len (.var .u8 0)), true), (.lt (.var .i64 1000) (.len (.var .u8 1)), true), (.le (.var .i64 1000) (.lit (-1)), false), (.lt (.var .i64 1000) (.var .i64 0), true), (.lt (.var .i64 1000) (.var .i64 1), true)]⟩
def pSame1 : Pat := ⟨[none, none], 26, smTm, [(.lt (.var .i64 1000) (.var .i64 0), false)]⟩
def smPats : Pats := [((qSame, 0), pSame0), ((qSame, 1), pSame1)]
def smST : WT Sy.Go := WT.node (BExp.eq (IExp.var .i64 0) (IExp.var .i64 1)) (WT.leaf (Go.go ([true, true, false, true, false], 0) [Asg.i .i64 1000 (IExp.lit 0)])) (WT.leaf (Go.done (SVal.v (SV.c (Cell.b (BExp.lit false)))) { h := [none, none], «as» := [] }))
theorem smS : startT Tryd.prog 0 plan noTab 1000 1000 11 2 (fnOf 11) (bodyOf 11) smPats smArgs ⟨[none, none], []⟩ = smST := by kernel_rfl
def smH0T : WT Sy.Go := WT.node (BExp.eq (IExp.sel .u8 (AExp.var .u8 0) (IExp.var .i64 1000)) (IExp.sel .u8 (AExp.var .u8 1) (IExp.var .i64 1000))) (WT.leaf (Go.go ([true, true, false, true, false], 0) [Asg.i .i64 1000 (IExp.bin BinOp.add .i64 (IExp.var .i64 1000) (IExp.lit 1))])) (WT.leaf (Go.done (SVal.v (SV.c (Cell.b (BExp.lit false)))) { h := [some ([Seg.row .u8 (AExp.var .u8 0)], 5), some ([Seg.row .u8 (AExp.var .u8 1)], 5)], «as» := [] }))
theorem smH0 : headT Tryd.prog 0 plan noTab 1000 1000 11 2 2 (fnOf 11) (bodyOf 11) smPats (qSame, 0) = smH0T := by kernel_rfl
def smH1T : WT Sy.Go := WT.leaf (Go.done (SVal.v (SV.c (Cell.b (BExp.lit true)))) { h := [none, none], «as» := [] })
theorem smH1 : headT Tryd.prog 0 plan noTab 1000 1000 11 2 2 (fnOf 11) (bodyOf 11) smPats (qSame, 1) = smH1T := by kernel_rfl

def smSrc (n n' c c' : Nat) (z z' : List Int) : Src := { i := fun k => match k with | .i64 => [n, n', c, c'] | _ => [], b := [], a := fun k j => match k, j with | .u8, 0 => z | .u8, 1 => z' | _, _ => [] }
def smInv (n : Nat) (z z' : List Int) : Inv := ⟨fun k e => z'.length = n ∧ ∃ i : Nat, e.i .i64 1000 = i ∧ i ≤ n ∧ (k.2 = 0 → i < n) ∧ (k.2 = 1 → i = n) ∧ ∀ j, j < i → z.getD j 0 = z'.getD j 0, fun _ e => n - (e.i .i64 1000).toNat⟩
theorem smPats_get {k : Key} {p : Pat} (h : (k, p) ∈ smPats) : (k = (qSame, 0) ∧ p = pSame0) ∨ (k = (qSame, 1) ∧ p = pSame1) := by
  simpa [smPats] using h
theorem patAt_mem {ps : Pats} {q : Key} {p : Pat} (h : patAt ps q = some p) : (q, p) ∈ ps := by
  induction ps with
  | nil => cases h
  | cons x r ih =>
    obtain ⟨y, z⟩ := x
    simp only [patAt] at h
    by_cases hq : y = q
    · subst hq
      rw [show decide (y = y) = true from decide_eq_true rfl, cond_true] at h
      cases h
      exact List.mem_cons_self
    · rw [show decide (y = q) = false from decide_eq_false hq] at h
      exact List.mem_cons_of_mem _ (ih h)
theorem sm_next {W : World} {p p' : Option Addr} {n n' c c' b o b' o' : Nat} {z z' : List Int} (hz : RowN .u8 W p n c z) (hz' : RowN .u8 W p' n' c' z') (hp : 0 < n → At False W b o 0 (z.map (.int .u8))) (hp' : 0 < n' → At False W b' o' 0 (z'.map (.int .u8))) (hnn : n' = n)
    {e : Env} {l : List Asg} {i : Nat} {m : Option Nat} {D : Env → SVal → St → Prop} (e0 : (Env.upd e e l).i .i64 0 = n) (e1 : (Env.upd e e l).i .i64 1 = n') (ea : (Env.upd e e l).a .u8 0 = z) (ea' : (Env.upd e e l).a .u8 1 = z') (hi : (Env.upd e e l).i .i64 1000 = i) (hle : i ≤ n) (hall : ∀ j, j < i → z.getD j 0 = z'.getD j 0) (hm : ∀ m', m = some m' → n - i < m') :
    Owed 1000 5000 2 2 [(b, o, 0), (b', o', 0)] W smPats (smInv n z z') D e m (.go (qSame, 0) l) := by
  intro ok' hag
  generalize Env.upd e e l = E at *
  have hl := hz.len
  have hl' := hz'.len
  have hcore : ∀ {p' : Pat}, (p' = pSame0 ∨ p' = pSame1) → ∀ p2, patAt smPats (qSame, 0) = some p2 → p'.tm = p2.tm ∧ p'.n = p2.n ∧ roNone 2 p'.h = roNone 2 p2.h := by
    intro p' hp' p2 hp2
    rcases smPats_get (patAt_mem hp2) with ⟨_, rfl⟩ | ⟨h, _⟩
    · rcases hp' with rfl | rfl <;> exact ⟨rfl, rfl, rfl⟩
    · cases h
  by_cases hlt : i < n
  · refine ⟨E, [(b, o, 0), (b', o', 0)], (qSame, 0), pSame0, ok', Agree.refl _ _, Base.refl _ _ _, rfl, rfl, hcore (.inl rfl), ?_, ?_, ⟨by omega, i, hi, hle, fun _ => hlt, (fun h => by cases h), hall⟩, fun m' hm' => ?_⟩
    · refine AsmOk.cons ?_ (AsmOk.cons ?_ (AsmOk.cons ?_ (AsmOk.cons ?_ (AsmOk.cons ?_ (AsmOk.nil _))))) <;> simp only [BExp.den, IExp.den, AExp.den, e0, e1, ea, ea', hi, hl, hl']
      · exact decide_eq_true (by omega)
      · exact decide_eq_true (by omega)
      · exact decide_eq_false (by omega)
      · exact decide_eq_true (by omega)
      · exact decide_eq_true (by omega)
    · intro j l1 t1 hj hl1
      rcases j with _ | j
      · have hl1 : some ([Seg.row .u8 (.var .u8 0)], _) = some (l1, t1) := Option.some.inj hl1
        cases hl1
        exact ⟨b, o, 0, _, rfl, hp (by omega), ⟨[], by rw [show (AExp.var .u8 0).den E = z from ea, List.append_nil], rfl⟩, fun x hx => by simp at hx⟩
      · rcases j with _ | j
        · have hl1 : some ([Seg.row .u8 (.var .u8 1)], _) = some (l1, t1) := Option.some.inj hl1
          cases hl1
          exact ⟨b', o', 0, _, rfl, hp' (by omega), ⟨[], by rw [show (AExp.var .u8 1).den E = z' from ea', List.append_nil], rfl⟩, fun x hx => by simp at hx⟩
        · omega
    · simp only [smInv, hi, Int.toNat_natCast]; exact hm m' hm'
  · refine ⟨E, [(b, o, 0), (b', o', 0)], (qSame, 1), pSame1, ok', Agree.refl _ _, Base.refl _ _ _, rfl, rfl, hcore (.inr rfl), ?_, ?_, ⟨by omega, i, hi, hle, (fun h => by cases h), fun _ => by omega, hall⟩, fun m' hm' => ?_⟩
    · refine AsmOk.cons ?_ (AsmOk.nil _)
      simp only [BExp.den, IExp.den, e0, hi]
      exact decide_eq_false (by omega)
    · intro j l1 t1 hj hl1
      rcases j with _ | j
      · cases (Option.some.inj hl1)
      · rcases j with _ | j
        · cases (Option.some.inj hl1)
        · omega
    · simp only [smInv, hi, Int.toNat_natCast]; exact hm m' hm'
theorem same_calls (W : World) {p p' : Option Addr} {n n' c c' : Nat} {z z' : List Int} (hz : RowN .u8 W p n c z) (hz' : RowN .u8 W p' n' c' z') :
    Calls Tryd.prog 11 #[.slice p n c, .slice p' n' c'] W fun en W' => en = .returned (.bool (decide (z = z'))) ∧ RowKit.Below W.heap.size W W' := by
  obtain ⟨hf, hb⟩ := fn_of (f := 11) (by kernel_rfl)
  have htop : lenTop = 9223372036854775807 := rfl
  have t1 := hz.top
  have t2 := hz'.top
  have l1 := hz.le
  have l2 := hz'.le
  have hl := hz.len
  have hl' := hz'.len
  have ok := (smSrc n n' c c' z z').ok
  have e0 : (smSrc n n' c c' z z').env.i .i64 0 = n := clip_of (k := .i64) (n := (n : Int)) (i64_in (by omega) (by omega))
  have e1 : (smSrc n n' c c' z z').env.i .i64 1 = n' := clip_of (k := .i64) (n := (n' : Int)) (i64_in (by omega) (by omega))
  have e2 : (smSrc n n' c c' z z').env.i .i64 2 = c := clip_of (k := .i64) (n := (c : Int)) (i64_in (by omega) (by omega))
  have e3 : (smSrc n n' c c' z z').env.i .i64 3 = c' := clip_of (k := .i64) (n := (c' : Int)) (i64_in (by omega) (by omega))
  have ea : (smSrc n n' c c' z z').env.a .u8 0 = z := clipL_of hz.ins (by show ((z.length : Nat) : Int) ≤ lenTop; rw [hl]; omega)
  have ea' : (smSrc n n' c c' z z').env.a .u8 1 = z' := clipL_of hz'.ins (by show ((z'.length : Nat) : Int) ≤ lenTop; rw [hl']; omega)
  have hfx : (smSrc n n' c c' z z').env.fx = [] := rfl
  have hbs0 : (smSrc n n' c c' z z').env.base = 0 := rfl
  generalize (smSrc n n' c c' z z').env = E at ok e0 e1 e2 e3 ea ea' hfx hbs0
  have slot : ∀ {p : Option Addr} {n c : Nat} {z : List Int}, RowN .u8 W p n c z → ∃ b o, (0 < n → At False W b o 0 (z.map (.int .u8))) ∧ ((c = 0 ∧ n = 0) ∨ (p = some ⟨b, o, none⟩)) := by
    intro p n c z h
    by_cases hc : 0 < c
    · obtain ⟨b, o, h1, h2⟩ := h.at' hc
      exact ⟨b, o, h2, .inr h1⟩
    · have := h.le
      exact ⟨0, 0, fun h => by omega, .inl ⟨by omega, by omega⟩⟩
  obtain ⟨b, o, hat, hsl⟩ := slot hz
  obtain ⟨b', o', hat', hsl'⟩ := slot hz'
  have hr : HRel E 2 [(b, o, 0), (b', o', 0)] [none, none] W := by
    have := HRel.ro (e := E) (W := W) (ρ := [(b, o, 0), (b', o', 0)]) (h := [none, none]) rfl (fun i l t hi => by
      rcases i with _ | i
      · simp at hi
      · rcases i with _ | i <;> simp at hi) (Knows.none hbs0 hfx)
    exact this
  have two : ∀ {i : Nat} {p : Option Addr} {n c b o : Nat} {x y : IExp} {ρ : Rho}, ρ[i]? = some (b, o, 0) → x.den E = n → y.den E = c → n ≤ c → ((c = 0 ∧ n = 0) ∨ (p = some ⟨b, o, none⟩)) → (Cell.sl (some ⟨i, 0, none⟩) x (some y)).D E ρ (.slice p n c) := by
    intro i p n c b o x y ρ hρ hx hy hle h
    rcases h with ⟨h1, h2⟩ | rfl
    · subst h1 h2
      exact ⟨_, _, _, rfl, by rw [hx], Nat.le_refl _, .inr ⟨rfl, rfl, fun q hq => by cases hq; exact hy⟩⟩
    · exact slice_D hρ hx hy hle
  refine cfgR (G := 0) (ov := 2) (plan := plan) (tab := noTab) (n := 1000) (N := 1000) (NE := 5000) (sv := 2) (ro := 2) (base := 2) (pats := smPats) (args := smArgs) (st := ⟨[none, none], []⟩) (e0 := E) (ρ0 := [(b, o, 0), (b', o', 0)]) (vs := [.slice p n c, .slice p' n' c']) (W0 := W) (smInv n z z') (fun e v _ => ∀ ρ V, v.D e ρ V → V = .bool (decide (z = z')))
    mixed plan_ok rfl (fun _ _ _ => LtOk.none) (fun e ok g => TabOk.none _ _ _ _) rfl hf hb ok ⟨_, _, rfl, two rfl e0 e2 l1 hsl, _, _, rfl, two rfl e1 e3 l2 hsl', rfl⟩ (AsmOk.nil _) hr (noGlob _) (Nat.le_refl _) (show 2 ≤ 2 by omega) (by decide) (by decide) (by decide) ?_ ?_ ?_ ?_ ?_ (by rw [hfx]; exact Nat.zero_le _)
  · intro k p hm
    rcases smPats_get hm with ⟨rfl, rfl⟩ | ⟨rfl, rfl⟩ <;> kernel_rfl
  · rw [smS]
    have q1 : (BExp.eq (.var .i64 0) (.var .i64 1)).den E = decide ((n : Int) = n') := by simp only [BExp.den, IExp.den, e0, e1]
    simp only [smST, WT.holds, q1, decide_eq_true_eq]
    split
    · exact sm_next hz hz' hat hat' (by omega) (i := 0) ((updI_none rfl).trans e0) ((updI_none rfl).trans e1) ((updA_none rfl).trans ea) ((updA_none rfl).trans ea') ((updI rfl).trans (litD _ _)) (Nat.zero_le _) (fun j hj => by omega) (fun m' hm' => by cases hm')
    · rename_i hne
      intro ρ V hV
      have hV : V = .bool false := hV
      rw [hV, decide_eq_false]
      intro h
      rw [h] at hl
      omega
  · intro q hq e ok' g ha hI
    have a0 : e.i .i64 0 = n := by rw [g.i .i64 0 (by omega)]; exact e0
    have a1 : e.i .i64 1 = n' := by rw [g.i .i64 1 (by omega)]; exact e1
    have b0 : e.a .u8 0 = z := by rw [g.a .u8 0 (by omega)]; exact ea
    have b1 : e.a .u8 1 = z' := by rw [g.a .u8 1 (by omega)]; exact ea'
    obtain ⟨hn', i, hi, hle, hlt, heq, hall⟩ := hI
    simp only [smPats, List.map_cons, List.map_nil, List.mem_cons, List.not_mem_nil, or_false] at hq
    rcases hq with rfl | rfl
    · have hlt := hlt rfl
      rw [smH0]
      have q1 : (BExp.eq (.sel .u8 (.var .u8 0) (.var .i64 1000)) (.sel .u8 (.var .u8 1) (.var .i64 1000))).den e = decide (z.getD i 0 = z'.getD i 0) := by simp only [BExp.den, IExp.den, AExp.den, b0, b1, hi, Int.toNat_natCast]
      simp only [smH0T, WT.holds, q1, decide_eq_true_eq]
      split
      · rename_i hsame
        have hi1 : ∀ {l : List Asg}, getI l .i64 1000 = some (.bin .add .i64 (.var .i64 1000) (.lit 1)) → (Env.upd e e l).i .i64 1000 = ((i + 1 : Nat) : Int) := by
          intro l h
          rw [updI h, binE, litD, show (IExp.var .i64 1000).den e = i from hi]; simp only [binDen]; rw [wrap64 (by omega) (by omega)]; simp
        refine sm_next hz hz' hat hat' (by omega) (i := i + 1) ((updI_none rfl).trans a0) ((updI_none rfl).trans a1) ((updA_none rfl).trans b0) ((updA_none rfl).trans b1) (hi1 rfl) hlt (fun j hj => ?_) (fun m' hm' => ?_)
        · by_cases hji : j = i
          · rw [hji]; exact hsame
          · exact hall j (by omega)
        · cases hm'
          simp only [smInv, hi, Int.toNat_natCast]
          omega
      · rename_i hdiff
        intro ρ V hV
        have hV : V = .bool false := hV
        rw [hV, decide_eq_false]
        rintro rfl
        exact hdiff rfl
    · have heq := heq rfl
      rw [smH1]
      intro ρ V hV
      have hV : V = .bool true := hV
      rw [hV, decide_eq_true]
      apply List.ext_getElem?
      intro j
      by_cases hj : j < n
      · have := hall j (by omega)
        rw [List.getD_eq_getElem?_getD, List.getD_eq_getElem?_getD, List.getElem?_eq_getElem (by omega), List.getElem?_eq_getElem (by omega)] at this
        rw [List.getElem?_eq_getElem (by omega), List.getElem?_eq_getElem (by omega)]
        simpa using this
      · rw [List.getElem?_eq_none (by omega), List.getElem?_eq_none (by omega)]
  · intro k p hm
    rcases smPats_get hm with ⟨rfl, rfl⟩ | ⟨rfl, rfl⟩ <;> rfl
  · rintro e v st' ok' g hd ρb hbb ρ' V W' hp hV
    exact ⟨congrArg _ (hd _ _ hV), below_of_post hp (by rw [hbb.len]; exact Nat.le_refl _)⟩
end Go.Proofs.YtofphikiadiogaaDoor.K
