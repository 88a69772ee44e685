/- Pure functions that read slices of numbers, by letters: their arguments. -/
import Derived.Test.YtaijkkkgpgldbaaDoorKFnE
import Derived.Test.YtaijkkkgpgldbaaDoorKMore
namespace Go.Proofs.YtaijkkkgpgldbaaDoor.K
open Go Sy
set_option maxRecDepth 100000
set_option linter.unusedVariables false
set_option linter.unusedSimpArgs false
/-- A cell of an argument: flat, or a slice of numbers. -/
inductive Fr where
  | f (k : Fc)
  | row (k : IntKind)
inductive Shr where
  | c (k : Fr)
  | agg (ks : List Fr)
def Shr.frs : Shr → List Fr
  | .c k => [k]
  | .agg ks => ks
def shrFlat : List Shr → List Fr
  | [] => []
  | x :: r => x.frs ++ shrFlat r
def Fr.Wf : Fr → LV → Prop
  | .f k, x => k.Wf x
  | .row k, .a l => (∀ x ∈ l, In k x) ∧ (l.length : Int) ≤ lenTop
  | _, _ => False
def WfR : List Fr → List LV → Prop
  | [], [] => True
  | k :: ks, x :: l => k.Wf x ∧ WfR ks l
  | _, _ => False
theorem WfR.length : ∀ {ks : List Fr} {l : List LV}, WfR ks l → l.length = ks.length
  | [], [], _ => rfl
  | k :: ks, x :: l, h => by simp only [List.length_cons, WfR.length h.2]
  | [], _ :: _, h => h.elim
  | _ :: _, [], h => h.elim
theorem WfR.split : ∀ {ks ks' : List Fr} {l : List LV}, WfR (ks ++ ks') l → WfR ks (l.take ks.length) ∧ WfR ks' (l.drop ks.length)
  | [], ks', l, h => ⟨by simp [WfR], by simpa using h⟩
  | k :: ks, ks', x :: l, h => by
    obtain ⟨h1, h2⟩ := h
    obtain ⟨g1, g2⟩ := WfR.split h2
    exact ⟨⟨h1, by simpa using g1⟩, by simpa using g2⟩
  | k :: ks, ks', [], h => h.elim
theorem WfR.append : ∀ {ks ks' : List Fr} {l l' : List LV}, WfR ks l → WfR ks' l' → WfR (ks ++ ks') (l ++ l')
  | [], _, [], _, _, h => h
  | k :: ks, _, x :: l, _, h, h' => ⟨h.1, WfR.append h.2 h'⟩
  | [], _, _ :: _, _, h, _ => h.elim
  | _ :: _, _, [], _, h, _ => h.elim
/-- The first elements of a slice are these. -/
def RowV (k : IntKind) (W : World) (v : Value) (z : List Int) : Prop := ∃ p n c, v = .slice p n c ∧ n ≤ c ∧ z.length = n ∧ (c = 0 ∨ ∃ b o, p = some ⟨b, o, none⟩ ∧ At False W b o 0 (z.map (.int k)))
theorem At.room {W : World} {b o r r' : Nat} {vs : List Value} (h : At False W b o r vs) : At False W b o r' vs := by
  obtain ⟨cs, t, fz, pre, rest, h1, h2, h3, h4, _⟩ := h.ex
  exact ⟨cs, t, fz, pre, rest, h1, h2, h3, h4, fun q => q.elim⟩
/-- A part of what is known of a block. -/
theorem At.part {w : Prop} {W : World} {b o r : Nat} {vs : List Value} (h : At w W b o r vs) {p n : Nat} (hp : p ≤ vs.length) : At False W b (o + p) 0 ((vs.drop p).take n) := by
  obtain ⟨cs, t, fz, pre, rest, h1, _, h3, h4, _⟩ := h.ex
  refine ⟨cs, t, fz, pre ++ vs.take p, (vs.drop p).drop n ++ rest, h1, fun q => q.elim, ?_, ?_, fun q => q.elim⟩
  · rw [h3]
    simp only [List.append_assoc]
    rw [← List.append_assoc ((vs.drop p).take n), List.take_append_drop, ← List.append_assoc (vs.take p), List.take_append_drop]
  · rw [List.length_append, List.length_take, Nat.min_eq_left hp, h4]
theorem rowV_of {k : IntKind} {W : World} {a : Option Addr} {n c : Nat} {z : List Int} (h : IsRow k W a n c z) : RowV k W (.slice a n c) (z.take n) ∧ (∀ x ∈ z.take n, In k x) ∧ ((z.take n).length : Int) ≤ lenTop := by
  have htop : lenTop = 9223372036854775807 := rfl
  rcases isRow_cases h with ⟨rfl, rfl, rfl⟩ | ⟨b, o, rfl, h1, h2, h3, h4, h5, h6⟩
  · exact ⟨⟨a, 0, 0, rfl, Nat.le_refl _, rfl, .inl rfl⟩, fun x hx => by simp at hx, by simp; omega⟩
  · refine ⟨⟨_, n, c, rfl, h2, by rw [List.length_take]; omega, .inr ⟨b, o, rfl, ?_⟩⟩, fun x hx => h6 x (List.mem_of_mem_take hx), by rw [List.length_take]; omega⟩
    have := At.part h5 (p := 0) (n := n) (Nat.zero_le _)
    rwa [Nat.add_zero, List.drop_zero, ← List.map_take] at this
def Fr.Is (W : World) : Fr → LV → List Value → Prop
  | .f k, x, vs => vs = k.vals x
  | .row k, .a l, vs => ∃ v, vs = [v] ∧ RowV k W v l
  | _, _, _ => False
def frsIs (W : World) : List Fr → List LV → List Value → Prop
  | [], [], vs => vs = []
  | k :: ks, x :: l, vs => ∃ us ws, vs = us ++ ws ∧ k.Is W x us ∧ frsIs W ks l ws
  | _, _, _ => False
theorem frsIs.length {W : World} : ∀ {ks : List Fr} {l : List LV} {vs : List Value}, frsIs W ks l vs → l.length = ks.length
  | [], [], _, _ => rfl
  | k :: ks, x :: l, _, ⟨_, _, _, _, h⟩ => by simp only [List.length_cons, frsIs.length h]
  | [], _ :: _, _, h => h.elim
  | _ :: _, [], _, h => h.elim
def Shr.Is (W : World) (s : Shr) (l : List LV) (v : Value) : Prop := match s with
  | .c k => frsIs W [k] l [v]
  | .agg ks => ∃ vs, v = .agg vs.toArray ∧ frsIs W ks l vs
def shrsIs (W : World) : List Shr → List LV → List Value → Prop
  | [], l, vs => l = [] ∧ vs = []
  | s :: r, l, vs => ∃ v ws, vs = v :: ws ∧ s.Is W (l.take s.frs.length) v ∧ shrsIs W r (l.drop s.frs.length) ws
/-! ### Letters for the arguments -/
def canonR (p b : Nat) : Fr → Seg
  | .f k => canonF p k
  | .row k => .c (.sl (some ⟨b, 0, none⟩) (.len (.var k p)) none)
def Fr.nb : Fr → Nat
  | .row _ => 1
  | .f _ => 0
def frNb : List Fr → Nat
  | [] => 0
  | k :: r => k.nb + frNb r
def canonRs (p b : Nat) : List Fr → List Seg
  | [] => []
  | k :: r => canonR p b k :: canonRs (p + 1) (b + k.nb) r
def canonRSV (p b : Nat) : Shr → SV
  | .c k => (match canonR p b k with
    | .c x => .c x
    | _ => .c .nf)
  | .agg ks => .agg (canonRs p b ks)
def canonRArgs (p b : Nat) : List Shr → List SVal
  | [] => []
  | s :: r => .v (canonRSV p b s) :: canonRArgs (p + s.frs.length) (b + frNb s.frs) r
def Fr.blk (p : Nat) : Fr → SHeap
  | .row k => [some ([.row k (.var k p)], 0)]
  | .f _ => []
def canonRH (p : Nat) : List Fr → SHeap
  | [] => []
  | k :: r => k.blk p ++ canonRH (p + 1) r
def canonRAs (p : Nat) : List Fr → Asm
  | [] => []
  | k :: r => (match k with
    | .f (.arr k n) => [(.eq (.len (.var k p)) (.lit n), true)]
    | _ => []) ++ canonRAs (p + 1) r
def Shr.plain : Shr → Bool
  | .c (.f (.arr _ _)) => false
  | _ => true
/-- There is a first block. -/
def Blk0 (W : World) : Prop := ∃ cs t fz, W.heap[0]? = some (.cells cs t fz)
theorem Blk0.at' {W : World} (h : Blk0 W) (r : Nat) : At False W 0 0 r [] := by
  obtain ⟨cs, t, fz, h⟩ := h
  exact ⟨cs, t, fz, [], cs.toList, h, fun q => q.elim, by simp, rfl, fun q => q.elim⟩
/-- The blocks of the slices. -/
structure RowsOk (e : Env) (W : World) (R : Rho) (H : SHeap) : Prop where
  len : H.length = R.length
  at' : ∀ (i : Nat) l t, H[i]? = some (some (l, t)) → ∃ b o r us, R[i]? = some (b, o, r) ∧ At False W b o r us ∧ ∀ ρ, SegsD e ρ l us
theorem RowsOk.nil (e : Env) (W : World) : RowsOk e W [] [] := ⟨rfl, fun i l t h => by simp at h⟩
theorem RowsOk.append {e : Env} {W : World} {R R' : Rho} {H H' : SHeap} (h : RowsOk e W R H) (h' : RowsOk e W R' H') : RowsOk e W (R ++ R') (H ++ H') := by
  refine ⟨by simp only [List.length_append, h.len, h'.len], fun i l t hi => ?_⟩
  rcases Nat.lt_or_ge i H.length with hlt | hge
  · rw [List.getElem?_append_left hlt] at hi
    obtain ⟨b, o, r, us, h1, h2, h3⟩ := h.at' i l t hi
    exact ⟨b, o, r, us, by rw [List.getElem?_append_left (by rw [← h.len]; exact hlt)]; exact h1, h2, h3⟩
  · rw [List.getElem?_append_right hge] at hi
    obtain ⟨b, o, r, us, h1, h2, h3⟩ := h'.at' _ l t hi
    exact ⟨b, o, r, us, by rw [List.getElem?_append_right (by rw [← h.len]; exact hge), ← h.len]; exact h1, h2, h3⟩
section
variable {s : Src} {lv : List LV}
theorem canonR_D {W : World} (hB : Blk0 W) {p b : Nat} {k : Fr} {x : LV} (hx : lv[p]? = some x) (hw : k.Wf x) {us : List Value} (hI : k.Is W x us) :
    ∃ R : Rho, R.length = k.nb ∧ RowsOk (envOf s lv).env W R (k.blk p) ∧ ∀ ρ : Rho, (∀ (i : Nat) y, R[i]? = some y → ρ[b + i]? = some y) → ∀ r ws, SegsD (envOf s lv).env ρ r ws → SegsD (envOf s lv).env ρ (canonR p b k :: r) (us ++ ws) := by
  cases k with
  | f k =>
    have hI : us = k.vals x := hI
    subst hI
    exact ⟨[], rfl, RowsOk.nil _ _, fun ρ _ r ws hr => canonF_D hx hw hr⟩
  | row k =>
    cases x with
    | i _ => exact hw.elim
    | b _ => exact hw.elim
    | a l =>
      obtain ⟨v, rfl, q, n, c, rfl, hnc, hl, hat⟩ := hI
      have hA : (AExp.var k p).den (envOf s lv).env = l := by
        show clipL k (lvA (lv.getD p (.i 0))) = l
        rw [List.getD_eq_getElem?_getD, hx]
        exact clipL_of hw.1 hw.2
      have hn : (n : Int) = (IExp.len (.var k p)).den (envOf s lv).env := by simp only [IExp.den]; rw [hA, hl]
      rcases Nat.eq_zero_or_pos c with h0 | h0
      · subst h0
        have hn0 : n = 0 := by omega
        have hl0 : l = [] := List.eq_nil_of_length_eq_zero (by omega)
        refine ⟨[(0, 0, 0)], rfl, ⟨rfl, fun i l1 t hi => ?_⟩, fun ρ hρ r ws hr => ⟨_, ws, rfl, ⟨q, n, 0, rfl, hn, hnc, .inr ⟨hn0, rfl, fun y hy => by cases hy⟩⟩, hr⟩⟩
        have hi : ([some ([Seg.row k (AExp.var k p)], 0)] : SHeap)[i]? = some (some (l1, t)) := hi
        cases i with
        | zero =>
          simp only [List.getElem?_cons_zero, Option.some.injEq, Prod.mk.injEq] at hi
          obtain ⟨rfl, _⟩ := hi
          exact ⟨0, 0, 0, [], rfl, hB.at' 0, fun ρ => ⟨[], by rw [hA, hl0]; rfl, rfl⟩⟩
        | succ i => simp at hi
      · rcases hat with hat | ⟨b', o, rfl, hat⟩
        · omega
        · refine ⟨[(b', o, c)], rfl, ⟨rfl, fun i l1 t hi => ?_⟩, fun ρ hρ r ws hr => ?_⟩
          · have hi : ([some ([Seg.row k (AExp.var k p)], 0)] : SHeap)[i]? = some (some (l1, t)) := hi
            cases i with
            | zero =>
              simp only [List.getElem?_cons_zero, Option.some.injEq, Prod.mk.injEq] at hi
              obtain ⟨rfl, _⟩ := hi
              exact ⟨b', o, c, _, rfl, At.room hat, fun ρ => ⟨[], by rw [hA, List.append_nil], rfl⟩⟩
            | succ i => simp at hi
          · have hb := hρ 0 (b', o, c) rfl
            rw [Nat.add_zero] at hb
            exact ⟨_, ws, rfl, ⟨_, n, c, rfl, hn, hnc, .inl ⟨⟨b', o, none⟩, ⟨b', o, c, hb, by simp⟩, rfl, b', o, c, hb, by simp [Ad.wid, Ad.pos]⟩⟩, hr⟩
theorem canonRs_D {W : World} (hB : Blk0 W) : ∀ {ks : List Fr} {p b : Nat} {l : List LV} {vs : List Value}, (∀ (i : Nat) x, l[i]? = some x → lv[p + i]? = some x) → WfR ks l → frsIs W ks l vs →
    ∃ R : Rho, R.length = frNb ks ∧ RowsOk (envOf s lv).env W R (canonRH p ks) ∧ ∀ ρ : Rho, (∀ (i : Nat) y, R[i]? = some y → ρ[b + i]? = some y) → SegsD (envOf s lv).env ρ (canonRs p b ks) vs
  | [], p, b, [], vs, _, _, hI => ⟨[], rfl, RowsOk.nil _ _, fun ρ _ => hI⟩
  | k :: ks, p, b, x :: l, vs, hl, hw, hI => by
    obtain ⟨us, ws, rfl, h1, h2⟩ := hI
    obtain ⟨R, g1, g2, g3⟩ := canonR_D (s := s) hB (b := b) (by have := hl 0 x rfl; simpa using this) hw.1 h1
    obtain ⟨R', f1, f2, f3⟩ := canonRs_D hB (p := p + 1) (b := b + k.nb) (fun i y hy => by have := hl (i + 1) y (by simpa using hy); rwa [show p + 1 + i = p + (i + 1) by omega]) hw.2 h2
    refine ⟨R ++ R', by rw [List.length_append, g1, f1]; rfl, g2.append f2, fun ρ hρ => ?_⟩
    refine g3 ρ (fun i y hy => hρ i y (by rw [List.getElem?_append_left (List.getElem?_eq_some_iff.1 hy).1]; exact hy)) _ _ (f3 ρ fun i y hy => ?_)
    rw [show b + k.nb + i = b + (R.length + i) by omega]
    exact hρ _ _ (by rw [List.getElem?_append_right (by omega), show R.length + i - R.length = i by omega]; exact hy)
  | [], _, _, _ :: _, _, _, hw, _ => hw.elim
  | _ :: _, _, _, [], _, _, hw, _ => hw.elim
theorem canonRH_append : ∀ (ks ks' : List Fr) (p : Nat), canonRH p (ks ++ ks') = canonRH p ks ++ canonRH (p + ks.length) ks'
  | [], _, _ => rfl
  | k :: ks, ks', p => by
    simp only [List.cons_append, canonRH, canonRH_append ks ks' (p + 1), List.length_cons, List.append_assoc]
    rw [show p + 1 + ks.length = p + (ks.length + 1) by omega]
theorem frNb_append : ∀ (ks ks' : List Fr), frNb (ks ++ ks') = frNb ks + frNb ks'
  | [], _ => by simp [frNb]
  | k :: ks, ks' => by simp only [List.cons_append, frNb, frNb_append ks ks']; omega
theorem canonRArgs_D {W : World} (hB : Blk0 W) : ∀ {ss : List Shr} {p b : Nat} {l : List LV} {vs : List Value}, ss.all Shr.plain = true → (∀ (i : Nat) x, l[i]? = some x → lv[p + i]? = some x) → WfR (shrFlat ss) l → shrsIs W ss l vs →
    ∃ R : Rho, R.length = frNb (shrFlat ss) ∧ RowsOk (envOf s lv).env W R (canonRH p (shrFlat ss)) ∧ ∀ ρ : Rho, (∀ (i : Nat) y, R[i]? = some y → ρ[b + i]? = some y) → SValsD (envOf s lv).env ρ (canonRArgs p b ss) vs
  | [], p, b, l, vs, _, _, _, hI => by
    obtain ⟨rfl, rfl⟩ := hI
    exact ⟨[], rfl, RowsOk.nil _ _, fun ρ _ => rfl⟩
  | x :: ss, p, b, l, vs, hpl, hl, hw, hI => by
    obtain ⟨v, ws, rfl, h1, h2⟩ := hI
    simp only [List.all_cons, Bool.and_eq_true] at hpl
    obtain ⟨w1, w2⟩ := WfR.split hw
    have hR : ∃ R : Rho, R.length = frNb x.frs ∧ RowsOk (envOf s lv).env W R (canonRH p x.frs) ∧ ∀ ρ : Rho, (∀ (i : Nat) y, R[i]? = some y → ρ[b + i]? = some y) → (SVal.v (canonRSV p b x)).D (envOf s lv).env ρ v := by
      have hl' : ∀ (i : Nat) y, (l.take x.frs.length)[i]? = some y → lv[p + i]? = some y := fun i y hy => hl i y (by
        rcases Nat.lt_or_ge i x.frs.length with hlt | hge
        · rwa [List.getElem?_take_of_lt hlt] at hy
        · rw [List.getElem?_eq_none (by rw [List.length_take]; omega)] at hy; cases hy)
      cases x with
      | agg ks =>
        obtain ⟨us, rfl, hus⟩ := h1
        obtain ⟨R, g1, g2, g3⟩ := canonRs_D (s := s) hB (b := b) hl' w1 hus
        exact ⟨R, g1, g2, fun ρ hρ => ⟨us, rfl, g3 ρ hρ⟩⟩
      | c k =>
        obtain ⟨R, g1, g2, g3⟩ := canonRs_D (s := s) hB (b := b) hl' w1 h1
        refine ⟨R, g1, g2, fun ρ hρ => ?_⟩
        have hS := g3 ρ hρ
        simp only [Shr.frs, canonRs] at hS
        simp only [canonRSV]
        split
        · rename_i y hy
          rw [hy] at hS
          obtain ⟨v', ws', e1, e2, e3⟩ := hS
          cases e1
          exact e2
        · rename_i hne
          exfalso
          cases k with
          | row k => exact hne _ rfl
          | f k => cases k with
            | b => exact hne _ rfl
            | i k => exact hne _ rfl
            | s => exact hne _ rfl
            | arr k n => simp [Shr.plain] at hpl
    obtain ⟨R, g1, g2, g3⟩ := hR
    obtain ⟨R', f1, f2, f3⟩ := canonRArgs_D hB (ss := ss) (p := p + x.frs.length) (b := b + frNb x.frs) (l := l.drop x.frs.length) hpl.2 (fun i y hy => by
      rw [List.getElem?_drop] at hy
      have := hl _ y hy
      rwa [show p + x.frs.length + i = p + (x.frs.length + i) by omega]) w2 h2
    refine ⟨R ++ R', by rw [List.length_append, g1, f1, shrFlat, frNb_append], by rw [shrFlat, canonRH_append]; exact g2.append f2, fun ρ hρ => ⟨v, ws, rfl, ?_, ?_⟩⟩
    · exact g3 ρ fun i y hy => hρ i y (by rw [List.getElem?_append_left (List.getElem?_eq_some_iff.1 hy).1]; exact hy)
    · refine f3 ρ fun i y hy => ?_
      rw [show b + frNb x.frs + i = b + (R.length + i) by omega]
      exact hρ _ _ (by rw [List.getElem?_append_right (by omega), show R.length + i - R.length = i by omega]; exact hy)
theorem canonRAs_ok : ∀ {ks : List Fr} {p : Nat} {l : List LV}, (∀ (i : Nat) x, l[i]? = some x → lv[p + i]? = some x) → WfR ks l → AsmOk (envOf s lv).env (canonRAs p ks)
  | [], _, _, _, _ => AsmOk.nil _
  | k :: ks, p, x :: l, hl, hw => by
    refine AsmOk.append ?_ (canonRAs_ok (p := p + 1) (fun i y hy => by have := hl (i + 1) y (by simpa using hy); rwa [show p + 1 + i = p + (i + 1) by omega]) hw.2)
    split
    · rename_i k' n
      have h1 := hw.1
      cases x with
      | i _ => exact h1.elim
      | b _ => exact h1.elim
      | a z =>
        obtain ⟨w1, w2, w3⟩ := h1
        have hx := hl 0 (.a z) rfl
        rw [Nat.add_zero] at hx
        have htop : lenTop = 9223372036854775807 := rfl
        have hA : (AExp.var k' p).den (envOf s lv).env = z := by
          show clipL k' (lvA (lv.getD p (.i 0))) = z
          rw [List.getD_eq_getElem?_getD, hx]
          exact clipL_of w1 (by show ((z.length : Nat) : Int) ≤ lenTop; omega)
        refine AsmOk.cons ?_ (AsmOk.nil _)
        simp only [BExp.den, IExp.den]
        exact decide_eq_true (by rw [hA, w2])
    · exact AsmOk.nil _
  | _ :: _, _, [], _, hw => hw.elim
end
end Go.Proofs.YtaijkkkgpgldbaaDoor.K
