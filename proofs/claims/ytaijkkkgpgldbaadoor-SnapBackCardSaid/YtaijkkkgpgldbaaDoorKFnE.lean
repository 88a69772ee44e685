/- Letters for several functions: where their values come from. -/
import Derived.Test.YtaijkkkgpgldbaaDoorKFnL
namespace Go.Proofs.YtaijkkkgpgldbaaDoor.K
open Go Sy
set_option maxRecDepth 100000
set_option linter.unusedVariables false
set_option linter.unusedSimpArgs false
abbrev FnRows := List (Nat × (List LV → List LV))
def rowF : FnRows → Nat → Option (List LV → List LV)
  | [], _ => none
  | (i, F) :: r, f => cond (Nat.beq i f) (some F) (rowF r f)
def rowsI (rows : FnRows) (b : IntKind → Nat → Nat → List LV → Int) : IntKind → Nat → Nat → List LV → Int := fun k f j l => match rowF rows f with
  | some F => lvI ((F l).getD j (.i 0))
  | none => b k f j l
def rowsB (rows : FnRows) (b : Nat → Nat → List LV → Bool) : Nat → Nat → List LV → Bool := fun f j l => match rowF rows f with
  | some F => lvB ((F l).getD j (.i 0))
  | none => b f j l
def rowsA (rows : FnRows) (b : IntKind → Nat → Nat → List LV → List Int) : IntKind → Nat → Nat → List LV → List Int := fun k f j l => match rowF rows f with
  | some F => lvA ((F l).getD j (.i 0))
  | none => b k f j l
/-- A source with the functions' letters. -/
def Src.fns (s : Src) (rows : FnRows) : Src := { s with fi := rowsI rows s.fi, fb := rowsB rows s.fb, fa := rowsA rows s.fa }
theorem letAre_of {s : Src} {id : Nat} {lv : List LV} {F : List LV → List LV} (hi : ∀ k j, s.fi k id j lv = lvI ((F lv).getD j (.i 0))) (hb : ∀ j, s.fb id j lv = lvB ((F lv).getD j (.i 0))) (ha : ∀ k j, s.fa k id j lv = lvA ((F lv).getD j (.i 0))) :
    ∀ (ks : List Fc) (l : List LV) (j : Nat), (∀ i x, l[i]? = some x → (F lv)[j + i]? = some x) → WfL ks l → LetAre s.env id lv j ks l
  | [], _, _, _, _ => trivial
  | _ :: _, [], _, _, h => h.elim
  | k :: ks, x :: l, j, hl, h => by
    have h0 : (F lv).getD j (.i 0) = x := by
      have := hl 0 x rfl
      rw [List.getD_eq_getElem?_getD, show (F lv)[j]? = some x from this]; rfl
    refine ⟨?_, letAre_of hi hb ha ks l (j + 1) (fun i y hy => by rw [show j + 1 + i = j + (i + 1) by omega]; exact hl (i + 1) y hy) h.2⟩
    have hw := h.1
    have htop : lenTop = 9223372036854775807 := rfl
    cases k with
    | b =>
      cases x with
      | b y => show s.fb id j lv = y; rw [hb, h0]; rfl
      | i _ => exact hw.elim
      | a _ => exact hw.elim
    | i k =>
      cases x with
      | i n => show clip k (s.fi k id j lv) = n; rw [hi, h0]; exact clip_of hw
      | b _ => exact hw.elim
      | a _ => exact hw.elim
    | s =>
      cases x with
      | a z => show clipL .u8 (s.fa .u8 id j lv) = z; rw [ha, h0]; exact clipL_of hw.1 hw.2
      | b _ => exact hw.elim
      | i _ => exact hw.elim
    | arr k n =>
      cases x with
      | a z =>
        show clipL k (s.fa k id j lv) = z
        rw [ha, h0]
        obtain ⟨w1, w2, w3⟩ := hw
        exact clipL_of w1 (by show ((z.length : Nat) : Int) ≤ lenTop; omega)
      | b _ => exact hw.elim
      | i _ => exact hw.elim
theorem FnE.of {s : Src} {id : Nat} {ps rs : List Sh} {F : List LV → List LV} (hi : ∀ k j l, s.fi k id j l = lvI ((F l).getD j (.i 0))) (hb : ∀ j l, s.fb id j l = lvB ((F l).getD j (.i 0))) (ha : ∀ k j l, s.fa k id j l = lvA ((F l).getD j (.i 0))) : FnE s.env id ps rs F :=
  fun lv _ h2 => letAre_of (fun k j => hi k j lv) (fun j => hb j lv) (fun k j => ha k j lv) _ _ 0 (fun i x hx => by rw [Nat.zero_add]; exact hx) h2
theorem FnE.rows {s : Src} {rows : FnRows} {id : Nat} {ps rs : List Sh} {F : List LV → List LV} (h : rowF rows id = some F) : FnE (Src.fns s rows).env id ps rs F :=
  FnE.of (fun k j l => by simp only [Src.fns, rowsI, h]) (fun j l => by simp only [Src.fns, rowsB, h]) (fun k j l => by simp only [Src.fns, rowsA, h])
theorem fns_fa {s : Src} {rows rows' : FnRows} {f : Nat} (h : rowF rows f = rowF rows' f) (k : IntKind) : (Src.fns s rows).env.fa k f = (Src.fns s rows').env.fa k f := by
  funext j l; simp only [Src.fns, Src.env, rowsA, h]
theorem fns_fi {s : Src} {rows rows' : FnRows} {f : Nat} (h : rowF rows f = rowF rows' f) (k : IntKind) : (Src.fns s rows).env.fi k f = (Src.fns s rows').env.fi k f := by
  funext j l; simp only [Src.fns, Src.env, rowsI, h]
theorem fns_fb {s : Src} {rows rows' : FnRows} {f : Nat} (h : rowF rows f = rowF rows' f) : (Src.fns s rows).env.fb f = (Src.fns s rows').env.fb f := by
  funext j l; simp only [Src.fns, Src.env, rowsB, h]
theorem letAre_same {e e' : Env} (hi : e'.fi = e.fi) (hb : e'.fb = e.fb) (ha : e'.fa = e.fa) {id : Nat} {lv : List LV} : ∀ {ks : List Fc} {l : List LV} {j : Nat}, LetAre e id lv j ks l → LetAre e' id lv j ks l
  | [], _, _, _ => trivial
  | _ :: _, [], _, h => h.elim
  | k :: ks, x :: l, j, h => by
    refine ⟨?_, letAre_same hi hb ha h.2⟩
    have := h.1
    cases k <;> cases x <;> simp only [hi, hb, ha] <;> exact this
theorem FnE.same {e e' : Env} (hi : e'.fi = e.fi) (hb : e'.fb = e.fb) (ha : e'.fa = e.fa) {id : Nat} {ps rs : List Sh} {F : List LV → List LV} (h : FnE e id ps rs F) : FnE e' id ps rs F :=
  fun lv h1 h2 => letAre_same hi hb ha (h lv h1 h2)
/-- A contract ahead of another one. -/
def orTab (t u : Tab) : Tab := fun ro f args st => match t ro f args st with
  | some x => some x
  | none => u ro f args st
theorem orTab_ok {P : Program} {G ov : Nat} {t u : Tab} {e : Env} (h : TabOk P G ov t e) (k : TabOk P G ov u e) : TabOk P G ov (orTab t u) e := TabOk.or h k
/-- A call without arguments that answers true. -/
def tabYes (f : Nat) : Tab := fun _ g args st => if g = f then (match args with
  | [] => some (.leaf (.v (.c (.b (.lit true))), st))
  | _ => none) else none
theorem tabYes_ok {f : Nat} {Pre : World → Prop} (hf : ∀ W, Pre W → Calls Tryd.prog f #[] W fun en W' => en = .returned (.bool true) ∧ RowKit.Below W.heap.size W W') {e : Env} (G ov : Nat) (hpre : ∀ ρ W, Old e ov ρ W → Pre W) : TabOk Tryd.prog G ov (tabYes f) e := by
  intro ro g args st t Z ht hov hz ρ vs W R hv ha hr hg hR
  unfold tabYes at ht
  split at ht
  · rename_i hgf
    subst hgf
    split at ht
    · cases ht
      have hv : vs = [] := hv
      subst hv
      refine (hf W (hpre ρ W hr.old)).mono ?_
      rintro en W' ⟨rfl, hb⟩
      exact hR _ _ hz ρ _ W' (Post.of_below hr hb) rfl ha
    · cases ht
  · cases ht
end Go.Proofs.YtaijkkkgpgldbaaDoor.K
