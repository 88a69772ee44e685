/- Two functions that are held alike answer the same value, wherever they are called. -/
import Derived.Test.YtjnoacnbhcdidaaDoorCpEqv
namespace Go.Proofs.YtjnoacnbhcdidaaDoor.K
open Go Sy
set_option maxRecDepth 100000
set_option linter.unusedVariables false
set_option linter.unusedSimpArgs false

theorem calls_some {P : Program} {f : Nat} {vs : Array Value} {W : World} {R : Ending → World → Prop} (h : Calls P f vs W R) : ∃ en W', R en W' := by
  obtain ⟨en, W', _, hr, _⟩ := h []
  exact ⟨en, W', hr⟩
def pickW {α : Type} (e : Env) : WT α → Option α
  | .leaf a => some a
  | .node b t f => if b.den e = true then pickW e t else pickW e f
  | .both _ _ => none
  | .stop => none
theorem allOne_pick {α : Type} {p : α → Bool} (e : Env) : ∀ {t : WT α}, allOne p t = true → ∃ a, pickW e t = some a ∧ p a = true ∧ t.holds e (· = a)
  | .leaf a, h => ⟨a, rfl, h, rfl⟩
  | .node b t f, h => by
    simp only [allOne, Bool.and_eq_true] at h
    by_cases hb : b.den e = true
    · obtain ⟨a, h1, h2, h3⟩ := allOne_pick e h.1
      exact ⟨a, by simp only [pickW, if_pos hb, h1], h2, by simp only [WT.holds, if_pos hb]; exact h3⟩
    · obtain ⟨a, h1, h2, h3⟩ := allOne_pick e h.2
      exact ⟨a, by simp only [pickW, if_neg hb, h1], h2, by simp only [WT.holds, if_neg hb]; exact h3⟩
  | .both _ _, h => by cases h
  | .stop, h => by cases h
theorem pickW_holds {α : Type} {e : Env} {a : α} : ∀ {t : WT α}, pickW e t = some a → t.holds e (· = a)
  | .leaf _, h => by cases h; rfl
  | .node b t f, h => by
    simp only [pickW] at h
    simp only [WT.holds]
    split at h
    · rename_i hb; rw [if_pos hb]; exact pickW_holds h
    · rename_i hb; rw [if_neg hb]; exact pickW_holds h
  | .both _ _, h => by cases h
  | .stop, h => by cases h

/-! ### Flat values -/
def cellV (e : Env) : Cell → Option Value
  | .b x => some (.bool (x.den e))
  | .i k x => some (.int k (x.den e))
  | .s x => some (.string (strOf (x.den e)))
  | _ => none
def segsV (e : Env) : List Seg → Option (List Value)
  | [] => some []
  | .c x :: r => match cellV e x, segsV e r with
    | some v, some l => some (v :: l)
    | _, _ => none
  | .arr k _ a :: r => (segsV e r).map fun l => (a.den e).map (.int k) ++ l
  | _ => none
def svalV (e : Env) : SVal → Option Value
  | .v (.c x) => cellV e x
  | .v (.agg l) => (segsV e l).map fun l => .agg l.toArray
  | _ => none
theorem cellV_eq {e : Env} {ρ : Rho} {x : Cell} {v w : Value} (h : cellV e x = some v) (hD : x.D e ρ w) : w = v := by
  cases x <;> first | (cases h; exact hD) | cases h
theorem segsV_eq {e : Env} {ρ : Rho} : ∀ {l : List Seg} {vs ws : List Value}, segsV e l = some vs → SegsD e ρ l ws → ws = vs
  | [], _, _, h, hD => by cases h; exact hD
  | .c x :: r, _, _, h, ⟨v, ws', h1, h2, h3⟩ => by
    simp only [segsV] at h
    split at h
    · rename_i u l hu hl
      cases h
      rw [h1, cellV_eq hu h2, segsV_eq hl h3]
    · cases h
  | .arr k _ a :: r, _, _, h, ⟨ws', h1, _, h3⟩ => by
    simp only [segsV, Option.map_eq_some_iff] at h
    obtain ⟨l, hl, rfl⟩ := h
    rw [h1, segsV_eq hl h3]
  | .row _ _ :: _, _, _, h, _ => by cases h
  | .el _ _ _ _ :: _, _, _, h, _ => by cases h
theorem svalV_eq {e : Env} {ρ : Rho} {x : SVal} {v w : Value} (h : svalV e x = some v) (hD : x.D e ρ w) : w = v := by
  unfold svalV at h
  split at h
  · exact cellV_eq h hD
  · obtain ⟨l, hl, rfl⟩ := Option.map_eq_some_iff.1 h
    obtain ⟨ws, rfl, h2⟩ := hD
    rw [segsV_eq hl h2]
  · cases h
theorem cellV_D {e : Env} {ρ : Rho} {x : Cell} {v : Value} (h : cellV e x = some v) : x.D e ρ v := by
  cases x <;> first | (cases h; rfl) | cases h
/-- Cells that can be told. -/
def cellFlat : Cell → Bool
  | .b _ => true
  | .i _ _ => true
  | .s _ => true
  | _ => false
def segFlat : Seg → Bool
  | .c x => cellFlat x
  | .arr _ _ _ => true
  | _ => false
theorem flat_cell {e : Env} {x : Cell} (h : cellFlat x = true) : ∃ v, cellV e x = some v := by
  cases x <;> first | exact ⟨_, rfl⟩ | cases h
theorem flat_segs {e : Env} : ∀ {l : List Seg}, (∀ x ∈ l, segFlat x = true) → ∃ vs, segsV e l = some vs
  | [], _ => ⟨[], rfl⟩
  | x :: r, h => by
    obtain ⟨vs, hvs⟩ := flat_segs (e := e) (l := r) fun y hy => h y (List.mem_cons_of_mem _ hy)
    have hx := h x List.mem_cons_self
    cases x with
    | c y =>
      obtain ⟨v, hv⟩ := flat_cell (e := e) hx
      exact ⟨v :: vs, by simp only [segsV, hv, hvs]⟩
    | arr k n a => exact ⟨(a.den e).map (.int k) ++ vs, by simp only [segsV, hvs, Option.map_some]⟩
    | row k a => cases hx
    | el n w j l => cases hx
theorem cmpCell_flat {e : Env} {aq aq' : Asm} {x y : Cell} {b : Bool} (h : (cmpCell aq x y).pick e = some (b, aq')) : cellFlat x = true ∧ cellFlat y = true := by
  unfold cmpCell at h
  split at h
  · exact ⟨rfl, rfl⟩
  · exact ⟨rfl, rfl⟩
  · exact ⟨rfl, rfl⟩
  · cases h
theorem cmpSegs_flat {e : Env} : ∀ {n : Nat} {aq aq' : Asm} {l l' : List Seg}, (cmpSegs n aq l l').pick e = some (true, aq') → (∀ x ∈ l, segFlat x = true) ∧ (∀ x ∈ l', segFlat x = true)
  | 0, _, _, _, _, h => by cases h
  | n + 1, aq, aq', l, l', h => by
    unfold cmpSegs at h
    split at h
    · rename_i heq; cases heq
    · exact ⟨fun x hx => (by cases hx), fun x hx => (by cases hx)⟩
    · rename_i k m a r k' m' a' r' heq
      split at h
      · obtain ⟨h1, h2⟩ := cmpSegs_flat h
        exact ⟨List.forall_mem_cons.2 ⟨rfl, h1⟩, List.forall_mem_cons.2 ⟨rfl, h2⟩⟩
      · obtain ⟨h1, h2⟩ := cmpSegs_flat h
        exact ⟨List.forall_mem_cons.2 ⟨rfl, fun x hx => h1 x (List.mem_append_right _ hx)⟩, List.forall_mem_cons.2 ⟨rfl, fun x hx => h2 x (List.mem_append_right _ hx)⟩⟩
    · obtain ⟨h1, h2⟩ := cmpSegs_flat h
      exact ⟨List.forall_mem_cons.2 ⟨rfl, fun x hx => h1 x (List.mem_append_right _ hx)⟩, h2⟩
    · obtain ⟨h1, h2⟩ := cmpSegs_flat h
      exact ⟨h1, List.forall_mem_cons.2 ⟨rfl, fun x hx => h2 x (List.mem_append_right _ hx)⟩⟩
    · obtain ⟨⟨b, aq1⟩, h1, h2⟩ := Tree.pick_bind h
      have hf := cmpCell_flat h1
      cases b with
      | false => simp only [Bool.false_eq_true, if_false, Tree.pick, Option.some.injEq, Prod.mk.injEq] at h2; cases h2.1
      | true =>
        simp only [if_true] at h2
        obtain ⟨h3, h4⟩ := cmpSegs_flat h2
        exact ⟨List.forall_mem_cons.2 ⟨hf.1, h3⟩, List.forall_mem_cons.2 ⟨hf.2, h4⟩⟩
    · cases h
theorem Cell.flatD {e : Env} {ρ ρ' : Rho} {x : Cell} {v : Value} (h : cellFlat x = true) (hD : x.D e ρ v) : x.D e ρ' v := by
  cases x <;> first | exact hD | cases h
theorem Segs.flatD {e : Env} {ρ ρ' : Rho} : ∀ {l : List Seg} {vs : List Value}, (∀ x ∈ l, segFlat x = true) → SegsD e ρ l vs → SegsD e ρ' l vs
  | [], _, _, h => h
  | .c x :: r, _, hf, ⟨v, vs', h1, h2, h3⟩ => by
    obtain ⟨f1, f2⟩ := List.forall_mem_cons.1 hf
    exact ⟨v, vs', h1, Cell.flatD f1 h2, Segs.flatD f2 h3⟩
  | .arr _ _ a :: r, _, hf, ⟨vs', h1, h2, h3⟩ => ⟨vs', h1, h2, Segs.flatD (List.forall_mem_cons.1 hf).2 h3⟩
  | .row _ _ :: _, _, hf, _ => by cases (List.forall_mem_cons.1 hf).1
  | .el _ _ _ _ :: _, _, hf, _ => by cases (List.forall_mem_cons.1 hf).1
/-- Held alike: one value. -/
theorem sameVal_ok {e : Env} (ok : EnvOk e) {aq : Asm} (ha : AsmOk e aq) {x y : SVal} (h : allOne id (sameVal aq x y) = true) : (∃ v, svalV e x = some v) ∧ (∃ v, svalV e y = some v) ∧ ∀ ρ ρ' v w, x.D e ρ v → y.D e ρ' w → v = w := by
  obtain ⟨b, _, hb, hh⟩ := allOne_pick e h
  have hb : b = true := hb
  subst hb
  unfold sameVal at hh
  split at hh
  · rename_i l l'
    obtain ⟨⟨b, aq1⟩, h1, h2⟩ := Tree.holds_bindW hh
    have h2 : b = true := h2
    subst h2
    obtain ⟨f1, f2⟩ := cmpSegs_flat h1
    obtain ⟨vs, hvs⟩ := flat_segs (e := e) f1
    obtain ⟨ws, hws⟩ := flat_segs (e := e) f2
    refine ⟨⟨.agg vs.toArray, by simp only [svalV, hvs, Option.map_some]⟩, ⟨.agg ws.toArray, by simp only [svalV, hws, Option.map_some]⟩, ?_⟩
    rintro ρ ρ' v w ⟨us, rfl, hu⟩ ⟨zs, rfl, hz⟩
    rw [(cmpSegs_ok ok (ρ := []) ha (Segs.flatD f1 hu) (Segs.flatD f2 hz) h1).1.1 rfl]
  · rename_i a c
    obtain ⟨⟨b, aq1⟩, h1, h2⟩ := Tree.holds_bindW hh
    have h2 : b = true := h2
    subst h2
    obtain ⟨f1, f2⟩ := cmpCell_flat h1
    obtain ⟨v, hv⟩ := flat_cell (e := e) f1
    obtain ⟨w, hw⟩ := flat_cell (e := e) f2
    refine ⟨⟨v, hv⟩, ⟨w, hw⟩, fun ρ ρ' v w hx hy => ?_⟩
    exact (cmpCell_ok ok (ρ := []) ha (Cell.flatD f1 hx) (Cell.flatD f2 hy) h1).1.1 rfl
  · exact hh.elim

/-- The laid table stands there. -/
def Laid (W : World) : Prop := ∀ e, HRel e 1 [(0, 0, 0)] g0 W
theorem glob1 : Glob 1 [(0, 0, 0)] := fun g hg => by
  have : g = 0 := by omega
  subst this; rfl
def Ret (V : Value) (W : World) (en : Ending) (W' : World) : Prop := en = .returned V ∧ RowKit.Below W.heap.size W W'
theorem run1_calls {e : Env} (ok : EnvOk e) {f : Nat} {args : List SVal} {vs : List Value} {aq : Asm} (hvs : SValsD e [(0, 0, 0)] args vs) (ha : AsmOk e aq) {a : SVal × St} (h : (run1 f args aq).holds e (· = a)) {W : World} (hW : Laid W) :
    Calls Tryd.prog f vs.toArray W fun en W' => ∃ V ρ', en = .returned V ∧ a.1.D e ρ' V ∧ AsmOk e a.2.as ∧ RowKit.Below W.heap.size W W' := by
  refine (run_call ok mixed plan_ok LtOk.none (TabOk.none _ _ _ _) (n := 1000) hvs ha (hW e) glob1 (Nat.le_refl 1) h).mono ?_
  rintro en W' ⟨v, st', ρ', V, hz, rfl, hV, has, hb⟩
  cases hz
  exact ⟨V, ρ', rfl, hV, has, hb⟩
theorem eqv_ok {e : Env} (ok : EnvOk e) {f g : Nat} {args : List SVal} {vs : List Value} {aq : Asm} (h : eqvT f g args aq = true) (hvs : SValsD e [(0, 0, 0)] args vs) (ha : AsmOk e aq) :
    ∃ V, ∀ W, Laid W → Calls Tryd.prog f vs.toArray W (Ret V W) ∧ Calls Tryd.prog g vs.toArray W (Ret V W) := by
  obtain ⟨q, _, hq, hq2⟩ := allOne_pick e h
  obtain ⟨r, _, hr, hr2⟩ := allOne_pick e hq
  rcases Classical.em (∃ W, Laid W) with ⟨W0, hW0⟩ | hno
  · have c1 := fun W (hW : Laid W) => run1_calls ok hvs ha hq2 hW
    obtain ⟨_, _, V1, ρ1, _, d1, ha1, _⟩ := calls_some (c1 W0 hW0)
    have c2 := fun W (hW : Laid W) => run1_calls ok hvs ha1 hr2 hW
    obtain ⟨_, _, V2, ρ2, _, d2, ha2, _⟩ := calls_some (c2 W0 hW0)
    obtain ⟨⟨V, v1⟩, ⟨V', v2⟩, hvv⟩ := sameVal_ok ok ha2 hr
    have : V = V' := by rw [← svalV_eq v1 d1, ← svalV_eq v2 d2]; exact hvv _ _ _ _ d1 d2
    subst this
    refine ⟨V, fun W hW => ⟨(c1 W hW).mono ?_, (c2 W hW).mono ?_⟩⟩
    · rintro en W' ⟨V', ρ', rfl, hD, _, hb⟩
      exact ⟨by rw [svalV_eq v1 hD], hb⟩
    · rintro en W' ⟨V', ρ', rfl, hD, _, hb⟩
      exact ⟨by rw [svalV_eq v2 hD], hb⟩
  · exact ⟨undef, fun W hW => absurd ⟨W, hW⟩ hno⟩
end Go.Proofs.YtjnoacnbhcdidaaDoor.K
