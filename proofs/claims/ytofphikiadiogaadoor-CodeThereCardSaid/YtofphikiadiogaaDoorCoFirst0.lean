/- The code's names by letters; the first op of a name: its loop. -/
import Derived.Test.YtofphikiadiogaaDoorCoNameR
import Derived.Test.YtofphikiadiogaaDoorKMore
import Derived.Test.YtofphikiadiogaaDoorKOld
namespace Go.Proofs.YtofphikiadiogaaDoor.K
open Go Sy
set_option maxRecDepth 100000
set_option linter.unusedVariables false
set_option linter.unusedSimpArgs false
/-! ### The laid variables, in the memory -/
def gCells (len dig : Bool) : List (Option (List Cell × Nat)) := [if len then some (c_lengths, 62) else none, if dig then some (c_digits, 62) else none, some (c_threes, 74), some (c_sevens, 74), some (c_twelves, 74), some (c_fifteens, 74), some (c_rows, 74)]
def GlobsAt (len dig : Bool) (W : World) : Prop := ∀ (i : Nat) l t, (gCells len dig)[i]? = some (some (l, t)) → ∃ vs, At False W i 0 0 vs ∧ ∀ e ρ, CellsD e ρ l vs
theorem gS_get {len dig : Bool} {i : Nat} {l : List Seg} {t : TypeId} (h : (gS len dig)[i]? = some (some (l, t))) : ∃ c, l = c.map Seg.c ∧ (gCells len dig)[i]? = some (some (c, t)) := by
  have : (gS len dig) = (gCells len dig).map fun o => o.map fun p => (p.1.map Seg.c, p.2) := by cases len <;> cases dig <;> rfl
  rw [this, List.getElem?_map] at h
  cases hq : (gCells len dig)[i]? with
  | none => rw [hq] at h; cases h
  | some o =>
    rw [hq] at h
    cases o with
    | none => cases h
    | some p =>
      obtain ⟨c, t'⟩ := p
      cases h
      exact ⟨c, rfl, rfl⟩
theorem gS_len (len dig : Bool) : (gS len dig).length = 7 := rfl
theorem GlobsAt.hrel {len dig : Bool} {W : World} (h : GlobsAt len dig W) {e : Env} (hk : Knows e W (globs 7)) : HRel e 7 (globs 7) (gS len dig) W := by
  have := HRel.ro (e := e) (W := W) (ρ := globs 7) (h := gS len dig) rfl (fun i l t hi => by
    obtain ⟨c, rfl, hc⟩ := gS_get hi
    obtain ⟨vs, h1, h2⟩ := h i c t hc
    have hlt : i < 7 := (List.getElem?_eq_some_iff.1 hi).1
    exact ⟨i, 0, 0, vs, by simp [globs, hlt], h1, (h2 e (globs 7)).segs⟩) hk
  exact this
theorem GlobsAt.still {len dig : Bool} {W W' : World} (h : GlobsAt len dig W) (hs : Still W W') : GlobsAt len dig W' := fun i l t hi => by
  obtain ⟨vs, h1, h2⟩ := h i l t hi
  exact ⟨vs, hs.at' h1, h2⟩
theorem GlobsAt.weak {len dig : Bool} {W : World} (h : GlobsAt len dig W) : GlobsAt false false W := fun i l t hi => by
  refine h i l t ?_
  rcases i with _ | _ | i
  · cases hi
  · cases hi
  · exact hi
/-- The reading knows a world in which they stand. -/
structure KnowsG (len dig : Bool) (e : Env) : Prop where
  ex : ∃ W0, e.base = W0.heap.size ∧ (e.h0 = fun k => W0.heap[k]?) ∧ GlobsAt len dig W0
theorem KnowsG.at' {len dig : Bool} {e : Env} (h : KnowsG len dig e) {ov : Nat} {ρ : Rho} {W : World} (ho : Old e ov ρ W) : GlobsAt len dig W := by
  obtain ⟨W0, h1, h2, h3⟩ := h.ex
  exact h3.still (Still.of_old ho h1 h2)
theorem KnowsG.agree {len dig : Bool} {e e' : Env} {N : Nat} (h : KnowsG len dig e) (g : Agree N e e') : KnowsG len dig e' := by
  obtain ⟨W0, h1, h2, h3⟩ := h.ex
  exact ⟨W0, g.base.trans h1, g.h0.trans h2, h3⟩
/-! ### Names -/
def nameL (v : Nat) : List Int := nameT.getD v []
theorem namesOk_get {f : Nat} : ∀ {v : Nat} {l : List (List Int)}, namesOk f v l = true → ∀ (i : Nat) w, l[i]? = some w → isName w (nameRun f (v + i)) = true
  | _, [], _, _, _, h => by simp at h
  | v, w :: r, h, i, x, hx => by
    simp only [namesOk, Bool.and_eq_true] at h
    cases i with
    | zero => simp at hx; subst hx; exact h.1
    | succ i =>
      have := namesOk_get h.2 i x (by simpa using hx)
      rwa [show v + (i + 1) = v + 1 + i by omega]
def NamesF (f : Nat) : Prop := ∀ v, v < 256 → isName (nameL v) (nameRun f v) = true
theorem namesF_of {f : Nat} (h0 : namesOk f 0 (nameT.take 64) = true) (h1 : namesOk f 64 ((nameT.drop 64).take 64) = true) (h2 : namesOk f 128 ((nameT.drop 128).take 64) = true) (h3 : namesOk f 192 (nameT.drop 192) = true) : NamesF f := by
  intro v hv
  have hlen : nameT.length = 256 := by kernel_rfl
  have hg : nameT[v]? = some (nameL v) := by
    rw [nameL, List.getD_eq_getElem?_getD, List.getElem?_eq_getElem (by omega)]; rfl
  rcases Nat.lt_or_ge v 64 with h | h
  · have := namesOk_get h0 v (nameL v) (by rw [List.getElem?_take_of_lt h]; exact hg)
    rwa [Nat.zero_add] at this
  · rcases Nat.lt_or_ge v 128 with h | h
    · have := namesOk_get h1 (v - 64) (nameL v) (by rw [List.getElem?_take_of_lt (by omega), List.getElem?_drop, show 64 + (v - 64) = v by omega]; exact hg)
      rwa [show 64 + (v - 64) = v by omega] at this
    · rcases Nat.lt_or_ge v 192 with h | h
      · have := namesOk_get h2 (v - 128) (nameL v) (by rw [List.getElem?_take_of_lt (by omega), List.getElem?_drop, show 128 + (v - 128) = v by omega]; exact hg)
        rwa [show 128 + (v - 128) = v by omega] at this
      · have := namesOk_get h3 (v - 192) (nameL v) (by rw [List.getElem?_drop, show 192 + (v - 192) = v by omega]; exact hg)
        rwa [show 192 + (v - 192) = v by omega] at this
theorem names_a : NamesF 21 := namesF_of name0 name1 name2 name3
theorem names_b : NamesF 46 := namesF_of refName0 refName1 refName2 refName3
theorem eqL_eq : ∀ {l m : List Int}, eqL l m = true → l = m
  | [], [], _ => rfl
  | a :: r, b :: s, h => by
    simp only [eqL, Bool.and_eq_true, decide_eq_true_eq] at h
    rw [h.1, eqL_eq h.2]
  | [], _ :: _, h => by cases h
  | _ :: _, [], h => by cases h
theorem eqL_self : ∀ (l : List Int), eqL l l = true
  | [] => rfl
  | a :: r => by simp [eqL, eqL_self r]
theorem isName_of {w : List Int} {t : WT (SVal × St)} (h : isName w t = true) : ∃ st, t = .leaf (.v (.c (.s (.cst w))), st) := by
  unfold isName at h
  split at h
  · rw [eqL_eq h]; exact ⟨_, rfl⟩
  · cases h
theorem name_calls {f : Nat} (hf : NamesF f) {W : World} (hG : GlobsAt false false W) {v : Nat} (hv : v < 256) :
    Calls Tryd.prog f #[.int .u8 v] W fun en W' => en = .returned (.string (strOf (nameL v))) ∧ RowKit.Below W.heap.size W W' := by
  obtain ⟨st, hst⟩ := isName_of (hf v hv)
  have ok := (srcI []).ok
  refine (run_call (plan := plan) (tab := noTab) (e := (srcI []).env) (n := 100) (G := 7) (ov := 7) (f := f) ok mixed plan_ok LtOk.none (TabOk.none _ _ _ _) (args := [.v (.c (.i .u8 (.lit v)))]) (vs := [.int .u8 v]) («as» := []) (h0 := gS false false) (ρ := globs 7) (Z := fun q => q.1 = .v (.c (.s (.cst (nameL v)))))
    ⟨_, _, rfl, congrArg _ (litD _ _).symm, rfl⟩ (AsmOk.nil _) (hG.hrel (Knows.none rfl rfl)) (globs_ok 7) (Nat.le_refl _) ?_).mono ?_
  · show (nameRun f v).holds _ _
    rw [hst]; rfl
  · rintro en W' ⟨x, st', ρ', V, hz, rfl, hV, _, hb⟩
    simp only at hz
    subst hz
    exact ⟨congrArg _ hV, hb⟩
/-- What the letters of the code stand for. -/
structure CoE (e : Env) : Prop where
  name : ∀ v : Nat, v < 256 → e.fa .u8 1 0 [.i v] = nameL v
/-- All of them have the same name. -/
def oneName : Option (Int × Int) → Option (List Int)
  | some (a, b) => if 0 ≤ a ∧ b ≤ 255 ∧ b - a ≤ 16 ∧ (List.range (b - a + 1).toNat).all (fun j => eqL (nameL (a.toNat + j)) (nameL a.toNat)) = true then some (nameL a.toNat) else none
  | none => none
theorem oneName_ok {r : Option (Int × Int)} {w : List Int} (h : oneName r = some w) {x : Int} (hx : InR x r) : 0 ≤ x ∧ x ≤ 255 ∧ nameL x.toNat = w := by
  unfold oneName at h
  split at h
  · rename_i a b
    split at h
    · rename_i hc
      obtain ⟨h1, h2, _, h3⟩ := hc
      cases h
      obtain ⟨hx1, hx2⟩ := hx
      have := eqL_eq (List.all_eq_true.1 h3 (x - a).toNat (List.mem_range.2 (by omega)))
      rw [show a.toNat + (x - a).toNat = x.toNat by omega] at this
      exact ⟨by omega, by omega, this⟩
    · cases h
  · cases h
def tabName (f : Nat) : Tab := fun _ g args st => if g = f then (match args with
  | [.v (.c (.i .u8 x))] => (match isLit x with
    | some n => if 0 ≤ n ∧ n ≤ 255 then some (.leaf (.v (.c (.s (.cst (nameL n.toNat)))), st)) else none
    | none => (match oneName (x.rng st.as) with
      | some w => some (.leaf (.v (.c (.s (.cst w))), st))
      | none => if inKind .u8 (x.rng st.as) = true then some (.leaf (.v (.c (.s (.fn .u8 1 0 (.i x .nil)))), st)) else none))
  | _ => none) else none
theorem tabName_ok {f : Nat} (hf : NamesF f) {len dig : Bool} {e : Env} (ok : EnvOk e) (hE : CoE e) (hk : KnowsG len dig e) (G ov : Nat) : TabOk Tryd.prog G ov (tabName f) e := by
  intro ro g args st t Z ht hov hz ρ vs W R hv ha hr hg hR
  unfold tabName at ht
  split at ht
  · rename_i hgf
    subst hgf
    split at ht
    · rename_i x
      have hG := (hk.at' hr.old).weak
      obtain ⟨v1, _, rfl, d1, rfl⟩ := hv
      have d1 : v1 = .int .u8 (x.den e) := d1
      subst d1
      split at ht
      · rename_i n hn
        split at ht
        · rename_i hc
          cases ht
          have hx : x.den e = (n.toNat : Int) := by rw [isLit_eq hn, litD]; omega
          rw [hx]
          refine (name_calls hf hG (v := n.toNat) (by omega)).mono ?_
          rintro en W' ⟨rfl, hb⟩
          exact hR _ _ hz ρ _ W' (Post.of_below hr hb) rfl ha
        · cases ht
      · split at ht
        · rename_i w hw
          cases ht
          obtain ⟨h0, h1, h2⟩ := oneName_ok hw (IExp.rng_ok ok ha x)
          have hx : x.den e = ((x.den e).toNat : Int) := by omega
          have key := name_calls hf hG (v := (x.den e).toNat) (by omega)
          rw [← hx] at key
          refine key.mono ?_
          rintro en W' ⟨rfl, hb⟩
          exact hR _ _ hz ρ _ W' (Post.of_below hr hb) (congrArg _ (congrArg strOf h2)) ha
        split at ht
        · rename_i hc
          cases ht
          have hin := inKind_spec hc (IExp.rng_ok ok ha x)
          obtain ⟨h0, h1⟩ := hin
          simp only [IntKind.min_u8, IntKind.max_u8] at h0 h1
          have hx : x.den e = ((x.den e).toNat : Int) := by omega
          have key := name_calls hf hG (v := (x.den e).toNat) (by omega)
          rw [← hx] at key
          refine key.mono ?_
          rintro en W' ⟨rfl, hb⟩
          refine hR _ _ hz ρ _ W' (Post.of_below hr hb) ?_ ha
          show Value.string _ = .string (strOf ((AExp.fn .u8 1 0 (.i x .nil)).den e))
          have := hE.name (x.den e).toNat (by omega)
          rw [← hx] at this
          simp only [AExp.den, LExp.den, this]
        · cases ht
    · cases ht
  · cases ht
/-! ### The first op of a name -/
def firstFrom : Nat → List (List Int) → List Int → Int
  | _, [], _ => -1
  | i, w :: r, s => cond (eqL w s) (i : Int) (firstFrom (i + 1) r s)
def firstL (s : List Int) : Int := firstFrom 0 nameT s
theorem firstFrom_at {s : List Int} : ∀ {l : List (List Int)} {i n : Nat}, n < l.length → (∀ j, j < n → l.getD j [] ≠ s) → l.getD n [] = s → firstFrom i l s = i + n
  | [], _, _, h, _, _ => by simp at h
  | w :: r, i, 0, _, _, h => by
    have : w = s := by simpa using h
    subst this
    simp [firstFrom, eqL_self]
  | w :: r, i, n + 1, hn, hne, h => by
    have h0 : w ≠ s := by simpa using hne 0 (by omega)
    have hq : eqL w s = false := by
      cases hq : eqL w s with
      | false => rfl
      | true => exact absurd (eqL_eq hq) h0
    rw [firstFrom, hq, cond_false, firstFrom_at (i := i + 1) (n := n) (by simpa using hn) (fun j hj => by simpa using hne (j + 1) (by omega)) (by simpa using h)]
    omega
theorem firstFrom_none {s : List Int} : ∀ {l : List (List Int)} {i : Nat}, (∀ j, j < l.length → l.getD j [] ≠ s) → firstFrom i l s = -1
  | [], _, _ => rfl
  | w :: r, i, hne => by
    have h0 : w ≠ s := by simpa using hne 0 (by simp)
    have hq : eqL w s = false := by
      cases hq : eqL w s with
      | false => rfl
      | true => exact absurd (eqL_eq hq) h0
    rw [firstFrom, hq, cond_false]
    exact firstFrom_none fun j hj => by simpa using hne (j + 1) (by simpa using hj)
theorem nameT_len : nameT.length = 256 := by kernel_rfl
theorem firstFrom_range {s : List Int} : ∀ {l : List (List Int)} {i : Nat}, firstFrom i l s = -1 ∨ ∃ n, n < l.length ∧ firstFrom i l s = (i + n : Nat) ∧ l.getD n [] = s
  | [], _ => .inl rfl
  | w :: r, i => by
    rw [firstFrom]
    cases hq : eqL w s with
    | true => exact .inr ⟨0, by simp, by simp, by simpa using eqL_eq hq⟩
    | false =>
      rw [cond_false]
      rcases firstFrom_range (s := s) (l := r) (i := i + 1) with h | ⟨n, h1, h2, h3⟩
      · exact .inl h
      · exact .inr ⟨n + 1, by simp; omega, by rw [h2]; congr 1; omega, by simpa using h3⟩
theorem firstL_range (s : List Int) : firstL s = -1 ∨ ∃ n, n < 256 ∧ firstL s = (n : Nat) ∧ nameL n = s := by
  rcases firstFrom_range (s := s) (l := nameT) (i := 0) with h | ⟨n, h1, h2, h3⟩
  · exact .inl h
  · rw [nameT_len] at h1
    exact .inr ⟨n, h1, by rw [firstL, h2, Nat.zero_add], h3⟩
end Go.Proofs.YtofphikiadiogaaDoor.K
