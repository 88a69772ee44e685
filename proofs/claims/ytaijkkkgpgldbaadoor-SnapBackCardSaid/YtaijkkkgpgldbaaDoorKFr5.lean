/- A function that holds two things against each other, handed two that read alike: it answers true. -/
import Derived.Test.YtaijkkkgpgldbaaDoorKFr4
namespace Go.Proofs.YtaijkkkgpgldbaaDoor.K
open Go Sy
set_option maxRecDepth 100000
set_option linter.unusedVariables false
set_option linter.unusedSimpArgs false
def rH2 (gs : SHeap) (ps : List Shr) : SHeap := gs ++ (canonRH 0 (shrFlat ps) ++ canonRH 0 (shrFlat ps))
def rArgs2 (gs : SHeap) (ps : List Shr) : List SVal := canonRArgs 0 gs.length ps ++ canonRArgs 0 (gs.length + frNb (shrFlat ps)) ps
theorem r_start2 {gs : SHeap} {ps : List Shr} (hps : ps.all Shr.plain = true) (s : Src) {W : World} (hW : Pre gs W) {lv : List LV} {vs vs' : List Value} (hlv : WfR (shrFlat ps) lv) (hvs : shrsIs W ps lv vs) (hvs' : shrsIs W ps lv vs') :
    ∃ ρ, SValsD (Src.know (envOf s lv) W []).env ρ (rArgs2 gs ps) (vs ++ vs') ∧ AsmOk (Src.know (envOf s lv) W []).env (canonRAs 0 (shrFlat ps)) ∧ HRel (Src.know (envOf s lv) W []).env (rH2 gs ps).length ρ (rH2 gs ps) W ∧ Glob gs.length ρ := by
  obtain ⟨R, g1, g2, g3⟩ := canonRArgs_D (s := Src.know s W []) (lv := lv) hW.b0 (ss := ps) (p := 0) (b := gs.length) (l := lv) (vs := vs) hps (fun i x hi => by simpa using hi) hlv hvs
  obtain ⟨R', f1, f2, f3⟩ := canonRArgs_D (s := Src.know s W []) (lv := lv) hW.b0 (ss := ps) (p := 0) (b := gs.length + frNb (shrFlat ps)) (l := lv) (vs := vs') hps (fun i x hi => by simpa using hi) hlv hvs'
  have hgl : (globs gs.length).length = gs.length := by simp [globs]
  have gf := g2.append f2
  have hlen : (rH2 gs ps).length = (globs gs.length ++ (R ++ R')).length := by
    rw [rH2, List.length_append, gf.len]; simp [globs]
  refine ⟨globs gs.length ++ (R ++ R'), ?_, canonRAs_ok (s := Src.know s W []) (lv := lv) (p := 0) (fun i x hi => by simpa using hi) hlv, ?_, (globs_ok _).mono ⟨R ++ R', rfl⟩⟩
  · refine SValsD.append (g3 _ fun i y hy => ?_) (f3 _ fun i y hy => ?_)
    · have hi := (List.getElem?_eq_some_iff.1 hy).1
      rw [List.getElem?_append_right (by omega), hgl, show gs.length + i - gs.length = i by omega, List.getElem?_append_left hi]; exact hy
    · rw [List.getElem?_append_right (by omega), hgl, show gs.length + frNb (shrFlat ps) + i - gs.length = R.length + i by omega, List.getElem?_append_right (by omega), show R.length + i - R.length = i by omega]; exact hy
  · rw [hlen]
    refine HRel.ro hlen (fun i l t hi => ?_) ⟨fun i x h => by simp [Src.know, Src.env] at h, Nat.le_refl _, fun k _ => rfl⟩
    rcases Nat.lt_or_ge i gs.length with hlt | hge
    · rw [rH2, List.getElem?_append_left hlt] at hi
      obtain ⟨us, h1, h2⟩ := hW.gs i l t hi
      refine ⟨i, 0, 0, us, ?_, h1, h2 _ _⟩
      rw [List.getElem?_append_left (by omega)]
      simp [globs, hlt]
    · rw [rH2, List.getElem?_append_right hge] at hi
      obtain ⟨b, o, r, us, h1, h2, h3⟩ := gf.at' _ l t hi
      exact ⟨b, o, r, us, by rw [List.getElem?_append_right (by omega), hgl]; exact h1, h2, h3 _⟩
/-! ### Ends by rank and measure -/
def leafOkK (rs : List Sh) (pats : Pats) (rk : Key → Nat) (mu : Key → IExp) (chk : LExp → Bool) (bs : Asm) (m : Option (Nat × IExp)) : Sy.Go → Bool
  | .go q l => match patAt pats q, (mu q).sbst bs l with
    | some p, some x => l.all (asgOk bs) && (Sy.leftOf bs l 0 p.as).isEmpty && nnI bs x && inKind .i64 (x.rng bs) && (match m with
      | some (r, y) => Nat.blt (rk q) r || (Nat.beq (rk q) r && knowsLt bs x y)
      | none => true)
    | _, _ => false
  | .done v st => match resL rs (v, ⟨st.h, []⟩) with
    | some L => chk L
    | none => false
  | .bad => false
def okK (rs : List Sh) (pats : Pats) (rk : Key → Nat) (mu : Key → IExp) (chk : LExp → Bool) (m : Option (Nat × IExp)) : Asm → WT Sy.Go → Bool
  | bs, .leaf a => leafOkK rs pats rk mu chk bs m a
  | bs, .node b t f => okK rs pats rk mu chk m ((b, true) :: bs) t && okK rs pats rk mu chk m ((b, false) :: bs) f
  | bs, .both t f => okK rs pats rk mu chk m bs t && okK rs pats rk mu chk m bs f
  | _, .stop => false
/-- The ways that are not well told (to look at). -/
def badK (rs : List Sh) (pats : Pats) (rk : Key → Nat) (mu : Key → IExp) (chk : LExp → Bool) (m : Option (Nat × IExp)) : Asm → WT Sy.Go → List (Asm × Sy.Go)
  | bs, .leaf a => if leafOkK rs pats rk mu chk bs m a then [] else [(bs, a)]
  | bs, .node b t f => badK rs pats rk mu chk m ((b, true) :: bs) t ++ badK rs pats rk mu chk m ((b, false) :: bs) f
  | bs, .both t f => badK rs pats rk mu chk m bs t ++ badK rs pats rk mu chk m bs f
  | bs, .stop => [(bs, .bad)]
def meas (rk : Key → Nat) (mu : Key → IExp) (q : Key) (e : Env) : Nat := rk q * 18446744073709551616 + ((mu q).den e).toNat
theorem okK_holds {rs : List Sh} {pats : Pats} {rk : Key → Nat} {mu : Key → IExp} {chk : LExp → Bool} {e : Env} (ok : EnvOk e) {r : List LV} (hr : ∀ e L, EnvOk e → chk L = true → L.den e = r) {m : Option (Nat × IExp)} {m' : Option Nat} (hm : ∀ x, m' = some x → ∃ k y, m = some (k, y) ∧ k * 18446744073709551616 + (y.den e).toNat ≤ x) :
    ∀ {bs : Asm} {t : WT Sy.Go}, AsmOk e bs → okK rs pats rk mu chk m bs t = true → t.holds e (Owed1 pats ⟨fun _ _ => True, meas rk mu⟩ (fun e v st => ∃ L, resL rs (v, ⟨st.h, []⟩) = some L ∧ L.den e = r) e m')
  | bs, .leaf a, ha, h => by
    simp only [okK] at h
    simp only [WT.holds]
    cases a with
    | bad => cases h
    | done v st =>
      simp only [leafOkK] at h
      split at h
      · rename_i L hL
        exact ⟨L, hL, hr e L ok h⟩
      · cases h
    | go q l =>
      simp only [leafOkK] at h
      split at h
      · rename_i p x hp hx
        simp only [Bool.and_eq_true] at h
        obtain ⟨⟨⟨⟨h1, h2⟩, h3⟩, h4⟩, h5⟩ := h
        have gx := IExp.sbst_ok ok ha (mu q) hx
        have g0 := nnI_ok ok ha h3
        have g1 : IntKind.i64.min ≤ x.den e ∧ x.den e ≤ IntKind.i64.max := inKind_spec h4 (IExp.rng_ok ok ha x)
        refine ⟨⟨p, hp⟩, fun p' hp' => ?_, trivial, fun n hn => ?_⟩
        · rw [hp] at hp'
          cases hp'
          exact left_none ok ha h2
        · obtain ⟨k, y, rfl, hle⟩ := hm n hn
          simp only [Bool.or_eq_true, Bool.and_eq_true] at h5
          show rk q * 18446744073709551616 + ((mu q).den _).toNat < n
          rw [gx]
          have g2 : x.den e ≤ 9223372036854775807 := by
            have := And.right g1
            simpa only [IntKind.max_i64] using this
          rcases h5 with h5 | ⟨h5, h6⟩
          · rw [Nat.blt_eq] at h5
            omega
          · have e1 := Nat.eq_of_beq_eq_true h5
            have e2 := knowsLt_ok ok ha h6
            rw [e1]
            omega
      · cases h
  | bs, .node b t f, ha, h => by
    simp only [okK, Bool.and_eq_true] at h
    simp only [WT.holds]
    cases hb : b.den e with
    | true => simp only [if_true]; exact okK_holds ok hr hm (AsmOk.cons hb ha) h.1
    | false => simp only [Bool.false_eq_true, if_false]; exact okK_holds ok hr hm (AsmOk.cons hb ha) h.2
  | bs, .both t f, ha, h => by
    simp only [okK, Bool.and_eq_true] at h
    exact ⟨okK_holds ok hr hm ha h.1, okK_holds ok hr hm ha h.2⟩
  | _, .stop, _, h => by simp [okK] at h
/-- A truth that is known. -/
def chkT : LExp → Bool
  | .b x .nil => (match decideB [] x with
    | some v => v
    | none => false)
  | _ => false
theorem chkT_ok (e : Env) (L : LExp) (ok : EnvOk e) (h : chkT L = true) : L.den e = [.b true] := by
  unfold chkT at h
  split at h
  · rename_i x
    split at h
    · rename_i v hv
      subst h
      simp only [LExp.den, decideB_ok ok (AsmOk.nil _) hv]
    · cases h
  · cases h
noncomputable def rS2 (n f : Nat) (tab : Tab) (gs : SHeap) (ps : List Shr) (pats : Pats) : WT Sy.Go := startT Tryd.prog gs.length plan tab n 1000 f (rH2 gs ps).length (fnOf f) (bodyOf f) pats (rArgs2 gs ps) ⟨rH2 gs ps, canonRAs 0 (shrFlat ps)⟩
noncomputable def rHd2 (n f : Nat) (tab : Tab) (gs : SHeap) (ps : List Shr) (pats : Pats) (q : Key) : WT Sy.Go := headT Tryd.prog gs.length plan tab n 1000 f (rH2 gs ps).length (rH2 gs ps).length (fnOf f) (bodyOf f) pats q
theorem callR2_const {f n : Nat} {tab : Tab} {gs : SHeap} {ps : List Shr} {rs : List Sh} {pats : Pats} {rk : Key → Nat} {mu : Key → IExp} {chk : LExp → Bool} (hps : ps.all Shr.plain = true) (hhas : hasBody f = true) (hplain : plainB 1000 (rH2 gs ps).length (rH2 gs ps) pats = true) (hnd : ∀ k p, (k, p) ∈ pats → patAt pats k = some p) (s : Src)
    (hstart : okK rs pats rk mu chk none (canonRAs 0 (shrFlat ps)) (rS2 n f tab gs ps pats) = true)
    (hheads : ∀ q p, patAt pats q = some p → okK rs pats rk mu chk (some (rk q, mu q)) p.as (rHd2 n f tab gs ps pats q) = true) (r : List LV) (hr : ∀ e L, EnvOk e → chk L = true → L.den e = r)
    (htab : ∀ e : Env, EnvOk e → e.fi = s.env.fi → e.fa = s.env.fa → e.fb = s.env.fb → KnowsP gs e → TabOk Tryd.prog gs.length (rH2 gs ps).length tab e) (W : World) (hW : Pre gs W) (lv : List LV) (vs vs' : List Value) (hlv : WfR (shrFlat ps) lv) (hvs : shrsIs W ps lv vs) (hvs' : shrsIs W ps lv vs') :
    Calls Tryd.prog f (vs ++ vs').toArray W fun en W' => en = .returned (retV (shVals rs r)) ∧ RowKit.Below W.heap.size W W' := by
  obtain ⟨hf, hb⟩ := fn_of hhas
  have ok := (Src.know (envOf s lv) W []).ok
  obtain ⟨ρ, hD, hA, hrel, hg⟩ := r_start2 hps s hW hlv hvs hvs'
  have hlen : (rH2 gs ps).length = ρ.length := hrel.len
  refine cfg (G := gs.length) (ov := (rH2 gs ps).length) (plan := plan) (tab := tab) (n := n) (N := 1000) (ro := (rH2 gs ps).length) (base := (rH2 gs ps).length) (pats := pats) (args := rArgs2 gs ps) (st := ⟨rH2 gs ps, canonRAs 0 (shrFlat ps)⟩) (e0 := (Src.know (envOf s lv) W []).env) (ρ0 := ρ) (vs := vs ++ vs')
    ⟨fun _ _ => True, meas rk mu⟩ (fun e v st => ∃ L, resL rs (v, ⟨st.h, []⟩) = some L ∧ L.den e = r)
    mixed plan_ok rfl (fun _ _ _ => LtOk.none) (fun e ok' g => htab e ok' g.fi g.fa g.fb ⟨W, g.base, g.h0, hW⟩) rfl hf hb ok hD hA hrel hg (Nat.le_refl _) (by omega) (by rw [rH2, List.length_append]; omega) (by decide) hplain (okK_holds ok hr (fun x hx => by cases hx) hA hstart) ?_ hnd ?_
  · intro q hq e ok' g ha hI
    obtain ⟨⟨q', p⟩, hm, rfl⟩ := List.mem_map.1 hq
    have hp := hnd _ _ hm
    exact okK_holds ok' hr (fun x hx => ⟨_, _, rfl, by cases hx; exact Nat.le_refl _⟩) (ha p hp) (hheads q' p hp)
  · rintro e v st' ok' g ⟨L, hL, hd⟩ ρ' V W' hp' hV
    obtain ⟨h1, h2⟩ := resL_ok (q := (v, ⟨st'.h, []⟩)) (ρ := ρ') ok' (AsmOk.nil _) hL hV
    rw [hd] at h2
    exact ⟨congrArg _ h2, below_of_post hp' (by omega)⟩
/-- Two that read alike are the same. -/
def tabSm (f : Nat) (s : Shr) : Tab := fun _ g args st => if g = f then (match args with
  | [.v x, .v y] => (match svLR st.as st.h s x, svLR st.as st.h s y with
    | some L, some M => if L.same M = true then some (.leaf (.v (.c (.b (.lit true))), st)) else none
    | _, _ => none)
  | _ => none) else none
theorem tabSm_ok {f : Nat} {s : Shr} {gs : SHeap} (hf : ∀ W, Pre gs W → ∀ lv v v', WfR (shrFlat [s]) lv → shrsIs W [s] lv [v] → shrsIs W [s] lv [v'] → Calls Tryd.prog f #[v, v'] W fun en W' => en = .returned (.bool true) ∧ RowKit.Below W.heap.size W W') {e : Env} (ok : EnvOk e) (hk : KnowsP gs e) (G ov : Nat) : TabOk Tryd.prog G ov (tabSm f s) e := by
  intro ro g args st t Z ht hov hz ρ vs W R hv ha hr hg hR
  unfold tabSm at ht
  split at ht
  · rename_i hgf
    subst hgf
    split at ht
    · rename_i x y
      split at ht
      · rename_i L M hL hM
        split at ht
        · rename_i hs
          cases ht
          have hLM := LExp.same_eq _ _ hs
          subst hLM
          obtain ⟨v1, _, rfl, d1, v2, _, rfl, d2, rfl⟩ := hv
          have fl : shrFlat [s] = s.frs := by simp [shrFlat]
          obtain ⟨w1, i1⟩ := svLR_ok ok ha hr hL d1
          obtain ⟨_, i2⟩ := svLR_ok ok ha hr hM d2
          have hl := w1.length
          have one : ∀ {v : Value}, s.Is W (L.den e) v → shrsIs W [s] (L.den e) [v] := fun h => ⟨_, [], rfl, by rw [← hl, List.take_length]; exact h, by rw [← hl, List.drop_length]; exact ⟨rfl, rfl⟩⟩
          refine (hf W (hk.at' hr.old) (L.den e) v1 v2 (by rw [fl]; exact w1) (one i1) (one i2)).mono ?_
          rintro en W' ⟨rfl, hb⟩
          exact hR _ _ hz ρ _ W' (Post.of_below hr hb) rfl ha
        · cases ht
      · cases ht
    · cases ht
  · cases ht
end Go.Proofs.YtaijkkkgpgldbaaDoor.K
