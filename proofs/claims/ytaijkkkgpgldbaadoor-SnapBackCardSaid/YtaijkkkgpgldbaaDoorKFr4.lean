/- Functions that read slices: with loops. -/
import Derived.Test.YtaijkkkgpgldbaaDoorKFr3
namespace Go.Proofs.YtaijkkkgpgldbaaDoor.K
open Go Sy
set_option maxRecDepth 100000
set_option linter.unusedVariables false
set_option linter.unusedSimpArgs false
noncomputable def rS (n f : Nat) (tab : Tab) (gs : SHeap) (ps : List Shr) (pats : Pats) : WT Sy.Go := startT Tryd.prog gs.length plan tab n 1000 f (rH gs ps).length (fnOf f) (bodyOf f) pats (rArgs gs ps) ⟨rH gs ps, canonRAs 0 (shrFlat ps)⟩
noncomputable def rHd (n f : Nat) (tab : Tab) (gs : SHeap) (ps : List Shr) (pats : Pats) (q : Key) : WT Sy.Go := headT Tryd.prog gs.length plan tab n 1000 f (rH gs ps).length (rH gs ps).length (fnOf f) (bodyOf f) pats q
/-- A function with loops: what its heads keep is told by hand. -/
theorem callR_cfg {f n : Nat} {tab : Tab} {gs : SHeap} {ps : List Shr} {rs : List Sh} {pats : Pats} (hps : ps.all Shr.plain = true) (hhas : hasBody f = true) (hplain : plainB 1000 (rH gs ps).length (rH gs ps) pats = true) (hnd : ∀ k p, (k, p) ∈ pats → patAt pats k = some p) (s : Src)
    (htab : ∀ e : Env, EnvOk e → e.fi = s.env.fi → e.fa = s.env.fa → e.fb = s.env.fb → KnowsP gs e → TabOk Tryd.prog gs.length (rH gs ps).length tab e) (W : World) (hW : Pre gs W) (lv : List LV) (vs : List Value) (hlv : WfR (shrFlat ps) lv) (hvs : shrsIs W ps lv vs)
    (inv : Inv) (r : List LV)
    (hstart : ∀ e, EnvOk e → Agree 1000 (Src.know (envOf s lv) W []).env e → AsmOk e (canonRAs 0 (shrFlat ps)) → (rS n f tab gs ps pats).holds e (Owed1 pats inv (fun e v st => ∃ L, resL rs (v, ⟨st.h, []⟩) = some L ∧ L.den e = r) e none))
    (hheads : ∀ q p, patAt pats q = some p → ∀ e, EnvOk e → Agree 1000 (Src.know (envOf s lv) W []).env e → AsmOk e p.as → inv.I q e → (rHd n f tab gs ps pats q).holds e (Owed1 pats inv (fun e v st => ∃ L, resL rs (v, ⟨st.h, []⟩) = some L ∧ L.den e = r) e (some (inv.μ q e)))) :
    Calls Tryd.prog f vs.toArray W fun en W' => en = .returned (retV (shVals rs r)) ∧ WfL (shFlat rs) r ∧ RowKit.Below W.heap.size W W' := by
  obtain ⟨hf, hb⟩ := fn_of hhas
  have ok := (Src.know (envOf s lv) W []).ok
  obtain ⟨ρ, hD, hA, hrel, hg⟩ := r_start hps s hW hlv hvs
  have hlen : (rH gs ps).length = ρ.length := hrel.len
  refine cfg (G := gs.length) (ov := (rH gs ps).length) (plan := plan) (tab := tab) (n := n) (N := 1000) (ro := (rH gs ps).length) (base := (rH gs ps).length) (pats := pats) (args := rArgs gs ps) (st := ⟨rH gs ps, canonRAs 0 (shrFlat ps)⟩) (e0 := (Src.know (envOf s lv) W []).env) (ρ0 := ρ) (vs := vs)
    inv (fun e v st => ∃ L, resL rs (v, ⟨st.h, []⟩) = some L ∧ L.den e = r)
    mixed plan_ok rfl (fun _ _ _ => LtOk.none) (fun e ok' g => htab e ok' g.fi g.fa g.fb ⟨W, g.base, g.h0, hW⟩) rfl hf hb ok hD hA hrel hg (Nat.le_refl _) (by omega) (by rw [rH, List.length_append]; omega) (by decide) hplain (hstart _ ok (Agree.refl _ _) hA) ?_ hnd ?_
  · intro q hq e ok' g ha hI
    obtain ⟨⟨q', p⟩, hm, rfl⟩ := List.mem_map.1 hq
    have hp := hnd _ _ hm
    exact hheads q' p hp e ok' g (ha p hp) hI
  · rintro e v st' ok' g ⟨L, hL, hd⟩ ρ' V W' hp' hV
    obtain ⟨h1, h2⟩ := resL_ok (q := (v, ⟨st'.h, []⟩)) (ρ := ρ') ok' (AsmOk.nil _) hL hV
    rw [hd] at h1 h2
    exact ⟨congrArg _ h2, h1, below_of_post hp' (by omega)⟩
/-- A function with loops whose answer is the same number of letters at all ends: only that it ends is to be shown, by the kernel. -/
theorem callR_const {f n : Nat} {tab : Tab} {gs : SHeap} {ps : List Shr} {rs : List Sh} {pats : Pats} {mu : Key → IExp} {L0 : LExp} (hps : ps.all Shr.plain = true) (hhas : hasBody f = true) (hplain : plainB 1000 (rH gs ps).length (rH gs ps) pats = true) (hnd : ∀ k p, (k, p) ∈ pats → patAt pats k = some p) (s : Src)
    (hstart : okT rs pats mu (fun _ L => L.same L0) none (canonRAs 0 (shrFlat ps)) (rS n f tab gs ps pats) = true)
    (hheads : ∀ q p, patAt pats q = some p → okT rs pats mu (fun _ L => L.same L0) (some (mu q)) p.as (rHd n f tab gs ps pats q) = true) (r : List LV) (hr : ∀ e, L0.den e = r)
    (htab : ∀ e : Env, EnvOk e → e.fi = s.env.fi → e.fa = s.env.fa → e.fb = s.env.fb → KnowsP gs e → TabOk Tryd.prog gs.length (rH gs ps).length tab e) (W : World) (hW : Pre gs W) (lv : List LV) (vs : List Value) (hlv : WfR (shrFlat ps) lv) (hvs : shrsIs W ps lv vs) :
    Calls Tryd.prog f vs.toArray W fun en W' => en = .returned (retV (shVals rs r)) ∧ WfL (shFlat rs) r ∧ RowKit.Below W.heap.size W W' := by
  have step : ∀ (e : Env) (m : Option IExp) (bs : Asm) (t : WT Sy.Go), EnvOk e → AsmOk e bs → okT rs pats mu (fun _ L => L.same L0) m bs t = true →
      t.holds e (Owed1 pats ⟨fun _ _ => True, fun q e => ((mu q).den e).toNat⟩ (fun e v st => ∃ L, resL rs (v, ⟨st.h, []⟩) = some L ∧ L.den e = r) e (m.map fun y => (y.den e).toNat)) := by
    intro e m bs t oke ha ht
    refine WT.holds_mono (fun a hpick => ?_) (pick_holds (okT_plain ht))
    obtain ⟨a', bs', h1, h2, h3⟩ := okT_pick ha ht
    rw [h1] at hpick
    cases hpick
    cases a with
    | bad => cases h3
    | done v st =>
      obtain ⟨L, hL, hs⟩ := leaf_done h3
      exact ⟨L, hL, by rw [LExp.same_eq _ _ hs]; exact hr e⟩
    | go q l =>
      obtain ⟨hp, pa, pe, pg, p0, p1⟩ := leaf_go oke h2 h3
      refine ⟨hp, pa, trivial, fun m' hm' => ?_⟩
      cases m with
      | none => cases hm'
      | some y =>
        cases hm'
        have h := p1 y rfl
        exact (Int.toNat_lt_toNat (Int.lt_of_le_of_lt p0 h)).2 h
  exact callR_cfg hps hhas hplain hnd s htab W hW lv vs hlv hvs ⟨fun _ _ => True, fun q e => ((mu q).den e).toNat⟩ r (fun e oke _ ha => step e none _ _ oke ha hstart) (fun q p hp e oke _ ha _ => step e (some (mu q)) _ _ oke ha (hheads q p hp))
end Go.Proofs.YtaijkkkgpgldbaaDoor.K
