/- Pure functions with loops by letters: heads run by themselves; no formula. -/
import Derived.Test.YtaijkkkgpgldbaaDoorKFn2
namespace Go.Proofs.YtaijkkkgpgldbaaDoor.K
open Go Sy
set_option maxRecDepth 100000
set_option linter.unusedVariables false
set_option linter.unusedSimpArgs false
/-- The heads' ways run, one after the other. -/
def iterT (rs : List Sh) (H : Key → WT Sy.Go) : Nat → Env → WT Sy.Go → Option (List LV)
  | 0, _, _ => none
  | n + 1, e, t => match pickW e t with
    | some (.go q l) => iterT rs H n (Env.upd e e l) (H q)
    | some (.done v st) => (resL rs (v, ⟨st.h, []⟩)).map (LExp.den e)
    | _ => none
/-- A leaf by what is known at it: the next head's facts are found, its measure is less; the answer is as asked. -/
def leafOkT (rs : List Sh) (pats : Pats) (mu : Key → IExp) (chk : Asm → LExp → Bool) (bs : Asm) (m : Option IExp) : Sy.Go → Bool
  | .go q l => match patAt pats q, (mu q).sbst bs l with
    | some p, some x => l.all (asgOk bs) && l.all (asgLet 1000) && (Sy.leftOf bs l 0 p.as).isEmpty && nnI bs x && (match m with
      | some y => knowsLt bs x y
      | none => true)
    | _, _ => false
  | .done v st => match resL rs (v, ⟨st.h, []⟩) with
    | some L => chk bs L
    | none => false
  | .bad => false
def okT (rs : List Sh) (pats : Pats) (mu : Key → IExp) (chk : Asm → LExp → Bool) (m : Option IExp) : Asm → WT Sy.Go → Bool
  | bs, .leaf a => leafOkT rs pats mu chk bs m a
  | bs, .node b t f => okT rs pats mu chk m ((b, true) :: bs) t && okT rs pats mu chk m ((b, false) :: bs) f
  | _, _ => false
/-- The places of leaves that are not well told (to look at). -/
def badT (rs : List Sh) (pats : Pats) (mu : Key → IExp) (chk : Asm → LExp → Bool) (m : Option IExp) : Asm → WT Sy.Go → List (Asm × Sy.Go)
  | bs, .leaf a => if leafOkT rs pats mu chk bs m a then [] else [(bs, a)]
  | bs, .node b t f => badT rs pats mu chk m ((b, true) :: bs) t ++ badT rs pats mu chk m ((b, false) :: bs) f
  | bs, _ => [(bs, .bad)]
theorem okT_plain {rs : List Sh} {pats : Pats} {mu : Key → IExp} {chk : Asm → LExp → Bool} {m : Option IExp} : ∀ {bs : Asm} {t : WT Sy.Go}, okT rs pats mu chk m bs t = true → plainW t = true
  | _, .leaf _, _ => rfl
  | bs, .node b t f, h => by
    simp only [okT, Bool.and_eq_true] at h
    simp only [plainW, okT_plain h.1, okT_plain h.2, Bool.and_self]
  | bs, .both _ _, h => by simp [okT] at h
  | bs, .stop, h => by simp [okT] at h
theorem okT_pick {rs : List Sh} {pats : Pats} {mu : Key → IExp} {chk : Asm → LExp → Bool} {m : Option IExp} {e : Env} : ∀ {bs : Asm} {t : WT Sy.Go}, AsmOk e bs → okT rs pats mu chk m bs t = true → ∃ a bs', pickW e t = some a ∧ AsmOk e bs' ∧ leafOkT rs pats mu chk bs' m a = true
  | bs, .leaf a, ha, h => ⟨a, bs, rfl, ha, h⟩
  | bs, .node b t f, ha, h => by
    simp only [okT, Bool.and_eq_true] at h
    simp only [pickW]
    cases hb : b.den e with
    | true => simp only [if_true]; exact okT_pick (AsmOk.cons hb ha) h.1
    | false => simp only [Bool.false_eq_true, if_false]; exact okT_pick (AsmOk.cons hb ha) h.2
  | bs, .both _ _, _, h => by simp [okT] at h
  | bs, .stop, _, h => by simp [okT] at h
theorem left_none {e : Env} (ok : EnvOk e) {bs : Asm} (ha : AsmOk e bs) {l : List Asg} {ps : Asm} (h : (Sy.leftOf bs l 0 ps).isEmpty = true) : AsmOk (Env.upd e e l) ps := by
  intro p hp
  obtain ⟨j, hj⟩ := List.mem_iff_getElem?.1 hp
  refine Sy.leftOf_ok ok ha (i := 0) j p hj ?_
  rw [List.isEmpty_iff.1 h]
  simp
/-- What a good leaf says. -/
theorem leaf_go {rs : List Sh} {pats : Pats} {mu : Key → IExp} {chk : Asm → LExp → Bool} {bs : Asm} {m : Option IExp} {q : Key} {l : List Asg} {e : Env} (ok : EnvOk e) (ha : AsmOk e bs) (h : leafOkT rs pats mu chk bs m (.go q l) = true) :
    (∃ p, patAt pats q = some p) ∧ (∀ p, patAt pats q = some p → AsmOk (Env.upd e e l) p.as) ∧ EnvOk (Env.upd e e l) ∧ Agree 1000 e (Env.upd e e l) ∧ 0 ≤ (mu q).den (Env.upd e e l) ∧ ∀ y, m = some y → (mu q).den (Env.upd e e l) < y.den e := by
  simp only [leafOkT] at h
  split at h
  · rename_i p x hp hx
    simp only [Bool.and_eq_true] at h
    obtain ⟨⟨⟨⟨h1, h2⟩, h3⟩, h4⟩, h5⟩ := h
    have gx := IExp.sbst_ok ok ha (mu q) hx
    refine ⟨⟨p, hp⟩, fun p' hp' => ?_, Env.upd_ok ok ok ha h1, Env.upd_agree h2, ?_, fun y hy => ?_⟩
    · rw [hp] at hp'
      cases hp'
      exact left_none ok ha h3
    · rw [gx]; exact nnI_ok ok ha h4
    · subst hy
      rw [gx]; exact knowsLt_ok ok ha h5
  · cases h
theorem leaf_done {rs : List Sh} {pats : Pats} {mu : Key → IExp} {chk : Asm → LExp → Bool} {bs : Asm} {m : Option IExp} {v : SVal} {st : St} (h : leafOkT rs pats mu chk bs m (.done v st) = true) : ∃ L, resL rs (v, ⟨st.h, []⟩) = some L ∧ chk bs L = true := by
  simp only [leafOkT] at h
  split at h
  · rename_i L hL
    exact ⟨L, hL, h⟩
  · cases h
/-- Every head's ways are well told. -/
structure HeadsOk (rs : List Sh) (pats : Pats) (mu : Key → IExp) (chk : Asm → LExp → Bool) (H : Key → WT Sy.Go) : Prop where
  each : ∀ q p, patAt pats q = some p → okT rs pats mu chk (some (mu q)) p.as (H q) = true
/-- What is asked of an answer, and what is known where it is told. -/
def ChkOk (e0 : Env) (chk : Asm → LExp → Bool) (Fact : List LV → Prop) : Prop := ∀ e bs L, EnvOk e → Agree 1000 e0 e → AsmOk e bs → chk bs L = true → Fact (L.den e)
theorem iter_ends {rs : List Sh} {pats : Pats} {mu : Key → IExp} {chk : Asm → LExp → Bool} {H : Key → WT Sy.Go} (hH : HeadsOk rs pats mu chk H) {e0 : Env} {Fact : List LV → Prop} (hF : ChkOk e0 chk Fact) : ∀ (d : Nat) (e : Env) (t : WT Sy.Go) (bs : Asm) (m : Option IExp), EnvOk e → Agree 1000 e0 e → AsmOk e bs → okT rs pats mu chk m bs t = true → (∀ y, m = some y → (y.den e).toNat ≤ d) → (m = none → ∀ q l, pickW e t = some (.go q l) → ((mu q).den (Env.upd e e l)).toNat < d) → ∃ n r, iterT rs H n e t = some r ∧ Fact r := by
  intro d
  induction d with
  | zero =>
    intro e t bs m ok g ha ht hm hm0
    obtain ⟨a, bs', h1, h2, h3⟩ := okT_pick ha ht
    cases a with
    | bad => cases h3
    | done v st =>
      obtain ⟨L, hL, hc⟩ := leaf_done h3
      exact ⟨1, L.den e, by simp only [iterT, h1, hL, Option.map_some], hF e bs' L ok g h2 hc⟩
    | go q l =>
      exfalso
      obtain ⟨_, _, _, _, p0, p1⟩ := leaf_go ok h2 h3
      cases m with
      | none => have := hm0 rfl q l h1; omega
      | some y => have a := hm y rfl; have b := p1 y rfl; omega
  | succ d ih =>
    intro e t bs m ok g ha ht hm hm0
    obtain ⟨a, bs', h1, h2, h3⟩ := okT_pick ha ht
    cases a with
    | bad => cases h3
    | done v st =>
      obtain ⟨L, hL, hc⟩ := leaf_done h3
      exact ⟨1, L.den e, by simp only [iterT, h1, hL, Option.map_some], hF e bs' L ok g h2 hc⟩
    | go q l =>
      obtain ⟨⟨p, hp⟩, pa, pe, pg, p0, p1⟩ := leaf_go ok h2 h3
      obtain ⟨n, r, hn, hf⟩ := ih (Env.upd e e l) (H q) p.as (some (mu q)) pe (g.trans pg) (pa p hp) (hH.each q p hp) (fun y hy => by
        cases hy
        cases m with
        | none => have := hm0 rfl q l h1; omega
        | some y => have a := hm y rfl; have b := p1 y rfl; omega) (fun h => by cases h)
      exact ⟨n + 1, r, by simp only [iterT, h1, hn], hf⟩
theorem iter_more {rs : List Sh} {H : Key → WT Sy.Go} : ∀ {n m : Nat} {e : Env} {t : WT Sy.Go} {r : List LV}, iterT rs H n e t = some r → n ≤ m → iterT rs H m e t = some r
  | 0, _, _, _, _, h, _ => by cases h
  | n + 1, 0, _, _, _, _, hle => by omega
  | n + 1, m + 1, e, t, r, h, hle => by
    simp only [iterT] at h ⊢
    split at h
    · exact iter_more h (by omega)
    · exact h
    · cases h
/-- Two runs give the same. -/
theorem iter_one {rs : List Sh} {H : Key → WT Sy.Go} {n m : Nat} {e : Env} {t : WT Sy.Go} {r r' : List LV} (h : iterT rs H n e t = some r) (h' : iterT rs H m e t = some r') : r = r' := by
  have h1 := iter_more h (Nat.le_max_left n m)
  have h2 := iter_more h' (Nat.le_max_right n m)
  rw [h1] at h2
  exact Option.some.inj h2
/-- What is known of the world turns nothing. -/
theorem upd_know (b : Nat) (h : Nat → Option Obj) (f : List (Nat × Nat × Nat)) (e0 e : Env) : ∀ l : List Asg, Env.upd (Env.know e0 b h f) (Env.know e b h f) l = Env.know (Env.upd e0 e l) b h f
  | [] => rfl
  | .i k j x :: r => by simp only [Env.upd, upd_know b h f e0 e r, iden_know]; rfl
  | .b j x :: r => by simp only [Env.upd, upd_know b h f e0 e r, bden_know]; rfl
  | .a k j x :: r => by simp only [Env.upd, upd_know b h f e0 e r, aden_know]; rfl
theorem iter_know (b : Nat) (h : Nat → Option Obj) (f : List (Nat × Nat × Nat)) {rs : List Sh} {H : Key → WT Sy.Go} : ∀ (n : Nat) (e : Env) (t : WT Sy.Go), iterT rs H n (Env.know e b h f) t = iterT rs H n e t
  | 0, _, _ => rfl
  | n + 1, e, t => by
    simp only [iterT, pick_know]
    split
    · rw [upd_know, iter_know b h f n]
    · congr 1; funext x; exact lden_know e b h f x
    · rfl
/-! ### The function -/
noncomputable def loopS (n f G : Nat) (tab : Tab) (gs : SHeap) (pats : Pats) (ps : List Sh) : WT Sy.Go := startT Tryd.prog G plan tab n 1000 f gs.length (fnOf f) (bodyOf f) pats (canonArgs 0 ps) ⟨gs, canonAs 0 (shFlat ps)⟩
noncomputable def loopH (n f G : Nat) (tab : Tab) (gs : SHeap) (pats : Pats) (q : Key) : WT Sy.Go := headT Tryd.prog G plan tab n 1000 f gs.length gs.length (fnOf f) (bodyOf f) pats q
open Classical in
noncomputable def loopF (s : Src) (rs : List Sh) (S : WT Sy.Go) (H : Key → WT Sy.Go) (lv : List LV) : List LV := if h : ∃ r, ∃ n, iterT rs H n (envOf s lv).env S = some r then Classical.choose h else []
theorem loopF_eq {s : Src} {rs : List Sh} {S : WT Sy.Go} {H : Key → WT Sy.Go} {lv : List LV} {n : Nat} {r : List LV} (h : iterT rs H n (envOf s lv).env S = some r) : loopF s rs S H lv = r := by
  have hx : ∃ r, ∃ n, iterT rs H n (envOf s lv).env S = some r := ⟨r, n, h⟩
  unfold loopF
  rw [dif_pos hx]
  obtain ⟨m, hm⟩ := Classical.choose_spec hx
  exact iter_one hm h
/-- All of a function's ways are well told. -/
structure LoopOk (rs : List Sh) (pats : Pats) (mu : Key → IExp) (chk : Asm → LExp → Bool) (bs0 : Asm) (S : WT Sy.Go) (H : Key → WT Sy.Go) : Prop where
  start : okT rs pats mu chk none bs0 S = true
  heads : HeadsOk rs pats mu chk H
theorem loop_fact {rs : List Sh} {pats : Pats} {mu : Key → IExp} {chk : Asm → LExp → Bool} {ps : List Sh} {S : WT Sy.Go} {H : Key → WT Sy.Go} (hok : LoopOk rs pats mu chk (canonAs 0 (shFlat ps)) S H) (s : Src) {lv : List LV} (hlv : WfL (shFlat ps) lv) {Fact : List LV → Prop} (hF : ChkOk (envOf s lv).env chk Fact) :
    ∃ n, iterT rs H n (envOf s lv).env S = some (loopF s rs S H lv) ∧ Fact (loopF s rs S H lv) := by
  have hA := canonAs_ok (s := s) (lv := lv) (p := 0) (fun i x hi => by simpa using hi) hlv
  have ok := (envOf s lv).ok
  obtain ⟨n, r, h, hf⟩ := iter_ends hok.heads hF ((match pickW (envOf s lv).env S with
    | some (.go q l) => ((mu q).den (Env.upd (envOf s lv).env (envOf s lv).env l)).toNat
    | _ => 0) + 1) (envOf s lv).env S _ none ok (Agree.refl _ _) hA hok.start (fun y hy => by cases hy) (fun _ q l hq => by rw [hq]; exact Nat.lt_succ_self _)
  exact ⟨n, by rw [loopF_eq h]; exact h, by rw [loopF_eq h]; exact hf⟩
theorem fnSpec_loop {n f G : Nat} {tab : Tab} {gs : SHeap} {ps rs : List Sh} {pats : Pats} {mu : Key → IExp} {chk : Asm → LExp → Bool} (hps : ps.all Sh.plain = true) (hhas : hasBody f = true) (hok : LoopOk rs pats mu chk (canonAs 0 (shFlat ps)) (loopS n f G tab gs pats ps) (loopH n f G tab gs pats)) (hG : G ≤ gs.length) (hplain : plainB 1000 gs.length gs pats = true) (hnd : ∀ k p, (k, p) ∈ pats → patAt pats k = some p) (s : Src) {Pre : World → Prop}
    (hr : ∀ W, Pre W → ∀ e : Env, e.base = W.heap.size → (e.h0 = fun k => W.heap[k]?) → e.fx = [] → ∃ ρ, HRel e gs.length ρ gs W ∧ Glob G ρ)
    (htab : ∀ W, Pre W → ∀ e : Env, EnvOk e → e.fi = s.env.fi → e.fa = s.env.fa → e.fb = s.env.fb → e.base = W.heap.size → (e.h0 = fun k => W.heap[k]?) → TabOk Tryd.prog G gs.length tab e) (W : World) (hW : Pre W) (lv : List LV) (hlv : WfL (shFlat ps) lv) (hfact : ∃ Fact, ChkOk (envOf s lv).env chk Fact) :
    Calls Tryd.prog f (shVals ps lv).toArray W fun en W' => en = .returned (retV (shVals rs (loopF s rs (loopS n f G tab gs pats ps) (loopH n f G tab gs pats) lv))) ∧ WfL (shFlat rs) (loopF s rs (loopS n f G tab gs pats ps) (loopH n f G tab gs pats) lv) ∧ RowKit.Below W.heap.size W W' := by
  obtain ⟨hf, hb⟩ := fn_of hhas
  obtain ⟨Fact, hF⟩ := hfact
  have ok := (Src.know (envOf s lv) W []).ok
  have hE : (Src.know (envOf s lv) W []).env = Env.know (envOf s lv).env W.heap.size (fun k => W.heap[k]?) [] := rfl
  obtain ⟨ρ, hrel, hg⟩ := hr W hW (Src.know (envOf s lv) W []).env rfl rfl rfl
  have hD := canonArgs_D (s := Src.know s W []) (lv := lv) (ρ := ρ) (p := 0) hps (fun i x hi => by simpa using hi) hlv
  have hA := canonAs_ok (s := Src.know s W []) (lv := lv) (p := 0) (fun i x hi => by simpa using hi) hlv
  obtain ⟨d, hd, _⟩ := loop_fact hok s hlv hF
  generalize loopF s rs (loopS n f G tab gs pats ps) (loopH n f G tab gs pats) lv = r at hd
  have hlen : gs.length = ρ.length := hrel.len
  have step : ∀ (e : Env) (m : Option IExp) (bs : Asm) (t : WT Sy.Go), EnvOk e → AsmOk e bs → okT rs pats mu chk m bs t = true → (∃ c, iterT rs (loopH n f G tab gs pats) c e t = some r) → ∀ a, pickW e t = some a →
      Owed1 pats ⟨fun q e => ∃ c, iterT rs (loopH n f G tab gs pats) c e (loopH n f G tab gs pats q) = some r, fun q e => ((mu q).den e).toNat⟩ (fun e v st => ∃ L, resL rs (v, ⟨st.h, []⟩) = some L ∧ L.den e = r) e (m.map fun y => (y.den e).toNat) a := by
    intro e m bs t oke ha ht hc a hpick
    obtain ⟨a', bs', h1, h2, h3⟩ := okT_pick ha ht
    rw [h1] at hpick
    cases hpick
    obtain ⟨c, hc⟩ := hc
    cases c with
    | zero => cases hc
    | succ c =>
      simp only [iterT, h1] at hc
      cases a with
      | bad => cases h3
      | done v st =>
        obtain ⟨L, hL, _⟩ := leaf_done h3
        simp only [hL, Option.map_some, Option.some.injEq] at hc
        exact ⟨L, hL, hc⟩
      | go q l =>
        obtain ⟨hp, pa, pe, pg, p0, p1⟩ := leaf_go oke h2 h3
        refine ⟨hp, pa, ⟨c, hc⟩, fun m' hm' => ?_⟩
        cases m with
        | none => cases hm'
        | some y =>
          cases hm'
          have h := p1 y rfl
          exact (Int.toNat_lt_toNat (Int.lt_of_le_of_lt p0 h)).2 h
  refine cfg (G := G) (ov := gs.length) (plan := plan) (tab := tab) (n := n) (N := 1000) (ro := gs.length) (base := gs.length) (pats := pats) (args := canonArgs 0 ps) (st := ⟨gs, canonAs 0 (shFlat ps)⟩) (e0 := (Src.know (envOf s lv) W []).env) (ρ0 := ρ) (vs := shVals ps lv)
    ⟨fun q e => ∃ c, iterT rs (loopH n f G tab gs pats) c e (loopH n f G tab gs pats q) = some r, fun q e => ((mu q).den e).toNat⟩ (fun e v st => ∃ L, resL rs (v, ⟨st.h, []⟩) = some L ∧ L.den e = r)
    mixed plan_ok rfl (fun _ _ _ => LtOk.none) (fun e ok' g => htab W hW e ok' g.fi g.fa g.fb g.base g.h0) rfl hf hb ok hD hA hrel hg (Nat.le_refl _) (by omega) hG (by decide) hplain ?_ ?_ hnd ?_
  · refine WT.holds_mono (fun a ha => ?_) (pick_holds (okT_plain hok.start))
    exact step _ none _ _ ok hA hok.start ⟨d, by rw [hE, iter_know]; exact hd⟩ a ha
  · intro q hq e ok' g ha hI
    obtain ⟨⟨q', p⟩, hm, rfl⟩ := List.mem_map.1 hq
    have hp := hnd _ _ hm
    have ho := hok.heads.each q' p hp
    refine WT.holds_mono (fun a ha' => ?_) (pick_holds (okT_plain ho))
    exact step e (some (mu q')) p.as _ ok' (ha p hp) ho hI a ha'
  · rintro e v st' ok' g ⟨L, hL, hd⟩ ρ' V W' hp' hV
    obtain ⟨h1, h2⟩ := resL_ok (q := (v, ⟨st'.h, []⟩)) (ρ := ρ') ok' (AsmOk.nil _) hL hV
    rw [hd] at h1 h2
    exact ⟨congrArg _ h2, h1, below_of_post hp' (by omega)⟩
end Go.Proofs.YtaijkkkgpgldbaaDoor.K
