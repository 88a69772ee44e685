/- Pure functions that read slices of numbers, by letters: at a call; the run; the contract. -/
import Derived.Test.YtaijkkkgpgldbaaDoorKFr
import Derived.Test.YtaijkkkgpgldbaaDoorKOld
namespace Go.Proofs.YtaijkkkgpgldbaaDoor.K
open Go Sy
set_option maxRecDepth 100000
set_option linter.unusedVariables false
set_option linter.unusedSimpArgs false
/-! ### At a call -/
def rowAt (bs : Asm) (h : SHeap) (k : IntKind) (a : Option Ad) (n : IExp) (cap : Option IExp) : Option AExp := match a with
  | none => if isZ n = true then some .nil else none
  | some a => match rowOf bs h a n with
    | some (k', A) => if k' = k ∧ A.inK bs k = true ∧ fitsLen bs A = true then some A else none
    | none => (match cap with
      | some c => if isZ n = true ∧ isZ c = true then some .nil else none
      | none => none)
def segLR (bs : Asm) (h : SHeap) : Fr → Seg → Option LExp
  | .f k, s => segL bs k s
  | .row k, .c (.sl a n cap) => (rowAt bs h k a n cap).map fun A => .a A .nil
  | _, _ => none
def segsLR (bs : Asm) (h : SHeap) : List Fr → List Seg → Option LExp
  | [], [] => some .nil
  | k :: ks, s :: r => match segLR bs h k s, segsLR bs h ks r with
    | some l, some m => some (LExp.app l m)
    | _, _ => none
  | _, _ => none
/-- Short arrays cell by cell. -/
def spreadAll (bs : Asm) : List Seg → List Seg
  | [] => []
  | .arr k n a :: r => if n ≤ 64 then spread bs k a 0 n ++ spreadAll bs r else .arr k n a :: spreadAll bs r
  | x :: r => x :: spreadAll bs r
def Fr.isArr : Fr → Bool
  | .f (.arr _ _) => true
  | _ => false
def svLR (bs : Asm) (h : SHeap) : Shr → SV → Option LExp
  | .c k, .c x => segsLR bs h [k] [.c x]
  | .agg ks, .agg l => segsLR bs h ks (cond (ks.any Fr.isArr) l (spreadAll bs l))
  | _, _ => none
def svsLR (bs : Asm) (h : SHeap) : List Shr → List SV → Option LExp
  | [], [] => some .nil
  | k :: ks, s :: r => match svLR bs h k s, svsLR bs h ks r with
    | some l, some m => some (LExp.app l m)
    | _, _ => none
  | _, _ => none
theorem spreadAll_D {e : Env} (ok : EnvOk e) {bs : Asm} (ha : AsmOk e bs) {ρ : Rho} : ∀ {l : List Seg} {vs : List Value}, SegsD e ρ l vs → SegsD e ρ (spreadAll bs l) vs
  | [], _, h => h
  | .arr k n a :: r, vs, h => by
    obtain ⟨vs', rfl, hl, h'⟩ := h
    have ih := spreadAll_D ok ha h'
    simp only [spreadAll]
    split
    · exact spread_all ok ha ⟨vs', rfl, hl, ih⟩
    · exact ⟨vs', rfl, hl, ih⟩
  | .c x :: r, vs, h => by
    obtain ⟨v, vs', rfl, h1, h'⟩ := h
    exact ⟨v, vs', rfl, h1, spreadAll_D ok ha h'⟩
  | .row k a :: r, vs, h => by
    obtain ⟨vs', rfl, h'⟩ := h
    exact ⟨vs', rfl, spreadAll_D ok ha h'⟩
  | .el n w j l :: r, vs, h => by
    obtain ⟨pre, mid, post, vs', rfl, h1, h'⟩ := h
    exact ⟨pre, mid, post, vs', rfl, h1, spreadAll_D ok ha h'⟩
  | .tab n c :: r, vs, h => by
    obtain ⟨tv, vs', rfl, h1, h'⟩ := h
    exact ⟨tv, vs', rfl, h1, spreadAll_D ok ha h'⟩
section
variable {e : Env} (ok : EnvOk e) {bs : Asm} (ha : AsmOk e bs) {ov : Nat} {ρ : Rho} {h : SHeap} {W : World} (hr : HRel e ov ρ h W)
include ok ha hr
theorem rowAt_ok {k : IntKind} {a : Option Ad} {n : IExp} {cap : Option IExp} {A : AExp} (hs : rowAt bs h k a n cap = some A) {v : Value} (hD : (Cell.sl a n cap).D e ρ v) : RowV k W v (A.den e) ∧ (∀ x ∈ A.den e, In k x) ∧ ((A.den e).length : Int) ≤ lenTop := by
  have htop : lenTop = 9223372036854775807 := rfl
  have hnil : (AExp.nil).den e = [] := by simp only [AExp.den]
  cases a with
  | none =>
    simp only [rowAt] at hs
    split at hs
    · rename_i hz
      cases hs
      obtain ⟨rfl, h1, _⟩ := hD
      rw [hnil]
      exact ⟨⟨none, 0, 0, rfl, Nat.le_refl _, rfl, .inl rfl⟩, fun x hx => (by cases hx), by simp; omega⟩
    · cases hs
  | some a =>
    obtain ⟨o, n', c', rfl, h1, h2, h3⟩ := hD
    simp only [rowAt] at hs
    split at hs
    · rename_i k' A' hro
      split at hs
      · rename_i hc
        obtain ⟨rfl, hk, hf⟩ := hc
        cases hs
        refine ⟨?_, AExp.inK_ok ok ha _ _ hk, fitsLen_ok ok ha hf⟩
        unfold rowOf at hro
        split at hro
        · rename_i l t off j hb hst
          obtain ⟨b, o1, r, vs, q1, q2, q3⟩ := hr.blk _ _ _ hb
          obtain ⟨r1, r2, r3, r4⟩ := region_ok ok ha q3 hro
          have hlen : (A.den e).length = (n.den e).toNat := by
            have := congrArg List.length r4
            rw [List.length_map, List.length_take, List.length_drop] at this
            omega
          refine ⟨o, n', c', rfl, h2, by rw [hlen]; omega, ?_⟩
          rcases h3 with ⟨A1, hA1, rfl, _⟩ | ⟨_, h5, _⟩
          · refine .inr ?_
            obtain ⟨rfl, _⟩ := Ad.at' hA1 q1
            refine ⟨b, o1 + a.pos e, rfl, ?_⟩
            have hp := At.part q2 (p := off + (j.den e).toNat) (n := (n.den e).toNat) (by omega)
            rw [r4] at hp
            rw [Ad.start_pos hst r1]
            exact hp
          · exact .inl h5
        · cases hro
      · cases hs
    · split at hs
      · rename_i c
        split at hs
        · rename_i hz
          cases hs
          rw [hnil]
          have e1 : n.den e = 0 := by rw [isZ_eq hz.1, litD]
          have e2 : c.den e = 0 := by rw [isZ_eq hz.2, litD]
          have hc0 : c' = 0 := by
            rcases h3 with ⟨_, _, _, hcc⟩ | ⟨_, h5, _⟩
            · have hcc : (c' : Int) = c.den e := hcc
              omega
            · exact h5
          exact ⟨⟨o, n', c', rfl, h2, by show 0 = n'; omega, .inl hc0⟩, fun x hx => (by cases hx), by simp; omega⟩
        · cases hs
      · cases hs
theorem segLR_ok {k : Fr} {s : Seg} {L : LExp} (hs : segLR bs h k s = some L) {r : List Seg} {vs : List Value} (hD : SegsD e ρ (s :: r) vs) : ∃ x us ws, L.den e = [x] ∧ k.Wf x ∧ k.Is W x us ∧ vs = us ++ ws ∧ SegsD e ρ r ws := by
  cases k with
  | f k =>
    obtain ⟨x, ws, g1, g2, g3, g4⟩ := segL_ok ok ha (show segL bs k s = some L from hs) hD
    exact ⟨x, _, ws, g1, g2, rfl, g3, g4⟩
  | row k =>
    unfold segLR at hs
    split at hs
    · rename_i heq; cases heq
    · rename_i k' a n cap heq
      cases heq
      simp only [Option.map_eq_some_iff] at hs
      obtain ⟨A, hA, rfl⟩ := hs
      obtain ⟨v, ws, rfl, g1, g2⟩ := hD
      obtain ⟨f1, f2, f3⟩ := rowAt_ok ok ha hr hA g1
      exact ⟨.a (A.den e), [v], ws, by simp only [LExp.den], ⟨f2, f3⟩, ⟨v, rfl, f1⟩, rfl, g2⟩
    · cases hs
theorem segsLR_ok : ∀ {ks : List Fr} {l : List Seg} {L : LExp}, segsLR bs h ks l = some L → ∀ {vs : List Value}, SegsD e ρ l vs → WfR ks (L.den e) ∧ frsIs W ks (L.den e) vs
  | [], [], L, hs, vs, hD => by
    simp only [segsLR, Option.some.injEq] at hs
    subst hs
    have hD : vs = [] := hD
    subst hD
    exact ⟨trivial, rfl⟩
  | k :: ks, s :: r, L, hs, vs, hD => by
    simp only [segsLR] at hs
    split at hs
    · rename_i l m hl hm
      cases hs
      obtain ⟨x, us, ws, g1, g2, g3, rfl, g4⟩ := segLR_ok ok ha hr hl hD
      obtain ⟨f1, f2⟩ := segsLR_ok hm g4
      rw [LExp.app_den, g1]
      exact ⟨⟨g2, f1⟩, us, ws, rfl, g3, f2⟩
    · cases hs
  | [], _ :: _, _, hs, _, _ => by simp [segsLR] at hs
  | _ :: _, [], _, hs, _, _ => by simp [segsLR] at hs
theorem svLR_ok {s : Shr} {x : SV} {L : LExp} (hs : svLR bs h s x = some L) {v : Value} (hD : x.D e ρ v) : WfR s.frs (L.den e) ∧ s.Is W (L.den e) v := by
  unfold svLR at hs
  split at hs
  · rename_i k c
    exact segsLR_ok ok ha hr hs (vs := [v]) ⟨v, [], rfl, hD, rfl⟩
  · rename_i ks l
    obtain ⟨vs, rfl, hD⟩ := hD
    have hD' : SegsD e ρ (cond (ks.any Fr.isArr) l (spreadAll bs l)) vs := by
      cases ks.any Fr.isArr with
      | true => exact hD
      | false => exact spreadAll_D ok ha hD
    obtain ⟨g1, g2⟩ := segsLR_ok ok ha hr hs hD'
    exact ⟨g1, vs, rfl, g2⟩
  · cases hs
theorem svsLR_ok : ∀ {ss : List Shr} {l : List SV} {L : LExp}, svsLR bs h ss l = some L → ∀ {vs : List Value}, SVsD e ρ l vs → WfR (shrFlat ss) (L.den e) ∧ shrsIs W ss (L.den e) vs
  | [], [], L, hs, vs, hD => by
    simp only [svsLR, Option.some.injEq] at hs
    subst hs
    have hD : vs = [] := hD
    subst hD
    exact ⟨trivial, rfl, rfl⟩
  | s :: ss, x :: r, L, hs, vs, hD => by
    simp only [svsLR] at hs
    split at hs
    · rename_i l m hl hm
      cases hs
      obtain ⟨v, vs', rfl, h1, h2⟩ := hD
      obtain ⟨g1, g2⟩ := svLR_ok ok ha hr hl h1
      obtain ⟨f1, f2⟩ := svsLR_ok hm h2
      have hlen := g1.length
      rw [LExp.app_den]
      refine ⟨g1.append f1, v, vs', rfl, ?_, ?_⟩
      · rw [← hlen, List.take_left]; exact g2
      · rw [← hlen, List.drop_left]; exact f2
    · cases hs
  | [], _ :: _, _, hs, _, _ => by simp [svsLR] at hs
  | _ :: _, [], _, hs, _, _ => by simp [svsLR] at hs
end
/-! ### The world in which a function runs -/
/-- The first blocks stand so. -/
def GsAt (gs : SHeap) (W : World) : Prop := ∀ (i : Nat) l t, gs[i]? = some (some (l, t)) → ∃ vs, At False W i 0 0 vs ∧ ∀ e ρ, SegsD e ρ l vs
structure Pre (gs : SHeap) (W : World) : Prop where
  gs : GsAt gs W
  b0 : Blk0 W
theorem Pre.still {gs : SHeap} {W W' : World} (h : Pre gs W) (hs : Still W W') : Pre gs W' := by
  refine ⟨fun i l t hi => ?_, ?_⟩
  · obtain ⟨vs, h1, h2⟩ := h.gs i l t hi
    exact ⟨vs, hs.at' h1, h2⟩
  · obtain ⟨cs, t, fz, hb⟩ := h.b0
    exact ⟨cs, t, fz, by rw [hs 0 (Array.getElem?_eq_some_iff.1 hb).1]; exact hb⟩
/-- The reading knows a world in which they stand. -/
structure KnowsP (gs : SHeap) (e : Env) : Prop where
  ex : ∃ W0, e.base = W0.heap.size ∧ (e.h0 = fun k => W0.heap[k]?) ∧ Pre gs W0
theorem KnowsP.at' {gs : SHeap} {e : Env} (h : KnowsP gs e) {ov : Nat} {ρ : Rho} {W : World} (ho : Old e ov ρ W) : Pre gs W := by
  obtain ⟨W0, h1, h2, h3⟩ := h.ex
  exact h3.still (Still.of_old ho h1 h2)
theorem KnowsP.agree {gs : SHeap} {e e' : Env} {N : Nat} (h : KnowsP gs e) (g : Agree N e e') : KnowsP gs e' := by
  obtain ⟨W0, h1, h2, h3⟩ := h.ex
  exact ⟨W0, g.base.trans h1, g.h0.trans h2, h3⟩
def rH (gs : SHeap) (ps : List Shr) : SHeap := gs ++ canonRH 0 (shrFlat ps)
def rArgs (gs : SHeap) (ps : List Shr) : List SVal := canonRArgs 0 gs.length ps
/-- All that a run over letters wants. -/
theorem r_start {gs : SHeap} {ps : List Shr} (hps : ps.all Shr.plain = true) (s : Src) {W : World} (hW : Pre gs W) {lv : List LV} {vs : List Value} (hlv : WfR (shrFlat ps) lv) (hvs : shrsIs W ps lv vs) :
    ∃ ρ, SValsD (Src.know (envOf s lv) W []).env ρ (rArgs gs ps) vs ∧ AsmOk (Src.know (envOf s lv) W []).env (canonRAs 0 (shrFlat ps)) ∧ HRel (Src.know (envOf s lv) W []).env (rH gs ps).length ρ (rH gs ps) W ∧ Glob gs.length ρ := by
  obtain ⟨R, g1, g2, g3⟩ := canonRArgs_D (s := Src.know s W []) (lv := lv) hW.b0 (ss := ps) (p := 0) (b := gs.length) (l := lv) (vs := vs) hps (fun i x hi => by simpa using hi) hlv hvs
  have hgl : (globs gs.length).length = gs.length := by simp [globs]
  have hlen : (rH gs ps).length = (globs gs.length ++ R).length := by
    rw [rH, List.length_append, List.length_append, g2.len, hgl]
  refine ⟨globs gs.length ++ R, ?_, canonRAs_ok (s := Src.know s W []) (lv := lv) (p := 0) (fun i x hi => by simpa using hi) hlv, ?_, (globs_ok _).mono ⟨R, rfl⟩⟩
  · exact g3 _ fun i y hy => by
      rw [List.getElem?_append_right (by omega), hgl, show gs.length + i - gs.length = i by omega]; exact hy
  · rw [hlen]
    refine HRel.ro hlen (fun i l t hi => ?_) ⟨fun i x h => by simp [Src.know, Src.env] at h, Nat.le_refl _, fun k _ => rfl⟩
    rcases Nat.lt_or_ge i gs.length with hlt | hge
    · rw [rH, List.getElem?_append_left hlt] at hi
      obtain ⟨us, h1, h2⟩ := hW.gs i l t hi
      refine ⟨i, 0, 0, us, ?_, h1, h2 _ _⟩
      rw [List.getElem?_append_left (by omega)]
      simp [globs, hlt]
    · rw [rH, List.getElem?_append_right hge] at hi
      obtain ⟨b, o, r, us, h1, h2, h3⟩ := g2.at' _ l t hi
      exact ⟨b, o, r, us, by rw [List.getElem?_append_right (by omega), hgl]; exact h1, h2, h3 _⟩
/-! ### The function -/
/-- Where the first answer is 0 these facts are known. -/
def FactZ (s : Src) (fs : Asm) (lv r : List LV) : Prop := r.getD 0 (.i 1) = .i 0 → AsmOk (envOf s lv).env fs
structure FnSpecR (f : Nat) (ps : List Shr) (rs : List Sh) (gs : SHeap) where
  F : List LV → List LV
  s : Src
  fs : Asm
  calls : ∀ W, Pre gs W → ∀ lv vs, WfR (shrFlat ps) lv → shrsIs W ps lv vs → Calls Tryd.prog f vs.toArray W fun en W' => en = .returned (retV (shVals rs (F lv))) ∧ WfL (shFlat rs) (F lv) ∧ FactZ s fs lv (F lv) ∧ RowKit.Below W.heap.size W W'
/-- Each answer is told, and what is asked of it is found at its leaf. -/
def treeOk (rs : List Sh) (chk : Asm → LExp → Bool) (t : WT (SVal × St)) : Bool := plainW t && t.all fun q => match resL rs q with
  | some L => chk q.2.as L
  | none => false
/-- Where the first answer is 0 these facts are found. -/
def chkZ (fs : Asm) (bs : Asm) (L : LExp) : Bool := fs.isEmpty || match L with
  | .i c _ => (match decideB bs (.eq c (.lit 0)) with
    | some true => fs.all (fun p => match decideB bs p.1 with
        | some v => v == p.2
        | none => false)
    | some false => true
    | none => false)
  | _ => false
theorem chkZ_ok {e : Env} (ok : EnvOk e) {fs bs : Asm} (ha : AsmOk e bs) {L : LExp} (h : chkZ fs bs L = true) (h0 : (L.den e).getD 0 (.i 1) = .i 0) : AsmOk e fs := by
  unfold chkZ at h
  simp only [Bool.or_eq_true] at h
  rcases h with h | h
  · rw [List.isEmpty_iff.1 h]; exact AsmOk.nil _
  · split at h
    · rename_i c l
      simp only [LExp.den, List.getD_cons_zero, LV.i.injEq] at h0
      split at h
      · intro p hp
        have := List.all_eq_true.1 h p hp
        split at this
        · rename_i v hv
          rw [decideB_ok ok ha hv]
          exact eq_of_beq this
        · cases this
      · rename_i hd
        have := decideB_ok ok ha hd
        simp only [BExp.den] at this
        have := of_decide_eq_false this
        rw [litD] at this
        exact absurd h0 this
      · cases h
    · cases h
noncomputable def rTree (n f : Nat) (tab : Tab) (gs : SHeap) (ps : List Shr) (bs : Asm) : WT (SVal × St) := xCall Tryd.prog gs.length plan tab n (rH gs ps).length f (rArgs gs ps) ⟨rH gs ps, bs⟩
theorem asm_know {s : Src} {lv : List LV} {W : World} {fs : Asm} (h : AsmOk (Src.know (envOf s lv) W []).env fs) : AsmOk (envOf s lv).env fs := fun p hp => by
  have := h p hp
  have hE : (Src.know (envOf s lv) W []).env = Env.know (envOf s lv).env W.heap.size (fun k => W.heap[k]?) [] := rfl
  rw [hE, bden_know] at this
  exact this
theorem calls_ex {f : Nat} {vs : Array Value} {W : World} {R : Ending → World → Prop} (h : Calls Tryd.prog f vs W R) : ∃ en W', R en W' := by
  obtain ⟨en, W1, _, hR, _⟩ := h []
  exact ⟨en, W1, hR⟩
section
variable {n f : Nat} {tab : Tab} {gs : SHeap} {ps : List Shr} {rs : List Sh} {chk : Asm → LExp → Bool} (hps : ps.all Shr.plain = true)
include hps
/-- What a run comes to. -/
theorem fnRunR (hok : treeOk rs chk (rTree n f tab gs ps (canonRAs 0 (shrFlat ps))) = true) (s : Src)
    (htab : ∀ e : Env, EnvOk e → e.fi = s.env.fi → e.fa = s.env.fa → e.fb = s.env.fb → KnowsP gs e → TabOk Tryd.prog gs.length (rH gs ps).length tab e) (W : World) (hW : Pre gs W) (lv : List LV) (vs : List Value) (hlv : WfR (shrFlat ps) lv) (hvs : shrsIs W ps lv vs) :
    Calls Tryd.prog f vs.toArray W fun en W' => ∃ q L, AsmOk (Src.know (envOf s lv) W []).env q.2.as ∧ resL rs q = some L ∧ chk q.2.as L = true ∧ L.den (Src.know (envOf s lv) W []).env = fnF s rs (rTree n f tab gs ps (canonRAs 0 (shrFlat ps))) lv ∧ en = .returned (retV (shVals rs (L.den (Src.know (envOf s lv) W []).env))) ∧ WfL (shFlat rs) (L.den (Src.know (envOf s lv) W []).env) ∧ RowKit.Below W.heap.size W W' := by
  have ok := (Src.know (envOf s lv) W []).ok
  have hE : (Src.know (envOf s lv) W []).env = Env.know (envOf s lv).env W.heap.size (fun k => W.heap[k]?) [] := rfl
  obtain ⟨ρ, hD, hA, hrel, hg⟩ := r_start hps s hW hlv hvs
  simp only [treeOk, Bool.and_eq_true] at hok
  have run := run_call (plan := plan) (n := n) (f := f) (G := gs.length) (ov := (rH gs ps).length) ok mixed plan_ok LtOk.none (htab _ ok rfl rfl rfl ⟨W, rfl, rfl, hW⟩) hD hA hrel hg (Nat.le_refl _) (pick_holds hok.1)
  refine run.mono ?_
  rintro en W' ⟨v, st', ρ', V, hz, rfl, hV, has, hb⟩
  have hz : pickW (Src.know (envOf s lv) W []).env (rTree n f tab gs ps (canonRAs 0 (shrFlat ps))) = some (v, st') := hz
  have hp := pick_all (p := fun q : SVal × St => match resL rs q with
    | some L => chk q.2.as L
    | none => false) hok.2 hz
  simp only at hp
  split at hp
  · rename_i L hL
    obtain ⟨h3, h4⟩ := resL_ok (q := (v, st')) (ρ := ρ') ok has hL hV
    refine ⟨(v, st'), L, has, hL, hp, ?_, congrArg _ h4, h3, hb⟩
    rw [hE, pick_know] at hz
    unfold fnF
    rw [hz]
    simp only [hL]
    rw [hE, lden_know]
  · cases hp
theorem fnSpecR_run {fs : Asm} (hchk : ∀ bs L, chk bs L = true → chkZ fs bs L = true) (hok : treeOk rs chk (rTree n f tab gs ps (canonRAs 0 (shrFlat ps))) = true) (s : Src)
    (htab : ∀ e : Env, EnvOk e → e.fi = s.env.fi → e.fa = s.env.fa → e.fb = s.env.fb → KnowsP gs e → TabOk Tryd.prog gs.length (rH gs ps).length tab e) (W : World) (hW : Pre gs W) (lv : List LV) (vs : List Value) (hlv : WfR (shrFlat ps) lv) (hvs : shrsIs W ps lv vs) :
    Calls Tryd.prog f vs.toArray W fun en W' => en = .returned (retV (shVals rs (fnF s rs (rTree n f tab gs ps (canonRAs 0 (shrFlat ps))) lv))) ∧ WfL (shFlat rs) (fnF s rs (rTree n f tab gs ps (canonRAs 0 (shrFlat ps))) lv) ∧ FactZ s fs lv (fnF s rs (rTree n f tab gs ps (canonRAs 0 (shrFlat ps))) lv) ∧ RowKit.Below W.heap.size W W' := by
  refine (fnRunR hps hok s htab W hW lv vs hlv hvs).mono ?_
  rintro en W' ⟨q, L, h1, h2, h3, h4, h5, h6, h7⟩
  rw [← h4]
  exact ⟨h5, h6, fun h0 => asm_know (W := W) (chkZ_ok (Src.know (envOf s lv) W []).ok h1 (hchk _ _ h3) h0), h7⟩
/-- All answers of the tree are L. -/
def allAre (rs : List Sh) (t : WT (SVal × St)) (L : LExp) : Bool := t.all fun q => match resL rs q with
  | some M => L.same M
  | none => false
/-- Another function answers the same. -/
theorem fnSpecR_same {f' : Nat} {tab' : Tab} {n' : Nat} {fs : Asm} (hchk : ∀ bs L, chk bs L = true → chkZ fs bs L = true ∧ allAre rs (rTree n' f' tab' gs ps bs) L = true) (hok : treeOk rs chk (rTree n f tab gs ps (canonRAs 0 (shrFlat ps))) = true) (s : Src)
    (htab0 : ∀ e : Env, EnvOk e → e.fi = s.env.fi → e.fa = s.env.fa → e.fb = s.env.fb → KnowsP gs e → TabOk Tryd.prog gs.length (rH gs ps).length tab e)
    (htab : ∀ e : Env, EnvOk e → e.fi = s.env.fi → e.fa = s.env.fa → e.fb = s.env.fb → KnowsP gs e → TabOk Tryd.prog gs.length (rH gs ps).length tab' e) (W : World) (hW : Pre gs W) (lv : List LV) (vs : List Value) (hlv : WfR (shrFlat ps) lv) (hvs : shrsIs W ps lv vs) :
    Calls Tryd.prog f' vs.toArray W fun en W' => en = .returned (retV (shVals rs (fnF s rs (rTree n f tab gs ps (canonRAs 0 (shrFlat ps))) lv))) ∧ WfL (shFlat rs) (fnF s rs (rTree n f tab gs ps (canonRAs 0 (shrFlat ps))) lv) ∧ FactZ s fs lv (fnF s rs (rTree n f tab gs ps (canonRAs 0 (shrFlat ps))) lv) ∧ RowKit.Below W.heap.size W W' := by
  obtain ⟨_, _, q, L, h1, h2, h3, h4, _, h6, _⟩ := calls_ex (fnRunR hps hok s htab0 W hW lv vs hlv hvs)
  have ok := (Src.know (envOf s lv) W []).ok
  obtain ⟨ρ, hD, _, hrel, hg⟩ := r_start hps s hW hlv hvs
  obtain ⟨hZ, hall⟩ := hchk _ _ h3
  have run := run_call (plan := plan) (n := n') (f := f') (G := gs.length) (ov := (rH gs ps).length) ok mixed plan_ok LtOk.none (htab _ ok rfl rfl rfl ⟨W, rfl, rfl, hW⟩) hD h1 hrel hg (Nat.le_refl _) (WT.all_holds hall)
  refine run.mono ?_
  rintro en W' ⟨v, st', ρ', V, hz, rfl, hV, has, hb⟩
  have hz : (match resL rs (v, st') with
    | some M => L.same M
    | none => false) = true := hz
  split at hz
  · rename_i M hM
    have hLM := LExp.same_eq _ _ hz
    subst hLM
    obtain ⟨g3, g4⟩ := resL_ok (q := (v, st')) (ρ := ρ') ok has hM hV
    rw [← h4]
    exact ⟨congrArg _ g4, g3, fun h0 => asm_know (W := W) (chkZ_ok ok h1 hZ h0), hb⟩
  · cases hz
end
/-! ### The contract -/
def FnER (e : Env) (id : Nat) (ps : List Shr) (rs : List Sh) (F : List LV → List LV) : Prop := ∀ lv, WfR (shrFlat ps) lv → WfL (shFlat rs) (F lv) → LetAre e id lv 0 (shFlat rs) (F lv)
theorem FnER.rows {s : Src} {rows : FnRows} {id : Nat} {ps : List Shr} {rs : List Sh} {F : List LV → List LV} (h : rowF rows id = some F) : FnER (Src.fns s rows).env id ps rs F :=
  fun lv _ h2 => letAre_of (F := F) (fun k j => by simp only [Src.fns, rowsI, h]) (fun j => by simp only [Src.fns, rowsB, h]) (fun k j => by simp only [Src.fns, rowsA, h]) _ _ 0 (fun i x hx => by rw [Nat.zero_add]; exact hx) h2
theorem FnER.same {e e' : Env} (hi : e'.fi = e.fi) (hb : e'.fb = e.fb) (ha : e'.fa = e.fa) {id : Nat} {ps : List Shr} {rs : List Sh} {F : List LV → List LV} (h : FnER e id ps rs F) : FnER e' id ps rs F :=
  fun lv h1 h2 => letAre_same hi hb ha (h lv h1 h2)
theorem WT.holds_both {α : Type} {e : Env} {Q R : α → Prop} : ∀ {t : WT α}, t.holds e Q → t.holds e R → t.holds e (fun a => Q a ∧ R a)
  | .leaf _, h, k => ⟨h, k⟩
  | .node b t f, h, k => by
    simp only [WT.holds] at h k ⊢
    split
    · rename_i hb; rw [if_pos hb] at h k; exact WT.holds_both h k
    · rename_i hb; rw [if_neg hb] at h k; exact WT.holds_both h k
  | .both _ _, h, k => ⟨WT.holds_both h.1 k.1, WT.holds_both h.2 k.2⟩
  | .stop, h, _ => h.elim
theorem WT.holds_ex {α : Type} {e : Env} {Q : α → Prop} : ∀ {t : WT α}, t.holds e Q → ∃ a, Q a
  | .leaf a, h => ⟨a, h⟩
  | .node b t f, h => by
    simp only [WT.holds] at h
    split at h
    · exact WT.holds_ex h
    · exact WT.holds_ex h
  | .both _ _, h => WT.holds_ex h.1
  | .stop, h => h.elim
/-- A function by letters, and what is known of its answers. -/
def tabFnC (f id : Nat) (ps : List Shr) (rs : List Sh) (ct : Asm → LExp → WT Asm) : Tab := fun _ g args st => if g = f then (match (argSVs args).bind (svsLR st.as st.h ps) with
  | some L => some ((ct st.as L).map fun fs => (letV id L rs, ⟨st.h, fs ++ (letAs id L 0 (shFlat rs) ++ st.as)⟩))
  | none => none) else none
def noCt : Asm → LExp → WT Asm := fun _ _ => .leaf []
/-- What a contract says besides is so. -/
def CtOk {f : Nat} {ps : List Shr} {rs : List Sh} {gs : SHeap} (S : FnSpecR f ps rs gs) (id : Nat) (ct : Asm → LExp → WT Asm) (e : Env) : Prop := ∀ bs L, AsmOk e bs → WfR (shrFlat ps) (L.den e) → LetAre e id (L.den e) 0 (shFlat rs) (S.F (L.den e)) → FactZ S.s S.fs (L.den e) (S.F (L.den e)) → (ct bs L).holds e (AsmOk e)
theorem noCt_ok {f : Nat} {ps : List Shr} {rs : List Sh} {gs : SHeap} (S : FnSpecR f ps rs gs) (id : Nat) (e : Env) : CtOk S id noCt e := fun _ _ _ _ _ _ => AsmOk.nil _
theorem tabFnC_ok {f id : Nat} {ps : List Shr} {rs : List Sh} {gs : SHeap} {ct : Asm → LExp → WT Asm} (hpl : rs.all Sh.plain = true) (S : FnSpecR f ps rs gs) {e : Env} (ok : EnvOk e) (hE : FnER e id ps rs S.F) (hk : KnowsP gs e) (hct : CtOk S id ct e) (G ov : Nat) : TabOk Tryd.prog G ov (tabFnC f id ps rs ct) e := by
  intro ro g args st t Z ht hov hz ρ vs W R hv ha hr hg hR
  unfold tabFnC at ht
  split at ht
  · rename_i hgf
    subst hgf
    split at ht
    · rename_i L hL
      cases ht
      simp only [Option.bind_eq_some_iff] at hL
      obtain ⟨l, h1, h2⟩ := hL
      have hD := argSVs_D h1 hv
      obtain ⟨hwf, his⟩ := svsLR_ok ok ha hr h2 hD
      refine (S.calls W (hk.at' hr.old) (L.den e) vs hwf his).mono ?_
      rintro en W' ⟨rfl, hw2, hfz, hb⟩
      have hle := hE (L.den e) hwf hw2
      obtain ⟨fs, hz1, hz2⟩ := WT.holds_ex (WT.holds_both (WT.holds_of_map hz) (hct st.as L ha hwf hle hfz))
      exact hR _ _ hz1 ρ _ W' (Post.of_below hr hb) (letV_D hpl hle hw2) (AsmOk.append hz2 (AsmOk.append (letAs_ok hle hw2) ha))
    · cases ht
  · cases ht
end Go.Proofs.YtaijkkkgpgldbaaDoor.K
