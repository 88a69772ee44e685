/- Pure functions by letters: the run, the answer, the contract. -/
import Derived.Test.YtaijkkkgpgldbaaDoorKFn
namespace Go.Proofs.YtaijkkkgpgldbaaDoor.K
open Go Sy
set_option maxRecDepth 100000
set_option linter.unusedVariables false
set_option linter.unusedSimpArgs false
/-! ### What is known of the world does not turn what texts stand for -/
def Env.know (e : Env) (b : Nat) (h : Nat → Option Obj) (f : List (Nat × Nat × Nat)) : Env := { e with base := b, h0 := h, fx := f }
mutual
theorem iden_know (e : Env) (b : Nat) (h : Nat → Option Obj) (f : List (Nat × Nat × Nat)) : ∀ x : IExp, x.den (Env.know e b h f) = x.den e
  | .lit _ => rfl
  | .var _ _ => rfl
  | .bin _ _ x y => by simp only [IExp.den, iden_know e b h f x, iden_know e b h f y]
  | .conv _ x => by simp only [IExp.den, iden_know e b h f x]
  | .sel _ a i => by simp only [IExp.den, aden_know e b h f a, iden_know e b h f i]
  | .len a => by simp only [IExp.den, aden_know e b h f a]
  | .fn _ _ _ l => by simp only [IExp.den, lden_know e b h f l]; rfl
  | .bit x => by simp only [IExp.den, bden_know e b h f x]
theorem bden_know (e : Env) (b : Nat) (h : Nat → Option Obj) (f : List (Nat × Nat × Nat)) : ∀ x : BExp, x.den (Env.know e b h f) = x.den e
  | .lit _ => rfl
  | .var _ => rfl
  | .eq x y => by simp only [BExp.den, iden_know e b h f x, iden_know e b h f y]
  | .lt x y => by simp only [BExp.den, iden_know e b h f x, iden_know e b h f y]
  | .le x y => by simp only [BExp.den, iden_know e b h f x, iden_know e b h f y]
  | .not x => by simp only [BExp.den, bden_know e b h f x]
  | .beq x y => by simp only [BExp.den, bden_know e b h f x, bden_know e b h f y]
  | .and x y => by simp only [BExp.den, bden_know e b h f x, bden_know e b h f y]
  | .aeq x y => by simp only [BExp.den, aden_know e b h f x, aden_know e b h f y]
  | .fn _ _ l => by simp only [BExp.den, lden_know e b h f l]; rfl
theorem aden_know (e : Env) (b : Nat) (h : Nat → Option Obj) (f : List (Nat × Nat × Nat)) : ∀ x : AExp, x.den (Env.know e b h f) = x.den e
  | .var _ _ => rfl
  | .upd a i v => by simp only [AExp.den, aden_know e b h f a, iden_know e b h f i, iden_know e b h f v]
  | .nil => rfl
  | .one x => by simp only [AExp.den, iden_know e b h f x]
  | .cat x y => by simp only [AExp.den, aden_know e b h f x, aden_know e b h f y]
  | .zeros n => by simp only [AExp.den, iden_know e b h f n]
  | .sub a i n => by simp only [AExp.den, aden_know e b h f a, iden_know e b h f i, iden_know e b h f n]
  | .cst _ => rfl
  | .fn _ _ _ l => by simp only [AExp.den, lden_know e b h f l]; rfl
theorem lden_know (e : Env) (b : Nat) (h : Nat → Option Obj) (f : List (Nat × Nat × Nat)) : ∀ x : LExp, x.den (Env.know e b h f) = x.den e
  | .nil => rfl
  | .i x l => by simp only [LExp.den, iden_know e b h f x, lden_know e b h f l]
  | .b x l => by simp only [LExp.den, bden_know e b h f x, lden_know e b h f l]
  | .a x l => by simp only [LExp.den, aden_know e b h f x, lden_know e b h f l]
end
/-! ### Ways of which one is gone -/
def pickW {α : Type} (e : Env) : WT α → Option α
  | .leaf a => some a
  | .node b t f => if b.den e = true then pickW e t else pickW e f
  | _ => none
def plainW {α : Type} : WT α → Bool
  | .leaf _ => true
  | .node _ t f => plainW t && plainW f
  | _ => false
theorem pick_holds {α : Type} {e : Env} : ∀ {t : WT α}, plainW t = true → t.holds e (fun q => pickW e t = some q)
  | .leaf a, _ => rfl
  | .node b t f, h => by
    simp only [plainW, Bool.and_eq_true] at h
    simp only [WT.holds, pickW]
    split
    · exact pick_holds h.1
    · exact pick_holds h.2
  | .both _ _, h => by cases h
  | .stop, h => by cases h
theorem pick_all {α : Type} {e : Env} {p : α → Bool} : ∀ {t : WT α} {q : α}, t.all p = true → pickW e t = some q → p q = true
  | .leaf a, q, h, hq => by cases hq; exact h
  | .node b t f, q, h, hq => by
    simp only [WT.all, Bool.and_eq_true] at h
    simp only [pickW] at hq
    split at hq
    · exact pick_all h.1 hq
    · exact pick_all h.2 hq
  | .both _ _, _, _, hq => by cases hq
  | .stop, _, _, hq => by cases hq
theorem pick_know {α : Type} (e : Env) (b : Nat) (h : Nat → Option Obj) (f : List (Nat × Nat × Nat)) : ∀ t : WT α, pickW (Env.know e b h f) t = pickW e t
  | .leaf _ => rfl
  | .node x t u => by simp only [pickW, bden_know, pick_know e b h f t, pick_know e b h f u]
  | .both _ _ => rfl
  | .stop => rfl
/-! ### A function's letters -/
def canonF (p : Nat) : Fc → Seg
  | .b => .c (.b (.var p))
  | .i k => .c (.i k (.var k p))
  | .s => .c (.s (.var .u8 p))
  | .arr k n => .arr k n (.var k p)
def canonFs (p : Nat) : List Fc → List Seg
  | [] => []
  | k :: r => canonF p k :: canonFs (p + 1) r
def canonSV (p : Nat) : Sh → SV
  | .c k => (match canonF p k with
    | .c x => .c x
    | _ => .c .nf)
  | .agg ks => .agg (canonFs p ks)
def canonArgs (p : Nat) : List Sh → List SVal
  | [] => []
  | s :: r => .v (canonSV p s) :: canonArgs (p + s.fcs.length) r
def canonAs (p : Nat) : List Fc → Asm
  | [] => []
  | .arr k n :: r => (.eq (.len (.var k p)) (.lit n), true) :: canonAs (p + 1) r
  | _ :: r => canonAs (p + 1) r
def lvI : LV → Int
  | .i n => n
  | _ => 0
def lvB : LV → Bool
  | .b x => x
  | _ => false
def lvA : LV → List Int
  | .a l => l
  | _ => []
def envOf (s : Src) (lv : List LV) : Src := { s with i := fun _ => lv.map lvI, b := lv.map lvB, a := fun _ j => lvA (lv.getD j (.i 0)) }
/-- No single array stands as an argument. -/
def Sh.plain : Sh → Bool
  | .c (.arr _ _) => false
  | _ => true
section
variable {s : Src} {lv : List LV} {ρ : Rho}
theorem canonF_D {p : Nat} {k : Fc} {x : LV} (hx : lv[p]? = some x) (hw : k.Wf x) {r : List Seg} {ws : List Value} (hr : SegsD (envOf s lv).env ρ r ws) : SegsD (envOf s lv).env ρ (canonF p k :: r) (k.vals x ++ ws) := by
  have hI : ∀ k, (envOf s lv).env.i k p = clip k (lvI x) := fun k => by
    show clip k ((lv.map lvI).getD p 0) = _
    rw [List.getD_eq_getElem?_getD, List.getElem?_map, hx]; rfl
  have hB : (envOf s lv).env.b p = lvB x := by
    show (lv.map lvB).getD p false = _
    rw [List.getD_eq_getElem?_getD, List.getElem?_map, hx]; rfl
  have hA : ∀ k, (envOf s lv).env.a k p = clipL k (lvA x) := fun k => by
    show clipL k (lvA (lv.getD p (.i 0))) = _
    rw [List.getD_eq_getElem?_getD, hx]; rfl
  cases k with
  | b => cases x with
    | b y => exact ⟨_, ws, rfl, congrArg _ hB.symm, hr⟩
    | i _ => exact hw.elim
    | a _ => exact hw.elim
  | i k => cases x with
    | i n => exact ⟨_, ws, rfl, congrArg _ ((hI k).trans (clip_of hw)).symm, hr⟩
    | b _ => exact hw.elim
    | a _ => exact hw.elim
  | s => cases x with
    | a l => exact ⟨_, ws, rfl, congrArg _ (congrArg strOf ((hA .u8).trans (clipL_of hw.1 hw.2)).symm), hr⟩
    | b _ => exact hw.elim
    | i _ => exact hw.elim
  | arr k n => cases x with
    | a l =>
      have htop : lenTop = 9223372036854775807 := rfl
      obtain ⟨hw1, hw2, hw3⟩ := hw
      have h1 : (AExp.var k p).den (envOf s lv).env = l := (hA k).trans (clipL_of hw1 (by show ((l.length : Nat) : Int) ≤ lenTop; omega))
      exact ⟨ws, by rw [h1]; rfl, by rw [h1]; exact hw2, hr⟩
    | b _ => exact hw.elim
    | i _ => exact hw.elim
theorem canonFs_D : ∀ {ks : List Fc} {p : Nat} {l : List LV}, (∀ (i : Nat) x, l[i]? = some x → i < ks.length → lv[p + i]? = some x) → WfL ks (l.take ks.length) → SegsD (envOf s lv).env ρ (canonFs p ks) (fcVals ks l)
  | [], p, l, _, _ => rfl
  | k :: ks, p, [], hx, hw => by simp [WfL] at hw
  | k :: ks, p, x :: l, hx, hw => by
    simp only [List.length_cons, List.take_succ_cons] at hw
    obtain ⟨h1, h2⟩ := hw
    refine canonF_D (x := x) (by simpa using hx 0 x rfl (by simp)) h1 (canonFs_D (p := p + 1) (fun i y hy hi => ?_) h2)
    rw [show p + 1 + i = p + (i + 1) by omega]
    exact hx (i + 1) y (by simpa using hy) (by simpa using hi)
theorem WfL.length : ∀ {ks : List Fc} {l : List LV}, WfL ks l → l.length = ks.length
  | [], [], _ => rfl
  | _ :: _, _ :: _, h => by simp [WfL.length h.2]
  | [], _ :: _, h => h.elim
  | _ :: _, [], h => h.elim
theorem WfL.split : ∀ {ks ks' : List Fc} {l : List LV}, WfL (ks ++ ks') l → WfL ks (l.take ks.length) ∧ WfL ks' (l.drop ks.length)
  | [], ks', l, h => ⟨trivial, h⟩
  | k :: ks, ks', [], h => h.elim
  | k :: ks, ks', x :: l, h => by
    obtain ⟨h1, h2⟩ := WfL.split h.2
    exact ⟨⟨h.1, h1⟩, h2⟩
theorem canonArgs_D : ∀ {ss : List Sh} {p : Nat} {l : List LV}, ss.all Sh.plain = true → (∀ (i : Nat) x, l[i]? = some x → lv[p + i]? = some x) → WfL (shFlat ss) l → SValsD (envOf s lv).env ρ (canonArgs p ss) (shVals ss l)
  | [], p, l, _, _, _ => rfl
  | sh :: ss, p, l, hpl, hx, hw => by
    simp only [List.all_cons, Bool.and_eq_true] at hpl
    obtain ⟨h1, h2⟩ := WfL.split hw
    refine ⟨_, _, rfl, ?_, canonArgs_D hpl.2 (fun i x hi => ?_) h2⟩
    · have hD := canonFs_D (s := s) (ρ := ρ) (ks := sh.fcs) (p := p) (l := l) (fun i x hi _ => hx i x hi) h1
      cases sh with
      | agg ks => exact ⟨_, rfl, hD⟩
      | c k =>
        cases l with
        | nil => simp [Sh.fcs, WfL] at h1
        | cons x l =>
          simp only [Sh.fcs, canonFs, fcVals] at hD
          have hv : fcVals [] l = [] := rfl
          cases k with
          | arr k n => cases hpl.1
          | b =>
            obtain ⟨v, ws, h3, h4, _⟩ := hD
            have hval : (Sh.c Fc.b).val (x :: l) = v := by
              have h5 : (Sh.c Fc.b).val (x :: l) = (Fc.vals Fc.b x ++ []).getD 0 undef := rfl
              rw [h5, h3]; rfl
            rw [hval]; exact h4
          | i k =>
            obtain ⟨v, ws, h3, h4, _⟩ := hD
            have hval : (Sh.c (Fc.i k)).val (x :: l) = v := by
              have h5 : (Sh.c (Fc.i k)).val (x :: l) = (Fc.vals (Fc.i k) x ++ []).getD 0 undef := rfl
              rw [h5, h3]; rfl
            rw [hval]; exact h4
          | s =>
            obtain ⟨v, ws, h3, h4, _⟩ := hD
            have hval : (Sh.c Fc.s).val (x :: l) = v := by
              have h5 : (Sh.c Fc.s).val (x :: l) = (Fc.vals Fc.s x ++ []).getD 0 undef := rfl
              rw [h5, h3]; rfl
            rw [hval]; exact h4
    · rw [List.getElem?_drop] at hi
      rw [Nat.add_assoc]
      exact hx _ x hi
theorem canonAs_ok : ∀ {ks : List Fc} {p : Nat} {l : List LV}, (∀ (i : Nat) x, l[i]? = some x → lv[p + i]? = some x) → WfL ks l → AsmOk (envOf s lv).env (canonAs p ks)
  | [], p, l, _, _ => AsmOk.nil _
  | k :: ks, p, [], _, hw => hw.elim
  | k :: ks, p, x :: l, hx, hw => by
    have hr := canonAs_ok (ks := ks) (p := p + 1) (l := l) (fun i y hy => by
      rw [show p + 1 + i = p + (i + 1) by omega]
      exact hx (i + 1) y (by simpa using hy)) hw.2
    cases k with
    | arr k n =>
      refine AsmOk.cons ?_ hr
      have h0 : lv[p]? = some x := by simpa using hx 0 x rfl
      cases x with
      | a z =>
        obtain ⟨hw1, hw2, hw3⟩ := hw.1
        have htop : lenTop = 9223372036854775807 := rfl
        have h1 : (envOf s lv).env.a k p = z := by
          show clipL k (lvA (lv.getD p (.i 0))) = _
          rw [List.getD_eq_getElem?_getD, h0]
          exact clipL_of hw1 (by show ((z.length : Nat) : Int) ≤ lenTop; omega)
        simp only [BExp.den, IExp.den, AExp.den, h1, hw2]
        exact decide_eq_true trivial
      | b _ => exact hw.1.elim
      | i _ => exact hw.1.elim
    | _ => exact hr
end
/-! ### The answer -/
def resSVs : SVal → List Sh → Option (List SV)
  | .v x, [_] => some [x]
  | .tup l, rs => if rs.length = 1 then none else some l
  | _, _ => none
def retV : List Value → Value
  | [v] => v
  | l => .tuple l.toArray
def resL (rs : List Sh) (q : SVal × St) : Option LExp := (resSVs q.1 rs).bind (svsL q.2.as rs)
theorem resL_ok {e : Env} (ok : EnvOk e) {q : SVal × St} (ha : AsmOk e q.2.as) {ρ : Rho} {rs : List Sh} {L : LExp} (h : resL rs q = some L) {V : Value} (hD : q.1.D e ρ V) : WfL (shFlat rs) (L.den e) ∧ V = retV (shVals rs (L.den e)) := by
  obtain ⟨l, hl, hL⟩ := Option.bind_eq_some_iff.1 h
  obtain ⟨v, st⟩ := q
  simp only at hl hL hD ha
  unfold resSVs at hl
  split at hl
  · rename_i x y
    cases hl
    obtain ⟨h1, h2⟩ := svsL_ok ok ha hL (vs := [V]) (ρ := ρ) ⟨V, [], rfl, hD, rfl⟩
    exact ⟨h1, by rw [← h2]; rfl⟩
  · rename_i l' rs'
    split at hl
    · cases hl
    · rename_i hne
      cases hl
      obtain ⟨vs, rfl, hD⟩ := hD
      obtain ⟨h1, rfl⟩ := svsL_ok ok ha hL hD
      refine ⟨h1, ?_⟩
      have : ∀ (rs : List Sh) (z : List LV), (shVals rs z).length = rs.length := by
        intro rs
        induction rs with
        | nil => intro z; rfl
        | cons r rs ih => intro z; simp [shVals, ih]
      have hlen := this rs (L.den e)
      generalize shVals rs (L.den e) = w at hlen
      rcases w with _ | ⟨a, _ | ⟨b, w⟩⟩
      · rfl
      · simp at hlen; omega
      · rfl
  · cases hl
structure FnSpec (f : Nat) (ps rs : List Sh) (Pre : World → Prop) where
  F : List LV → List LV
  calls : ∀ W, Pre W → ∀ lv, WfL (shFlat ps) lv → Calls Tryd.prog f (shVals ps lv).toArray W fun en W' => en = .returned (retV (shVals rs (F lv))) ∧ WfL (shFlat rs) (F lv) ∧ RowKit.Below W.heap.size W W'
noncomputable def fnTree (n f G : Nat) (tab : Tab) (gs : SHeap) (ps : List Sh) : WT (SVal × St) := xCall Tryd.prog G plan tab n gs.length f (canonArgs 0 ps) ⟨gs, canonAs 0 (shFlat ps)⟩
def fnOk (rs : List Sh) (t : WT (SVal × St)) : Bool := plainW t && t.all fun q => (resL rs q).isSome
def fnF (s : Src) (rs : List Sh) (t : WT (SVal × St)) (lv : List LV) : List LV := match pickW (envOf s lv).env t with
  | some q => (match resL rs q with
    | some L => L.den (envOf s lv).env
    | none => [])
  | none => []
theorem fnSpec_run {n f G : Nat} {tab : Tab} {gs : SHeap} {ps rs : List Sh} (hps : ps.all Sh.plain = true) (hok : fnOk rs (fnTree n f G tab gs ps) = true) (s : Src) {Pre : World → Prop}
    (hr : ∀ W, Pre W → ∀ e : Env, e.base = W.heap.size → (e.h0 = fun k => W.heap[k]?) → e.fx = [] → ∃ ρ, HRel e gs.length ρ gs W ∧ Glob G ρ)
    (htab : ∀ W, Pre W → ∀ e : Env, EnvOk e → e.fi = s.env.fi → e.fa = s.env.fa → e.fb = s.env.fb → e.base = W.heap.size → (e.h0 = fun k => W.heap[k]?) → TabOk Tryd.prog G gs.length tab e) (W : World) (hW : Pre W) (lv : List LV) (hlv : WfL (shFlat ps) lv) :
    Calls Tryd.prog f (shVals ps lv).toArray W fun en W' => en = .returned (retV (shVals rs (fnF s rs (fnTree n f G tab gs ps) lv))) ∧ WfL (shFlat rs) (fnF s rs (fnTree n f G tab gs ps) lv) ∧ RowKit.Below W.heap.size W W' := by
  simp only [fnOk, Bool.and_eq_true] at hok
  have ok := (Src.know (envOf s lv) W []).ok
  have hE : (Src.know (envOf s lv) W []).env = Env.know (envOf s lv).env W.heap.size (fun k => W.heap[k]?) [] := rfl
  obtain ⟨ρ, hrel, hg⟩ := hr W hW (Src.know (envOf s lv) W []).env rfl rfl rfl
  have hD := canonArgs_D (s := Src.know s W []) (lv := lv) (ρ := ρ) (p := 0) hps (fun i x hi => by simpa using hi) hlv
  have hA := canonAs_ok (s := Src.know s W []) (lv := lv) (p := 0) (fun i x hi => by simpa using hi) hlv
  have run := run_call (plan := plan) (n := n) (f := f) (G := G) (ov := gs.length) ok mixed plan_ok LtOk.none (htab W hW _ ok rfl rfl rfl rfl rfl) hD hA hrel hg (Nat.le_refl _) (pick_holds hok.1)
  have key : ∀ q, pickW (Src.know (envOf s lv) W []).env (fnTree n f G tab gs ps) = some q → ∃ L, resL rs q = some L ∧ fnF s rs (fnTree n f G tab gs ps) lv = L.den (Src.know (envOf s lv) W []).env := by
    intro q hq
    obtain ⟨L, hL⟩ := Option.isSome_iff_exists.1 (pick_all (p := fun q => (resL rs q).isSome) hok.2 hq)
    refine ⟨L, hL, ?_⟩
    rw [hE, pick_know] at hq
    unfold fnF
    rw [hq]
    simp only [hL]
    rw [hE, lden_know]
  refine run.mono ?_
  rintro en W' ⟨v, st', ρ', V, hz, rfl, hV, has, hb⟩
  obtain ⟨L, hL, hF⟩ := key _ hz
  obtain ⟨h1, h2⟩ := resL_ok (q := (v, st')) (ρ := ρ') ok has hL hV
  rw [hF]
  exact ⟨congrArg _ h2, h1, hb⟩
/-! ### The contract -/
/-- An answer by letters. -/
def letF (id j : Nat) (L : LExp) : Fc → Seg
  | .b => .c (.b (.fn id j L))
  | .i k => .c (.i k (.fn k id j L))
  | .s => .c (.s (.fn .u8 id j L))
  | .arr k n => .arr k n (.fn k id j L)
def letFs (id : Nat) (L : LExp) (j : Nat) : List Fc → List Seg
  | [] => []
  | k :: r => letF id j L k :: letFs id L (j + 1) r
def letSV (id : Nat) (L : LExp) (j : Nat) : Sh → SV
  | .c k => (match letF id j L k with
    | .c x => .c x
    | _ => .c .nf)
  | .agg ks => .agg (letFs id L j ks)
def letSVs (id : Nat) (L : LExp) (j : Nat) : List Sh → List SV
  | [] => []
  | s :: r => letSV id L j s :: letSVs id L (j + s.fcs.length) r
def letV (id : Nat) (L : LExp) : List Sh → SVal
  | [s] => .v (letSV id L 0 s)
  | rs => .tup (letSVs id L 0 rs)
def letAs (id : Nat) (L : LExp) (j : Nat) : List Fc → Asm
  | [] => []
  | .arr k n :: r => (.eq (.len (.fn k id j L)) (.lit n), true) :: letAs id L (j + 1) r
  | _ :: r => letAs id L (j + 1) r
def LetAre (e : Env) (id : Nat) (lv : List LV) : Nat → List Fc → List LV → Prop
  | _, [], _ => True
  | j, k :: ks, x :: l => (match k, x with
    | .b, .b y => e.fb id j lv = y
    | .i k, .i n => e.fi k id j lv = n
    | .s, .a z => e.fa .u8 id j lv = z
    | .arr k _, .a z => e.fa k id j lv = z
    | _, _ => False) ∧ LetAre e id lv (j + 1) ks l
  | _, _ :: _, [] => False
section
variable {e : Env} {ρ : Rho} {id : Nat} {L : LExp}
theorem letF_D {j : Nat} {k : Fc} {x : LV} {ks : List Fc} {l : List LV} (h : LetAre e id (L.den e) j (k :: ks) (x :: l)) (hw : k.Wf x) {r : List Seg} {ws : List Value} (hr : SegsD e ρ r ws) : SegsD e ρ (letF id j L k :: r) (k.vals x ++ ws) := by
  obtain ⟨h, _⟩ := h
  cases k with
  | b => cases x with
    | b y => exact ⟨_, ws, rfl, congrArg _ h.symm, hr⟩
    | i _ => exact hw.elim
    | a _ => exact hw.elim
  | i k => cases x with
    | i n => exact ⟨_, ws, rfl, congrArg _ h.symm, hr⟩
    | b _ => exact hw.elim
    | a _ => exact hw.elim
  | s => cases x with
    | a z => exact ⟨_, ws, rfl, congrArg _ (congrArg strOf h.symm), hr⟩
    | b _ => exact hw.elim
    | i _ => exact hw.elim
  | arr k n => cases x with
    | a z =>
      have h1 : (AExp.fn k id j L).den e = z := h
      exact ⟨ws, by rw [h1]; rfl, by rw [h1]; exact hw.2.1, hr⟩
    | b _ => exact hw.elim
    | i _ => exact hw.elim
theorem letFs_D : ∀ {ks : List Fc} {j : Nat} {l : List LV}, LetAre e id (L.den e) j ks l → WfL ks (l.take ks.length) → SegsD e ρ (letFs id L j ks) (fcVals ks l)
  | [], j, l, _, _ => rfl
  | k :: ks, j, [], h, _ => h.elim
  | k :: ks, j, x :: l, h, hw => by
    simp only [List.length_cons, List.take_succ_cons] at hw
    exact letF_D h hw.1 (letFs_D h.2 hw.2)
theorem LetAre.split : ∀ {ks ks' : List Fc} {j : Nat} {l : List LV}, LetAre e id (L.den e) j (ks ++ ks') l → LetAre e id (L.den e) j ks l ∧ LetAre e id (L.den e) (j + ks.length) ks' (l.drop ks.length)
  | [], ks', j, l, h => ⟨trivial, h⟩
  | k :: ks, ks', j, [], h => h.elim
  | k :: ks, ks', j, x :: l, h => by
    obtain ⟨h1, h2⟩ := LetAre.split h.2
    refine ⟨⟨h.1, h1⟩, ?_⟩
    rw [show j + (k :: ks).length = j + 1 + ks.length by simp; omega]
    exact h2
theorem letSVs_D : ∀ {ss : List Sh} {j : Nat} {l : List LV}, ss.all Sh.plain = true → LetAre e id (L.den e) j (shFlat ss) l → WfL (shFlat ss) l → SVsD e ρ (letSVs id L j ss) (shVals ss l)
  | [], j, l, _, _, _ => rfl
  | sh :: ss, j, l, hpl, h, hw => by
    simp only [List.all_cons, Bool.and_eq_true] at hpl
    obtain ⟨h1, h2⟩ := WfL.split hw
    obtain ⟨g1, g2⟩ := LetAre.split h
    refine ⟨_, _, rfl, ?_, letSVs_D hpl.2 g2 h2⟩
    have hD := letFs_D (ρ := ρ) g1 h1
    cases sh with
    | agg ks => exact ⟨_, rfl, hD⟩
    | c k =>
      cases l with
      | nil => simp [Sh.fcs, WfL] at h1
      | cons x l =>
        simp only [Sh.fcs, letFs, fcVals] at hD
        cases k with
        | arr k n => cases hpl.1
        | b =>
          obtain ⟨v, ws, h3, h4, _⟩ := hD
          have hval : (Sh.c Fc.b).val (x :: l) = v := by
            have h5 : (Sh.c Fc.b).val (x :: l) = (Fc.vals Fc.b x ++ []).getD 0 undef := rfl
            rw [h5, h3]; rfl
          rw [hval]; exact h4
        | i k =>
          obtain ⟨v, ws, h3, h4, _⟩ := hD
          have hval : (Sh.c (Fc.i k)).val (x :: l) = v := by
            have h5 : (Sh.c (Fc.i k)).val (x :: l) = (Fc.vals (Fc.i k) x ++ []).getD 0 undef := rfl
            rw [h5, h3]; rfl
          rw [hval]; exact h4
        | s =>
          obtain ⟨v, ws, h3, h4, _⟩ := hD
          have hval : (Sh.c Fc.s).val (x :: l) = v := by
            have h5 : (Sh.c Fc.s).val (x :: l) = (Fc.vals Fc.s x ++ []).getD 0 undef := rfl
            rw [h5, h3]; rfl
          rw [hval]; exact h4
theorem letV_D {rs : List Sh} {l : List LV} (hpl : rs.all Sh.plain = true) (h : LetAre e id (L.den e) 0 (shFlat rs) l) (hw : WfL (shFlat rs) l) : (letV id L rs).D e ρ (retV (shVals rs l)) := by
  have hD := letSVs_D (ρ := ρ) hpl h hw
  rcases rs with _ | ⟨r, _ | ⟨r', rs⟩⟩
  · exact ⟨_, rfl, hD⟩
  · obtain ⟨v, vs, h1, h2, h3⟩ := hD
    cases h3
    show (letSV id L 0 r).D e ρ (retV (shVals [r] l))
    rw [h1]; exact h2
  · exact ⟨_, rfl, hD⟩
theorem letAs_ok : ∀ {ks : List Fc} {j : Nat} {l : List LV}, LetAre e id (L.den e) j ks l → WfL ks l → AsmOk e (letAs id L j ks)
  | [], j, l, _, _ => AsmOk.nil _
  | k :: ks, j, [], h, _ => h.elim
  | k :: ks, j, x :: l, h, hw => by
    have hr := letAs_ok h.2 hw.2
    cases k with
    | arr k n =>
      refine AsmOk.cons ?_ hr
      cases x with
      | a z =>
        have h1 : e.fa k id j (L.den e) = z := h.1
        simp only [BExp.den, IExp.den, AExp.den, h1, hw.1.2.1]
        exact decide_eq_true trivial
      | b _ => exact hw.1.elim
      | i _ => exact hw.1.elim
    | _ => exact hr
end
def argSVs : List SVal → Option (List SV)
  | [] => some []
  | .v x :: r => (argSVs r).map (x :: ·)
  | _ :: _ => none
theorem argSVs_D {e : Env} {ρ : Rho} : ∀ {args : List SVal} {l : List SV} {vs : List Value}, argSVs args = some l → SValsD e ρ args vs → SVsD e ρ l vs
  | [], l, vs, h, hD => by
    simp only [argSVs, Option.some.injEq] at h
    subst h; exact hD
  | .v x :: r, l, vs, h, hD => by
    simp only [argSVs, Option.map_eq_some_iff] at h
    obtain ⟨m, hm, rfl⟩ := h
    obtain ⟨v, vs', h1, h2, h3⟩ := hD
    exact ⟨v, vs', h1, h2, argSVs_D hm h3⟩
  | .tup _ :: _, _, _, h, _ => by simp [argSVs] at h
  | .any :: _, _, _, h, _ => by simp [argSVs] at h
  | .val _ :: _, _, _, h, _ => by simp [argSVs] at h
/-- A function by letters. -/
def tabFn (f id : Nat) (ps rs : List Sh) : Tab := fun _ g args st => if g = f then (match (argSVs args).bind (svsL st.as ps) with
  | some L => some (.leaf (letV id L rs, ⟨st.h, letAs id L 0 (shFlat rs) ++ st.as⟩))
  | none => none) else none
/-- The letters stand for what the function answers. -/
def FnE (e : Env) (id : Nat) (ps rs : List Sh) (F : List LV → List LV) : Prop := ∀ lv, WfL (shFlat ps) lv → WfL (shFlat rs) (F lv) → LetAre e id lv 0 (shFlat rs) (F lv)
theorem tabFn_ok {f id : Nat} {ps rs : List Sh} {Pre : World → Prop} (hpl : rs.all Sh.plain = true) (S : FnSpec f ps rs Pre) {e : Env} (ok : EnvOk e) (hE : FnE e id ps rs S.F) (G ov : Nat) (hpre : ∀ ρ W, Old e ov ρ W → Pre W) : TabOk Tryd.prog G ov (tabFn f id ps rs) e := by
  intro ro g args st t Z ht hov hz ρ vs W R hv ha hr hg hR
  unfold tabFn at ht
  split at ht
  · rename_i hgf
    subst hgf
    split at ht
    · rename_i L hL
      cases ht
      obtain ⟨l, hl, hL⟩ := Option.bind_eq_some_iff.1 hL
      obtain ⟨h1, rfl⟩ := svsL_ok ok ha hL (argSVs_D hl hv)
      refine (S.calls W (hpre _ _ hr.old) _ h1).mono ?_
      rintro en W' ⟨rfl, h2, hb⟩
      have hl := hE _ h1 h2
      exact hR _ _ hz ρ _ W' (Post.of_below hr hb) (letV_D hpl hl h2) (AsmOk.append (letAs_ok hl h2) ha)
    · cases ht
  · cases ht
end Go.Proofs.YtaijkkkgpgldbaaDoor.K
