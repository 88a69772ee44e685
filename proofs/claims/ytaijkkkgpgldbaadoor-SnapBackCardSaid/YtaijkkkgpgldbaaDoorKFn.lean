/- Pure functions by letters: what a function answers is told once, by a run over letters. -/
import Derived.Test.YtaijkkkgpgldbaaDoorKOld
namespace Go.Proofs.YtaijkkkgpgldbaaDoor.K
open Go Sy
set_option maxRecDepth 100000
set_option linter.unusedVariables false
set_option linter.unusedSimpArgs false
/-- A flat cell: a truth, a number, a text, an array of numbers. -/
inductive Fc where
  | b
  | i (k : IntKind)
  | s
  | arr (k : IntKind) (n : Nat)
inductive Sh where
  | c (k : Fc)
  | agg (ks : List Fc)
def Sh.fcs : Sh → List Fc
  | .c k => [k]
  | .agg ks => ks
def shFlat : List Sh → List Fc
  | [] => []
  | x :: r => x.fcs ++ shFlat r
def fitsLen (bs : Asm) (A : AExp) : Bool := match A.lenR bs with
  | some (_, h) => decide (h ≤ 9223372036854775807)
  | none => false
theorem fitsLen_ok {e : Env} (ok : EnvOk e) {bs : Asm} (ha : AsmOk e bs) {A : AExp} (h : fitsLen bs A = true) : ((A.den e).length : Int) ≤ lenTop := by
  unfold fitsLen at h
  have hl := AExp.lenR_ok ok ha A
  split at h
  · rename_i lo hi hr
    rw [hr] at hl
    simp only [decide_eq_true_eq] at h
    have htop : lenTop = 9223372036854775807 := rfl
    have := hl.2
    omega
  · cases h
/-- What is well told of a cell. -/
def Fc.Wf : Fc → LV → Prop
  | .b, .b _ => True
  | .i k, .i n => In k n
  | .s, .a l => (∀ x ∈ l, In .u8 x) ∧ (l.length : Int) ≤ lenTop
  | .arr k n, .a l => (∀ x ∈ l, In k x) ∧ l.length = n ∧ n ≤ 1000000
  | _, _ => False
def WfL : List Fc → List LV → Prop
  | [], [] => True
  | k :: ks, x :: l => k.Wf x ∧ WfL ks l
  | _, _ => False
def Fc.vals : Fc → LV → List Value
  | .b, .b x => [.bool x]
  | .i k, .i n => [.int k n]
  | .s, .a l => [.string (strOf l)]
  | .arr k _, .a l => l.map (.int k)
  | _, _ => []
def fcVals : List Fc → List LV → List Value
  | [], _ => []
  | k :: ks, x :: l => k.vals x ++ fcVals ks l
  | _ :: _, [] => []
def Sh.val (s : Sh) (l : List LV) : Value := match s with
  | .c k => (fcVals [k] l).getD 0 undef
  | .agg ks => .agg (fcVals ks l).toArray
def shVals : List Sh → List LV → List Value
  | [], _ => []
  | s :: r, l => s.val l :: shVals r (l.drop s.fcs.length)
/-! ### Texts to letters -/
def LExp.app : LExp → LExp → LExp
  | .nil, m => m
  | .i x l, m => .i x (LExp.app l m)
  | .b x l, m => .b x (LExp.app l m)
  | .a x l, m => .a x (LExp.app l m)
theorem LExp.app_den (e : Env) : ∀ (l m : LExp), (LExp.app l m).den e = l.den e ++ m.den e
  | .nil, m => rfl
  | .i x l, m => by simp only [LExp.app, LExp.den, LExp.app_den e l m, List.cons_append]
  | .b x l, m => by simp only [LExp.app, LExp.den, LExp.app_den e l m, List.cons_append]
  | .a x l, m => by simp only [LExp.app, LExp.den, LExp.app_den e l m, List.cons_append]
def segL (bs : Asm) : Fc → Seg → Option LExp
  | .b, .c (.b x) => some (.b x .nil)
  | .i k, .c (.i k' x) => if k' = k ∧ inKind k (x.rng bs) = true then some (.i x .nil) else none
  | .s, .c (.s A) => if A.inK bs .u8 = true ∧ fitsLen bs A = true then some (.a A .nil) else none
  | .arr k n, .arr k' n' A => if k' = k ∧ n' = n ∧ A.inK bs k = true ∧ n ≤ 1000000 then some (.a A .nil) else none
  | _, _ => none
def segsL (bs : Asm) : List Fc → List Seg → Option LExp
  | [], [] => some .nil
  | k :: ks, s :: r => match segL bs k s, segsL bs ks r with
    | some l, some m => some (LExp.app l m)
    | _, _ => none
  | _, _ => none
def svL (bs : Asm) : Sh → SV → Option LExp
  | .c k, .c x => segL bs k (.c x)
  | .agg ks, .agg l => segsL bs ks l
  | _, _ => none
def svsL (bs : Asm) : List Sh → List SV → Option LExp
  | [], [] => some .nil
  | k :: ks, s :: r => match svL bs k s, svsL bs ks r with
    | some l, some m => some (LExp.app l m)
    | _, _ => none
  | _, _ => none
theorem WfL_append : ∀ {ks : List Fc} {l : List LV} {ks' : List Fc} {l' : List LV}, WfL ks l → WfL ks' l' → WfL (ks ++ ks') (l ++ l')
  | [], [], _, _, _, h => h
  | _ :: _, _ :: _, _, _, ⟨h1, h2⟩, h => ⟨h1, WfL_append h2 h⟩
  | [], _ :: _, _, _, h, _ => h.elim
  | _ :: _, [], _, _, h, _ => h.elim
section
variable {e : Env} (ok : EnvOk e) {bs : Asm} (ha : AsmOk e bs) {ρ : Rho}
include ok ha
theorem segL_ok {k : Fc} {s : Seg} {L : LExp} (h : segL bs k s = some L) {r : List Seg} {vs : List Value} (hD : SegsD e ρ (s :: r) vs) : ∃ x ws, L.den e = [x] ∧ k.Wf x ∧ vs = k.vals x ++ ws ∧ SegsD e ρ r ws := by
  unfold segL at h
  split at h
  · rename_i x
    cases h
    obtain ⟨v, vs', rfl, h1, h2⟩ := hD
    exact ⟨_, vs', rfl, trivial, by rw [show v = .bool (x.den e) from h1]; rfl, h2⟩
  · rename_i k k' x
    split at h
    · rename_i hc
      obtain ⟨rfl, hc⟩ := hc
      cases h
      obtain ⟨v, vs', rfl, h1, h2⟩ := hD
      exact ⟨_, vs', rfl, inKind_spec hc (IExp.rng_ok ok ha x), by rw [show v = .int _ (x.den e) from h1]; rfl, h2⟩
    · cases h
  · rename_i A
    split at h
    · rename_i hc
      cases h
      obtain ⟨v, vs', rfl, h1, h2⟩ := hD
      exact ⟨_, vs', rfl, ⟨AExp.inK_ok ok ha _ _ hc.1, fitsLen_ok ok ha hc.2⟩, by rw [show v = .string (strOf (A.den e)) from h1]; rfl, h2⟩
    · cases h
  · rename_i k n k' n' A
    split at h
    · rename_i hc
      obtain ⟨rfl, rfl, hc, hn⟩ := hc
      cases h
      obtain ⟨vs', rfl, h1, h2⟩ := hD
      exact ⟨_, vs', rfl, ⟨AExp.inK_ok ok ha _ _ hc, h1, hn⟩, rfl, h2⟩
    · cases h
  · cases h
theorem segsL_ok : ∀ {ks : List Fc} {l : List Seg} {L : LExp}, segsL bs ks l = some L → ∀ {vs : List Value}, SegsD e ρ l vs → WfL ks (L.den e) ∧ (L.den e).length = ks.length ∧ vs = fcVals ks (L.den e)
  | [], [], L, h, vs, hD => by
    simp only [segsL, Option.some.injEq] at h
    subst h
    cases hD
    exact ⟨trivial, rfl, rfl⟩
  | k :: ks, s :: r, L, h, vs, hD => by
    simp only [segsL] at h
    split at h
    · rename_i l m hl hm
      cases h
      obtain ⟨x, ws, h1, h2, rfl, h4⟩ := segL_ok ok ha hl hD
      obtain ⟨g1, g2, rfl⟩ := segsL_ok hm h4
      rw [LExp.app_den, h1]
      exact ⟨⟨h2, g1⟩, by simp [g2], rfl⟩
    · cases h
  | [], _ :: _, _, h, _, _ => by simp [segsL] at h
  | _ :: _, [], _, h, _, _ => by simp [segsL] at h
theorem svL_ok {s : Sh} {x : SV} {L : LExp} (h : svL bs s x = some L) {v : Value} (hD : x.D e ρ v) : WfL s.fcs (L.den e) ∧ (L.den e).length = s.fcs.length ∧ ∀ m, v = s.val (L.den e ++ m) := by
  unfold svL at h
  split at h
  · rename_i k c
    obtain ⟨y, ws, h1, h2, h3, h4⟩ := segL_ok ok ha h (r := []) (vs := [v]) (ρ := ρ) ⟨v, [], rfl, hD, rfl⟩
    cases h4
    rw [h1]
    refine ⟨⟨h2, trivial⟩, rfl, fun m => ?_⟩
    rw [List.append_nil] at h3
    show v = ((k.vals y ++ fcVals [] m).getD 0 undef)
    rw [← h3]; rfl
  · rename_i ks l
    obtain ⟨vs, rfl, hD⟩ := hD
    obtain ⟨h1, h2, rfl⟩ := segsL_ok ok ha h hD
    refine ⟨h1, h2, fun m => ?_⟩
    have : ∀ (ks : List Fc) (a m : List LV), a.length = ks.length → fcVals ks a = fcVals ks (a ++ m) := by
      intro ks
      induction ks with
      | nil => intro a m _; rfl
      | cons k ks ih =>
        intro a m hl
        cases a with
        | nil => simp at hl
        | cons x a => simp only [fcVals, List.cons_append]; rw [ih a m (by simpa using hl)]
    show Value.agg _ = .agg _
    rw [this ks _ m h2]
  · cases h
theorem svsL_ok : ∀ {ss : List Sh} {l : List SV} {L : LExp}, svsL bs ss l = some L → ∀ {vs : List Value}, SVsD e ρ l vs → WfL (shFlat ss) (L.den e) ∧ vs = shVals ss (L.den e)
  | [], [], L, h, vs, hD => by
    simp only [svsL, Option.some.injEq] at h
    subst h
    cases hD
    exact ⟨trivial, rfl⟩
  | s :: ss, x :: r, L, h, vs, hD => by
    simp only [svsL] at h
    split at h
    · rename_i l m hl hm
      cases h
      obtain ⟨v, vs', rfl, h1, h2⟩ := hD
      obtain ⟨g1, g2, g3⟩ := svL_ok ok ha hl h1
      obtain ⟨g4, rfl⟩ := svsL_ok hm h2
      rw [LExp.app_den]
      refine ⟨WfL_append g1 g4, ?_⟩
      simp only [shVals]
      rw [← g3 (m.den e), ← g2, List.drop_left]
    · cases h
  | [], _ :: _, _, h, _, _ => by simp [svsL] at h
  | _ :: _, [], _, h, _, _ => by simp [svsL] at h
end
end Go.Proofs.YtaijkkkgpgldbaaDoor.K
