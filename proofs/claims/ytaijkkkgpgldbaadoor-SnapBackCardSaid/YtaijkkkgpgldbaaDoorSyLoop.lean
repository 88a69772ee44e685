/- A symbolic executor for Go code: rounds of a loop: letters that stand for what a round leaves. -/
import Derived.Test.YtaijkkkgpgldbaaDoorSyRun
namespace Go.Proofs.YtaijkkkgpgldbaaDoor.Sy
noncomputable section
set_option linter.unusedVariables false
set_option linter.unusedSimpArgs false
open Go

/-! ### Letters from N on are free to be set -/
mutual
def IExp.old (N : Nat) : IExp → Bool
  | .lit _ => true
  | .var _ i => Nat.blt i N
  | .bin _ _ x y => x.old N && y.old N
  | .conv _ x => x.old N
  | .sel _ a i => a.old N && i.old N
  | .len a => a.old N
  | .fn _ _ _ l => l.old N
  | .bit b => b.old N
def BExp.old (N : Nat) : BExp → Bool
  | .lit _ => true
  | .var i => Nat.blt i N
  | .eq x y => x.old N && y.old N
  | .lt x y => x.old N && y.old N
  | .le x y => x.old N && y.old N
  | .not x => x.old N
  | .beq x y => x.old N && y.old N
  | .and x y => x.old N && y.old N
  | .aeq x y => x.old N && y.old N
  | .fn _ _ l => l.old N
def AExp.old (N : Nat) : AExp → Bool
  | .var _ i => Nat.blt i N
  | .upd a i v => a.old N && i.old N && v.old N
  | .nil => true
  | .one x => x.old N
  | .cat x y => x.old N && y.old N
  | .zeros n => n.old N
  | .sub a i n => a.old N && i.old N && n.old N
  | .cst _ => true
  | .fn _ _ _ l => l.old N
def LExp.old (N : Nat) : LExp → Bool
  | .nil => true
  | .i x l => x.old N && l.old N
  | .b x l => x.old N && l.old N
  | .a x l => x.old N && l.old N
end

/-- Two readings of the letters that agree old N. -/
structure Agree (N : Nat) (e e' : Env) : Prop where
  i : ∀ k j, j < N → e'.i k j = e.i k j
  b : ∀ j, j < N → e'.b j = e.b j
  a : ∀ k j, j < N → e'.a k j = e.a k j
  fi : e'.fi = e.fi
  fb : e'.fb = e.fb
  fa : e'.fa = e.fa
  v : e'.v = e.v
  base : e'.base = e.base
  h0 : e'.h0 = e.h0
  fx : e'.fx = e.fx
theorem Agree.symm {N : Nat} {e e' : Env} (h : Agree N e e') : Agree N e' e :=
  ⟨fun k j hj => (h.i k j hj).symm, fun j hj => (h.b j hj).symm, fun k j hj => (h.a k j hj).symm, h.fi.symm, h.fb.symm, h.fa.symm, h.v.symm, h.base.symm, h.h0.symm, h.fx.symm⟩
theorem Agree.refl (N : Nat) (e : Env) : Agree N e e := ⟨fun _ _ _ => rfl, fun _ _ => rfl, fun _ _ _ => rfl, rfl, rfl, rfl, rfl, rfl, rfl, rfl⟩
theorem Agree.trans {N : Nat} {e e' e'' : Env} (h : Agree N e e') (k : Agree N e' e'') : Agree N e e'' :=
  ⟨fun q j hj => (k.i q j hj).trans (h.i q j hj), fun j hj => (k.b j hj).trans (h.b j hj), fun q j hj => (k.a q j hj).trans (h.a q j hj), k.fi.trans h.fi, k.fb.trans h.fb, k.fa.trans h.fa, k.v.trans h.v, k.base.trans h.base, k.h0.trans h.h0, k.fx.trans h.fx⟩

mutual
theorem IExp.den_old {N : Nat} {e e' : Env} (g : Agree N e e') : ∀ (x : IExp), x.old N = true → x.den e' = x.den e
  | .lit _, _ => rfl
  | .var k i, h => g.i k i (Nat.le_of_ble_eq_true h)
  | .bin op k x y, h => by
    simp only [IExp.old, Bool.and_eq_true] at h
    simp only [IExp.den, IExp.den_old g x h.1, IExp.den_old g y h.2]
  | .conv k x, h => by
    simp only [IExp.old] at h
    simp only [IExp.den, IExp.den_old g x h]
  | .sel k a i, h => by
    simp only [IExp.old, Bool.and_eq_true] at h
    simp only [IExp.den, AExp.den_old g a h.1, IExp.den_old g i h.2]
  | .len a, h => by
    simp only [IExp.old] at h
    simp only [IExp.den, AExp.den_old g a h]
  | .fn k f j l, h => by
    simp only [IExp.old] at h
    simp only [IExp.den, LExp.den_old g l h, g.fi]
  | .bit b, h => by
    simp only [IExp.old] at h
    simp only [IExp.den, BExp.den_old g b h]
theorem BExp.den_old {N : Nat} {e e' : Env} (g : Agree N e e') : ∀ (x : BExp), x.old N = true → x.den e' = x.den e
  | .lit _, _ => rfl
  | .var i, h => g.b i (Nat.le_of_ble_eq_true h)
  | .eq x y, h => by
    simp only [BExp.old, Bool.and_eq_true] at h
    simp only [BExp.den, IExp.den_old g x h.1, IExp.den_old g y h.2]
  | .lt x y, h => by
    simp only [BExp.old, Bool.and_eq_true] at h
    simp only [BExp.den, IExp.den_old g x h.1, IExp.den_old g y h.2]
  | .le x y, h => by
    simp only [BExp.old, Bool.and_eq_true] at h
    simp only [BExp.den, IExp.den_old g x h.1, IExp.den_old g y h.2]
  | .not x, h => by
    simp only [BExp.old] at h
    simp only [BExp.den, BExp.den_old g x h]
  | .beq x y, h => by
    simp only [BExp.old, Bool.and_eq_true] at h
    simp only [BExp.den, BExp.den_old g x h.1, BExp.den_old g y h.2]
  | .and x y, h => by
    simp only [BExp.old, Bool.and_eq_true] at h
    simp only [BExp.den, BExp.den_old g x h.1, BExp.den_old g y h.2]
  | .aeq x y, h => by
    simp only [BExp.old, Bool.and_eq_true] at h
    simp only [BExp.den, AExp.den_old g x h.1, AExp.den_old g y h.2]
  | .fn f j l, h => by
    simp only [BExp.old] at h
    simp only [BExp.den, LExp.den_old g l h, g.fb]
theorem AExp.den_old {N : Nat} {e e' : Env} (g : Agree N e e') : ∀ (x : AExp), x.old N = true → x.den e' = x.den e
  | .var k i, h => g.a k i (Nat.le_of_ble_eq_true h)
  | .upd a i v, h => by
    simp only [AExp.old, Bool.and_eq_true] at h
    simp only [AExp.den, AExp.den_old g a h.1.1, IExp.den_old g i h.1.2, IExp.den_old g v h.2]
  | .nil, _ => rfl
  | .one x, h => by
    simp only [AExp.old] at h
    simp only [AExp.den, IExp.den_old g x h]
  | .cat x y, h => by
    simp only [AExp.old, Bool.and_eq_true] at h
    simp only [AExp.den, AExp.den_old g x h.1, AExp.den_old g y h.2]
  | .zeros n, h => by
    simp only [AExp.old] at h
    simp only [AExp.den, IExp.den_old g n h]
  | .sub a i n, h => by
    simp only [AExp.old, Bool.and_eq_true] at h
    simp only [AExp.den, AExp.den_old g a h.1.1, IExp.den_old g i h.1.2, IExp.den_old g n h.2]
  | .cst _, _ => rfl
  | .fn k f j l, h => by
    simp only [AExp.old] at h
    simp only [AExp.den, LExp.den_old g l h, g.fa]
theorem LExp.den_old {N : Nat} {e e' : Env} (g : Agree N e e') : ∀ (x : LExp), x.old N = true → x.den e' = x.den e
  | .nil, _ => rfl
  | .i x l, h => by
    simp only [LExp.old, Bool.and_eq_true] at h
    simp only [LExp.den, IExp.den_old g x h.1, LExp.den_old g l h.2]
  | .b x l, h => by
    simp only [LExp.old, Bool.and_eq_true] at h
    simp only [LExp.den, BExp.den_old g x h.1, LExp.den_old g l h.2]
  | .a x l, h => by
    simp only [LExp.old, Bool.and_eq_true] at h
    simp only [LExp.den, AExp.den_old g x h.1, LExp.den_old g l h.2]
end

/-- A letter and what it is to stand for. -/
inductive Asg where
  | i (k : IntKind) (j : Nat) (x : IExp)
  | b (j : Nat) (x : BExp)
  | a (k : IntKind) (j : Nat) (x : AExp)
/-- The reading in which the letters stand for that, read as before. -/
def Env.upd (e0 e : Env) : List Asg → Env
  | [] => e0
  | .i k j x :: r => { Env.upd e0 e r with i := fun k' j' => if k' = k ∧ j' = j then x.den e else (Env.upd e0 e r).i k' j' }
  | .b j x :: r => { Env.upd e0 e r with b := fun j' => if j' = j then x.den e else (Env.upd e0 e r).b j' }
  | .a k j x :: r => { Env.upd e0 e r with a := fun k' j' => if k' = k ∧ j' = j then x.den e else (Env.upd e0 e r).a k' j' }
/-- Each is of its kind. -/
def asgOk (as : Asm) : Asg → Bool
  | .i k _ x => inKind k (x.rng as)
  | .b _ _ => true
  | .a k _ x => x.inK as k && (match x.lenR as with
    | some (_, h) => decide (h ≤ lenTop)
    | none => false)
theorem Env.upd_ok {e0 e : Env} (ok0 : EnvOk e0) (ok : EnvOk e) {as : Asm} (ha : AsmOk e as) : ∀ {l : List Asg}, l.all (asgOk as) = true → EnvOk (Env.upd e0 e l)
  | [], _ => ok0
  | .i k j x :: r, h => by
    simp only [List.all_cons, Bool.and_eq_true] at h
    have ih := Env.upd_ok ok0 ok ha h.2
    refine ⟨fun k' j' => ?_, ih.a, ih.al, ih.fi, ih.fa, ih.fal⟩
    simp only [Env.upd]
    split
    · rename_i hc
      rw [hc.1]
      exact inKind_spec h.1 (IExp.rng_ok ok ha x)
    · exact ih.i _ _
  | .b j x :: r, h => by
    simp only [List.all_cons, Bool.and_eq_true] at h
    have ih := Env.upd_ok ok0 ok ha h.2
    exact ⟨ih.i, ih.a, ih.al, ih.fi, ih.fa, ih.fal⟩
  | .a k j x :: r, h => by
    simp only [List.all_cons, Bool.and_eq_true] at h
    have ih := Env.upd_ok ok0 ok ha h.2
    have hx := h.1
    simp only [asgOk, Bool.and_eq_true] at hx
    refine ⟨ih.i, fun k' j' y hy => ?_, fun k' j' => ?_, ih.fi, ih.fa, ih.fal⟩
    · simp only [Env.upd] at hy
      split at hy
      · rename_i hc
        rw [hc.1]
        exact AExp.inK_ok ok ha _ _ hx.1 y hy
      · exact ih.a _ _ _ hy
    · simp only [Env.upd]
      split
      · have hl := AExp.lenR_ok ok ha x
        have h2 := hx.2
        split at h2
        · rename_i lo hi heq
          rw [heq] at hl
          simp only [decide_eq_true_eq] at h2
          exact Int.le_trans hl.2 h2
        · cases h2
      · exact ih.al _ _

def asgLet (N : Nat) : Asg → Bool
  | .i _ j _ => Nat.ble N j
  | .b j _ => Nat.ble N j
  | .a _ j _ => Nat.ble N j
theorem Env.upd_agree {N : Nat} {e0 e : Env} : ∀ {l : List Asg}, l.all (asgLet N) = true → Agree N e0 (Env.upd e0 e l)
  | [], _ => Agree.refl _ _
  | .i k j x :: r, h => by
    simp only [List.all_cons, Bool.and_eq_true] at h
    have ih := Env.upd_agree (e0 := e0) (e := e) h.2
    have hj := Nat.le_of_ble_eq_true h.1
    refine ⟨fun k' j' hlt => ?_, ih.b, ih.a, ih.fi, ih.fb, ih.fa, ih.v, ih.base, ih.h0, ih.fx⟩
    simp only [Env.upd]
    rw [if_neg (by omega)]
    exact ih.i _ _ hlt
  | .b j x :: r, h => by
    simp only [List.all_cons, Bool.and_eq_true] at h
    have ih := Env.upd_agree (e0 := e0) (e := e) h.2
    have hj := Nat.le_of_ble_eq_true h.1
    refine ⟨ih.i, fun j' hlt => ?_, ih.a, ih.fi, ih.fb, ih.fa, ih.v, ih.base, ih.h0, ih.fx⟩
    simp only [Env.upd]
    rw [if_neg (by omega)]
    exact ih.b _ hlt
  | .a k j x :: r, h => by
    simp only [List.all_cons, Bool.and_eq_true] at h
    have ih := Env.upd_agree (e0 := e0) (e := e) h.2
    have hj := Nat.le_of_ble_eq_true h.1
    refine ⟨ih.i, ih.b, fun k' j' hlt => ?_, ih.fi, ih.fb, ih.fa, ih.v, ih.base, ih.h0, ih.fx⟩
    simp only [Env.upd]
    rw [if_neg (by omega)]
    exact ih.a _ _ hlt

/-! ### Held against a pattern -/
/-- The letter has been given that. -/
def hasI (l : List Asg) (k : IntKind) (j : Nat) (x : IExp) : Bool := match l with
  | [] => false
  | .i k' j' y :: r => if k = k' ∧ j = j' then x.same y else hasI r k j x
  | _ :: r => hasI r k j x
def hasB (l : List Asg) (j : Nat) (x : BExp) : Bool := match l with
  | [] => false
  | .b j' y :: r => if j = j' then x.same y else hasB r j x
  | _ :: r => hasB r j x
def hasA (l : List Asg) (k : IntKind) (j : Nat) (x : AExp) : Bool := match l with
  | [] => false
  | .a k' j' y :: r => if k = k' ∧ j = j' then x.same y else hasA r k j x
  | _ :: r => hasA r k j x
theorem hasI_ok {e0 e : Env} {k : IntKind} {j : Nat} {x : IExp} : ∀ {l : List Asg}, hasI l k j x = true → (Env.upd e0 e l).i k j = x.den e
  | [], h => by cases h
  | .i k' j' y :: r, h => by
    simp only [hasI] at h
    simp only [Env.upd]
    split at h
    · rename_i hc
      rw [if_pos hc, IExp.same_eq _ _ h]
    · rename_i hc
      rw [if_neg hc]
      exact hasI_ok h
  | .b j' y :: r, h => hasI_ok (l := r) h
  | .a k' j' y :: r, h => hasI_ok (l := r) h
theorem hasB_ok {e0 e : Env} {j : Nat} {x : BExp} : ∀ {l : List Asg}, hasB l j x = true → (Env.upd e0 e l).b j = x.den e
  | [], h => by cases h
  | .b j' y :: r, h => by
    simp only [hasB] at h
    simp only [Env.upd]
    split at h
    · rename_i hc
      rw [if_pos hc, BExp.same_eq _ _ h]
    · rename_i hc
      rw [if_neg hc]
      exact hasB_ok h
  | .i k' j' y :: r, h => hasB_ok (l := r) h
  | .a k' j' y :: r, h => hasB_ok (l := r) h
theorem hasA_ok {e0 e : Env} {k : IntKind} {j : Nat} {x : AExp} : ∀ {l : List Asg}, hasA l k j x = true → (Env.upd e0 e l).a k j = x.den e
  | [], h => by cases h
  | .a k' j' y :: r, h => by
    simp only [hasA] at h
    simp only [Env.upd]
    split at h
    · rename_i hc
      rw [if_pos hc, AExp.same_eq _ _ h]
    · rename_i hc
      rw [if_neg hc]
      exact hasA_ok h
  | .i k' j' y :: r, h => hasA_ok (l := r) h
  | .b j' y :: r, h => hasA_ok (l := r) h

/-- A pattern's text p and the text x that stands there: a letter that has been given x, or the same text of old letters. -/
def fitI (N : Nat) (l : List Asg) : IExp → IExp → Bool
  | .var k j, x => hasI l k j x || ((IExp.var k j).same x && (IExp.var k j).old N)
  | .len (.var k j), x => (match x with | .len y => hasA l k j y | _ => false) || ((IExp.len (.var k j)).same x && (IExp.len (.var k j)).old N)
  | .bin op k p q, x => (match x with | .bin op' k' y z => decide (op = op') && decide (k = k') && fitI N l p y && fitI N l q z | _ => false) || ((IExp.bin op k p q).same x && (IExp.bin op k p q).old N)
  | p, x => p.same x && p.old N
def fitB (N : Nat) (l : List Asg) (p x : BExp) : Bool := (match p with
  | .var j => hasB l j x
  | _ => false) || (p.same x && p.old N)
def fitA (N : Nat) (l : List Asg) : AExp → AExp → Bool
  | .var k j, x => hasA l k j x || ((AExp.var k j).same x && (AExp.var k j).old N)
  | .cat p q, x => (match x with | .cat y z => fitA N l p y && fitA N l q z | _ => false) || ((AExp.cat p q).same x && (AExp.cat p q).old N)
  | p, x => p.same x && p.old N
section fit
variable {N : Nat} {e0 e : Env} (g : Agree N e0 e) {l : List Asg} (hl : l.all (asgLet N) = true)
include g hl
theorem fitI_same {p x : IExp} (h : (p.same x && p.old N) = true) : p.den (Env.upd e0 e l) = x.den e := by
  simp only [Bool.and_eq_true] at h
  rw [← IExp.same_eq _ _ h.1]
  exact IExp.den_old (g.symm.trans (Env.upd_agree hl)) p h.2
theorem fitA_same {p x : AExp} (h : (p.same x && p.old N) = true) : p.den (Env.upd e0 e l) = x.den e := by
  simp only [Bool.and_eq_true] at h
  rw [← AExp.same_eq _ _ h.1]
  exact AExp.den_old (g.symm.trans (Env.upd_agree hl)) p h.2
theorem fitI_ok' : ∀ (p x : IExp), fitI N l p x = true → p.den (Env.upd e0 e l) = x.den e
  | .var k j, x, h => by
    simp only [fitI, Bool.or_eq_true] at h
    rcases h with h | h
    · exact hasI_ok h
    · exact fitI_same g hl h
  | .bin op k p q, x, h => by
    simp only [fitI, Bool.or_eq_true] at h
    rcases h with h | h
    · split at h
      · rename_i op' k' y z
        simp only [Bool.and_eq_true, decide_eq_true_eq] at h
        obtain ⟨⟨⟨rfl, rfl⟩, h1⟩, h2⟩ := h
        simp only [IExp.den, fitI_ok' p y h1, fitI_ok' q z h2]
      · cases h
    · exact fitI_same g hl h
  | .len a, x, h => by
    cases a with
    | var k j =>
      simp only [fitI, Bool.or_eq_true] at h
      rcases h with h | h
      · split at h
        · rename_i y
          show (((Env.upd e0 e l).a k j).length : Int) = _
          rw [hasA_ok h]; rfl
        · cases h
      · exact fitI_same g hl h
    | _ => exact fitI_same g hl (by simpa only [fitI] using h)
  | .lit n, x, h => fitI_same g hl (by simpa only [fitI] using h)
  | .conv k y, x, h => fitI_same g hl (by simpa only [fitI] using h)
  | .sel k a i, x, h => fitI_same g hl (by simpa only [fitI] using h)
  | .fn k f j r, x, h => fitI_same g hl (by simpa only [fitI] using h)
  | .bit b, x, h => fitI_same g hl (by simpa only [fitI] using h)
theorem fitI_ok {p x : IExp} (h : fitI N l p x = true) : p.den (Env.upd e0 e l) = x.den e := fitI_ok' g hl p x h
theorem fitB_ok {p x : BExp} (h : fitB N l p x = true) : p.den (Env.upd e0 e l) = x.den e := by
  simp only [fitB, Bool.or_eq_true, Bool.and_eq_true] at h
  rcases h with h | h
  · split at h
    · exact hasB_ok h
    · cases h
  · rw [← BExp.same_eq _ _ h.1]
    exact BExp.den_old (g.symm.trans (Env.upd_agree hl)) p h.2
theorem fitA_ok' : ∀ (p x : AExp), fitA N l p x = true → p.den (Env.upd e0 e l) = x.den e
  | .var k j, x, h => by
    simp only [fitA, Bool.or_eq_true] at h
    rcases h with h | h
    · exact hasA_ok h
    · exact fitA_same g hl h
  | .cat p q, x, h => by
    simp only [fitA, Bool.or_eq_true] at h
    rcases h with h | h
    · split at h
      · rename_i y z
        simp only [Bool.and_eq_true] at h
        simp only [AExp.den, fitA_ok' p y h.1, fitA_ok' q z h.2]
      · cases h
    · exact fitA_same g hl h
  | .upd a i v, x, h => fitA_same g hl (by simpa only [fitA] using h)
  | .nil, x, h => fitA_same g hl (by simpa only [fitA] using h)
  | .one y, x, h => fitA_same g hl (by simpa only [fitA] using h)
  | .zeros n, x, h => fitA_same g hl (by simpa only [fitA] using h)
  | .sub a i n, x, h => fitA_same g hl (by simpa only [fitA] using h)
  | .cst c, x, h => fitA_same g hl (by simpa only [fitA] using h)
  | .fn k f j r, x, h => fitA_same g hl (by simpa only [fitA] using h)
theorem fitA_ok {p x : AExp} (h : fitA N l p x = true) : p.den (Env.upd e0 e l) = x.den e := fitA_ok' g hl p x h
end fit

/-! Blocks: block i of the pattern is block p[i] of what stands there. -/
def fitAd (p : List Nat) (a b : Ad) : Bool := (match p[a.b]? with
  | some i => Nat.beq i b.b
  | none => false) && Nat.beq a.off b.off && (match a.ix, b.ix with
  | none, none => true
  | some (.lit m, w), some (.lit m', w') => decide (m = m') && Nat.beq w w'
  | _, _ => false)
def fitAds (p : List Nat) : List Ad → List Ad → Bool
  | [], [] => true
  | a :: r, b :: s => fitAd p a b && fitAds p r s
  | _, _ => false
def fitC (N : Nat) (p : List Nat) (l : List Asg) : Cell → Cell → Bool
  | .b x, .b y => fitB N l x y
  | .i k x, .i k' y => decide (k = k') && fitI N l x y
  | .s x, .s y => fitA N l x y
  | .p none, .p none => true
  | .p (some a), .p (some b) => fitAd p a b
  | .sl none n none, .sl none m none => fitI N l n m
  | .sl none n (some c), .sl none m (some d) => fitI N l n m && fitI N l c d
  | .sl (some a) n none, .sl (some b) m none => fitAd p a b && fitI N l n m
  | .sl (some a) n (some c), .sl (some b) m (some d) => fitAd p a b && fitI N l n m && fitI N l c d
  | .fn f c, .fn g d => Nat.beq f g && fitAds p c d
  | .nf, .nf => true
  | _, _ => false
def fitCs (N : Nat) (p : List Nat) (l : List Asg) : List Cell → List Cell → Bool
  | [], [] => true
  | a :: r, b :: s => fitC N p l a b && fitCs N p l r s
  | _, _ => false
def fitCols (N : Nat) (l : List Asg) : List Col → List Col → Bool
  | [], [] => true
  | .b x :: r, .b y :: s => fitA N l x y && fitCols N l r s
  | .i k x :: r, .i k' y :: s => decide (k = k') && fitA N l x y && fitCols N l r s
  | _, _ => false
def fitS (N : Nat) (p : List Nat) (l : List Asg) : Seg → Seg → Bool
  | .c x, .c y => fitC N p l x y
  | .arr k n x, .arr k' n' y => decide (k = k') && Nat.beq n n' && fitA N l x y
  | .row k x, .row k' y => decide (k = k') && fitA N l x y
  | .el n w j x, .el n' w' j' y => fitI N l n n' && Nat.beq w w' && fitI N l j j' && fitCs N p l x y
  | .tab n c, .tab n' c' => fitI N l n n' && fitCols N l c c'
  | _, _ => false
def fitSs (N : Nat) (p : List Nat) (l : List Asg) : List Seg → List Seg → Bool
  | [], [] => true
  | a :: r, b :: s => fitS N p l a b && fitSs N p l r s
  | _, _ => false
def fitV (N : Nat) (p : List Nat) (l : List Asg) : SV → SV → Bool
  | .c x, .c y => fitC N p l x y
  | .agg x, .agg y => fitSs N p l x y
  | _, _ => false
def fitVs (N : Nat) (p : List Nat) (l : List Asg) : List SV → List SV → Bool
  | [], [] => true
  | a :: r, b :: s => fitV N p l a b && fitVs N p l r s
  | _, _ => false
def fitVal (N : Nat) (p : List Nat) (l : List Asg) : SVal → SVal → Bool
  | .any, _ => true
  | .v x, .v y => fitV N p l x y
  | .tup x, .tup y => fitVs N p l x y
  | .val i, .val j => Nat.beq i j
  | _, _ => false

section fit
variable {N : Nat} {e0 e : Env} (g : Agree N e0 e) {l : List Asg} (hl : l.all (asgLet N) = true) {p : List Nat} {ρ ρ' : Rho} (hp : ∀ i j : Nat, p[i]? = some j → ρ'[i]? = ρ[j]?)
include hp
theorem fitAd_ok {a b : Ad} {e e' : Env} {A : Addr} (h : fitAd p a b = true) (hD : b.D e ρ A) : a.D e' ρ' A := by
  simp only [fitAd, Bool.and_eq_true] at h
  obtain ⟨⟨h1, h2⟩, h3⟩ := h
  obtain ⟨b', o, r, hb, hA⟩ := hD
  split at h1
  · rename_i i hi
    have := Nat.eq_of_beq_eq_true h1
    subst this
    have h2 := Nat.eq_of_beq_eq_true h2
    refine ⟨b', o, r, by rw [hp _ _ hi]; exact hb, ?_⟩
    split at h3
    · rename_i e1 e2
      rw [e2] at hA
      rw [e1]
      simp only at hA ⊢
      rw [h2]; exact hA
    · rename_i m w m' w' e1 e2
      simp only [Bool.and_eq_true, decide_eq_true_eq] at h3
      obtain ⟨rfl, h3⟩ := h3
      have := Nat.eq_of_beq_eq_true h3
      subst this
      rw [e2] at hA
      rw [e1]
      simp only [litD] at hA ⊢
      rw [h2]; exact hA
    · cases h3
  · cases h1
theorem fitAd_room {a b : Ad} {c : Nat} {e e' : Env} (h : fitAd p a b = true) (hD : CapIs e ρ b none c) : CapIs e' ρ' a none c := by
  simp only [fitAd, Bool.and_eq_true] at h
  obtain ⟨⟨h1, h2⟩, h3⟩ := h
  obtain ⟨b', o, r, hb, hw⟩ := hD
  split at h1
  · rename_i i hi
    have := Nat.eq_of_beq_eq_true h1
    subst this
    refine ⟨b', o, r, by rw [hp _ _ hi]; exact hb, ?_⟩
    rw [← hw]
    unfold Ad.wid Ad.pos
    have h2 := Nat.eq_of_beq_eq_true h2
    split at h3
    · rename_i e1 e2
      rw [e1, e2, h2]
    · rename_i m w m' w' e1 e2
      simp only [Bool.and_eq_true, decide_eq_true_eq] at h3
      rw [e1, e2, h2, Nat.eq_of_beq_eq_true h3.2, h3.1]
      simp only [litD]
    · cases h3
  · cases h1
theorem fitAds_ok {e e' : Env} : ∀ {a b : List Ad} {vs : List Value}, fitAds p a b = true → AdsD e ρ b vs → AdsD e' ρ' a vs
  | [], [], _, _, h => h
  | _ :: _, _ :: _, _, h, ⟨A, vs', h1, h2, h3⟩ => by
    simp only [fitAds, Bool.and_eq_true] at h
    exact ⟨A, vs', fitAd_ok hp h.1 h1, h2, fitAds_ok h.2 h3⟩
  | [], _ :: _, _, h, _ => by cases h
  | _ :: _, [], _, h, _ => by cases h
include g hl
theorem fitC_ok {x y : Cell} {v : Value} (h : fitC N p l x y = true) (hD : y.D e ρ v) : x.D (Env.upd e0 e l) ρ' v := by
  unfold fitC at h
  split at h
  · rw [Cell.D, fitB_ok g hl h]; exact hD
  · simp only [Bool.and_eq_true, decide_eq_true_eq] at h
    obtain ⟨rfl, h⟩ := h
    rw [Cell.D, fitI_ok g hl h]; exact hD
  · rw [Cell.D, fitA_ok g hl h]; exact hD
  · exact hD
  · obtain ⟨A, h1, h2⟩ := hD
    exact ⟨A, fitAd_ok hp h h1, h2⟩
  · obtain ⟨h1, h2, c, h3, _⟩ := hD
    cases h3
  · simp only [Bool.and_eq_true] at h
    obtain ⟨h1, h2, c, h3, h4⟩ := hD
    cases h3
    exact ⟨h1, by rw [fitI_ok g hl h.1]; exact h2, _, rfl, by rw [fitI_ok g hl h.2]; exact h4⟩
  · simp only [Bool.and_eq_true] at h
    obtain ⟨o, n, c, h1, h2, h3, h4⟩ := hD
    refine ⟨o, n, c, h1, by rw [fitI_ok g hl h.2]; exact h2, h3, ?_⟩
    rcases h4 with ⟨A, h4, h5, h6⟩ | ⟨h4, h5, h6⟩
    · exact .inl ⟨A, fitAd_ok hp h.1 h4, h5, fitAd_room hp h.1 h6⟩
    · exact .inr ⟨h4, h5, fun x hx => by cases hx⟩
  · simp only [Bool.and_eq_true] at h
    obtain ⟨o, n, c, h1, h2, h3, h4⟩ := hD
    refine ⟨o, n, c, h1, by rw [fitI_ok g hl h.1.2]; exact h2, h3, ?_⟩
    rcases h4 with ⟨A, h4, h5, h6⟩ | ⟨h4, h5, h6⟩
    · exact .inl ⟨A, fitAd_ok hp h.1.1 h4, h5, by show _ = _; rw [fitI_ok g hl h.2]; exact h6⟩
    · exact .inr ⟨h4, h5, fun x hx => by cases hx; rw [fitI_ok g hl h.2]; exact h6 _ rfl⟩
  · simp only [Bool.and_eq_true] at h
    obtain ⟨vs, h1, h2⟩ := hD
    have := Nat.eq_of_beq_eq_true h.1
    subst this
    exact ⟨vs, fitAds_ok hp h.2 h1, h2⟩
  · exact hD
  · cases h
theorem fitCs_ok : ∀ {x y : List Cell} {vs : List Value}, fitCs N p l x y = true → CellsD e ρ y vs → CellsD (Env.upd e0 e l) ρ' x vs
  | [], [], _, _, h => h
  | _ :: _, _ :: _, _, h, ⟨v, vs', h1, h2, h3⟩ => by
    simp only [fitCs, Bool.and_eq_true] at h
    exact ⟨v, vs', h1, fitC_ok g hl hp h.1 h2, fitCs_ok h.2 h3⟩
  | [], _ :: _, _, h, _ => by cases h
  | _ :: _, [], _, h, _ => by cases h
omit hp in
theorem fitCols_ok : ∀ {x y : List Col}, fitCols N l x y = true → x.length = y.length ∧ ∀ (r : Nat) c, x[r]? = some c → ∃ d, y[r]? = some d ∧ c.a.den (Env.upd e0 e l) = d.a.den e ∧ ∀ n, c.val n = d.val n
  | [], [], _ => ⟨rfl, fun r c h => by simp at h⟩
  | .b x :: r, .b y :: s, h => by
    simp only [fitCols, Bool.and_eq_true] at h
    obtain ⟨h1, h2⟩ := fitCols_ok h.2
    refine ⟨by simp [h1], fun i c hc => ?_⟩
    rcases i with _ | i
    · simp only [List.getElem?_cons_zero, Option.some.injEq] at hc
      subst hc
      exact ⟨_, rfl, fitA_ok g hl h.1, fun _ => rfl⟩
    · exact h2 i c (by simpa using hc)
  | .i k x :: r, .i k' y :: s, h => by
    simp only [fitCols, Bool.and_eq_true, decide_eq_true_eq] at h
    obtain ⟨⟨rfl, h0⟩, h3⟩ := h
    obtain ⟨h1, h2⟩ := fitCols_ok h3
    refine ⟨by simp [h1], fun i c hc => ?_⟩
    rcases i with _ | i
    · simp only [List.getElem?_cons_zero, Option.some.injEq] at hc
      subst hc
      exact ⟨_, rfl, fitA_ok g hl h0, fun _ => rfl⟩
    · exact h2 i c (by simpa using hc)
  | [], .b _ :: _, h => by simp [fitCols] at h
  | [], .i _ _ :: _, h => by simp [fitCols] at h
  | .b _ :: _, [], h => by simp [fitCols] at h
  | .i _ _ :: _, [], h => by simp [fitCols] at h
  | .b _ :: _, .i _ _ :: _, h => by simp [fitCols] at h
  | .i _ _ :: _, .b _ :: _, h => by simp [fitCols] at h
omit g hl hp in
/-- The same table, otherwise read. -/
theorem TabD.of_cols {e e' : Env} {n n' : IExp} {c d : List Col} {vs : List Value} (h : TabD e n d vs) (hn : n'.den e' = n.den e) (hlen : c.length = d.length) (hc : ∀ (r : Nat) x, c[r]? = some x → ∃ y, d[r]? = some y ∧ x.a.den e' = y.a.den e ∧ ∀ n, x.val n = y.val n) : TabD e' n' c vs := by
  refine ⟨by rw [hn]; exact h.n0, by rw [hlen]; exact h.w, fun x hx => ?_, ?_⟩
  · obtain ⟨r, hr⟩ := List.mem_iff_getElem?.1 hx
    obtain ⟨y, hy, h1, _⟩ := hc r x hr
    rw [h1, hn, h.len y (List.mem_of_getElem? hy)]
  · rw [h.is, hlen, hn]
    refine grid_congr fun j r _ hr => ?_
    rw [← hlen] at hr
    obtain ⟨y, hy, h1, h2⟩ := hc r _ (List.getElem?_eq_getElem hr)
    simp only [tabF, hy, List.getElem?_eq_getElem hr, h1, h2]
theorem fitSs_ok : ∀ {x y : List Seg} {vs : List Value}, fitSs N p l x y = true → SegsD e ρ y vs → SegsD (Env.upd e0 e l) ρ' x vs
  | [], [], _, _, h => h
  | x :: _, y :: _, _, h, hD => by
    simp only [fitSs, Bool.and_eq_true] at h
    obtain ⟨h1, h2⟩ := h
    unfold fitS at h1
    split at h1
    · obtain ⟨v, vs', q1, q2, q3⟩ := hD
      exact ⟨v, vs', q1, fitC_ok g hl hp h1 q2, fitSs_ok h2 q3⟩
    · simp only [Bool.and_eq_true, decide_eq_true_eq] at h1
      obtain ⟨⟨rfl, hn⟩, h1⟩ := h1
      have := Nat.eq_of_beq_eq_true hn
      subst this
      obtain ⟨vs', q1, q2, q3⟩ := hD
      exact ⟨vs', by rw [fitA_ok g hl h1]; exact q1, by rw [fitA_ok g hl h1]; exact q2, fitSs_ok h2 q3⟩
    · simp only [Bool.and_eq_true, decide_eq_true_eq] at h1
      obtain ⟨rfl, h1⟩ := h1
      obtain ⟨vs', q1, q3⟩ := hD
      exact ⟨vs', by rw [fitA_ok g hl h1]; exact q1, fitSs_ok h2 q3⟩
    · simp only [Bool.and_eq_true] at h1
      obtain ⟨⟨⟨k1, k2⟩, k3⟩, k4⟩ := h1
      have := Nat.eq_of_beq_eq_true k2
      subst this
      obtain ⟨pr, m, q, vs', q1, q2, q3⟩ := hD
      exact ⟨pr, m, q, vs', q1, ⟨fitCs_ok g hl hp k4 q2.md, q2.wid, by rw [fitI_ok g hl k3]; exact q2.j0, by rw [fitI_ok g hl k3]; exact q2.at', by rw [fitI_ok g hl k1]; exact q2.all, q2.one⟩, fitSs_ok h2 q3⟩
    · simp only [Bool.and_eq_true] at h1
      obtain ⟨tv, vs', q1, q2, q3⟩ := hD
      obtain ⟨k1, k2⟩ := fitCols_ok g hl h1.2
      exact ⟨tv, vs', q1, q2.of_cols (fitI_ok g hl h1.1) k1 k2, fitSs_ok h2 q3⟩
    · cases h1
  | [], _ :: _, _, h, _ => by cases h
  | _ :: _, [], _, h, _ => by cases h
theorem fitV_ok {x y : SV} {v : Value} (h : fitV N p l x y = true) (hD : y.D e ρ v) : x.D (Env.upd e0 e l) ρ' v := by
  unfold fitV at h
  split at h
  · exact fitC_ok g hl hp h hD
  · obtain ⟨vs, h1, h2⟩ := hD
    exact ⟨vs, h1, fitSs_ok g hl hp h h2⟩
  · cases h
theorem fitVs_ok : ∀ {x y : List SV} {vs : List Value}, fitVs N p l x y = true → SVsD e ρ y vs → SVsD (Env.upd e0 e l) ρ' x vs
  | [], [], _, _, h => h
  | _ :: _, _ :: _, _, h, ⟨v, vs', h1, h2, h3⟩ => by
    simp only [fitVs, Bool.and_eq_true] at h
    exact ⟨v, vs', h1, fitV_ok g hl hp h.1 h2, fitVs_ok h.2 h3⟩
  | [], _ :: _, _, h, _ => by cases h
  | _ :: _, [], _, h, _ => by cases h
theorem fitVal_ok {x y : SVal} {v : Value} (h : fitVal N p l x y = true) (hD : y.D e ρ v) : x.D (Env.upd e0 e l) ρ' v := by
  unfold fitVal at h
  split at h
  · trivial
  · exact fitV_ok g hl hp h hD
  · obtain ⟨vs, h1, h2⟩ := hD
    exact ⟨vs, h1, fitVs_ok g hl hp h h2⟩
  · rw [Nat.eq_of_beq_eq_true h]
    have hv := (Env.upd_agree (e0 := e0) (e := e) hl).v
    show v = _
    rw [hv, ← g.v]
    exact hD
  · cases h
end fit

/-- The pattern's slots: those that are listed; of the others nothing is known. -/
def fitTm (N : Nat) (p : List Nat) (l : List Asg) (tm tm' : Tm) : Bool := Nat.beq tm.n tm'.n && tm.dead && tm.l.all fun q => fitVal N p l q.2 (tm'.get q.1)
/-- The pattern's blocks. -/
def fitH (N : Nat) (l : List Asg) (p : List Nat) (h h' : SHeap) : Nat → List Nat → Bool
  | _, [] => true
  | i, j :: r => (match h[i]? with
    | some (some (x, _)) => (match h'[j]? with
      | some (some (y, _)) => fitSs N p l x y
      | _ => false)
    | some none => true
    | none => false) && fitH N l p h h' (i + 1) r
theorem tmFind_mem {l : List (Nat × SVal)} {t : Nat} : tmFind true l t = .any ∨ (t, tmFind true l t) ∈ l := by
  induction l with
  | nil => exact .inl rfl
  | cons q r ih =>
    obtain ⟨i, x⟩ := q
    simp only [tmFind]
    cases hq : Nat.beq i t with
    | true =>
      have := Nat.eq_of_beq_eq_true hq
      subst this
      simp
    | false =>
      simp only [cond_false]
      rcases ih with ih | ih
      · exact .inl ih
      · exact .inr (List.mem_cons_of_mem _ ih)
theorem fitH_get {N : Nat} {l : List Asg} {p : List Nat} {h h' : SHeap} : ∀ {q : List Nat} {i0 i j : Nat}, fitH N l p h h' i0 q = true → q[i]? = some j →
    (match h[i0 + i]? with
    | some (some (x, _)) => (match h'[j]? with
      | some (some (y, _)) => fitSs N p l x y
      | _ => false)
    | some none => true
    | none => false) = true
  | [], _, _, _, _, hq => by simp at hq
  | k :: r, i0, 0, j, hf, hq => by
    simp only [fitH, Bool.and_eq_true] at hf
    simp only [List.getElem?_cons_zero, Option.some.injEq] at hq
    subst hq
    exact hf.1
  | k :: r, i0, i + 1, j, hf, hq => by
    simp only [fitH, Bool.and_eq_true] at hf
    have := fitH_get hf.2 (by simpa using hq)
    rwa [show i0 + 1 + i = i0 + (i + 1) by omega] at this

def pickRho (ρ : Rho) (p : List Nat) : Rho := p.map fun j => ρ.getD j (0, 0, 0)
/-- All of a state held against a pattern. -/
structure Fit (N G : Nat) (p : List Nat) (l : List Asg) (tm tm' : Tm) (h : SHeap) (st' : St) : Prop where
  lets : l.all (asgLet N) = true
  oks : l.all (asgOk st'.as) = true
  tm : fitTm N p l tm tm' = true
  bl : fitH N l p h st'.h 0 p = true
  len : h.length = p.length
  inj : p.Nodup
  lt : p.all (fun j => Nat.blt j st'.h.length) = true
  glob : p.take G = List.range G
def fitAll (N G : Nat) (p : List Nat) (l : List Asg) (tm tm' : Tm) (h : SHeap) (st' : St) : Bool :=
  l.all (asgLet N) && l.all (asgOk st'.as) && fitTm N p l tm tm' && fitH N l p h st'.h 0 p && decide (h.length = p.length) && decide p.Nodup && p.all (fun j => Nat.blt j st'.h.length) && decide (p.take G = List.range G)
theorem fitAll_ok {N G : Nat} {p : List Nat} {l : List Asg} {tm tm' : Tm} {h : SHeap} {st' : St} (hf : fitAll N G p l tm tm' h st' = true) : Fit N G p l tm tm' h st' := by
  simp only [fitAll, Bool.and_eq_true, decide_eq_true_eq] at hf
  obtain ⟨⟨⟨⟨⟨⟨⟨h1, h2⟩, h3⟩, h4⟩, h5⟩, h6⟩, h7⟩, h8⟩ := hf
  exact ⟨h1, h2, h3, h4, h5, h6, h7, h8⟩

theorem Fit.get {N G : Nat} {p : List Nat} {l : List Asg} {tm tm' : Tm} {h : SHeap} {st' : St} (f : Fit N G p l tm tm' h st') {ρ : Rho} (hlen : st'.h.length = ρ.length) : ∀ i j : Nat, p[i]? = some j → (pickRho ρ p)[i]? = ρ[j]? := by
  intro i j hi
  have hj : j < ρ.length := by
    have := List.all_eq_true.1 f.lt j (List.mem_of_getElem? hi)
    rw [← hlen]; exact Nat.le_of_ble_eq_true this
  simp only [pickRho, List.getElem?_map, hi, Option.map_some, List.getD_eq_getElem?_getD, List.getElem?_eq_getElem hj, Option.getD_some]

/-- What stands there is what the pattern says, its letters standing for what was found. -/
theorem Fit.rl {N G ov : Nat} {p : List Nat} {l : List Asg} {tm tm' : Tm} {h : SHeap} {st' : St} (f : Fit N G p l tm tm' h st') {e0 e : Env} (g : Agree N e0 e) {ρ : Rho} {a : Act} {W : World} (hR : Rl e G ov ρ tm' st' a W) (hov : p.take ov = List.range ov)
    {as : Asm} (has : AsmOk (Env.upd e0 e l) as) : Rl (Env.upd e0 e l) G ov (pickRho ρ p) tm ⟨h, as⟩ a W := by
  have hget := f.get hR.hr.len
  have hlow : ∀ {i : Nat}, i < ov → p[i]? = some i := by
    intro i hi
    have := congrArg (·[i]?) hov
    simp only [List.getElem?_take_of_lt hi, List.getElem?_range hi] at this
    exact this
  have low : ∀ {i i' : Nat}, p[i]? = some i' → ov ≤ i → ov ≤ i' := by
    intro i i' hi' hov'
    rcases Nat.lt_or_ge i' ov with hlt | hge
    · have h3 := hlow hlt
      obtain ⟨q1, r1⟩ := List.getElem?_eq_some_iff.1 hi'
      obtain ⟨q2, r2⟩ := List.getElem?_eq_some_iff.1 h3
      have := (List.getElem_inj f.inj).1 (r1.trans r2.symm)
      omega
    · exact hge
  have hlive : ∀ {i : Nat} {x : List Seg × TypeId}, h[i]? = some (some x) → ∃ j y, p[i]? = some j ∧ st'.h[j]? = some (some y) ∧ fitSs N p l x.1 y.1 = true := by
    intro i x hi
    have hil : i < p.length := by rw [← f.len]; exact (List.getElem?_eq_some_iff.1 hi).1
    have := fitH_get f.bl (List.getElem?_eq_getElem hil)
    rw [Nat.zero_add, hi] at this
    simp only at this
    split at this
    · rename_i y t hy
      exact ⟨_, (y, t), List.getElem?_eq_getElem hil, hy, this⟩
    · cases this
  have hag := Env.upd_agree (e0 := e0) (e := e) f.lets
  refine ⟨⟨?_, fun t => ?_⟩, hR.df, has, ⟨?_, ?_, ?_, ⟨?_, ?_, ?_, ?_, ?_⟩⟩, ?_⟩
  · have h1 := f.tm
    simp only [fitTm, Bool.and_eq_true] at h1
    rw [Nat.eq_of_beq_eq_true h1.1.1]
    exact hR.tm.1
  · have h1 := f.tm
    simp only [fitTm, Bool.and_eq_true] at h1
    obtain ⟨⟨_, hd⟩, hall⟩ := h1
    show SVal.D _ _ (tmFind tm.dead tm.l t) _
    rw [hd]
    rcases tmFind_mem (l := tm.l) (t := t) with hm | hm
    · rw [hm]; trivial
    · exact fitVal_ok g f.lets hget (List.all_eq_true.1 hall _ hm) (hR.tm.2 t)
  · simp [pickRho, f.len]
  · intro i j b c hi hj hb hc hij hovv
    obtain ⟨x, hx⟩ := hi
    obtain ⟨y, hy⟩ := hj
    obtain ⟨i', x', hi', hx', _⟩ := hlive hx
    obtain ⟨j', y', hj', hy', _⟩ := hlive hy
    rw [hget _ _ hi'] at hb
    rw [hget _ _ hj'] at hc
    refine hR.hr.apart i' j' b c ⟨_, hx'⟩ ⟨_, hy'⟩ hb hc ?_ ?_
    · intro hh
      subst hh
      have h1 := List.getElem?_eq_some_iff.1 hi'
      have h2 := List.getElem?_eq_some_iff.1 hj'
      obtain ⟨q1, r1⟩ := h1
      obtain ⟨q2, r2⟩ := h2
      exact hij ((List.getElem_inj f.inj).1 (r1.trans r2.symm))
    · rcases hovv with h1 | h1
      · exact .inl (low hi' h1)
      · exact .inr (low hj' h1)
  · intro i x t hi
    obtain ⟨j, y, hj, hy, hfit⟩ := hlive hi
    obtain ⟨b, o, r, vs, h1, h2, h3⟩ := hR.hr.blk j y.1 y.2 hy
    exact ⟨b, o, r, vs, by rw [hget _ _ hj]; exact h1, h2.weak (fun q => low hj q), fitSs_ok g f.lets hget hfit h3⟩
  · intro i x hx
    rw [hag.fx, ← g.fx] at hx
    have hio : i < ov := by
      have := (List.getElem?_eq_some_iff.1 hx).1
      have := hR.hr.old.fl
      omega
    rw [hget _ _ (hlow hio)]
    exact hR.hr.old.fx i x hx
  · rw [hag.fx, ← g.fx]; exact hR.hr.old.fl
  · rw [hag.base, ← g.base]; exact hR.hr.old.size
  · intro k hk
    rw [hag.base, ← g.base] at hk
    rw [hag.h0, ← g.h0]; exact hR.hr.old.same k hk
  · intro b hb
    rw [hag.base, ← g.base]
    obtain ⟨i, hi⟩ := List.mem_iff_getElem?.1 hb
    rw [List.getElem?_drop] at hi
    have hil : ov + i < p.length := by
      have := (List.getElem?_eq_some_iff.1 hi).1
      simpa [pickRho] using this
    have hpi : p[ov + i]? = some p[ov + i] := List.getElem?_eq_getElem hil
    have hlo := low hpi (Nat.le_add_right _ _)
    rw [hget _ _ hpi] at hi
    refine hR.hr.old.own b ?_
    have : (ρ.drop ov)[p[ov + i] - ov]? = some b := by rw [List.getElem?_drop, show ov + (p[ov + i] - ov) = p[ov + i] by omega]; exact hi
    exact List.mem_of_getElem? this
  · intro q hq
    have h1 : p[q]? = some q := by
      have := congrArg (·[q]?) f.glob
      simp only [List.getElem?_take_of_lt hq, List.getElem?_range hq] at this
      exact this
    rw [hget _ _ h1]
    exact hR.gl q hq

/-- What has become of the world since the function was entered. -/
structure Since (ro : Nat) (ρ0 : Rho) (W0 : World) (ρ : Rho) (W : World) : Prop where
  pre : Pre ρ0 ρ
  new : New ro ρ0 ρ W0
  fr : Fr ro ρ0 W0 W
theorem Since.refl (ro : Nat) (ρ : Rho) (W : World) : Since ro ρ W ρ W := ⟨Pre.refl _, New.refl _ _ _, Fr.refl _ _ _⟩
theorem Since.step {e : Env} {ov ro : Nat} {ρ0 ρ ρ' : Rho} {W0 W W' : World} {h' : SHeap} (s : Since ro ρ0 W0 ρ W) (p : Post e ov ro ρ W ρ' h' W') : Since ro ρ0 W0 ρ' W' :=
  ⟨s.pre.trans p.pre, s.new.trans s.pre p.pre s.fr.size p.new, s.fr.trans p.fr s.pre s.new⟩
theorem Since.pick {ro : Nat} {ρ0 ρ : Rho} {W0 W : World} (s : Since ro ρ0 W0 ρ W) {p : List Nat} (hp : p.take ρ0.length = List.range ρ0.length) (hn : p.Nodup) (hlt : p.all (fun j => Nat.blt j ρ.length) = true) : Since ro ρ0 W0 (pickRho ρ p) W := by
  obtain ⟨r, rfl⟩ := s.pre
  have e1 : pickRho (ρ0 ++ r) p = ρ0 ++ (pickRho (ρ0 ++ r) p).drop ρ0.length := by
    have h1 : (pickRho (ρ0 ++ r) p).take ρ0.length = ρ0 := by
      simp only [pickRho, ← List.map_take, hp]
      apply List.ext_getElem
      · simp
      · intro i h1 h2
        simp [List.getD_eq_getElem?_getD, List.getElem?_append_left h2, List.getElem?_eq_getElem h2]
    exact (List.take_append_drop ρ0.length (pickRho (ρ0 ++ r) p)).symm.trans (by rw [h1])
  refine ⟨⟨_, e1⟩, fun b hb => ?_, s.fr⟩
  simp only [pickRho, ← List.map_drop, List.mem_map] at hb
  obtain ⟨j, hj, rfl⟩ := hb
  have hjm : j ∈ p := List.mem_of_mem_drop hj
  have hjl : j < (ρ0 ++ r).length := Nat.le_of_ble_eq_true (List.all_eq_true.1 hlt j hjm)
  have hge : ρ0.length ≤ j := by
    rcases Nat.lt_or_ge j ρ0.length with hlt' | hge
    · exfalso
      have h3 : j ∈ p.take ρ0.length := by rw [hp]; exact List.mem_range.2 hlt'
      have := List.nodup_append.1 (by rw [List.take_append_drop]; exact hn : (p.take ρ0.length ++ p.drop ρ0.length).Nodup)
      exact this.2.2 j h3 j hj rfl
    · exact hge
  rw [List.getD_eq_getElem?_getD, List.getElem?_eq_getElem hjl, Option.getD_some]
  refine s.new _ ?_
  rw [List.drop_left, List.getElem_append_right hge]
  exact List.getElem_mem _
theorem Since.below {ro : Nat} {ρ0 ρ : Rho} {W0 W : World} (s : Since ro ρ0 W0 ρ W) (h : ρ0.length ≤ ro) : RowKit.Below W0.heap.size W0 W :=
  ⟨s.fr.os, s.fr.tape, s.fr.output, s.fr.size, fun k hk => s.fr.same k hk (by
    rintro ⟨o, hm⟩
    rw [List.drop_eq_nil_of_le h] at hm
    cases hm)⟩
/-! ### A tree told short -/
def WT.map {α β : Type} (f : α → β) : WT α → WT β
  | .leaf a => .leaf (f a)
  | .node b t u => .node b (t.map f) (u.map f)
  | .both t u => .both (t.map f) (u.map f)
  | .stop => .stop
theorem WT.holds_of_map {α β : Type} {e : Env} {f : α → β} {Q : β → Prop} : ∀ {t : WT α}, (t.map f).holds e Q → t.holds e (fun a => Q (f a))
  | .leaf _, h => h
  | .node b t u, h => by
    simp only [WT.map, WT.holds] at h ⊢
    split at h
    · rename_i hb; rw [if_pos hb]; exact WT.holds_of_map h
    · rename_i hb; rw [if_neg hb]; exact WT.holds_of_map h
  | .both t u, h => ⟨WT.holds_of_map h.1, WT.holds_of_map h.2⟩
  | .stop, h => h
/-- How a piece ends, and what stands in some slots. -/
def slotsOf (l : List Nat) (q : XE × Tm × St) : XE × List SVal × Nat := (q.1, l.map q.2.1.get, q.2.1.n)
/-- A slot holds what is told of it. -/
theorem TmD.slot {e : Env} {ρ : Rho} {tm : Tm} {vs : List Value} (h : TmD e ρ tm vs) {t : Nat} {x : SVal} (hx : tm.get t = x) : x.D e ρ (vs.getD t undef) := by
  rw [← hx]; exact h.2 t
/-- Slots told one by one. -/
theorem TmD.of_list {e : Env} {ρ : Rho} {vs : List Value} {n : Nat} {l : List (Nat × SVal)} (hn : n = vs.length) (h : ∀ q ∈ l, q.2.D e ρ (vs.getD q.1 undef)) : TmD e ρ ⟨n, l, true⟩ vs := by
  refine ⟨hn, fun t => ?_⟩
  show SVal.D _ _ (tmFind true l t) _
  rcases tmFind_mem (l := l) (t := t) with hm | hm
  · rw [hm]; trivial
  · exact h _ hm
/-- An operation that gives a value and leaves the memory. -/
theorem wpList_value {P : Program} {ops : Array Oper} {Q : Exit → Act → World → Prop} {o : Oper} {r : List Oper} {a : Act} {W W' : World} {V : Value} (hg : o.guard = none) (hrun : (execOp a.eval o).run P W = .ok (.value V) W')
    (h : wpList P ops Q r (a.put o.dst V) W') : wpList P ops Q (o :: r) a W := by
  unfold wpList
  rw [if_pos (by simp [Region.wanted, hg])]
  left
  unfold Oper.wp
  rw [hrun, Oper.upon_value]
  exact h
end
end Go.Proofs.YtaijkkkgpgldbaaDoor.Sy
