/- A small symbolic executor for loop-free Go code, first part: expressions, what they stand for, ranges, decisions. -/
import Derived.WalkKit
import Derived.ProofKit
import Derived.Below
import Derived.KernelRfl
import Derived.DataShut
import Derived.OpenShut
namespace Go.Proofs.YtofphikiadiogaaDoor.Sy
set_option linter.unusedVariables false
set_option linter.unusedSimpArgs false
open Go

mutual
inductive IExp where
  | lit (n : Int)
  | var (k : IntKind) (i : Nat)
  | bin (op : BinOp) (k : IntKind) (x y : IExp)
  | conv (k : IntKind) (x : IExp)
  | sel (k : IntKind) (a : AExp) (i : IExp)
  | len (a : AExp)
  | fn (k : IntKind) (f j : Nat) (l : LExp)
  | bit (b : BExp)
inductive BExp where
  | lit (b : Bool)
  | var (i : Nat)
  | eq (x y : IExp)
  | lt (x y : IExp)
  | le (x y : IExp)
  | not (x : BExp)
  | beq (x y : BExp)
  | and (x y : BExp)
  | aeq (x y : AExp)
  | fn (f j : Nat) (l : LExp)
inductive AExp where
  | var (k : IntKind) (i : Nat)
  | upd (a : AExp) (i v : IExp)
  | nil
  | one (x : IExp)
  | cat (x y : AExp)
  | zeros (n : IExp)
  | sub (a : AExp) (i n : IExp)
  | cst (l : List Int)
  | fn (k : IntKind) (f j : Nat) (l : LExp)
inductive LExp where
  | nil
  | i (x : IExp) (l : LExp)
  | b (x : BExp) (l : LExp)
  | a (x : AExp) (l : LExp)
end

/-- What an uninterpreted function is handed. -/
inductive LV where
  | i (n : Int)
  | b (b : Bool)
  | a (l : List Int)

instance : Inhabited IExp := ⟨.lit 0⟩
instance : Inhabited BExp := ⟨.lit false⟩

structure Env where
  i : IntKind → Nat → Int
  b : Nat → Bool
  a : IntKind → Nat → List Int
  fi : IntKind → Nat → Nat → List LV → Int
  fb : Nat → Nat → List LV → Bool
  fa : IntKind → Nat → Nat → List LV → List Int
  v : Nat → Value
  /-- The blocks below base stand as these; of the first blocks of the map it is known which they are. -/
  base : Nat := 0
  h0 : Nat → Option Obj := fun _ => none
  fx : List (Nat × Nat × Nat) := []

/-- No list is longer. -/
def lenTop : Int := 9223372036854775807
def In (k : IntKind) (n : Int) : Prop := k.min ≤ n ∧ n ≤ k.max

structure EnvOk (e : Env) : Prop where
  i : ∀ k j, In k (e.i k j)
  a : ∀ k j x, x ∈ e.a k j → In k x
  al : ∀ k j, ((e.a k j).length : Int) ≤ lenTop
  fi : ∀ k f j l, In k (e.fi k f j l)
  fa : ∀ k f j l x, x ∈ e.fa k f j l → In k x
  fal : ∀ k f j l, ((e.fa k f j l).length : Int) ≤ lenTop

def binDen (op : BinOp) (k : IntKind) (x y : Int) : Int :=
  match op with
  | .add => k.wrap (x + y)
  | .sub => k.wrap (x - y)
  | .mul => k.wrap (x * y)
  | .quo => k.wrap (x.tdiv y)
  | .rem => x.tmod y
  | .and => bits .and k x y
  | .or => bits .or k x y
  | .xor => bits .xor k x y
  | .andNot => bits .andNot k x y
  | .shl => k.wrap (x * 2 ^ min y.toNat k.bits)
  | .shr => x.fdiv (2 ^ min y.toNat k.bits)
  | _ => 0

mutual
def IExp.den (e : Env) : IExp → Int
  | .lit n => n
  | .var k i => e.i k i
  | .bin op k x y => binDen op k (x.den e) (y.den e)
  | .conv k x => k.wrap (x.den e)
  | .sel _ a i => (a.den e).getD (i.den e).toNat 0
  | .len a => ((a.den e).length : Int)
  | .fn k f j l => e.fi k f j (l.den e)
  | .bit b => if b.den e = true then 1 else 0
def BExp.den (e : Env) : BExp → Bool
  | .lit b => b
  | .var i => e.b i
  | .eq x y => decide (x.den e = y.den e)
  | .lt x y => decide (x.den e < y.den e)
  | .le x y => decide (x.den e ≤ y.den e)
  | .not x => !(x.den e)
  | .beq x y => x.den e == y.den e
  | .and x y => x.den e && y.den e
  | .aeq x y => decide (x.den e = y.den e)
  | .fn f j l => e.fb f j (l.den e)
def AExp.den (e : Env) : AExp → List Int
  | .var k i => e.a k i
  | .upd a i v => (a.den e).set (i.den e).toNat (v.den e)
  | .nil => []
  | .one x => [x.den e]
  | .cat x y => x.den e ++ y.den e
  | .zeros n => List.replicate (n.den e).toNat 0
  | .sub a i n => ((a.den e).drop (i.den e).toNat).take (n.den e).toNat
  | .cst l => l
  | .fn k f j l => e.fa k f j (l.den e)
def LExp.den (e : Env) : LExp → List LV
  | .nil => []
  | .i x l => .i (x.den e) :: l.den e
  | .b x l => .b (x.den e) :: l.den e
  | .a x l => .a (x.den e) :: l.den e
end

theorem eqT {e : Env} {x y : IExp} (h : (BExp.eq x y).den e = true) : x.den e = y.den e := of_decide_eq_true (by simpa only [BExp.den] using h)
theorem eqF {e : Env} {x y : IExp} (h : (BExp.eq x y).den e = false) : ¬ x.den e = y.den e := of_decide_eq_false (by simpa only [BExp.den] using h)
theorem leT {e : Env} {x y : IExp} (h : (BExp.le x y).den e = true) : x.den e ≤ y.den e := of_decide_eq_true (by simpa only [BExp.den] using h)
theorem leF {e : Env} {x y : IExp} (h : (BExp.le x y).den e = false) : ¬ x.den e ≤ y.den e := of_decide_eq_false (by simpa only [BExp.den] using h)
theorem litD (e : Env) (n : Int) : (IExp.lit n).den e = n := by simp only [IExp.den]
theorem le_den {e : Env} {x y : IExp} : (BExp.le x y).den e = decide (x.den e ≤ y.den e) := by simp only [BExp.den]
theorem decide_same {p q : Prop} [Decidable p] [Decidable q] (h : p ↔ q) : decide p = decide q := decide_eq_decide.2 h
theorem not_decide_same {p q : Prop} [Decidable p] [Decidable q] (h : ¬ p ↔ q) : (!decide p) = decide q := by
  rw [← decide_not]; exact decide_eq_decide.2 h

/-! ### Same text -/
mutual
def IExp.same : IExp → IExp → Bool
  | .lit a, .lit b => decide (a = b)
  | .var k i, .var k' i' => decide (k = k') && Nat.beq i i'
  | .bin op k x y, .bin op' k' x' y' => decide (op = op') && decide (k = k') && x.same x' && y.same y'
  | .conv k x, .conv k' x' => decide (k = k') && x.same x'
  | .sel k a i, .sel k' a' i' => decide (k = k') && i.same i' && a.same a'
  | .len a, .len a' => a.same a'
  | .fn k f j l, .fn k' f' j' l' => decide (k = k') && Nat.beq f f' && Nat.beq j j' && l.same l'
  | .bit b, .bit b' => b.same b'
  | _, _ => false
def BExp.same : BExp → BExp → Bool
  | .lit a, .lit b => a == b
  | .var i, .var i' => Nat.beq i i'
  | .eq x y, .eq x' y' => x.same x' && y.same y'
  | .lt x y, .lt x' y' => x.same x' && y.same y'
  | .le x y, .le x' y' => x.same x' && y.same y'
  | .not x, .not x' => x.same x'
  | .beq x y, .beq x' y' => x.same x' && y.same y'
  | .and x y, .and x' y' => x.same x' && y.same y'
  | .aeq x y, .aeq x' y' => x.same x' && y.same y'
  | .fn f j l, .fn f' j' l' => Nat.beq f f' && Nat.beq j j' && l.same l'
  | _, _ => false
def AExp.same : AExp → AExp → Bool
  | .var k i, .var k' i' => decide (k = k') && Nat.beq i i'
  | .upd a i v, .upd a' i' v' => i.same i' && v.same v' && a.same a'
  | .nil, .nil => true
  | .one x, .one x' => x.same x'
  | .cat x y, .cat x' y' => x.same x' && y.same y'
  | .zeros n, .zeros n' => n.same n'
  | .sub a i n, .sub a' i' n' => i.same i' && n.same n' && a.same a'
  | .cst l, .cst l' => decide (l = l')
  | .fn k f j l, .fn k' f' j' l' => decide (k = k') && Nat.beq f f' && Nat.beq j j' && l.same l'
  | _, _ => false
def LExp.same : LExp → LExp → Bool
  | .nil, .nil => true
  | .i x l, .i x' l' => x.same x' && l.same l'
  | .b x l, .b x' l' => x.same x' && l.same l'
  | .a x l, .a x' l' => x.same x' && l.same l'
  | _, _ => false
end

mutual
theorem IExp.same_eq : ∀ (x y : IExp), x.same y = true → x = y
  | .lit a, y, h => by cases y <;> simp_all [IExp.same]
  | .var k i, y, h => by cases y <;> simp_all [IExp.same]
  | .bin op k x y, w, h => by
    cases w <;> simp [IExp.same] at h
    obtain ⟨⟨⟨h1, h2⟩, h3⟩, h4⟩ := h
    rw [h1, h2, IExp.same_eq x _ h3, IExp.same_eq y _ h4]
  | .conv k x, w, h => by
    cases w <;> simp [IExp.same] at h
    obtain ⟨h1, h2⟩ := h
    rw [h1, IExp.same_eq x _ h2]
  | .sel k a i, w, h => by
    cases w <;> simp [IExp.same] at h
    obtain ⟨⟨h1, h2⟩, h3⟩ := h
    rw [h1, AExp.same_eq a _ h3, IExp.same_eq i _ h2]
  | .len a, w, h => by
    cases w <;> simp [IExp.same] at h
    rw [AExp.same_eq a _ h]
  | .fn k f j l, w, h => by
    cases w <;> simp [IExp.same] at h
    obtain ⟨⟨⟨h1, h2⟩, h3⟩, h4⟩ := h
    rw [h1, h2, h3, LExp.same_eq l _ h4]
  | .bit b, w, h => by
    cases w <;> simp [IExp.same] at h
    rw [BExp.same_eq b _ h]
theorem BExp.same_eq : ∀ (x y : BExp), x.same y = true → x = y
  | .lit a, y, h => by cases y <;> simp_all [BExp.same]
  | .var i, y, h => by cases y <;> simp_all [BExp.same]
  | .eq x y, w, h => by
    cases w <;> simp [BExp.same] at h
    rw [IExp.same_eq x _ h.1, IExp.same_eq y _ h.2]
  | .lt x y, w, h => by
    cases w <;> simp [BExp.same] at h
    rw [IExp.same_eq x _ h.1, IExp.same_eq y _ h.2]
  | .le x y, w, h => by
    cases w <;> simp [BExp.same] at h
    rw [IExp.same_eq x _ h.1, IExp.same_eq y _ h.2]
  | .not x, w, h => by
    cases w <;> simp [BExp.same] at h
    rw [BExp.same_eq x _ h]
  | .beq x y, w, h => by
    cases w <;> simp [BExp.same] at h
    rw [BExp.same_eq x _ h.1, BExp.same_eq y _ h.2]
  | .and x y, w, h => by
    cases w <;> simp [BExp.same] at h
    rw [BExp.same_eq x _ h.1, BExp.same_eq y _ h.2]
  | .aeq x y, w, h => by
    cases w <;> simp [BExp.same] at h
    rw [AExp.same_eq x _ h.1, AExp.same_eq y _ h.2]
  | .fn f j l, w, h => by
    cases w <;> simp [BExp.same] at h
    obtain ⟨⟨h2, h3⟩, h4⟩ := h
    rw [h2, h3, LExp.same_eq l _ h4]
theorem AExp.same_eq : ∀ (x y : AExp), x.same y = true → x = y
  | .var k i, y, h => by cases y <;> simp_all [AExp.same]
  | .upd a i v, w, h => by
    cases w <;> simp [AExp.same] at h
    rw [AExp.same_eq a _ h.2, IExp.same_eq i _ h.1.1, IExp.same_eq v _ h.1.2]
  | .nil, w, h => by cases w <;> simp_all [AExp.same]
  | .one x, w, h => by
    cases w <;> simp [AExp.same] at h
    rw [IExp.same_eq x _ h]
  | .cat x y, w, h => by
    cases w <;> simp [AExp.same] at h
    rw [AExp.same_eq x _ h.1, AExp.same_eq y _ h.2]
  | .zeros n, w, h => by
    cases w <;> simp [AExp.same] at h
    rw [IExp.same_eq n _ h]
  | .sub a i n, w, h => by
    cases w <;> simp [AExp.same] at h
    rw [AExp.same_eq a _ h.2, IExp.same_eq i _ h.1.1, IExp.same_eq n _ h.1.2]
  | .cst l, w, h => by cases w <;> simp_all [AExp.same]
  | .fn k f j l, w, h => by
    cases w <;> simp [AExp.same] at h
    obtain ⟨⟨⟨h1, h2⟩, h3⟩, h4⟩ := h
    rw [h1, h2, h3, LExp.same_eq l _ h4]
theorem LExp.same_eq : ∀ (x y : LExp), x.same y = true → x = y
  | .nil, w, h => by cases w <;> simp_all [LExp.same]
  | .i x l, w, h => by
    cases w <;> simp [LExp.same] at h
    rw [IExp.same_eq x _ h.1, LExp.same_eq l _ h.2]
  | .b x l, w, h => by
    cases w <;> simp [LExp.same] at h
    rw [BExp.same_eq x _ h.1, LExp.same_eq l _ h.2]
  | .a x l, w, h => by
    cases w <;> simp [LExp.same] at h
    rw [AExp.same_eq x _ h.1, LExp.same_eq l _ h.2]
end

/-! ### Assumptions and ranges -/
abbrev Asm := List (BExp × Bool)
def AsmOk (e : Env) (as : Asm) : Prop := ∀ p ∈ as, p.1.den e = p.2

def inKind (k : IntKind) : Option (Int × Int) → Bool
  | some (l, h) => decide (k.min ≤ l) && decide (h ≤ k.max)
  | none => false
def kr (k : IntKind) : Option (Int × Int) := some (k.min, k.max)
def InR (n : Int) : Option (Int × Int) → Prop
  | some (l, h) => l ≤ n ∧ n ≤ h
  | none => True

theorem inKind_spec {k : IntKind} {r : Option (Int × Int)} {n : Int} (h : inKind k r = true) (hn : InR n r) : In k n := by
  cases r with
  | none => cases h
  | some p =>
    obtain ⟨l, u⟩ := p
    simp only [inKind, Bool.and_eq_true, decide_eq_true_eq] at h
    exact ⟨Int.le_trans h.1 hn.1, Int.le_trans hn.2 h.2⟩

theorem wrap_in (k : IntKind) (n : Int) : In k (k.wrap n) := by
  have h := wf_wrap k n
  rw [Lit.wf_int_iff] at h
  exact h
theorem wrap_id {k : IntKind} {n : Int} (h : In k n) : k.wrap n = n := by
  obtain ⟨h1, h2⟩ := h
  cases k <;> simp only [IntKind.min_i8, IntKind.max_i8, IntKind.min_i16, IntKind.max_i16, IntKind.min_i32, IntKind.max_i32, IntKind.min_i64, IntKind.max_i64, IntKind.min_u8, IntKind.max_u8, IntKind.min_u16, IntKind.max_u16, IntKind.min_u32, IntKind.max_u32, IntKind.min_u64, IntKind.max_u64] at h1 h2 <;>
    simp [IntKind.wrap, IntKind.bits, IntKind.signed] <;> omega

/-- One assumption, used on the range of x. -/
def tight1 (x : IExp) (r : Int × Int) (p : BExp × Bool) : Int × Int :=
  match p with
  | (.eq y (.lit n), b) => if y.same x then (if b then (max r.1 n, min r.2 n) else if r.1 == n then (n + 1, r.2) else if r.2 == n then (r.1, n - 1) else r) else r
  | (.le y (.lit n), b) => if y.same x then (if b then (r.1, min r.2 n) else (max r.1 (n + 1), r.2)) else r
  | _ => r
def tight (as : Asm) (x : IExp) (r : Int × Int) : Int × Int := as.foldl (tight1 x) r

theorem tight1_ok {e : Env} {x : IExp} {r : Int × Int} {p : BExp × Bool} (hp : p.1.den e = p.2) (hr : r.1 ≤ x.den e ∧ x.den e ≤ r.2) :
    (tight1 x r p).1 ≤ x.den e ∧ x.den e ≤ (tight1 x r p).2 := by
  obtain ⟨c, b⟩ := p
  unfold tight1
  split
  · rename_i y n b' heq
    cases heq
    split
    · rename_i hs
      have hs := IExp.same_eq _ _ hs
      subst hs
      cases b with
      | false =>
        have hp := eqF hp
        rw [litD] at hp
        rw [if_neg (by simp)]
        split
        · rename_i h1; simp at h1; omega
        · split
          · rename_i h1 h2; simp at h1 h2; omega
          · exact hr
      | true =>
        have hp := eqT hp
        rw [litD] at hp
        rw [if_pos rfl]; omega
    · exact hr
  · rename_i y n b' heq
    cases heq
    split
    · rename_i hs
      have hs := IExp.same_eq _ _ hs
      subst hs
      cases b with
      | false =>
        have hp := leF hp
        rw [litD] at hp
        rw [if_neg (by simp)]; omega
      | true =>
        have hp := leT hp
        rw [litD] at hp
        rw [if_pos rfl]; omega
    · exact hr
  · exact hr

theorem tight_ok {e : Env} {x : IExp} : ∀ (as : Asm) (r : Int × Int), AsmOk e as → r.1 ≤ x.den e ∧ x.den e ≤ r.2 → (tight as x r).1 ≤ x.den e ∧ x.den e ≤ (tight as x r).2
  | [], _, _, hr => hr
  | p :: as, r, h, hr => tight_ok as (tight1 x r p) (fun q hq => h q (List.mem_cons_of_mem _ hq)) (tight1_ok (h p List.mem_cons_self) hr)

def binRng (op : BinOp) (k : IntKind) (rx ry : Option (Int × Int)) : Option (Int × Int) :=
  match op, rx, ry with
  | .add, some (a, b), some (c, d) => if inKind k (some (a + c, b + d)) then some (a + c, b + d) else kr k
  | .sub, some (a, b), some (c, d) => if inKind k (some (a - d, b - c)) then some (a - d, b - c) else kr k
  | .mul, some (a, b), some (c, d) => if decide (0 ≤ a) && decide (0 ≤ c) && inKind k (some (a * c, b * d)) then some (a * c, b * d) else kr k
  | .rem, some (a, _), some (c, d) => if decide (0 ≤ a) && decide (0 < c) then some (0, d - 1) else none
  | .quo, some (a, b), some (c, d) => if decide (0 ≤ a) && decide (0 < c) && inKind k (some (0, b)) then (if c = d then some (a / c, b / c) else some (0, b)) else kr k
  | .shr, some (a, b), some (c, d) => if decide (0 ≤ a) then (if c = d then some (a / 2 ^ min c.toNat k.bits, b / 2 ^ min c.toNat k.bits) else some (0, b)) else none
  | .shr, some (a, b), none => if decide (0 ≤ a) then some (0, b) else none
  | .rem, _, _ => none
  | .shr, _, _ => none
  | .add, _, _ | .sub, _, _ | .mul, _, _ | .quo, _, _ | .and, _, _ | .or, _, _ | .xor, _, _ | .andNot, _, _ | .shl, _, _ => kr k
  | _, _, _ => none

theorem kr_ok {k : IntKind} {n : Int} (h : In k n) : InR n (kr k) := h

theorem binRng_ok {op : BinOp} {k : IntKind} {rx ry : Option (Int × Int)} {x y : Int} (hx : InR x rx) (hy : InR y ry) : InR (binDen op k x y) (binRng op k rx ry) := by
  unfold binRng
  split
  · split
    · rename_i a b c d h
      have hin : InR (x + y) (some (a + c, b + d)) := ⟨by have := hx.1; have := hy.1; omega, by have := hx.2; have := hy.2; omega⟩
      simp only [binDen, wrap_id (inKind_spec h hin)]; exact hin
    · exact wrap_in _ _
  · split
    · rename_i a b c d h
      have hin : InR (x - y) (some (a - d, b - c)) := ⟨by have := hx.1; have := hy.2; omega, by have := hx.2; have := hy.1; omega⟩
      simp only [binDen, wrap_id (inKind_spec h hin)]; exact hin
    · exact wrap_in _ _
  · split
    · rename_i a b c d h
      simp only [Bool.and_eq_true, decide_eq_true_eq] at h
      obtain ⟨⟨ha, hc⟩, h⟩ := h
      have hin : InR (x * y) (some (a * c, b * d)) := by
        obtain ⟨hx1, hx2⟩ := hx; obtain ⟨hy1, hy2⟩ := hy
        exact ⟨Int.mul_le_mul hx1 hy1 hc (by omega), Int.mul_le_mul hx2 hy2 (by omega) (by omega)⟩
      simp only [binDen, wrap_id (inKind_spec h hin)]; exact hin
    · exact wrap_in _ _
  · split
    · rename_i a b c d h
      simp only [Bool.and_eq_true, decide_eq_true_eq] at h
      obtain ⟨hx1, hx2⟩ := hx; obtain ⟨hy1, hy2⟩ := hy
      simp only [binDen]
      rw [Int.tmod_eq_emod_of_nonneg (by omega)]
      exact ⟨Int.emod_nonneg _ (by omega), by have := Int.emod_lt_of_pos x (show 0 < y by omega); omega⟩
    · trivial
  · split
    · rename_i a b c d h
      simp only [Bool.and_eq_true, decide_eq_true_eq] at h
      obtain ⟨⟨ha, hc⟩, h⟩ := h
      obtain ⟨hx1, hx2⟩ := hx; obtain ⟨hy1, hy2⟩ := hy
      have hin : InR (x.tdiv y) (some (0, b)) := by
        rw [Int.tdiv_eq_ediv_of_nonneg (by omega)]
        refine ⟨Int.ediv_nonneg (by omega) (by omega), ?_⟩
        have := Int.ediv_le_self y (show 0 ≤ x by omega); omega
      split
      · rename_i hcd
        subst hcd
        have hyc : y = c := by omega
        subst hyc
        simp only [binDen, wrap_id (inKind_spec h hin)]
        rw [Int.tdiv_eq_ediv_of_nonneg (by omega)]
        exact ⟨Int.ediv_le_ediv hc hx1, Int.ediv_le_ediv hc hx2⟩
      · simp only [binDen, wrap_id (inKind_spec h hin)]; exact hin
    · exact wrap_in _ _
  · split
    · rename_i a b c d h
      simp only [decide_eq_true_eq] at h
      obtain ⟨hx1, hx2⟩ := hx; obtain ⟨hy1, hy2⟩ := hy
      simp only [binDen]
      split
      · rename_i hcd
        subst hcd
        have hyc : y = c := by omega
        subst hyc
        have hp : (0 : Int) < 2 ^ min y.toNat k.bits := by exact_mod_cast Nat.two_pow_pos _
        rw [Int.fdiv_eq_ediv_of_nonneg _ (by omega)]
        exact ⟨Int.ediv_le_ediv hp hx1, Int.ediv_le_ediv hp hx2⟩
      · have hp : (0 : Int) < 2 ^ min y.toNat k.bits := by exact_mod_cast Nat.two_pow_pos _
        rw [Int.fdiv_eq_ediv_of_nonneg _ (by omega)]
        refine ⟨Int.ediv_nonneg (by omega) (by omega), ?_⟩
        have := Int.ediv_le_self (2 ^ min y.toNat k.bits) (show 0 ≤ x by omega); omega
    · trivial
  · split
    · rename_i a b h
      simp only [decide_eq_true_eq] at h
      obtain ⟨hx1, hx2⟩ := hx
      have hp : (0 : Int) < 2 ^ min y.toNat k.bits := by exact_mod_cast Nat.two_pow_pos _
      simp only [binDen]
      rw [Int.fdiv_eq_ediv_of_nonneg _ (by omega)]
      refine ⟨Int.ediv_nonneg (by omega) (by omega), ?_⟩
      have := Int.ediv_le_self (2 ^ min y.toNat k.bits) (show 0 ≤ x by omega); omega
    · trivial
  all_goals first | trivial | exact wrap_in _ _

/-- A fact between two texts, of which the other one's range is known. -/
def tight2 (g : IExp → Option (Int × Int)) (x : IExp) (r : Int × Int) (p : BExp × Bool) : Int × Int :=
  match p with
  | (.le y z, true) => if y.same x then (match g z with | some (_, u) => (r.1, min r.2 u) | none => r) else if z.same x then (match g y with | some (l, _) => (max r.1 l, r.2) | none => r) else r
  | (.lt y z, true) => if y.same x then (match g z with | some (_, u) => (r.1, min r.2 (u - 1)) | none => r) else if z.same x then (match g y with | some (l, _) => (max r.1 (l + 1), r.2) | none => r) else r
  | (.le y z, false) => if z.same x then (match g y with | some (_, u) => (r.1, min r.2 (u - 1)) | none => r) else if y.same x then (match g z with | some (l, _) => (max r.1 (l + 1), r.2) | none => r) else r
  | (.lt y z, false) => if z.same x then (match g y with | some (_, u) => (r.1, min r.2 u) | none => r) else if y.same x then (match g z with | some (l, _) => (max r.1 l, r.2) | none => r) else r
  | (.eq y z, true) => if y.same x then (match g z with | some (l, u) => (max r.1 l, min r.2 u) | none => r) else if z.same x then (match g y with | some (l, u) => (max r.1 l, min r.2 u) | none => r) else r
  | _ => r
def tightG (g : IExp → Option (Int × Int)) (as : Asm) (x : IExp) (r : Int × Int) : Int × Int := as.foldl (tight2 g x) (tight as x r)
theorem ltT {e : Env} {x y : IExp} (h : (BExp.lt x y).den e = true) : x.den e < y.den e := of_decide_eq_true (by simpa only [BExp.den] using h)
theorem ltF {e : Env} {x y : IExp} (h : (BExp.lt x y).den e = false) : ¬ x.den e < y.den e := of_decide_eq_false (by simpa only [BExp.den] using h)
theorem tight2_ok {e : Env} {g : IExp → Option (Int × Int)} (hg : ∀ z, InR (z.den e) (g z)) {x : IExp} {r : Int × Int} {p : BExp × Bool} (hp : p.1.den e = p.2) (hr : r.1 ≤ x.den e ∧ x.den e ≤ r.2) :
    (tight2 g x r p).1 ≤ x.den e ∧ x.den e ≤ (tight2 g x r p).2 := by
  obtain ⟨c, b⟩ := p
  unfold tight2
  split
  all_goals first
    | exact hr
    | (rename_i y z heq
       cases heq
       have f : (y.den e ≤ z.den e ∨ True) := .inr trivial
       split
       · rename_i hs
         have hs := IExp.same_eq _ _ hs
         subst hs
         have h1 := hg z
         split
         · rename_i u hz
           rw [hz] at h1
           obtain ⟨g1, g2⟩ := h1
           first
             | (have hp := leT hp; constructor <;> simp only <;> omega)
             | (have hp := ltT hp; constructor <;> simp only <;> omega)
             | (have hp := leF hp; constructor <;> simp only <;> omega)
             | (have hp := ltF hp; constructor <;> simp only <;> omega)
             | (have hp := eqT hp; constructor <;> simp only <;> omega)
         · exact hr
       · split
         · rename_i hs
           have hs := IExp.same_eq _ _ hs
           subst hs
           have h1 := hg y
           split
           · rename_i u hz
             rw [hz] at h1
             obtain ⟨g1, g2⟩ := h1
             first
               | (have hp := leT hp; constructor <;> simp only <;> omega)
               | (have hp := ltT hp; constructor <;> simp only <;> omega)
               | (have hp := leF hp; constructor <;> simp only <;> omega)
               | (have hp := ltF hp; constructor <;> simp only <;> omega)
               | (have hp := eqT hp; constructor <;> simp only <;> omega)
           · exact hr
         · exact hr)
    | (rename_i y z heq
       cases heq
       split
       · rename_i hs
         have hs := IExp.same_eq _ _ hs
         subst hs
         have h1 := hg y
         split
         · rename_i u hz
           rw [hz] at h1
           obtain ⟨g1, g2⟩ := h1
           first
             | (have hp := leF hp; constructor <;> simp only <;> omega)
             | (have hp := ltF hp; constructor <;> simp only <;> omega)
         · exact hr
       · split
         · rename_i hs
           have hs := IExp.same_eq _ _ hs
           subst hs
           have h1 := hg z
           split
           · rename_i u hz
             rw [hz] at h1
             obtain ⟨g1, g2⟩ := h1
             first
               | (have hp := leF hp; constructor <;> simp only <;> omega)
               | (have hp := ltF hp; constructor <;> simp only <;> omega)
           · exact hr
         · exact hr)
theorem tightG_ok {e : Env} {g : IExp → Option (Int × Int)} (hg : ∀ z, InR (z.den e) (g z)) {x : IExp} (as : Asm) (r : Int × Int) (h : AsmOk e as) (hr : r.1 ≤ x.den e ∧ x.den e ≤ r.2) : (tightG g as x r).1 ≤ x.den e ∧ x.den e ≤ (tightG g as x r).2 := by
  have key : ∀ (l : Asm) (q : Int × Int), (∀ p ∈ l, p.1.den e = p.2) → q.1 ≤ x.den e ∧ x.den e ≤ q.2 → (l.foldl (tight2 g x) q).1 ≤ x.den e ∧ x.den e ≤ (l.foldl (tight2 g x) q).2 := by
    intro l
    induction l with
    | nil => intro q _ hq; exact hq
    | cons p l ih => intro q hl hq; exact ih _ (fun p' hp' => hl p' (List.mem_cons_of_mem _ hp')) (tight2_ok hg (hl p List.mem_cons_self) hq)
  exact key as _ h (tight_ok as r h hr)
mutual
def IExp.rngG (g : IExp → Option (Int × Int)) (as : Asm) : IExp → Option (Int × Int)
  | .lit n => some (n, n)
  | .var k i => some (tightG g as (.var k i) (k.min, k.max))
  | .bin op k x y => match binRng op k (x.rngG g as) (y.rngG g as) with
    | some r => some (tightG g as (.bin op k x y) r)
    | none => none
  | .conv k x => match (if inKind k (x.rngG g as) then x.rngG g as else kr k) with
    | some r => some (tightG g as (.conv k x) r)
    | none => none
  | .sel k a i => if a.inKG g as k then some (tightG g as (.sel k a i) (k.min, k.max)) else none
  | .len a => match a.lenRG g as with
    | some r => some (tightG g as (.len a) r)
    | none => none
  | .fn k f j l => some (tightG g as (.fn k f j l) (k.min, k.max))
  | .bit _ => some (0, 1)
def AExp.inKG (g : IExp → Option (Int × Int)) (as : Asm) (k : IntKind) : AExp → Bool
  | .var k' _ => decide (k' = k)
  | .upd a _ v => a.inKG g as k && inKind k (v.rngG g as)
  | .nil => true
  | .one x => inKind k (x.rngG g as)
  | .cat x y => x.inKG g as k && y.inKG g as k
  | .zeros _ => true
  | .sub a _ _ => a.inKG g as k
  | .cst l => l.all fun n => inKind k (some (n, n))
  | .fn k' _ _ _ => decide (k' = k)
def AExp.lenRG (g : IExp → Option (Int × Int)) (as : Asm) : AExp → Option (Int × Int)
  | .var k i => some (tightG g as (.len (.var k i)) (0, lenTop))
  | .upd a _ _ => a.lenRG g as
  | .nil => some (0, 0)
  | .one _ => some (1, 1)
  | .cat x y => match x.lenRG g as, y.lenRG g as with
    | some (a, b), some (c, d) => some (a + c, b + d)
    | _, _ => none
  | .zeros n => match n.rngG g as with
    | some (a, b) => some (max a 0, max b 0)
    | none => none
  | .sub _ _ n => match n.rngG g as with
    | some (_, b) => some (0, max b 0)
    | none => none
  | .cst l => some (l.length, l.length)
  | .fn k f j l => some (tightG g as (.len (.fn k f j l)) (0, lenTop))
end

theorem zero_in (k : IntKind) : In k 0 := by cases k <;> exact ⟨by decide, by decide⟩

mutual
theorem IExp.rngG_ok {e : Env} (ok : EnvOk e) {as : Asm} (ha : AsmOk e as) {g : IExp → Option (Int × Int)} (hg : ∀ z, InR (z.den e) (g z)) : ∀ (x : IExp), InR (x.den e) (x.rngG g as)
  | .lit n => ⟨Int.le_refl _, Int.le_refl _⟩
  | .var k i => by
    simp only [IExp.rngG]
    exact tightG_ok hg (x := .var k i) as _ ha (ok.i k i)
  | .bin op k x y => by
    have hx := IExp.rngG_ok ok ha hg x
    have hy := IExp.rngG_ok ok ha hg y
    have h := binRng_ok (op := op) (k := k) hx hy
    simp only [IExp.rngG]
    split
    · rename_i r hr
      rw [hr] at h
      exact tightG_ok hg (x := .bin op k x y) as r ha h
    · trivial
  | .conv k x => by
    have hx := IExp.rngG_ok ok ha hg x
    simp only [IExp.rngG]
    split
    · rename_i r hr
      refine tightG_ok hg (x := .conv k x) as r ha ?_
      split at hr
      · rename_i hk
        rw [hr] at hx hk
        simp only [IExp.den, wrap_id (inKind_spec hk hx)]; exact hx
      · cases hr; exact wrap_in _ _
    · trivial
  | .sel k a i => by
    have h := AExp.inKG_ok ok ha hg k a
    simp only [IExp.rngG]
    split
    · rename_i hk
      refine tightG_ok hg (x := .sel k a i) as _ ha ?_
      show In k _
      simp only [IExp.den]
      rw [List.getD_eq_getElem?_getD]
      cases hg : (a.den e)[(i.den e).toNat]? with
      | none => exact zero_in k
      | some v => exact h hk v (List.mem_of_getElem? hg)
    · trivial
  | .len a => by
    have h := AExp.lenRG_ok ok ha hg a
    simp only [IExp.rngG]
    split
    · rename_i r hr
      rw [hr] at h
      exact tightG_ok hg (x := .len a) as r ha h
    · trivial
  | .fn k f j l => by
    simp only [IExp.rngG]
    exact tightG_ok hg (x := .fn k f j l) as _ ha (ok.fi _ _ _ _)
  | .bit b => by
    simp only [IExp.rngG, IExp.den, InR]
    split <;> exact ⟨by omega, by omega⟩
theorem AExp.inKG_ok {e : Env} (ok : EnvOk e) {as : Asm} (ha : AsmOk e as) {g : IExp → Option (Int × Int)} (hg : ∀ z, InR (z.den e) (g z)) (k : IntKind) : ∀ (a : AExp), a.inKG g as k = true → ∀ x ∈ a.den e, In k x
  | .var k' i => by
    intro h x hx
    simp only [AExp.inKG, decide_eq_true_eq] at h
    subst h
    exact ok.a _ _ _ hx
  | .upd a i v => by
    intro h x hx
    simp only [AExp.inKG, Bool.and_eq_true] at h
    simp only [AExp.den] at hx
    rcases List.mem_or_eq_of_mem_set hx with hx | rfl
    · exact AExp.inKG_ok ok ha hg k a h.1 x hx
    · exact inKind_spec h.2 (IExp.rngG_ok ok ha hg v)
  | .nil => by
    intro h x hx
    simp only [AExp.den] at hx
    cases hx
  | .one y => by
    intro h x hx
    simp only [AExp.inKG] at h
    simp only [AExp.den, List.mem_singleton] at hx
    subst hx
    exact inKind_spec h (IExp.rngG_ok ok ha hg y)
  | .cat y z => by
    intro h x hx
    simp only [AExp.inKG, Bool.and_eq_true] at h
    simp only [AExp.den, List.mem_append] at hx
    rcases hx with hx | hx
    · exact AExp.inKG_ok ok ha hg k y h.1 x hx
    · exact AExp.inKG_ok ok ha hg k z h.2 x hx
  | .zeros n => by
    intro h x hx
    simp only [AExp.den] at hx
    rw [List.eq_of_mem_replicate hx]
    exact zero_in k
  | .sub a i n => by
    intro h x hx
    simp only [AExp.inKG] at h
    simp only [AExp.den] at hx
    exact AExp.inKG_ok ok ha hg k a h x (List.mem_of_mem_drop (List.mem_of_mem_take hx))
  | .cst l => by
    intro h x hx
    simp only [AExp.inKG, List.all_eq_true] at h
    simp only [AExp.den] at hx
    exact inKind_spec (h x hx) ⟨Int.le_refl _, Int.le_refl _⟩
  | .fn k' f j l => by
    intro h x hx
    simp only [AExp.inKG, decide_eq_true_eq] at h
    subst h
    exact ok.fa _ _ _ _ _ hx
theorem AExp.lenRG_ok {e : Env} (ok : EnvOk e) {as : Asm} (ha : AsmOk e as) {g : IExp → Option (Int × Int)} (hg : ∀ z, InR (z.den e) (g z)) : ∀ (a : AExp), InR ((a.den e).length : Int) (a.lenRG g as)
  | .var k i => tightG_ok hg (x := .len (.var k i)) as _ ha ⟨Int.natCast_nonneg _, ok.al k i⟩
  | .upd a i v => by
    have h := AExp.lenRG_ok ok ha hg a
    simp only [AExp.lenRG, AExp.den, List.length_set]
    exact h
  | .nil => ⟨Int.le_refl _, Int.le_refl _⟩
  | .one _ => ⟨Int.le_refl _, Int.le_refl _⟩
  | .cat x y => by
    have hx := AExp.lenRG_ok ok ha hg x
    have hy := AExp.lenRG_ok ok ha hg y
    simp only [AExp.lenRG]
    split
    · rename_i a b c d h1 h2
      rw [h1] at hx; rw [h2] at hy
      simp only [AExp.den, List.length_append]
      obtain ⟨hx1, hx2⟩ := hx; obtain ⟨hy1, hy2⟩ := hy
      exact ⟨by omega, by omega⟩
    · trivial
  | .zeros n => by
    have hn := IExp.rngG_ok ok ha hg n
    simp only [AExp.lenRG]
    split
    · rename_i a b h1
      rw [h1] at hn
      obtain ⟨h1, h2⟩ := hn
      simp only [AExp.den, List.length_replicate]
      exact ⟨by omega, by omega⟩
    · trivial
  | .sub a i n => by
    have hn := IExp.rngG_ok ok ha hg n
    simp only [AExp.lenRG]
    split
    · rename_i a b h1
      rw [h1] at hn
      obtain ⟨h1, h2⟩ := hn
      simp only [AExp.den, List.length_take]
      exact ⟨by omega, by omega⟩
    · trivial
  | .cst l => ⟨Int.le_refl _, Int.le_refl _⟩
  | .fn k f j l => tightG_ok hg (x := .len (.fn k f j l)) as _ ha ⟨Int.natCast_nonneg _, ok.fal _ _ _ _⟩
end

/-- Ranges: a fact between two texts is used once. -/
def noG : IExp → Option (Int × Int) := fun _ => none
def IExp.rng (as : Asm) (x : IExp) : Option (Int × Int) := x.rngG (IExp.rngG noG as) as
def AExp.inK (as : Asm) (k : IntKind) (a : AExp) : Bool := a.inKG (IExp.rngG noG as) as k
def AExp.lenR (as : Asm) (a : AExp) : Option (Int × Int) := a.lenRG (IExp.rngG noG as) as
theorem noG_ok {e : Env} : ∀ z : IExp, InR (z.den e) (noG z) := fun _ => trivial
theorem IExp.rng_ok {e : Env} (ok : EnvOk e) {as : Asm} (ha : AsmOk e as) (x : IExp) : InR (x.den e) (x.rng as) := IExp.rngG_ok ok ha (fun z => IExp.rngG_ok ok ha noG_ok z) x
theorem AExp.inK_ok {e : Env} (ok : EnvOk e) {as : Asm} (ha : AsmOk e as) (k : IntKind) (a : AExp) : a.inK as k = true → ∀ x ∈ a.den e, In k x := AExp.inKG_ok ok ha (fun z => IExp.rngG_ok ok ha noG_ok z) k a
theorem AExp.lenR_ok {e : Env} (ok : EnvOk e) {as : Asm} (ha : AsmOk e as) (a : AExp) : InR ((a.den e).length : Int) (a.lenR as) := AExp.lenRG_ok ok ha (fun z => IExp.rngG_ok ok ha noG_ok z) a

/-! ### Decisions -/
def lookup (as : Asm) (b : BExp) : Option Bool :=
  match as with
  | [] => none
  | (c, v) :: r => if c.same b then some v else lookup r b

def leR : Option (Int × Int) → Option (Int × Int) → Option Bool
  | some (a, b), some (c, d) => if decide (b ≤ c) then some true else if decide (d < a) then some false else none
  | _, _ => none
def ltR : Option (Int × Int) → Option (Int × Int) → Option Bool
  | some (a, b), some (c, d) => if decide (b < c) then some true else if decide (d ≤ a) then some false else none
  | _, _ => none
def eqR : Option (Int × Int) → Option (Int × Int) → Option Bool
  | some (a, b), some (c, d) => if decide (b < c) || decide (d < a) then some false else if decide (a = b) && decide (c = d) && decide (a = c) then some true else none
  | _, _ => none

/-! ### Straight lines: a text less a number -/
def isLit : IExp → Option Int
  | .lit n => some n
  | _ => none
def isZ : IExp → Bool
  | .lit n => decide (n = 0)
  | _ => false
theorem isZ_eq {x : IExp} (h : isZ x = true) : x = .lit 0 := by
  unfold isZ at h
  split at h
  · rw [of_decide_eq_true h]
  · cases h
theorem isLit_eq {x : IExp} {n : Int} (h : isLit x = some n) : x = .lit n := by cases x <;> simp_all [isLit]
def addR (c : Int) : Option (Int × Int) → Option (Int × Int)
  | some (a, b) => some (a + c, b + c)
  | none => none
theorem addR_ok {n c : Int} {r : Option (Int × Int)} (h : InR n r) : InR (n + c) (addR c r) := by
  cases r with
  | none => trivial
  | some p => obtain ⟨h1, h2⟩ := h; exact ⟨by simp; omega, by simp; omega⟩
def split (as : Asm) : IExp → IExp × Int
  | .lit n => (.lit 0, n)
  | .bin .add k x y => match isLit y with
    | some c => if inKind k (addR c (x.rng as)) then (match split as x with | (b, d) => (b, d + c)) else (.bin .add k x y, 0)
    | none => (.bin .add k x y, 0)
  | x => (x, 0)
theorem split_ok {e : Env} (ok : EnvOk e) {as : Asm} (ha : AsmOk e as) : ∀ (x : IExp), x.den e = (split as x).1.den e + (split as x).2
  | .lit n => by simp [split, IExp.den]
  | .bin op k x y => by
    cases op
    case add =>
      simp only [split]
      split
      · rename_i c hc
        have := isLit_eq hc
        subst this
        split
        · rename_i hk
          have h := split_ok ok ha x
          have hr := addR_ok (c := c) (IExp.rng_ok ok ha x)
          have e1 : (IExp.bin .add k x (.lit c)).den e = x.den e + c := by
            simp only [IExp.den, binDen]
            exact wrap_id (inKind_spec hk hr)
          rw [e1, h]
          simp only; omega
        · simp
      · simp
    all_goals simp [split]
  | .var k i => by simp [split]
  | .conv k x => by simp [split]
  | .sel k a i => by simp [split]
  | .len a => by simp [split]
  | .fn k f j l => by simp [split]
  | .bit b => by simp [split]

/-- What a fact tells: texts a, b and a number n with a - b ≤ n. -/
def edges (as : Asm) (p : BExp × Bool) : List (IExp × IExp × Int) :=
  match p with
  | (.lt x y, true) => edge x y (-1)
  | (.lt x y, false) => edge y x 0
  | (.le x y, true) => edge x y 0
  | (.le x y, false) => edge y x (-1)
  | (.eq x y, true) => edge x y 0 ++ edge y x 0
  | _ => []
where edge (x y : IExp) (k : Int) : List (IExp × IExp × Int) := match split as x, split as y with
  | (a, c), (b, d) => [(a, b, k - c + d)]
theorem edges_ok {e : Env} (ok : EnvOk e) {as : Asm} (ha : AsmOk e as) {p : BExp × Bool} (hp : p.1.den e = p.2) : ∀ q ∈ edges as p, q.1.den e - q.2.1.den e ≤ q.2.2 := by
  have key : ∀ x y k, x.den e - y.den e ≤ k → ∀ q ∈ edges.edge as x y k, q.1.den e - q.2.1.den e ≤ q.2.2 := by
    intro x y k h q hq
    have hx := split_ok ok ha x
    have hy := split_ok ok ha y
    unfold edges.edge at hq
    simp only [List.mem_singleton] at hq
    subst hq
    simp only; omega
  obtain ⟨b, v⟩ := p
  simp only at hp
  intro q hq
  unfold edges at hq
  split at hq
  · rename_i x y h
    cases h
    simp only [BExp.den, decide_eq_true_eq] at hp
    exact key x y (-1) (by omega) q hq
  · rename_i x y h
    cases h
    simp only [BExp.den, decide_eq_false_iff_not] at hp
    exact key y x 0 (by omega) q hq
  · rename_i x y h
    cases h
    simp only [BExp.den, decide_eq_true_eq] at hp
    exact key x y 0 (by omega) q hq
  · rename_i x y h
    cases h
    simp only [BExp.den, decide_eq_false_iff_not] at hp
    exact key y x (-1) (by omega) q hq
  · rename_i x y h
    cases h
    simp only [BExp.den, decide_eq_true_eq] at hp
    rcases List.mem_append.1 hq with hq | hq
    · exact key x y 0 (by omega) q hq
    · exact key y x 0 (by omega) q hq
  · cases hq
def under (t : Int) : Option (Int × Int) → Option (Int × Int) → Bool
  | some (_, b), some (c, _) => decide (b - c ≤ t)
  | _, _ => false
/-- a - b ≤ t, by at most so many facts. -/
def lin (as : Asm) : Nat → IExp → IExp → Int → Bool
  | 0, a, b, t => (a.same b && decide (0 ≤ t)) || under t (a.rng as) (b.rng as)
  | d + 1, a, b, t => (a.same b && decide (0 ≤ t)) || as.any fun p => (edges as p).any fun q => q.1.same a && lin as d q.2.1 b (t - q.2.2)
theorem lin_ok {e : Env} (ok : EnvOk e) {as : Asm} (ha : AsmOk e as) : ∀ {d : Nat} {a b : IExp} {t : Int}, lin as d a b t = true → a.den e - b.den e ≤ t
  | 0, a, b, t, h => by
    simp only [lin, Bool.or_eq_true, Bool.and_eq_true, decide_eq_true_eq] at h
    rcases h with ⟨h1, h2⟩ | h
    · rw [IExp.same_eq _ _ h1]; omega
    · have hx := IExp.rng_ok ok ha a
      have hy := IExp.rng_ok ok ha b
      unfold under at h
      split at h
      · rename_i l u l2 u2 h1 h2
        rw [h1] at hx; rw [h2] at hy
        simp only [decide_eq_true_eq] at h
        have := hx.2
        have := hy.1
        omega
      · cases h
  | d + 1, a, b, t, h => by
    simp only [lin, Bool.or_eq_true, Bool.and_eq_true, decide_eq_true_eq] at h
    rcases h with ⟨h1, h2⟩ | h
    · rw [IExp.same_eq _ _ h1]; omega
    · obtain ⟨p, hp, h⟩ := List.any_eq_true.1 h
      obtain ⟨q, hq, h⟩ := List.any_eq_true.1 h
      simp only [Bool.and_eq_true] at h
      have h1 := edges_ok ok ha (ha p hp) q hq
      have h2 := lin_ok ok ha h.2
      rw [IExp.same_eq _ _ h.1] at h1
      omega
theorem under_ok {x y t : Int} {r q : Option (Int × Int)} (h : under t r q = true) (hx : InR x r) (hy : InR y q) : x - y ≤ t := by
  unfold under at h
  split at h
  · simp only [decide_eq_true_eq] at h
    have := hx.2
    have := hy.1
    omega
  · cases h
/-- Likewise where b's range, or a's, is what helps. -/
def linL (as : Asm) : Nat → IExp → IExp → Int → Bool
  | 0, a, b, t => under t (a.rng as) (b.rng as)
  | d + 1, a, b, t => under t (a.rng as) (b.rng as) || as.any fun p => (edges as p).any fun q => q.1.same a && linL as d q.2.1 b (t - q.2.2)
theorem linL_ok {e : Env} (ok : EnvOk e) {as : Asm} (ha : AsmOk e as) : ∀ {d : Nat} {a b : IExp} {t : Int}, linL as d a b t = true → a.den e - b.den e ≤ t
  | 0, a, b, t, h => under_ok h (IExp.rng_ok ok ha a) (IExp.rng_ok ok ha b)
  | d + 1, a, b, t, h => by
    simp only [linL, Bool.or_eq_true] at h
    rcases h with h | h
    · exact under_ok h (IExp.rng_ok ok ha a) (IExp.rng_ok ok ha b)
    · obtain ⟨p, hp, h⟩ := List.any_eq_true.1 h
      obtain ⟨q, hq, h⟩ := List.any_eq_true.1 h
      simp only [Bool.and_eq_true] at h
      have h1 := edges_ok ok ha (ha p hp) q hq
      have h2 := linL_ok ok ha h.2
      rw [IExp.same_eq _ _ h.1] at h1
      omega
def linR (as : Asm) : Nat → IExp → IExp → Int → Bool
  | 0, a, b, t => under t (a.rng as) (b.rng as)
  | d + 1, a, b, t => under t (a.rng as) (b.rng as) || as.any fun p => (edges as p).any fun q => q.2.1.same b && linR as d a q.1 (t - q.2.2)
theorem linR_ok {e : Env} (ok : EnvOk e) {as : Asm} (ha : AsmOk e as) : ∀ {d : Nat} {a b : IExp} {t : Int}, linR as d a b t = true → a.den e - b.den e ≤ t
  | 0, a, b, t, h => under_ok h (IExp.rng_ok ok ha a) (IExp.rng_ok ok ha b)
  | d + 1, a, b, t, h => by
    simp only [linR, Bool.or_eq_true] at h
    rcases h with h | h
    · exact under_ok h (IExp.rng_ok ok ha a) (IExp.rng_ok ok ha b)
    · obtain ⟨p, hp, h⟩ := List.any_eq_true.1 h
      obtain ⟨q, hq, h⟩ := List.any_eq_true.1 h
      simp only [Bool.and_eq_true] at h
      have h1 := edges_ok ok ha (ha p hp) q hq
      have h2 := linR_ok ok ha h.2
      rw [IExp.same_eq _ _ h.1] at h1
      omega
/-- x + n ≤ y, for two texts of which one at least is no number. -/
def leLin (as : Asm) (x : IExp) (n : Int) (y : IExp) : Bool :=
  match isLit x, isLit y with
  | none, none => match split as x, split as y with
    | (a, c), (b, d) => lin as 3 a b (d - c - n)
  | none, some _ => match split as x, split as y with
    | (a, c), (b, d) => linL as 2 a b (d - c - n)
  | some _, none => match split as x, split as y with
    | (a, c), (b, d) => linR as 2 a b (d - c - n)
  | _, _ => false
theorem leLin_ok {e : Env} (ok : EnvOk e) {as : Asm} (ha : AsmOk e as) {x y : IExp} {n : Int} (h : leLin as x n y = true) : x.den e + n ≤ y.den e := by
  unfold leLin at h
  have hx := split_ok ok ha x
  have hy := split_ok ok ha y
  split at h
  · have h := lin_ok ok ha h
    omega
  · have h := linL_ok ok ha h
    omega
  · have h := linR_ok ok ha h
    omega
  · cases h
abbrev Lc := List (IExp × Int)
def lcSum (e : Env) : Lc → Int
  | [] => 0
  | (a, k) :: r => k * a.den e + lcSum e r
def lcAdd1 (a : IExp) (k : Int) : Lc → Lc
  | [] => if k = 0 then [] else [(a, k)]
  | (b, m) :: r => if a.same b = true then (if k + m = 0 then r else (b, k + m) :: r) else (b, m) :: lcAdd1 a k r
theorem lcAdd1_sum (e : Env) (a : IExp) (k : Int) : ∀ (l : Lc), lcSum e (lcAdd1 a k l) = k * a.den e + lcSum e l
  | [] => by
    simp only [lcAdd1]
    split
    · rename_i h; rw [h]; simp [lcSum]
    · simp [lcSum]
  | (b, m) :: r => by
    simp only [lcAdd1]
    split
    · rename_i h
      have h := IExp.same_eq _ _ h
      subst h
      split
      · rename_i h0
        simp only [lcSum]
        rw [← Int.add_assoc, ← Int.add_mul, h0, Int.zero_mul, Int.zero_add]
      · simp only [lcSum]
        rw [← Int.add_assoc, ← Int.add_mul]
    · simp only [lcSum, lcAdd1_sum e a k r]
      omega
/-- s times the one, and the other. -/
def lcAdd (s : Int) : Lc → Lc → Lc
  | [], m => m
  | (a, k) :: r, m => lcAdd s r (lcAdd1 a (s * k) m)
theorem lcAdd_sum (e : Env) (s : Int) : ∀ (l m : Lc), lcSum e (lcAdd s l m) = s * lcSum e l + lcSum e m
  | [], m => by simp [lcAdd, lcSum]
  | (a, k) :: r, m => by
    simp only [lcAdd, lcAdd_sum e s r, lcAdd1_sum, lcSum]
    rw [Int.mul_add, Int.mul_assoc]
    omega
/-- A sum, told exactly. -/
def subR2 : Option (Int × Int) → Option (Int × Int) → Option (Int × Int)
  | some (a, b), some (c, d) => some (a - d, b - c)
  | _, _ => none
theorem subR2_ok {x y : Int} {r q : Option (Int × Int)} (hx : InR x r) (hy : InR y q) : InR (x - y) (subR2 r q) := by
  unfold subR2
  split
  · obtain ⟨h1, h2⟩ := hx; obtain ⟨h3, h4⟩ := hy
    exact ⟨by omega, by omega⟩
  · trivial
def plusR2 : Option (Int × Int) → Option (Int × Int) → Option (Int × Int)
  | some (a, b), some (c, d) => some (a + c, b + d)
  | _, _ => none
theorem plusR2_ok {x y : Int} {r q : Option (Int × Int)} (hx : InR x r) (hy : InR y q) : InR (x + y) (plusR2 r q) := by
  unfold plusR2
  split
  · obtain ⟨h1, h2⟩ := hx; obtain ⟨h3, h4⟩ := hy
    exact ⟨by omega, by omega⟩
  · trivial
def timesR (n : Int) : Option (Int × Int) → Option (Int × Int)
  | some (a, b) => if 0 ≤ n then some (a * n, b * n) else none
  | none => none
theorem timesR_ok {x n : Int} {r : Option (Int × Int)} (hx : InR x r) (h : timesR n r ≠ none) : InR (x * n) (timesR n r) := by
  unfold timesR at h ⊢
  split
  · split
    · rename_i hn
      obtain ⟨h1, h2⟩ := hx
      exact ⟨Int.mul_le_mul_of_nonneg_right h1 hn, Int.mul_le_mul_of_nonneg_right h2 hn⟩
    · trivial
  · trivial
def lcX (as : Asm) : IExp → Lc × Int
  | .lit n => ([], n)
  | .bin .add .i64 x y => if inKind .i64 (plusR2 (x.rng as) (y.rng as)) = true then (lcAdd 1 (lcX as x).1 (lcX as y).1, (lcX as x).2 + (lcX as y).2) else ([(.bin .add .i64 x y, 1)], 0)
  | .bin .sub .i64 x y => if inKind .i64 (subR2 (x.rng as) (y.rng as)) = true then (lcAdd (-1) (lcX as y).1 (lcX as x).1, (lcX as x).2 - (lcX as y).2) else ([(.bin .sub .i64 x y, 1)], 0)
  | .bin .mul .i64 x (.lit n) => if inKind .i64 (timesR n (x.rng as)) = true then (lcAdd n (lcX as x).1 [], n * (lcX as x).2) else ([(.bin .mul .i64 x (.lit n), 1)], 0)
  | .conv .i64 x => if inKind .i64 (x.rng as) = true then lcX as x else ([(.conv .i64 x, 1)], 0)
  | x => ([(x, 1)], 0)
section lcX
variable {e : Env} (ok : EnvOk e) {as : Asm} (ha : AsmOk e as)
theorem lcX_self (x : IExp) : x.den e = lcSum e [(x, 1)] + 0 := by simp [lcSum]
include ok ha in
theorem lcX_ok : ∀ (x : IExp), x.den e = lcSum e (lcX as x).1 + (lcX as x).2
  | .lit n => by simp [lcX, lcSum, IExp.den]
  | .bin op k x y => by
    by_cases h : op = .add ∧ k = .i64
    · obtain ⟨rfl, rfl⟩ := h
      simp only [lcX]
      split
      · rename_i hk
        have h1 := inKind_spec hk (plusR2_ok (IExp.rng_ok ok ha x) (IExp.rng_ok ok ha y))
        simp only [IExp.den, binDen, wrap_id h1, lcAdd_sum]
        rw [lcX_ok x, lcX_ok y]
        omega
      · exact lcX_self _
    · by_cases h : op = .sub ∧ k = .i64
      · obtain ⟨rfl, rfl⟩ := h
        simp only [lcX]
        split
        · rename_i hk
          have h1 := inKind_spec hk (subR2_ok (IExp.rng_ok ok ha x) (IExp.rng_ok ok ha y))
          simp only [IExp.den, binDen, wrap_id h1, lcAdd_sum]
          rw [lcX_ok x, lcX_ok y]
          omega
        · exact lcX_self _
      · by_cases h : op = .mul ∧ k = .i64 ∧ ∃ n, y = .lit n
        · obtain ⟨rfl, rfl, n, rfl⟩ := h
          simp only [lcX]
          split
          · rename_i hk
            have h0 : timesR n (x.rng as) ≠ none := by
              intro hh; rw [hh] at hk; cases hk
            have h1 := inKind_spec hk (timesR_ok (IExp.rng_ok ok ha x) h0)
            simp only [IExp.den, binDen, wrap_id h1, lcAdd_sum, lcSum]
            rw [lcX_ok x, Int.add_mul, Int.mul_comm n, Int.mul_comm n]
            omega
          · exact lcX_self _
        · have : lcX as (.bin op k x y) = ([(.bin op k x y, 1)], 0) := by
            unfold lcX
            split
            · rename_i hh; cases hh
            · rename_i hh; cases hh; simp_all
            · rename_i hh; cases hh; simp_all
            · rename_i hh; cases hh; simp_all
            · rename_i hh; cases hh
            · rfl
          rw [this]
          exact lcX_self _
  | .conv k x => by
    by_cases h : k = .i64
    · subst h
      simp only [lcX]
      split
      · rename_i hk
        have h1 := inKind_spec hk (IExp.rng_ok ok ha x)
        simp only [IExp.den, wrap_id h1]
        exact lcX_ok x
      · exact lcX_self _
    · have : lcX as (.conv k x) = ([(.conv k x, 1)], 0) := by
        unfold lcX
        split <;> first | rfl | (rename_i hh; cases hh; done) | (rename_i hh; cases hh; contradiction)
      rw [this]
      exact lcX_self _
  | .var k i => lcX_self _
  | .sel k a i => lcX_self _
  | .len a => lcX_self _
  | .fn k f j l => lcX_self _
  | .bit b => lcX_self _
/-- At most that. -/
def lcTop (as : Asm) : Lc → Option Int
  | [] => some 0
  | (a, k) :: r => match a.rng as, lcTop as r with
    | some (l, h), some t => some (t + if 0 ≤ k then k * h else k * l)
    | _, _ => none
include ok ha in
theorem lcTop_ok : ∀ {l : Lc} {t : Int}, lcTop as l = some t → lcSum e l ≤ t
  | [], t, h => by simp only [lcTop, Option.some.injEq] at h; subst h; exact Int.le_refl _
  | (a, k) :: r, t, h => by
    simp only [lcTop] at h
    split at h
    · rename_i lo hi u hr hu
      cases h
      have h1 := lcTop_ok hu
      have h2 := IExp.rng_ok ok ha a
      rw [hr] at h2
      obtain ⟨h3, h4⟩ := h2
      simp only [lcSum]
      split
      · rename_i hk
        have := Int.mul_le_mul_of_nonneg_left h4 hk
        omega
      · rename_i hk
        have := Int.mul_le_mul_of_nonpos_left (show k ≤ 0 by omega) h3
        omega
    · cases h
/-- Sums that are not above 0. -/
def notLits (x y : IExp) : Bool := match x, y with
  | .lit _, _ => false
  | _, .lit _ => false
  | _, _ => true
def lcDif (as : Asm) (x y : IExp) (n : Int) : Lc × Int := (lcAdd (-1) (lcX as y).1 (lcX as x).1, (lcX as x).2 - (lcX as y).2 + n)
include ok ha in
theorem lcDif_ok (x y : IExp) (n : Int) : lcSum e (lcDif as x y n).1 + (lcDif as x y n).2 = x.den e - y.den e + n := by
  simp only [lcDif, lcAdd_sum]
  rw [lcX_ok ok ha x, lcX_ok ok ha y]
  omega
def lcFacts (as : Asm) : Asm → List (Lc × Int)
  | [] => []
  | (.le x y, true) :: r => cond (notLits x y) (lcDif as x y 0 :: lcFacts as r) (lcFacts as r)
  | (.le x y, false) :: r => cond (notLits x y) (lcDif as y x 1 :: lcFacts as r) (lcFacts as r)
  | (.lt x y, true) :: r => cond (notLits x y) (lcDif as x y 1 :: lcFacts as r) (lcFacts as r)
  | (.lt x y, false) :: r => cond (notLits x y) (lcDif as y x 0 :: lcFacts as r) (lcFacts as r)
  | (.eq x y, true) :: r => cond (notLits x y) (lcDif as x y 0 :: lcDif as y x 0 :: lcFacts as r) (lcFacts as r)
  | _ :: r => lcFacts as r
def LcLe (e : Env) (d : Lc × Int) : Prop := lcSum e d.1 + d.2 ≤ 0
theorem cond_mem {α : Type} {b : Bool} {x : α} {l : List α} {y : α} (h : y ∈ cond b (x :: l) l) : y = x ∨ y ∈ l := by
  cases b with
  | true => simpa using h
  | false => exact .inr h
include ok ha in
theorem lcFacts_ok : ∀ {bs : Asm}, AsmOk e bs → ∀ d ∈ lcFacts as bs, LcLe e d
  | [], _, d, hd => by cases hd
  | p :: r, hb, d, hd => by
    have hr : AsmOk e r := fun q hq => hb q (List.mem_cons_of_mem _ hq)
    have hp := hb p List.mem_cons_self
    have rest := lcFacts_ok (bs := r) hr d
    unfold lcFacts at hd
    split at hd
    · rename_i heq; cases heq
    · rename_i x y r' heq
      cases heq
      rcases cond_mem hd with rfl | hd
      · have := leT hp; rw [LcLe, lcDif_ok ok ha]; omega
      · exact rest hd
    · rename_i x y r' heq
      cases heq
      rcases cond_mem hd with rfl | hd
      · have := leF hp; rw [LcLe, lcDif_ok ok ha]; omega
      · exact rest hd
    · rename_i x y r' heq
      cases heq
      rcases cond_mem hd with rfl | hd
      · have := ltT hp; rw [LcLe, lcDif_ok ok ha]; omega
      · exact rest hd
    · rename_i x y r' heq
      cases heq
      rcases cond_mem hd with rfl | hd
      · have := ltF hp; rw [LcLe, lcDif_ok ok ha]; omega
      · exact rest hd
    · rename_i x y r' heq
      cases heq
      cases hn : notLits x y with
      | false => rw [hn] at hd; exact rest hd
      | true =>
        rw [hn] at hd
        have := eqT hp
        rcases List.mem_cons.1 hd with rfl | hd
        · rw [LcLe, lcDif_ok ok ha]; omega
        · rcases List.mem_cons.1 hd with rfl | hd
          · rw [LcLe, lcDif_ok ok ha]; omega
          · exact rest hd
    · rename_i heq
      cases heq
      exact rest hd
/-- Not above 0, by so many facts at most. -/
def lcUnder (as : Asm) (g : Lc × Int) : Bool := match lcTop as g.1 with
  | some t => decide (t + g.2 ≤ 0)
  | none => false
def lcLess (g f : Lc × Int) : Lc × Int := (lcAdd (-1) f.1 g.1, g.2 - f.2)
def linF (as : Asm) (fs : List (Lc × Int)) : Nat → Lc × Int → Bool
  | 0, g => lcUnder as g
  | d + 1, g => lcUnder as g || fs.any fun f => (let h := lcLess g f; Nat.ble h.1.length g.1.length && linF as fs d h)
include ok ha in
theorem linF_ok {fs : List (Lc × Int)} (hf : ∀ d ∈ fs, LcLe e d) : ∀ {d : Nat} {g : Lc × Int}, linF as fs d g = true → LcLe e g
  | 0, g, h => by
    simp only [linF, lcUnder] at h
    split at h
    · rename_i t ht
      have := lcTop_ok ok ha ht
      simp only [decide_eq_true_eq] at h
      simp only [LcLe]; omega
    · cases h
  | d + 1, g, h => by
    simp only [linF, Bool.or_eq_true] at h
    rcases h with h | h
    · exact linF_ok hf (d := 0) h
    · obtain ⟨f, hm, h⟩ := List.any_eq_true.1 h
      simp only [Bool.and_eq_true] at h
      have h1 := linF_ok hf h.2
      have h2 := hf f hm
      simp only [LcLe, lcLess, lcAdd_sum] at h1 h2 ⊢
      omega
end lcX
/-- x + n ≤ y by sums. -/
def sumLe (as : Asm) (x : IExp) (n : Int) (y : IExp) : Bool := linF as (lcFacts as as) 2 (lcDif as x y n)
theorem sumLe_ok {e : Env} (ok : EnvOk e) {as : Asm} (ha : AsmOk e as) {x y : IExp} {n : Int} (h : sumLe as x n y = true) : x.den e + n ≤ y.den e := by
  have h1 := linF_ok ok ha (lcFacts_ok ok ha ha) h
  rw [LcLe, lcDif_ok ok ha] at h1
  omega
def linD (t f : Bool) : Option Bool := if t then some true else if f then some false else none

def orElse' (a b : Option Bool) : Option Bool := match a with | some v => some v | none => b

def decideB (as : Asm) : BExp → Option Bool
  | .lit b => some b
  | .not x => (decideB as x).map (!·)
  | .eq x y => if x.same y then some true else orElse' (orElse' (eqR (x.rng as) (y.rng as)) (orElse' (lookup as (.eq x y)) (lookup as (.eq y x)))) (linD false (leLin as x 1 y || leLin as y 1 x))
  | .lt x y => if x.same y then some false else orElse' (orElse' (ltR (x.rng as) (y.rng as)) (lookup as (.lt x y))) (orElse' (linD (leLin as x 1 y) (leLin as y 0 x)) (linD (sumLe as x 1 y) (sumLe as y 0 x)))
  | .le x y => if x.same y then some true else orElse' (orElse' (leR (x.rng as) (y.rng as)) (lookup as (.le x y))) (orElse' (linD (leLin as x 0 y) (leLin as y 1 x)) (linD (sumLe as x 0 y) (sumLe as y 1 x)))
  | .beq x y => match decideB as x, decideB as y with
    | some a, some b => some (a == b)
    | _, _ => if x.same y then some true else none
  | .and x y => match decideB as x, decideB as y with
    | some true, q => q
    | some false, _ => some false
    | none, some false => some false
    | none, _ => none
  | .aeq x y => if x.same y then some true else lookup as (.aeq x y)
  | .var i => lookup as (.var i)
  | .fn f j l => lookup as (.fn f j l)

theorem lookup_ok {e : Env} : ∀ {as : Asm} {b : BExp} {v : Bool}, AsmOk e as → lookup as b = some v → b.den e = v
  | [], _, _, _, h => by cases h
  | (c, v) :: r, b, w, ha, h => by
    simp only [lookup] at h
    split at h
    · rename_i hs
      have := BExp.same_eq _ _ hs
      subst this
      cases h
      exact ha _ List.mem_cons_self
    · exact lookup_ok (fun p hp => ha p (List.mem_cons_of_mem _ hp)) h

theorem eqR_ok {r q : Option (Int × Int)} {x y : Int} {v : Bool} (hx : InR x r) (hy : InR y q) (h : eqR r q = some v) : decide (x = y) = v := by
  unfold eqR at h
  split at h
  · obtain ⟨hx1, hx2⟩ := hx; obtain ⟨hy1, hy2⟩ := hy
    split at h
    · rename_i hc; cases h
      simp only [Bool.or_eq_true, decide_eq_true_eq] at hc
      simp only [decide_eq_false_iff_not]; omega
    · split at h
      · rename_i hc; cases h
        simp only [Bool.and_eq_true, decide_eq_true_eq] at hc
        simp only [decide_eq_true_eq]; omega
      · cases h
  · cases h
theorem ltR_ok {r q : Option (Int × Int)} {x y : Int} {v : Bool} (hx : InR x r) (hy : InR y q) (h : ltR r q = some v) : decide (x < y) = v := by
  unfold ltR at h
  split at h
  · obtain ⟨hx1, hx2⟩ := hx; obtain ⟨hy1, hy2⟩ := hy
    split at h
    · rename_i hc; cases h
      simp only [decide_eq_true_eq] at hc
      simp only [decide_eq_true_eq]; omega
    · split at h
      · rename_i hc; cases h
        simp only [decide_eq_true_eq] at hc
        simp only [decide_eq_false_iff_not]; omega
      · cases h
  · cases h
theorem leR_ok {r q : Option (Int × Int)} {x y : Int} {v : Bool} (hx : InR x r) (hy : InR y q) (h : leR r q = some v) : decide (x ≤ y) = v := by
  unfold leR at h
  split at h
  · obtain ⟨hx1, hx2⟩ := hx; obtain ⟨hy1, hy2⟩ := hy
    split at h
    · rename_i hc; cases h
      simp only [decide_eq_true_eq] at hc
      simp only [decide_eq_true_eq]; omega
    · split at h
      · rename_i hc; cases h
        simp only [decide_eq_true_eq] at hc
        simp only [decide_eq_false_iff_not]; omega
      · cases h
  · cases h
theorem orElse_or {a b : Option Bool} {v : Bool} (h : orElse' a b = some v) : a = some v ∨ b = some v := by
  cases a with
  | none => exact .inr h
  | some u => exact .inl h
theorem linD_or {t f v : Bool} (h : linD t f = some v) : (t = true ∧ v = true) ∨ (f = true ∧ v = false) := by
  cases t <;> cases f <;> simp [linD] at h <;> simp [h]

theorem decideB_ok {e : Env} (ok : EnvOk e) {as : Asm} (ha : AsmOk e as) : ∀ {b : BExp} {v : Bool}, decideB as b = some v → b.den e = v
  | .lit _, _, h => by simp only [decideB] at h; cases h; rfl
  | .not x, v, h => by
    simp only [decideB, Option.map_eq_some_iff] at h
    obtain ⟨u, hu, rfl⟩ := h
    simp only [BExp.den, decideB_ok ok ha hu]
  | .eq x y, v, h => by
    simp only [decideB] at h
    split at h
    · rename_i hs
      have := IExp.same_eq _ _ hs
      subst this; cases h; simp [BExp.den]
    · rcases orElse_or h with h | h
      · rcases orElse_or h with h | h
        · exact eqR_ok (IExp.rng_ok ok ha x) (IExp.rng_ok ok ha y) h
        · rcases orElse_or h with h | h
          · exact lookup_ok ha h
          · have := lookup_ok ha h
            simp only [BExp.den] at this ⊢
            rw [← this]; exact decide_same eq_comm
      · rcases linD_or h with ⟨h2, rfl⟩ | ⟨h2, rfl⟩
        · cases h2
        · simp only [Bool.or_eq_true] at h2
          simp only [BExp.den, decide_eq_false_iff_not]
          rcases h2 with h2 | h2
          · have := leLin_ok ok ha h2; omega
          · have := leLin_ok ok ha h2; omega
  | .lt x y, v, h => by
    simp only [decideB] at h
    split at h
    · rename_i hs
      have := IExp.same_eq _ _ hs
      subst this; cases h; simp [BExp.den]
    · rcases orElse_or h with h | h
      · rcases orElse_or h with h | h
        · exact ltR_ok (IExp.rng_ok ok ha x) (IExp.rng_ok ok ha y) h
        · exact lookup_ok ha h
      · rcases orElse_or h with h | h
        · rcases linD_or h with ⟨h2, rfl⟩ | ⟨h2, rfl⟩
          · have := leLin_ok ok ha h2
            simp only [BExp.den, decide_eq_true_eq]; omega
          · have := leLin_ok ok ha h2
            simp only [BExp.den, decide_eq_false_iff_not]; omega
        · rcases linD_or h with ⟨h2, rfl⟩ | ⟨h2, rfl⟩
          · have := sumLe_ok ok ha h2
            simp only [BExp.den, decide_eq_true_eq]; omega
          · have := sumLe_ok ok ha h2
            simp only [BExp.den, decide_eq_false_iff_not]; omega
  | .le x y, v, h => by
    simp only [decideB] at h
    split at h
    · rename_i hs
      have := IExp.same_eq _ _ hs
      subst this; cases h; simp [BExp.den]
    · rcases orElse_or h with h | h
      · rcases orElse_or h with h | h
        · exact leR_ok (IExp.rng_ok ok ha x) (IExp.rng_ok ok ha y) h
        · exact lookup_ok ha h
      · rcases orElse_or h with h | h
        · rcases linD_or h with ⟨h2, rfl⟩ | ⟨h2, rfl⟩
          · have := leLin_ok ok ha h2
            simp only [BExp.den, decide_eq_true_eq]; omega
          · have := leLin_ok ok ha h2
            simp only [BExp.den, decide_eq_false_iff_not]; omega
        · rcases linD_or h with ⟨h2, rfl⟩ | ⟨h2, rfl⟩
          · have := sumLe_ok ok ha h2
            simp only [BExp.den, decide_eq_true_eq]; omega
          · have := sumLe_ok ok ha h2
            simp only [BExp.den, decide_eq_false_iff_not]; omega
  | .beq x y, v, h => by
    simp only [decideB] at h
    split at h
    · rename_i a b h1 h2
      cases h
      simp only [BExp.den, decideB_ok ok ha h1, decideB_ok ok ha h2]
    · split at h
      · rename_i hs
        have := BExp.same_eq _ _ hs
        subst this; cases h; simp [BExp.den]
      · cases h
  | .and x y, v, h => by
    simp only [decideB] at h
    split at h
    · rename_i h1
      simp only [BExp.den, decideB_ok ok ha h1, Bool.true_and]
      exact decideB_ok ok ha h
    · rename_i h1
      cases h
      simp only [BExp.den, decideB_ok ok ha h1, Bool.false_and]
    · rename_i h1 h2
      cases h
      simp only [BExp.den, decideB_ok ok ha h2, Bool.and_false]
    · cases h
  | .aeq x y, v, h => by
    simp only [decideB] at h
    split at h
    · rename_i hs
      have := AExp.same_eq _ _ hs
      subst this; cases h; simp [BExp.den]
    · exact lookup_ok ha h
  | .var i, v, h => lookup_ok ha (by simpa only [decideB] using h)
  | .fn f j l, v, h => lookup_ok ha (by simpa only [decideB] using h)

/-! ### Building -/
def mkBin (op : BinOp) (k : IntKind) (x y : IExp) : IExp :=
  match isLit x, isLit y with
  | some a, some b => .lit (binDen op k a b)
  | _, _ => .bin op k x y
theorem mkBin_den {e : Env} {op : BinOp} {k : IntKind} {x y : IExp} : (mkBin op k x y).den e = binDen op k (x.den e) (y.den e) := by
  unfold mkBin
  split
  · rename_i a b h1 h2
    rw [isLit_eq h1, isLit_eq h2]; rfl
  · rfl

/-- One number alone in the range: that number. -/
def settle (as : Asm) (x : IExp) : IExp :=
  match isLit x with
  | some _ => x
  | none => match x.rng as with
    | some (l, h) => if l = h then .lit l else x
    | none => x
theorem settle_den {e : Env} (ok : EnvOk e) {as : Asm} (ha : AsmOk e as) {x : IExp} : (settle as x).den e = x.den e := by
  unfold settle
  split
  · rfl
  · have hr := IExp.rng_ok ok ha x
    split
    · rename_i l h heq
      rw [heq] at hr
      split
      · rename_i hlh
        subst hlh
        rw [litD]
        have := hr.1
        have := hr.2
        omega
      · rfl
    · rfl

theorem wrap_add_l (k : IntKind) (a b : Int) : k.wrap (k.wrap a + b) = k.wrap (a + b) := by
  cases k <;> simp [IntKind.wrap, IntKind.bits, IntKind.signed] <;> omega
theorem wrap_add_r (k : IntKind) (a b : Int) : k.wrap (a + k.wrap b) = k.wrap (a + b) := by
  rw [Int.add_comm, wrap_add_l, Int.add_comm]
theorem wrap_sub_l (k : IntKind) (a b : Int) : k.wrap (k.wrap a - b) = k.wrap (a - b) := by
  cases k <;> simp [IntKind.wrap, IntKind.bits, IntKind.signed] <;> omega
theorem wrap_sub_r (k : IntKind) (a b : Int) : k.wrap (a - k.wrap b) = k.wrap (a - b) := by
  cases k <;> simp [IntKind.wrap, IntKind.bits, IntKind.signed] <;> omega
theorem wrap_i64 (k : IntKind) (a : Int) : k.wrap (IntKind.i64.wrap a) = k.wrap a := by
  cases k <;> simp [IntKind.wrap, IntKind.bits, IntKind.signed] <;> omega

/-- A number that stands for all that are alike at the kind: near 0. -/
def cen (k : IntKind) (c : Int) : Int := (c + 2 ^ (k.bits - 1)) % 2 ^ k.bits - 2 ^ (k.bits - 1)
theorem cen_wrap (k : IntKind) (a c : Int) : k.wrap (a + cen k c) = k.wrap (a + c) := by
  cases k <;> simp [cen, IntKind.wrap, IntKind.bits, IntKind.signed] <;> omega

/-- A text less a number, as the kind wraps it. -/
def unC (k : IntKind) : IExp → IExp × Int
  | .lit n => (.lit 0, n)
  | .bin op k' x y => match op, isLit y with
    | .add, some c => if k' = k then (x, c) else (.bin op k' x y, 0)
    | _, _ => (.bin op k' x y, 0)
  | x => (x, 0)
theorem unC_ok {e : Env} (k : IntKind) (x : IExp) : k.wrap (x.den e) = k.wrap ((unC k x).1.den e + (unC k x).2) := by
  unfold unC
  split
  · simp [IExp.den]
  · split
    · rename_i c hc
      split
      · rename_i hk
        subst hk
        have := isLit_eq hc
        subst this
        simp only [IExp.den, binDen]
        rw [wrap_id (wrap_in _ _)]
      · simp only [Int.add_zero]
    · simp only [Int.add_zero]
  · simp only [Int.add_zero]
def withC (as : Asm) (k : IntKind) (x : IExp) (c : Int) : IExp :=
  if c = 0 ∧ inKind k (x.rng as) = true then x else .bin .add k x (.lit c)
theorem withC_den {e : Env} (ok : EnvOk e) {as : Asm} (ha : AsmOk e as) {k : IntKind} {x : IExp} {c : Int} : (withC as k x c).den e = k.wrap (x.den e + c) := by
  unfold withC
  split
  · rename_i h
    rw [h.1, Int.add_zero, wrap_id (inKind_spec h.2 (IExp.rng_ok ok ha x))]
  · rfl

def addR2 : Option (Int × Int) → Option (Int × Int) → Option (Int × Int)
  | some (a, b), some (c, d) => some (a + c, b + d)
  | _, _ => none
theorem addR2_ok {x y : Int} {r q : Option (Int × Int)} (hx : InR x r) (hy : InR y q) : InR (x + y) (addR2 r q) := by
  unfold addR2
  split
  · obtain ⟨h1, h2⟩ := hx; obtain ⟨h3, h4⟩ := hy; exact ⟨by omega, by omega⟩
  · trivial
def geZ : Option (Int × Int) → Bool
  | some (l, _) => decide (0 ≤ l)
  | none => false
theorem geZ_ok {x : Int} {r : Option (Int × Int)} (h : geZ r = true) (hx : InR x r) : 0 ≤ x := by
  unfold geZ at h
  split at h
  · simp only [decide_eq_true_eq] at h; have := hx.1; omega
  · cases h
/-- Within [0, m). -/
def inM (m : Int) : Option (Int × Int) → Bool
  | some (l, h) => decide (0 ≤ l) && decide (h < m)
  | none => false
theorem inM_ok {x m : Int} {r : Option (Int × Int)} (h : inM m r = true) (hx : InR x r) : 0 ≤ x ∧ x < m := by
  unfold inM at h
  split at h
  · simp only [Bool.and_eq_true, decide_eq_true_eq] at h; have := hx.1; have := hx.2; omega
  · cases h

/-- a * c + b wraps nowhere. -/
def mulFits (k k' : IntKind) (c : Int) : Option (Int × Int) → Option (Int × Int) → Bool
  | some (l, h), some (l', h') => decide (0 ≤ l) && decide (0 ≤ l') && decide (0 < c) && inKind k' (some (0, h * c)) && inKind k (some (0, h * c + h'))
  | _, _ => false
theorem mulFits_ok {k k' : IntKind} {c x y : Int} {r q : Option (Int × Int)} (h : mulFits k k' c r q = true) (hx : InR x r) (hy : InR y q) :
    k'.wrap (x * c) = x * c ∧ k.wrap (x * c + y) = x * c + y ∧ 0 ≤ x ∧ 0 ≤ y ∧ 0 < c := by
  unfold mulFits at h
  split at h
  · simp only [Bool.and_eq_true, decide_eq_true_eq] at h
    obtain ⟨⟨⟨⟨h1, h2⟩, h3⟩, h4⟩, h5⟩ := h
    obtain ⟨x1, x2⟩ := hx
    obtain ⟨y1, y2⟩ := hy
    rename_i l u l' u'
    have m1 : x * c ≤ u * c := Int.mul_le_mul_of_nonneg_right x2 (by omega)
    have m0 : 0 ≤ x * c := Int.mul_nonneg (by omega) (by omega)
    exact ⟨wrap_id (inKind_spec h4 ⟨m0, m1⟩), wrap_id (inKind_spec h5 ⟨by omega, by omega⟩), by omega, by omega, h3⟩
  · cases h
/-- x = a * c + b without a wrap, both not below 0. -/
def unMul (as : Asm) : IExp → Option (IExp × Int × IExp)
  | .bin .add k (.bin .mul k' a y) b => match isLit y with
    | some c => if mulFits k k' c (a.rng as) (b.rng as) then some (a, c, b) else none
    | none => none
  | _ => none
theorem unMul_ok {e : Env} (ok : EnvOk e) {as : Asm} (ha : AsmOk e as) {x a b : IExp} {c : Int} (h : unMul as x = some (a, c, b)) : x.den e = a.den e * c + b.den e ∧ 0 ≤ a.den e ∧ 0 ≤ b.den e ∧ 0 < c := by
  unfold unMul at h
  split at h
  · rename_i k k' a' y b'
    split at h
    · rename_i c' hc
      have := isLit_eq hc
      subst this
      split at h
      · rename_i hcond
        simp only [Option.some.injEq, Prod.mk.injEq] at h
        obtain ⟨rfl, rfl, rfl⟩ := h
        have := mulFits_ok hcond (IExp.rng_ok ok ha a') (IExp.rng_ok ok ha b')
        refine ⟨?_, this.2.2.1, this.2.2.2.1, this.2.2.2.2⟩
        simp only [IExp.den, binDen, this.1, this.2.1]
      · cases h
    · cases h
  · cases h

/-- All of them have the same quotient. -/
def oneQuo (m : Int) : Option (Int × Int) → Option Int
  | some (a, b) => if 0 ≤ a ∧ 0 < m ∧ a / m = b / m ∧ b ≤ 9223372036854775807 then some (a / m * m) else none
  | none => none
theorem oneQuo_ok {m c x : Int} {r : Option (Int × Int)} (h : oneQuo m r = some c) (hx : InR x r) : 0 ≤ x - c ∧ x - c < m ∧ x.tmod m = x - c ∧ x - c ≤ 9223372036854775807 := by
  unfold oneQuo at h
  split at h
  · rename_i a b
    split at h
    · rename_i hc
      obtain ⟨h1, h2, h3, h4⟩ := hc
      cases h
      obtain ⟨hx1, hx2⟩ := hx
      have q1 : a / m ≤ x / m := Int.ediv_le_ediv h2 hx1
      have q2 : x / m ≤ b / m := Int.ediv_le_ediv h2 hx2
      have q3 : x / m = a / m := by omega
      have q4 := Int.emod_add_mul_ediv x m
      have q5 : m * (x / m) = a / m * m := by rw [q3, Int.mul_comm]
      have q6 := Int.emod_nonneg x (show m ≠ 0 by omega)
      have q7 := Int.emod_lt_of_pos x h2
      have q8 : 0 ≤ a / m * m := Int.mul_nonneg (Int.ediv_nonneg h1 (by omega)) (by omega)
      rw [Int.tmod_eq_emod_of_nonneg (by omega)]
      omega
    · cases h
  · cases h
def remCore (as : Asm) (x : IExp) (m : Int) : IExp :=
  if inM m (x.rng as) then x else match oneQuo m (x.rng as) with
  | some c => settle as (withC as .i64 x (-c))
  | none => settle as (.bin .rem .i64 x (.lit m))
/-- The rest by m > 0 of what is not below 0. -/
def mkRem (as : Asm) (x : IExp) (m : Int) : IExp :=
  match isLit x with
  | some n => .lit (n.tmod m)
  | none =>
    match unMul as x with
    | some (_, c, b) => if c % m = 0 then remCore as b m else remCore as x m
    | none => match x with
      | .bin .rem k x' y => match isLit y with
        | some n => if decide (0 < n) && geZ (x'.rng as) && decide (n % m = 0) then remCore as x' m else remCore as (.bin .rem k x' y) m
        | none => remCore as (.bin .rem k x' y) m
      | x => remCore as x m
theorem remCore_den {e : Env} (ok : EnvOk e) {as : Asm} (ha : AsmOk e as) {x : IExp} {m : Int} (hx : 0 ≤ x.den e) : (remCore as x m).den e = (x.den e).tmod m := by
  unfold remCore
  split
  · rename_i h
    have := inM_ok h (IExp.rng_ok ok ha x)
    rw [Int.tmod_eq_emod_of_nonneg hx, Int.emod_eq_of_lt this.1 this.2]
  · split
    · rename_i c hc
      obtain ⟨h1, h2, h3, h4⟩ := oneQuo_ok hc (IExp.rng_ok ok ha x)
      rw [settle_den ok ha, withC_den ok ha, h3, wrap_id ⟨by rw [IntKind.min_i64]; omega, by rw [IntKind.max_i64]; omega⟩]
      omega
    · rw [settle_den ok ha]; rfl
theorem mkRem_den {e : Env} (ok : EnvOk e) {as : Asm} (ha : AsmOk e as) {x : IExp} {m : Int} (hx : 0 ≤ x.den e) : (mkRem as x m).den e = (x.den e).tmod m := by
  unfold mkRem
  split
  · rename_i n hn
    rw [isLit_eq hn]; rfl
  · split
    · rename_i a c b hu
      have := unMul_ok ok ha hu
      split
      · rename_i hc
        rw [remCore_den ok ha this.2.2.1, Int.tmod_eq_emod_of_nonneg this.2.2.1, Int.tmod_eq_emod_of_nonneg hx, this.1]
        obtain ⟨d, rfl⟩ := Int.dvd_of_emod_eq_zero hc
        rw [← Int.mul_assoc, Int.mul_comm (a.den e) m, Int.mul_assoc, Int.mul_add_emod_self_left]
      · exact remCore_den ok ha hx
    · split
      · rename_i k x' y _ _
        split
        · rename_i n hn
          have := isLit_eq hn
          subst this
          split
          · rename_i hc
            simp only [Bool.and_eq_true, decide_eq_true_eq] at hc
            have hz := geZ_ok hc.1.2 (IExp.rng_ok ok ha x')
            rw [remCore_den ok ha hz]
            have e1 : (IExp.bin .rem k x' (.lit n)).den e = (x'.den e).tmod n := rfl
            rw [e1] at hx ⊢
            rw [Int.tmod_eq_emod_of_nonneg hx, Int.tmod_eq_emod_of_nonneg hz, Int.tmod_eq_emod_of_nonneg hz]
            exact (Int.emod_emod_of_dvd _ (Int.dvd_of_emod_eq_zero hc.2)).symm
          · exact remCore_den ok ha hx
        · exact remCore_den ok ha hx
      · exact remCore_den ok ha hx

def quoCore (as : Asm) (x : IExp) (m : Int) : IExp :=
  if m = 1 then x else settle as (.bin .quo .i64 x (.lit m))
/-- x by m > 0, x not below 0 and an int. -/
def mkQuo (as : Asm) (x : IExp) (m : Int) : IExp :=
  match isLit x with
  | some n => .lit (n / m)
  | none =>
    match unMul as x with
    | some (a, c, b) => if c = m ∧ inM m (b.rng as) = true then a else quoCore as x m
    | none => match x with
      | .bin .quo k x' y => match isLit y with
        | some n => if decide (0 < n) && geZ (x'.rng as) && inKind .i64 (x'.rng as) && decide (k = .i64) then quoCore as x' (n * m) else quoCore as (.bin .quo k x' y) m
        | none => quoCore as (.bin .quo k x' y) m
      | x => quoCore as x m
theorem tdiv_in {x m : Int} (hx : 0 ≤ x) (hi : In .i64 x) (hm : 0 < m) : In .i64 (x / m) := by
  have h1 := Int.ediv_nonneg hx (show 0 ≤ m by omega)
  have h2 := Int.ediv_le_self m hx
  obtain ⟨h3, h4⟩ := hi
  have : IntKind.i64.min ≤ 0 := by decide
  exact ⟨by omega, by omega⟩
theorem quoCore_den {e : Env} (ok : EnvOk e) {as : Asm} (ha : AsmOk e as) {x : IExp} {m : Int} (hx : 0 ≤ x.den e) (hi : In .i64 (x.den e)) (hm : 0 < m) : (quoCore as x m).den e = x.den e / m := by
  unfold quoCore
  split
  · rename_i h
    rw [h, Int.ediv_one]
  · rw [settle_den ok ha]
    show IntKind.i64.wrap ((x.den e).tdiv m) = _
    rw [Int.tdiv_eq_ediv_of_nonneg hx, wrap_id (tdiv_in hx hi hm)]
theorem mkQuo_den {e : Env} (ok : EnvOk e) {as : Asm} (ha : AsmOk e as) {x : IExp} {m : Int} (hx : 0 ≤ x.den e) (hi : In .i64 (x.den e)) (hm : 0 < m) : (mkQuo as x m).den e = x.den e / m := by
  unfold mkQuo
  split
  · rename_i n hn
    rw [isLit_eq hn]; rfl
  · split
    · rename_i a c b hu
      have := unMul_ok ok ha hu
      split
      · rename_i hc
        obtain ⟨rfl, hb⟩ := hc
        have hb := inM_ok hb (IExp.rng_ok ok ha b)
        rw [this.1, Int.add_comm, Int.add_mul_ediv_right _ _ (by omega), Int.ediv_eq_zero_of_lt hb.1 hb.2, Int.zero_add]
      · exact quoCore_den ok ha hx hi hm
    · split
      · rename_i k x' y _ _
        split
        · rename_i n hn
          have := isLit_eq hn
          subst this
          split
          · rename_i hc
            simp only [Bool.and_eq_true, decide_eq_true_eq] at hc
            obtain ⟨⟨⟨h1, h2⟩, h3⟩, rfl⟩ := hc
            have hz := geZ_ok h2 (IExp.rng_ok ok ha x')
            have hk := inKind_spec h3 (IExp.rng_ok ok ha x')
            rw [quoCore_den ok ha hz hk (Int.mul_pos h1 hm)]
            have e1 : (IExp.bin .quo .i64 x' (.lit n)).den e = x'.den e / n := by
              show IntKind.i64.wrap ((x'.den e).tdiv n) = _
              rw [Int.tdiv_eq_ediv_of_nonneg hz, wrap_id (tdiv_in hz hk h1)]
            rw [e1, Int.ediv_ediv_of_nonneg (by omega)]
          · exact quoCore_den ok ha hx hi hm
        · exact quoCore_den ok ha hx hi hm
      · exact quoCore_den ok ha hx hi hm

/-- The word of a word's two parts is the word. -/
def rejoin (as : Asm) (k : IntKind) (a b : IExp) : Option IExp :=
  match a, b with
  | .bin .mul km (.bin .quo kq w c) c', .bin .rem _ w' c'' => match isLit c, isLit c', isLit c'' with
    | some n, some n', some n'' => if decide (n = n') && decide (n = n'') && w.same w' && decide (0 < n) && geZ (w.rng as) && inKind km (w.rng as) && inKind km (some (0, 0)) && inKind kq (w.rng as) && inKind kq (some (0, 0)) && inKind k (w.rng as) then some w else none
    | _, _, _ => none
  | _, _ => none
theorem rejoin_ok {e : Env} (ok : EnvOk e) {as : Asm} (ha : AsmOk e as) {k : IntKind} {a b w : IExp} (h : rejoin as k a b = some w) : w.den e = k.wrap (a.den e + b.den e) := by
  unfold rejoin at h
  split at h
  · rename_i km kq w0 c c' kr w' c''
    split at h
    · rename_i n n' n'' h1 h2 h3
      have h1 := isLit_eq h1
      have h2 := isLit_eq h2
      have h3 := isLit_eq h3
      subst h1 h2 h3
      split at h
      · rename_i hc
        simp only [Bool.and_eq_true, decide_eq_true_eq] at hc
        obtain ⟨⟨⟨⟨⟨⟨⟨⟨⟨rfl, rfl⟩, hs⟩, hn⟩, hz⟩, hkm⟩, hkm0⟩, hkq⟩, hkq0⟩, hk⟩ := hc
        have h := Option.some.inj h
        subst h
        have := IExp.same_eq _ _ hs
        subst this
        have hr := IExp.rng_ok ok ha w0
        have z := geZ_ok hz hr
        have m1 := inKind_spec hkm hr
        have m0 := inKind_spec hkm0 (n := 0) ⟨Int.le_refl _, Int.le_refl _⟩
        have q1 := inKind_spec hkq hr
        have q0 := inKind_spec hkq0 (n := 0) ⟨Int.le_refl _, Int.le_refl _⟩
        have d0 := Int.ediv_nonneg z (show 0 ≤ n by omega)
        have d1 := Int.ediv_le_self n z
        have e1 : (IExp.bin .quo kq w0 (.lit n)).den e = w0.den e / n := by
          show kq.wrap ((w0.den e).tdiv n) = _
          rw [Int.tdiv_eq_ediv_of_nonneg z, wrap_id ⟨by have := q0.1; omega, by have := q1.2; omega⟩]
        have p0 : 0 ≤ w0.den e / n * n := Int.mul_nonneg d0 (by omega)
        have p1 : w0.den e / n * n ≤ w0.den e := Int.ediv_mul_le _ (by omega)
        have e2 : (IExp.bin .mul km (.bin .quo kq w0 (.lit n)) (.lit n)).den e = w0.den e / n * n := by
          show km.wrap ((IExp.bin .quo kq w0 (.lit n)).den e * n) = _
          rw [e1, wrap_id ⟨by have := m0.1; omega, by have := m1.2; omega⟩]
        have e3 : (IExp.bin .rem kr w0 (.lit n)).den e = w0.den e % n := by
          show (w0.den e).tmod n = _
          rw [Int.tmod_eq_emod_of_nonneg z]
        rw [e2, e3, show w0.den e / n * n + w0.den e % n = w0.den e by rw [Int.mul_comm]; exact Int.mul_ediv_add_emod _ _, wrap_id (inKind_spec hk hr)]
      · cases h
    · cases h
  · cases h

def mkAdd (as : Asm) (k : IntKind) (x y : IExp) : IExp :=
  match rejoin as k x y with
  | some w => w
  | none =>
  match unC k x, unC k y with
  | (a, c), (b, d) =>
    match isLit a, isLit b with
    | some p, some q => .lit (k.wrap (p + q + (c + d)))
    | some p, none => withC as k b (cen k (c + d + p))
    | none, some q => withC as k a (cen k (c + d + q))
    | none, none => withC as k (.bin .add k a b) (cen k (c + d))
theorem mkAdd_den {e : Env} (ok : EnvOk e) {as : Asm} (ha : AsmOk e as) {k : IntKind} {x y : IExp} : (mkAdd as k x y).den e = k.wrap (x.den e + y.den e) := by
  unfold mkAdd
  split
  · rename_i w hw
    exact rejoin_ok ok ha hw
  · have hx := unC_ok (e := e) k x
    have hy := unC_ok (e := e) k y
    have key : k.wrap (x.den e + y.den e) = k.wrap ((unC k x).1.den e + (unC k y).1.den e + ((unC k x).2 + (unC k y).2)) := by
      rw [← wrap_add_l, hx, wrap_add_l, ← wrap_add_r, hy, wrap_add_r]
      congr 1; omega
    rw [key]
    generalize unC k x = p
    generalize unC k y = q
    obtain ⟨a, c⟩ := p
    obtain ⟨b, d⟩ := q
    simp only
    split
    · rename_i n m h1 h2
      rw [isLit_eq h1, isLit_eq h2]; rfl
    · rename_i n h1 h2
      rw [isLit_eq h1, withC_den ok ha, cen_wrap, litD]; congr 1; omega
    · rename_i m h1 h2
      rw [isLit_eq h2, withC_den ok ha, cen_wrap, litD]; congr 1; omega
    · rw [withC_den ok ha, cen_wrap]
      show k.wrap (k.wrap (a.den e + b.den e) + (c + d)) = _
      rw [wrap_add_l]
def mkSub (as : Asm) (k : IntKind) (x y : IExp) : IExp :=
  match unC k x, unC k y with
  | (a, c), (b, d) =>
    if a.same b then .lit (k.wrap (c - d)) else
    match isLit b with
    | some q => withC as k a (cen k (c - d - q))
    | none => withC as k (.bin .sub k a b) (cen k (c - d))
theorem mkSub_den {e : Env} (ok : EnvOk e) {as : Asm} (ha : AsmOk e as) {k : IntKind} {x y : IExp} : (mkSub as k x y).den e = k.wrap (x.den e - y.den e) := by
  unfold mkSub
  have hx := unC_ok (e := e) k x
  have hy := unC_ok (e := e) k y
  have key : k.wrap (x.den e - y.den e) = k.wrap ((unC k x).1.den e - (unC k y).1.den e + ((unC k x).2 - (unC k y).2)) := by
    rw [← wrap_sub_l, hx, wrap_sub_l, ← wrap_sub_r, hy, wrap_sub_r]
    congr 1; omega
  rw [key]
  generalize unC k x = p
  generalize unC k y = q
  obtain ⟨a, c⟩ := p
  obtain ⟨b, d⟩ := q
  simp only
  split
  · rename_i hs
    rw [IExp.same_eq _ _ hs, litD]; congr 1; omega
  · split
    · rename_i m h2
      rw [isLit_eq h2, withC_den ok ha, cen_wrap, litD]; congr 1; omega
    · rw [withC_den ok ha, cen_wrap]
      show k.wrap (k.wrap (a.den e - b.den e) + (c - d)) = _
      rw [wrap_add_l]

def mkMul (as : Asm) (k : IntKind) (x y : IExp) : IExp :=
  match isLit x, isLit y with
  | some a, some b => .lit (k.wrap (a * b))
  | some a, none => if a = 1 ∧ inKind k (y.rng as) = true then y else settle as (.bin .mul k y (.lit a))
  | none, some b => if b = 1 ∧ inKind k (x.rng as) = true then x else settle as (.bin .mul k x (.lit b))
  | none, none => .bin .mul k x y
theorem mkMul_den {e : Env} (ok : EnvOk e) {as : Asm} (ha : AsmOk e as) {k : IntKind} {x y : IExp} : (mkMul as k x y).den e = k.wrap (x.den e * y.den e) := by
  unfold mkMul
  split
  · rename_i a b h1 h2
    rw [isLit_eq h1, isLit_eq h2]; rfl
  · rename_i a h1 h2
    rw [isLit_eq h1, litD]
    split
    · rename_i h
      rw [h.1, Int.one_mul, wrap_id (inKind_spec h.2 (IExp.rng_ok ok ha y))]
    · rw [settle_den ok ha, Int.mul_comm]; rfl
  · rename_i b h1 h2
    rw [isLit_eq h2, litD]
    split
    · rename_i h
      rw [h.1, Int.mul_one, wrap_id (inKind_spec h.2 (IExp.rng_ok ok ha x))]
    · rw [settle_den ok ha]; rfl
  · rfl

def signedK : IntKind → Bool
  | .i8 | .i16 | .i32 | .i64 => true
  | _ => false
theorem wrap_unsigned {k : IntKind} (hk : signedK k = false) {x : Int} (hx : 0 ≤ x) : k.wrap x = x.tmod (2 ^ k.bits) := by
  rw [Int.tmod_eq_emod_of_nonneg hx]
  cases k <;> simp [signedK] at hk <;> simp [IntKind.wrap, IntKind.bits, IntKind.signed]
def convCore (as : Asm) (k : IntKind) (x : IExp) : IExp :=
  if inKind k (x.rng as) then x else if !signedK k && geZ (x.rng as) then mkRem as x (2 ^ k.bits) else .conv k x
theorem convCore_den {e : Env} (ok : EnvOk e) {as : Asm} (ha : AsmOk e as) {k : IntKind} {x : IExp} : (convCore as k x).den e = k.wrap (x.den e) := by
  unfold convCore
  split
  · rename_i hk
    rw [wrap_id (inKind_spec hk (IExp.rng_ok ok ha x))]
  · split
    · rename_i h
      simp only [Bool.and_eq_true, Bool.not_eq_true'] at h
      have hz := geZ_ok h.2 (IExp.rng_ok ok ha x)
      rw [mkRem_den ok ha hz, wrap_unsigned h.1 hz]
    · rfl
def mkConv (as : Asm) (k : IntKind) (x : IExp) : IExp :=
  match isLit x with
  | some a => .lit (k.wrap a)
  | none => if inKind k (x.rng as) then settle as x else
    match split as x with
    | (a, c) => if c = 0 then convCore as k x else if cen k c = 0 then convCore as k a else .conv k (.bin .add .i64 a (.lit (cen k c)))
theorem mkConv_den {e : Env} (ok : EnvOk e) {as : Asm} (ha : AsmOk e as) {k : IntKind} {x : IExp} : (mkConv as k x).den e = k.wrap (x.den e) := by
  unfold mkConv
  split
  · rename_i a h1
    rw [isLit_eq h1]; rfl
  · split
    · rename_i hk
      rw [settle_den ok ha, wrap_id (inKind_spec hk (IExp.rng_ok ok ha x))]
    · have hs := split_ok ok ha x
      generalize split as x = p at hs ⊢
      obtain ⟨a, c⟩ := p
      simp only at hs ⊢
      split
      · exact convCore_den ok ha
      · split
        · rename_i h0
          rw [convCore_den ok ha, hs, ← cen_wrap k _ c, h0, Int.add_zero]
        · show k.wrap (IntKind.i64.wrap (a.den e + cen k c)) = _
          rw [wrap_i64, cen_wrap, hs]

/-- n = 2^m - 1. -/
def maskM : Int → Option Nat
  | .ofNat a => if Nat.beq (2 ^ (a + 1).log2) (a + 1) then some (a + 1).log2 else none
  | _ => none
theorem maskM_eq {n : Int} {m : Nat} (h : maskM n = some m) : n = 2 ^ m - 1 := by
  cases n with
  | ofNat a =>
    simp only [maskM] at h
    split at h
    · rename_i hb
      have hb := Nat.eq_of_beq_eq_true hb
      simp only [Option.some.injEq] at h
      subst h
      have : ((2 ^ (a + 1).log2 : Nat) : Int) = ((a + 1 : Nat) : Int) := by rw [hb]
      push_cast at this
      rw [this]; simp
    · cases h
  | negSucc a => cases h
theorem bits_mask {k : IntKind} {x : Int} {m : Nat} (h0 : 0 ≤ x) (hx : x ≤ k.max) (hm : (2 : Int) ^ m - 1 ≤ k.max) : bits .and k x (2 ^ m - 1) = x.tmod (2 ^ m) := by
  have hbits : k.max < 2 ^ k.bits := by cases k <;> decide
  have hn : ∀ z : Int, 0 ≤ z → z ≤ k.max → (BitVec.ofInt k.bits z).toNat = z.toNat := by
    intro z hz0 hz
    rw [BitVec.toNat_ofInt]
    have : ((2 ^ k.bits : Nat) : Int) = 2 ^ k.bits := by push_cast; rfl
    rw [this, Int.emod_eq_of_lt hz0 (by omega)]
  have hp : (0 : Int) < 2 ^ m := by exact_mod_cast Nat.two_pow_pos m
  have e1 : ((2 : Int) ^ m - 1).toNat = 2 ^ m - 1 := by
    have : ((2 ^ m : Nat) : Int) = 2 ^ m := by push_cast; rfl
    rw [← this]; omega
  have e2 : bits .and k x (2 ^ m - 1) = k.wrap ((BitVec.ofInt k.bits x &&& BitVec.ofInt k.bits (2 ^ m - 1)).toNat : Int) := rfl
  rw [e2, BitVec.toNat_and, hn x h0 hx, hn _ (by omega) hm, e1, Nat.and_two_pow_sub_one_eq_mod, Int.tmod_eq_emod_of_nonneg h0]
  have e3 : ((x.toNat % 2 ^ m : Nat) : Int) = x % 2 ^ m := by
    push_cast
    rw [Int.toNat_of_nonneg h0]
  rw [e3, wrap_id]
  have hk : k.min ≤ 0 := (zero_in k).1
  have := Int.emod_nonneg x (show (2 : Int) ^ m ≠ 0 by omega)
  have := Int.emod_lt_of_pos x hp
  exact ⟨by omega, by omega⟩


theorem bits_or {k : IntKind} {x y : Int} {m : Nat} (hx0 : 0 ≤ x) (hy0 : 0 ≤ y) (hy : y < 2 ^ m) (hs : x * 2 ^ m + y ≤ k.max) : bits .or k (x * 2 ^ m) y = k.wrap (x * 2 ^ m + y) ∧ bits .or k y (x * 2 ^ m) = k.wrap (y + x * 2 ^ m) := by
  have hbits : k.max < 2 ^ k.bits := by cases k <;> decide
  have hn : ∀ z : Int, 0 ≤ z → z ≤ k.max → (BitVec.ofInt k.bits z).toNat = z.toNat := by
    intro z hz0 hz
    rw [BitVec.toNat_ofInt]
    have : ((2 ^ k.bits : Nat) : Int) = 2 ^ k.bits := by push_cast; rfl
    rw [this, Int.emod_eq_of_lt hz0 (by omega)]
  have hm0 : 0 ≤ x * 2 ^ m := Int.mul_nonneg hx0 (by have : (0 : Int) < 2 ^ m := by exact_mod_cast Nat.two_pow_pos m
                                                     omega)
  have hor : (x * 2 ^ m).toNat ||| y.toNat = (x * 2 ^ m).toNat + y.toNat := by
    have e1 : (x * 2 ^ m).toNat = 2 ^ m * x.toNat := by
      have : ((2 ^ m * x.toNat : Nat) : Int) = x * 2 ^ m := by
        push_cast; rw [Int.toNat_of_nonneg hx0, Int.mul_comm]
      omega
    have e2 : y.toNat < 2 ^ m := by
      have : ((2 ^ m : Nat) : Int) = 2 ^ m := by push_cast; rfl
      omega
    rw [e1, ← Nat.two_pow_add_eq_or_of_lt e2]
  constructor
  · have e2 : bits .or k (x * 2 ^ m) y = k.wrap ((BitVec.ofInt k.bits (x * 2 ^ m) ||| BitVec.ofInt k.bits y).toNat : Int) := rfl
    rw [e2, BitVec.toNat_or, hn _ hm0 (by omega), hn _ hy0 (by omega), hor]
    congr 1; omega
  · have e2 : bits .or k y (x * 2 ^ m) = k.wrap ((BitVec.ofInt k.bits y ||| BitVec.ofInt k.bits (x * 2 ^ m)).toNat : Int) := rfl
    rw [e2, BitVec.toNat_or, hn _ hm0 (by omega), hn _ hy0 (by omega), Nat.or_comm, hor]
    congr 1; omega
/-- c = 2^m. -/
def pow2 : Int → Option Nat
  | .ofNat a => if Nat.beq (2 ^ a.log2) a then some a.log2 else none
  | _ => none
theorem pow2_eq {n : Int} {m : Nat} (h : pow2 n = some m) : n = 2 ^ m := by
  cases n with
  | ofNat a =>
    simp only [pow2] at h
    split at h
    · rename_i hb
      have hb := Nat.eq_of_beq_eq_true hb
      simp only [Option.some.injEq] at h
      subst h
      have : ((2 ^ a.log2 : Nat) : Int) = (a : Int) := by rw [hb]
      push_cast at this
      rw [this]; rfl
    · cases h
  | negSucc a => cases h
/-- x = a * 2^m without a wrap and y within [0, 2^m): either of them or the other is their sum. -/
def apartB (as : Asm) (k : IntKind) (x y : IExp) : Bool :=
  match x with
  | .bin .mul k' a c => match isLit c with
    | some n => match pow2 n with
      | some _ => (match a.rng as, y.rng as with
        | some (l, h), some (l', h') => decide (0 ≤ l) && decide (0 ≤ l') && decide (h' < n) && inKind k' (some (0, h * n)) && decide (h * n + h' ≤ k.max)
        | _, _ => false)
      | none => false
    | none => false
  | _ => false
theorem apartB_ok {e : Env} (ok : EnvOk e) {as : Asm} (ha : AsmOk e as) {k : IntKind} {x y : IExp} (h : apartB as k x y = true) :
    bits .or k (x.den e) (y.den e) = k.wrap (x.den e + y.den e) ∧ bits .or k (y.den e) (x.den e) = k.wrap (y.den e + x.den e) := by
  unfold apartB at h
  split at h
  · rename_i k' a c
    split at h
    · rename_i n hn
      have := isLit_eq hn
      subst this
      split at h
      · rename_i m hm
        have hm := pow2_eq hm
        have ra := IExp.rng_ok ok ha a
        have ry := IExp.rng_ok ok ha y
        split at h
        · rename_i l u l' u' e1 e2
          rw [e1] at ra; rw [e2] at ry
          simp only [Bool.and_eq_true, decide_eq_true_eq] at h
          obtain ⟨⟨⟨⟨h1, h2⟩, h3⟩, h4⟩, h5⟩ := h
          obtain ⟨a1, a2⟩ := ra; obtain ⟨y1, y2⟩ := ry
          have hp : (0 : Int) < n := by rw [hm]; exact_mod_cast Nat.two_pow_pos m
          have m1 : a.den e * n ≤ u * n := Int.mul_le_mul_of_nonneg_right a2 (by omega)
          have m0 : 0 ≤ a.den e * n := Int.mul_nonneg (by omega) (by omega)
          have ex : (IExp.bin .mul k' a (.lit n)).den e = a.den e * n := by
            show k'.wrap (a.den e * n) = _
            exact wrap_id (inKind_spec h4 ⟨m0, m1⟩)
          rw [ex]
          subst hm
          exact bits_or (by omega) (by omega) (by omega) (by omega)
        · cases h
      · cases h
    · cases h
  · cases h

/-- x a number of which y fills the low zeros. -/
def apartL (k : IntKind) (n : Int) : Option (Int × Int) → Bool
  | some (l, h) => decide (0 ≤ n) && decide (0 ≤ l) && decide (n % 2 ^ (h.toNat.log2 + 1) = 0) && decide (n + h ≤ k.max)
  | none => false
theorem apartL_ok {k : IntKind} {n y : Int} {r : Option (Int × Int)} (h : apartL k n r = true) (hy : InR y r) : bits .or k n y = k.wrap (n + y) ∧ bits .or k y n = k.wrap (y + n) := by
  unfold apartL at h
  split at h
  · rename_i l u
    simp only [Bool.and_eq_true, decide_eq_true_eq] at h
    obtain ⟨⟨⟨h1, h2⟩, h3⟩, h4⟩ := h
    obtain ⟨y1, y2⟩ := hy
    have hlt : u < 2 ^ (u.toNat.log2 + 1) := by
      have := Nat.lt_log2_self (n := u.toNat)
      have e1 : ((2 ^ (u.toNat.log2 + 1) : Nat) : Int) = 2 ^ (u.toNat.log2 + 1) := by push_cast; rfl
      omega
    have e2 : n = n / 2 ^ (u.toNat.log2 + 1) * 2 ^ (u.toNat.log2 + 1) := by
      have := Int.ediv_mul_add_emod n (2 ^ (u.toNat.log2 + 1))
      omega
    have hp : (0 : Int) < 2 ^ (u.toNat.log2 + 1) := by exact_mod_cast Nat.two_pow_pos _
    have hq : 0 ≤ n / 2 ^ (u.toNat.log2 + 1) := Int.ediv_nonneg h1 (by omega)
    have := bits_or (k := k) (x := n / 2 ^ (u.toNat.log2 + 1)) (y := y) (m := u.toNat.log2 + 1) hq (by omega) (by omega) (by rw [← e2]; omega)
    rw [← e2] at this
    exact this
  · cases h
def apartX (as : Asm) (k : IntKind) (x y : IExp) : Bool := apartB as k x y || (match isLit x with
  | some n => apartL k n (y.rng as)
  | none => false)
theorem apartX_ok {e : Env} (ok : EnvOk e) {as : Asm} (ha : AsmOk e as) {k : IntKind} {x y : IExp} (h : apartX as k x y = true) :
    bits .or k (x.den e) (y.den e) = k.wrap (x.den e + y.den e) ∧ bits .or k (y.den e) (x.den e) = k.wrap (y.den e + x.den e) := by
  simp only [apartX, Bool.or_eq_true] at h
  rcases h with h | h
  · exact apartB_ok ok ha h
  · split at h
    · rename_i n hn
      rw [isLit_eq hn, litD]
      exact apartL_ok h (IExp.rng_ok ok ha y)
    · cases h
def nonneg (k : IntKind) : Option (Int × Int) → Bool
  | some (l, h) => decide (0 ≤ l) && decide (h ≤ k.max)
  | none => false
def mkAnd (as : Asm) (k : IntKind) (x y : IExp) : IExp :=
  match isLit y with
  | some n => match maskM n with
    | some m => if nonneg k (x.rng as) && decide (n ≤ k.max) then mkRem as x (2 ^ m) else mkBin .and k x y
    | none => mkBin .and k x y
  | none => mkBin .and k x y
/-- The shifts' and the quotients' texts are one. -/
def mkShr (as : Asm) (k : IntKind) (x y : IExp) : IExp :=
  match isLit y with
  | some n => if geZ (x.rng as) && inKind .i64 (x.rng as) then mkQuo as x (2 ^ min n.toNat k.bits) else settle as (mkBin .shr k x y)
  | none => settle as (mkBin .shr k x y)
def mkDiv (as : Asm) (k : IntKind) (x y : IExp) : IExp :=
  match isLit y with
  | some n => if geZ (x.rng as) && inKind .i64 (x.rng as) && inKind k (x.rng as) && decide (0 < n) then mkQuo as x n else settle as (mkBin .quo k x y)
  | none => settle as (mkBin .quo k x y)
def mkMod (as : Asm) (k : IntKind) (x y : IExp) : IExp :=
  match isLit y with
  | some n => if geZ (x.rng as) && decide (0 < n) then mkRem as x n else settle as (mkBin .rem k x y)
  | none => settle as (mkBin .rem k x y)
def mkBinR (as : Asm) (op : BinOp) (k : IntKind) (x y : IExp) : IExp :=
  match op with
  | .add => mkAdd as k x y
  | .sub => mkSub as k x y
  | .mul => mkMul as k x y
  | .and => mkAnd as k x y
  | .or => if apartX as k x y || apartX as k y x then mkAdd as k x y else mkBin .or k x y
  | .shr => mkShr as k x y
  | .shl => (match isLit y with
    | some n => mkMul as k x (.lit (2 ^ min n.toNat k.bits))
    | none => mkBin .shl k x y)
  | .quo => mkDiv as k x y
  | .rem => mkMod as k x y
  | op => mkBin op k x y
theorem mkBinR_den {e : Env} (ok : EnvOk e) {as : Asm} (ha : AsmOk e as) {op : BinOp} {k : IntKind} {x y : IExp} : (mkBinR as op k x y).den e = binDen op k (x.den e) (y.den e) := by
  unfold mkBinR
  split
  · exact mkAdd_den ok ha
  · exact mkSub_den ok ha
  · exact mkMul_den ok ha
  · unfold mkAnd
    split
    · rename_i n hn
      have hn := isLit_eq hn
      subst hn
      split
      · rename_i m hm
        have hm := maskM_eq hm
        split
        · rename_i hc
          simp only [Bool.and_eq_true, decide_eq_true_eq] at hc
          have hr := IExp.rng_ok ok ha x
          subst hm
          cases hx : x.rng as with
          | none => rw [hx] at hc; simp [nonneg] at hc
          | some q =>
            obtain ⟨l, u⟩ := q
            rw [hx] at hc hr
            simp only [nonneg, Bool.and_eq_true, decide_eq_true_eq] at hc
            have h1 := hr.1
            have h2 := hr.2
            rw [mkRem_den ok ha (by omega), litD]
            simp only [binDen]
            rw [bits_mask (by omega) (by omega) hc.2]
        · exact mkBin_den
      · exact mkBin_den
    · exact mkBin_den
  · split
    · rename_i h
      rw [mkAdd_den ok ha]
      simp only [Bool.or_eq_true] at h
      rcases h with h | h
      · exact (apartX_ok ok ha h).1.symm
      · exact (apartX_ok ok ha h).2.symm
    · exact mkBin_den
  · unfold mkShr
    split
    · rename_i n hn
      have hn := isLit_eq hn
      subst hn
      split
      · rename_i hc
        simp only [Bool.and_eq_true] at hc
        have hr := IExp.rng_ok ok ha x
        have hz := geZ_ok hc.1 hr
        have hp : (0 : Int) < 2 ^ min n.toNat k.bits := by exact_mod_cast Nat.two_pow_pos _
        rw [mkQuo_den ok ha hz (inKind_spec hc.2 hr) hp, litD]
        simp only [binDen]
        rw [Int.fdiv_eq_ediv_of_nonneg _ (by omega)]
      · rw [settle_den ok ha, mkBin_den]
    · rw [settle_den ok ha, mkBin_den]
  · split
    · rename_i n hn
      rw [isLit_eq hn, mkMul_den ok ha, litD, litD]; rfl
    · exact mkBin_den
  · unfold mkDiv
    split
    · rename_i n hn
      have hn := isLit_eq hn
      subst hn
      split
      · rename_i hc
        simp only [Bool.and_eq_true, decide_eq_true_eq] at hc
        obtain ⟨⟨⟨h1, h2⟩, h3⟩, h4⟩ := hc
        have hr := IExp.rng_ok ok ha x
        have hz := geZ_ok h1 hr
        rw [mkQuo_den ok ha hz (inKind_spec h2 hr) h4, litD]
        simp only [binDen]
        rw [Int.tdiv_eq_ediv_of_nonneg hz, wrap_id]
        have d0 := Int.ediv_nonneg hz (show 0 ≤ n by omega)
        have d1 := Int.ediv_le_self n hz
        have k1 := inKind_spec h3 hr
        exact ⟨by have := (zero_in k).1; omega, by have := k1.2; omega⟩
      · rw [settle_den ok ha, mkBin_den]
    · rw [settle_den ok ha, mkBin_den]
  · unfold mkMod
    split
    · rename_i n hn
      have hn := isLit_eq hn
      subst hn
      split
      · rename_i hc
        simp only [Bool.and_eq_true, decide_eq_true_eq] at hc
        have hz := geZ_ok hc.1 (IExp.rng_ok ok ha x)
        rw [mkRem_den ok ha hz, litD]; rfl
      · rw [settle_den ok ha, mkBin_den]
    · rw [settle_den ok ha, mkBin_den]
  · exact mkBin_den

def mkNot : BExp → BExp
  | .lit b => .lit (!b)
  | .not x => x
  | x => .not x
theorem mkNot_den {e : Env} {x : BExp} : (mkNot x).den e = !(x.den e) := by
  unfold mkNot; split <;> simp [BExp.den]
def mkEq (as : Asm) (x y : IExp) : BExp :=
  match isLit x, isLit y with
  | some a, some b => .lit (decide (a = b))
  | some n, none => (match split as y with | (a, c) => .eq a (.lit (n - c)))
  | none, some n => (match split as x with | (a, c) => .eq a (.lit (n - c)))
  | none, none => (match split as x, split as y with | (a, c), (b, d) => if c = d then .eq a b else .eq x y)
theorem mkEq_den {e : Env} (ok : EnvOk e) {as : Asm} (ha : AsmOk e as) {x y : IExp} : (mkEq as x y).den e = decide (x.den e = y.den e) := by
  unfold mkEq
  have hx := split_ok ok ha x
  have hy := split_ok ok ha y
  split
  · rename_i a b h1 h2; rw [isLit_eq h1, isLit_eq h2]; rfl
  · rename_i n h1 h2
    rw [isLit_eq h1, litD]
    simp only [BExp.den, litD]
    exact decide_same (by omega)
  · rename_i n h1 h2
    rw [isLit_eq h2, litD]
    simp only [BExp.den, litD]
    exact decide_same (by omega)
  · simp only
    split
    · simp only [BExp.den]; exact decide_same (by omega)
    · simp only [BExp.den]
def mkLe (as : Asm) (x y : IExp) : BExp :=
  match isLit x, isLit y with
  | some a, some b => .lit (decide (a ≤ b))
  | some n, none => (match split as y with | (b, c) => mkNot (.le b (.lit (n - c - 1))))
  | none, some n => (match split as x with | (a, c) => .le a (.lit (n - c)))
  | none, none => (match split as x, split as y with | (a, c), (b, d) => if c = d then .le a b else if c = d + 1 then .lt a b else .le x y)
theorem mkLe_den {e : Env} (ok : EnvOk e) {as : Asm} (ha : AsmOk e as) {x y : IExp} : (mkLe as x y).den e = decide (x.den e ≤ y.den e) := by
  unfold mkLe
  have hx := split_ok ok ha x
  have hy := split_ok ok ha y
  split
  · rename_i a b h1 h2; rw [isLit_eq h1, isLit_eq h2]; rfl
  · rename_i n h1 h2
    rw [isLit_eq h1, litD]
    simp only [mkNot_den, le_den, litD]
    exact not_decide_same (by omega)
  · rename_i n h1 h2
    rw [isLit_eq h2, litD]
    simp only [le_den, litD]
    exact decide_same (by omega)
  · simp only
    split
    · simp only [le_den]; exact decide_same (by omega)
    · split
      · simp only [BExp.den]; exact decide_same (by omega)
      · simp only [le_den]
def mkLt (as : Asm) (x y : IExp) : BExp :=
  match isLit x, isLit y with
  | some a, some b => .lit (decide (a < b))
  | some n, none => (match split as y with | (b, c) => mkNot (.le b (.lit (n - c))))
  | none, some n => (match split as x with | (a, c) => .le a (.lit (n - c - 1)))
  | none, none => (match split as x, split as y with | (a, c), (b, d) => if c = d then .lt a b else if d = c + 1 then .le a b else .lt x y)
theorem mkLt_den {e : Env} (ok : EnvOk e) {as : Asm} (ha : AsmOk e as) {x y : IExp} : (mkLt as x y).den e = decide (x.den e < y.den e) := by
  unfold mkLt
  have hx := split_ok ok ha x
  have hy := split_ok ok ha y
  split
  · rename_i a b h1 h2; rw [isLit_eq h1, isLit_eq h2]; rfl
  · rename_i n h1 h2
    rw [isLit_eq h1, litD]
    simp only [mkNot_den, le_den, litD]
    exact not_decide_same (by omega)
  · rename_i n h1 h2
    rw [isLit_eq h2, litD]
    simp only [le_den, litD]
    exact decide_same (by omega)
  · simp only
    split
    · simp only [BExp.den]; exact decide_same (by omega)
    · split
      · simp only [le_den]; exact decide_same (by omega)
      · simp only [BExp.den]
/-! ### Lists -/
def knows (as : Asm) (b : BExp) : Bool := match decideB as b with
  | some v => v
  | none => false
theorem knows_ok {e : Env} (ok : EnvOk e) {as : Asm} (ha : AsmOk e as) {b : BExp} (h : knows as b = true) : b.den e = true := by
  unfold knows at h
  split at h
  · rename_i v hv
    subst h
    exact decideB_ok ok ha hv
  · cases h
/-- Facts b ≤ s - a. -/
def subFacts (as : Asm) (a b : IExp) : List IExp := as.filterMap fun p => match p with
  | (.lt (.bin .sub .i64 s x) y, false) => if x.same a && y.same b then some s else none
  | (.le y (.bin .sub .i64 s x), true) => if x.same a && y.same b then some s else none
  | _ => none
theorem subFacts_ok {e : Env} {as : Asm} (ha : AsmOk e as) {a b s : IExp} (h : s ∈ subFacts as a b) : b.den e ≤ IntKind.i64.wrap (s.den e - a.den e) := by
  obtain ⟨p, hp, hs⟩ := List.mem_filterMap.1 h
  have hd := ha p hp
  split at hs
  · split at hs
    · rename_i hc
      simp only [Bool.and_eq_true] at hc
      cases hs
      rw [← IExp.same_eq _ _ hc.1, ← IExp.same_eq _ _ hc.2]
      have := ltF hd
      simp only [IExp.den, binDen] at this
      omega
    · cases hs
  · split at hs
    · rename_i hc
      simp only [Bool.and_eq_true] at hc
      cases hs
      rw [← IExp.same_eq _ _ hc.1, ← IExp.same_eq _ _ hc.2]
      have := leT hd
      simp only [IExp.den, binDen] at this
      omega
    · cases hs
  · cases hs
def addFits (as : Asm) (a b l : IExp) : Bool := geZ (a.rng as) && inKind .i64 (a.rng as) && (subFacts as a b).any fun s => geZ (s.rng as) && inKind .i64 (s.rng as) && knows as (mkLe as s l)
theorem addFits_ok {e : Env} (ok : EnvOk e) {as : Asm} (ha : AsmOk e as) {a b l : IExp} (h : addFits as a b l = true) : a.den e + b.den e ≤ l.den e := by
  simp only [addFits, Bool.and_eq_true, List.any_eq_true] at h
  obtain ⟨⟨h1, h2⟩, s, hs, ⟨h3, h4⟩, h5⟩ := h
  have g1 := geZ_ok h1 (IExp.rng_ok ok ha a)
  have g2 := inKind_spec h2 (IExp.rng_ok ok ha a)
  have g3 := geZ_ok h3 (IExp.rng_ok ok ha s)
  have g4 := inKind_spec h4 (IExp.rng_ok ok ha s)
  have g5 := knows_ok ok ha h5
  rw [mkLe_den ok ha] at g5
  have g5 := of_decide_eq_true g5
  have g6 := subFacts_ok ha hs
  obtain ⟨k1, k2⟩ := g2
  obtain ⟨k3, k4⟩ := g4
  simp only [IntKind.min_i64, IntKind.max_i64] at k1 k2 k3 k4
  rw [wrap_id ⟨by simp only [IntKind.min_i64]; omega, by simp only [IntKind.max_i64]; omega⟩] at g6
  omega
def addLe (as : Asm) (x y : IExp) : Bool := match x with
  | .bin .add .i64 a b => inKind .i64 (addR2 (a.rng as) (b.rng as)) && (addFits as a b y || addFits as b a y)
  | _ => false
def knowsLe (as : Asm) (x y : IExp) : Bool := knows as (mkLe as x y) || addLe as x y
def knowsLt (as : Asm) (x y : IExp) : Bool := knows as (mkLt as x y)
theorem knowsLe_ok {e : Env} (ok : EnvOk e) {as : Asm} (ha : AsmOk e as) {x y : IExp} (h : knowsLe as x y = true) : x.den e ≤ y.den e := by
  simp only [knowsLe, Bool.or_eq_true] at h
  rcases h with h | h
  · have := knows_ok ok ha h
    rw [mkLe_den ok ha] at this
    exact of_decide_eq_true this
  · unfold addLe at h
    split at h
    · rename_i a b
      simp only [Bool.and_eq_true, Bool.or_eq_true] at h
      have hr := inKind_spec h.1 (addR2_ok (IExp.rng_ok ok ha a) (IExp.rng_ok ok ha b))
      simp only [IExp.den, binDen]
      rw [wrap_id hr]
      rcases h.2 with h2 | h2
      · exact addFits_ok ok ha h2
      · have := addFits_ok ok ha h2
        omega
    · cases h
theorem knowsLt_ok {e : Env} (ok : EnvOk e) {as : Asm} (ha : AsmOk e as) {x y : IExp} (h : knowsLt as x y = true) : x.den e < y.den e := by
  have := knows_ok ok ha h
  rw [mkLt_den ok ha] at this
  exact of_decide_eq_true this
/-- x + y without a wrap. -/
def sumI (as : Asm) (x y : IExp) : Option IExp := if inKind .i64 (addR2 (x.rng as) (y.rng as)) then some (mkAdd as .i64 x y) else none
theorem sumI_ok {e : Env} (ok : EnvOk e) {as : Asm} (ha : AsmOk e as) {x y z : IExp} (h : sumI as x y = some z) : z.den e = x.den e + y.den e := by
  unfold sumI at h
  split at h
  · rename_i hk
    cases h
    rw [mkAdd_den ok ha]
    exact wrap_id (inKind_spec hk (addR2_ok (IExp.rng_ok ok ha x) (IExp.rng_ok ok ha y)))
  · cases h
/-- x - y, both ints not below 0. -/
def lessI (as : Asm) (x y : IExp) : Option IExp := if inM 9223372036854775808 (x.rng as) && inM 9223372036854775808 (y.rng as) then some (mkSub as .i64 x y) else none
theorem lessI_ok {e : Env} (ok : EnvOk e) {as : Asm} (ha : AsmOk e as) {x y z : IExp} (h : lessI as x y = some z) : z.den e = x.den e - y.den e := by
  unfold lessI at h
  split at h
  · rename_i hk
    cases h
    simp only [Bool.and_eq_true] at hk
    have h1 := inM_ok hk.1 (IExp.rng_ok ok ha x)
    have h2 := inM_ok hk.2 (IExp.rng_ok ok ha y)
    rw [mkSub_den ok ha]
    refine wrap_id ⟨?_, ?_⟩
    · simp only [IntKind.min_i64]; omega
    · simp only [IntKind.max_i64]; omega
  · cases h

/-- Not below 0. -/
def nnI (as : Asm) (x : IExp) : Bool := geZ (x.rng as) || knowsLe as (.lit 0) x
theorem nnI_ok {e : Env} (ok : EnvOk e) {as : Asm} (ha : AsmOk e as) {x : IExp} (h : nnI as x = true) : 0 ≤ x.den e := by
  simp only [nnI, Bool.or_eq_true] at h
  rcases h with h | h
  · exact geZ_ok h (IExp.rng_ok ok ha x)
  · have := knowsLe_ok ok ha h
    rwa [litD] at this
/-- What a text is known to be. -/
def knownAs (x : IExp) : Asm → IExp
  | [] => x
  | (.eq y z, true) :: r => cond (y.same x) z (knownAs x r)
  | _ :: r => knownAs x r
theorem knownAs_den {e : Env} {x : IExp} : ∀ {as : Asm}, AsmOk e as → (knownAs x as).den e = x.den e
  | [], _ => rfl
  | p :: r, ha => by
    have hr : AsmOk e r := fun q hq => ha q (List.mem_cons_of_mem _ hq)
    unfold knownAs
    split
    · rename_i heq; cases heq
    · rename_i y z r' heq
      cases heq
      cases hs : y.same x with
      | true =>
        have := IExp.same_eq _ _ hs
        subst this
        exact (eqT (ha _ List.mem_cons_self)).symm
      | false => exact knownAs_den hr
    · rename_i heq
      cases heq
      exact knownAs_den hr
def mkLen (as : Asm) : AExp → IExp
  | .upd a _ _ => mkLen as a
  | .nil => .lit 0
  | .one _ => .lit 1
  | .cst l => .lit l.length
  | .zeros n => if geZ (n.rng as) then n else .len (.zeros n)
  | .cat x y => match sumI as (mkLen as x) (mkLen as y) with
    | some z => z
    | none => .len (.cat x y)
  | .sub a i n => match sumI as i n with
    | some z => if nnI as i && nnI as n && knowsLe as z (mkLen as a) then n else .len (.sub a i n)
    | none => .len (.sub a i n)
  | .var k i => knownAs (.len (.var k i)) as
  | .fn k f j l => knownAs (.len (.fn k f j l)) as
theorem mkLen_den {e : Env} (ok : EnvOk e) {as : Asm} (ha : AsmOk e as) : ∀ (a : AExp), (mkLen as a).den e = ((a.den e).length : Int)
  | .upd a i v => by simp only [mkLen, AExp.den, List.length_set]; exact mkLen_den ok ha a
  | .nil => rfl
  | .one _ => rfl
  | .cst l => rfl
  | .zeros n => by
    simp only [mkLen]
    split
    · rename_i h
      have := geZ_ok h (IExp.rng_ok ok ha n)
      simp only [AExp.den, List.length_replicate]; omega
    · rfl
  | .cat x y => by
    simp only [mkLen]
    split
    · rename_i z hz
      rw [sumI_ok ok ha hz, mkLen_den ok ha x, mkLen_den ok ha y]
      simp [AExp.den]
    · rfl
  | .sub a i n => by
    simp only [mkLen]
    split
    · rename_i z hz
      split
      · rename_i hc
        simp only [Bool.and_eq_true] at hc
        have h1 := nnI_ok ok ha hc.1.1
        have h2 := nnI_ok ok ha hc.1.2
        have h3 := knowsLe_ok ok ha hc.2
        rw [sumI_ok ok ha hz, mkLen_den ok ha a] at h3
        simp only [AExp.den, List.length_take, List.length_drop]; omega
      · rfl
    · rfl
  | .var k i => knownAs_den ha
  | .fn k f j l => knownAs_den ha

def mkSel (as : Asm) (k : IntKind) : AExp → IExp → IExp
  | .upd a j v, i => match decideB as (mkEq as i j) with
    | some true => v
    | some false => if geZ (j.rng as) then mkSel as k a i else .sel k (.upd a j v) i
    | none => .sel k (.upd a j v) i
  | .one x, _ => x
  | .zeros _, _ => .lit 0
  | .cst l, i => match isLit i with
    | some n => .lit (l.getD n.toNat 0)
    | none => .sel k (.cst l) i
  | .cat x y, i => match decideB as (mkLt as i (mkLen as x)) with
    | some true => mkSel as k x i
    | some false => (match lessI as i (mkLen as x) with
      | some j => mkSel as k y j
      | none => .sel k (.cat x y) i)
    | none => .sel k (.cat x y) i
  | .sub a j n, i => match sumI as j i with
    | some z => if geZ (j.rng as) then mkSel as k a z else .sel k (.sub a j n) i
    | none => .sel k (.sub a j n) i
  | .nil, i => .sel k .nil i
  | .var k' j, i => .sel k (.var k' j) i
  | .fn k' f j l, i => .sel k (.fn k' f j l) i
theorem mkSel_den {e : Env} (ok : EnvOk e) {as : Asm} (ha : AsmOk e as) {k : IntKind} : ∀ (a : AExp) (i : IExp), 0 ≤ i.den e → i.den e < ((a.den e).length : Int) → (mkSel as k a i).den e = (a.den e).getD (i.den e).toNat 0
  | .upd a j v, i, h0, hn => by
    simp only [mkSel]
    have hn' : i.den e < ((a.den e).length : Int) := by simpa only [AExp.den, List.length_set] using hn
    split
    · rename_i hd
      have := decideB_ok ok ha hd
      rw [mkEq_den ok ha] at this
      have := of_decide_eq_true this
      simp only [AExp.den]
      rw [this, List.getD_eq_getElem?_getD, List.getElem?_set_self (by omega)]; rfl
    · rename_i hd
      have := decideB_ok ok ha hd
      rw [mkEq_den ok ha] at this
      have hne := of_decide_eq_false this
      split
      · rename_i hz
        have := geZ_ok hz (IExp.rng_ok ok ha j)
        rw [mkSel_den ok ha a i h0 hn']
        simp only [AExp.den]
        rw [List.getD_eq_getElem?_getD, List.getD_eq_getElem?_getD, List.getElem?_set_ne (by omega)]
      · rfl
    · rfl
  | .one x, i, h0, hn => by
    simp only [AExp.den, List.length_singleton] at hn
    have : (i.den e).toNat = 0 := by omega
    simp [mkSel, AExp.den, this]
  | .zeros n, i, h0, hn => by
    simp only [mkSel, AExp.den, IExp.den]
    rw [List.getD_eq_getElem?_getD, List.getElem?_replicate]
    split <;> rfl
  | .cst l, i, h0, hn => by
    simp only [mkSel]
    split
    · rename_i n h
      rw [isLit_eq h]; rfl
    · rfl
  | .cat x y, i, h0, hn => by
    simp only [mkSel]
    split
    · rename_i hd
      have := decideB_ok ok ha hd
      rw [mkLt_den ok ha, mkLen_den ok ha] at this
      have hlt := of_decide_eq_true this
      rw [mkSel_den ok ha x i h0 hlt]
      simp only [AExp.den]
      rw [List.getD_eq_getElem?_getD, List.getD_eq_getElem?_getD, List.getElem?_append_left (by omega)]
    · rename_i hd
      have := decideB_ok ok ha hd
      rw [mkLt_den ok ha, mkLen_den ok ha] at this
      have hge := of_decide_eq_false this
      split
      · rename_i j hj
        have hj := lessI_ok ok ha hj
        rw [mkLen_den ok ha] at hj
        simp only [AExp.den, List.length_append] at hn
        rw [mkSel_den ok ha y j (by omega) (by omega)]
        simp only [AExp.den]
        rw [List.getD_eq_getElem?_getD, List.getD_eq_getElem?_getD, List.getElem?_append_right (by omega)]
        congr 2; omega
      · rfl
    · rfl
  | .sub a j n, i, h0, hn => by
    simp only [mkSel]
    split
    · rename_i z hz
      have hz := sumI_ok ok ha hz
      split
      · rename_i hj
        have := geZ_ok hj (IExp.rng_ok ok ha j)
        simp only [AExp.den, List.length_take, List.length_drop] at hn
        rw [mkSel_den ok ha a z (by omega) (by omega)]
        simp only [AExp.den]
        rw [List.getD_eq_getElem?_getD, List.getD_eq_getElem?_getD, List.getElem?_take_of_lt (by omega), List.getElem?_drop]
        congr 2; omega
      · rfl
    · rfl
  | .nil, i, h0, hn => rfl
  | .var k' j, i, h0, hn => rfl
  | .fn k' f j l, i, h0, hn => rfl

def mkUpd (as : Asm) : AExp → IExp → IExp → AExp
  | .upd a j w, i, v => if i.same j then .upd a j v else .upd (.upd a j w) i v
  | .cst l, i, v => match isLit i, isLit v with
    | some n, some m => .cst (l.set n.toNat m)
    | _, _ => .upd (.cst l) i v
  | .one x, i, v => if isZ i then .one v else .upd (.one x) i v
  | .cat x y, i, v => if geZ (i.rng as) then (match decideB as (mkLt as i (mkLen as x)) with
    | some true => .cat (mkUpd as x i v) y
    | some false => (match lessI as i (mkLen as x) with
      | some j => .cat x (mkUpd as y j v)
      | none => .upd (.cat x y) i v)
    | none => .upd (.cat x y) i v) else .upd (.cat x y) i v
  | a, i, v => .upd a i v
theorem mkUpd_den {e : Env} (ok : EnvOk e) {as : Asm} (ha : AsmOk e as) : ∀ (a : AExp) (i v : IExp), (mkUpd as a i v).den e = (a.den e).set (i.den e).toNat (v.den e)
  | .upd a j w, i, v => by
    simp only [mkUpd]
    split
    · rename_i hs
      rw [IExp.same_eq _ _ hs]
      simp only [AExp.den, List.set_set]
    · rfl
  | .cst l, i, v => by
    simp only [mkUpd]
    split
    · rename_i n m h1 h2
      rw [isLit_eq h1, isLit_eq h2]; rfl
    · rfl
  | .one x, i, v => by
    simp only [mkUpd]
    split
    · rename_i h
      rw [isZ_eq h]; rfl
    · rfl
  | .cat x y, i, v => by
    simp only [mkUpd]
    split
    · rename_i hz
      have h0 := geZ_ok hz (IExp.rng_ok ok ha i)
      split
      · rename_i hd
        have := decideB_ok ok ha hd
        rw [mkLt_den ok ha, mkLen_den ok ha] at this
        have hlt := of_decide_eq_true this
        simp only [AExp.den]
        rw [mkUpd_den ok ha x i v, List.set_append_left _ _ (by omega)]
      · rename_i hd
        have := decideB_ok ok ha hd
        rw [mkLt_den ok ha, mkLen_den ok ha] at this
        have hge := of_decide_eq_false this
        split
        · rename_i j hj
          have hj := lessI_ok ok ha hj
          rw [mkLen_den ok ha] at hj
          simp only [AExp.den]
          rw [mkUpd_den ok ha y j v, List.set_append_right _ _ (by omega)]
          congr 2; omega
        · rfl
      · rfl
    · rfl
  | .nil, i, v => rfl
  | .zeros n, i, v => rfl
  | .sub a j n, i, v => rfl
  | .var k' j, i, v => rfl
  | .fn k' f j l, i, v => rfl

def mkOne (x : IExp) : AExp := match isLit x with
  | some n => .cst [n]
  | none => .one x
theorem mkOne_den {e : Env} {x : IExp} : (mkOne x).den e = [x.den e] := by
  unfold mkOne
  split
  · rename_i n h
    rw [isLit_eq h]; rfl
  · rfl
def catCst (l : List Int) : AExp → AExp
  | .nil => .cst l
  | .cst m => .cst (l ++ m)
  | .cat x z => (match x with
    | .cst m => .cat (.cst (l ++ m)) z
    | x => .cat (.cst l) (.cat x z))
  | y => .cat (.cst l) y
theorem catCst_den {e : Env} {l : List Int} : ∀ {y : AExp}, (catCst l y).den e = l ++ y.den e := by
  intro y
  unfold catCst
  split
  · simp [AExp.den]
  · simp [AExp.den]
  · split <;> simp [AExp.den]
  · simp [AExp.den]
def mkCat : AExp → AExp → AExp
  | .nil, y => y
  | .cst l, y => catCst l y
  | .cat a b, y => (match a with
    | .cst l => catCst l (mkCat b y)
    | a => .cat a (mkCat b y))
  | x, y => (match y with
    | .nil => x
    | y => .cat x y)
theorem mkCat_den {e : Env} : ∀ {x y : AExp}, (mkCat x y).den e = x.den e ++ y.den e
  | .nil, y => by simp [mkCat, AExp.den]
  | .cst l, y => by simp [mkCat, catCst_den, AExp.den]
  | .cat a b, y => by
    have h := mkCat_den (e := e) (x := b) (y := y)
    simp only [mkCat]
    split
    · rw [catCst_den, h]; simp [AExp.den]
    · simp only [AExp.den, h, List.append_assoc]
  | .upd a i v, y => by simp only [mkCat]; split <;> simp [AExp.den]
  | .one x, y => by simp only [mkCat]; split <;> simp [AExp.den]
  | .zeros n, y => by simp only [mkCat]; split <;> simp [AExp.den]
  | .sub a i n, y => by simp only [mkCat]; split <;> simp [AExp.den]
  | .var k i, y => by simp only [mkCat]; split <;> simp [AExp.den]
  | .fn k f j l, y => by simp only [mkCat]; split <;> simp [AExp.den]

def onlyZ : Option (Int × Int) → Bool
  | some (l, h) => decide (l = 0) && decide (h = 0)
  | none => false
theorem onlyZ_ok {x : Int} {r : Option (Int × Int)} (h : onlyZ r = true) (hx : InR x r) : x = 0 := by
  cases r with
  | none => cases h
  | some p =>
    obtain ⟨l, u⟩ := p
    simp only [onlyZ, Bool.and_eq_true, decide_eq_true_eq] at h
    obtain ⟨rfl, rfl⟩ := h
    obtain ⟨h1, h2⟩ := hx
    omega
def mkPart (as : Asm) : AExp → IExp → IExp → AExp := fun a i n =>
  if isZ n || onlyZ (n.rng as) then .nil else if isZ i && (n.same (mkLen as a) || knows as (mkEq as n (mkLen as a))) then a else subCore as a i n
where
  subCore (as : Asm) : AExp → IExp → IExp → AExp
  | .cst l, i, n => match isLit i, isLit n with
    | some a, some b => .cst ((l.drop a.toNat).take b.toNat)
    | _, _ => .sub (.cst l) i n
  | .sub a j m, i, n => match sumI as i n, sumI as j i with
    | some z, some w => if nnI as i && nnI as j && nnI as n && knowsLe as z m then subCore as a w n else .sub (.sub a j m) i n
    | _, _ => .sub (.sub a j m) i n
  | .cat x y, i, n => if nnI as i && nnI as n then (match sumI as i n, lessI as i (mkLen as x), lessI as n (mkLen as x) with
    | some z, some w, some u =>
      if knowsLe as z (mkLen as x) then subCore as x i n
      else if knowsLe as (mkLen as x) i then subCore as y w n
      else if isZ i && knowsLe as (mkLen as x) n then (if u.same (mkLen as y) then .cat x y else mkCat x (subCore as y (.lit 0) u))
      else .sub (.cat x y) i n
    | _, _, _ => .sub (.cat x y) i n) else .sub (.cat x y) i n
  | .var k j, i, n => if isZ i && n.same (mkLen as (.var k j)) then .var k j else .sub (.var k j) i n
  | a, i, n => .sub a i n
theorem mkPart_den' {e : Env} (ok : EnvOk e) {as : Asm} (ha : AsmOk e as) : ∀ (a : AExp) (i n : IExp), (mkPart.subCore as a i n).den e = ((a.den e).drop (i.den e).toNat).take (n.den e).toNat
  | .cst l, i, n => by
    simp only [mkPart.subCore]
    split
    · rename_i a b h1 h2
      rw [isLit_eq h1, isLit_eq h2]; rfl
    · rfl
  | .sub a j m, i, n => by
    simp only [mkPart.subCore]
    split
    · rename_i z w hz hw
      split
      · rename_i hc
        simp only [Bool.and_eq_true] at hc
        have h1 := nnI_ok ok ha hc.1.1.1
        have h2 := nnI_ok ok ha hc.1.1.2
        have h3 := nnI_ok ok ha hc.1.2
        have h4 := knowsLe_ok ok ha hc.2
        have hz := sumI_ok ok ha hz
        have hw := sumI_ok ok ha hw
        rw [mkPart_den' ok ha a w n]
        simp only [AExp.den, List.drop_take, List.take_take, List.drop_drop]
        congr 1
        · omega
        · congr 1; omega
      · rfl
    · rfl
  | .cat x y, i, n => by
    simp only [mkPart.subCore]
    split
    · rename_i hc
      simp only [Bool.and_eq_true] at hc
      have h1 := nnI_ok ok ha hc.1
      have h2 := nnI_ok ok ha hc.2
      split
      · rename_i z w u hz hw hu
        have hz := sumI_ok ok ha hz
        have hw := lessI_ok ok ha hw
        have hu := lessI_ok ok ha hu
        have hl := mkLen_den ok ha x
        split
        · rename_i hk
          have hk := knowsLe_ok ok ha hk
          rw [mkPart_den' ok ha x i n]
          simp only [AExp.den]
          rw [List.drop_append_of_le_length (by omega), List.take_append_of_le_length (by simp; omega)]
        · split
          · rename_i hk
            have hk := knowsLe_ok ok ha hk
            rw [mkPart_den' ok ha y w n]
            simp only [AExp.den]
            rw [List.drop_append, List.drop_eq_nil_of_le (as := x.den e) (by omega), List.nil_append]
            congr 2; omega
          · split
            · rename_i hk
              simp only [Bool.and_eq_true] at hk
              obtain ⟨hk0, hk⟩ := hk
              have hk := knowsLe_ok ok ha hk
              have hi : i.den e = 0 := by rw [isZ_eq hk0]; rfl
              have e1 : ((x.den e ++ y.den e).drop (i.den e).toNat).take (n.den e).toNat = x.den e ++ (y.den e).take (u.den e).toNat := by
                rw [hi]
                simp only [Int.toNat_zero, List.drop_zero]
                rw [List.take_append, List.take_of_length_le (by omega)]
                congr 2; omega
              split
              · rename_i hs
                have hs := IExp.same_eq _ _ hs
                simp only [AExp.den]
                rw [e1, hs, mkLen_den ok ha, List.take_of_length_le (by omega)]
              · rw [mkCat_den, mkPart_den' ok ha y (.lit 0) u]
                simp only [AExp.den]
                rw [e1]; simp [IExp.den]
            · rfl
      · rfl
    · rfl
  | .upd a j v, i, n => rfl
  | .nil, i, n => rfl
  | .one x, i, n => rfl
  | .zeros m, i, n => rfl
  | .var k' j, i, n => by
    simp only [mkPart.subCore]
    split
    · rename_i h
      simp only [Bool.and_eq_true] at h
      have h1 : i.den e = 0 := by rw [isZ_eq h.1]; rfl
      have h2 := congrArg (IExp.den e) (IExp.same_eq _ _ h.2)
      rw [mkLen_den ok ha] at h2
      rw [h1, Int.toNat_zero, List.drop_zero, List.take_of_length_le (by omega)]
    · rfl
  | .fn k' f j l, i, n => rfl
theorem mkPart_den {e : Env} (ok : EnvOk e) {as : Asm} (ha : AsmOk e as) (a : AExp) (i n : IExp) : (mkPart as a i n).den e = ((a.den e).drop (i.den e).toNat).take (n.den e).toNat := by
  unfold mkPart
  split
  · rename_i h
    have hn : n.den e = 0 := by
      simp only [Bool.or_eq_true] at h
      rcases h with h | h
      · rw [isZ_eq h, litD]
      · exact onlyZ_ok h (IExp.rng_ok ok ha n)
    rw [hn]; simp [AExp.den]
  · split
    · rename_i hc
      simp only [Bool.and_eq_true, Bool.or_eq_true] at hc
      have hs : n.den e = (mkLen as a).den e := by
        rcases hc.2 with h | h
        · rw [IExp.same_eq _ _ h]
        · have := knows_ok ok ha h
          rw [mkEq_den ok ha] at this
          exact of_decide_eq_true this
      rw [isZ_eq hc.1, hs, mkLen_den ok ha]
      simp [IExp.den]
    · exact mkPart_den' ok ha a i n

def conj : List BExp → BExp
  | [] => .lit true
  | [x] => x
  | x :: r => .and x (conj r)
theorem conj_den {e : Env} : ∀ {l : List BExp}, (conj l).den e = l.all (·.den e)
  | [] => rfl
  | [x] => by simp [conj]
  | x :: y :: r => by
    have := conj_den (e := e) (l := y :: r)
    simp only [conj, BExp.den, this, List.all_cons]
/-- The texts that are not the same, each held against the other. -/
def eqs (as : Asm) (x y : AExp) : Nat → List BExp
  | 0 => []
  | n + 1 =>
    let a := mkSel as .u8 x (.lit n)
    let b := mkSel as .u8 y (.lit n)
    eqs as x y n ++ (if a.same b then [] else [mkEq as a b])
theorem eqs_ok {e : Env} (ok : EnvOk e) {as : Asm} (ha : AsmOk e as) (x y : AExp) : ∀ (n : Nat), n ≤ (x.den e).length → n ≤ (y.den e).length → ((eqs as x y n).all (·.den e) = true ↔ (x.den e).take n = (y.den e).take n)
  | 0, _, _ => by simp [eqs]
  | n + 1, hx, hy => by
    have ih := eqs_ok ok ha x y n (by omega) (by omega)
    have dx := mkSel_den ok ha (k := .u8) x (.lit n) (by rw [litD]; omega) (by rw [litD]; omega)
    have dy := mkSel_den ok ha (k := .u8) y (.lit n) (by rw [litD]; omega) (by rw [litD]; omega)
    rw [litD] at dx dy
    rw [Int.toNat_natCast, List.getD_eq_getElem?_getD, List.getElem?_eq_getElem (by omega), Option.getD_some] at dx dy
    rw [List.take_succ_eq_append_getElem (by omega), List.take_succ_eq_append_getElem (by omega)]
    simp only [eqs]
    split
    · rename_i hs
      have hs := IExp.same_eq _ _ hs
      rw [hs, dy] at dx
      rw [List.append_nil, ih, dx]
      constructor
      · intro h; rw [h]
      · intro h; exact (List.append_inj h (by simp; omega)).1
    · rw [List.all_append, Bool.and_eq_true, ih]
      simp only [List.all_cons, List.all_nil, Bool.and_true, mkEq_den ok ha, dx, dy, decide_eq_true_eq]
      constructor
      · rintro ⟨h1, h2⟩; rw [h1, h2]
      · intro h
        have := List.append_inj h (by simp; omega)
        exact ⟨this.1, by simpa using this.2⟩
def cstOf : AExp → Option (List Int)
  | .cst l => some l
  | .nil => some []
  | _ => none
theorem cstOf_den {e : Env} {x : AExp} {l : List Int} (h : cstOf x = some l) : x.den e = l := by
  unfold cstOf at h
  split at h
  · cases h; rfl
  · cases h; rfl
  · cases h
def mkAeq (as : Asm) (x y : AExp) : BExp :=
  if x.same y then .lit true else
  match cstOf x, cstOf y with
  | some l, some m => .lit (decide (l = m))
  | _, _ => match isLit (mkLen as x), isLit (mkLen as y) with
    | some n, some m => if n = m then (if n ≤ 64 then conj (eqs as x y n.toNat) else .aeq x y) else .lit false
    | _, _ => .aeq x y
theorem mkAeq_den {e : Env} (ok : EnvOk e) {as : Asm} (ha : AsmOk e as) {x y : AExp} : (mkAeq as x y).den e = decide (x.den e = y.den e) := by
  unfold mkAeq
  split
  · rename_i hs
    rw [AExp.same_eq _ _ hs]; simp [BExp.den]
  · split
    · rename_i l m h1 h2
      rw [cstOf_den h1, cstOf_den h2]; rfl
    · have lx := mkLen_den ok ha x
      have ly := mkLen_den ok ha y
      split
      · rename_i n m h1 h2
        rw [isLit_eq h1, litD] at lx
        rw [isLit_eq h2, litD] at ly
        split
        · rename_i hnm
          split
          · rw [conj_den, Bool.eq_iff_iff, eqs_ok ok ha x y n.toNat (by omega) (by omega), List.take_of_length_le (by omega), List.take_of_length_le (by omega)]
            simp
          · rfl
        · rename_i hnm
          show false = _
          symm
          refine decide_eq_false fun h => ?_
          rw [h] at lx
          omega
      · rfl

def mkBeq (x y : BExp) : BExp :=
  match x, y with
  | .lit true, y => y
  | .lit false, y => mkNot y
  | x, .lit true => x
  | x, .lit false => mkNot x
  | x, y => .beq x y
theorem mkBeq_den {e : Env} {x y : BExp} : (mkBeq x y).den e = (x.den e == y.den e) := by
  unfold mkBeq
  split <;> simp [BExp.den, mkNot_den]

/-! ### Trees -/
inductive Tree (α : Type) where
  | leaf (a : α)
  | node (b : BExp) (t f : Tree α)
  | stop

def Tree.pick {α : Type} (e : Env) : Tree α → Option α
  | .leaf a => some a
  | .node b t f => if b.den e = true then t.pick e else f.pick e
  | .stop => none
def Tree.bind {α β : Type} : Tree α → (α → Tree β) → Tree β
  | .leaf a, f => f a
  | .node b t u, f => .node b (t.bind f) (u.bind f)
  | .stop, _ => .stop
theorem Tree.pick_bind {α β : Type} {e : Env} {f : α → Tree β} : ∀ {t : Tree α} {r : β}, (t.bind f).pick e = some r → ∃ a, t.pick e = some a ∧ (f a).pick e = some r
  | .leaf a, _, h => ⟨a, rfl, h⟩
  | .node b t u, r, h => by
    simp only [Tree.bind, Tree.pick] at h ⊢
    split at h
    · rename_i hb; rw [if_pos hb]; exact Tree.pick_bind h
    · rename_i hb; rw [if_neg hb]; exact Tree.pick_bind h
  | .stop, _, h => by cases h

/-- Every leaf meets p, and nothing stops. -/
def Tree.all {α : Type} (p : α → Bool) : Tree α → Bool
  | .leaf a => p a
  | .node _ t f => t.all p && f.all p
  | .stop => false
theorem Tree.all_pick {α : Type} {p : α → Bool} {e : Env} : ∀ {t : Tree α}, t.all p = true → ∃ a, t.pick e = some a ∧ p a = true
  | .leaf a, h => ⟨a, rfl, h⟩
  | .node b t f, h => by
    simp only [Tree.all, Bool.and_eq_true] at h
    simp only [Tree.pick]
    split
    · exact Tree.all_pick h.1
    · exact Tree.all_pick h.2
  | .stop, h => by cases h

/-- Which of both is it? Decided by the assumptions where they tell, else both. -/
def fork (as : Asm) : BExp → Tree (Bool × Asm)
  | .lit b => .leaf (b, as)
  | .not x => (fork as x).bind fun r => .leaf (!r.1, r.2)
  | .beq x y => (fork as x).bind fun r => (fork r.2 y).bind fun q => .leaf (r.1 == q.1, q.2)
  | .and x y => (fork as x).bind fun r => cond r.1 (fork r.2 y) (.leaf (false, r.2))
  | b => match decideB as b with
    | some v => .leaf (v, as)
    | none => .node b (.leaf (true, (b, true) :: as)) (.leaf (false, (b, false) :: as))

theorem fork_atom {e : Env} (ok : EnvOk e) {as : Asm} (ha : AsmOk e as) {b : BExp} {v : Bool} {as' : Asm}
    (h : (match decideB as b with | some v => Tree.leaf (v, as) | none => Tree.node b (.leaf (true, (b, true) :: as)) (.leaf (false, (b, false) :: as))).pick e = some (v, as')) :
    b.den e = v ∧ AsmOk e as' := by
  split at h
  · rename_i u hu
    simp only [Tree.pick, Option.some.injEq, Prod.mk.injEq] at h
    obtain ⟨rfl, rfl⟩ := h
    exact ⟨decideB_ok ok ha hu, ha⟩
  · simp only [Tree.pick] at h
    split at h
    · rename_i hb
      simp only [Option.some.injEq, Prod.mk.injEq] at h
      obtain ⟨rfl, rfl⟩ := h
      refine ⟨hb, fun p hp => ?_⟩
      rcases List.mem_cons.1 hp with rfl | hp
      · exact hb
      · exact ha p hp
    · rename_i hb
      simp only [Option.some.injEq, Prod.mk.injEq] at h
      obtain ⟨rfl, rfl⟩ := h
      simp only [Bool.not_eq_true] at hb
      refine ⟨hb, fun p hp => ?_⟩
      rcases List.mem_cons.1 hp with rfl | hp
      · exact hb
      · exact ha p hp

theorem fork_ok {e : Env} (ok : EnvOk e) : ∀ {as : Asm} {b : BExp} {v : Bool} {as' : Asm}, AsmOk e as → (fork as b).pick e = some (v, as') → b.den e = v ∧ AsmOk e as'
  | as, .lit b, v, as', ha, h => by
    simp only [fork, Tree.pick, Option.some.injEq, Prod.mk.injEq] at h
    obtain ⟨rfl, rfl⟩ := h
    exact ⟨rfl, ha⟩
  | as, .not x, v, as', ha, h => by
    simp only [fork] at h
    obtain ⟨⟨u, as1⟩, h1, h2⟩ := Tree.pick_bind h
    simp only [Tree.pick, Option.some.injEq, Prod.mk.injEq] at h2
    obtain ⟨rfl, rfl⟩ := h2
    have := fork_ok ok ha h1
    exact ⟨by simp only [BExp.den, this.1], this.2⟩
  | as, .beq x y, v, as', ha, h => by
    simp only [fork] at h
    obtain ⟨⟨u, as1⟩, h1, h2⟩ := Tree.pick_bind h
    obtain ⟨⟨u2, as2⟩, h3, h4⟩ := Tree.pick_bind h2
    simp only [Tree.pick, Option.some.injEq, Prod.mk.injEq] at h4
    obtain ⟨rfl, rfl⟩ := h4
    have t1 := fork_ok ok ha h1
    have t2 := fork_ok ok t1.2 h3
    exact ⟨by simp only [BExp.den, t1.1, t2.1], t2.2⟩
  | as, .var i, v, as', ha, h => fork_atom ok ha (by simpa only [fork] using h)
  | as, .eq x y, v, as', ha, h => fork_atom ok ha (by simpa only [fork] using h)
  | as, .lt x y, v, as', ha, h => fork_atom ok ha (by simpa only [fork] using h)
  | as, .le x y, v, as', ha, h => fork_atom ok ha (by simpa only [fork] using h)
  | as, .and x y, v, as', ha, h => by
    simp only [fork] at h
    obtain ⟨⟨u, as1⟩, h1, h2⟩ := Tree.pick_bind h
    have t1 := fork_ok ok ha h1
    cases u with
    | false =>
      simp only [cond_false, Tree.pick, Option.some.injEq, Prod.mk.injEq] at h2
      obtain ⟨rfl, rfl⟩ := h2
      exact ⟨by simp only [BExp.den, t1.1, Bool.false_and], t1.2⟩
    | true =>
      simp only [cond_true] at h2
      have t2 := fork_ok ok t1.2 h2
      exact ⟨by simp only [BExp.den, t1.1, t2.1, Bool.true_and], t2.2⟩
  | as, .aeq x y, v, as', ha, h => fork_atom ok ha (by simpa only [fork] using h)
  | as, .fn f j l, v, as', ha, h => fork_atom ok ha (by simpa only [fork] using h)
end Go.Proofs.YtofphikiadiogaaDoor.Sy
