/- A small symbolic executor for loop-free Go code, first part: expressions, what they stand for, ranges, decisions. -/
import Derived.WalkKit
import Derived.ProofKit
import Derived.Below
import Derived.KernelRfl
import Derived.DataShut
import Derived.OpenShut
namespace Go.Proofs.YtbkkeedanfmfeaaDoor.Sx
open Go

mutual
inductive IExp where
  | lit (n : Int)
  | var (k : IntKind) (i : Nat)
  | bin (op : BinOp) (k : IntKind) (x y : IExp)
  | conv (k : IntKind) (x : IExp)
  | sel (k : IntKind) (a : AExp) (i : IExp)
  | app (k : IntKind) (f : Nat) (x y z : IExp) (b : BExp)
inductive BExp where
  | lit (b : Bool)
  | var (i : Nat)
  | eq (x y : IExp)
  | lt (x y : IExp)
  | le (x y : IExp)
  | not (x : BExp)
  | beq (x y : BExp)
  | app (f : Nat) (x y z : IExp) (b : BExp)
inductive AExp where
  | var (k : IntKind) (i : Nat)
  | upd (a : AExp) (i v : IExp)
end

instance : Inhabited IExp := ⟨.lit 0⟩
instance : Inhabited BExp := ⟨.lit false⟩

structure Env where
  i : IntKind → Nat → Int
  b : Nat → Bool
  a : IntKind → Nat → List Int
  fi : IntKind → Nat → Int → Int → Int → Bool → Int
  fb : Nat → Int → Int → Int → Bool → Bool

def In (k : IntKind) (n : Int) : Prop := k.min ≤ n ∧ n ≤ k.max

structure EnvOk (e : Env) : Prop where
  i : ∀ k j, In k (e.i k j)
  a : ∀ k j x, x ∈ e.a k j → In k x
  fi : ∀ k f x y z b, In k (e.fi k f x y z b)

def binDen (op : BinOp) (k : IntKind) (x y : Int) : Int :=
  match op with
  | .add => k.wrap (x + y)
  | .sub => k.wrap (x - y)
  | .mul => k.wrap (x * y)
  | .quo => k.wrap (x.tdiv y)
  | .rem => x.tmod y
  | .and => bits .and k x y
  | .or => bits .or k x y
  | .xor => bits .xor k x y
  | .andNot => bits .andNot k x y
  | .shl => k.wrap (x * 2 ^ min y.toNat k.bits)
  | .shr => x.fdiv (2 ^ min y.toNat k.bits)
  | _ => 0

mutual
def IExp.den (e : Env) : IExp → Int
  | .lit n => n
  | .var k i => e.i k i
  | .bin op k x y => binDen op k (x.den e) (y.den e)
  | .conv k x => k.wrap (x.den e)
  | .sel _ a i => (a.den e).getD (i.den e).toNat 0
  | .app k f x y z b => e.fi k f (x.den e) (y.den e) (z.den e) (b.den e)
def BExp.den (e : Env) : BExp → Bool
  | .lit b => b
  | .var i => e.b i
  | .eq x y => decide (x.den e = y.den e)
  | .lt x y => decide (x.den e < y.den e)
  | .le x y => decide (x.den e ≤ y.den e)
  | .not x => !(x.den e)
  | .beq x y => x.den e == y.den e
  | .app f x y z b => e.fb f (x.den e) (y.den e) (z.den e) (b.den e)
def AExp.den (e : Env) : AExp → List Int
  | .var k i => e.a k i
  | .upd a i v => (a.den e).set (i.den e).toNat (v.den e)
end

theorem eqT {e : Env} {x y : IExp} (h : (BExp.eq x y).den e = true) : x.den e = y.den e := of_decide_eq_true (by simpa only [BExp.den] using h)
theorem eqF {e : Env} {x y : IExp} (h : (BExp.eq x y).den e = false) : ¬ x.den e = y.den e := of_decide_eq_false (by simpa only [BExp.den] using h)
theorem leT {e : Env} {x y : IExp} (h : (BExp.le x y).den e = true) : x.den e ≤ y.den e := of_decide_eq_true (by simpa only [BExp.den] using h)
theorem leF {e : Env} {x y : IExp} (h : (BExp.le x y).den e = false) : ¬ x.den e ≤ y.den e := of_decide_eq_false (by simpa only [BExp.den] using h)
theorem litD (e : Env) (n : Int) : (IExp.lit n).den e = n := by simp only [IExp.den]
theorem le_den {e : Env} {x y : IExp} : (BExp.le x y).den e = decide (x.den e ≤ y.den e) := by simp only [BExp.den]
theorem decide_same {p q : Prop} [Decidable p] [Decidable q] (h : p ↔ q) : decide p = decide q := decide_eq_decide.2 h
theorem not_decide_same {p q : Prop} [Decidable p] [Decidable q] (h : ¬ p ↔ q) : (!decide p) = decide q := by
  rw [← decide_not]; exact decide_eq_decide.2 h

/-! ### Same text -/
mutual
def IExp.same : IExp → IExp → Bool
  | .lit a, .lit b => decide (a = b)
  | .var k i, .var k' i' => decide (k = k') && Nat.beq i i'
  | .bin op k x y, .bin op' k' x' y' => decide (op = op') && decide (k = k') && x.same x' && y.same y'
  | .conv k x, .conv k' x' => decide (k = k') && x.same x'
  | .sel k a i, .sel k' a' i' => decide (k = k') && a.same a' && i.same i'
  | .app k f x y z b, .app k' f' x' y' z' b' => decide (k = k') && Nat.beq f f' && x.same x' && y.same y' && z.same z' && b.same b'
  | _, _ => false
def BExp.same : BExp → BExp → Bool
  | .lit a, .lit b => a == b
  | .var i, .var i' => Nat.beq i i'
  | .eq x y, .eq x' y' => x.same x' && y.same y'
  | .lt x y, .lt x' y' => x.same x' && y.same y'
  | .le x y, .le x' y' => x.same x' && y.same y'
  | .not x, .not x' => x.same x'
  | .beq x y, .beq x' y' => x.same x' && y.same y'
  | .app f x y z b, .app f' x' y' z' b' => Nat.beq f f' && x.same x' && y.same y' && z.same z' && b.same b'
  | _, _ => false
def AExp.same : AExp → AExp → Bool
  | .var k i, .var k' i' => decide (k = k') && Nat.beq i i'
  | .upd a i v, .upd a' i' v' => a.same a' && i.same i' && v.same v'
  | _, _ => false
end

mutual
theorem IExp.same_eq : ∀ (x y : IExp), x.same y = true → x = y
  | .lit a, y, h => by cases y <;> simp_all [IExp.same]
  | .var k i, y, h => by cases y <;> simp_all [IExp.same]
  | .bin op k x y, w, h => by
    cases w <;> simp [IExp.same] at h
    obtain ⟨⟨⟨h1, h2⟩, h3⟩, h4⟩ := h
    rw [h1, h2, IExp.same_eq x _ h3, IExp.same_eq y _ h4]
  | .conv k x, w, h => by
    cases w <;> simp [IExp.same] at h
    obtain ⟨h1, h2⟩ := h
    rw [h1, IExp.same_eq x _ h2]
  | .sel k a i, w, h => by
    cases w <;> simp [IExp.same] at h
    obtain ⟨⟨h1, h2⟩, h3⟩ := h
    rw [h1, AExp.same_eq a _ h2, IExp.same_eq i _ h3]
  | .app k f x y z b, w, h => by
    cases w <;> simp [IExp.same] at h
    obtain ⟨⟨⟨⟨⟨h1, h2⟩, h3⟩, h4⟩, h5⟩, h6⟩ := h
    rw [h1, h2, IExp.same_eq x _ h3, IExp.same_eq y _ h4, IExp.same_eq z _ h5, BExp.same_eq b _ h6]
theorem BExp.same_eq : ∀ (x y : BExp), x.same y = true → x = y
  | .lit a, y, h => by cases y <;> simp_all [BExp.same]
  | .var i, y, h => by cases y <;> simp_all [BExp.same]
  | .eq x y, w, h => by
    cases w <;> simp [BExp.same] at h
    rw [IExp.same_eq x _ h.1, IExp.same_eq y _ h.2]
  | .lt x y, w, h => by
    cases w <;> simp [BExp.same] at h
    rw [IExp.same_eq x _ h.1, IExp.same_eq y _ h.2]
  | .le x y, w, h => by
    cases w <;> simp [BExp.same] at h
    rw [IExp.same_eq x _ h.1, IExp.same_eq y _ h.2]
  | .not x, w, h => by
    cases w <;> simp [BExp.same] at h
    rw [BExp.same_eq x _ h]
  | .beq x y, w, h => by
    cases w <;> simp [BExp.same] at h
    rw [BExp.same_eq x _ h.1, BExp.same_eq y _ h.2]
  | .app f x y z b, w, h => by
    cases w <;> simp [BExp.same] at h
    obtain ⟨⟨⟨⟨h2, h3⟩, h4⟩, h5⟩, h6⟩ := h
    rw [h2, IExp.same_eq x _ h3, IExp.same_eq y _ h4, IExp.same_eq z _ h5, BExp.same_eq b _ h6]
theorem AExp.same_eq : ∀ (x y : AExp), x.same y = true → x = y
  | .var k i, y, h => by cases y <;> simp_all [AExp.same]
  | .upd a i v, w, h => by
    cases w <;> simp [AExp.same] at h
    rw [AExp.same_eq a _ h.1.1, IExp.same_eq i _ h.1.2, IExp.same_eq v _ h.2]
end

/-! ### Assumptions and ranges -/
abbrev Asm := List (BExp × Bool)
def AsmOk (e : Env) (as : Asm) : Prop := ∀ p ∈ as, p.1.den e = p.2

def inKind (k : IntKind) : Option (Int × Int) → Bool
  | some (l, h) => decide (k.min ≤ l) && decide (h ≤ k.max)
  | none => false
def kr (k : IntKind) : Option (Int × Int) := some (k.min, k.max)
def InR (n : Int) : Option (Int × Int) → Prop
  | some (l, h) => l ≤ n ∧ n ≤ h
  | none => True

theorem inKind_spec {k : IntKind} {r : Option (Int × Int)} {n : Int} (h : inKind k r = true) (hn : InR n r) : In k n := by
  cases r with
  | none => cases h
  | some p =>
    obtain ⟨l, u⟩ := p
    simp only [inKind, Bool.and_eq_true, decide_eq_true_eq] at h
    exact ⟨Int.le_trans h.1 hn.1, Int.le_trans hn.2 h.2⟩

theorem wrap_in (k : IntKind) (n : Int) : In k (k.wrap n) := by
  have h := wf_wrap k n
  rw [Lit.wf_int_iff] at h
  exact h
theorem wrap_id {k : IntKind} {n : Int} (h : In k n) : k.wrap n = n := by
  obtain ⟨h1, h2⟩ := h
  cases k <;> simp only [IntKind.min_i8, IntKind.max_i8, IntKind.min_i16, IntKind.max_i16, IntKind.min_i32, IntKind.max_i32, IntKind.min_i64, IntKind.max_i64, IntKind.min_u8, IntKind.max_u8, IntKind.min_u16, IntKind.max_u16, IntKind.min_u32, IntKind.max_u32, IntKind.min_u64, IntKind.max_u64] at h1 h2 <;>
    simp [IntKind.wrap, IntKind.bits, IntKind.signed] <;> omega

/-- One assumption, used on the range of x. -/
def tight1 (x : IExp) (r : Int × Int) (p : BExp × Bool) : Int × Int :=
  match p with
  | (.eq y (.lit n), b) => if y.same x then (if b then (max r.1 n, min r.2 n) else if r.1 == n then (n + 1, r.2) else if r.2 == n then (r.1, n - 1) else r) else r
  | (.le y (.lit n), b) => if y.same x then (if b then (r.1, min r.2 n) else (max r.1 (n + 1), r.2)) else r
  | _ => r
def tight (as : Asm) (x : IExp) (r : Int × Int) : Int × Int := as.foldl (tight1 x) r

theorem tight1_ok {e : Env} {x : IExp} {r : Int × Int} {p : BExp × Bool} (hp : p.1.den e = p.2) (hr : r.1 ≤ x.den e ∧ x.den e ≤ r.2) :
    (tight1 x r p).1 ≤ x.den e ∧ x.den e ≤ (tight1 x r p).2 := by
  obtain ⟨c, b⟩ := p
  unfold tight1
  split
  · rename_i y n b' heq
    cases heq
    split
    · rename_i hs
      have hs := IExp.same_eq _ _ hs
      subst hs
      cases b with
      | false =>
        have hp := eqF hp
        rw [litD] at hp
        rw [if_neg (by simp)]
        split
        · rename_i h1; simp at h1; omega
        · split
          · rename_i h1 h2; simp at h1 h2; omega
          · exact hr
      | true =>
        have hp := eqT hp
        rw [litD] at hp
        rw [if_pos rfl]; omega
    · exact hr
  · rename_i y n b' heq
    cases heq
    split
    · rename_i hs
      have hs := IExp.same_eq _ _ hs
      subst hs
      cases b with
      | false =>
        have hp := leF hp
        rw [litD] at hp
        rw [if_neg (by simp)]; omega
      | true =>
        have hp := leT hp
        rw [litD] at hp
        rw [if_pos rfl]; omega
    · exact hr
  · exact hr

theorem tight_ok {e : Env} {x : IExp} : ∀ (as : Asm) (r : Int × Int), AsmOk e as → r.1 ≤ x.den e ∧ x.den e ≤ r.2 → (tight as x r).1 ≤ x.den e ∧ x.den e ≤ (tight as x r).2
  | [], _, _, hr => hr
  | p :: as, r, h, hr => tight_ok as (tight1 x r p) (fun q hq => h q (List.mem_cons_of_mem _ hq)) (tight1_ok (h p List.mem_cons_self) hr)

def binRng (op : BinOp) (k : IntKind) (rx ry : Option (Int × Int)) : Option (Int × Int) :=
  match op, rx, ry with
  | .add, some (a, b), some (c, d) => if inKind k (some (a + c, b + d)) then some (a + c, b + d) else kr k
  | .sub, some (a, b), some (c, d) => if inKind k (some (a - d, b - c)) then some (a - d, b - c) else kr k
  | .mul, some (a, b), some (c, d) => if decide (0 ≤ a) && decide (0 ≤ c) && inKind k (some (a * c, b * d)) then some (a * c, b * d) else kr k
  | .rem, some (a, _), some (c, d) => if decide (0 ≤ a) && decide (0 < c) then some (0, d - 1) else none
  | .quo, some (a, b), some (c, d) => if decide (0 ≤ a) && decide (0 < c) && inKind k (some (0, b)) then (if c = d then some (a / c, b / c) else some (0, b)) else kr k
  | .shr, some (a, b), some (c, d) => if decide (0 ≤ a) then (if c = d then some (a / 2 ^ min c.toNat k.bits, b / 2 ^ min c.toNat k.bits) else some (0, b)) else none
  | .shr, some (a, b), none => if decide (0 ≤ a) then some (0, b) else none
  | .rem, _, _ => none
  | .shr, _, _ => none
  | .add, _, _ | .sub, _, _ | .mul, _, _ | .quo, _, _ | .and, _, _ | .or, _, _ | .xor, _, _ | .andNot, _, _ | .shl, _, _ => kr k
  | _, _, _ => none

theorem kr_ok {k : IntKind} {n : Int} (h : In k n) : InR n (kr k) := h

theorem binRng_ok {op : BinOp} {k : IntKind} {rx ry : Option (Int × Int)} {x y : Int} (hx : InR x rx) (hy : InR y ry) : InR (binDen op k x y) (binRng op k rx ry) := by
  unfold binRng
  split
  · split
    · rename_i a b c d h
      have hin : InR (x + y) (some (a + c, b + d)) := ⟨by have := hx.1; have := hy.1; omega, by have := hx.2; have := hy.2; omega⟩
      simp only [binDen, wrap_id (inKind_spec h hin)]; exact hin
    · exact wrap_in _ _
  · split
    · rename_i a b c d h
      have hin : InR (x - y) (some (a - d, b - c)) := ⟨by have := hx.1; have := hy.2; omega, by have := hx.2; have := hy.1; omega⟩
      simp only [binDen, wrap_id (inKind_spec h hin)]; exact hin
    · exact wrap_in _ _
  · split
    · rename_i a b c d h
      simp only [Bool.and_eq_true, decide_eq_true_eq] at h
      obtain ⟨⟨ha, hc⟩, h⟩ := h
      have hin : InR (x * y) (some (a * c, b * d)) := by
        obtain ⟨hx1, hx2⟩ := hx; obtain ⟨hy1, hy2⟩ := hy
        exact ⟨Int.mul_le_mul hx1 hy1 hc (by omega), Int.mul_le_mul hx2 hy2 (by omega) (by omega)⟩
      simp only [binDen, wrap_id (inKind_spec h hin)]; exact hin
    · exact wrap_in _ _
  · split
    · rename_i a b c d h
      simp only [Bool.and_eq_true, decide_eq_true_eq] at h
      obtain ⟨hx1, hx2⟩ := hx; obtain ⟨hy1, hy2⟩ := hy
      simp only [binDen]
      rw [Int.tmod_eq_emod_of_nonneg (by omega)]
      exact ⟨Int.emod_nonneg _ (by omega), by have := Int.emod_lt_of_pos x (show 0 < y by omega); omega⟩
    · trivial
  · split
    · rename_i a b c d h
      simp only [Bool.and_eq_true, decide_eq_true_eq] at h
      obtain ⟨⟨ha, hc⟩, h⟩ := h
      obtain ⟨hx1, hx2⟩ := hx; obtain ⟨hy1, hy2⟩ := hy
      have hin : InR (x.tdiv y) (some (0, b)) := by
        rw [Int.tdiv_eq_ediv_of_nonneg (by omega)]
        refine ⟨Int.ediv_nonneg (by omega) (by omega), ?_⟩
        have := Int.ediv_le_self y (show 0 ≤ x by omega); omega
      split
      · rename_i hcd
        subst hcd
        have hyc : y = c := by omega
        subst hyc
        simp only [binDen, wrap_id (inKind_spec h hin)]
        rw [Int.tdiv_eq_ediv_of_nonneg (by omega)]
        exact ⟨Int.ediv_le_ediv hc hx1, Int.ediv_le_ediv hc hx2⟩
      · simp only [binDen, wrap_id (inKind_spec h hin)]; exact hin
    · exact wrap_in _ _
  · split
    · rename_i a b c d h
      simp only [decide_eq_true_eq] at h
      obtain ⟨hx1, hx2⟩ := hx; obtain ⟨hy1, hy2⟩ := hy
      simp only [binDen]
      split
      · rename_i hcd
        subst hcd
        have hyc : y = c := by omega
        subst hyc
        have hp : (0 : Int) < 2 ^ min y.toNat k.bits := by exact_mod_cast Nat.two_pow_pos _
        rw [Int.fdiv_eq_ediv_of_nonneg _ (by omega)]
        exact ⟨Int.ediv_le_ediv hp hx1, Int.ediv_le_ediv hp hx2⟩
      · have hp : (0 : Int) < 2 ^ min y.toNat k.bits := by exact_mod_cast Nat.two_pow_pos _
        rw [Int.fdiv_eq_ediv_of_nonneg _ (by omega)]
        refine ⟨Int.ediv_nonneg (by omega) (by omega), ?_⟩
        have := Int.ediv_le_self (2 ^ min y.toNat k.bits) (show 0 ≤ x by omega); omega
    · trivial
  · split
    · rename_i a b h
      simp only [decide_eq_true_eq] at h
      obtain ⟨hx1, hx2⟩ := hx
      have hp : (0 : Int) < 2 ^ min y.toNat k.bits := by exact_mod_cast Nat.two_pow_pos _
      simp only [binDen]
      rw [Int.fdiv_eq_ediv_of_nonneg _ (by omega)]
      refine ⟨Int.ediv_nonneg (by omega) (by omega), ?_⟩
      have := Int.ediv_le_self (2 ^ min y.toNat k.bits) (show 0 ≤ x by omega); omega
    · trivial
  all_goals first | trivial | exact wrap_in _ _

mutual
def IExp.rng (as : Asm) : IExp → Option (Int × Int)
  | .lit n => some (n, n)
  | .var k i => some (tight as (.var k i) (k.min, k.max))
  | .bin op k x y => match binRng op k (x.rng as) (y.rng as) with
    | some r => some (tight as (.bin op k x y) r)
    | none => none
  | .conv k x => match (if inKind k (x.rng as) then x.rng as else kr k) with
    | some r => some (tight as (.conv k x) r)
    | none => none
  | .sel k a i => if a.inK as k then some (tight as (.sel k a i) (k.min, k.max)) else none
  | .app k f x y z b => some (tight as (.app k f x y z b) (k.min, k.max))
def AExp.inK (as : Asm) (k : IntKind) : AExp → Bool
  | .var k' _ => decide (k' = k)
  | .upd a _ v => a.inK as k && inKind k (v.rng as)
end

theorem zero_in (k : IntKind) : In k 0 := by cases k <;> exact ⟨by decide, by decide⟩

mutual
theorem IExp.rng_ok {e : Env} (ok : EnvOk e) {as : Asm} (ha : AsmOk e as) : ∀ (x : IExp), InR (x.den e) (x.rng as)
  | .lit n => ⟨Int.le_refl _, Int.le_refl _⟩
  | .var k i => by
    simp only [IExp.rng]
    exact tight_ok (x := .var k i) as _ ha (ok.i k i)
  | .bin op k x y => by
    have hx := IExp.rng_ok ok ha x
    have hy := IExp.rng_ok ok ha y
    have h := binRng_ok (op := op) (k := k) hx hy
    simp only [IExp.rng]
    split
    · rename_i r hr
      rw [hr] at h
      exact tight_ok (x := .bin op k x y) as r ha h
    · trivial
  | .conv k x => by
    have hx := IExp.rng_ok ok ha x
    simp only [IExp.rng]
    split
    · rename_i r hr
      refine tight_ok (x := .conv k x) as r ha ?_
      split at hr
      · rename_i hk
        rw [hr] at hx hk
        simp only [IExp.den, wrap_id (inKind_spec hk hx)]; exact hx
      · cases hr; exact wrap_in _ _
    · trivial
  | .sel k a i => by
    have h := AExp.inK_ok ok ha k a
    simp only [IExp.rng]
    split
    · rename_i hk
      refine tight_ok (x := .sel k a i) as _ ha ?_
      show In k _
      simp only [IExp.den]
      rw [List.getD_eq_getElem?_getD]
      cases hg : (a.den e)[(i.den e).toNat]? with
      | none => exact zero_in k
      | some v => exact h hk v (List.mem_of_getElem? hg)
    · trivial
  | .app k f x y z b => by
    simp only [IExp.rng]
    exact tight_ok (x := .app k f x y z b) as _ ha (ok.fi _ _ _ _ _ _)
theorem AExp.inK_ok {e : Env} (ok : EnvOk e) {as : Asm} (ha : AsmOk e as) (k : IntKind) : ∀ (a : AExp), a.inK as k = true → ∀ x ∈ a.den e, In k x
  | .var k' i => by
    intro h x hx
    simp only [AExp.inK, decide_eq_true_eq] at h
    subst h
    exact ok.a _ _ _ hx
  | .upd a i v => by
    intro h x hx
    simp only [AExp.inK, Bool.and_eq_true] at h
    simp only [AExp.den] at hx
    rcases List.mem_or_eq_of_mem_set hx with hx | rfl
    · exact AExp.inK_ok ok ha k a h.1 x hx
    · exact inKind_spec h.2 (IExp.rng_ok ok ha v)
end

/-! ### Decisions -/
def lookup (as : Asm) (b : BExp) : Option Bool :=
  match as with
  | [] => none
  | (c, v) :: r => if c.same b then some v else lookup r b

def leR : Option (Int × Int) → Option (Int × Int) → Option Bool
  | some (a, b), some (c, d) => if decide (b ≤ c) then some true else if decide (d < a) then some false else none
  | _, _ => none
def ltR : Option (Int × Int) → Option (Int × Int) → Option Bool
  | some (a, b), some (c, d) => if decide (b < c) then some true else if decide (d ≤ a) then some false else none
  | _, _ => none
def eqR : Option (Int × Int) → Option (Int × Int) → Option Bool
  | some (a, b), some (c, d) => if decide (b < c) || decide (d < a) then some false else if decide (a = b) && decide (c = d) && decide (a = c) then some true else none
  | _, _ => none

def orElse' (a b : Option Bool) : Option Bool := match a with | some v => some v | none => b

def decideB (as : Asm) : BExp → Option Bool
  | .lit b => some b
  | .not x => (decideB as x).map (!·)
  | .eq x y => if x.same y then some true else orElse' (eqR (x.rng as) (y.rng as)) (lookup as (.eq x y))
  | .lt x y => if x.same y then some false else orElse' (ltR (x.rng as) (y.rng as)) (lookup as (.lt x y))
  | .le x y => if x.same y then some true else orElse' (leR (x.rng as) (y.rng as)) (lookup as (.le x y))
  | .beq x y => match decideB as x, decideB as y with
    | some a, some b => some (a == b)
    | _, _ => if x.same y then some true else none
  | b => lookup as b

theorem lookup_ok {e : Env} : ∀ {as : Asm} {b : BExp} {v : Bool}, AsmOk e as → lookup as b = some v → b.den e = v
  | [], _, _, _, h => by cases h
  | (c, v) :: r, b, w, ha, h => by
    simp only [lookup] at h
    split at h
    · rename_i hs
      have := BExp.same_eq _ _ hs
      subst this
      cases h
      exact ha _ List.mem_cons_self
    · exact lookup_ok (fun p hp => ha p (List.mem_cons_of_mem _ hp)) h

theorem decideB_ok {e : Env} (ok : EnvOk e) {as : Asm} (ha : AsmOk e as) : ∀ {b : BExp} {v : Bool}, decideB as b = some v → b.den e = v
  | .lit _, _, h => by simp only [decideB] at h; cases h; rfl
  | .not x, v, h => by
    simp only [decideB, Option.map_eq_some_iff] at h
    obtain ⟨u, hu, rfl⟩ := h
    simp only [BExp.den, decideB_ok ok ha hu]
  | .eq x y, v, h => by
    have hx := IExp.rng_ok ok ha x
    have hy := IExp.rng_ok ok ha y
    simp only [decideB] at h
    split at h
    · rename_i hs
      have := IExp.same_eq _ _ hs
      subst this; cases h; simp [BExp.den]
    · unfold orElse' at h
      split at h
      · rename_i u hu
        cases h
        unfold eqR at hu
        split at hu
        · rename_i a b c d h1 h2
          rw [h1] at hx; rw [h2] at hy
          obtain ⟨hx1, hx2⟩ := hx; obtain ⟨hy1, hy2⟩ := hy
          split at hu
          · rename_i hc; cases hu
            simp only [Bool.or_eq_true, decide_eq_true_eq] at hc
            simp only [BExp.den, decide_eq_false_iff_not]; omega
          · split at hu
            · rename_i hc; cases hu
              simp only [Bool.and_eq_true, decide_eq_true_eq] at hc
              simp only [BExp.den, decide_eq_true_eq]; omega
            · cases hu
        · cases hu
      · exact lookup_ok ha h
  | .lt x y, v, h => by
    have hx := IExp.rng_ok ok ha x
    have hy := IExp.rng_ok ok ha y
    simp only [decideB] at h
    split at h
    · rename_i hs
      have := IExp.same_eq _ _ hs
      subst this; cases h; simp [BExp.den]
    · unfold orElse' at h
      split at h
      · rename_i u hu
        cases h
        unfold ltR at hu
        split at hu
        · rename_i a b c d h1 h2
          rw [h1] at hx; rw [h2] at hy
          obtain ⟨hx1, hx2⟩ := hx; obtain ⟨hy1, hy2⟩ := hy
          split at hu
          · rename_i hc; cases hu
            simp only [decide_eq_true_eq] at hc
            simp only [BExp.den, decide_eq_true_eq]; omega
          · split at hu
            · rename_i hc; cases hu
              simp only [decide_eq_true_eq] at hc
              simp only [BExp.den, decide_eq_false_iff_not]; omega
            · cases hu
        · cases hu
      · exact lookup_ok ha h
  | .le x y, v, h => by
    have hx := IExp.rng_ok ok ha x
    have hy := IExp.rng_ok ok ha y
    simp only [decideB] at h
    split at h
    · rename_i hs
      have := IExp.same_eq _ _ hs
      subst this; cases h; simp [BExp.den]
    · unfold orElse' at h
      split at h
      · rename_i u hu
        cases h
        unfold leR at hu
        split at hu
        · rename_i a b c d h1 h2
          rw [h1] at hx; rw [h2] at hy
          obtain ⟨hx1, hx2⟩ := hx; obtain ⟨hy1, hy2⟩ := hy
          split at hu
          · rename_i hc; cases hu
            simp only [decide_eq_true_eq] at hc
            simp only [BExp.den, decide_eq_true_eq]; omega
          · split at hu
            · rename_i hc; cases hu
              simp only [decide_eq_true_eq] at hc
              simp only [BExp.den, decide_eq_false_iff_not]; omega
            · cases hu
        · cases hu
      · exact lookup_ok ha h
  | .beq x y, v, h => by
    simp only [decideB] at h
    split at h
    · rename_i a b h1 h2
      cases h
      simp only [BExp.den, decideB_ok ok ha h1, decideB_ok ok ha h2]
    · split at h
      · rename_i hs
        have := BExp.same_eq _ _ hs
        subst this; cases h; simp [BExp.den]
      · cases h
  | .var i, v, h => lookup_ok ha (by simpa only [decideB] using h)
  | .app f x y z b, v, h => lookup_ok ha (by simpa only [decideB] using h)

/-! ### Building -/
def isLit : IExp → Option Int
  | .lit n => some n
  | _ => none
theorem isLit_eq {x : IExp} {n : Int} (h : isLit x = some n) : x = .lit n := by cases x <;> simp_all [isLit]

def mkBin (op : BinOp) (k : IntKind) (x y : IExp) : IExp :=
  match isLit x, isLit y with
  | some a, some b => .lit (binDen op k a b)
  | _, _ => .bin op k x y
theorem mkBin_den {e : Env} {op : BinOp} {k : IntKind} {x y : IExp} : (mkBin op k x y).den e = binDen op k (x.den e) (y.den e) := by
  unfold mkBin
  split
  · rename_i a b h1 h2
    rw [isLit_eq h1, isLit_eq h2]; rfl
  · rfl

def mkConv (as : Asm) (k : IntKind) (x : IExp) : IExp :=
  match isLit x with
  | some a => .lit (k.wrap a)
  | none => if inKind k (x.rng as) then x else .conv k x
theorem mkConv_den {e : Env} (ok : EnvOk e) {as : Asm} (ha : AsmOk e as) {k : IntKind} {x : IExp} : (mkConv as k x).den e = k.wrap (x.den e) := by
  unfold mkConv
  split
  · rename_i a h1
    rw [isLit_eq h1]; rfl
  · split
    · rename_i hk
      rw [wrap_id (inKind_spec hk (IExp.rng_ok ok ha x))]
    · rfl

/-- One number alone in the range: that number. -/
def settle (as : Asm) (x : IExp) : IExp :=
  match isLit x with
  | some _ => x
  | none => match x.rng as with
    | some (l, h) => if l = h then .lit l else x
    | none => x
theorem settle_den {e : Env} (ok : EnvOk e) {as : Asm} (ha : AsmOk e as) {x : IExp} : (settle as x).den e = x.den e := by
  unfold settle
  split
  · rfl
  · have hr := IExp.rng_ok ok ha x
    split
    · rename_i l h heq
      rw [heq] at hr
      split
      · rename_i hlh
        subst hlh
        rw [litD]
        have := hr.1
        have := hr.2
        omega
      · rfl
    · rfl

/-- n = 2^m - 1. -/
def maskM : Int → Option Nat
  | .ofNat a => if Nat.beq (2 ^ (a + 1).log2) (a + 1) then some (a + 1).log2 else none
  | _ => none
theorem maskM_eq {n : Int} {m : Nat} (h : maskM n = some m) : n = 2 ^ m - 1 := by
  cases n with
  | ofNat a =>
    simp only [maskM] at h
    split at h
    · rename_i hb
      have hb := Nat.eq_of_beq_eq_true hb
      simp only [Option.some.injEq] at h
      subst h
      have : ((2 ^ (a + 1).log2 : Nat) : Int) = ((a + 1 : Nat) : Int) := by rw [hb]
      push_cast at this
      rw [this]; simp
    · cases h
  | negSucc a => cases h
theorem bits_mask {k : IntKind} {x : Int} {m : Nat} (h0 : 0 ≤ x) (hx : x ≤ k.max) (hm : (2 : Int) ^ m - 1 ≤ k.max) : bits .and k x (2 ^ m - 1) = x.tmod (2 ^ m) := by
  have hbits : k.max < 2 ^ k.bits := by cases k <;> decide
  have hn : ∀ z : Int, 0 ≤ z → z ≤ k.max → (BitVec.ofInt k.bits z).toNat = z.toNat := by
    intro z hz0 hz
    rw [BitVec.toNat_ofInt]
    have : ((2 ^ k.bits : Nat) : Int) = 2 ^ k.bits := by push_cast; rfl
    rw [this, Int.emod_eq_of_lt hz0 (by omega)]
  have hp : (0 : Int) < 2 ^ m := by exact_mod_cast Nat.two_pow_pos m
  have e1 : ((2 : Int) ^ m - 1).toNat = 2 ^ m - 1 := by
    have : ((2 ^ m : Nat) : Int) = 2 ^ m := by push_cast; rfl
    rw [← this]; omega
  have e2 : bits .and k x (2 ^ m - 1) = k.wrap ((BitVec.ofInt k.bits x &&& BitVec.ofInt k.bits (2 ^ m - 1)).toNat : Int) := rfl
  rw [e2, BitVec.toNat_and, hn x h0 hx, hn _ (by omega) hm, e1, Nat.and_two_pow_sub_one_eq_mod, Int.tmod_eq_emod_of_nonneg h0]
  have e3 : ((x.toNat % 2 ^ m : Nat) : Int) = x % 2 ^ m := by
    push_cast
    rw [Int.toNat_of_nonneg h0]
  rw [e3, wrap_id]
  have hk : k.min ≤ 0 := (zero_in k).1
  have := Int.emod_nonneg x (show (2 : Int) ^ m ≠ 0 by omega)
  have := Int.emod_lt_of_pos x hp
  exact ⟨by omega, by omega⟩

def nonneg (k : IntKind) : Option (Int × Int) → Bool
  | some (l, h) => decide (0 ≤ l) && decide (h ≤ k.max)
  | none => false
def mkAnd (as : Asm) (k : IntKind) (x y : IExp) : IExp :=
  match isLit y with
  | some n => match maskM n with
    | some m => if nonneg k (x.rng as) && decide (n ≤ k.max) then settle as (mkBin .rem k x (.lit (2 ^ m))) else mkBin .and k x y
    | none => mkBin .and k x y
  | none => mkBin .and k x y
def mkBinR (as : Asm) (op : BinOp) (k : IntKind) (x y : IExp) : IExp :=
  match op with
  | .and => mkAnd as k x y
  | .shr => settle as (mkBin .shr k x y)
  | .quo => settle as (mkBin .quo k x y)
  | .rem => settle as (mkBin .rem k x y)
  | op => mkBin op k x y
theorem mkBinR_den {e : Env} (ok : EnvOk e) {as : Asm} (ha : AsmOk e as) {op : BinOp} {k : IntKind} {x y : IExp} : (mkBinR as op k x y).den e = binDen op k (x.den e) (y.den e) := by
  unfold mkBinR
  split
  · unfold mkAnd
    split
    · rename_i n hn
      have hn := isLit_eq hn
      subst hn
      split
      · rename_i m hm
        have hm := maskM_eq hm
        split
        · rename_i hc
          simp only [Bool.and_eq_true, decide_eq_true_eq] at hc
          have hr := IExp.rng_ok ok ha x
          rw [settle_den ok ha, mkBin_den, litD, litD]
          subst hm
          cases hx : x.rng as with
          | none => rw [hx] at hc; simp [nonneg] at hc
          | some q =>
            obtain ⟨l, u⟩ := q
            rw [hx] at hc hr
            simp only [nonneg, Bool.and_eq_true, decide_eq_true_eq] at hc
            have h1 := hr.1
            have h2 := hr.2
            simp only [binDen]
            rw [bits_mask (by omega) (by omega) hc.2]
        · exact mkBin_den
      · exact mkBin_den
    · exact mkBin_den
  · rw [settle_den ok ha, mkBin_den]
  · rw [settle_den ok ha, mkBin_den]
  · rw [settle_den ok ha, mkBin_den]
  · exact mkBin_den

def mkNot : BExp → BExp
  | .lit b => .lit (!b)
  | .not x => x
  | x => .not x
theorem mkNot_den {e : Env} {x : BExp} : (mkNot x).den e = !(x.den e) := by
  unfold mkNot; split <;> simp [BExp.den]
def mkEq (x y : IExp) : BExp :=
  match isLit x, isLit y with
  | some a, some b => .lit (decide (a = b))
  | some _, none => .eq y x
  | _, _ => .eq x y
theorem mkEq_den {e : Env} {x y : IExp} : (mkEq x y).den e = decide (x.den e = y.den e) := by
  unfold mkEq
  split
  · rename_i a b h1 h2; rw [isLit_eq h1, isLit_eq h2]; rfl
  · simp only [BExp.den]; rw [decide_eq_decide]; exact eq_comm
  · rfl
def mkLe (x y : IExp) : BExp :=
  match isLit x, isLit y with
  | some a, some b => .lit (decide (a ≤ b))
  | some a, none => mkNot (.le y (.lit (a - 1)))
  | _, _ => .le x y
theorem mkLe_den {e : Env} {x y : IExp} : (mkLe x y).den e = decide (x.den e ≤ y.den e) := by
  unfold mkLe
  split
  · rename_i a b h1 h2; rw [isLit_eq h1, isLit_eq h2]; rfl
  · rename_i a h1 h2
    rw [mkNot_den, isLit_eq h1, le_den]
    exact not_decide_same (by rw [litD, litD]; omega)
  · rfl
def mkLt (x y : IExp) : BExp :=
  match isLit x, isLit y with
  | some a, some b => .lit (decide (a < b))
  | some a, none => mkNot (.le y (.lit a))
  | none, some b => .le x (.lit (b - 1))
  | none, none => .lt x y
theorem mkLt_den {e : Env} {x y : IExp} : (mkLt x y).den e = decide (x.den e < y.den e) := by
  unfold mkLt
  split
  · rename_i a b h1 h2; rw [isLit_eq h1, isLit_eq h2]; rfl
  · rename_i a h1 h2
    rw [mkNot_den, isLit_eq h1, le_den]
    exact not_decide_same (by rw [litD]; omega)
  · rename_i b h1 h2
    rw [isLit_eq h2, le_den]
    exact decide_same (by rw [litD, litD]; omega)
  · rfl
def mkBeq (x y : BExp) : BExp :=
  match x, y with
  | .lit true, y => y
  | .lit false, y => mkNot y
  | x, .lit true => x
  | x, .lit false => mkNot x
  | x, y => .beq x y
theorem mkBeq_den {e : Env} {x y : BExp} : (mkBeq x y).den e = (x.den e == y.den e) := by
  unfold mkBeq
  split <;> simp [BExp.den, mkNot_den]

/-! ### Trees -/
inductive Tree (α : Type) where
  | leaf (a : α)
  | node (b : BExp) (t f : Tree α)
  | stop

def Tree.pick {α : Type} (e : Env) : Tree α → Option α
  | .leaf a => some a
  | .node b t f => if b.den e = true then t.pick e else f.pick e
  | .stop => none
def Tree.bind {α β : Type} : Tree α → (α → Tree β) → Tree β
  | .leaf a, f => f a
  | .node b t u, f => .node b (t.bind f) (u.bind f)
  | .stop, _ => .stop
theorem Tree.pick_bind {α β : Type} {e : Env} {f : α → Tree β} : ∀ {t : Tree α} {r : β}, (t.bind f).pick e = some r → ∃ a, t.pick e = some a ∧ (f a).pick e = some r
  | .leaf a, _, h => ⟨a, rfl, h⟩
  | .node b t u, r, h => by
    simp only [Tree.bind, Tree.pick] at h ⊢
    split at h
    · rename_i hb; rw [if_pos hb]; exact Tree.pick_bind h
    · rename_i hb; rw [if_neg hb]; exact Tree.pick_bind h
  | .stop, _, h => by cases h

/-- Every leaf meets p, and nothing stops. -/
def Tree.all {α : Type} (p : α → Bool) : Tree α → Bool
  | .leaf a => p a
  | .node _ t f => t.all p && f.all p
  | .stop => false
theorem Tree.all_pick {α : Type} {p : α → Bool} {e : Env} : ∀ {t : Tree α}, t.all p = true → ∃ a, t.pick e = some a ∧ p a = true
  | .leaf a, h => ⟨a, rfl, h⟩
  | .node b t f, h => by
    simp only [Tree.all, Bool.and_eq_true] at h
    simp only [Tree.pick]
    split
    · exact Tree.all_pick h.1
    · exact Tree.all_pick h.2
  | .stop, h => by cases h

/-- Which of both is it? Decided by the assumptions where they tell, else both. -/
def fork (as : Asm) : BExp → Tree (Bool × Asm)
  | .lit b => .leaf (b, as)
  | .not x => (fork as x).bind fun r => .leaf (!r.1, r.2)
  | .beq x y => (fork as x).bind fun r => (fork r.2 y).bind fun q => .leaf (r.1 == q.1, q.2)
  | b => match decideB as b with
    | some v => .leaf (v, as)
    | none => .node b (.leaf (true, (b, true) :: as)) (.leaf (false, (b, false) :: as))

theorem fork_atom {e : Env} (ok : EnvOk e) {as : Asm} (ha : AsmOk e as) {b : BExp} {v : Bool} {as' : Asm}
    (h : (match decideB as b with | some v => Tree.leaf (v, as) | none => Tree.node b (.leaf (true, (b, true) :: as)) (.leaf (false, (b, false) :: as))).pick e = some (v, as')) :
    b.den e = v ∧ AsmOk e as' := by
  split at h
  · rename_i u hu
    simp only [Tree.pick, Option.some.injEq, Prod.mk.injEq] at h
    obtain ⟨rfl, rfl⟩ := h
    exact ⟨decideB_ok ok ha hu, ha⟩
  · simp only [Tree.pick] at h
    split at h
    · rename_i hb
      simp only [Option.some.injEq, Prod.mk.injEq] at h
      obtain ⟨rfl, rfl⟩ := h
      refine ⟨hb, fun p hp => ?_⟩
      rcases List.mem_cons.1 hp with rfl | hp
      · exact hb
      · exact ha p hp
    · rename_i hb
      simp only [Option.some.injEq, Prod.mk.injEq] at h
      obtain ⟨rfl, rfl⟩ := h
      simp only [Bool.not_eq_true] at hb
      refine ⟨hb, fun p hp => ?_⟩
      rcases List.mem_cons.1 hp with rfl | hp
      · exact hb
      · exact ha p hp

theorem fork_ok {e : Env} (ok : EnvOk e) : ∀ {as : Asm} {b : BExp} {v : Bool} {as' : Asm}, AsmOk e as → (fork as b).pick e = some (v, as') → b.den e = v ∧ AsmOk e as'
  | as, .lit b, v, as', ha, h => by
    simp only [fork, Tree.pick, Option.some.injEq, Prod.mk.injEq] at h
    obtain ⟨rfl, rfl⟩ := h
    exact ⟨rfl, ha⟩
  | as, .not x, v, as', ha, h => by
    simp only [fork] at h
    obtain ⟨⟨u, as1⟩, h1, h2⟩ := Tree.pick_bind h
    simp only [Tree.pick, Option.some.injEq, Prod.mk.injEq] at h2
    obtain ⟨rfl, rfl⟩ := h2
    have := fork_ok ok ha h1
    exact ⟨by simp only [BExp.den, this.1], this.2⟩
  | as, .beq x y, v, as', ha, h => by
    simp only [fork] at h
    obtain ⟨⟨u, as1⟩, h1, h2⟩ := Tree.pick_bind h
    obtain ⟨⟨u2, as2⟩, h3, h4⟩ := Tree.pick_bind h2
    simp only [Tree.pick, Option.some.injEq, Prod.mk.injEq] at h4
    obtain ⟨rfl, rfl⟩ := h4
    have t1 := fork_ok ok ha h1
    have t2 := fork_ok ok t1.2 h3
    exact ⟨by simp only [BExp.den, t1.1, t2.1], t2.2⟩
  | as, .var i, v, as', ha, h => fork_atom ok ha (by simpa only [fork] using h)
  | as, .eq x y, v, as', ha, h => fork_atom ok ha (by simpa only [fork] using h)
  | as, .lt x y, v, as', ha, h => fork_atom ok ha (by simpa only [fork] using h)
  | as, .le x y, v, as', ha, h => fork_atom ok ha (by simpa only [fork] using h)
  | as, .app f x y z b, v, as', ha, h => fork_atom ok ha (by simpa only [fork] using h)
end Go.Proofs.YtbkkeedanfmfeaaDoor.Sx
