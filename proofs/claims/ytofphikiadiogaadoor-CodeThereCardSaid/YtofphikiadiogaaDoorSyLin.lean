/- A symbolic executor for Go code: equations between sums, told by the equations that are known. -/
import Derived.Test.YtofphikiadiogaaDoorSyCfg
namespace Go.Proofs.YtofphikiadiogaaDoor.Sy
set_option linter.unusedVariables false
set_option linter.unusedSimpArgs false
open Go

def lcOf : IExp → Lc × Int
  | .lit n => ([], n)
  | .bin .add .i64 x y => (lcAdd 1 (lcOf x).1 (lcOf y).1, (lcOf x).2 + (lcOf y).2)
  | .bin .sub .i64 x y => (lcAdd (-1) (lcOf y).1 (lcOf x).1, (lcOf x).2 - (lcOf y).2)
  | .bin .mul .i64 x (.lit n) => (lcAdd n (lcOf x).1 [], n * (lcOf x).2)
  | x => ([(x, 1)], 0)
theorem wrap_mod (n : Int) : ∃ q, IntKind.i64.wrap n = n + q * 18446744073709551616 := by
  refine ⟨-((n + 9223372036854775808) / 18446744073709551616), ?_⟩
  simp [IntKind.wrap, IntKind.bits, IntKind.signed]
  omega
theorem lcOf_self {e : Env} (x : IExp) : ∃ q, x.den e = lcSum e [(x, 1)] + 0 + q * 18446744073709551616 := ⟨0, by simp [lcSum]⟩
theorem lcOf_ok {e : Env} : ∀ (x : IExp), ∃ q, x.den e = lcSum e (lcOf x).1 + (lcOf x).2 + q * 18446744073709551616
  | .lit n => ⟨0, by simp [lcOf, lcSum, IExp.den]⟩
  | .bin op k x y => by
    by_cases h : op = .add ∧ k = .i64
    · obtain ⟨rfl, rfl⟩ := h
      obtain ⟨a, ha⟩ := lcOf_ok (e := e) x
      obtain ⟨b, hb⟩ := lcOf_ok (e := e) y
      obtain ⟨c, hc⟩ := wrap_mod (x.den e + y.den e)
      refine ⟨a + b + c, ?_⟩
      simp only [IExp.den, binDen, lcOf, lcAdd_sum, hc]
      omega
    · by_cases h : op = .sub ∧ k = .i64
      · obtain ⟨rfl, rfl⟩ := h
        obtain ⟨a, ha⟩ := lcOf_ok (e := e) x
        obtain ⟨b, hb⟩ := lcOf_ok (e := e) y
        obtain ⟨c, hc⟩ := wrap_mod (x.den e - y.den e)
        refine ⟨a - b + c, ?_⟩
        simp only [IExp.den, binDen, lcOf, lcAdd_sum, hc]
        omega
      · by_cases h : op = .mul ∧ k = .i64 ∧ ∃ n, y = .lit n
        · obtain ⟨rfl, rfl, n, rfl⟩ := h
          obtain ⟨a, ha⟩ := lcOf_ok (e := e) x
          obtain ⟨c, hc⟩ := wrap_mod (x.den e * n)
          refine ⟨a * n + c, ?_⟩
          simp only [IExp.den, binDen, lcOf, lcAdd_sum, hc, lcSum]
          rw [ha]
          have h1 : (lcSum e (lcOf x).fst + (lcOf x).snd + a * 18446744073709551616) * n = n * lcSum e (lcOf x).fst + n * (lcOf x).snd + a * n * 18446744073709551616 := by
            rw [Int.add_mul, Int.add_mul, Int.mul_comm (lcSum e _) n, Int.mul_comm (lcOf x).snd n, Int.mul_assoc a 18446744073709551616 n, Int.mul_comm 18446744073709551616 n, ← Int.mul_assoc]
          rw [h1, Int.add_mul]
          omega
        · have : lcOf (.bin op k x y) = ([(.bin op k x y, 1)], 0) := by
            unfold lcOf
            split
            · rename_i hh; cases hh
            · rename_i hh; cases hh; simp_all
            · rename_i hh; cases hh; simp_all
            · rename_i hh; cases hh; simp_all
            · rfl
          rw [this]
          exact lcOf_self _
  | .var k i => lcOf_self _
  | .conv k x => lcOf_self _
  | .sel k a i => lcOf_self _
  | .len a => lcOf_self _
  | .fn k f j l => lcOf_self _
  | .bit b => lcOf_self _

/-- A sum that is nothing, mod 2^64. -/
def LcZ (e : Env) (d : Lc × Int) : Prop := ∃ q, lcSum e d.1 + d.2 = q * 18446744073709551616
def lcDiff (x y : IExp) : Lc × Int := (lcAdd (-1) (lcOf y).1 (lcOf x).1, (lcOf x).2 - (lcOf y).2)
theorem lcDiff_ok {e : Env} (x y : IExp) : ∃ q, x.den e - y.den e = lcSum e (lcDiff x y).1 + (lcDiff x y).2 + q * 18446744073709551616 := by
  obtain ⟨a, ha⟩ := lcOf_ok (e := e) x
  obtain ⟨b, hb⟩ := lcOf_ok (e := e) y
  refine ⟨a - b, ?_⟩
  simp only [lcDiff, lcAdd_sum]
  rw [ha, hb]
  omega
def coefOf (a : IExp) : Lc → Int
  | [] => 0
  | (b, k) :: r => if a.same b = true then k else coefOf a r
/-- An equation, by which a text is gone. -/
abbrev Eqn := IExp × Lc × Int
def reduce1 (q : Eqn) (d : Lc × Int) : Lc × Int :=
  let k := coefOf q.1 d.1
  if k = 0 then d else (lcAdd (-k) q.2.1 d.1, d.2 - k * q.2.2)
def reduceAll (qs : List Eqn) (d : Lc × Int) : Lc × Int := qs.foldl (fun d q => reduce1 q d) d
theorem reduce1_ok {e : Env} {q : Eqn} (hq : LcZ e q.2) (d : Lc × Int) : ∃ c, lcSum e d.1 + d.2 = lcSum e (reduce1 q d).1 + (reduce1 q d).2 + c * 18446744073709551616 := by
  unfold reduce1
  simp only
  split
  · exact ⟨0, by omega⟩
  · obtain ⟨c, hc⟩ := hq
    refine ⟨coefOf q.1 d.1 * c, ?_⟩
    simp only [lcAdd_sum]
    rw [Int.mul_assoc, ← hc, Int.mul_add, Int.neg_mul]
    omega
theorem reduceAll_ok {e : Env} : ∀ {qs : List Eqn} (hq : ∀ q ∈ qs, LcZ e q.2) (d : Lc × Int), ∃ c, lcSum e d.1 + d.2 = lcSum e (reduceAll qs d).1 + (reduceAll qs d).2 + c * 18446744073709551616
  | [], _, d => ⟨0, by simp [reduceAll]⟩
  | q :: qs, hq, d => by
    obtain ⟨a, ha⟩ := reduce1_ok (hq q List.mem_cons_self) d
    obtain ⟨b, hb⟩ := reduceAll_ok (qs := qs) (fun r hr => hq r (List.mem_cons_of_mem _ hr)) (reduce1 q d)
    refine ⟨a + b, ?_⟩
    rw [ha, hb]
    simp only [reduceAll, List.foldl_cons]
    rw [Int.add_mul]
    omega
/-- The first text that stands once. -/
def pivot : Lc → Option (IExp × Int)
  | [] => none
  | (a, k) :: r => if k = 1 ∨ k = -1 then some (a, k) else pivot r
def addEqn (qs : List Eqn) (x y : IExp) : List Eqn :=
  let d := reduceAll qs (lcDiff x y)
  match pivot d.1 with
  | some (a, k) => qs ++ [(a, lcAdd k d.1 [], k * d.2)]
  | none => qs
theorem addEqn_ok {e : Env} {qs : List Eqn} (hq : ∀ q ∈ qs, LcZ e q.2) {x y : IExp} (h : x.den e = y.den e) : ∀ q ∈ addEqn qs x y, LcZ e q.2 := by
  unfold addEqn
  simp only
  split
  · rename_i a k hp
    intro q hm
    rcases List.mem_append.1 hm with hm | hm
    · exact hq q hm
    · rcases List.mem_singleton.1 hm with rfl
      obtain ⟨u, hu⟩ := lcDiff_ok (e := e) x y
      obtain ⟨v, hv⟩ := reduceAll_ok hq (lcDiff x y)
      refine ⟨k * (-(u + v)), ?_⟩
      simp only [lcAdd_sum, lcSum]
      have : lcSum e (reduceAll qs (lcDiff x y)).fst + (reduceAll qs (lcDiff x y)).snd = -(u + v) * 18446744073709551616 := by
        rw [Int.neg_mul, Int.add_mul]; omega
      rw [Int.add_zero, ← Int.mul_add, this, Int.mul_assoc]
  · exact hq
def eqnsOf (as : Asm) (qs : List Eqn) : List Eqn := match as with
  | [] => qs
  | (.eq x y, true) :: r => eqnsOf r (addEqn qs x y)
  | _ :: r => eqnsOf r qs
theorem eqnsOf_ok {e : Env} : ∀ {as : Asm} {qs : List Eqn}, AsmOk e as → (∀ q ∈ qs, LcZ e q.2) → ∀ q ∈ eqnsOf as qs, LcZ e q.2
  | [], _, _, h => h
  | p :: r, qs, ha, h => by
    have hr : AsmOk e r := fun q hq => ha q (List.mem_cons_of_mem _ hq)
    unfold eqnsOf
    split
    · rename_i heq; cases heq
    · rename_i x y r' heq
      cases heq
      exact eqnsOf_ok hr (addEqn_ok h (eqT (ha _ List.mem_cons_self)))
    · rename_i heq
      cases heq
      exact eqnsOf_ok hr h
/-- Equal, by what is known. -/
def eqLin (as : Asm) (x y : IExp) : Bool :=
  let qs := eqnsOf as []
  let d := reduceAll qs (reduceAll qs (lcDiff x y))
  d.1.isEmpty && decide (d.2 % 18446744073709551616 = 0) && inKind .i64 (x.rng as) && inKind .i64 (y.rng as)
theorem eqLin_ok {e : Env} (ok : EnvOk e) {as : Asm} (ha : AsmOk e as) {x y : IExp} (h : eqLin as x y = true) : x.den e = y.den e := by
  simp only [eqLin, Bool.and_eq_true, decide_eq_true_eq, List.isEmpty_iff] at h
  obtain ⟨⟨⟨h1, h2⟩, h3⟩, h4⟩ := h
  have hx := inKind_spec h3 (IExp.rng_ok ok ha x)
  have hy := inKind_spec h4 (IExp.rng_ok ok ha y)
  have hq := eqnsOf_ok (qs := []) ha (fun q hq => by cases hq)
  obtain ⟨a, ha'⟩ := lcDiff_ok (e := e) x y
  obtain ⟨b, hb⟩ := reduceAll_ok hq (lcDiff x y)
  obtain ⟨c, hc⟩ := reduceAll_ok hq (reduceAll (eqnsOf as []) (lcDiff x y))
  rw [h1] at hc
  simp only [lcSum] at hc
  simp only [In, IntKind.min_i64, IntKind.max_i64] at hx hy
  omega
end Go.Proofs.YtofphikiadiogaaDoor.Sy
