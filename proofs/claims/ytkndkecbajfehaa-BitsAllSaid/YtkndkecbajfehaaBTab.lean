/- What Number and awake answer, as contracts. -/
import Derived.Test.YtkndkecbajfehaaBRefC
namespace Go.Proofs.Ytkndkecbajfehaa.Bits
open Go Sy
set_option maxRecDepth 100000
set_option linter.unusedVariables false
set_option linter.unusedSimpArgs false

theorem TabOk.or {P : Program} {G ov : Nat} {t u : Tab} {e : Env} (h : TabOk P G ov t e) (k : TabOk P G ov u e) : TabOk P G ov (fun ro f args st => match t ro f args st with
    | some x => some x
    | none => u ro f args st) e := by
  intro ro f args st x Z hx
  simp only at hx
  split at hx
  · rename_i y hy
    cases hx
    exact h ro f args st x Z hy
  · exact k ro f args st x Z hx

def numAns (a : AExp) : SVal := match a with
  | .cst l => .tup [.c (.i .i64 (.lit (numR (ints (strOf l))).1)), .c (.i .i64 (.lit (numR (ints (strOf l))).2))]
  | a => .tup [.c (.i .i64 (.fn .i64 0 0 (.a a .nil))), .c (.i .i64 (.fn .i64 0 1 (.a a .nil)))]
def lenFit (q : Asm) (a : AExp) : Bool := match a.lenR q with
  | some (_, h) => decide (h ≤ lenTop)
  | none => false
def tabN : Tab := fun _ f args st => match args with
  | [.v (.c (.s a))] => if (f = 15 ∨ f = 16) ∧ lenFit st.as a = true then some (.leaf (numAns a, st)) else none
  | _ => none
structure NumEnv (e : Env) : Prop where
  n : ∀ l, e.fi .i64 0 0 [.a l] = (numR (ints (strOf l))).1
  k : ∀ l, e.fi .i64 0 1 [.a l] = (numR (ints (strOf l))).2
theorem tabN_ok {e : Env} (ok : EnvOk e) (hn : NumEnv e) (G ov : Nat) : TabOk Try.prog G ov tabN e := by
  intro ro f args st t Z ht hov hz ρ vs W R hv ha hr hg hR
  unfold tabN at ht
  split at ht
  · rename_i a
    split at ht
    · rename_i hc
      obtain ⟨hf, hl⟩ := hc
      cases ht
      obtain ⟨v, vs', rfl, hv, rfl⟩ := hv
      have hv : v = .string (strOf (a.den e)) := hv
      subst hv
      have hsz : ((strOf (a.den e)).size : Int) ≤ IntKind.i64.max := by
        rw [strOf_size]
        have := AExp.lenR_ok ok ha a
        unfold lenFit at hl
        split at hl
        · rename_i x h hh
          rw [hh] at this
          have h2 := of_decide_eq_true hl
          have : ((a.den e).length : Int) ≤ h := this.2
          simp only [IntKind.max_i64, lenTop] at *
          omega
        · cases hl
      have hans : (numAns a).D e ρ (.tuple #[.int .i64 (numR (ints (strOf (a.den e)))).1, .int .i64 (numR (ints (strOf (a.den e)))).2]) := by
        have hgen : ∀ x y : IExp, x.den e = (numR (ints (strOf (a.den e)))).1 → y.den e = (numR (ints (strOf (a.den e)))).2 →
            (SVal.tup [.c (.i .i64 x), .c (.i .i64 y)]).D e ρ (.tuple #[.int .i64 (numR (ints (strOf (a.den e)))).1, .int .i64 (numR (ints (strOf (a.den e)))).2]) := by
          intro x y hx hy
          rw [← hx, ← hy]
          exact ⟨[_, _], rfl, _, _, rfl, rfl, _, _, rfl, rfl, rfl⟩
        unfold numAns
        split
        · exact hgen _ _ (by simp only [IExp.den, AExp.den]) (by simp only [IExp.den, AExp.den])
        · exact hgen _ _ (by simp only [IExp.den, LExp.den, hn.n]) (by simp only [IExp.den, LExp.den, hn.k])
      rcases hf with rfl | rfl
      · refine (num_calls hsz W).mono ?_
        rintro en W' ⟨rfl, hb⟩
        exact hR _ _ hz ρ _ W' (Post.of_below hr hb) hans ha
      · refine (ref_calls hsz W).mono ?_
        rintro en W' ⟨rfl, hb⟩
        exact hR _ _ hz ρ _ W' (Post.of_below hr hb) hans ha
    · cases ht
  · cases ht

theorem numF_in : ∀ (l : List Int) (n m : Int), 0 ≤ n → (∀ x ∈ l, 0 ≤ x) → numF l n = some m → n ≤ m ∧ m < (n + 1) * 16 ^ l.length
  | [], n, m, h0, _, h => by
    cases h
    simp only [List.length_nil, Int.pow_zero]
    omega
  | c :: r, n, m, h0, hl, h => by
    have hp : (16 : Int) ^ (r.length + 1) = 16 ^ r.length * 16 := Int.pow_succ _ _
    have hpos : (0 : Int) < 16 ^ r.length := Int.pow_pos (by omega)
    have key : ∀ d : Int, 0 ≤ d → d ≤ 15 → numF r (16 * n + d) = some m → n ≤ m ∧ m < (n + 1) * 16 ^ (r.length + 1) := by
      intro d d0 d1 hd
      obtain ⟨h1, h2⟩ := numF_in r _ m (by omega) (fun x hx => hl x (List.mem_cons_of_mem _ hx)) hd
      refine ⟨by omega, ?_⟩
      rw [hp]
      calc m < (16 * n + d + 1) * 16 ^ r.length := h2
        _ ≤ (16 * (n + 1)) * 16 ^ r.length := Int.mul_le_mul_of_nonneg_right (by omega) (by omega)
        _ = (n + 1) * (16 ^ r.length * 16) := by rw [Int.mul_comm 16 (n + 1), Int.mul_assoc, Int.mul_comm 16]
    simp only [numF] at h
    simp only [List.length_cons]
    split at h
    · exact key (c - 48) (by omega) (by omega) h
    · split at h
      · exact key (c - 87) (by omega) (by omega) h
      · cases h
theorem numR_in (l : List Int) (hl : ∀ x ∈ l, 0 ≤ x) : (0 ≤ (numR l).1 ∧ (numR l).1 < 4294967296) ∧ (0 ≤ (numR l).2 ∧ (numR l).2 ≤ 1) := by
  unfold numR
  split
  · exact ⟨⟨by simp, by simp⟩, by simp, by simp⟩
  · split
    · rename_i h1 n hn
      obtain ⟨h2, h3⟩ := numF_in l 0 n (by omega) hl hn
      have h16 : (16 : Int) ^ l.length ≤ 16 ^ 8 := by exact_mod_cast Nat.pow_le_pow_right (show 0 < 16 by omega) (show l.length ≤ 8 by omega)
      have h168 : (16 : Int) ^ 8 = 4294967296 := by decide
      exact ⟨⟨h2, by omega⟩, by simp, by simp⟩
    · exact ⟨⟨by simp, by simp⟩, by simp, by simp⟩
theorem ints_nonneg (s : ByteArray) : ∀ x ∈ ints s, 0 ≤ x := fun x hx => by
  have := (ints_in s x hx).1
  simpa only [IntKind.min_u8] using this

/-- The letters of the sums: a function's answers are Number's. -/
def fiN (k : IntKind) (f j : Nat) (l : List LV) : Int := match k, f, j, l with
  | .i64, 0, 0, [.a l] => (numR (ints (strOf l))).1
  | .i64, 0, 1, [.a l] => (numR (ints (strOf l))).2
  | _, _, _, _ => 0
def withN (s : Src) : Src := { s with fi := fiN }
theorem withN_num (s : Src) : NumEnv (withN s).env := by
  constructor
  · intro l
    have := (numR_in _ (ints_nonneg (strOf l))).1
    exact clip_of (k := .i64) (n := (numR (ints (strOf l))).1) (in64 (by omega) (by omega))
  · intro l
    have := (numR_in _ (ints_nonneg (strOf l))).2
    exact clip_of (k := .i64) (n := (numR (ints (strOf l))).2) (in64 (by omega) (by omega))

theorem awake_true : (xCall Try.prog 0 plan tabN 1000 0 11 [] ⟨[], []⟩).all isT = true := by kernel_rfl
theorem awake (W : World) : Calls Try.prog 11 #[] W fun en W' => en = .returned (.bool true) ∧ RowKit.Below W.heap.size W W' :=
  run_true (withN (srcS [] 0)).ok mixed plan_ok LtOk.none (tabN_ok (withN (srcS [] 0)).ok (withN_num _) 0 0) (args := []) (vs := []) rfl (AsmOk.nil _) (HRel.none _ _ W) (fun g hg => absurd hg (Nat.not_lt_zero _)) (Nat.le_refl _) awake_true
def tabA : Tab := fun _ f args st => match args with
  | [] => if f = 11 then some (.leaf (.v (.c (.b (.lit true))), st)) else none
  | _ => none
theorem tabA_ok (e : Env) (G ov : Nat) : TabOk Try.prog G ov tabA e := by
  intro ro f args st t Z ht hov hz ρ vs W R hv ha hr hg hR
  unfold tabA at ht
  split at ht
  · split at ht
    · rename_i hf
      cases ht
      subst hf
      cases hv
      refine (awake W).mono ?_
      rintro en W' ⟨rfl, hb⟩
      exact hR _ _ hz ρ _ W' (Post.of_below hr hb) rfl ha
    · cases ht
  · cases ht
end Go.Proofs.Ytkndkecbajfehaa.Bits
