/- The sums' laws by the executor: the program, its plan, pieces of code. -/
import Derived.Test.YtofphikiadiogaaDoorSyLoop
import Derived.Test.YtofphikiadiogaaDoorSyPlan
import Derived.Test.YtofphikiadiogaaDoorRows
namespace Go.Proofs.YtofphikiadiogaaDoor.Bits
open Go Sy
set_option maxRecDepth 100000
set_option linter.unusedVariables false
set_option linter.unusedSimpArgs false

theorem mixed : Tryd.prog.follows .mixedOrders = true := by kernel_rfl
def plan : Plan := ⟨sch, noLt⟩
/-- A piece of code. -/
def sub : Code → List Bool → Code
  | c, [] => c
  | .seq a b, x :: r => sub (cond x b a) r
  | .cond _ a b, x :: r => sub (cond x b a) r
  | .block _ b, _ :: r => sub b r
  | .loop b, _ :: r => sub b r
  | _, _ => .skip
noncomputable def body (f : Nat) : Code := ((Tryd.prog.funcs[f]?).bind (·.body)).getD .skip
theorem code {e : Env} (ok : EnvOk e) {G ov : Nat} {tab : Tab} (htab : TabOk Tryd.prog G ov tab e) (n : Nat) : CodeOk Tryd.prog G ov plan tab e n :=
  (sound ok mixed plan_ok LtOk.none htab n).1

/-- A piece of code that speaks of no memory: what stands in some slots behind it. -/
theorem piece {e : Env} (ok : EnvOk e) {tab : Tab} (htab : TabOk Tryd.prog 0 0 tab e) {n : Nat} {f : Nat} {c : Code} {tm : Tm} {q : Asm} {slots : List Nat} {T : WT (XE × List SVal × Nat)}
    (hT : (xCode Tryd.prog 0 plan tab n (plan.at f) 0 c tm ⟨[], q⟩).map (slotsOf slots) = T) (hpl : planned Tryd.prog (plan.at f).sch c = true) {Qs : XE × List SVal × Nat → Prop} (hh : T.holds e Qs)
    {a : Act} {W : World} (hn : tm.n = a.tmps.size) (ht : ∀ t, (tm.get t).D e [] (a.tmps.toList.getD t undef)) (hdf : a.defers = []) (hq : AsmOk e q) {Q : Exit → Act → World → Prop}
    (h : ∀ (ex : XE) (l : List SVal) (k : Nat), Qs (ex, l, k) → ∀ (a' : Act) (W' : World), a'.defers = [] → a'.tmps.size = k → (∀ (i t : Nat) (x : SVal), slots[i]? = some t → l[i]? = some x → ∃ ρ, x.D e ρ (a'.tmps.toList.getD t undef)) → RowKit.Below W.heap.size W W' → Q ex.to a' W') (hb0 : e.base = 0 := by first | rfl | (subst_vars; rfl)) (hx0 : e.fx = [] := by first | rfl | (subst_vars; rfl)) : c.wp Tryd.prog Q a W := by
  refine code ok htab n (plan.at f) 0 c tm ⟨[], q⟩ (fun q => Qs (slotsOf slots q)) hpl (LtAll.none (fun _ => rfl) _) (Nat.le_refl _) (WT.holds_of_map (by rw [hT]; exact hh)) [] a W Q ⟨⟨by simpa using hn, ht⟩, hdf, hq, HRel.none _ _ _ hb0 hx0, fun g hg => absurd hg (Nat.not_lt_zero _)⟩ ?_
  intro ex tm' st' hz ρ' a' W' hp hR
  refine h ex _ _ hz a' W' hR.df (by have := hR.tm.1; simpa using this.symm) (fun i t x hi hx => ?_) ⟨hp.fr.os, hp.fr.tape, hp.fr.output, hp.fr.size, fun k hk => hp.fr.same k hk (by rintro ⟨o, hm⟩; simp at hm)⟩
  refine ⟨ρ', ?_⟩
  rw [List.getElem?_map, hi] at hx
  simp only [Option.map_some, Option.some.injEq] at hx
  exact hR.tm.slot hx

theorem results_two {P : Program} {fn : Func} {i j : Nat} (h : fn.results = #[.tmp i, .tmp j]) (t : Array Value) (w : World) : (results fn t).run P w = .ok (.tuple #[t.toList.getD i undef, t.toList.getD j undef]) w := by
  simp [results, h, Array.getD_eq_getD_getElem?, List.getD_eq_getElem?_getD]
theorem fn_of {f n : Nat} {r : Array ResultVar} (h : (Tryd.prog.funcs[f]?).map (fun fn => (fn.body.isSome, fn.results, fn.ntmps)) = some (true, r, n)) : ∃ fn, Tryd.prog.funcs[f]? = some fn ∧ fn.body = some (body f) ∧ fn.results = r ∧ fn.ntmps = n := by
  unfold body
  cases hf : Tryd.prog.funcs[f]? with
  | none => rw [hf] at h; cases h
  | some fn =>
    rw [hf] at h
    simp only [Option.map_some, Option.some.injEq, Prod.mk.injEq] at h
    obtain ⟨h1, h2, h3⟩ := h
    obtain ⟨b, hb⟩ := Option.isSome_iff_exists.1 h1
    exact ⟨fn, rfl, by simp [hb], h2, h3⟩
/-- A piece whose slots are told one by one. -/
theorem pieceL {e : Env} (ok : EnvOk e) {n : Nat} {f k : Nat} {c : Code} {l : List (Nat × SVal)} {q : Asm} {slots : List Nat} {T : WT (XE × List SVal × Nat)}
    (hT : (xCode Tryd.prog 0 plan (fun _ _ _ _ => none) n (plan.at f) 0 c ⟨k, l, true⟩ ⟨[], q⟩).map (slotsOf slots) = T) (hpl : planned Tryd.prog (plan.at f).sch c = true) {Qs : XE × List SVal × Nat → Prop} (hh : T.holds e Qs)
    {a : Act} {W : World} (hn : a.tmps.size = k) (ht : ∀ q ∈ l, q.2.D e [] (a.tmps.toList.getD q.1 undef)) (hdf : a.defers = []) (hq : AsmOk e q) {Q : Exit → Act → World → Prop}
    (h : ∀ (ex : XE) (l : List SVal) (k : Nat), Qs (ex, l, k) → ∀ (a' : Act) (W' : World), a'.defers = [] → a'.tmps.size = k → (∀ (i t : Nat) (x : SVal), slots[i]? = some t → l[i]? = some x → ∃ ρ, x.D e ρ (a'.tmps.toList.getD t undef)) → RowKit.Below W.heap.size W W' → Q ex.to a' W') (hb0 : e.base = 0 := by first | rfl | (subst_vars; rfl)) (hx0 : e.fx = [] := by first | rfl | (subst_vars; rfl)) : c.wp Tryd.prog Q a W := by
  have := TmD.of_list (e := e) (ρ := []) (n := k) (vs := a.tmps.toList) (by rw [Array.length_toList, hn]) ht
  exact piece ok (TabOk.none _ _ _ _) hT hpl hh (by simpa using hn.symm) this.2 hdf hq h hb0 hx0
end Go.Proofs.YtofphikiadiogaaDoor.Bits
