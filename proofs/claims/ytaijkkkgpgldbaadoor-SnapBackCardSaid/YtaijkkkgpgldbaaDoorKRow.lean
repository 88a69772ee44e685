/- Slices of numbers that come in. -/
import Derived.Test.YtaijkkkgpgldbaaDoorKBase
namespace Go.Proofs.YtaijkkkgpgldbaaDoor.K
open Go Sy
set_option maxRecDepth 100000
set_option linter.unusedVariables false
set_option linter.unusedSimpArgs false

/-- A slice of numbers, as far as its capacity goes. -/
def IsRow (k : IntKind) (W : World) (a : Option Addr) (n c : Nat) (z : List Int) : Prop :=
  (a = none ∧ n = 0 ∧ c = 0 ∧ z = []) ∨ ∃ x, a = some x ∧ n ≤ c ∧ c ≤ maxLen ∧ z.length = c ∧ (∀ i, i < z.length → W.cell? (x.add i) = some (.int k (z.getD i 0))) ∧ ∀ m ∈ z, (Lit.int k m).wf = true
theorem cells_row {W : World} {x : Addr} {vs : List Value} (h0 : vs ≠ []) (h : ∀ i, i < vs.length → W.cell? (x.add i) = some (vs.getD i undef)) : x = ⟨x.block, x.off, none⟩ ∧ At False W x.block x.off vs.length vs := by
  obtain ⟨b, o, s⟩ := x
  have hp : 0 < vs.length := List.length_pos_iff.2 h0
  have hz := h 0 hp
  simp only [Addr.add, if_true, World.cell?] at hz
  split at hz
  · rename_i cs t fz hb
    split at hz
    · cases hz
    · rename_i hs
      have hs : s = none := by cases s <;> simp_all
      subst hs
      refine ⟨rfl, ?_⟩
      have hget : ∀ i, i < vs.length → cs.toList[o + i]? = some (vs.getD i undef) := by
        intro i hi
        have := h i hi
        by_cases hi0 : i = 0
        · subst hi0
          simp only [Addr.add, if_true, World.cell?, hb] at this
          simpa using this
        · simp only [Addr.add, if_neg hi0, World.cell?, hb] at this
          simpa using this
      have hlast := hget (vs.length - 1) (by omega)
      have hsz : o + vs.length ≤ cs.toList.length := by
        have := (List.getElem?_eq_some_iff.1 hlast).1
        omega
      have hmid : (cs.toList.drop o).take vs.length = vs := by
        apply List.ext_getElem?
        intro i
        by_cases hi : i < vs.length
        · rw [List.getElem?_take_of_lt hi, List.getElem?_drop, hget i hi, List.getD_eq_getElem?_getD, List.getElem?_eq_getElem hi]; rfl
        · rw [List.getElem?_eq_none (by simp; omega), List.getElem?_eq_none (by omega)]
      refine ⟨⟨cs, t, fz, cs.toList.take o, cs.toList.drop (o + vs.length), hb, fun q => q.elim, ?_, by simp; simp at hsz; omega, by simp⟩⟩
      have : cs.toList.take o ++ ((cs.toList.drop o).take vs.length ++ (cs.toList.drop o).drop vs.length) = cs.toList := by rw [List.take_append_drop, List.take_append_drop]
      rw [hmid, List.drop_drop] at this
      rw [List.append_assoc]; exact this.symm
  · cases hz
theorem isRow_cases {k : IntKind} {W : World} {a : Option Addr} {n c : Nat} {z : List Int} (h : IsRow k W a n c z) :
    (c = 0 ∧ n = 0 ∧ z = []) ∨ ∃ b o, a = some ⟨b, o, none⟩ ∧ 0 < c ∧ n ≤ c ∧ (c : Int) ≤ lenTop ∧ z.length = c ∧ At False W b o c (z.map (.int k)) ∧ ∀ x ∈ z, In k x := by
  rcases h with ⟨_, h1, h2, h3⟩ | ⟨x, rfl, h1, h2, h3, h4, h5⟩
  · exact .inl ⟨h2, h1, h3⟩
  by_cases hc : c = 0
  · exact .inl ⟨hc, by omega, List.length_eq_zero_iff.1 (by omega)⟩
  right
  have hne : z.map (Value.int k) ≠ [] := by
    intro hh
    have := congrArg List.length hh
    simp at this
    rw [this] at h3; exact hc h3.symm
  obtain ⟨hx, hat⟩ := cells_row (W := W) (x := x) hne (fun i hi => by
    rw [h4 i (by simpa using hi)]
    simp only [List.length_map] at hi
    simp [List.getD_eq_getElem?_getD, List.getElem?_map, List.getElem?_eq_getElem hi])
  rw [List.length_map, h3] at hat
  refine ⟨x.block, x.off, by rw [← hx], by omega, h1, ?_, h3, hat, fun m hm => ?_⟩
  · have : lenTop = ((maxLen : Nat) : Int) := by decide
    omega
  · have := h5 m hm
    rw [Lit.wf_int_iff] at this
    exact this
/-- What the reading says of the world: it stands so. -/
structure Knows (e : Env) (W : World) (ρ : Rho) : Prop where
  fx : ∀ (i : Nat) x, e.fx[i]? = some x → ρ[i]? = some x
  size : e.base ≤ W.heap.size
  same : ∀ k, k < e.base → W.heap[k]? = e.h0 k
theorem Knows.none {e : Env} {W : World} {ρ : Rho} (hb : e.base = 0) (hx : e.fx = []) : Knows e W ρ :=
  ⟨fun i x h => by rw [hx] at h; simp at h, by rw [hb]; exact Nat.zero_le _, fun k hk => by rw [hb] at hk; exact absurd hk (Nat.not_lt_zero _)⟩
theorem Knows.full {e : Env} {W : World} {ρ : Rho} (hb : e.base = W.heap.size) (hh : e.h0 = fun k => W.heap[k]?) (hx : e.fx = ρ) : Knows e W ρ :=
  ⟨fun i x h => by rw [hx] at h; exact h, by rw [hb]; exact Nat.le_refl _, fun k _ => by rw [hh]⟩
theorem Knows.old {e : Env} {W : World} {ρ : Rho} (h : Knows e W ρ) : Old e ρ.length ρ W := by
  refine ⟨h.fx, ?_, h.size, h.same, fun b hb => by rw [List.drop_eq_nil_of_le (Nat.le_refl _)] at hb; cases hb⟩
  rcases Nat.eq_zero_or_pos e.fx.length with h0 | h0
  · omega
  · have := h.fx (e.fx.length - 1) _ (List.getElem?_eq_getElem (by omega))
    have := (List.getElem?_eq_some_iff.1 this).1
    omega
/-- Memory that is only read. -/
theorem HRel.ro {e : Env} {ρ : Rho} {h : SHeap} {W : World} (hlen : h.length = ρ.length) (hb : ∀ (i : Nat) (l : List Seg) (t : TypeId), h[i]? = some (some (l, t)) → ∃ b o r vs, ρ[i]? = some (b, o, r) ∧ At False W b o r vs ∧ SegsD e ρ l vs) (hk : Knows e W ρ) : HRel e ρ.length ρ h W := by
  refine ⟨hlen, fun i j b c hi hj _ _ _ hov => ?_, fun i l t hi => ?_, hk.old⟩
  · obtain ⟨s, hs⟩ := hi
    obtain ⟨s', hs'⟩ := hj
    have := (List.getElem?_eq_some_iff.1 hs).1
    have := (List.getElem?_eq_some_iff.1 hs').1
    omega
  · obtain ⟨b, o, r, vs, h1, h2, h3⟩ := hb i l t hi
    have := (List.getElem?_eq_some_iff.1 hi).1
    exact ⟨b, o, r, vs, h1, h2.weak (fun q => by omega), h3⟩
/-- One row. -/
theorem hrel_row {e : Env} {W : World} {b o c : Nat} {k : IntKind} {z : List Int} {A : AExp} {t : TypeId} (hat : At False W b o c (z.map (.int k))) (hA : A.den e = z) (hk : Knows e W [(b, o, c)]) : HRel e 1 [(b, o, c)] [some ([.row k A], t)] W := by
  refine HRel.ro (ρ := [(b, o, c)]) rfl (fun i l u hi => ?_) hk
  · cases i with
    | zero =>
      simp only [List.getElem?_cons_zero, Option.some.injEq, Prod.mk.injEq] at hi
      obtain ⟨rfl, rfl⟩ := hi
      exact ⟨b, o, c, _, rfl, hat, [], by rw [hA, List.append_nil], rfl⟩
    | succ i => simp at hi
/-- A slice of which nothing is known but that it is empty. -/
theorem hrel_dead (e : Env) (W : World) (n : Nat) (hk : Knows e W (List.replicate n (0, 0, 0))) : HRel e n (List.replicate n (0, 0, 0)) (List.replicate n none) W := by
  have := HRel.ro (e := e) (W := W) (ρ := List.replicate n (0, 0, 0)) (h := List.replicate n none) (by simp) (fun i l t hi => by
    rw [List.getElem?_replicate] at hi
    split at hi <;> simp at hi) hk
  rwa [List.length_replicate] at this
end Go.Proofs.YtaijkkkgpgldbaaDoor.K
