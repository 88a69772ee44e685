/- Blocks that a call has written over, of which nothing is known any more. -/
import Derived.Test.YtaijkkkgpgldbaaDoorKBase
namespace Go.Proofs.YtaijkkkgpgldbaaDoor.K
open Go Sy
set_option maxRecDepth 100000
set_option linter.unusedVariables false
set_option linter.unusedSimpArgs false
/-- From W to W' nothing that was there has turned but these blocks. -/
structure But (bs : List Nat) (W W' : World) : Prop where
  os : W'.os = W.os
  tape : W'.tape = W.tape
  output : W'.output = W.output
  size : W.heap.size ≤ W'.heap.size
  same : ∀ k, k < W.heap.size → k ∉ bs → W'.heap[k]? = W.heap[k]?
theorem But.of_post {e : Env} {ov ro : Nat} {ρ ρ' : Rho} {W W' : World} {h' : SHeap} (hp : Post e ov ro ρ W ρ' h' W') {bs : List Nat} (hb : ∀ x ∈ ρ.drop ro, x.1 ∈ bs) : But bs W W' :=
  ⟨hp.fr.os, hp.fr.tape, hp.fr.output, hp.fr.size, fun k hk hn => hp.fr.same k hk (by
    rintro ⟨o, ho⟩
    exact hn (hb _ ho))⟩
def setNone : List Nat → SHeap → SHeap
  | [], h => h
  | i :: r, h => setNone r (h.set i none)
theorem setNone_len : ∀ (l : List Nat) (h : SHeap), (setNone l h).length = h.length
  | [], _ => rfl
  | i :: r, h => by simp only [setNone, setNone_len r, List.length_set]
theorem setNone_get : ∀ (l : List Nat) (h : SHeap) (i : Nat) (x : List Seg × TypeId), (setNone l h)[i]? = some (some x) → h[i]? = some (some x) ∧ i ∉ l
  | [], _, _, _, hx => ⟨hx, by simp⟩
  | j :: r, h, i, x, hx => by
    obtain ⟨h1, h2⟩ := setNone_get r _ i x hx
    by_cases hij : i = j
    · subst hij
      rw [List.getElem?_set_self'] at h1
      cases hq : h[i]? with
      | none => rw [hq] at h1; simp at h1
      | some v => rw [hq] at h1; simp at h1
    · rw [List.getElem?_set_ne (fun h => hij h.symm)] at h1
      exact ⟨h1, by simp [hij, h2]⟩
theorem Post.lose {e : Env} {ov ro : Nat} {ρ : Rho} {h : SHeap} {W W' : World} (hr : HRel e ov ρ h W) (hov : ov ≤ ro) {is : List Nat} {bs : List Nat} (hro : ∀ i ∈ is, ro ≤ i) (hlive : ∀ i ∈ is, live h i) (hbs : ∀ k ∈ bs, ∃ i ∈ is, ∃ o, ρ[i]? = some (k, o)) (hb : But bs W W') : Post e ov ro ρ W ρ (setNone is h) W' := by
  have hbase : ∀ k ∈ bs, e.base ≤ k := by
    intro k hk
    obtain ⟨i, hi, o, ho⟩ := hbs k hk
    have := hro i hi
    refine hr.old.own (k, o) ?_
    have h1 : (ρ.drop ov)[i - ov]? = some (k, o) := by rw [List.getElem?_drop, show ov + (i - ov) = i by omega]; exact ho
    exact List.mem_of_getElem? h1
  refine ⟨Pre.refl _, New.refl _ _ _, ⟨by rw [setNone_len]; exact hr.len, fun p q b c hp hq => ?_, fun i l t hi => ?_, ⟨hr.old.fx, hr.old.fl, Nat.le_trans hr.old.size hb.size, fun k hk => ?_, hr.old.own⟩⟩, ⟨hb.os, hb.tape, hb.output, hb.size, fun k hk hn => hb.same k hk fun hm => ?_⟩⟩
  · obtain ⟨x, hx⟩ := hp
    obtain ⟨y, hy⟩ := hq
    exact hr.apart p q b c ⟨x, (setNone_get _ _ _ _ hx).1⟩ ⟨y, (setNone_get _ _ _ _ hy).1⟩
  · obtain ⟨h1, h2⟩ := setNone_get _ _ _ _ hi
    obtain ⟨b, o, r, vs, g1, g2, g3⟩ := hr.blk i l t h1
    refine ⟨b, o, r, vs, g1, g2.same (hb.same b g2.lt fun hm => ?_), g3⟩
    obtain ⟨j, hj, o', ho'⟩ := hbs b hm
    have := hro j hj
    exact hr.apart i j _ _ ⟨_, h1⟩ (hlive j hj) g1 ho' (fun hh => h2 (hh ▸ hj)) (.inr (by omega)) rfl
  · have := hr.old.size
    rw [hb.same k (by omega) (fun hm => by have := hbase k hm; omega)]
    exact hr.old.same k hk
  · obtain ⟨i, hi, o, ho⟩ := hbs k hm
    refine hn ⟨o, ?_⟩
    have := hro i hi
    have h1 : (ρ.drop ro)[i - ro]? = some (k, o) := by rw [List.getElem?_drop, show ro + (i - ro) = i by omega]; exact ho
    exact List.mem_of_getElem? h1
end Go.Proofs.YtaijkkkgpgldbaaDoor.K
