/- Blocks that a call has written over, of which nothing is known any more; answers told otherwise. -/
import Derived.Test.YtopgnohobmlegaaKSame
namespace Go.Proofs.Ytopgnohobmlegaa.K
open Go Sy
set_option maxRecDepth 100000
set_option linter.unusedVariables false
set_option linter.unusedSimpArgs false
/-- From W to W' nothing that was there has turned but these blocks. -/
structure But (bs : List Nat) (W W' : World) : Prop where
  os : W'.os = W.os
  tape : W'.tape = W.tape
  output : W'.output = W.output
  size : W.heap.size ≤ W'.heap.size
  same : ∀ k, k < W.heap.size → k ∉ bs → W'.heap[k]? = W.heap[k]?
theorem But.of_post {e : Env} {ov ro : Nat} {ρ ρ' : Rho} {W W' : World} {h' : SHeap} (hp : Post e ov ro ρ W ρ' h' W') {bs : List Nat} (hb : ∀ x ∈ ρ.drop ro, x.1 ∈ bs) : But bs W W' :=
  ⟨hp.fr.os, hp.fr.tape, hp.fr.output, hp.fr.size, fun k hk hn => hp.fr.same k hk (by
    rintro ⟨o, ho⟩
    exact hn (hb _ ho))⟩
def setNone : List Nat → SHeap → SHeap
  | [], h => h
  | i :: r, h => setNone r (h.set i none)
theorem setNone_len : ∀ (l : List Nat) (h : SHeap), (setNone l h).length = h.length
  | [], _ => rfl
  | i :: r, h => by simp only [setNone, setNone_len r, List.length_set]
theorem setNone_get : ∀ (l : List Nat) (h : SHeap) (i : Nat) (x : List Seg × TypeId), (setNone l h)[i]? = some (some x) → h[i]? = some (some x) ∧ i ∉ l
  | [], _, _, _, hx => ⟨hx, by simp⟩
  | j :: r, h, i, x, hx => by
    obtain ⟨h1, h2⟩ := setNone_get r _ i x hx
    by_cases hij : i = j
    · subst hij
      rw [List.getElem?_set_self'] at h1
      cases hq : h[i]? with
      | none => rw [hq] at h1; simp at h1
      | some v => rw [hq] at h1; simp at h1
    · rw [List.getElem?_set_ne (fun h => hij h.symm)] at h1
      exact ⟨h1, by simp [hij, h2]⟩
theorem Post.lose {e : Env} {ov ro : Nat} {ρ : Rho} {h : SHeap} {W W' : World} (hr : HRel e ov ρ h W) (hov : ov ≤ ro) {is : List Nat} {bs : List Nat} (hro : ∀ i ∈ is, ro ≤ i) (hlive : ∀ i ∈ is, live h i) (hbs : ∀ k ∈ bs, ∃ i ∈ is, ∃ o, ρ[i]? = some (k, o)) (hb : But bs W W') : Post e ov ro ρ W ρ (setNone is h) W' := by
  have hbase : ∀ k ∈ bs, e.base ≤ k := by
    intro k hk
    obtain ⟨i, hi, o, ho⟩ := hbs k hk
    have := hro i hi
    refine hr.old.own (k, o) ?_
    have h1 : (ρ.drop ov)[i - ov]? = some (k, o) := by rw [List.getElem?_drop, show ov + (i - ov) = i by omega]; exact ho
    exact List.mem_of_getElem? h1
  refine ⟨Pre.refl _, New.refl _ _ _, ⟨by rw [setNone_len]; exact hr.len, fun p q b c hp hq => ?_, fun i l t hi => ?_, ⟨hr.old.fx, hr.old.fl, Nat.le_trans hr.old.size hb.size, fun k hk => ?_, hr.old.own⟩⟩, ⟨hb.os, hb.tape, hb.output, hb.size, fun k hk hn => hb.same k hk fun hm => ?_⟩⟩
  · obtain ⟨x, hx⟩ := hp
    obtain ⟨y, hy⟩ := hq
    exact hr.apart p q b c ⟨x, (setNone_get _ _ _ _ hx).1⟩ ⟨y, (setNone_get _ _ _ _ hy).1⟩
  · obtain ⟨h1, h2⟩ := setNone_get _ _ _ _ hi
    obtain ⟨b, o, r, vs, g1, g2, g3⟩ := hr.blk i l t h1
    refine ⟨b, o, r, vs, g1, g2.same (hb.same b g2.lt fun hm => ?_), g3⟩
    obtain ⟨j, hj, o', ho'⟩ := hbs b hm
    have := hro j hj
    exact hr.apart i j _ _ ⟨_, h1⟩ (hlive j hj) g1 ho' (fun hh => h2 (hh ▸ hj)) (.inr (by omega)) rfl
  · have := hr.old.size
    rw [hb.same k (by omega) (fun hm => by have := hbase k hm; omega)]
    exact hr.old.same k hk
  · obtain ⟨i, hi, o, ho⟩ := hbs k hm
    refine hn ⟨o, ?_⟩
    have := hro i hi
    have h1 : (ρ.drop ro)[i - ro]? = some (k, o) := by rw [List.getElem?_drop, show ro + (i - ro) = i by omega]; exact ho
    exact List.mem_of_getElem? h1
/-- The same memory, told otherwise. -/
theorem Post.reseg {e : Env} {ov ro : Nat} {ρ ρ' : Rho} {W W' : World} {h' h'' : SHeap} (p : Post e ov ro ρ W ρ' h' W') (hlen : h''.length = h'.length) (hs : ∀ (i : Nat) l t, h''[i]? = some (some (l, t)) → ∃ l' t', h'[i]? = some (some (l', t')) ∧ ∀ vs, SegsD e ρ' l' vs → SegsD e ρ' l vs) : Post e ov ro ρ W ρ' h'' W' := by
  refine ⟨p.pre, p.new, ⟨by rw [hlen]; exact p.rel.len, fun i j b c hi hj => ?_, fun i l t hi => ?_, p.rel.old⟩, p.fr⟩
  · obtain ⟨⟨l1, t1⟩, hi⟩ := hi
    obtain ⟨⟨l2, t2⟩, hj⟩ := hj
    obtain ⟨_, _, h1, _⟩ := hs i l1 t1 hi
    obtain ⟨_, _, h2, _⟩ := hs j l2 t2 hj
    exact p.rel.apart i j b c ⟨_, h1⟩ ⟨_, h2⟩
  · obtain ⟨l', t', h1, h2⟩ := hs i l t hi
    obtain ⟨b, o, r, vs, g1, g2, g3⟩ := p.rel.blk i l' t' h1
    exact ⟨b, o, r, vs, g1, g2, h2 vs g3⟩
/-- A row that is all of its block, as a slice of it stands. -/
theorem own_slice {e : Env} {ov : Nat} {ρ : Rho} {h : SHeap} {W : World} (hr : HRel e ov ρ h W) {i : Nat} {k : IntKind} {A : AExp} {t : TypeId} (hb : h[i]? = some (some ([.row k A], t))) {n c : IExp} {V : Value} (hD : (SVal.v (.c (.sl (some ⟨i, 0, none⟩) n (some c)))).D e ρ V) (hc : 0 < c.den e) :
    ∃ b o r n' c', ρ[i]? = some (b, o, r) ∧ V = .slice (some ⟨b, o, none⟩) n' c' ∧ (n' : Int) = n.den e ∧ (c' : Int) = c.den e ∧ n' ≤ c' ∧ At (ov ≤ i) W b o r ((A.den e).map (.int k)) := by
  obtain ⟨b, o, r, vs, h1, h2, h3⟩ := hr.blk i _ _ hb
  obtain ⟨vs', rfl, h4⟩ := h3
  cases h4
  rw [List.append_nil] at h2
  obtain ⟨oo, n', c', rfl, g1, g2, g3⟩ := hD
  rcases g3 with ⟨A', hA', rfl, hcap⟩ | ⟨_, h5, h6⟩
  · have hcap : (c' : Int) = c.den e := hcap
    obtain ⟨hA, _⟩ := Ad.at' hA' h1
    exact ⟨b, o, r, n', c', h1, by rw [hA]; rfl, g1, hcap, g2, h2⟩
  · have := h6 _ rfl
    omega
end Go.Proofs.Ytopgnohobmlegaa.K
