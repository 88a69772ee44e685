/- Laid variables: arrays of arrays of numbers. -/
import Derived.Test.YtaijkkkgpgldbaaDoorKLaid
namespace Go.Proofs.YtaijkkkgpgldbaaDoor.K
open Go Sy
set_option maxRecDepth 100000
set_option linter.unusedVariables false
set_option linter.unusedSimpArgs false
def laidCells2s : List (DataW Unit) → Option (List (List Cell))
  | [] => some []
  | d :: r => match laidCells d, laidCells2s r with
    | some c, some l => some (c :: l)
    | _, _ => none
def laidCells2 : DataW Unit → Option (List (List Cell))
  | .agg l => laidCells2s l
  | _ => none
theorem laidCells2s_get : ∀ {ds : List (DataW Unit)} {l : List (List Cell)}, laidCells2s ds = some l → l.length = ds.length ∧ ∀ (i : Nat) c, l[i]? = some c → ∃ d, ds[i]? = some d ∧ laidCells d = some c
  | [], l, h => by
    simp only [laidCells2s, Option.some.injEq] at h
    subst h
    exact ⟨rfl, fun i c hc => by simp at hc⟩
  | d :: r, l, h => by
    simp only [laidCells2s] at h
    split at h
    · rename_i c l' hc hl
      cases h
      obtain ⟨h1, h2⟩ := laidCells2s_get hl
      refine ⟨by simp [h1], fun i x hx => ?_⟩
      cases i with
      | zero => simp at hx; subst hx; exact ⟨d, rfl, hc⟩
      | succ i => exact h2 i x (by simpa using hx)
    · cases h
theorem segs_flat {e : Env} {ρ : Rho} {m : Nat} : ∀ (L : List (List Cell)) (cs : List Value), cs.length = L.length * m → (∀ (i : Nat) l, L[i]? = some l → CellsD e ρ l ((cs.drop (i * m)).take m)) → SegsD e ρ (L.flatten.map Seg.c) cs
  | [], cs, h, _ => by
    have : cs = [] := List.eq_nil_of_length_eq_zero (by simpa using h)
    subst this; rfl
  | l :: L, cs, h, hd => by
    have h0 := hd 0 l rfl
    rw [Nat.zero_mul, List.drop_zero] at h0
    have hl : cs.length = m + L.length * m := by
      rw [h, List.length_cons, Nat.add_mul, Nat.one_mul, Nat.add_comm]
    have ih := segs_flat (m := m) L (cs.drop m) (by rw [List.length_drop]; omega) fun i c hc => by
      have := hd (i + 1) c (by simpa using hc)
      rw [List.drop_drop, show m + i * m = (i + 1) * m by rw [Nat.add_mul, Nat.one_mul, Nat.add_comm]]
      exact this
    have := SegsD.append h0.segs ih
    rw [List.take_append_drop] at this
    rw [List.flatten_cons, List.map_append]
    exact this
section
variable {P : Program} {W : World}
theorem laid_cells2 {t el el2 : TypeId} {n m fuel : Nat} {cs : List Value} {d : DataW Unit} {p : List MemPlace} {L : List (List Cell)} (ht : P.underlying t = some (.array n el)) (hel : P.underlying el = some (.array m el2)) (he : P.underlying el2 = some .string ∨ ∃ k, P.underlying el2 = some (.int k)) (h1 : P.cellsOf el2 = 1) (hm : P.cellsOf el = m) (hn : P.cellsOf t = n * m)
    (h : DataW.trod (fun _ => ()) P W 0 (fun _ => true) false fuel t cs = some (d, p)) (hd : laidCells2 d = some L) (e : Env) (ρ : Rho) : SegsD e ρ (L.flatten.map Seg.c) cs := by
  obtain ⟨xs, m', rfl, ex, hlx, hl, hel'⟩ := DataW.trod_array ht h
  have ex := (Prod.mk.inj ex).1
  subst ex
  simp only [laidCells2] at hd
  obtain ⟨g1, g2⟩ := laidCells2s_get hd
  rw [List.length_map] at g1
  refine segs_flat (m := m) L cs (by rw [g1, show xs.length = n by omega, ← hn]; omega) fun i c hc => ?_
  obtain ⟨d', hd', hcd⟩ := g2 i c hc
  have hi : i < xs.length := by
    have := (List.getElem?_eq_some_iff.1 hc).1
    omega
  have hE := hel' i (by omega)
  rw [hm, List.getElem?_eq_getElem hi] at hE
  rw [List.getElem?_map, List.getElem?_eq_getElem hi] at hd'
  obtain rfl := Option.some.inj hd'
  exact laid_cells hel he h1 hm hE hcd e ρ
theorem laid_blk2 {laid : List (String × DataW Unit)} (h : laidMetH P laid W) (hpl : (laid.all fun x => x.2.handleName?.isNone) = true) {n : String} {d : DataW Unit} (hmm : (n, d) ∈ laid) {g : Nat} {t el el2 : TypeId} {a b : Nat} {L : List (List Cell)} (hg : P.globalNamed n = some g) (hgt : (P.globals[g]?).map (·.type) = some t)
    (ht : P.underlying t = some (.array a el)) (hel : P.underlying el = some (.array b el2)) (he : P.underlying el2 = some .string ∨ ∃ k, P.underlying el2 = some (.int k)) (h1 : P.cellsOf el2 = 1) (hb : P.cellsOf el = b) (hn : P.cellsOf t = a * b) (hd : laidCells2 d = some L) (hl : 0 < L.flatten.length) :
    ∃ vs, At False W g 0 0 vs ∧ ∀ e ρ, SegsD e ρ (L.flatten.map Seg.c) vs := by
  rw [MakeChecks.laidMetH_plain _ _ _ hpl] at h
  obtain ⟨ps, hlv, hnd, hcell⟩ := h
  obtain ⟨g', t', cs, fuel, p, e1, e2, hv, htr, hps⟩ := laid_get hlv hmm
  obtain rfl := Option.some.inj (hg.symm.trans e1)
  obtain rfl := Option.some.inj (hgt.symm.trans e2)
  have hD := fun e ρ => laid_cells2 ht hel he h1 hb hn htr hd e ρ
  have hlen : 0 < cs.toList.length := by
    have := hD (srcI []).env []
    cases hc : L.flatten with
    | nil => rw [hc] at hl; simp at hl
    | cons x r =>
      rw [hc] at this
      obtain ⟨v, vs', h1, _⟩ := this
      rw [h1]; simp
  obtain ⟨⟨c', t'', hblk⟩, _⟩ := hcell g 0 (hps _ (by
    unfold MemPlace.row
    exact List.mem_map.2 ⟨0, by simp at hlen ⊢; omega, rfl⟩))
  have hcc : c' = cs := by
    simp only [World.var?, hg, Option.bind_some, hblk] at hv
    exact Option.some.inj hv
  subst hcc
  exact ⟨c'.toList, ⟨c', t'', _, [], [], hblk, fun q => q.elim, by simp, rfl, fun q => q.elim⟩, hD⟩
end
end Go.Proofs.YtaijkkkgpgldbaaDoor.K
