/- Laid variables: arrays of numbers and of texts. -/
import Derived.Test.YtaijkkkgpgldbaaDoorKRow
import Derived.LaidMore
import Derived.OpenShut
import Derived.FnData
import Derived.MakeChecks
namespace Go.Proofs.YtaijkkkgpgldbaaDoor.K
open Go Sy
set_option maxRecDepth 100000
set_option linter.unusedVariables false
set_option linter.unusedSimpArgs false
def datCell : DataW Unit → Option Cell
  | .lit (.string s) => some (.s (.cst (s.map fun b => (b.toNat : Int))))
  | .lit (.int k n) => some (.i k (.lit n))
  | _ => none
def datCells : List (DataW Unit) → Option (List Cell)
  | [] => some []
  | d :: r => match datCell d, datCells r with
    | some c, some l => some (c :: l)
    | _, _ => none
def laidCells : DataW Unit → Option (List Cell)
  | .agg l => datCells l
  | _ => none
theorem datCells_get : ∀ {ds : List (DataW Unit)} {l : List Cell}, datCells ds = some l → l.length = ds.length ∧ ∀ (i : Nat) d, ds[i]? = some d → ∃ c, l[i]? = some c ∧ datCell d = some c
  | [], l, h => by
    simp only [datCells, Option.some.injEq] at h
    subst h
    exact ⟨rfl, fun i d hd => by simp at hd⟩
  | d :: r, l, h => by
    simp only [datCells] at h
    split at h
    · rename_i c l' hc hl
      cases h
      obtain ⟨h1, h2⟩ := datCells_get hl
      refine ⟨by simp [h1], fun i x hx => ?_⟩
      cases i with
      | zero => simp at hx; subst hx; exact ⟨c, rfl, hc⟩
      | succ i => exact h2 i x (by simpa using hx)
    · cases h
theorem CellsD.of_get {e : Env} {ρ : Rho} : ∀ {l : List Cell} {vs : List Value}, l.length = vs.length → (∀ (i : Nat) c v, l[i]? = some c → vs[i]? = some v → c.D e ρ v) → CellsD e ρ l vs
  | [], [], _, _ => rfl
  | [], _ :: _, h, _ => by simp at h
  | _ :: _, [], h, _ => by simp at h
  | c :: l, v :: vs, h, hd => ⟨v, vs, rfl, hd 0 c v rfl rfl, CellsD.of_get (by simpa using h) fun i c' v' h1 h2 => hd (i + 1) c' v' (by simpa using h1) (by simpa using h2)⟩
section
variable {P : Program} {W : World}
theorem laid_cells {t el : TypeId} {n fuel : Nat} {cs : List Value} {d : DataW Unit} {p : List MemPlace} {l : List Cell} (ht : P.underlying t = some (.array n el)) (he : P.underlying el = some .string ∨ ∃ k, P.underlying el = some (.int k)) (h1 : P.cellsOf el = 1) (hn : P.cellsOf t = n)
    (h : DataW.trod (fun _ => ()) P W 0 (fun _ => true) false fuel t cs = some (d, p)) (hd : laidCells d = some l) (e : Env) (ρ : Rho) : CellsD e ρ l cs := by
  obtain ⟨xs, m, rfl, ex, hlx, hl, hel⟩ := DataW.trod_array ht h
  have ex := (Prod.mk.inj ex).1
  subst ex
  simp only [laidCells] at hd
  obtain ⟨g1, g2⟩ := datCells_get hd
  rw [List.length_map] at g1
  refine CellsD.of_get (by omega) fun i c v hc hv => ?_
  have hi : i < xs.length := by
    have := (List.getElem?_eq_some_iff.1 hc).1
    omega
  have hE := hel i (by omega)
  rw [h1, Nat.mul_one, List.getElem?_eq_getElem hi] at hE
  obtain ⟨c', hc', hdc⟩ := g2 i (xs[i]).1 (by rw [List.getElem?_map, List.getElem?_eq_getElem hi]; rfl)
  rw [hc] at hc'
  obtain rfl := Option.some.inj hc'
  have h0 : ∀ w, (cs.drop i).take 1 = [w] → w = v := by
    intro w hw
    have : ((cs.drop i).take 1)[0]? = some w := by rw [hw]; rfl
    simp at this
    rw [hv] at this
    exact (Option.some.inj this).symm
  rcases he with he | ⟨k, he⟩
  · obtain ⟨s, e1, e2, _⟩ := DataW.trod_string he hE
    rw [e2] at hdc
    simp only [datCell, Option.some.injEq] at hdc
    subst hdc
    rw [← h0 _ e1]
    show Value.string s = .string (strOf (s.data.toList.map fun b => (b.toNat : Int)))
    rw [show (s.data.toList.map fun b => (b.toNat : Int)) = ints s from rfl, strOf_ints]
  · obtain ⟨z, e1, e2, _⟩ := DataW.trod_int he hE
    rw [e2] at hdc
    simp only [datCell, Option.some.injEq] at hdc
    subst hdc
    rw [← h0 _ e1]
    exact (congrArg _ (litD e z)).symm
theorem laid_get : ∀ {laid : List (String × DataW Unit)} {ps : List MemPlace}, DataW.LaidVars P W laid ps → ∀ {n : String} {d : DataW Unit}, (n, d) ∈ laid →
    ∃ g t cs fuel p, P.globalNamed n = some g ∧ (P.globals[g]?).map (·.type) = some t ∧ W.var? P n = some cs ∧ DataW.trod (fun _ => ()) P W 0 (fun _ => true) false fuel t cs.toList = some (d, p) ∧ ∀ x ∈ MemPlace.row ⟨g, 0, none⟩ cs.size, x ∈ ps
  | [], _, _, _, _, hm => by cases hm
  | (n', d') :: r, ps, h, n, d, hm => by
    obtain ⟨g, t, cs, fuel, p, q, hg, ht, hv, hd, hrest, hps⟩ := h
    rcases List.mem_cons.1 hm with heq | hm
    · cases heq
      exact ⟨g, t, cs, fuel, p, hg, ht, hv, hd, fun x hx => by rw [hps]; exact List.mem_append_left _ (List.mem_append_left _ hx)⟩
    · obtain ⟨g', t', cs', fuel', p', h1, h2, h3, h4, h5⟩ := laid_get hrest hm
      exact ⟨g', t', cs', fuel', p', h1, h2, h3, h4, fun x hx => by rw [hps]; exact List.mem_append_right _ (h5 x hx)⟩
theorem laid_blk {laid : List (String × DataW Unit)} (h : laidMetH P laid W) (hpl : (laid.all fun x => x.2.handleName?.isNone) = true) {n : String} {d : DataW Unit} (hm : (n, d) ∈ laid) {g : Nat} {t el : TypeId} {c : Nat} {l : List Cell} (hg : P.globalNamed n = some g) (hgt : (P.globals[g]?).map (·.type) = some t)
    (ht : P.underlying t = some (.array c el)) (he : P.underlying el = some .string ∨ ∃ k, P.underlying el = some (.int k)) (h1 : P.cellsOf el = 1) (hc : P.cellsOf t = c) (hd : laidCells d = some l) (hl : 0 < l.length) (e : Env) (ρ : Rho) :
    ∃ b o r vs, (g, 0, 0) = (b, o, r) ∧ At False W b o r vs ∧ SegsD e ρ (l.map Seg.c) vs := by
  rw [MakeChecks.laidMetH_plain _ _ _ hpl] at h
  obtain ⟨ps, hlv, hnd, hcell⟩ := h
  obtain ⟨g', t', cs, fuel, p, e1, e2, hv, htr, hps⟩ := laid_get hlv hm
  obtain rfl := Option.some.inj (hg.symm.trans e1)
  obtain rfl := Option.some.inj (hgt.symm.trans e2)
  have hD := laid_cells ht he h1 hc htr hd e ρ
  have hlen := hD.length
  obtain ⟨⟨c', t'', hblk⟩, _⟩ := hcell g 0 (hps _ (by
    unfold MemPlace.row
    exact List.mem_map.2 ⟨0, by simp at hlen ⊢; omega, rfl⟩))
  have hcc : c' = cs := by
    simp only [World.var?, hg, Option.bind_some, hblk] at hv
    exact Option.some.inj hv
  subst hcc
  exact ⟨g, 0, 0, c'.toList, rfl, ⟨c', t'', _, [], [], hblk, fun q => q.elim, by simp, rfl, fun _ => Nat.zero_le _⟩, hD.segs⟩
end
end Go.Proofs.YtaijkkkgpgldbaaDoor.K
