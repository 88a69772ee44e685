/- A symbolic executor for Go code: loads, stores, new blocks, rows that grow, calls. -/
import Derived.Test.YtaijkkkgpgldbaaDoorSyPure
import Derived.Great.BuildSlice
import Derived.Laws.MakeOwn
import Derived.Laws.AppendOwn
import Derived.Laws.BytesString
namespace Go.Proofs.YtaijkkkgpgldbaaDoor.Sy
set_option linter.unusedVariables false
set_option linter.unusedSimpArgs false
open Go

/-! ### Cells that lie there -/
theorem cell_block {W : World} {g off : Nat} {cs : Array Value} {t : TypeId} {fz : Nat × Nat} (h : W.heap[g]? = some (.cells cs t fz)) : W.cell? ⟨g, off, none⟩ = cs[off]? := by
  simp [World.cell?, h]
theorem at_get {cs : Array Value} {pre vs rest : List Value} (h : cs.toList = pre ++ vs ++ rest) {i : Nat} {v : Value} (hv : vs[i]? = some v) : cs[pre.length + i]? = some v := by
  have hlt : i < vs.length := (List.getElem?_eq_some_iff.1 hv).1
  rw [← Array.getElem?_toList, h, List.append_assoc, List.getElem?_append_right (by omega), Nat.add_sub_cancel_left, List.getElem?_append_left hlt]
  exact hv
/-- A part of what is known of a block. -/
theorem cells_at {W : World} {b o : Nat} {cs : Array Value} {t : TypeId} {fz : Nat × Nat} {pre vs rest : List Value} (hW : W.heap[b]? = some (.cells cs t fz)) (h : cs.toList = pre ++ vs ++ rest) (ho : pre.length = o) {p n : Nat} :
    ∀ j v, ((vs.drop p).take n)[j]? = some v → W.cell? ((⟨b, o + p, none⟩ : Addr).add j) = some v := by
  intro j v hj
  rw [List.getElem?_take] at hj
  split at hj
  · rw [List.getElem?_drop] at hj
    rw [addr_add, cell_block hW, ← ho, Nat.add_assoc]
    exact at_get h hj
  · cases hj

/-- Cells stored where nothing is frozen. -/
theorem run_storeCells_thaw {P : Program} (g o : Nat) (t : TypeId) (fz : Nat × Nat) : ∀ (vs : List Value) (i : Nat) (cur : Array Value) (w : World), w.heap[g]? = some (.cells cur t fz) → Thaw cur fz → o + i + vs.length ≤ cur.size → (∀ v ∈ vs, v.oneCell' = true) →
    (storeCells ⟨g, o, none⟩ vs i).run P w = .ok () (w.setRow g (cur.toList.take (o + i) ++ vs ++ cur.toList.drop (o + i + vs.length)).toArray)
  | [], i, cur, w, hg, _, _, _ => by
    simp only [storeCells, List.append_nil, List.length_nil, Nat.add_zero, List.take_append_drop, Array.toArray_toList]
    rw [setRow_self w g cur t fz hg]
    rfl
  | v :: rest, i, cur, w, hg, hth, hl, h1 => by
    have hi : o + i < cur.size := by simp at hl; omega
    have hcell : w.cell? ⟨g, o + i, none⟩ = some cur[o + i] := by simp [World.cell?, hg, hi]
    have hfro : w.frozen? ⟨g, o + i, none⟩ = false := by
      obtain ⟨lo, hi'⟩ := fz
      simp only [World.frozen?, hg]
      rcases hth with h | h
      · cases h; simp
      · simp only at h
        simp only [Bool.and_eq_false_iff, decide_eq_false_iff_not]
        left; omega
    have hst : (store ((⟨g, o, none⟩ : Addr).add i) v).run P w = .ok () (w.setRow g (cur.setIfInBounds (o + i) v)) := by
      rw [addr_add, run_store P w _ v _ (h1 v (by simp)), hcell]
      simp [hfro, setCell_eq_setRow w g (o + i) cur t fz v hg]
    have ih := run_storeCells_thaw (P := P) g o t fz rest (i + 1) (cur.setIfInBounds (o + i) v) (w.setRow g (cur.setIfInBounds (o + i) v)) (setRow_heap w g cur _ t _ hg) (by simpa [Thaw] using hth) (by simp at hl ⊢; omega) (fun x hx => h1 x (by simp [hx]))
    simp only [storeCells, Sem.run_bind, hst, Result.andThen_ok, ih, setRow_setRow]
    congr 3
    have e := list_seg_step cur.toList (o + i) v rest (by simp at hl ⊢; omega)
    simpa [Array.toList_setIfInBounds, Nat.add_assoc] using e

/-! ### Loads -/
def readAd (as : Asm) (l : List Seg) (a : Ad) : Option Cell :=
  match a.ix with
  | none => readAt as l a.off
  | some (i, w) => match readIx as l a.off i w with
    | some x => some x
    | none => (match isLit i with
      | some q => readAt as l (a.off + q.toNat * w)
      | none => none)
def readAds (as : Asm) (l : List Seg) (a : Ad) (n : Nat) : Option (List Seg) :=
  match a.ix with
  | none => readSegs as l a.off n
  | some (i, w) => match readIxs as l a.off i w n with
    | some x => some x
    | none => (match isLit i with
      | some q => readSegs as l (a.off + q.toNat * w) n
      | none => none)

def sload (P : Program) (G : Nat) (tmps : Tm) (as : Asm) (h : SHeap) (op : Op) : Option SV :=
  match op with
  | .load t x =>
    match asCell (seval G tmps x) with
    | some (.p (some a)) =>
      match h[a.b]?, P.underlying t, P.info? t with
      | some (some (l, _)), some d, some i =>
        if isAggD d then (readAds as l a i.size).map .agg
        else (readAd as l a).map .c
      | _, _, _ => none
    | _ => none
  | _ => none

theorem Ad.at' {e : Env} {ρ : Rho} {a : Ad} {A : Addr} {b o r : Nat} (h : a.D e ρ A) (hb : ρ[a.b]? = some (b, o, r)) : A = ⟨b, o + a.pos e, none⟩ ∧ ∀ p, a.ix = some p → 0 ≤ p.1.den e := by
  obtain ⟨b', o', r', hb', hA⟩ := h
  rw [hb] at hb'
  cases hb'
  unfold Ad.pos
  cases hix : a.ix with
  | none => rw [hix] at hA; exact ⟨hA, fun p hp => by cases hp⟩
  | some q =>
    obtain ⟨i, w⟩ := q
    rw [hix] at hA
    obtain ⟨h1, h2⟩ := hA
    exact ⟨by rw [h2]; simp only [Nat.add_assoc], fun p hp => by cases hp; exact h1⟩
theorem readAd_ok {e : Env} (ok : EnvOk e) {as : Asm} (ha : AsmOk e as) {ρ : Rho} {l : List Seg} {vs : List Value} {a : Ad} {x : Cell} (h0 : ∀ p, a.ix = some p → 0 ≤ p.1.den e) (hl : SegsD e ρ l vs) (h : readAd as l a = some x) :
    ∃ v, vs[a.pos e]? = some v ∧ x.D e ρ v := by
  unfold readAd at h
  unfold Ad.pos
  cases hix : a.ix with
  | none => rw [hix] at h; exact readAt_ok ok ha hl h
  | some q =>
    obtain ⟨i, w⟩ := q
    rw [hix] at h
    simp only at h ⊢
    split at h
    · rename_i y hy
      cases h
      exact readIx_ok ok ha (h0 _ hix) hl hy
    · split at h
      · rename_i z hz
        rw [isLit_eq hz, litD]
        exact readAt_ok ok ha hl h
      · cases h
theorem readAds_ok {e : Env} (ok : EnvOk e) {as : Asm} (ha : AsmOk e as) {ρ : Rho} {l l' : List Seg} {vs : List Value} {a : Ad} {n : Nat} (h0 : ∀ p, a.ix = some p → 0 ≤ p.1.den e) (hl : SegsD e ρ l vs) (h : readAds as l a n = some l') :
    a.pos e + n ≤ vs.length ∧ SegsD e ρ l' ((vs.drop (a.pos e)).take n) := by
  unfold readAds at h
  unfold Ad.pos
  cases hix : a.ix with
  | none => rw [hix] at h; exact readSegs_ok ok ha hl h
  | some q =>
    obtain ⟨i, w⟩ := q
    rw [hix] at h
    simp only at h ⊢
    split at h
    · rename_i y hy
      cases h
      exact readIxs_ok ok ha (h0 _ hix) hl hy
    · split at h
      · rename_i z hz
        rw [isLit_eq hz, litD]
        exact readSegs_ok ok ha hl h
      · cases h

/-- The blocks of which something is known stand as they stood. -/
def Stay (ρ : Rho) (h : SHeap) (W W' : World) : Prop := ∀ i c, live h i → ρ[i]? = some c → W'.heap[c.1]? = W.heap[c.1]?

theorem sload_run {e : Env} (ok : EnvOk e) {P : Program} {ov : Nat} {ρ : Rho} {G : Nat} (hG : Glob G ρ) {tmps : Tm} {a : Act} (ht : TmD e ρ tmps a.tmps.toList) {as : Asm} (ha : AsmOk e as) {h : SHeap} {o : Oper} {x : SV}
    (hs : sload P G tmps as h o.op = some x) {W : World} (hr : ∀ (i : Nat) (l : List Seg) (t : TypeId), h[i]? = some (some (l, t)) → ∃ b o r vs, ρ[i]? = some (b, o, r) ∧ At (ov ≤ i) W b o r vs ∧ SegsD e ρ l vs) (_ : ov = ov) :
    ∃ V, x.D e ρ V ∧ ∀ W', Stay ρ h W W' → (execOp a.eval o).run P W' = .ok (.value V) W' := by
  obtain ⟨dst, op, ty, pos, after, guard⟩ := o
  simp only at hs
  unfold sload at hs
  split at hs
  · rename_i t y
    simp only [execOp]
    split at hs
    · rename_i ad had
      obtain ⟨A, hA, hv⟩ := evalCell hG ht had
      split at hs
      · rename_i l bt d i hblk hd hi
        obtain ⟨b', o', r', vs, hb, hat, hseg⟩ := hr _ _ _ hblk
        obtain ⟨cs, tt, fz, pre, rest, hW, hth, hcs, hpre, hrm⟩ := hat.ex
        obtain ⟨rfl, h0⟩ := Ad.at' hA hb
        have hsame : ∀ W', Stay ρ h W W' → W'.heap[b']? = some (.cells cs tt fz) := by
          intro W' hst
          have := hst ad.b (b', o', r') ⟨_, hblk⟩ hb
          simp only at this
          rw [this, hW]
        split at hs
        · rename_i hag
          simp only [Option.map_eq_some_iff] at hs
          obtain ⟨q, hq, rfl⟩ := hs
          have hrd := readAds_ok ok ha h0 hseg hq
          refine ⟨_, ⟨_, rfl, hrd.2⟩, fun W' hst => run_v ?_⟩
          have hlc := run_loadCells_list (P := P) W' ⟨b', o' + ad.pos e, none⟩ ((vs.drop (ad.pos e)).take i.size) (cells_at (hsame W' hst) hcs hpre)
          have hlen : ((vs.drop (ad.pos e)).take i.size).length = i.size := by
            have := hrd.1
            simp at this ⊢; omega
          rw [hlen] at hlc
          rw [hv]
          simp [Instr.loadAt, Instr.sureAddr, loadVar, run_isAgg hd, hag, run_sizeOf' hi, cellsOf_eq hi, hlc]
        · rename_i hag
          simp only [Option.map_eq_some_iff] at hs
          obtain ⟨q, hq, rfl⟩ := hs
          obtain ⟨v, hv2, hx⟩ := readAd_ok ok ha h0 hseg hq
          refine ⟨v, hx, fun W' hst => run_v ?_⟩
          have hc : W'.cell? ⟨b', o' + ad.pos e, none⟩ = some v := by rw [cell_block (hsame W' hst), ← hpre]; exact at_get hcs hv2
          rw [hv]
          simp [Instr.loadAt, Instr.sureAddr, loadVar, run_isAgg hd, hag, hc]
      · cases hs
    · cases hs
  · cases hs

/-! ### Rows -/
/-- So many cells, all whole numbers. -/
def gather (as : Asm) (l : List Seg) (off : Nat) : Nat → Option (IntKind × AExp)
  | 0 => none
  | 1 => match readAt as l off with
    | some (.i k x) => some (k, mkOne x)
    | _ => none
  | n + 2 => match readAt as l off, gather as l (off + 1) (n + 1) with
    | some (.i k x), some (k', r) => if k = k' then some (k, mkCat (mkOne x) r) else none
    | _, _ => none
theorem gather_ok {e : Env} (ok : EnvOk e) {as : Asm} (ha : AsmOk e as) {ρ : Rho} {l : List Seg} {vs : List Value} (hl : SegsD e ρ l vs) : ∀ {n off : Nat} {k : IntKind} {A : AExp}, gather as l off n = some (k, A) →
    off + n ≤ vs.length ∧ (vs.drop off).take n = (A.den e).map (.int k)
  | 0, _, _, _, h => by simp [gather] at h
  | 1, off, k, A, h => by
    simp only [gather] at h
    split at h
    · rename_i k' x hx
      cases h
      obtain ⟨v, hv, hD⟩ := readAt_ok ok ha hl hx
      cases hD
      obtain ⟨hlt, hg⟩ := List.getElem?_eq_some_iff.1 hv
      refine ⟨by omega, ?_⟩
      rw [List.drop_eq_getElem_cons hlt, List.take_succ_cons, hg, mkOne_den]; rfl
    · cases h
  | n + 2, off, k, A, h => by
    simp only [gather] at h
    split at h
    · rename_i k' x k2 r hx hr
      split at h
      · rename_i hk
        cases h
        subst hk
        obtain ⟨v, hv, hD⟩ := readAt_ok ok ha hl hx
        have ih := gather_ok ok ha hl hr
        cases hD
        obtain ⟨hlt, hg⟩ := List.getElem?_eq_some_iff.1 hv
        refine ⟨by omega, ?_⟩
        rw [List.drop_eq_getElem_cons hlt, List.take_succ_cons, hg, mkCat_den, mkOne_den, ih.2]; rfl
      · cases h
    · cases h

/-- n whole numbers from cell off + j on. -/
def region (as : Asm) : List Seg → Nat → IExp → IExp → Option (IntKind × AExp)
  | .arr k m a :: r, off, j, n => if m ≤ off then region as r (off - m) j n else (match sumI as (.lit off) j with
    | some s => (match sumI as s n with
      | some z => if geZ (j.rng as) && geZ (n.rng as) && knowsLe as z (.lit m) then some (k, mkPart as a s n) else none
      | none => none)
    | none => none)
  | .row k a :: _, off, j, n => match sumI as (.lit off) j with
    | some s => (match sumI as s n with
      | some z => if geZ (j.rng as) && geZ (n.rng as) && knowsLe as z (mkLen as a) then some (k, mkPart as a s n) else none
      | none => none)
    | none => none
  | .c x :: r, off, j, n => match off with
    | off' + 1 => region as r off' j n
    | 0 => if isZ j then (match isLit n with
      | some m => if 0 < m ∧ m ≤ 64 then gather as (.c x :: r) 0 m.toNat else none
      | none => none) else none
  | _, _, _, _ => none
theorem map_int_part {k : IntKind} {l : List Int} (p n : Nat) : (((l.map (Value.int k)).drop p).take n) = ((l.drop p).take n).map (.int k) := by
  rw [List.map_take, List.map_drop]
theorem region_ok {e : Env} (ok : EnvOk e) {as : Asm} (ha : AsmOk e as) {ρ : Rho} {j n : IExp} : ∀ {l : List Seg} {vs : List Value} {off : Nat} {k : IntKind} {A : AExp}, SegsD e ρ l vs → region as l off j n = some (k, A) →
    0 ≤ j.den e ∧ 0 ≤ n.den e ∧ off + (j.den e).toNat + (n.den e).toNat ≤ vs.length ∧ (vs.drop (off + (j.den e).toNat)).take (n.den e).toNat = (A.den e).map (.int k)
  | [], _, _, _, _, _, h => by simp [region] at h
  | .arr k m a :: r, _, off, k', A, ⟨vs', h1, h2, h3⟩, h => by
    simp only [region] at h
    subst h1
    split at h
    · rename_i hle
      obtain ⟨h4, h5, h6, h7⟩ := region_ok ok ha h3 h
      refine ⟨h4, h5, by simp; omega, ?_⟩
      rw [List.drop_append, List.drop_eq_nil_of_le (by simp; omega), List.nil_append]
      simpa [h2, show off + (j.den e).toNat - m = off - m + (j.den e).toNat by omega] using h7
    · split at h
      · rename_i s hs
        split at h
        · rename_i z hz
          split at h
          · rename_i hc
            cases h
            simp only [Bool.and_eq_true] at hc
            have hs := sumI_ok ok ha hs
            have hz := sumI_ok ok ha hz
            rw [litD] at hs
            have g1 := geZ_ok hc.1.1 (IExp.rng_ok ok ha j)
            have g2 := geZ_ok hc.1.2 (IExp.rng_ok ok ha n)
            have g3 := knowsLe_ok ok ha hc.2
            rw [litD] at g3
            refine ⟨g1, g2, by simp; omega, ?_⟩
            rw [List.drop_append_of_le_length (by simp; omega), List.take_append_of_le_length (by simp; omega), map_int_part, mkPart_den ok ha, show (s.den e).toNat = off + (j.den e).toNat by omega]
          · cases h
        · cases h
      · cases h
  | .row k a :: r, _, off, k', A, ⟨vs', h1, h3⟩, h => by
    simp only [region] at h
    subst h1
    split at h
    · rename_i s hs
      split at h
      · rename_i z hz
        split at h
        · rename_i hc
          cases h
          simp only [Bool.and_eq_true] at hc
          have hs := sumI_ok ok ha hs
          have hz := sumI_ok ok ha hz
          rw [litD] at hs
          have g1 := geZ_ok hc.1.1 (IExp.rng_ok ok ha j)
          have g2 := geZ_ok hc.1.2 (IExp.rng_ok ok ha n)
          have g3 := knowsLe_ok ok ha hc.2
          rw [mkLen_den ok ha] at g3
          refine ⟨g1, g2, by simp; omega, ?_⟩
          rw [List.drop_append_of_le_length (by simp; omega), List.take_append_of_le_length (by simp; omega), map_int_part, mkPart_den ok ha, show (s.den e).toNat = off + (j.den e).toNat by omega]
        · cases h
      · cases h
    · cases h
  | .c x :: r, vs, off + 1, k, A, ⟨v, vs', h1, h2, h3⟩, h => by
    simp only [region] at h
    subst h1
    obtain ⟨h4, h5, h6, h7⟩ := region_ok ok ha h3 h
    refine ⟨h4, h5, by simp; omega, ?_⟩
    rw [show off + 1 + (j.den e).toNat = (off + (j.den e).toNat) + 1 by omega]
    simpa using h7
  | .c x :: r, vs, 0, k, A, hl, h => by
    simp only [region] at h
    split at h
    · rename_i hj
      split at h
      · rename_i m hm
        have := isLit_eq hm
        subst this
        split at h
        · rename_i hb
          have hg := gather_ok ok ha hl h
          rw [isZ_eq hj, litD, litD]
          refine ⟨Int.le_refl _, by omega, ?_, ?_⟩
          · simpa using hg.1
          · simpa using hg.2
        · cases h
      · cases h
    · cases h
  | .el _ _ _ _ :: _, _, _, _, _, _, h => by simp [region] at h
  | .tab _ _ :: _, _, _, _, _, _, h => by simp [region] at h

def splB (as : Asm) (a : AExp) (s : IExp) (X : AExp) : Option AExp :=
  match sumI as s (mkLen as X) with
  | some z => (match lessI as (mkLen as a) z with
    | some u => if geZ (s.rng as) && knowsLe as z (mkLen as a) then some (mkCat (mkPart as a (.lit 0) s) (mkCat X (mkPart as a z u))) else none
    | none => none)
  | none => none
theorem splB_ok {e : Env} (ok : EnvOk e) {as : Asm} (ha : AsmOk e as) {a X A : AExp} {s : IExp} (h : splB as a s X = some A) :
    0 ≤ s.den e ∧ (s.den e).toNat + (X.den e).length ≤ (a.den e).length ∧ A.den e = (a.den e).take (s.den e).toNat ++ X.den e ++ (a.den e).drop ((s.den e).toNat + (X.den e).length) := by
  unfold splB at h
  split at h
  · rename_i z hz
    have hz := sumI_ok ok ha hz
    rw [mkLen_den ok ha] at hz
    split at h
    · rename_i u hu
      have hu := lessI_ok ok ha hu
      rw [mkLen_den ok ha] at hu
      split at h
      · rename_i hc
        cases h
        simp only [Bool.and_eq_true] at hc
        have g1 := geZ_ok hc.1 (IExp.rng_ok ok ha s)
        have g2 := knowsLe_ok ok ha hc.2
        rw [mkLen_den ok ha] at g2
        refine ⟨g1, by omega, ?_⟩
        rw [mkCat_den, mkCat_den, mkPart_den ok ha, mkPart_den ok ha, litD, ← List.append_assoc]
        simp only [Int.toNat_zero, List.drop_zero]
        rw [show (z.den e).toNat = (s.den e).toNat + (X.den e).length by omega]
        congr 1
        rw [List.take_of_length_le (by simp; omega)]
      · cases h
    · cases h
  · cases h

/-- X laid into a, from element s on; where it falls into a's first part, the second one stays. -/
def splA (as : Asm) (a : AExp) (s : IExp) (X : AExp) : Option AExp := match a with
  | .cat m x => (match sumI as s (mkLen as X) with
    | some z => if knowsLe as z (mkLen as m) = true then (splB as m s X).map (AExp.cat · x) else splB as (.cat m x) s X
    | none => none)
  | a => splB as a s X
theorem splA_ok {e : Env} (ok : EnvOk e) {as : Asm} (ha : AsmOk e as) {a X A : AExp} {s : IExp} (h : splA as a s X = some A) :
    0 ≤ s.den e ∧ (s.den e).toNat + (X.den e).length ≤ (a.den e).length ∧ A.den e = (a.den e).take (s.den e).toNat ++ X.den e ++ (a.den e).drop ((s.den e).toNat + (X.den e).length) := by
  unfold splA at h
  split at h
  · rename_i m x
    split at h
    · split at h
      · obtain ⟨A', hA, rfl⟩ := Option.map_eq_some_iff.1 h
        obtain ⟨h1, h2, h3⟩ := splB_ok ok ha hA
        refine ⟨h1, by simp only [AExp.den, List.length_append]; omega, ?_⟩
        simp only [AExp.den]
        rw [h3, List.take_append_of_le_length (by omega), List.drop_append_of_le_length (by omega), List.append_assoc]
      · exact splB_ok ok ha h
    · cases h
  · exact splB_ok ok ha h

/-- X laid over whole numbers, from cell off + j on. -/
def spliceS (as : Asm) : List Seg → Nat → IExp → IntKind → AExp → Option (List Seg)
  | .arr k m a :: r, off, j, k', X => if m ≤ off then (spliceS as r (off - m) j k' X).map (.arr k m a :: ·) else
    if k = k' ∧ geZ (j.rng as) = true then (match sumI as (.lit off) j with
    | some s => (splA as a s X).map fun A => .arr k m A :: r
    | none => none) else none
  | .row k a :: r, off, j, k', X => if k = k' ∧ geZ (j.rng as) = true then (match sumI as (.lit off) j with
    | some s => (splA as a s X).map fun A => .row k A :: r
    | none => none) else none
  | .c x :: r, off + 1, j, k', X => (spliceS as r off j k' X).map (.c x :: ·)
  | _, _, _, _, _ => none
theorem spl_map {k : IntKind} {a X : List Int} {p : Nat} {vs' : List Value} (hp : p + X.length ≤ a.length) : ((a.map (Value.int k)) ++ vs').take p ++ X.map (.int k) ++ ((a.map (Value.int k)) ++ vs').drop (p + X.length) = (a.take p ++ X ++ a.drop (p + X.length)).map (.int k) ++ vs' := by
  rw [List.take_append_of_le_length (by simp; omega), List.drop_append_of_le_length (by simp; omega)]
  simp only [List.map_append, List.map_take, List.map_drop, List.append_assoc]
theorem spliceS_ok {e : Env} (ok : EnvOk e) {as : Asm} (ha : AsmOk e as) {ρ : Rho} {j : IExp} {k : IntKind} {X : AExp} : ∀ {l l' : List Seg} {vs : List Value} {off : Nat}, SegsD e ρ l vs → spliceS as l off j k X = some l' →
    0 ≤ j.den e ∧ off + (j.den e).toNat + (X.den e).length ≤ vs.length ∧ SegsD e ρ l' (vs.take (off + (j.den e).toNat) ++ (X.den e).map (.int k) ++ vs.drop (off + (j.den e).toNat + (X.den e).length))
  | [], _, _, _, _, h => by simp [spliceS] at h
  | .arr k' m a :: r, _, _, off, ⟨vs', h1, h2, h3⟩, h => by
    simp only [spliceS] at h
    subst h1
    split at h
    · rename_i hle
      simp only [Option.map_eq_some_iff] at h
      obtain ⟨q, hq, rfl⟩ := h
      obtain ⟨h4, h5, h6⟩ := spliceS_ok ok ha h3 hq
      refine ⟨h4, by simp; omega, _, ?_, h2, h6⟩
      rw [List.take_append, List.take_of_length_le (by simp; omega), List.drop_append, List.drop_eq_nil_of_le (by simp; omega)]
      simp only [List.length_map, h2, List.nil_append, List.append_assoc]
      congr 2
      · congr 1; omega
      · congr 2; omega
    · split at h
      · rename_i hc
        obtain ⟨rfl, hj⟩ := hc
        have g1 := geZ_ok hj (IExp.rng_ok ok ha j)
        split at h
        · rename_i s hs
          have hs := sumI_ok ok ha hs
          rw [litD] at hs
          simp only [Option.map_eq_some_iff] at h
          obtain ⟨A, hA, rfl⟩ := h
          obtain ⟨q1, q2, q3⟩ := splA_ok ok ha hA
          have e1 : (s.den e).toNat = off + (j.den e).toNat := by omega
          rw [e1] at q2 q3
          refine ⟨g1, by simp; omega, vs', ?_, ?_, h3⟩
          · rw [spl_map q2, q3]
          · rw [q3]; simp; omega
        · cases h
      · cases h
  | .row k' a :: r, _, _, off, ⟨vs', h1, h3⟩, h => by
    simp only [spliceS] at h
    subst h1
    split at h
    · rename_i hc
      obtain ⟨rfl, hj⟩ := hc
      have g1 := geZ_ok hj (IExp.rng_ok ok ha j)
      split at h
      · rename_i s hs
        have hs := sumI_ok ok ha hs
        rw [litD] at hs
        simp only [Option.map_eq_some_iff] at h
        obtain ⟨A, hA, rfl⟩ := h
        obtain ⟨q1, q2, q3⟩ := splA_ok ok ha hA
        have e1 : (s.den e).toNat = off + (j.den e).toNat := by omega
        rw [e1] at q2 q3
        refine ⟨g1, by simp; omega, vs', ?_, h3⟩
        rw [spl_map q2, q3]
      · cases h
    · cases h
  | .c x :: r, _, _, off + 1, ⟨v, vs', h1, h2, h3⟩, h => by
    simp only [spliceS, Option.map_eq_some_iff] at h
    obtain ⟨q, hq, rfl⟩ := h
    subst h1
    obtain ⟨h4, h5, h6⟩ := spliceS_ok ok ha h3 hq
    refine ⟨h4, by simp; omega, v, _, ?_, h2, h6⟩
    rw [show off + 1 + (j.den e).toNat = (off + (j.den e).toNat) + 1 by omega, show off + (j.den e).toNat + 1 + (X.den e).length = (off + (j.den e).toNat + (X.den e).length) + 1 by omega]
    simp
  | .c x :: r, _, _, 0, _, h => by simp [spliceS] at h
  | .el _ _ _ _ :: _, _, _, _, _, h => by simp [spliceS] at h
  | .tab _ _ :: _, _, _, _, _, h => by simp [spliceS] at h

/-- Where an address stands: a cell, and so many whole numbers on. -/
def Ad.start (a : Ad) : Option (Nat × IExp) := match a.ix with
  | none => some (a.off, .lit 0)
  | some (j, w) => if w = 1 then some (a.off, j) else none
theorem Ad.start_pos {e : Env} {a : Ad} {off : Nat} {j : IExp} (h : a.start = some (off, j)) (h0 : 0 ≤ j.den e) : a.pos e = off + (j.den e).toNat := by
  unfold Ad.start at h
  unfold Ad.pos
  cases hix : a.ix with
  | none => rw [hix] at h; cases h; simp [litD]
  | some q =>
    obtain ⟨i, w⟩ := q
    rw [hix] at h
    simp only at h
    split at h
    · rename_i hw
      cases h
      simp [hw]
    · cases h
/-- The whole numbers of a slice, as many as n. -/
def rowOf (as : Asm) (h : SHeap) (a : Ad) (n : IExp) : Option (IntKind × AExp) :=
  match h[a.b]?, a.start with
  | some (some (l, _)), some (off, j) => region as l off j n
  | _, _ => none

/-! ### Effects -/
def zeroSegs (P : Program) (t : TypeId) : Option (List Seg) :=
  match P.info? t with
  | some i => (match i.zero with
    | some z => zeroOf P t i.size z
    | none => none)
  | none => none

def initSegs (z : Value) (n : Nat) : Option (List Seg) := constCells ((Array.range n).map (z.cells[· % z.cells.size]!)).toList

def isZeroInt (k : IntKind) (z : Value) : Bool := match z.cells.toList with
  | [.int k' n] => decide (k' = k) && decide (n = 0)
  | _ => false
theorem isZeroInt_eq {k : IntKind} {z : Value} (h : isZeroInt k z = true) : z.cells = #[.int k 0] := by
  unfold isZeroInt at h
  split at h
  · rename_i k' n hz
    simp only [Bool.and_eq_true, decide_eq_true_eq] at h
    obtain ⟨rfl, rfl⟩ := h
    apply Array.ext'
    rw [hz]
  · cases h
/-- The element type of a slice type: a whole number, of so many bytes. -/
def intElem (P : Program) (t : TypeId) : Option (TypeId × IntKind × Nat) :=
  match P.underlying t with
  | some (.slice el) => match P.underlying el, P.info? el with
    | some (.int k), some ie => match ie.zero with
      | some z => if ie.size = 1 ∧ isZeroInt k z = true ∧ 0 < ie.bytes then some (el, k, ie.bytes) else none
      | none => none
    | _, _ => none
  | _ => none
theorem intElem_ok {P : Program} {t el : TypeId} {k : IntKind} {by' : Nat} (h : intElem P t = some (el, k, by')) :
    P.underlying t = some (.slice el) ∧ P.underlying el = some (.int k) ∧ 0 < by' ∧ ∃ ie z, P.info? el = some ie ∧ ie.zero = some z ∧ ie.size = 1 ∧ z.cells = #[.int k 0] ∧ ie.bytes = by' := by
  unfold intElem at h
  split at h
  · rename_i el' hu
    split at h
    · rename_i k' ie h1 h2
      split at h
      · rename_i z hz
        split at h
        · rename_i hc
          cases h
          exact ⟨hu, h1, hc.2.2, ie, z, h2, hz, hc.1, isZeroInt_eq hc.2.1, rfl⟩
        · cases h
      · cases h
    · cases h
  · cases h

/-- A slice or a text as a source of n whole numbers. -/
def srcOf (as : Asm) (h : SHeap) (x : Cell) (n : IExp) : Option (IntKind × AExp) :=
  match x with
  | .sl (some a) _ _ => if isZ n then some (((rowOf as h a n).map (·.1)).getD .u8, .nil) else rowOf as h a n
  | .sl none _ _ => if isZ n then some (.u8, .nil) else none
  | .s a => if a.inK as .u8 && geZ (n.rng as) && knowsLe as n (mkLen as a) then some (.u8, mkPart as a (.lit 0) n) else none
  | _ => none
def lenOfC (as : Asm) : Cell → Option IExp
  | .sl _ n _ => some n
  | .s a => some (mkLen as a)
  | _ => none

/-! ### Rows of structs -/
/-- The element type of a slice type: its cells, its bytes. -/
def structElem (P : Program) (t : TypeId) : Option (TypeId × Nat × Nat) :=
  match P.underlying t with
  | some (.slice el) => match P.info? el with
    | some ie => match ie.zero with
      | some z => if ie.size = z.cells.size ∧ 0 < ie.size ∧ 0 < ie.bytes then some (el, ie.size, ie.bytes) else none
      | none => none
    | none => none
  | _ => none
theorem structElem_ok {P : Program} {t el : TypeId} {sz byt : Nat} (h : structElem P t = some (el, sz, byt)) :
    P.underlying t = some (.slice el) ∧ 0 < sz ∧ 0 < byt ∧ ∃ ie z, P.info? el = some ie ∧ ie.zero = some z ∧ ie.size = sz ∧ z.cells.size = sz ∧ ie.bytes = byt := by
  unfold structElem at h
  split at h
  · rename_i el' hu
    split at h
    · rename_i ie h2
      split at h
      · rename_i z hz
        split at h
        · rename_i hc
          cases h
          exact ⟨hu, hc.2.1, hc.2.2, ie, z, h2, hz, rfl, hc.1.symm, rfl⟩
        · cases h
      · cases h
    · cases h
  · cases h
def mapCol (f : AExp → AExp) : Col → Col
  | .b a => .b (f a)
  | .i k a => .i k (f a)
theorem mapCol_a (f : AExp → AExp) (c : Col) : (mapCol f c).a = f c.a := by cases c <;> rfl
theorem mapCol_val (f : AExp → AExp) (c : Col) (n : Int) : (mapCol f c).val n = c.val n := by cases c <;> rfl
/-- Where an address stands among elements of w cells: the element, the cell. -/
def tabPos (w : Nat) (a : Ad) : Option (IExp × Nat) := match a.ix with
  | none => some (.lit ((a.off / w : Nat) : Int), a.off % w)
  | some (j, w') => if w' = w then some (j, a.off) else none
theorem tabPos_ok {e : Env} {w : Nat} {a : Ad} {j : IExp} {off : Nat} (h : tabPos w a = some (j, off)) : a.pos e = off + (j.den e).toNat * w := by
  unfold tabPos at h
  unfold Ad.pos
  split at h
  · rename_i hix
    rw [hix]
    cases h
    rw [litD, Int.toNat_natCast, Nat.add_comm, Nat.mul_comm, Nat.div_add_mod]
  · rename_i j' w' hix
    rw [hix]
    split at h
    · rename_i hw
      cases h
      subst hw
      rfl
    · cases h
def isZeroLit : IExp → Bool
  | .lit n => decide (n = 0)
  | _ => false
theorem isZeroLit_eq {x : IExp} (h : isZeroLit x = true) : x = .lit 0 := by
  cases x <;> simp [isZeroLit] at h
  rw [h]
def bitOf : BExp → IExp
  | .lit b => .lit (if b = true then 1 else 0)
  | .not (.eq (.sel .u8 a i) z) => if isZeroLit z = true then .sel .u8 a i else .bit (.not (.eq (.sel .u8 a i) z))
  | b => .bit b
theorem bit_den (e : Env) (b : BExp) : decide ((IExp.bit b).den e ≠ 0) = b.den e := by
  simp only [IExp.den]
  by_cases hb : b.den e = true
  · simp [hb]
  · simp [hb]
theorem bitOf_den (e : Env) (b : BExp) : decide ((bitOf b).den e ≠ 0) = b.den e := by
  unfold bitOf
  split
  · rename_i b
    simp only [IExp.den, BExp.den]
    cases b <;> simp
  · rename_i a i z
    split
    · rename_i hz
      rw [isZeroLit_eq hz]
      simp only [BExp.den, litD]
      exact (not_decide_same Iff.rfl).symm
    · exact bit_den e _
  · exact bit_den e _
/-- One row's columns. -/
def rowCols : List Seg → Option (List Col)
  | [] => some []
  | .c (.b x) :: r => (rowCols r).map (.b (mkOne (bitOf x)) :: ·)
  | .c (.i k x) :: r => (rowCols r).map (.i k (mkOne x) :: ·)
  | _ => none
theorem rowCols_ok {e : Env} {ρ : Rho} : ∀ {l : List Seg} {vs : List Value} {cols : List Col}, SegsD e ρ l vs → rowCols l = some cols →
    cols.length = vs.length ∧ ∀ (r : Nat) c, cols[r]? = some c → (c.a.den e).length = 1 ∧ vs[r]? = some (c.val ((c.a.den e).getD 0 0))
  | [], vs, cols, h, hc => by
    cases h
    simp only [rowCols, Option.some.injEq] at hc
    subst hc
    exact ⟨rfl, fun r c h => by simp at h⟩
  | .c x :: r, _, cols, ⟨v, vs', rfl, h2, h3⟩, hc => by
    cases x <;> simp only [rowCols, Option.map_eq_some_iff, reduceCtorEq] at hc
    all_goals
      obtain ⟨q, hq, rfl⟩ := hc
      obtain ⟨h4, h5⟩ := rowCols_ok h3 hq
      refine ⟨by simp [h4], fun i c hi => ?_⟩
      rcases i with _ | i
      · simp only [List.getElem?_cons_zero, Option.some.injEq] at hi
        subst hi
        simp only [Col.a, mkOne_den, List.length_singleton, List.getElem?_cons_zero, List.getD_cons_zero, Col.val, Option.some.injEq, true_and]
        first | exact h2 | (rw [bitOf_den]; exact h2)
      · simpa using h5 i c (by simpa using hi)
  | .arr _ _ _ :: _, _, _, _, hc => by simp [rowCols] at hc
  | .row _ _ :: _, _, _, _, hc => by simp [rowCols] at hc
  | .el _ _ _ _ :: _, _, _, _, hc => by simp [rowCols] at hc
  | .tab _ _ :: _, _, _, _, hc => by simp [rowCols] at hc
theorem rowCols_tab {e : Env} {ρ : Rho} {l : List Seg} {vs : List Value} {cols : List Col} (h : SegsD e ρ l vs) (hc : rowCols l = some cols) (h0 : 0 < vs.length) : cols.length = vs.length ∧ TabD e (.lit 1) cols vs := by
  obtain ⟨h1, h2⟩ := rowCols_ok h hc
  refine ⟨h1, by rw [litD]; omega, by omega, fun c hc => ?_, ?_⟩
  · obtain ⟨r, hr⟩ := List.mem_iff_getElem?.1 hc
    rw [(h2 r c hr).1, litD]; rfl
  · rw [litD]
    apply List.ext_getElem?
    intro x
    by_cases hx : x < cols.length
    · have := grid_get (F := tabF e cols) (n := 1) (q := 0) (w := cols.length) (by omega) hx
      rw [Nat.zero_mul, Nat.zero_add] at this
      show vs[x]? = (grid (tabF e cols) cols.length 1)[x]?
      rw [this, (h2 x _ (List.getElem?_eq_getElem hx)).2]
      simp only [tabF, List.getElem?_eq_getElem hx]
    · rw [List.getElem?_eq_none (by omega)]
      exact (grid_out (by show 1 * cols.length ≤ x; omega)).symm
def zipCols : List Col → List Col → Option (List Col)
  | [], [] => some []
  | .b a :: r, .b b :: s => (zipCols r s).map (.b (mkCat a b) :: ·)
  | .i k a :: r, .i k' b :: s => if k = k' then (zipCols r s).map (.i k (mkCat a b) :: ·) else none
  | _, _ => none
theorem zipCols_ok {e : Env} : ∀ {c d x : List Col}, zipCols c d = some x → x.length = c.length ∧ d.length = c.length ∧ ∀ (r : Nat) y, x[r]? = some y → ∃ a b, c[r]? = some a ∧ d[r]? = some b ∧ y.a.den e = a.a.den e ++ b.a.den e ∧ (∀ n, y.val n = a.val n) ∧ ∀ n, y.val n = b.val n
  | [], [], x, h => by
    simp only [zipCols, Option.some.injEq] at h
    subst h
    exact ⟨rfl, rfl, fun r y h => by simp at h⟩
  | .b a :: r, .b b :: s, x, h => by
    simp only [zipCols, Option.map_eq_some_iff] at h
    obtain ⟨q, hq, rfl⟩ := h
    obtain ⟨h1, h2, h3⟩ := zipCols_ok (e := e) hq
    refine ⟨by simp [h1], by simp [h2], fun i y hy => ?_⟩
    rcases i with _ | i
    · simp only [List.getElem?_cons_zero, Option.some.injEq] at hy
      subst hy
      exact ⟨_, _, rfl, rfl, mkCat_den, fun _ => rfl, fun _ => rfl⟩
    · exact h3 i y (by simpa using hy)
  | .i k a :: r, .i k' b :: s, x, h => by
    simp only [zipCols] at h
    split at h
    · rename_i hk
      subst hk
      simp only [Option.map_eq_some_iff] at h
      obtain ⟨q, hq, rfl⟩ := h
      obtain ⟨h1, h2, h3⟩ := zipCols_ok (e := e) hq
      refine ⟨by simp [h1], by simp [h2], fun i y hy => ?_⟩
      rcases i with _ | i
      · simp only [List.getElem?_cons_zero, Option.some.injEq] at hy
        subst hy
        exact ⟨_, _, rfl, rfl, mkCat_den, fun _ => rfl, fun _ => rfl⟩
      · exact h3 i y (by simpa using hy)
    · cases h
  | [], .b _ :: _, _, h => by simp [zipCols] at h
  | [], .i _ _ :: _, _, h => by simp [zipCols] at h
  | .b _ :: _, [], _, h => by simp [zipCols] at h
  | .i _ _ :: _, [], _, h => by simp [zipCols] at h
  | .b _ :: _, .i _ _ :: _, _, h => by simp [zipCols] at h
  | .i _ _ :: _, .b _ :: _, _, h => by simp [zipCols] at h
theorem TabD.zip {e : Env} {n m z : IExp} {c d x : List Col} {vs ws : List Value} (h : TabD e n c vs) (k : TabD e m d ws) (hx : zipCols c d = some x) (hz : z.den e = n.den e + m.den e) : TabD e z x (vs ++ ws) := by
  obtain ⟨h1, h2, h3⟩ := zipCols_ok (e := e) hx
  have hn := h.n0
  have hm := k.n0
  have hzt : (z.den e).toNat = (n.den e).toNat + (m.den e).toNat := by omega
  refine ⟨by omega, by rw [h1]; exact h.w, fun y hy => ?_, ?_⟩
  · obtain ⟨r, hr⟩ := List.mem_iff_getElem?.1 hy
    obtain ⟨a, b, ha, hb, hd, _⟩ := h3 r y hr
    rw [hd, List.length_append, h.len a (List.mem_of_getElem? ha), k.len b (List.mem_of_getElem? hb), hzt]
  · rw [hzt, grid_add, h.is, k.is, h1, h2]
    congr 1
    · refine grid_congr fun j r hj hr => ?_
      obtain ⟨a, b, ha, hb, hd, hv, _⟩ := h3 r _ (List.getElem?_eq_getElem (by omega))
      rw [tabF, ha, tabF_of (List.getElem?_eq_getElem (show r < x.length by omega)), hd, hv]
      have hla := h.len a (List.mem_of_getElem? ha)
      simp only [List.getD_eq_getElem?_getD]
      rw [List.getElem?_append_left (by omega)]
    · refine grid_congr fun j r hj hr => ?_
      obtain ⟨a, b, ha, hb, hd, _, hv⟩ := h3 r _ (List.getElem?_eq_getElem (by omega))
      rw [tabF, hb, tabF_of (List.getElem?_eq_getElem (show r < x.length by omega)), hd, hv]
      have hla := h.len a (List.mem_of_getElem? ha)
      simp only [List.getD_eq_getElem?_getD]
      rw [List.getElem?_append_right (by omega), hla, Nat.add_sub_cancel_left]
/-- Rows' cells as a table. -/
def toTab (as : Asm) (w : Nat) : Nat → List Seg → Option (List Col)
  | 0, _ => none
  | 1, l => rowCols l
  | n + 2, l => match takeSegs as l w, dropSegs as l w with
    | some a, some b => (match rowCols a, toTab as w (n + 1) b with
      | some c, some d => zipCols c d
      | _, _ => none)
    | _, _ => none
theorem toTab_ok {e : Env} (ok : EnvOk e) {as : Asm} (ha : AsmOk e as) {ρ : Rho} {w : Nat} (hw : 0 < w) : ∀ {n : Nat} {l : List Seg} {vs : List Value} {cols : List Col}, SegsD e ρ l vs → vs.length = n * w → toTab as w n l = some cols → cols.length = w ∧ TabD e (.lit n) cols vs
  | 0, _, _, _, _, _, h => by simp [toTab] at h
  | 1, l, vs, cols, hl, hv, h => by
    simp only [toTab] at h
    have := rowCols_tab hl h (by omega)
    exact ⟨by omega, this.2⟩
  | n + 2, l, vs, cols, hl, hv, h => by
    simp only [toTab] at h
    split at h
    · rename_i a b h1 h2
      split at h
      · rename_i c d h3 h4
        obtain ⟨t1, t2⟩ := takeSegs_ok ok ha hl h1
        obtain ⟨d1, d2⟩ := dropSegs_ok ok ha hl h2
        have hlen : vs.length = w + (n + 1) * w := by rw [hv, show n + 2 = (n + 1) + 1 by omega, Nat.succ_mul]; omega
        obtain ⟨r1, r2⟩ := rowCols_tab t2 h3 (by rw [List.length_take]; omega)
        obtain ⟨q1, q2⟩ := toTab_ok ok ha hw d2 (by rw [List.length_drop]; omega) h4
        have := r2.zip q2 h (z := .lit ((n + 2 : Nat) : Int)) (by simp only [litD]; omega)
        rw [List.take_append_drop] at this
        refine ⟨?_, this⟩
        rw [(zipCols_ok (e := e) h).1, r1, List.length_take]; omega
      · cases h
    · cases h
def asTab (as : Asm) (w : Nat) (l : List Seg) : Option (IExp × List Col) := match l with
  | [.tab n c] => if c.length = w then some (n, c) else none
  | l => match segsLen l with
    | some k => if k % w = 0 then (toTab as w (k / w) l).map fun c => (.lit ((k / w : Nat) : Int), c) else none
    | none => none
theorem asTab_ok {e : Env} (ok : EnvOk e) {as : Asm} (ha : AsmOk e as) {ρ : Rho} {w : Nat} (hw : 0 < w) {l : List Seg} {vs : List Value} {n : IExp} {c : List Col} (hl : SegsD e ρ l vs) (h : asTab as w l = some (n, c)) : c.length = w ∧ TabD e n c vs := by
  unfold asTab at h
  split at h
  · split at h
    · rename_i hc
      cases h
      obtain ⟨tv, vs', h1, h2, h3⟩ := hl
      cases h3
      rw [h1, List.append_nil]
      exact ⟨hc, h2⟩
    · cases h
  · split at h
    · rename_i k hk
      split at h
      · rename_i hm
        obtain ⟨c', hc', hh⟩ := Option.map_eq_some_iff.1 h
        cases hh
        refine toTab_ok ok ha hw hl ?_ hc'
        rw [← segsLen_eq hl hk, Nat.mul_comm]
        have := Nat.div_add_mod k w
        omega
      · cases h
    · cases h
/-- The rows of both, one behind the other. -/
def catT (as : Asm) (w : Nat) (S X : List Seg) : Option (List Seg) :=
  match S, X with
  | [], X => (match asTab as w X with
    | some (n, c) => some [.tab n c]
    | none => some X)
  | S, [] => some S
  | S, X => match asTab as w S, asTab as w X with
    | some (n, c), some (m, d) => (match sumI as n m, zipCols c d with
      | some z, some x => some [.tab z x]
      | _, _ => none)
    | _, _ => some (S ++ X)
theorem catT_ok {e : Env} (ok : EnvOk e) {as : Asm} (ha : AsmOk e as) {ρ : Rho} {w : Nat} (hw : 0 < w) {S X l : List Seg} {vs ws : List Value} (hS : SegsD e ρ S vs) (hX : SegsD e ρ X ws) (h : catT as w S X = some l) : SegsD e ρ l (vs ++ ws) := by
  unfold catT at h
  split at h
  · cases hS
    split at h
    · rename_i n c hc
      cases h
      exact ⟨_, [], by simp, (asTab_ok ok ha hw hX hc).2, rfl⟩
    · cases h; exact hX
  · cases hX
    cases h
    rwa [List.append_nil]
  · split at h
    · rename_i n c m d h1 h2
      split at h
      · rename_i z x hz hx
        cases h
        exact ⟨_, [], by simp, (asTab_ok ok ha hw hS h1).2.zip (asTab_ok ok ha hw hX h2).2 hx (sumI_ok ok ha hz), rfl⟩
      · cases h
    · cases h
      exact hS.append hX
theorem TabD.part {e : Env} (ok : EnvOk e) {as : Asm} (ha : AsmOk e as) {m j n : IExp} {cols : List Col} {vs : List Value} (h : TabD e m cols vs) (hj : 0 ≤ j.den e) (hn : 0 ≤ n.den e) (hle : j.den e + n.den e ≤ m.den e) :
    TabD e n (cols.map (mapCol fun a => mkPart as a j n)) ((vs.drop ((j.den e).toNat * cols.length)).take ((n.den e).toNat * cols.length)) := by
  have hm := h.n0
  refine ⟨hn, by simpa using h.w, fun c hc => ?_, ?_⟩
  · obtain ⟨c0, hc0, rfl⟩ := List.mem_map.1 hc
    rw [mapCol_a, mkPart_den ok ha, List.length_take, List.length_drop, h.len c0 hc0]; omega
  · rw [h.is, grid_drop (by omega), grid_take (by omega), List.length_map]
    refine grid_congr fun q r hq hr => ?_
    rw [tabF_of (List.getElem?_eq_getElem hr), tabF_of (c := mapCol (fun a => mkPart as a j n) cols[r]) (by rw [List.getElem?_map, List.getElem?_eq_getElem hr]; rfl), mapCol_a, mapCol_val, mkPart_den ok ha]
    congr 1
    simp only [List.getD_eq_getElem?_getD]
    rw [List.getElem?_take_of_lt hq, List.getElem?_drop]
/-- The first n elements of a slice of structs. -/
def srcT (as : Asm) (h : SHeap) (w : Nat) (x : Cell) (n : IExp) : Option (List Seg) :=
  if isZ n then some [] else match x with
  | .sl (some a) _ _ => match h[a.b]? with
    | some (some (l, _)) => (match l with
      | [.tab m cols] => (match tabPos w a with
        | some (j, off) => if cols.length = w ∧ off = 0 then (match sumI as j n with
          | some z => if geZ (j.rng as) && geZ (n.rng as) && knowsLe as z m then some [.tab n (cols.map (mapCol fun a => mkPart as a j n))] else none
          | none => none) else none
        | none => none)
      | l => (match a.ix, isLit n with
        | none, some k => if 0 ≤ k then readSegs as l a.off (k.toNat * w) else none
        | some (.lit q, w'), some k => if 0 ≤ k ∧ q = 0 ∧ w' = w then readSegs as l a.off (k.toNat * w) else none
        | _, _ => none))
    | _ => none
  | _ => none
/-! Laying structs into tables. -/
def colPut (as : Asm) (i : IExp) : Col → Cell → Option Col
  | .b a, .b x => some (.b (mkUpd as a i (bitOf x)))
  | .i k a, .i k' x => if k = k' then some (.i k (mkUpd as a i x)) else none
  | _, _ => none
def colsPut (as : Asm) (i : IExp) : List Col → Nat → List Seg → Option (List Col)
  | cols, 0, [] => some cols
  | c :: r, 0, .c x :: s => (match colPut as i c x, colsPut as i r 0 s with
    | some c', some r' => some (c' :: r')
    | _, _ => none)
  | c :: r, off + 1, s => (colsPut as i r off s).map (c :: ·)
  | _, _, _ => none
theorem getD_set_self {l : List Int} {i : Nat} {v : Int} (h : i < l.length) : (l.set i v).getD i 0 = v := by
  rw [List.getD_eq_getElem?_getD, List.getElem?_set_self h]; rfl
theorem getD_set_ne {l : List Int} {i j : Nat} {v : Int} (h : j ≠ i) : (l.set i v).getD j 0 = l.getD j 0 := by
  rw [List.getD_eq_getElem?_getD, List.getD_eq_getElem?_getD, List.getElem?_set_ne (fun hh => h hh.symm)]
theorem colPut_ok {e : Env} (ok : EnvOk e) {as : Asm} (ha : AsmOk e as) {ρ : Rho} {i : IExp} {c c' : Col} {x : Cell} {v : Value} (hi : (i.den e).toNat < (c.a.den e).length) (hx : x.D e ρ v) (h : colPut as i c x = some c') :
    (c'.a.den e).length = (c.a.den e).length ∧ (∀ j, j ≠ (i.den e).toNat → c'.val ((c'.a.den e).getD j 0) = c.val ((c.a.den e).getD j 0)) ∧ c'.val ((c'.a.den e).getD (i.den e).toNat 0) = v := by
  unfold colPut at h
  split at h
  · cases h
    simp only [Col.a] at hi
    simp only [Col.a, mkUpd_den ok ha, List.length_set, Col.val, true_and]
    refine ⟨fun j hj => congrArg Value.bool (decide_eq_decide.2 (by rw [getD_set_ne hj])), ?_⟩
    rw [getD_set_self hi, bitOf_den]
    exact hx.symm
  · split at h
    · rename_i hk
      subst hk
      cases h
      simp only [Col.a] at hi
      simp only [Col.a, mkUpd_den ok ha, List.length_set, Col.val, true_and]
      refine ⟨fun j hj => by rw [getD_set_ne hj], ?_⟩
      rw [getD_set_self hi]
      exact hx.symm
    · cases h
  · cases h
theorem colsPut_ok {e : Env} (ok : EnvOk e) {as : Asm} (ha : AsmOk e as) {ρ : Rho} {i : IExp} : ∀ {cols : List Col} {off : Nat} {s : List Seg} {nv : List Value} {cols' : List Col}, (∀ c ∈ cols, (i.den e).toNat < (c.a.den e).length) → SegsD e ρ s nv → colsPut as i cols off s = some cols' →
    cols'.length = cols.length ∧ off + nv.length ≤ cols.length ∧ ∀ (r : Nat) c', cols'[r]? = some c' → ∃ c, cols[r]? = some c ∧ (c'.a.den e).length = (c.a.den e).length ∧ (∀ j, j ≠ (i.den e).toNat → c'.val ((c'.a.den e).getD j 0) = c.val ((c.a.den e).getD j 0)) ∧
      (r < off ∨ off + nv.length ≤ r → c'.val ((c'.a.den e).getD (i.den e).toNat 0) = c.val ((c.a.den e).getD (i.den e).toNat 0)) ∧ (∀ v, off ≤ r → nv[r - off]? = some v → c'.val ((c'.a.den e).getD (i.den e).toNat 0) = v)
  | cols, 0, [], nv, cols', _, hs, h => by
    cases hs
    have h : some cols = some cols' := by
      cases cols <;> simpa only [colsPut] using h
    cases h
    exact ⟨rfl, Nat.zero_le _, fun r c' hc => ⟨c', hc, rfl, fun _ _ => rfl, fun _ => rfl, fun v _ hv => by simp at hv⟩⟩
  | c :: r, 0, .c x :: s, _, cols', hi, ⟨v, nv', rfl, hx, hs⟩, h => by
    simp only [colsPut] at h
    split at h
    · rename_i c1 r1 h1 h2
      cases h
      have hc := colPut_ok ok ha (hi c List.mem_cons_self) hx h1
      obtain ⟨k1, k2, k3⟩ := colsPut_ok ok ha (fun d hd => hi d (List.mem_cons_of_mem _ hd)) hs h2
      refine ⟨by simp [k1], by simp at k2 ⊢; omega, fun q c' hq => ?_⟩
      rcases q with _ | q
      · simp only [List.getElem?_cons_zero, Option.some.injEq] at hq
        subst hq
        exact ⟨c, rfl, hc.1, hc.2.1, fun hh => by simp at hh, fun w _ hw => by simp at hw; rw [hc.2.2, hw]⟩
      · obtain ⟨d, d1, d2, d3, d4, d5⟩ := k3 q c' (by simpa using hq)
        refine ⟨d, by simpa using d1, d2, d3, fun hh => d4 ?_, fun w _ hw => d5 w (Nat.zero_le _) (by simpa using hw)⟩
        simp only [List.length_cons] at hh
        omega
    · cases h
  | c :: r, off + 1, s, nv, cols', hi, hs, h => by
    have h : (colsPut as i r off s).map (c :: ·) = some cols' := by
      cases s <;> simpa only [colsPut] using h
    obtain ⟨r1, h2, rfl⟩ := Option.map_eq_some_iff.1 h
    obtain ⟨k1, k2, k3⟩ := colsPut_ok ok ha (fun d hd => hi d (List.mem_cons_of_mem _ hd)) hs h2
    refine ⟨by simp [k1], by simp; omega, fun q c' hq => ?_⟩
    rcases q with _ | q
    · simp only [List.getElem?_cons_zero, Option.some.injEq] at hq
      subst hq
      exact ⟨c, rfl, rfl, fun _ _ => rfl, fun _ => rfl, fun w hw _ => by omega⟩
    · obtain ⟨d, d1, d2, d3, d4, d5⟩ := k3 q c' (by simpa using hq)
      exact ⟨d, by simpa using d1, d2, d3, fun hh => d4 (by omega), fun w hw1 hw => d5 w (by omega) (by rw [show q + 1 - (off + 1) = q - off by omega] at hw; exact hw)⟩
  | [], 0, .c _ :: _, _, _, _, _, h => by simp [colsPut] at h
  | [], _ + 1, s, _, _, _, _, h => by cases s <;> simp [colsPut] at h
  | [], 0, .arr _ _ _ :: _, _, _, _, _, h => by simp [colsPut] at h
  | [], 0, .row _ _ :: _, _, _, _, _, h => by simp [colsPut] at h
  | [], 0, .el _ _ _ _ :: _, _, _, _, _, h => by simp [colsPut] at h
  | [], 0, .tab _ _ :: _, _, _, _, _, h => by simp [colsPut] at h
  | _ :: _, 0, .arr _ _ _ :: _, _, _, _, _, h => by simp [colsPut] at h
  | _ :: _, 0, .row _ _ :: _, _, _, _, _, h => by simp [colsPut] at h
  | _ :: _, 0, .el _ _ _ _ :: _, _, _, _, _, h => by simp [colsPut] at h
  | _ :: _, 0, .tab _ _ :: _, _, _, _, _, h => by simp [colsPut] at h
/-- A struct laid into a table. -/
def storeT (as : Asm) (l : List Seg) (a : Ad) (s : List Seg) : Option (List Seg) := match l with
  | [.tab n cols] => (match tabPos cols.length a with
    | some (i, off) => if knowsLe as (.lit 0) i && knowsLt as i n then (colsPut as i cols off s).map fun c => [.tab n c] else none
    | none => none)
  | _ => none
theorem storeT_ok {e : Env} (ok : EnvOk e) {as : Asm} (ha : AsmOk e as) {ρ : Rho} {l l' s : List Seg} {vs nv : List Value} {a : Ad} (hl : SegsD e ρ l vs) (hs : SegsD e ρ s nv) (h : storeT as l a s = some l') :
    a.pos e + nv.length ≤ vs.length ∧ SegsD e ρ l' (vs.take (a.pos e) ++ nv ++ vs.drop (a.pos e + nv.length)) := by
  unfold storeT at h
  split at h
  · rename_i n cols
    split at h
    · rename_i i off hpos
      split at h
      · rename_i hk
        simp only [Bool.and_eq_true] at hk
        obtain ⟨c', hc', rfl⟩ := Option.map_eq_some_iff.1 h
        have g1 := knowsLe_ok ok ha hk.1
        have g2 := knowsLt_ok ok ha hk.2
        rw [litD] at g1
        obtain ⟨tv, vs', rfl, hT, hnil⟩ := hl
        cases hnil
        rw [List.append_nil]
        have hn := hT.n0
        have hq : (i.den e).toNat < (n.den e).toNat := by omega
        obtain ⟨k1, k2, k3⟩ := colsPut_ok ok ha (fun c hc => by rw [hT.len c hc]; exact hq) hs hc'
        have hpos := tabPos_ok (e := e) hpos
        have hqw : (i.den e).toNat * cols.length + cols.length ≤ (n.den e).toNat * cols.length := by rw [← Nat.succ_mul]; exact Nat.mul_le_mul_right _ hq
        have hlen := hT.length
        refine ⟨by omega, _, [], (List.append_nil _).symm, ⟨hn, by rw [k1]; exact hT.w, fun c hc => ?_, ?_⟩, rfl⟩
        · obtain ⟨r, hr⟩ := List.mem_iff_getElem?.1 hc
          obtain ⟨d, d1, d2, _⟩ := k3 r c hr
          rw [d2, hT.len d (List.mem_of_getElem? d1)]
        · rw [hpos, hT.is, k1]
          refine (grid_put hq k2 (fun j r hj hr hor => ?_) (fun r v hv => ?_)).symm
          · obtain ⟨d, d1, d2, d3, d4, _⟩ := k3 r _ (List.getElem?_eq_getElem (by rw [k1]; exact hr))
            rw [tabF_of (List.getElem?_eq_getElem (by rw [k1]; exact hr)), tabF_of d1]
            by_cases hjq : j = (i.den e).toNat
            · subst hjq
              exact d4 (by omega)
            · exact d3 j hjq
          · have hrl : r < nv.length := (List.getElem?_eq_some_iff.1 hv).1
            obtain ⟨d, d1, _, _, _, d5⟩ := k3 (off + r) _ (List.getElem?_eq_getElem (by rw [k1]; omega))
            rw [tabF_of (List.getElem?_eq_getElem (by rw [k1]; omega))]
            exact d5 v (by omega) (by rw [Nat.add_sub_cancel_left]; exact hv)
      · cases h
    · cases h
  · cases h
/-- Rows laid into a table, from row j on. -/
def splCols (as : Asm) (j z u : IExp) : List Col → List Col → Option (List Col)
  | [], [] => some []
  | .b a :: r, .b x :: s => (splCols as j z u r s).map (.b (mkCat (mkPart as a (.lit 0) j) (mkCat x (mkPart as a z u))) :: ·)
  | .i k a :: r, .i k' x :: s => if k = k' then (splCols as j z u r s).map (.i k (mkCat (mkPart as a (.lit 0) j) (mkCat x (mkPart as a z u))) :: ·) else none
  | _, _ => none
theorem splCols_ok {e : Env} (ok : EnvOk e) {as : Asm} (ha : AsmOk e as) {j z u : IExp} : ∀ {c d x : List Col}, splCols as j z u c d = some x → x.length = c.length ∧ d.length = c.length ∧ ∀ (r : Nat) y, x[r]? = some y → ∃ a b, c[r]? = some a ∧ d[r]? = some b ∧
    y.a.den e = (a.a.den e).take (j.den e).toNat ++ (b.a.den e ++ ((a.a.den e).drop (z.den e).toNat).take (u.den e).toNat) ∧ (∀ n, y.val n = a.val n) ∧ ∀ n, y.val n = b.val n
  | [], [], x, h => by
    simp only [splCols, Option.some.injEq] at h
    subst h
    exact ⟨rfl, rfl, fun r y h => by simp at h⟩
  | .b a :: r, .b b :: s, x, h => by
    simp only [splCols, Option.map_eq_some_iff] at h
    obtain ⟨q, hq, rfl⟩ := h
    obtain ⟨h1, h2, h3⟩ := splCols_ok ok ha hq
    refine ⟨by simp [h1], by simp [h2], fun i y hy => ?_⟩
    rcases i with _ | i
    · simp only [List.getElem?_cons_zero, Option.some.injEq] at hy
      subst hy
      refine ⟨_, _, rfl, rfl, ?_, fun _ => rfl, fun _ => rfl⟩
      simp only [Col.a, mkCat_den, mkPart_den ok ha, litD, Int.toNat_zero, List.drop_zero]
    · exact h3 i y (by simpa using hy)
  | .i k a :: r, .i k' b :: s, x, h => by
    simp only [splCols] at h
    split at h
    · rename_i hk
      subst hk
      simp only [Option.map_eq_some_iff] at h
      obtain ⟨q, hq, rfl⟩ := h
      obtain ⟨h1, h2, h3⟩ := splCols_ok ok ha hq
      refine ⟨by simp [h1], by simp [h2], fun i y hy => ?_⟩
      rcases i with _ | i
      · simp only [List.getElem?_cons_zero, Option.some.injEq] at hy
        subst hy
        refine ⟨_, _, rfl, rfl, ?_, fun _ => rfl, fun _ => rfl⟩
        simp only [Col.a, mkCat_den, mkPart_den ok ha, litD, Int.toNat_zero, List.drop_zero]
      · exact h3 i y (by simpa using hy)
    · cases h
  | [], .b _ :: _, _, h => by simp [splCols] at h
  | [], .i _ _ :: _, _, h => by simp [splCols] at h
  | .b _ :: _, [], _, h => by simp [splCols] at h
  | .i _ _ :: _, [], _, h => by simp [splCols] at h
  | .b _ :: _, .i _ _ :: _, _, h => by simp [splCols] at h
  | .i _ _ :: _, .b _ :: _, _, h => by simp [splCols] at h
theorem TabD.spl {e : Env} (ok : EnvOk e) {as : Asm} (ha : AsmOk e as) {n m j z u : IExp} {c d x : List Col} {vs ws : List Value} (h : TabD e n c vs) (k : TabD e m d ws) (hx : splCols as j z u c d = some x) (hj : 0 ≤ j.den e) (hz : z.den e = j.den e + m.den e) (hu : u.den e = n.den e - z.den e) (hle : z.den e ≤ n.den e) :
    TabD e n x (vs.take ((j.den e).toNat * c.length) ++ ws ++ vs.drop ((j.den e).toNat * c.length + ws.length)) := by
  obtain ⟨h1, h2, h3⟩ := splCols_ok ok ha hx
  have hn := h.n0
  have hm := k.n0
  have hlen : ∀ {a b : Col}, a ∈ c → b ∈ d → ((a.a.den e).take (j.den e).toNat ++ (b.a.den e ++ ((a.a.den e).drop (z.den e).toNat).take (u.den e).toNat)).length = (n.den e).toNat := by
    intro a b ha hb
    have := h.len a ha
    have := k.len b hb
    simp only [List.length_append, List.length_take, List.length_drop]
    omega
  refine ⟨hn, by rw [h1]; exact h.w, fun y hy => ?_, ?_⟩
  · obtain ⟨r, hr⟩ := List.mem_iff_getElem?.1 hy
    obtain ⟨a, b, ha, hb, hd, _⟩ := h3 r y hr
    rw [hd]; exact hlen (List.mem_of_getElem? ha) (List.mem_of_getElem? hb)
  · have hjn : (j.den e).toNat ≤ (n.den e).toNat := by omega
    have hwl : ws.length = (m.den e).toNat * c.length := by rw [k.length, h2]
    have hzz : (j.den e).toNat * c.length + ws.length = (z.den e).toNat * c.length := by rw [hwl, ← Nat.add_mul]; congr 1; omega
    rw [hzz, h.is, grid_take hjn, grid_drop (by omega), k.is, h1, h2]
    have hsplit : (n.den e).toNat = (j.den e).toNat + ((m.den e).toNat + ((n.den e).toNat - (z.den e).toNat)) := by omega
    conv => rhs; rw [hsplit]
    rw [grid_add, grid_add, List.append_assoc]
    have key : ∀ r, r < c.length → ∃ y a b, x[r]? = some y ∧ c[r]? = some a ∧ d[r]? = some b ∧ y.a.den e = (a.a.den e).take (j.den e).toNat ++ (b.a.den e ++ ((a.a.den e).drop (z.den e).toNat).take (u.den e).toNat) ∧ (∀ n, y.val n = a.val n) ∧ ∀ n, y.val n = b.val n := by
      intro r hr
      obtain ⟨a, b, q⟩ := h3 r _ (List.getElem?_eq_getElem (show r < x.length by omega))
      exact ⟨_, a, b, List.getElem?_eq_getElem (by omega), q⟩
    congr 1
    · refine grid_congr fun q r hq hr => ?_
      obtain ⟨y, a, b, y1, a1, b1, hd, va, vb⟩ := key r hr
      have la := h.len a (List.mem_of_getElem? a1)
      rw [tabF_of a1, tabF_of y1, va, hd]
      simp only [List.getD_eq_getElem?_getD]
      rw [List.getElem?_append_left (by rw [List.length_take]; omega), List.getElem?_take_of_lt hq]
    · congr 1
      · refine grid_congr fun q r hq hr => ?_
        obtain ⟨y, a, b, y1, a1, b1, hd, va, vb⟩ := key r hr
        have la := h.len a (List.mem_of_getElem? a1)
        have lb := k.len b (List.mem_of_getElem? b1)
        rw [tabF_of b1, tabF_of y1, vb, hd]
        simp only [List.getD_eq_getElem?_getD]
        rw [List.getElem?_append_right (by rw [List.length_take]; omega), List.length_take, la, Nat.min_eq_left hjn, Nat.add_sub_cancel_left, List.getElem?_append_left (by omega)]
      · refine grid_congr fun q r hq hr => ?_
        obtain ⟨y, a, b, y1, a1, b1, hd, va, vb⟩ := key r hr
        have la := h.len a (List.mem_of_getElem? a1)
        have lb := k.len b (List.mem_of_getElem? b1)
        rw [tabF_of a1, tabF_of y1, va, hd]
        simp only [List.getD_eq_getElem?_getD]
        rw [List.getElem?_append_right (by rw [List.length_take]; omega), List.length_take, la, Nat.min_eq_left hjn, List.getElem?_append_right (by omega), lb, List.getElem?_take_of_lt (by omega), List.getElem?_drop]
        congr 3
        omega
/-- All rows zero. -/
def zeroCols (c : IExp) : List Value → Option (List Col)
  | [] => some []
  | .int k n :: r => if n = 0 then (zeroCols c r).map (.i k (.zeros c) :: ·) else none
  | .bool b :: r => if b = false then (zeroCols c r).map (.b (.zeros c) :: ·) else none
  | _ => none
theorem zeroCols_ok {e : Env} {c : IExp} : ∀ {l : List Value} {cols : List Col}, zeroCols c l = some cols → cols.length = l.length ∧ ∀ (r : Nat) x, cols[r]? = some x → x.a = .zeros c ∧ l[r]? = some (x.val 0)
  | [], cols, h => by
    simp only [zeroCols, Option.some.injEq] at h
    subst h
    exact ⟨rfl, fun r x h => by simp at h⟩
  | v :: r, cols, h => by
    unfold zeroCols at h
    split at h
    · rename_i heq; cases heq
    · rename_i k n r' heq
      cases heq
      split at h
      · rename_i hn
        subst hn
        obtain ⟨q, hq, rfl⟩ := Option.map_eq_some_iff.1 h
        obtain ⟨h1, h2⟩ := zeroCols_ok (e := e) hq
        refine ⟨by simp [h1], fun i x hi => ?_⟩
        rcases i with _ | i
        · simp only [List.getElem?_cons_zero, Option.some.injEq] at hi
          subst hi
          exact ⟨rfl, rfl⟩
        · simpa using h2 i x (by simpa using hi)
      · cases h
    · rename_i b r' heq
      cases heq
      split at h
      · rename_i hn
        subst hn
        obtain ⟨q, hq, rfl⟩ := Option.map_eq_some_iff.1 h
        obtain ⟨h1, h2⟩ := zeroCols_ok (e := e) hq
        refine ⟨by simp [h1], fun i x hi => ?_⟩
        rcases i with _ | i
        · simp only [List.getElem?_cons_zero, Option.some.injEq] at hi
          subst hi
          exact ⟨rfl, rfl⟩
        · simpa using h2 i x (by simpa using hi)
      · cases h
    · cases h
theorem zeroCols_tab {e : Env} {c : IExp} {z : Array Value} {cols : List Col} (h : zeroCols c z.toList = some cols) (hz : 0 < z.size) (hc : 0 ≤ c.den e) : TabD e c cols (madeCells z ((c.den e).toNat * z.size)).toList := by
  obtain ⟨h1, h2⟩ := zeroCols_ok (e := e) h
  have hl : cols.length = z.size := by rw [h1]; simp
  refine ⟨hc, by omega, fun x hx => ?_, ?_⟩
  · obtain ⟨r, hr⟩ := List.mem_iff_getElem?.1 hx
    rw [(h2 r x hr).1]
    simp [AExp.den]
  · apply List.ext_getElem?
    intro x
    by_cases hx : x < (c.den e).toNat * z.size
    · have q1 : x / z.size < (c.den e).toNat := Nat.div_lt_of_lt_mul (by rwa [Nat.mul_comm] at hx)
      have q2 : x % z.size < z.size := Nat.mod_lt _ hz
      have q3 := Nat.div_add_mod x z.size
      rw [Nat.mul_comm] at q3
      have g := grid_get (F := tabF e cols) (w := cols.length) q1 (by rw [hl]; exact q2)
      rw [hl, q3] at g
      rw [hl, g]
      obtain ⟨k1, k2⟩ := h2 (x % z.size) _ (List.getElem?_eq_getElem (by rw [hl]; exact q2))
      rw [tabF_of (List.getElem?_eq_getElem (by rw [hl]; exact q2)), k1]
      have hm : (madeCells z ((c.den e).toNat * z.size)).toList[x]? = some z[x % z.size]! := by simp [madeCells, hx]
      rw [hm]
      have hg : ((AExp.zeros c).den e).getD (x / z.size) 0 = 0 := by
        simp only [AExp.den, List.getD_eq_getElem?_getD, List.getElem?_replicate, if_pos q1]; rfl
      rw [hg]
      have : z.toList[x % z.size]? = some z[x % z.size]! := by simp [q2]
      rw [this] at k2
      exact k2
    · rw [List.getElem?_eq_none (by simp [madeCells]; omega), hl]
      exact (grid_out (by omega)).symm
abbrev EffR := Tree ((Option SV × SHeap) × Asm)
def effAppend (P : Program) (ro : Nat) (as : Asm) (h : SHeap) (t : TypeId) (s x : Cell) : EffR :=
  match intElem P t, lenOfC as x with
  | some (el, k, byt), some m =>
    match s with
    | .sl none _ _ => (fork as (mkEq as m (.lit 0))).bind fun q =>
      (match q with
      | (v, as1) => if v then .leaf ((some (.c (.sl none (.lit 0) (some (.lit 0)))), h), as1) else
        match srcOf as1 h x m with
        | some (k', X) => if k' = k ∧ knowsLe as1 m (.lit (140737488355328 / byt)) = true then .leaf ((some (.c (.sl (some ⟨h.length, 0, none⟩) m none)), h ++ [some ([.row k X], el)]), as1) else .stop
        | none => .stop)
    | .sl (some a) n (some c) =>
      match sumI as n m, srcOf as h (.sl (some a) n (some c)) n, srcOf as h x m with
      | some need, some (k1, S), some (k2, X) =>
        if k1 = k ∧ k2 = k ∧ knowsLt as c need = true ∧ knowsLe as need (.lit (140737488355328 / byt)) = true then .leaf ((some (.c (.sl (some ⟨h.length, 0, none⟩) need none)), h ++ [some ([.row k (mkCat S X)], el)]), as) else .stop
      | _, _, _ => .stop
    | .sl (some a) n none =>
      match sumI as n m, h[a.b]?, srcOf as h x m, a.ix with
      | some need, some (some ([.row k1 A], _)), some (k2, X), none =>
        if a.off = 0 ∧ ro ≤ a.b ∧ k1 = k ∧ k2 = k ∧ geZ (n.rng as) = true ∧ knowsLe as n (mkLen as A) = true ∧ knowsLe as need (.lit (140737488355328 / byt)) = true then
          .leaf ((some (.c (.sl (some ⟨h.length, 0, none⟩) need none)), h.set a.b none ++ [some ([.row k (mkCat (mkPart as A (.lit 0) n) X)], el)]), as)
        else .stop
      | _, _, _, _ => .stop
    | _ => .stop
  | _, _ => .stop
def effAppendT (P : Program) (ro : Nat) (as : Asm) (h : SHeap) (t : TypeId) (s x : Cell) : EffR :=
  match structElem P t, lenOfC as x with
  | some (el, w, byt), some m =>
    match s with
    | .sl none _ _ => (fork as (mkEq as m (.lit 0))).bind fun q =>
      (match q with
      | (v, as1) => if v then .leaf ((some (.c (.sl none (.lit 0) (some (.lit 0)))), h), as1) else
        match (srcT as1 h w x m).bind (catT as1 w []) with
        | some l => if knowsLe as1 m (.lit (140737488355328 / byt)) = true then .leaf ((some (.c (.sl (some ⟨h.length, 0, some (.lit 0, w)⟩) m none)), h ++ [some (l, el)]), as1) else .stop
        | none => .stop)
    | .sl (some a) n (some c) =>
      match sumI as n m, srcT as h w (.sl (some a) n (some c)) n, srcT as h w x m with
      | some need, some S, some X =>
        match catT as w S X with
        | some l => if knowsLt as c need = true ∧ knowsLe as need (.lit (140737488355328 / byt)) = true then .leaf ((some (.c (.sl (some ⟨h.length, 0, some (.lit 0, w)⟩) need none)), h ++ [some (l, el)]), as) else .stop
        | none => .stop
      | _, _, _ => .stop
    | .sl (some a) n none =>
      match sumI as n m, srcT as h w (.sl (some a) n none) n, srcT as h w x m, a.ix with
      | some need, some S, some X, some (.lit q, w') =>
        match catT as w S X with
        | some l => if q = 0 ∧ w' = w ∧ a.off = 0 ∧ ro ≤ a.b ∧ ((h[a.b]?).getD none).isSome = true ∧ geZ (n.rng as) = true ∧ knowsLe as need (.lit (140737488355328 / byt)) = true then
          .leaf ((some (.c (.sl (some ⟨h.length, 0, some (.lit 0, w)⟩) need none)), h.set a.b none ++ [some (l, el)]), as)
          else .stop
        | none => .stop
      | _, _, _, _ => .stop
    | _ => .stop
  | _, _ => .stop
def effAppend' (P : Program) (ro : Nat) (as : Asm) (h : SHeap) (t : TypeId) (s x : Cell) : EffR :=
  match intElem P t with
  | some _ => effAppend P ro as h t s x
  | none => effAppendT P ro as h t s x
def effCopy (P : Program) (ro : Nat) (as : Asm) (h : SHeap) (t : TypeId) (d x : Cell) : EffR :=
  match P.underlying t, d, lenOfC as x with
  | some (.slice el), .sl (some a) n _, some m =>
    match P.info? el with
    | some ie =>
      if ie.size = 1 ∧ ro ≤ a.b then
        (fork as (mkLe as m n)).bind fun q =>
          let c := if q.1 then m else n
          if isZ c then .leaf ((some (.c (.i .i64 (.lit 0))), h), q.2) else
          match srcOf q.2 h x c, h[a.b]?, a.start with
          | some (k, X), some (some (l, bt)), some (off, j) =>
            match spliceS q.2 l off j k X with
            | some l' => .leaf ((some (.c (.i .i64 c)), h.set a.b (some (l', bt))), q.2)
            | none => .stop
          | _, _, _ => .stop
      else .stop
    | none => .stop
  | _, _, _ => .stop
def effMake (P : Program) (as : Asm) (h : SHeap) (t : TypeId) (n c : IExp) : EffR :=
  match intElem P t with
  | some (el, k, byt) =>
    if knowsLe as (.lit 0) n && knowsLe as n c && knowsLe as c (.lit (281474976710656 / byt)) then
      .leaf ((some (.c (.sl (some ⟨h.length, 0, none⟩) n (some c))), h ++ [some ([.row k (.zeros c)], el)]), as)
    else .stop
  | none =>
    match P.underlying t, isLit n, isLit c with
    | some (.slice el), some n', some c' =>
      match P.info? el with
      | some ie => match ie.zero with
        | some z =>
          if 0 ≤ n' ∧ n' ≤ c' ∧ c' ≤ 4096 ∧ (ie.bytes : Int) * c' ≤ 281474976710656 ∧ ie.size = z.cells.size then
            match initSegs z (c'.toNat * ie.size) with
            | some l => .leaf ((some (.c (.sl (some ⟨h.length, 0, none⟩) (.lit n') (some (.lit c')))), h ++ [some (l, el)]), as)
            | none => .stop
          else .stop
        | none => .stop
      | none => .stop
    | _, _, _ => .stop
def effCopyT (P : Program) (ro : Nat) (as : Asm) (h : SHeap) (t : TypeId) (d x : Cell) : EffR :=
  match structElem P t, d, lenOfC as x with
  | some (_, w, _), .sl (some a) n _, some m =>
    if ro ≤ a.b then
      (fork as (mkLe as m n)).bind fun q =>
        let c := if q.1 then m else n
        if isZ c then .leaf ((some (.c (.i .i64 (.lit 0))), h), q.2) else
        match (srcT q.2 h w x c).bind (asTab q.2 w), h[a.b]?, tabPos w a with
        | some (cn, xc), some (some ([.tab N cols], bt)), some (j, off) =>
          match sumI q.2 j cn with
          | some z => (match lessI q.2 N z with
            | some u => if off = 0 ∧ cols.length = w ∧ geZ (j.rng q.2) = true ∧ knowsLe q.2 z N = true then
                (match splCols q.2 j z u cols xc with
                | some c' => .leaf ((some (.c (.i .i64 c)), h.set a.b (some ([.tab N c'], bt))), q.2)
                | none => .stop) else .stop
            | none => .stop)
          | none => .stop
        | _, _, _ => .stop
    else .stop
  | _, _, _ => .stop
def effCopy' (P : Program) (ro : Nat) (as : Asm) (h : SHeap) (t : TypeId) (d x : Cell) : EffR :=
  match intElem P t with
  | some _ => effCopy P ro as h t d x
  | none => effCopyT P ro as h t d x
def effMakeT (P : Program) (as : Asm) (h : SHeap) (t : TypeId) (n c : IExp) : Option ((Option SV × SHeap) × Asm) :=
  match structElem P t with
  | some (el, _, byt) =>
    (match P.info? el with
    | some ie => (match ie.zero with
      | some z => (match zeroCols c z.cells.toList with
        | some cols => if knowsLe as (.lit 0) n && knowsLe as n c && knowsLe as c (.lit (281474976710656 / byt)) then
            some ((some (.c (.sl (some ⟨h.length, 0, none⟩) n (some c))), h ++ [some ([.tab c cols], el)]), as) else none
        | none => none)
      | none => none)
    | none => none)
  | none => none
def effMake' (P : Program) (as : Asm) (h : SHeap) (t : TypeId) (n c : IExp) : EffR :=
  match intElem P t with
  | some _ => effMake P as h t n c
  | none => (match effMakeT P as h t n c with
    | some r => .leaf r
    | none => effMake P as h t n c)
def oLeaf (as : Asm) : Option (Option SV × SHeap) → EffR
  | some r => .leaf (r, as)
  | none => .stop

def seff (P : Program) (G ro : Nat) (tmps : Tm) (as : Asm) (h : SHeap) (op : Op) : EffR :=
  match op with
  | .alloc t => oLeaf as ((zeroSegs P t).map fun l => (some (.c (.p (some ⟨h.length, 0, none⟩))), h ++ [some (l, t)]))
  | .box t x => oLeaf as ((asSV (seval G tmps x)).map fun sv => (some (.c (.p (some ⟨h.length, 0, none⟩))), h ++ [some (sv.segs, t)]))
  | .store t x y =>
    match asCell (seval G tmps x), asSV (seval G tmps y), P.info? t with
    | some (.p (some a)), some sv, some i =>
      if some i.size = segsLen sv.segs ∧ ro ≤ a.b then
        match h[a.b]? with
        | some (some (l, bt)) =>
          match storeT as l a sv.segs with
          | some l' => .leaf ((none, h.set a.b (some (l', bt))), as)
          | none =>
          match a.ix, sv with
          | none, .c v => oLeaf as ((write1 as l a.off v).map fun l' => (none, h.set a.b (some (l', bt))))
          | none, .agg s => oLeaf as ((writeSegs as l a.off s).map fun l' => (none, h.set a.b (some (l', bt))))
          | some (ie, n), .c v => oLeaf as ((writeIx as l a.off ie n v).map fun l' => (none, h.set a.b (some (l', bt))))
          | _, _ => .stop
        | _ => .stop
      else .stop
    | _, _, _ => .stop
  | .buildSlice t len parts =>
    match P.underlying t, evalParts G tmps parts.toList with
    | some (.slice el), some ps =>
      match P.info? el with
      | some ie =>
        match ie.zero with
        | some z =>
          if len = 0 ∧ parts.size = 0 then oLeaf as (some (some (.c (.sl (some ⟨h.length, 0, none⟩) (.lit 0) (some (.lit 0)))), h ++ [some ([], el)])) else
          if len * ie.size > 2 ^ 24 ∨ len * ie.size = 0 then .stop
          else
            match initSegs z (len * ie.size) with
            | some l => oLeaf as ((sfill as (fun i => some (i * ie.size, ie.size)) l ps).map fun l' => (some (.c (.sl (some ⟨h.length, 0, none⟩) (.lit len) (some (.lit len)))), h ++ [some (l', el)]))
            | none => .stop
        | none => .stop
      | none => .stop
    | _, _ => .stop
  | .makeSlice t l c =>
    match evalI G tmps l, evalI G tmps c with
    | some n, some m => effMake' P as h t n m
    | _, _ => .stop
  | .convert s d x =>
    match asCell (seval G tmps x), P.underlying s, P.underlying d with
    | some c, some (.slice el), some .string =>
      match P.underlying el, lenOfC as c with
      | some (.int .u8), some n => match c, srcOf as h c n with
        | .sl _ _ _, some (.u8, A) => .leaf ((some (.c (.s A)), h), as)
        | _, _ => .stop
      | _, _ => .stop
    | some (.sl (some a) n cap), some (.slice el), some (.slice _) =>
      match P.underlying el, h[a.b]? with
      | some (.int .u8), some (some _) => if s = d ∧ ro ≤ a.b ∧ knowsLt as (.lit 0) n = true then .leaf ((some (.c (.sl (some a) n cap)), h), as) else .stop
      | _, _ => .stop
    | _, _, _ => .stop
  | .call c =>
    match c.callee, c.args.toList, c.argTypes.toList with
    | .builtin .append, [o, q], [t, u] =>
      match P.underlying u, asCell (seval G tmps o), asCell (seval G tmps q) with
      | some (.slice _), some s, some x => effAppend' P ro as h t s x
      | some .string, some s, some x => effAppend P ro as h t s x
      | _, _, _ => .stop
    | .builtin .copy, [o, q], [t, _] =>
      match asCell (seval G tmps o), asCell (seval G tmps q) with
      | some d, some x => effCopy' P ro as h t d x
      | _, _ => .stop
    | _, _, _ => .stop
  | _ => .stop

def OptD (e : Env) (ρ : Rho) : Option SV → Next → Prop
  | some x, n => ∃ V, n = .value V ∧ x.D e ρ V
  | none, n => n = .skip

/-- An empty list. -/
theorem run_buildSlice0 {P : Program} (w : World) (t el : TypeId) (parts : Array (Nat × Operand)) (ev : Operand → Value) (ie : TypeInfo) (hu : P.underlying t = some (.slice el)) (hie : P.info? el = some ie) (hp : parts.size = 0) :
    (Instr.buildSlice t 0 (parts.map fun (i, x) => (i, ev x))).run P w = .ok (.slice (some ⟨w.heap.size, 0, none⟩) 0 0) (w.alloc (.cells #[] el)) := by
  have : parts = #[] := Array.eq_empty_of_size_eq_zero hp
  subst this
  have h0 : Array.map (fun x : Nat => (default : Value)) (Array.range 0) = #[] := Array.eq_empty_of_size_eq_zero (by simp)
  simp [Instr.buildSlice, run_underlying hu, sizeOf, typeInfo, hie, Instr.fill, newRow]
  rw [h0]
/-- A block is marked behind its last cell. -/
theorem freeze_end (W : World) (b : Nat) (cs : Array Value) (u : TypeId) (fz : Nat × Nat) (hW : W.heap[b]? = some (.cells cs u fz)) (hth : Thaw cs fz) :
    ∃ fz', (W.freeze ⟨b, cs.size, none⟩ 1).heap[b]? = some (.cells cs u fz') ∧ Thaw cs fz' ∧ (W.freeze ⟨b, cs.size, none⟩ 1).os = W.os ∧ (W.freeze ⟨b, cs.size, none⟩ 1).tape = W.tape ∧ (W.freeze ⟨b, cs.size, none⟩ 1).output = W.output ∧ (W.freeze ⟨b, cs.size, none⟩ 1).heap.size = W.heap.size ∧ ∀ k, k ≠ b → (W.freeze ⟨b, cs.size, none⟩ 1).heap[k]? = W.heap[k]? := by
  have hlt : b < W.heap.size := (Array.getElem?_eq_some_iff.1 hW).1
  have hv : W.heap[b] = .cells cs u fz := (Array.getElem?_eq_some_iff.1 hW).2
  obtain ⟨lo, hi⟩ := fz
  refine ⟨if lo == hi then (cs.size, cs.size + 1) else (min lo cs.size, max hi (cs.size + 1)), ?_, ?_, ?_, ?_, ?_, ?_, fun k hk => ?_⟩
  · unfold World.freeze
    rw [if_neg (by decide), Array.getElem?_eq_getElem (by simpa using hlt), Array.getElem_modify]
    simp [hv]
  · unfold Thaw at hth ⊢
    refine .inr ?_
    split
    · exact Nat.le_refl _
    · rename_i hne
      rcases hth with h | h
      · cases h; exact absurd (by decide) hne
      · exact Nat.le_min.2 ⟨h, Nat.le_refl _⟩
  · unfold World.freeze; rw [if_neg (by decide)]
  · unfold World.freeze; rw [if_neg (by decide)]
  · unfold World.freeze; rw [if_neg (by decide)]
  · unfold World.freeze; rw [if_neg (by decide)]; simp
  · unfold World.freeze
    rw [if_neg (by decide)]
    simp only
    rcases Nat.lt_or_ge k W.heap.size with h | h
    · rw [Array.getElem?_eq_getElem (by simpa using h), Array.getElem_modify, if_neg (by omega), Array.getElem?_eq_getElem h]
    · rw [Array.getElem?_eq_none (by simpa using h), Array.getElem?_eq_none h]
theorem run_convert_same {P : Program} (W : World) (t el : TypeId) (ht : P.underlying t = some (.slice el)) (he : P.underlying el = some (.int .u8)) (b o n c : Nat) (cs : Array Value) (u : TypeId) (fz : Nat × Nat) (hW : W.heap[b]? = some (.cells cs u fz)) :
    (convert t t (.slice (some ⟨b, o, none⟩) n c)).run P W = .ok (.slice (some ⟨b, o, none⟩) n c) (W.freeze ⟨b, cs.size, none⟩ 1) := by
  have hsh : W.shape? b = some (u, cs.size) := by
    unfold World.shape?
    rw [hW]
  simp [convert, run_underlying ht, run_underlying he, markStringish, hsh]
theorem run_u {P : Program} {s : Sem Unit} {w w' : World} (h : s.run P w = .ok () w') : (do s; pure Next.skip : Sem Next).run P w = .ok .skip w' := by
  rw [Sem.run_bind, h]; rfl

theorem new_get {e : Env} {ov : Nat} {ρ : Rho} {h : SHeap} {W : World} (hr : HRel e ov ρ h W) (x : Nat × Nat × Nat) : (ρ ++ [x])[h.length]? = some x := by
  rw [hr.len, List.getElem?_append_right (Nat.le_refl _)]; simp
theorem new_ad {e : Env} {ov : Nat} {ρ : Rho} {h : SHeap} {W : World} (hr : HRel e ov ρ h W) (b o r : Nat) : Ad.D e (ρ ++ [(b, o, r)]) ⟨h.length, 0, none⟩ ⟨b, o, none⟩ :=
  ⟨b, o, r, new_get hr _, rfl⟩
theorem oLeaf_inv {e : Env} {as as' : Asm} {o : Option (Option SV × SHeap)} {x : Option SV × SHeap} (h : (oLeaf as o).pick e = some (x, as')) : o = some x ∧ as' = as := by
  cases o with
  | none => cases h
  | some y => have := leaf_inv h; cases this; exact ⟨rfl, rfl⟩

/-- What an effect leaves. -/
def EffOk (P : Program) (e : Env) (ov ro : Nat) (ρ : Rho) (W : World) (s : Sem Next) (x : Option SV) (h' : SHeap) (as' : Asm) : Prop :=
  ∃ N ρ' W', s.run P W = .ok N W' ∧ OptD e ρ' x N ∧ Post e ov ro ρ W ρ' h' W' ∧ AsmOk e as'

section eff
variable {e : Env} (ok : EnvOk e) {P : Program} {ov ro : Nat} (hov : ov ≤ ro) {ρ : Rho}

include ok in
/-- The source's numbers lie there. -/
theorem rowOf_ok {as : Asm} (ha : AsmOk e as) {h : SHeap} {W : World} (hr : HRel e ov ρ h W) {a : Ad} {n : IExp} {k : IntKind} {A : AExp} (hs : rowOf as h a n = some (k, A)) :
    0 ≤ n.den e ∧ (A.den e).length = (n.den e).toNat ∧ ∃ b o r, ρ[a.b]? = some (b, o, r) ∧ ∀ W', Stay ρ h W W' → ∀ Ad', Ad.D e ρ a Ad' → ∀ j v, ((A.den e).map (Value.int k))[j]? = some v → W'.cell? (Ad'.add j) = some v := by
  unfold rowOf at hs
  split at hs
  · rename_i l bt off j hblk hst
    obtain ⟨b, o, r, vs, hb, hat, hseg⟩ := hr.blk _ _ _ hblk
    obtain ⟨cs, tt, fz, pre, rest, hW, hth, hcs, hpre, hrm⟩ := hat.ex
    obtain ⟨h1, h2, h3, h4⟩ := region_ok ok ha hseg hs
    refine ⟨h2, ?_, b, o, r, hb, fun W' hstay Ad' hD => ?_⟩
    · have := congrArg List.length h4
      simp at this; omega
    · obtain ⟨rfl, _⟩ := Ad.at' hD hb
      have hW' : W'.heap[b]? = some (.cells cs tt fz) := by
        have := hstay a.b (b, o, r) ⟨_, hblk⟩ hb
        simp only at this
        rw [this, hW]
      rw [Ad.start_pos hst h1, ← h4]
      exact cells_at hW' hcs hpre
  · cases hs
theorem Stay.refl (ρ : Rho) (h : SHeap) (W : World) : Stay ρ h W W := fun _ _ _ _ => rfl
theorem Stay.drew (ρ : Rho) (h : SHeap) (W : World) : Stay ρ h W W.drew := fun _ _ _ _ => rfl

theorem size_ints (l : List Int) : (strOf l).data.map (fun b => Value.int .u8 b.toNat) = ((ints (strOf l)).map (Value.int .u8)).toArray := by
  apply Array.ext'
  simp [ints, List.map_map, Function.comp_def]
include ok in
/-- The source as what copy and append read. -/
theorem srcOf_ok {as : Asm} (ha : AsmOk e as) {h : SHeap} {W : World} (hr : HRel e ov ρ h W) {x : Cell} {n : IExp} {k : IntKind} {A : AExp} {X : Value} (hX : x.D e ρ X) (hle : ∀ m, lenOfC as x = some m → n.den e ≤ m.den e) (hs : srcOf as h x n = some (k, A)) :
    0 ≤ n.den e ∧ (A.den e).length = (n.den e).toNat ∧ ∀ W', Stay ρ h W W' → (Builtin.firstCells 1 (n.den e).toNat X).run P W' = .ok ((A.den e).map (Value.int k)).toArray W' := by
  unfold srcOf at hs
  split at hs
  · rename_i a len cap
    split at hs
    · rename_i hz
      cases hs
      obtain ⟨oo, nn, cc, rfl, hn, hnc, hoo⟩ := hX
      rw [isZ_eq hz, litD]
      refine ⟨Int.le_refl _, rfl, fun W' _ => ?_⟩
      cases oo with
      | none => exact run_firstCells_none (P := P) W' _ _ _ _
      | some q => exact run_firstCells_some (P := P) W' 1 0 q nn cc [] rfl (fun j v hj => by simp at hj)
    · obtain ⟨h1, h2, b, o, r, hb, h3⟩ := rowOf_ok ok ha hr hs
      obtain ⟨oo, nn, cc, rfl, hn, hnc, hoo⟩ := hX
      have hl := hle len rfl
      refine ⟨h1, h2, fun W' hst => ?_⟩
      rcases hoo with ⟨Ad', hD, rfl, _⟩ | ⟨h4, h5, _⟩
      · exact run_firstCells_some (P := P) W' 1 _ Ad' nn cc _ (by simp [h2]) (h3 W' hst Ad' hD)
      · have h0 : (n.den e).toNat = 0 := by omega
        have hA : A.den e = [] := List.length_eq_zero_iff.1 (by omega)
        rw [h0, hA]
        cases oo with
        | none => exact run_firstCells_none (P := P) W' _ _ _ _
        | some q => exact run_firstCells_some (P := P) W' 1 0 q nn cc [] rfl (fun j v hj => by simp at hj)
  · rename_i len cap
    split at hs
    · rename_i hz
      cases hs
      obtain ⟨rfl, _⟩ := hX
      rw [isZ_eq hz, litD]
      exact ⟨Int.le_refl _, rfl, fun W' _ => run_firstCells_none (P := P) W' _ _ _ _⟩
    · cases hs
  · rename_i a
    split at hs
    · rename_i hc
      cases hs
      simp only [Bool.and_eq_true] at hc
      have g1 := geZ_ok hc.1.2 (IExp.rng_ok ok ha n)
      have g2 := knowsLe_ok ok ha hc.2
      rw [mkLen_den ok ha] at g2
      have hin := AExp.inK_ok ok ha _ _ hc.1.1
      cases hX
      refine ⟨g1, ?_, fun W' _ => ?_⟩
      · rw [mkPart_den ok ha, litD]; simp; omega
      · simp only [Builtin.firstCells, Sem.run_pure]
        congr 1
        have e1 : (strOf (a.den e)).extract 0 (n.den e).toNat = strOf ((a.den e).take (n.den e).toNat) := by
          apply ByteArray.ext
          simp [strOf, ByteArray.data_extract, List.extract_toArray, List.extract_eq_take_drop, List.map_take]
        rw [e1, size_ints, ints_strOf (fun z hz => hin z (List.mem_of_mem_take hz)), mkPart_den ok ha, litD]
        simp
    · cases hs
  · cases hs
include ok in
theorem lenOfC_run {as : Asm} (ha : AsmOk e as) {x : Cell} {m : IExp} {X : Value} (hX : x.D e ρ X) (h : lenOfC as x = some m) : 0 ≤ m.den e ∧ ∀ w, (Builtin.lenOf X).run P w = .ok (m.den e).toNat w := by
  unfold lenOfC at h
  split at h
  · rename_i a n cap
    cases h
    cases a with
    | none => obtain ⟨rfl, h1, _⟩ := hX; exact ⟨by omega, fun w => by simp [Builtin.lenOf, h1]⟩
    | some a => obtain ⟨o, n', c', rfl, h1, _⟩ := hX; exact ⟨by omega, fun w => by simp [Builtin.lenOf, ← h1]⟩
  · rename_i a
    cases h
    cases hX
    rw [mkLen_den ok ha]
    exact ⟨by omega, fun w => by simp [Builtin.lenOf, strOf_size]⟩
  · cases h

include ok in
theorem lenOfC_same {as as' : Asm} (ha : AsmOk e as) (ha' : AsmOk e as') {x : Cell} {m m' : IExp} (h : lenOfC as x = some m) (h' : lenOfC as' x = some m') : m.den e = m'.den e := by
  cases x <;> simp only [lenOfC, Option.some.injEq, reduceCtorEq] at h h'
  · rw [← h, ← h', mkLen_den ok ha, mkLen_den ok ha']
  · rw [← h, ← h']
theorem grownCap_ge' (w : World) (need old : Nat) (t : TypeId) : need ≤ grownCap w need old t := grownCap_ge w need old t

/-- append where the capacity does not do. -/
theorem run_append_new (w : World) (t u ty el : TypeId) (k : IntKind) (byt : Nat) (hel : intElem P t = some (el, k, byt)) (hu : P.underlying u = some .string ∨ ∃ e', P.underlying u = some (.slice e'))
    (base : Option Addr) (sLen sCap n : Nat) (x : Value) (olds news : List Value) (hlen : ∀ w, (Builtin.lenOf x).run P w = .ok n w)
    (hold : (Builtin.firstCells 1 sLen (.slice base sLen sCap)).run P w.drew = .ok olds.toArray w.drew) (hnew : (Builtin.firstCells 1 n x).run P w.drew = .ok news.toArray w.drew)
    (hg : sCap < sLen + n) (hb : (sLen + n) * byt ≤ 140737488355328) :
    (Builtin.append_ #[t, u] ty #[.slice base sLen sCap, x]).run P w =
      .ok (.slice (some ⟨w.heap.size, 0, none⟩) (sLen + n) (grownCap w (sLen + n) sCap el))
        (w.drew.alloc (.cells (olds.toArray ++ news.toArray ++ Builtin.zeroCells #[.int k 0] (grownCap w (sLen + n) sCap el - (sLen + n))) el)) := by
  obtain ⟨h1, h2, hb0, ie, z, h3, h4, h5, h6, h7⟩ := intElem_ok hel
  subst h7
  have hfit := growslice_fits hg hb
  have hn : ¬ (sLen + n ≤ sCap) := by omega
  have hle : sLen + n ≤ (sLen + n) * ie.bytes := Nat.le_mul_of_pos_right _ hb0
  have h63' : ¬ (9223372036854775807 < ((sLen : Int) + (n : Int))) := by omega
  have h48' : ¬ (281474976710656 < Builtin.nextslicecap (sLen + n) sCap * ie.bytes) := by omega
  rcases hu with hu | ⟨e', hu⟩
  all_goals
    simp [Builtin.append_, run_underlying h1, run_underlying hu, sizeOf, typeInfo, zeroValue, h3, h4, h5, h6, hlen, hn, h63', h48', Question.forced, hold, hnew, newRow, grownCap]
    congr 2
    apply Array.ext'
    simp [List.append_assoc]
/-- append in place. -/
theorem run_append_in (w w' : World) (t u ty el : TypeId) (k : IntKind) (byt : Nat) (hel : intElem P t = some (el, k, byt)) (hu : P.underlying u = some .string ∨ ∃ e', P.underlying u = some (.slice e'))
    (base : Option Addr) (sLen sCap n : Nat) (x : Value) (news : List Value) (hlen : ∀ w, (Builtin.lenOf x).run P w = .ok n w)
    (hnew : (Builtin.firstCells 1 n x).run P w = .ok news.toArray w)
    (hst : ∀ a, base = some a → (storeCells (a.add sLen) news).run P w = .ok () w') (hno : base = none → w' = w)
    (hg : sLen + n ≤ sCap) :
    (Builtin.append_ #[t, u] ty #[.slice base sLen sCap, x]).run P w = .ok (.slice base (sLen + n) sCap) w' := by
  obtain ⟨h1, h2, hb0, ie, z, h3, h4, h5, h6, h7⟩ := intElem_ok hel
  rcases hu with hu | ⟨e', hu⟩
  all_goals
    cases base with
    | none =>
      have := hno rfl
      subst this
      simp [Builtin.append_, run_underlying h1, run_underlying hu, sizeOf, typeInfo, h3, h5, hlen, hg, hnew]
    | some a =>
      have := hst a rfl
      simp [Builtin.append_, run_underlying h1, run_underlying hu, sizeOf, typeInfo, h3, h5, hlen, hg, hnew, this]
theorem zeroCells_size (v : Value) (n : Nat) : (Builtin.zeroCells #[v] n).size = n := by simp [Builtin.zeroCells]

include ok hov in
theorem effAppend_ok {as as' : Asm} (ha : AsmOk e as) {h h' : SHeap} {W : World} (hr : HRel e ov ρ h W) {t u ty : TypeId} {s x : Cell} {S X : Value} {y : Option SV} (hS : s.D e ρ S) (hX : x.D e ρ X)
    (hu : P.underlying u = some .string ∨ ∃ e', P.underlying u = some (.slice e')) (hs : (effAppend P ro as h t s x).pick e = some ((y, h'), as')) :
    ∃ V ρ' W', (Builtin.append_ #[t, u] ty #[S, X]).run P W = .ok V W' ∧ (∃ sv, y = some sv ∧ sv.D e ρ' V) ∧ Post e ov ro ρ W ρ' h' W' ∧ AsmOk e as' := by
  unfold effAppend at hs
  split at hs
  · rename_i el k byt m hel hm
    obtain ⟨m0, hlen⟩ := lenOfC_run ok (P := P) ha hX hm
    have byt0 := (intElem_ok hel).2.2.1
    have fits : ∀ {need : Nat} {q : Asm} {z : IExp}, AsmOk e q → knowsLe q z (.lit (140737488355328 / (byt : Int))) = true → (need : Int) = z.den e → need * byt ≤ 140737488355328 := by
      intro need q z hq hk hz
      have := knowsLe_ok ok hq hk
      rw [litD, ← hz] at this
      have h1 : (need : Int) * byt ≤ 140737488355328 / (byt : Int) * byt := Int.mul_le_mul_of_nonneg_right this (by omega)
      have h2 : (140737488355328 : Int) / (byt : Int) * byt ≤ 140737488355328 := Int.ediv_mul_le _ (by omega)
      have h3 : ((need * byt : Nat) : Int) = (need : Int) * byt := by push_cast; rfl
      omega
    have grown : ∀ (h1 : SHeap) (hr1 : HRel e ov ρ h1 W) (need sCap : Nat) (A : AExp) (rest : List Value) (cs : Array Value), h1.length = h.length → cs.toList = (A.den e).map (.int k) ++ rest → cs.size = grownCap W need sCap el →
        Post e ov ro ρ W (ρ ++ [(W.heap.size, 0, grownCap W need sCap el)]) (h1 ++ [some ([.row k A], el)]) (W.drew.alloc (.cells cs el)) := by
      intro h1 hr1 need sCap A rest cs _ hcs hsz
      have p1 : Post e ov ro ρ W ρ h1 W.drew := Post.drew hr1 (W.drawn + 1)
      have p2 := Post.alloc (ro := ro) (t := el) (u := el) p1.rel (l := [.row k A]) (r := grownCap W need sCap el) hcs ⟨[], by simp, rfl⟩ (by rw [hsz]; exact Nat.le_refl _)
      exact p1.trans p2
    split at hs
    · -- a nil slice
      obtain ⟨rfl, _⟩ := hS
      obtain ⟨⟨q, as1⟩, h1, h2⟩ := Tree.pick_bind hs
      have hf := fork_ok ok ha h1
      rw [mkEq_den ok ha, litD] at hf
      cases q with
      | true =>
        simp only [if_true] at h2
        have h2 := leaf_inv h2
        cases h2
        have hm0 := of_decide_eq_true hf.1
        have hn0 : (m.den e).toNat = 0 := by omega
        rw [hn0] at hlen
        have hfc : (Builtin.firstCells 1 0 X).run P W = .ok (([] : List Value)).toArray W := by
          have hx := lenOfC_run ok (P := P) ha hX hm
          unfold lenOfC at hm
          split at hm
          · rename_i a n cap
            cases a with
            | none => obtain ⟨rfl, _⟩ := hX; exact run_firstCells_none (P := P) W _ _ _ _
            | some a =>
              obtain ⟨o, n', c', rfl, _⟩ := hX
              cases o with
              | none => exact run_firstCells_none (P := P) W _ _ _ _
              | some q => exact run_firstCells_some (P := P) W 1 0 q n' c' [] rfl (fun j v hj => by simp at hj)
          · cases hX
            simp [Builtin.firstCells]
          · cases hm
        refine ⟨_, ρ, W, run_append_in W W t u ty el k byt hel hu none 0 0 0 X [] hlen hfc (fun a h => by cases h) (fun _ => rfl) (by omega), ⟨_, rfl, ?_⟩, Post.refl hr, hf.2⟩
        exact ⟨rfl, rfl, _, rfl, rfl⟩
      | false =>
        simp only [Bool.false_eq_true, if_false] at h2
        have hm0 := of_decide_eq_false hf.1
        split at h2
        · rename_i k' A hsrc
          split at h2
          · rename_i hc
            obtain ⟨rfl, hk⟩ := hc
            have h2 := leaf_inv h2
            cases h2
            obtain ⟨_, s2, s3⟩ := srcOf_ok ok hf.2 hr hX (fun z hz => Int.le_of_eq (lenOfC_same ok ha hf.2 hm hz)) hsrc
            have hb := fits (need := (m.den e).toNat) hf.2 hk (by omega)
            have hrun := run_append_new W t u ty el k' byt hel hu none 0 0 (m.den e).toNat X [] ((A.den e).map (Value.int k')) hlen (run_firstCells_none (P := P) W.drew _ _ _ _) (s3 _ (Stay.drew _ _ _)) (by omega) (by simpa using hb)
            refine ⟨_, _, _, hrun, ⟨_, rfl, ?_⟩, grown h hr (0 + (m.den e).toNat) 0 A _ _ rfl (by simp; rfl) ?_, hf.2⟩
            · refine ⟨_, _, _, rfl, by omega, by have := grownCap_ge' W (0 + (m.den e).toNat) 0 el; omega, .inl ⟨_, new_ad hr _ _ _, rfl, ?_⟩⟩
              exact ⟨_, _, _, new_get hr _, Nat.mul_one _⟩
            · have := grownCap_ge' W (0 + (m.den e).toNat) 0 el
              simp [zeroCells_size, s2] at this ⊢; omega
          · cases h2
        · cases h2
    · -- a known capacity
      rename_i a n c
      split at hs
      · rename_i need k1 S1 k2 A hneed hrow hsrc
        split at hs
        · rename_i hc
          obtain ⟨rfl, rfl, hcap, hk⟩ := hc
          have h2 := leaf_inv hs
          cases h2
          have hneed := sumI_ok ok ha hneed
          have hcap := knowsLt_ok ok ha hcap
          obtain ⟨_, s2, s3⟩ := srcOf_ok ok ha hr hX (fun z hz => by rw [hm] at hz; cases hz; exact Int.le_refl _) hsrc
          obtain ⟨r1, r2, r3⟩ := srcOf_ok ok ha hr (x := .sl (some a) n (some c)) (n := n) hS (fun z hz => by cases hz; exact Int.le_refl _) hrow
          obtain ⟨o, n', c', rfl, hn, hnc, ho⟩ := hS
          have hcx : (c' : Int) = c.den e := by
            rcases ho with ⟨_, _, _, h5⟩ | ⟨h4, h5, h6⟩
            · exact h5
            · rw [h6 c rfl, h5]; rfl
          have hn2 : (n.den e).toNat = n' := by omega
          rw [hn2] at r2 r3
          have hb := fits (need := n' + (m.den e).toNat) ha hk (by omega)
          have hrun := run_append_new W t u ty el k2 byt hel hu o n' c' (m.den e).toNat X ((S1.den e).map (Value.int k2)) ((A.den e).map (Value.int k2)) hlen (r3 _ (Stay.drew _ _ _)) (s3 _ (Stay.drew _ _ _)) (by omega) hb
          refine ⟨_, _, _, hrun, ⟨_, rfl, ?_⟩, grown h hr (n' + (m.den e).toNat) c' (mkCat S1 A) _ _ rfl (by simp [mkCat_den]; rfl) ?_, ha⟩
          · refine ⟨_, _, _, rfl, by omega, by have := grownCap_ge' W (n' + (m.den e).toNat) c' el; omega, .inl ⟨_, new_ad hr _ _ _, rfl, ?_⟩⟩
            exact ⟨_, _, _, new_get hr _, Nat.mul_one _⟩
          · have := grownCap_ge' W (n' + (m.den e).toNat) c' el
            simp [zeroCells_size, s2, r2] at this ⊢; omega
        · cases hs
      · cases hs
    · -- an unknown capacity
      rename_i a n
      split at hs
      · rename_i need k1 A bt k2 Xs hneed hblk hsrc hix
        split at hs
        · rename_i hc
          obtain ⟨hoff, hro, rfl, rfl, hn0, hnA, hk⟩ := hc
          have h2 := leaf_inv hs
          cases h2
          have hneed := sumI_ok ok ha hneed
          have hn0 := geZ_ok hn0 (IExp.rng_ok ok ha n)
          have hnA := knowsLe_ok ok ha hnA
          rw [mkLen_den ok ha] at hnA
          obtain ⟨s1, s2, s3⟩ := srcOf_ok ok ha hr hX (fun z hz => by rw [hm] at hz; cases hz; exact Int.le_refl _) hsrc
          obtain ⟨b, o1, r, vs, hb1, hat, hseg⟩ := hr.blk _ _ _ hblk
          obtain ⟨cs, tt, fz, pre, rest, hW, hth, hcs, hpre, hrm⟩ := hat.ex
          have hth := hth (by omega)
          have hrm := hrm (by omega)
          obtain ⟨vs', hvs, hnil⟩ := hseg
          have hnil : vs' = [] := hnil
          subst hnil
          rw [List.append_nil] at hvs
          subst hvs
          have hpart : (mkPart as A (.lit 0) n).den e = (A.den e).take (n.den e).toNat := by rw [mkPart_den ok ha, litD]; simp
          have hlivea : live h a.b := ⟨_, hblk⟩
          have hfree : ∀ i c, live (h.set a.b none) i → ρ[i]? = some c → c.1 ≠ b := by
            rintro i c ⟨s', hs'⟩ hc
            by_cases hia : i = a.b
            · subst hia
              rw [List.getElem?_set_self'] at hs'
              rw [hblk] at hs'; simp at hs'
            · rw [List.getElem?_set_ne (fun h => hia h.symm)] at hs'
              exact hr.apart i a.b c (b, o1, r) ⟨_, hs'⟩ hlivea hc hb1 hia (.inr (by omega))
          have hown : inBlk b (ρ.drop ro) := by
            refine ⟨(o1, r), ?_⟩
            have : (ρ.drop ro)[a.b - ro]? = some (b, o1, r) := by rw [List.getElem?_drop, show ro + (a.b - ro) = a.b by omega]; exact hb1
            exact List.mem_of_getElem? this
          have hbase : e.base ≤ b := hr.old.own (b, o1, r) (by
            have : (ρ.drop ov)[a.b - ov]? = some (b, o1, r) := by rw [List.getElem?_drop, show ov + (a.b - ov) = a.b by omega]; exact hb1
            exact List.mem_of_getElem? this)
          have hrd := hr.drop a.b
          have hlen1 : (h.set a.b none).length = h.length := by simp
          obtain ⟨o, n', c', rfl, hn, hnc, ho⟩ := hS
          have hn2 : (n.den e).toNat = n' := by omega
          rw [hn2] at hpart
          have hcsz : cs.size = o1 + ((A.den e).map (Value.int k2) ++ rest).length := by
            rw [← Array.length_toList, hcs, ← hpre]; simp only [List.length_append]; omega
          by_cases hgo : n' + (m.den e).toNat ≤ c'
          · rcases ho with ⟨A1, hA1, rfl, hcap⟩ | ⟨h4, h5, _⟩
            · obtain ⟨b2, o2, r2, hcap, hcw⟩ := hcap
              rw [hb1] at hcap
              cases hcap
              have hcw : r = c' := by unfold Ad.wid Ad.pos at hcw; rw [hix, hoff] at hcw; simpa using hcw.symm
              subst hcw
              obtain ⟨rfl, _⟩ := Ad.at' hA1 hb1
              have hpos : a.pos e = 0 := by unfold Ad.pos; rw [hix, hoff]
              rw [hpos, Nat.add_zero] at *
              have hst := run_storeCells_thaw (P := P) b (o1 + n') tt fz ((Xs.den e).map (Value.int k2)) 0 cs W hW hth (by simp [s2] at hrm ⊢; rw [hcsz]; simp; omega) (fun v hv => by obtain ⟨z, _, rfl⟩ := List.mem_map.1 hv; rfl)
              rw [← addr_add] at hst
              refine ⟨_, ρ ++ [(b, o1, r)], _, run_append_in W _ t u ty el k2 byt hel hu (some ⟨b, o1, none⟩) n' r (m.den e).toNat X ((Xs.den e).map (Value.int k2)) hlen (s3 _ (Stay.refl _ _ _)) (fun q hq => by cases hq; exact hst) (fun hq => by cases hq) hgo, ⟨_, rfl, ?_⟩, ?_, ha⟩
              · refine ⟨_, _, _, rfl, by omega, hgo, .inl ⟨_, new_ad hr _ _ _, rfl, ?_⟩⟩
                exact ⟨_, _, _, new_get hr _, Nat.mul_one _⟩
              · have hpost := Post.more (ro := ro) (u := el) (W' := W.setRow b (cs.toList.take (o1 + n' + 0) ++ (Xs.den e).map (Value.int k2) ++ cs.toList.drop (o1 + n' + 0 + ((Xs.den e).map (Value.int k2)).length)).toArray) hrd (b := b) (o := o1) (r := r) (l := [.row k2 (mkCat (mkPart as A (.lit 0) n) Xs)]) (vs := ((A.den e).take n' ++ Xs.den e).map (Value.int k2)) rfl rfl rfl (by rw [setRow_size]; exact Nat.le_refl _) (fun q _ hq => setRow_other _ _ _ _ hq) (by rw [setRow_size]; exact hat.lt) (.inr hown) hbase hfree ?_ ⟨[], by rw [mkCat_den, hpart]; simp, rfl⟩
                · have hl2 := new_get hr (b, o1, r)
                  exact hpost
                · refine ⟨_, tt, fz, pre, ((A.den e).map (Value.int k2) ++ rest).drop (n' + (m.den e).toNat), setRow_heap W b cs _ tt _ hW, ?_, ?_, hpre, ?_⟩
                  · intro _
                    unfold Thaw at hth ⊢
                    have : (cs.toList.take (o1 + n' + 0) ++ (Xs.den e).map (Value.int k2) ++ cs.toList.drop (o1 + n' + 0 + ((Xs.den e).map (Value.int k2)).length)).toArray.size = cs.size := by
                      simp [s2] at hrm ⊢; rw [hcsz]; simp; omega
                    rw [this]; exact hth
                  · simp only [Nat.add_zero, List.length_map, s2]
                    rw [hcs, ← hpre]
                    rw [List.append_assoc pre, List.take_append, List.take_of_length_le (l := pre) (by omega), List.drop_append, List.drop_eq_nil_of_le (as := pre) (by omega)]
                    simp only [List.nil_append, List.append_assoc, List.map_append]
                    rw [show pre.length + n' - pre.length = n' by omega, show pre.length + n' + (m.den e).toNat - pre.length = n' + (m.den e).toNat by omega]
                    rw [List.take_append_of_le_length (by simp; omega), ← List.map_take]
                  · simp [s2] at hrm ⊢; omega
            · have hm2 : (m.den e).toNat = 0 := by omega
              have hX0 : Xs.den e = [] := List.length_eq_zero_iff.1 (by omega)
              have hst : ∀ q : Addr, (storeCells (q.add n') ([] : List Value)).run P W = .ok () W := by intro q; simp [storeCells]
              have hfc := s3 W (Stay.refl _ _ _)
              rw [hX0] at hfc
              subst h4 h5
              refine ⟨_, ρ ++ [(b, o1, 0)], _, run_append_in W W t u ty el k2 byt hel hu o 0 0 (m.den e).toNat X [] hlen hfc (fun q hq => hst q) (fun _ => rfl) hgo, ⟨_, rfl, ?_⟩, ?_, ha⟩
              · exact ⟨_, _, _, rfl, by omega, by omega, .inr ⟨by omega, rfl, fun z hz => by cases hz⟩⟩
              · refine Post.more (ro := ro) (u := el) (W' := W) hrd (b := b) (o := o1) (r := 0) (l := [.row k2 (mkCat (mkPart as A (.lit 0) n) Xs)]) (vs := []) rfl rfl rfl (Nat.le_refl _) (fun _ _ _ => rfl) hat.lt (.inr hown) hbase hfree ?_ ⟨[], by rw [mkCat_den, hpart, hX0]; simp, rfl⟩
                exact ⟨cs, tt, fz, pre, (A.den e).map (Value.int k2) ++ rest, hW, fun _ => hth, by rw [hcs]; simp, hpre, fun _ => Nat.zero_le _⟩
          · have hold : (Builtin.firstCells 1 n' (.slice o n' c')).run P W.drew = .ok (((A.den e).take n').map (Value.int k2)).toArray W.drew := by
              rcases ho with ⟨A1, hA1, rfl, _⟩ | ⟨h4, h5, _⟩
              · obtain ⟨rfl, _⟩ := Ad.at' hA1 hb1
                have hpos : a.pos e = 0 := by unfold Ad.pos; rw [hix, hoff]
                refine run_firstCells_some (P := P) W.drew 1 n' _ n' c' _ (by simp; omega) ?_
                have := cells_at (W := W.drew) (p := 0) (n := n') hW hcs hpre
                rw [hpos]
                simpa [List.map_take] using this
              · subst h4 h5
                cases o with
                | none => exact run_firstCells_none (P := P) _ _ _ _ _
                | some q => exact run_firstCells_some (P := P) _ 1 0 q 0 0 [] rfl (fun j v hj => by simp at hj)
            have hb := fits (need := n' + (m.den e).toNat) ha hk (by omega)
            have hrun := run_append_new W t u ty el k2 byt hel hu o n' c' (m.den e).toNat X (((A.den e).take n').map (Value.int k2)) ((Xs.den e).map (Value.int k2)) hlen hold (s3 _ (Stay.drew _ _ _)) (by omega) hb
            refine ⟨_, _, _, hrun, ⟨_, rfl, ?_⟩, grown _ hrd (n' + (m.den e).toNat) c' (mkCat (mkPart as A (.lit 0) n) Xs) _ _ hlen1 (by simp [mkCat_den, hpart]; rfl) ?_, ha⟩
            · refine ⟨_, _, _, rfl, by omega, by have := grownCap_ge' W (n' + (m.den e).toNat) c' el; omega, .inl ⟨_, new_ad hr _ _ _, rfl, ?_⟩⟩
              exact ⟨_, _, _, new_get hr _, Nat.mul_one _⟩
            · have := grownCap_ge' W (n' + (m.den e).toNat) c' el
              simp [zeroCells_size, s2] at this ⊢; omega
        · cases hs
      · cases hs
    · cases hs
  · cases hs

theorem copy_none {as : Asm} {x : Cell} {m : IExp} {X : Value} (hX : x.D e ρ X) (h : lenOfC as x = some m) (W : World) : (Builtin.firstCells 1 0 X).run P W = .ok #[] W := by
  unfold lenOfC at h
  split at h
  · rename_i a n cap
    cases a with
    | none =>
      obtain ⟨rfl, _⟩ := hX
      exact run_firstCells_none (P := P) W _ _ _ _
    | some a =>
      obtain ⟨oo, nn, cc, rfl, _⟩ := hX
      cases oo with
      | none => exact run_firstCells_none (P := P) W _ _ _ _
      | some q => exact run_firstCells_some (P := P) W 1 0 q nn cc [] rfl (fun j v hj => by simp at hj)
  · cases hX
    simp [Builtin.firstCells]
  · cases h
include ok hov in
theorem effCopy_ok {as as' : Asm} (ha : AsmOk e as) {h h' : SHeap} {W : World} (hr : HRel e ov ρ h W) {t u ty : TypeId} {d x : Cell} {D X : Value} {y : Option SV} (hD : d.D e ρ D) (hX : x.D e ρ X)
    (hs : (effCopy P ro as h t d x).pick e = some ((y, h'), as')) :
    ∃ V ρ' W', (Builtin.copy_ #[t, u] ty #[D, X]).run P W = .ok V W' ∧ (∃ sv, y = some sv ∧ sv.D e ρ' V) ∧ Post e ov ro ρ W ρ' h' W' ∧ AsmOk e as' := by
  unfold effCopy at hs
  split at hs
  · rename_i el a n cap m hu hm
    split at hs
    · rename_i ie hie
      split at hs
      · rename_i hc
        obtain ⟨hsz, hro⟩ := hc
        obtain ⟨⟨q, as1⟩, h1, h2⟩ := Tree.pick_bind hs
        have hf := fork_ok ok ha h1
        rw [mkLe_den ok ha] at hf
        obtain ⟨m0, hlen⟩ := lenOfC_run ok (P := P) ha hX hm
        simp only at h2
        generalize hcd : (if q = true then m else n) = c at h2
        obtain ⟨o, n', c', rfl, hn, hnc, ho⟩ := hD
        have hmin : (c.den e).toNat = min (m.den e).toNat n' ∧ c.den e ≤ m.den e := by
          subst hcd
          cases q with
          | true =>
            have := of_decide_eq_true hf.1
            simp only [if_true]
            refine ⟨?_, Int.le_refl _⟩
            rw [Nat.min_eq_left (by omega)]
          | false =>
            have := of_decide_eq_false hf.1
            simp only [Bool.false_eq_true, if_false]
            refine ⟨?_, by omega⟩
            rw [Nat.min_eq_right (by omega)]; omega
        split at h2
        · rename_i hz
          have h2 := leaf_inv h2
          cases h2
          have hz := isZ_eq hz
          subst hz
          rw [litD] at hmin
          have hfc : (Builtin.firstCells 1 0 X).run P W = .ok #[] W := by
            have := copy_none (P := P) hX hm W
            exact this
          have hm0 : min (m.den e).toNat n' = 0 := by omega
          refine ⟨goInt 0, ρ, W, ?_, ⟨_, rfl, ?_⟩, Post.refl hr, hf.2⟩
          · cases o with
            | none => simp [Builtin.copy_, run_underlying hu, hlen, sizeOf, typeInfo, hie, hsz, hfc, hm0]
            | some a1 => simp [Builtin.copy_, run_underlying hu, hlen, sizeOf, typeInfo, hie, hsz, hfc, hm0, storeCells]
          · show goInt _ = .int .i64 ((IExp.lit 0).den e)
            rw [litD]; rfl
        split at h2
        · rename_i k A l bt off j hsrc hblk hst
          split at h2
          · rename_i l' hl'
            have h2 := leaf_inv h2
            cases h2
            obtain ⟨s1, s2, s3⟩ := srcOf_ok (P := P) ok hf.2 hr hX (fun z hz => by rw [← lenOfC_same ok ha hf.2 hm hz]; exact hmin.2) hsrc
            obtain ⟨b, o1, r, vs, hb1, hat, hseg⟩ := hr.blk _ _ _ hblk
            obtain ⟨cs, tt, fz, pre, rest, hW, hth, hcs, hpre, hrm⟩ := hat.ex
            have hth := hth (by omega)
            have hrm := hrm (by omega)
            obtain ⟨p1, p2, p3⟩ := spliceS_ok ok hf.2 hseg hl'
            have hpos := Ad.start_pos hst p1
            rw [← hpos] at p2 p3
            have hcsz : cs.size = o1 + (vs ++ rest).length := by
              rw [← Array.length_toList, hcs, ← hpre]; simp only [List.length_append]; omega
            have hW2 : ∃ W', (∀ a1, o = some a1 → (storeCells a1 ((A.den e).map (Value.int k))).run P W = .ok () W') ∧ (o = none → W' = W) ∧ Post e ov ro ρ W ρ (h.set a.b (some (l', bt))) W' := by
              have hposts : ∀ cs' : Array Value, cs'.toList = pre ++ (vs.take (a.pos e) ++ (A.den e).map (Value.int k) ++ vs.drop (a.pos e + (A.den e).length)) ++ rest → Post e ov ro ρ W ρ (h.set a.b (some (l', bt))) (W.setRow b cs') :=
                fun cs' hcs' => Post.set hr hro hov hblk hb1 hW hth hcs hcs' (by simp at p2 ⊢; omega) hpre hrm p3
              rcases ho with ⟨A1, hA1, rfl, _⟩ | ⟨h4, h5, _⟩
              · obtain ⟨rfl, _⟩ := Ad.at' hA1 hb1
                have hstc := run_storeCells_thaw (P := P) b (o1 + a.pos e) tt fz ((A.den e).map (Value.int k)) 0 cs W hW hth (by simp at p2 ⊢; rw [hcsz]; simp; omega) (fun v hv => by obtain ⟨z, _, rfl⟩ := List.mem_map.1 hv; rfl)
                refine ⟨_, (fun a1 ha1 => by cases ha1; exact hstc), (fun hh => by cases hh), hposts _ ?_⟩
                simp only [Nat.add_zero, List.length_map]
                rw [hcs, ← hpre]
                rw [List.append_assoc pre, List.take_append, List.take_of_length_le (l := pre) (by omega), List.drop_append, List.drop_eq_nil_of_le (as := pre) (by omega)]
                simp only [List.nil_append, List.append_assoc]
                rw [show pre.length + a.pos e - pre.length = a.pos e by omega, show pre.length + a.pos e + (A.den e).length - pre.length = a.pos e + (A.den e).length by omega]
                rw [List.take_append_of_le_length (by omega), List.drop_append_of_le_length (by omega)]
              · have hA0 : A.den e = [] := List.length_eq_zero_iff.1 (by rw [s2, hmin.1, h4]; simp)
                rw [hA0] at hposts ⊢
                refine ⟨W, (fun a1 _ => by simp [storeCells]), (fun _ => rfl), ?_⟩
                have := hposts cs (by rw [hcs]; simp)
                rwa [setRow_self W b cs tt fz hW] at this
            obtain ⟨W', w1, w2, w3⟩ := hW2
            have hfc := s3 W (Stay.refl _ _ _)
            rw [hmin.1] at hfc
            refine ⟨goInt (c.den e).toNat, ρ, W', ?_, ⟨_, rfl, ?_⟩, w3, hf.2⟩
            · cases o with
              | none =>
                have := w2 rfl
                subst this
                simp [Builtin.copy_, run_underlying hu, hlen, sizeOf, typeInfo, hie, hsz, hfc, hmin.1]
              | some a1 =>
                have := w1 a1 rfl
                simp [Builtin.copy_, run_underlying hu, hlen, sizeOf, typeInfo, hie, hsz, hfc, this, hmin.1]
            · show goInt _ = .int .i64 (c.den e)
              unfold goInt
              rw [Int.toNat_of_nonneg s1]
          · cases h2
        · cases h2
      · cases hs
    · cases hs
  · cases hs

include ok in
theorem effMake_ok {as as' : Asm} (ha : AsmOk e as) {h h' : SHeap} {W : World} (hr : HRel e ov ρ h W) {t : TypeId} {n c : IExp} {y : Option SV} {kl kc : IntKind}
    (hs : (effMake P as h t n c).pick e = some ((y, h'), as')) :
    ∃ V ρ' W', (Instr.makeSlice t (.int kl (n.den e)) (.int kc (c.den e))).run P W = .ok V W' ∧ (∃ sv, y = some sv ∧ sv.D e ρ' V) ∧ Post e ov ro ρ W ρ' h' W' ∧ AsmOk e as' := by
  unfold effMake at hs
  split at hs
  · rename_i el k byt hel
    obtain ⟨h1, h2, hb0, ie, z, h3, h4, h5, h6, h7⟩ := intElem_ok hel
    subst h7
    split at hs
    · rename_i hc
      have hs := leaf_inv hs
      cases hs
      simp only [Bool.and_eq_true] at hc
      have g1 := knowsLe_ok ok ha hc.1.1
      have g2 := knowsLe_ok ok ha hc.1.2
      have g3 := knowsLe_ok ok ha hc.2
      rw [litD] at g1 g3
      have hbytes : (ie.bytes : Int) * c.den e ≤ 281474976710656 := by
        have e1 : (ie.bytes : Int) * c.den e ≤ (ie.bytes : Int) * (281474976710656 / (ie.bytes : Int)) := Int.mul_le_mul_of_nonneg_left g3 (by omega)
        have e2 : (ie.bytes : Int) * (281474976710656 / (ie.bytes : Int)) ≤ 281474976710656 := by rw [Int.mul_comm]; exact Int.ediv_mul_le _ (by omega)
        omega
      have h63 : c.den e ≤ 9223372036854775807 := by
        have e1 : c.den e ≤ (ie.bytes : Int) * c.den e := by
          have : (1 : Int) * c.den e ≤ (ie.bytes : Int) * c.den e := Int.mul_le_mul_of_nonneg_right (by omega) (by omega)
          omega
        omega
      have hrun := run_make (P := P) W t el ie z h1 h3 h4 kl kc (n.den e) (c.den e) g1 g2 hbytes h63
      refine ⟨_, _, _, hrun, ⟨_, rfl, ?_⟩, Post.alloc (r := 0) hr (vs := ((AExp.zeros c).den e).map (Value.int k)) (rest := []) ?_ ⟨[], by simp, rfl⟩ (Nat.zero_le _), ha⟩
      · exact ⟨_, _, _, rfl, by omega, by omega, .inl ⟨_, new_ad hr _ _ _, rfl, by show ((c.den e).toNat : Int) = c.den e; omega⟩⟩
      · rw [h5, h6]
        simp only [madeCells, AExp.den, Nat.mul_one, List.append_nil, List.map_replicate]
        apply List.ext_getElem
        · simp
        · intro i q1 q2
          have hi0 : i % 1 = 0 := by omega
          simp [hi0]
    · cases hs
  · split at hs
    · rename_i el n' c' h1 hn hc
      have hn := isLit_eq hn
      have hc := isLit_eq hc
      subst hn hc
      split at hs
      · rename_i ie hie
        split at hs
        · rename_i z hz
          split at hs
          · rename_i hcond
            obtain ⟨g1, g2, g3, g4, g5⟩ := hcond
            split at hs
            · rename_i l hl
              have hs := leaf_inv hs
              cases hs
              have hrun := run_make (P := P) W t el ie z h1 hie hz kl kc n' c' g1 g2 g4 (by omega)
              rw [litD, litD]
              refine ⟨_, _, _, hrun, ⟨_, rfl, ?_⟩, Post.alloc (r := 0) hr (rest := []) (by rw [List.append_nil]; rfl) (constCells_ok hl) (Nat.zero_le _), ha⟩
              exact ⟨_, _, _, rfl, by rw [litD]; omega, by omega, .inl ⟨_, new_ad hr _ _ _, rfl, by show (c'.toNat : Int) = (IExp.lit c').den e; rw [litD]; omega⟩⟩
            · cases hs
          · cases hs
        · cases hs
      · cases hs
    · cases hs

theorem firstCells_zero {as : Asm} {x : Cell} {m : IExp} {X : Value} (hX : x.D e ρ X) (h : lenOfC as x = some m) (w : Nat) (W : World) : (Builtin.firstCells w 0 X).run P W = .ok (([] : List Value)).toArray W := by
  unfold lenOfC at h
  split at h
  · rename_i a n cap
    cases a with
    | none =>
      obtain ⟨rfl, _⟩ := hX
      exact run_firstCells_none (P := P) W _ _ _ _
    | some a =>
      obtain ⟨oo, nn, cc, rfl, _⟩ := hX
      cases oo with
      | none => exact run_firstCells_none (P := P) W _ _ _ _
      | some q => exact run_firstCells_some (P := P) W w 0 q nn cc [] (by simp) (fun j v hj => by simp at hj)
  · cases hX
    simp [Builtin.firstCells]
  · cases h
include ok in
theorem srcT_ok {as : Asm} (ha : AsmOk e as) {h : SHeap} {W : World} (hr : HRel e ov ρ h W) {w : Nat} (hw : 0 < w) {x : Cell} {n lx : IExp} {S : List Seg} {X : Value} (hX : x.D e ρ X) (hlx : lenOfC as x = some lx) (hle : n.den e ≤ lx.den e) (hs : srcT as h w x n = some S) :
    0 ≤ n.den e ∧ ∃ L : List Value, L.length = (n.den e).toNat * w ∧ SegsD e ρ S L ∧ (∀ W', Stay ρ h W W' → (Builtin.firstCells w (n.den e).toNat X).run P W' = .ok L.toArray W') ∧
      ∀ a l c, x = .sl (some a) l c → ∀ W', Stay ρ h W W' → ∀ A, a.D e ρ A → ∀ j v, L[j]? = some v → W'.cell? (A.add j) = some v := by
  unfold srcT at hs
  split at hs
  · rename_i hz
    cases hs
    rw [isZ_eq hz, litD]
    refine ⟨Int.le_refl _, [], by simp, rfl, fun W' _ => firstCells_zero hX hlx w W', fun a l c _ W' _ A _ j v hj => by simp at hj⟩
  split at hs
  · rename_i a len cap
    have fin : ∀ {l : List Seg} {bt : TypeId} {L : List Value}, h[a.b]? = some (some (l, bt)) → 0 ≤ n.den e → L.length = (n.den e).toNat * w →
        (∀ vs, SegsD e ρ l vs → L = (vs.drop (a.pos e)).take ((n.den e).toNat * w)) → SegsD e ρ S L →
        0 ≤ n.den e ∧ ∃ L : List Value, L.length = (n.den e).toNat * w ∧ SegsD e ρ S L ∧ (∀ W', Stay ρ h W W' → (Builtin.firstCells w (n.den e).toNat X).run P W' = .ok L.toArray W') ∧
          ∀ a' l c, Cell.sl (some a) len cap = .sl (some a') l c → ∀ W', Stay ρ h W W' → ∀ A, a'.D e ρ A → ∀ j v, L[j]? = some v → W'.cell? (A.add j) = some v := by
      intro l bt L hblk h0 hlen hL hD
      have hread : ∀ W', Stay ρ h W W' → ∀ A, a.D e ρ A → ∀ j v, L[j]? = some v → W'.cell? (A.add j) = some v := by
        intro W' hst A hA
        obtain ⟨b, o, r, vs, hb, hat, hseg⟩ := hr.blk _ _ _ hblk
        obtain ⟨cs, tt, fz, pre, rest, hW, hth, hcs, hpre, hrm⟩ := hat.ex
        obtain ⟨rfl, _⟩ := Ad.at' hA hb
        have hW' : W'.heap[b]? = some (.cells cs tt fz) := by
          have := hst a.b (b, o, r) ⟨_, hblk⟩ hb
          simp only at this
          rw [this, hW]
        rw [hL vs hseg]
        exact cells_at hW' hcs hpre
      refine ⟨h0, L, hlen, hD, fun W' hst => ?_, fun a' l' c' heq => ?_⟩
      · obtain ⟨oo, nn, cc, rfl, hn, hnc, hoo⟩ := hX
        simp only [lenOfC, Option.some.injEq] at hlx
        subst hlx
        rcases hoo with ⟨Ad', hA, rfl, _⟩ | ⟨h4, h5, _⟩
        · exact run_firstCells_some (P := P) W' w _ Ad' nn cc _ hlen (hread W' hst Ad' hA)
        · have h0 : (n.den e).toNat = 0 := by omega
          have hA : L = [] := List.length_eq_zero_iff.1 (by rw [hlen, h0, Nat.zero_mul])
          rw [h0, hA]
          cases oo with
          | none => exact run_firstCells_none (P := P) W' _ _ _ _
          | some q => exact run_firstCells_some (P := P) W' w 0 q nn cc [] (by simp) (fun j v hj => by simp at hj)
      · cases heq
        exact hread
    split at hs
    · rename_i l bt hblk
      split at hs
      · rename_i m cols
        split at hs
        · rename_i j off hpos
          split at hs
          · rename_i hc
            obtain ⟨hcl, rfl⟩ := hc
            split at hs
            · rename_i z hz
              split at hs
              · rename_i hk
                cases hs
                simp only [Bool.and_eq_true] at hk
                have g1 := geZ_ok hk.1.1 (IExp.rng_ok ok ha j)
                have g2 := geZ_ok hk.1.2 (IExp.rng_ok ok ha n)
                have g3 := knowsLe_ok ok ha hk.2
                have hz := sumI_ok ok ha hz
                have hpos := tabPos_ok (e := e) hpos
                rw [Nat.zero_add] at hpos
                obtain ⟨b, o, r, vs, hb, hat, hseg⟩ := hr.blk _ _ _ hblk
                obtain ⟨tv, vs', q1, q2, q3⟩ := hseg
                cases q3
                rw [List.append_nil] at q1
                subst q1
                have hp := q2.part ok ha (j := j) (n := n) g1 g2 (by omega)
                rw [hcl, ← hpos] at hp
                refine fin hblk g2 (L := (vs.drop (a.pos e)).take ((n.den e).toNat * w)) ?_ ?_ ⟨_, [], by simp, hp, rfl⟩
                · have := hp.length
                  rw [List.length_map, hcl] at this
                  exact this
                · intro vs2 hv2
                  obtain ⟨tv2, vs3, k1, k2, k3⟩ := hv2
                  cases k3
                  rw [List.append_nil] at k1
                  rw [k1, k2.is, q2.is]
              · cases hs
            · cases hs
          · cases hs
        · cases hs
      · have lit : ∀ {k : Int} (hoff : a.pos e = a.off), n = .lit k → 0 ≤ k → readSegs as l a.off (k.toNat * w) = some S →
            0 ≤ n.den e ∧ ∃ L : List Value, L.length = (n.den e).toNat * w ∧ SegsD e ρ S L ∧ (∀ W', Stay ρ h W W' → (Builtin.firstCells w (n.den e).toNat X).run P W' = .ok L.toArray W') ∧
              ∀ a' l c, Cell.sl (some a) len cap = .sl (some a') l c → ∀ W', Stay ρ h W W' → ∀ A, a'.D e ρ A → ∀ j v, L[j]? = some v → W'.cell? (A.add j) = some v := by
          intro k hoff hn h0 hrd
          obtain ⟨b, o, r, vs, hb, hat, hseg⟩ := hr.blk _ _ _ hblk
          obtain ⟨r1, r2⟩ := readSegs_ok ok ha hseg hrd
          obtain ⟨cs, tt, fz, pre, rest, hW, hth, hcs, hpre, hrm⟩ := hat.ex
          have hnd : n.den e = k := by rw [hn, litD]
          have hlenL : ((vs.drop a.off).take (k.toNat * w)).length = (n.den e).toNat * w := by
            rw [hnd, List.length_take, List.length_drop]; omega
          have hread : ∀ W', Stay ρ h W W' → ∀ A, a.D e ρ A → ∀ j v, ((vs.drop a.off).take (k.toNat * w))[j]? = some v → W'.cell? (A.add j) = some v := by
            intro W' hst A hA
            obtain ⟨rfl, _⟩ := Ad.at' hA hb
            have hW' : W'.heap[b]? = some (.cells cs tt fz) := by
              have := hst a.b (b, o, r) ⟨_, hblk⟩ hb
              simp only at this
              rw [this, hW]
            rw [hoff]
            exact cells_at hW' hcs hpre
          refine ⟨by omega, _, hlenL, r2, fun W' hst => ?_, fun a' l' c' heq => ?_⟩
          · obtain ⟨oo, nn, cc, rfl, hn2, hnc, hoo⟩ := hX
            simp only [lenOfC, Option.some.injEq] at hlx
            subst hlx
            rcases hoo with ⟨Ad', hA, rfl, _⟩ | ⟨h4, h5, _⟩
            · exact run_firstCells_some (P := P) W' w _ Ad' nn cc _ hlenL (hread W' hst Ad' hA)
            · have h0 : (n.den e).toNat = 0 := by omega
              have hA : (vs.drop a.off).take (k.toNat * w) = [] := List.length_eq_zero_iff.1 (by rw [hlenL, h0, Nat.zero_mul])
              rw [h0, hA]
              cases oo with
              | none => exact run_firstCells_none (P := P) W' _ _ _ _
              | some q => exact run_firstCells_some (P := P) W' w 0 q nn cc [] (by simp) (fun j v hj => by simp at hj)
          · cases heq
            exact hread
        split at hs
        · rename_i k hix hk
          split at hs
          · rename_i hc
            exact lit (by unfold Ad.pos; rw [hix]) (isLit_eq hk) hc hs
          · cases hs
        · rename_i q w' k hix hk
          split at hs
          · rename_i hc
            obtain ⟨h0, rfl, rfl⟩ := hc
            exact lit (by unfold Ad.pos; rw [hix]; simp [litD]) (isLit_eq hk) h0 hs
          · cases hs
        · cases hs
    · cases hs
  · cases hs
theorem new_pos {e : Env} (b w c : Nat) : c * (⟨b, 0, some (.lit 0, w)⟩ : Ad).wid + (⟨b, 0, some (.lit 0, w)⟩ : Ad).pos e = c * w := by
  simp [Ad.wid, Ad.pos, litD]
theorem new_adT {e : Env} {ov : Nat} {ρ : Rho} {h : SHeap} {W : World} (hr : HRel e ov ρ h W) (b o r w : Nat) : Ad.D e (ρ ++ [(b, o, r)]) ⟨h.length, 0, some (.lit 0, w)⟩ ⟨b, o, none⟩ :=
  ⟨b, o, r, new_get hr _, by rw [litD]; exact Int.le_refl _, by rw [litD]; simp⟩
/-- append of structs where the capacity does not do. -/
theorem run_append_newT (w : World) (t u ty el : TypeId) (sz byt : Nat) (hel : structElem P t = some (el, sz, byt)) (hu : ∃ e', P.underlying u = some (.slice e'))
    (base : Option Addr) (sLen sCap n : Nat) (x : Value) (olds news : List Value) (hlen : ∀ w, (Builtin.lenOf x).run P w = .ok n w)
    (hold : (Builtin.firstCells sz sLen (.slice base sLen sCap)).run P w.drew = .ok olds.toArray w.drew) (hnew : (Builtin.firstCells sz n x).run P w.drew = .ok news.toArray w.drew)
    (hg : sCap < sLen + n) (hb : (sLen + n) * byt ≤ 140737488355328) :
    ∃ rest : Array Value, rest.size = (grownCap w (sLen + n) sCap el - (sLen + n)) * sz ∧ (Builtin.append_ #[t, u] ty #[.slice base sLen sCap, x]).run P w =
      .ok (.slice (some ⟨w.heap.size, 0, none⟩) (sLen + n) (grownCap w (sLen + n) sCap el)) (w.drew.alloc (.cells (olds.toArray ++ news.toArray ++ rest) el)) := by
  obtain ⟨h1, hsz, hb0, ie, z, h3, h4, h5, h6, h7⟩ := structElem_ok hel
  subst h7
  have hfit := growslice_fits hg hb
  have hn : ¬ (sLen + n ≤ sCap) := by omega
  have hle : sLen + n ≤ (sLen + n) * ie.bytes := Nat.le_mul_of_pos_right _ hb0
  have h63' : ¬ (9223372036854775807 < ((sLen : Int) + (n : Int))) := by omega
  have h48' : ¬ (281474976710656 < Builtin.nextslicecap (sLen + n) sCap * ie.bytes) := by omega
  obtain ⟨e', hu⟩ := hu
  refine ⟨Builtin.zeroCells z.cells (grownCap w (sLen + n) sCap el - (sLen + n)), by rw [size_zeroCells, h6], ?_⟩
  simp [Builtin.append_, run_underlying h1, run_underlying hu, sizeOf, typeInfo, zeroValue, h3, h4, h5, hlen, hn, h63', h48', Question.forced, hold, hnew, newRow, grownCap]
  congr 2
  apply Array.ext'
  simp [List.append_assoc]
/-- append of structs in place. -/
theorem run_append_inT (w w' : World) (t u ty el : TypeId) (sz byt : Nat) (hel : structElem P t = some (el, sz, byt)) (hu : ∃ e', P.underlying u = some (.slice e'))
    (base : Option Addr) (sLen sCap n : Nat) (x : Value) (news : List Value) (hlen : ∀ w, (Builtin.lenOf x).run P w = .ok n w)
    (hnew : (Builtin.firstCells sz n x).run P w = .ok news.toArray w)
    (hst : ∀ a, base = some a → (storeCells (a.add (sLen * sz)) news).run P w = .ok () w') (hno : base = none → w' = w)
    (hg : sLen + n ≤ sCap) :
    (Builtin.append_ #[t, u] ty #[.slice base sLen sCap, x]).run P w = .ok (.slice base (sLen + n) sCap) w' := by
  obtain ⟨h1, hsz, hb0, ie, z, h3, h4, h5, h6, h7⟩ := structElem_ok hel
  obtain ⟨e', hu⟩ := hu
  cases base with
  | none =>
    have := hno rfl
    subst this
    simp [Builtin.append_, run_underlying h1, run_underlying hu, sizeOf, typeInfo, h3, h5, hlen, hg, hnew]
  | some a =>
    have := hst a rfl
    simp [Builtin.append_, run_underlying h1, run_underlying hu, sizeOf, typeInfo, h3, h5, hlen, hg, hnew, this]
include ok hov in
theorem effAppendT_ok {as as' : Asm} (ha : AsmOk e as) {h h' : SHeap} {W : World} (hr : HRel e ov ρ h W) {t u ty : TypeId} {s x : Cell} {S X : Value} {y : Option SV} (hS : s.D e ρ S) (hX : x.D e ρ X)
    (hu : ∃ e', P.underlying u = some (.slice e')) (hs : (effAppendT P ro as h t s x).pick e = some ((y, h'), as')) :
    ∃ V ρ' W', (Builtin.append_ #[t, u] ty #[S, X]).run P W = .ok V W' ∧ (∃ sv, y = some sv ∧ sv.D e ρ' V) ∧ Post e ov ro ρ W ρ' h' W' ∧ AsmOk e as' := by
  unfold effAppendT at hs
  split at hs
  · rename_i el sz byt m hel hm
    obtain ⟨m0, hlen⟩ := lenOfC_run ok (P := P) ha hX hm
    have byt0 := (structElem_ok hel).2.2.1
    have sz0 := (structElem_ok hel).2.1
    have fits : ∀ {need : Nat} {q : Asm} {z : IExp}, AsmOk e q → knowsLe q z (.lit (140737488355328 / (byt : Int))) = true → (need : Int) = z.den e → need * byt ≤ 140737488355328 := by
      intro need q z hq hk hz
      have := knowsLe_ok ok hq hk
      rw [litD, ← hz] at this
      have h1 : (need : Int) * byt ≤ 140737488355328 / (byt : Int) * byt := Int.mul_le_mul_of_nonneg_right this (by omega)
      have h2 : (140737488355328 : Int) / (byt : Int) * byt ≤ 140737488355328 := Int.ediv_mul_le _ (by omega)
      have h3 : ((need * byt : Nat) : Int) = (need : Int) * byt := by push_cast; rfl
      omega
    have grown : ∀ (h1 : SHeap) (hr1 : HRel e ov ρ h1 W) (need sCap : Nat) (l : List Seg) (L rest : List Value) (cs : Array Value), h1.length = h.length → cs.toList = L ++ rest → SegsD e ρ l L → cs.size = grownCap W need sCap el * sz →
        Post e ov ro ρ W (ρ ++ [(W.heap.size, 0, grownCap W need sCap el * sz)]) (h1 ++ [some (l, el)]) (W.drew.alloc (.cells cs el)) := by
      intro h1 hr1 need sCap l L rest cs _ hcs hl hsz
      have p1 : Post e ov ro ρ W ρ h1 W.drew := Post.drew hr1 (W.drawn + 1)
      have p2 := Post.alloc (ro := ro) (t := el) (u := el) p1.rel (l := l) (r := grownCap W need sCap el * sz) hcs hl (by rw [hsz]; exact Nat.le_refl _)
      exact p1.trans p2
    split at hs
    · -- a nil slice
      obtain ⟨rfl, _⟩ := hS
      obtain ⟨⟨q, as1⟩, h1, h2⟩ := Tree.pick_bind hs
      have hf := fork_ok ok ha h1
      rw [mkEq_den ok ha, litD] at hf
      cases q with
      | true =>
        simp only [if_true] at h2
        have h2 := leaf_inv h2
        cases h2
        have hm0 := of_decide_eq_true hf.1
        have hn0 : (m.den e).toNat = 0 := by omega
        rw [hn0] at hlen
        refine ⟨_, ρ, W, run_append_inT W W t u ty el sz byt hel hu none 0 0 0 X [] hlen (firstCells_zero hX hm sz W) (fun a h => by cases h) (fun _ => rfl) (by omega), ⟨_, rfl, ?_⟩, Post.refl hr, hf.2⟩
        exact ⟨rfl, rfl, _, rfl, rfl⟩
      | false =>
        simp only [Bool.false_eq_true, if_false] at h2
        have hm0 := of_decide_eq_false hf.1
        split at h2
        · rename_i l hsrc
          obtain ⟨X1, hsrc, hcat⟩ := Option.bind_eq_some_iff.1 hsrc
          split at h2
          · rename_i hk
            have h2 := leaf_inv h2
            cases h2
            obtain ⟨lx, hlx⟩ : ∃ lx, lenOfC as' x = some lx := by
              unfold lenOfC at hm ⊢
              split at hm
              · exact ⟨_, rfl⟩
              · exact ⟨_, rfl⟩
              · cases hm
            obtain ⟨_, L, l1, l2, l3, _⟩ := srcT_ok (P := P) ok hf.2 hr sz0 hX hlx (Int.le_of_eq (lenOfC_same ok ha hf.2 hm hlx)) hsrc
            have hD := catT_ok ok hf.2 sz0 (S := []) (vs := []) rfl l2 hcat
            have hb := fits (need := (m.den e).toNat) hf.2 hk (by omega)
            obtain ⟨rest, hrs, hrun⟩ := run_append_newT W t u ty el sz byt hel hu none 0 0 (m.den e).toNat X [] L hlen (run_firstCells_none (P := P) W.drew _ _ _ _) (l3 _ (Stay.drew _ _ _)) (by omega) (by simpa using hb)
            have hge := grownCap_ge' W (0 + (m.den e).toNat) 0 el
            refine ⟨_, _, _, hrun, ⟨_, rfl, ?_⟩, grown h hr (0 + (m.den e).toNat) 0 l _ rest.toList _ rfl (by simp) hD ?_, hf.2⟩
            · refine ⟨_, _, _, rfl, by omega, by omega, .inl ⟨_, new_adT hr _ _ _ _, rfl, ?_⟩⟩
              exact ⟨_, _, _, new_get hr _, new_pos _ _ _⟩
            · simp only [Array.size_append, List.size_toArray, List.length_nil, hrs, l1, Nat.zero_add]
              rw [Nat.zero_add] at hge
              rw [← Nat.add_mul, Nat.add_sub_cancel' hge]
          · cases h2
        · cases h2
    · -- a known capacity
      rename_i a n c
      split at hs
      · rename_i need S1 X1 hneed hrow hsrc
        split at hs
        · rename_i l hcat
          split at hs
          · rename_i hc
            obtain ⟨hcap, hk⟩ := hc
            have h2 := leaf_inv hs
            cases h2
            have hneed := sumI_ok ok ha hneed
            have hcap := knowsLt_ok ok ha hcap
            obtain ⟨_, Lx, x1, x2, x3, _⟩ := srcT_ok (P := P) ok ha hr sz0 hX hm (Int.le_refl _) hsrc
            obtain ⟨_, Ls, s1, s2, s3, _⟩ := srcT_ok (P := P) ok ha hr sz0 (x := .sl (some a) n (some c)) (n := n) hS rfl (Int.le_refl _) hrow
            have hD := catT_ok ok ha sz0 s2 x2 hcat
            obtain ⟨o, n', c', rfl, hn, hnc, ho⟩ := hS
            have hcx : (c' : Int) = c.den e := by
              rcases ho with ⟨_, _, _, h5⟩ | ⟨h4, h5, h6⟩
              · exact h5
              · rw [h6 c rfl, h5]; rfl
            have hn2 : (n.den e).toNat = n' := by omega
            rw [hn2] at s1 s3
            have hb := fits (need := n' + (m.den e).toNat) ha hk (by omega)
            obtain ⟨rest, hrs, hrun⟩ := run_append_newT W t u ty el sz byt hel hu o n' c' (m.den e).toNat X Ls Lx hlen (s3 _ (Stay.drew _ _ _)) (x3 _ (Stay.drew _ _ _)) (by omega) hb
            have hge := grownCap_ge' W (n' + (m.den e).toNat) c' el
            refine ⟨_, _, _, hrun, ⟨_, rfl, ?_⟩, grown h hr (n' + (m.den e).toNat) c' l _ rest.toList _ rfl (by simp) hD ?_, ha⟩
            · refine ⟨_, _, _, rfl, by omega, by omega, .inl ⟨_, new_adT hr _ _ _ _, rfl, ?_⟩⟩
              exact ⟨_, _, _, new_get hr _, new_pos _ _ _⟩
            · simp only [Array.size_append, List.size_toArray, hrs, s1, x1]
              rw [← Nat.add_mul, ← Nat.add_mul, Nat.add_sub_cancel' hge]
          · cases hs
        · cases hs
      · cases hs
    · -- an unknown capacity
      rename_i a n
      split at hs
      · rename_i need S1 X1 q w' hneed hrow hsrc hix
        split at hs
        · rename_i l hcat
          split at hs
          · rename_i hc
            obtain ⟨rfl, rfl, hoff, hro, hsome, hn0, hk⟩ := hc
            have h2 := leaf_inv hs
            cases h2
            have hneed := sumI_ok ok ha hneed
            have hn0 := geZ_ok hn0 (IExp.rng_ok ok ha n)
            obtain ⟨_, Lx, x1, x2, x3, _⟩ := srcT_ok (P := P) ok ha hr sz0 hX hm (Int.le_refl _) hsrc
            obtain ⟨_, Ls, s1, s2, s3, s4⟩ := srcT_ok (P := P) ok ha hr sz0 (x := .sl (some a) n none) (n := n) hS rfl (Int.le_refl _) hrow
            have s4 := s4 a n none rfl
            have hD := catT_ok ok ha sz0 s2 x2 hcat
            obtain ⟨⟨l0, bt⟩, hblk⟩ : ∃ z, h[a.b]? = some (some z) := by
              cases hh : h[a.b]? with
              | none => rw [hh] at hsome; cases hsome
              | some z =>
                cases z with
                | none => rw [hh] at hsome; cases hsome
                | some z => exact ⟨z, rfl⟩
            obtain ⟨b, o1, r, vs, hb1, hat, hseg⟩ := hr.blk _ _ _ hblk
            obtain ⟨cs, tt, fz, pre, rest, hW, hth, hcs, hpre, hrm⟩ := hat.ex
            have hth := hth (by omega)
            have hrm := hrm (by omega)
            have hlivea : live h a.b := ⟨_, hblk⟩
            have hfree : ∀ i c, live (h.set a.b none) i → ρ[i]? = some c → c.1 ≠ b := by
              rintro i c ⟨s', hs'⟩ hc
              by_cases hia : i = a.b
              · subst hia
                rw [List.getElem?_set_self'] at hs'
                rw [hblk] at hs'; simp at hs'
              · rw [List.getElem?_set_ne (fun h => hia h.symm)] at hs'
                exact hr.apart i a.b c (b, o1, r) ⟨_, hs'⟩ hlivea hc hb1 hia (.inr (by omega))
            have hown : inBlk b (ρ.drop ro) := by
              refine ⟨(o1, r), ?_⟩
              have : (ρ.drop ro)[a.b - ro]? = some (b, o1, r) := by rw [List.getElem?_drop, show ro + (a.b - ro) = a.b by omega]; exact hb1
              exact List.mem_of_getElem? this
            have hbase : e.base ≤ b := hr.old.own (b, o1, r) (by
              have : (ρ.drop ov)[a.b - ov]? = some (b, o1, r) := by rw [List.getElem?_drop, show ov + (a.b - ov) = a.b by omega]; exact hb1
              exact List.mem_of_getElem? this)
            have hrd := hr.drop a.b
            have hlen1 : (h.set a.b none).length = h.length := by simp
            obtain ⟨o, n', c', rfl, hn, hnc, ho⟩ := hS
            have hn2 : (n.den e).toNat = n' := by omega
            rw [hn2] at s1 s3
            have hcsz : cs.size = o1 + (vs ++ rest).length := by
              rw [← Array.length_toList, hcs, ← hpre]; simp only [List.length_append]; omega
            have hone := SegsD.one x2
            by_cases hgo : n' + (m.den e).toNat ≤ c'
            · rcases ho with ⟨A1, hA1, rfl, hcap⟩ | ⟨h4, h5, _⟩
              · obtain ⟨b2, o2, r2, hcap, hcw⟩ := hcap
                rw [hb1] at hcap
                cases hcap
                have hcw : r = c' * w' := by unfold Ad.wid Ad.pos at hcw; rw [hix, hoff] at hcw; simpa [litD] using hcw.symm
                have s4 := s4 W (Stay.refl _ _ _) A1 hA1
                obtain ⟨rfl, _⟩ := Ad.at' hA1 hb1
                have hpos : a.pos e = 0 := by unfold Ad.pos; rw [hix, hoff]; simp [litD]
                rw [hpos, Nat.add_zero] at s4 hA1 ⊢
                have hmw : n' * w' + (m.den e).toNat * w' ≤ (vs ++ rest).length := by
                  rw [← Nat.add_mul]
                  exact Nat.le_trans (Nat.mul_le_mul_right _ hgo) (by rw [← hcw]; exact hrm)
                have hLs : (vs ++ rest).take (n' * w') = Ls := by
                  apply List.ext_getElem?
                  intro j
                  by_cases hj : j < n' * w'
                  · obtain ⟨v, hv⟩ : ∃ v, Ls[j]? = some v := ⟨_, List.getElem?_eq_getElem (by omega)⟩
                    have h1 := s4 j v hv
                    rw [addr_add, cell_block hW, ← hpre, ← Array.getElem?_toList, hcs, List.append_assoc, List.getElem?_append_right (by omega), Nat.add_sub_cancel_left] at h1
                    rw [List.getElem?_take_of_lt hj, h1, hv]
                  · rw [List.getElem?_eq_none (by rw [List.length_take]; omega), List.getElem?_eq_none (by omega)]
                have hst := run_storeCells_thaw (P := P) b (o1 + n' * w') tt fz Lx 0 cs W hW hth (by rw [hcsz, x1]; omega) hone
                rw [← addr_add] at hst
                refine ⟨_, ρ ++ [(b, o1, r)], _, run_append_inT W _ t u ty el w' byt hel hu (some ⟨b, o1, none⟩) n' c' (m.den e).toNat X Lx hlen (x3 _ (Stay.refl _ _ _)) (fun q hq => by cases hq; exact hst) (fun hq => by cases hq) hgo, ⟨_, rfl, ?_⟩, ?_, ha⟩
                · refine ⟨_, _, _, rfl, by omega, hgo, .inl ⟨_, new_adT hr _ _ _ _, rfl, ?_⟩⟩
                  exact ⟨_, _, _, new_get hr _, (new_pos _ _ _).trans hcw.symm⟩
                · have hpost := Post.more (ro := ro) (u := el) (W' := W.setRow b (cs.toList.take (o1 + n' * w' + 0) ++ Lx ++ cs.toList.drop (o1 + n' * w' + 0 + Lx.length)).toArray) hrd (b := b) (o := o1) (r := r) (l := l) (vs := Ls ++ Lx) rfl rfl rfl (by rw [setRow_size]; exact Nat.le_refl _) (fun q _ hq => setRow_other _ _ _ _ hq) (by rw [setRow_size]; exact hat.lt) (.inr hown) hbase hfree ?_ hD
                  · exact hpost
                  · have hnew : (cs.toList.take (o1 + n' * w' + 0) ++ Lx ++ cs.toList.drop (o1 + n' * w' + 0 + Lx.length)).toArray.toList = pre ++ (Ls ++ Lx) ++ (vs ++ rest).drop (n' * w' + (m.den e).toNat * w') := by
                      show cs.toList.take (o1 + n' * w' + 0) ++ Lx ++ cs.toList.drop (o1 + n' * w' + 0 + Lx.length) = _
                      rw [hcs, List.append_assoc pre, Nat.add_zero, x1, ← hpre, List.take_append, List.take_of_length_le (l := pre) (by omega), List.drop_append, List.drop_eq_nil_of_le (as := pre) (by omega)]
                      rw [show pre.length + n' * w' - pre.length = n' * w' by omega, show pre.length + n' * w' + (m.den e).toNat * w' - pre.length = n' * w' + (m.den e).toNat * w' by omega, hLs]
                      simp only [List.nil_append, List.append_assoc]
                    refine ⟨_, tt, fz, pre, (vs ++ rest).drop (n' * w' + (m.den e).toNat * w'), setRow_heap W b cs _ tt _ hW, ?_, hnew, hpre, ?_⟩
                    · intro _
                      unfold Thaw at hth ⊢
                      have : (cs.toList.take (o1 + n' * w' + 0) ++ Lx ++ cs.toList.drop (o1 + n' * w' + 0 + Lx.length)).toArray.size = cs.size := by
                        rw [← Array.length_toList, hnew, hcsz]
                        simp only [List.length_append, List.length_drop, s1, x1, hpre] at hmw ⊢
                        omega
                      rw [this]; exact hth
                    · simp only [List.length_append, List.length_drop, s1, x1] at hrm hmw ⊢
                      omega
              · have hm2 : (m.den e).toNat = 0 := by omega
                have hX0 : Lx = [] := List.length_eq_zero_iff.1 (by rw [x1, hm2, Nat.zero_mul])
                have hst : ∀ q : Addr, (storeCells (q.add (n' * w')) ([] : List Value)).run P W = .ok () W := by intro q; simp [storeCells]
                have hfc := x3 W (Stay.refl _ _ _)
                rw [hX0] at hfc hD
                subst h4 h5
                have hS0 : Ls = [] := List.length_eq_zero_iff.1 (by rw [s1, Nat.zero_mul])
                rw [hS0] at hD
                refine ⟨_, ρ ++ [(b, o1, 0)], _, run_append_inT W W t u ty el w' byt hel hu o 0 0 (m.den e).toNat X [] hlen hfc (fun q hq => hst q) (fun _ => rfl) hgo, ⟨_, rfl, ?_⟩, ?_, ha⟩
                · exact ⟨_, _, _, rfl, by omega, by omega, .inr ⟨by omega, rfl, fun z hz => by cases hz⟩⟩
                · refine Post.more (ro := ro) (u := el) (W' := W) hrd (b := b) (o := o1) (r := 0) (l := l) (vs := []) rfl rfl rfl (Nat.le_refl _) (fun _ _ _ => rfl) hat.lt (.inr hown) hbase hfree ?_ hD
                  exact ⟨cs, tt, fz, pre, vs ++ rest, hW, fun _ => hth, by rw [hcs]; simp, hpre, fun _ => Nat.zero_le _⟩
            · have hb := fits (need := n' + (m.den e).toNat) ha hk (by omega)
              obtain ⟨rest2, hrs, hrun⟩ := run_append_newT W t u ty el w' byt hel hu o n' c' (m.den e).toNat X Ls Lx hlen (s3 _ (Stay.drew _ _ _)) (x3 _ (Stay.drew _ _ _)) (by omega) hb
              have hge := grownCap_ge' W (n' + (m.den e).toNat) c' el
              refine ⟨_, _, _, hrun, ⟨_, rfl, ?_⟩, grown _ hrd (n' + (m.den e).toNat) c' l _ rest2.toList _ hlen1 (by simp) hD ?_, ha⟩
              · refine ⟨_, _, _, rfl, by omega, by omega, .inl ⟨_, new_adT hr _ _ _ _, rfl, ?_⟩⟩
                exact ⟨_, _, _, new_get hr _, new_pos _ _ _⟩
              · simp only [Array.size_append, List.size_toArray, hrs, s1, x1]
                rw [← Nat.add_mul, ← Nat.add_mul, Nat.add_sub_cancel' hge]
          · cases hs
        · cases hs
      · cases hs
    · cases hs
  · cases hs
include ok hov in
theorem effAppend'_ok {as as' : Asm} (ha : AsmOk e as) {h h' : SHeap} {W : World} (hr : HRel e ov ρ h W) {t u ty : TypeId} {s x : Cell} {S X : Value} {y : Option SV} (hS : s.D e ρ S) (hX : x.D e ρ X)
    (hu : ∃ e', P.underlying u = some (.slice e')) (hs : (effAppend' P ro as h t s x).pick e = some ((y, h'), as')) :
    ∃ V ρ' W', (Builtin.append_ #[t, u] ty #[S, X]).run P W = .ok V W' ∧ (∃ sv, y = some sv ∧ sv.D e ρ' V) ∧ Post e ov ro ρ W ρ' h' W' ∧ AsmOk e as' := by
  unfold effAppend' at hs
  split at hs
  · exact effAppend_ok ok hov ha hr hS hX (.inr hu) hs
  · exact effAppendT_ok ok hov ha hr hS hX hu hs

include ok hov in
theorem effCopyT_ok {as as' : Asm} (ha : AsmOk e as) {h h' : SHeap} {W : World} (hr : HRel e ov ρ h W) {t u ty : TypeId} {d x : Cell} {D X : Value} {y : Option SV} (hD : d.D e ρ D) (hX : x.D e ρ X)
    (hs : (effCopyT P ro as h t d x).pick e = some ((y, h'), as')) :
    ∃ V ρ' W', (Builtin.copy_ #[t, u] ty #[D, X]).run P W = .ok V W' ∧ (∃ sv, y = some sv ∧ sv.D e ρ' V) ∧ Post e ov ro ρ W ρ' h' W' ∧ AsmOk e as' := by
  unfold effCopyT at hs
  split at hs
  · rename_i el w byt a n cap m hel hm
    obtain ⟨hu, hw0, _, ie, zz, hie, hz0, hsz, hzs, _⟩ := structElem_ok hel
    split at hs
    · rename_i hro
      obtain ⟨⟨q, as1⟩, h1, h2⟩ := Tree.pick_bind hs
      have hf := fork_ok ok ha h1
      rw [mkLe_den ok ha] at hf
      obtain ⟨m0, hlen⟩ := lenOfC_run ok (P := P) ha hX hm
      simp only at h2
      generalize hcd : (if q = true then m else n) = c at h2
      obtain ⟨o, n', c', rfl, hn, hnc, ho⟩ := hD
      have hmin : (c.den e).toNat = min (m.den e).toNat n' ∧ c.den e ≤ m.den e := by
        subst hcd
        cases q with
        | true =>
          have := of_decide_eq_true hf.1
          simp only [if_true]
          refine ⟨?_, Int.le_refl _⟩
          rw [Nat.min_eq_left (by omega)]
        | false =>
          have := of_decide_eq_false hf.1
          simp only [Bool.false_eq_true, if_false]
          refine ⟨?_, by omega⟩
          rw [Nat.min_eq_right (by omega)]; omega
      split at h2
      · rename_i hz
        have h2 := leaf_inv h2
        cases h2
        have hz := isZ_eq hz
        subst hz
        rw [litD] at hmin
        have hfc := firstCells_zero (P := P) hX hm w W
        have hm0 : min (m.den e).toNat n' = 0 := by omega
        refine ⟨goInt 0, ρ, W, ?_, ⟨_, rfl, ?_⟩, Post.refl hr, hf.2⟩
        · cases o with
          | none => simp [Builtin.copy_, run_underlying hu, hlen, sizeOf, typeInfo, hie, hsz, hfc, hm0]
          | some a1 => simp [Builtin.copy_, run_underlying hu, hlen, sizeOf, typeInfo, hie, hsz, hfc, hm0, storeCells]
        · show goInt _ = .int .i64 ((IExp.lit 0).den e)
          rw [litD]; rfl
      split at h2
      · rename_i cn xc N cols bt j off hsrc hblk hpos
        obtain ⟨X1, hsrc, htab⟩ := Option.bind_eq_some_iff.1 hsrc
        split at h2
        · rename_i z hz
          split at h2
          · rename_i uu huu
            split at h2
            · rename_i hc
              obtain ⟨rfl, hcl, hj0, hzN⟩ := hc
              split at h2
              · rename_i cc hcc
                have h2 := leaf_inv h2
                cases h2
                obtain ⟨lx, hlx⟩ : ∃ lx, lenOfC as' x = some lx := by
                  unfold lenOfC at hm ⊢
                  split at hm
                  · exact ⟨_, rfl⟩
                  · exact ⟨_, rfl⟩
                  · cases hm
                obtain ⟨s0, L, l1, l2, l3, _⟩ := srcT_ok (P := P) ok hf.2 hr hw0 hX hlx (by rw [← lenOfC_same ok ha hf.2 hm hlx]; exact hmin.2) hsrc
                obtain ⟨t1, t2⟩ := asTab_ok ok hf.2 hw0 l2 htab
                obtain ⟨b, o1, r, vs, hb1, hat, hseg⟩ := hr.blk _ _ _ hblk
                obtain ⟨cs, tt, fz, pre, rest, hW, hth, hcs, hpre, hrm⟩ := hat.ex
                have hth := hth (by omega)
                have hrm := hrm (by omega)
                obtain ⟨tv, vs', hvs, hT, hnil⟩ := hseg
                cases hnil
                rw [List.append_nil] at hvs
                subst hvs
                have hj0 := geZ_ok hj0 (IExp.rng_ok ok hf.2 j)
                have hz := sumI_ok ok hf.2 hz
                have huu := lessI_ok ok hf.2 huu
                have hzN := knowsLe_ok ok hf.2 hzN
                have hnew := hT.spl ok hf.2 t2 hcc hj0 hz huu hzN
                have hpos := tabPos_ok (e := e) hpos
                rw [Nat.zero_add] at hpos
                rw [hcl, ← hpos] at hnew
                have hLw : L.length = (cn.den e).toNat * w := by rw [t2.length, t1]
                have hcn := t2.n0
                have hvl := hT.length
                have p2 : a.pos e + L.length ≤ vs.length := by
                  rw [hpos, hLw, hvl, hcl, ← Nat.add_mul]
                  exact Nat.mul_le_mul_right _ (by omega)
                have hcsz : cs.size = o1 + (vs ++ rest).length := by
                  rw [← Array.length_toList, hcs, ← hpre]; simp only [List.length_append]; omega
                have hone := SegsD.one l2
                have hW2 : ∃ W', (∀ a1, o = some a1 → (storeCells a1 L).run P W = .ok () W') ∧ (o = none → W' = W) ∧ Post e ov ro ρ W ρ (h.set a.b (some ([.tab N cc], bt))) W' := by
                  have hposts : ∀ cs' : Array Value, cs'.toList = pre ++ (vs.take (a.pos e) ++ L ++ vs.drop (a.pos e + L.length)) ++ rest → Post e ov ro ρ W ρ (h.set a.b (some ([.tab N cc], bt))) (W.setRow b cs') :=
                    fun cs' hcs' => Post.set hr hro hov hblk hb1 hW hth hcs hcs' (by simp; omega) hpre hrm ⟨_, [], (List.append_nil _).symm, hnew, rfl⟩
                  rcases ho with ⟨A1, hA1, rfl, _⟩ | ⟨h4, h5, _⟩
                  · obtain ⟨rfl, _⟩ := Ad.at' hA1 hb1
                    have hstc := run_storeCells_thaw (P := P) b (o1 + a.pos e) tt fz L 0 cs W hW hth (by rw [hcsz]; simp; omega) hone
                    refine ⟨_, (fun a1 ha1 => by cases ha1; exact hstc), (fun hh => by cases hh), hposts _ ?_⟩
                    simp only [Nat.add_zero]
                    rw [hcs, ← hpre]
                    rw [List.append_assoc pre, List.take_append, List.take_of_length_le (l := pre) (by omega), List.drop_append, List.drop_eq_nil_of_le (as := pre) (by omega)]
                    simp only [List.nil_append, List.append_assoc]
                    rw [show pre.length + a.pos e - pre.length = a.pos e by omega, show pre.length + a.pos e + L.length - pre.length = a.pos e + L.length by omega]
                    rw [List.take_append_of_le_length (by omega), List.drop_append_of_le_length (by omega)]
                  · have hA0 : L = [] := List.length_eq_zero_iff.1 (by rw [l1, hmin.1, h4]; simp)
                    rw [hA0] at hposts ⊢
                    refine ⟨W, (fun a1 _ => by simp [storeCells]), (fun _ => rfl), ?_⟩
                    have := hposts cs (by rw [hcs]; simp)
                    rwa [setRow_self W b cs tt fz hW] at this
                obtain ⟨W', w1, w2, w3⟩ := hW2
                have hfc := l3 W (Stay.refl _ _ _)
                rw [hmin.1] at hfc
                refine ⟨goInt (c.den e).toNat, ρ, W', ?_, ⟨_, rfl, ?_⟩, w3, hf.2⟩
                · cases o with
                  | none =>
                    have := w2 rfl
                    subst this
                    simp [Builtin.copy_, run_underlying hu, hlen, sizeOf, typeInfo, hie, hsz, hfc, hmin.1]
                  | some a1 =>
                    have := w1 a1 rfl
                    simp [Builtin.copy_, run_underlying hu, hlen, sizeOf, typeInfo, hie, hsz, hfc, this, hmin.1]
                · show goInt _ = .int .i64 (c.den e)
                  unfold goInt
                  rw [Int.toNat_of_nonneg s0]
              · cases h2
            · cases h2
          · cases h2
        · cases h2
      · cases h2
    · cases hs
  · cases hs
include ok hov in
theorem effCopy'_ok {as as' : Asm} (ha : AsmOk e as) {h h' : SHeap} {W : World} (hr : HRel e ov ρ h W) {t u ty : TypeId} {d x : Cell} {D X : Value} {y : Option SV} (hD : d.D e ρ D) (hX : x.D e ρ X)
    (hs : (effCopy' P ro as h t d x).pick e = some ((y, h'), as')) :
    ∃ V ρ' W', (Builtin.copy_ #[t, u] ty #[D, X]).run P W = .ok V W' ∧ (∃ sv, y = some sv ∧ sv.D e ρ' V) ∧ Post e ov ro ρ W ρ' h' W' ∧ AsmOk e as' := by
  unfold effCopy' at hs
  split at hs
  · exact effCopy_ok ok hov ha hr hD hX hs
  · exact effCopyT_ok ok hov ha hr hD hX hs
include ok in
theorem effMake'_ok {as as' : Asm} (ha : AsmOk e as) {h h' : SHeap} {W : World} (hr : HRel e ov ρ h W) {t : TypeId} {n c : IExp} {y : Option SV} {kl kc : IntKind}
    (hs : (effMake' P as h t n c).pick e = some ((y, h'), as')) :
    ∃ V ρ' W', (Instr.makeSlice t (.int kl (n.den e)) (.int kc (c.den e))).run P W = .ok V W' ∧ (∃ sv, y = some sv ∧ sv.D e ρ' V) ∧ Post e ov ro ρ W ρ' h' W' ∧ AsmOk e as' := by
  unfold effMake' at hs
  split at hs
  · exact effMake_ok ok ha hr hs
  split at hs
  · rename_i q hq
    have hs := leaf_inv hs
    subst hs
    unfold effMakeT at hq
    split at hq
    · rename_i el w byt hel
      obtain ⟨h1, hw0, hb0, ie, z, h3, h4, h5, h6, h7⟩ := structElem_ok hel
      rw [h3] at hq
      simp only [h4] at hq
      split at hq
      · rename_i cols hcols
        split at hq
        · rename_i hc
          simp only [Option.some.injEq, Prod.mk.injEq] at hq
          obtain ⟨⟨rfl, rfl⟩, rfl⟩ := hq
          subst h7
          simp only [Bool.and_eq_true] at hc
          have g1 := knowsLe_ok ok ha hc.1.1
          have g2 := knowsLe_ok ok ha hc.1.2
          have g3 := knowsLe_ok ok ha hc.2
          rw [litD] at g1 g3
          have hbytes : (ie.bytes : Int) * c.den e ≤ 281474976710656 := by
            have e1 : (ie.bytes : Int) * c.den e ≤ (ie.bytes : Int) * (281474976710656 / (ie.bytes : Int)) := Int.mul_le_mul_of_nonneg_left g3 (by omega)
            have e2 : (ie.bytes : Int) * (281474976710656 / (ie.bytes : Int)) ≤ 281474976710656 := by rw [Int.mul_comm]; exact Int.ediv_mul_le _ (by omega)
            omega
          have h63 : c.den e ≤ 9223372036854775807 := by
            have e1 : c.den e ≤ (ie.bytes : Int) * c.den e := by
              have : (1 : Int) * c.den e ≤ (ie.bytes : Int) * c.den e := Int.mul_le_mul_of_nonneg_right (by omega) (by omega)
              omega
            omega
          have hrun := run_make (P := P) W t el ie z h1 h3 h4 kl kc (n.den e) (c.den e) g1 g2 hbytes h63
          have hT := zeroCols_tab (e := e) hcols (by omega) (by omega)
          refine ⟨_, _, _, hrun, ⟨_, rfl, ?_⟩, Post.alloc (r := 0) hr (vs := (madeCells z.cells ((c.den e).toNat * z.cells.size)).toList) (rest := []) ?_ ⟨_, [], (List.append_nil _).symm, hT, rfl⟩ (Nat.zero_le _), ha⟩
          · exact ⟨_, _, _, rfl, by omega, by omega, .inl ⟨_, new_ad hr _ _ _, rfl, by show ((c.den e).toNat : Int) = c.den e; omega⟩⟩
          · rw [h5, h6, List.append_nil]
        · cases hq
      · cases hq
    · cases hq
  · exact effMake_ok ok ha hr hs
theorem foldl_push (l : List Int) : ∀ (s : ByteArray), l.foldl (fun r n => r.push (UInt8.ofNat n.toNat)) s = s ++ strOf l := by
  induction l with
  | nil => intro s; apply ByteArray.ext; simp [strOf, ByteArray.data_append]
  | cons n l ih =>
    intro s
    rw [List.foldl_cons, ih]
    apply ByteArray.ext
    simp [strOf, ByteArray.data_append, ByteArray.data_push]

include ok hov in
theorem seff_ok {G : Nat} (hG : Glob G ρ) {tmps : Tm} {a : Act} (ht : TmD e ρ tmps a.tmps.toList) {as as' : Asm} (ha : AsmOk e as) {h h' : SHeap} {o : Oper} {x : Option SV}
    (hs : (seff P G ro tmps as h o.op).pick e = some ((x, h'), as')) {W : World} (hr : HRel e ov ρ h W) : EffOk P e ov ro ρ W (execOp a.eval o) x h' as' := by
  obtain ⟨dst, op, ty, pos, after, guard⟩ := o
  simp only at hs
  unfold seff at hs
  unfold EffOk
  split at hs
  · rename_i t
    simp only [execOp]
    have hq := oLeaf_inv hs
    clear hs
    obtain ⟨hs, rfl⟩ := hq
    obtain ⟨l, hl, hs⟩ := Option.map_eq_some_iff.1 hs
    obtain ⟨rfl, rfl⟩ := Prod.mk.inj hs
    unfold zeroSegs at hl
    split at hl
    · rename_i i hi
      split at hl
      · rename_i z hz
        have hd := zeroOf_ok (e := e) (ρ := ρ) hl
        refine ⟨_, _, _, run_v ?_, ⟨_, rfl, ⟨_, new_ad hr _ _ _, rfl⟩⟩, Post.alloc (t := t) (r := 0) hr (rest := []) (by rw [List.append_nil]) hd (Nat.zero_le _), ha⟩
        simp [Instr.alloc, zeroValue, typeInfo, hi, hz, newVar, newRow]
      · cases hl
    · cases hl
  · rename_i t y
    simp only [execOp]
    have hq := oLeaf_inv hs
    clear hs
    obtain ⟨hs, rfl⟩ := hq
    obtain ⟨sv, hsv, hs⟩ := Option.map_eq_some_iff.1 hs
    obtain ⟨rfl, rfl⟩ := Prod.mk.inj hs
    have hd := SV.segs_D (evalSV hG ht hsv)
    refine ⟨_, _, _, run_v ?_, ⟨_, rfl, ⟨_, new_ad hr _ _ _, rfl⟩⟩, Post.alloc (t := t) (r := 0) hr (rest := []) (by rw [List.append_nil]) hd (Nat.zero_le _), ha⟩
    simp [Instr.box, newVar, newRow]
  · rename_i t y z
    simp only [execOp]
    split at hs
    · rename_i ad sv i had hsv hi
      split at hs
      · rename_i hc
        obtain ⟨hsz, hro⟩ := hc
        obtain ⟨A, hA, hv⟩ := evalCell hG ht had
        have hval := evalSV hG ht hsv
        have hd := SV.segs_D hval
        have hlen := segsLen_eq hd hsz.symm
        split at hs
        · rename_i l bt hblk
          obtain ⟨b', o', r', vs, hb, hat, hseg⟩ := hr.blk _ _ _ hblk
          obtain ⟨cs, tt, fz, pre, rest, hW, hth, hcs, hpre, hrm⟩ := hat.ex
          have hth := hth (by omega)
          have hrm := hrm (by omega)
          obtain ⟨rfl, h0⟩ := Ad.at' hA hb
          have hone := SegsD.one hd
          have hcsz : cs.size = o' + (vs ++ rest).length := by
            rw [← Array.length_toList, hcs, ← hpre]; simp only [List.length_append]; omega
          have hst : ∀ off, off + (a.eval z).cells.toList.length ≤ vs.length → ∃ cs' : Array Value, (Instr.storeAt t (.pointer (some ⟨b', o' + off, none⟩)) (a.eval z)).run P W = .ok () (W.setRow b' cs') ∧ cs'.toList = pre ++ (vs.take off ++ (a.eval z).cells.toList ++ vs.drop (off + (a.eval z).cells.toList.length)) ++ rest := by
            intro off hle
            have hrun := run_storeCells_thaw (P := P) b' (o' + off) tt fz (a.eval z).cells.toList 0 cs W hW hth (by rw [hcsz]; simp at hle ⊢; omega) hone
            have hsize : (a.eval z).cells.size = P.cellsOf t := by rw [cellsOf_eq hi, hlen]; simp
            refine ⟨_, by simp [Instr.storeAt, Instr.sureAddr, storeVar, run_sizeOf' hi, hsize] at hrun ⊢; exact hrun, ?_⟩
            rw [← hsize]
            simp only [Array.length_toList] at hle ⊢
            rw [hcs, ← hpre]
            rw [List.append_assoc pre, List.take_append, List.take_of_length_le (l := pre) (by omega), List.drop_append, List.drop_eq_nil_of_le (as := pre) (by omega)]
            simp only [List.nil_append, List.append_assoc]
            rw [show pre.length + off - pre.length = off by omega, show pre.length + off + (a.eval z).cells.size - pre.length = off + (a.eval z).cells.size by omega]
            rw [List.take_append_of_le_length (by omega), List.drop_append_of_le_length (by omega)]
          have fin : ∀ (p : Nat) (l' : List Seg), p < vs.length → (a.eval z).cells.toList = [a.eval z] → SegsD e ρ l' (vs.set p (a.eval z)) → ad.pos e = p →
              ∃ N ρ' W', (do Instr.storeAt t (a.eval y) (a.eval z); pure Next.skip : Sem Next).run P W = .ok N W' ∧ OptD e ρ' none N ∧ Post e ov ro ρ W ρ' (h.set ad.b (some (l', bt))) W' ∧ AsmOk e as := by
            intro p l' hp hcl hD hpos
            obtain ⟨cs', hrun, hcs'⟩ := hst p (by rw [hcl]; simp; omega)
            rw [hcl] at hcs'
            simp only [List.length_singleton] at hcs'
            rw [← hpos] at hrun
            rw [hv]
            refine ⟨_, _, _, run_u hrun, rfl, Post.set hr hro hov hblk hb hW hth hcs (vs' := vs.set p (a.eval z)) ?_ (by simp) hpre hrm hD, ha⟩
            rw [hcs', List.set_eq_take_append_cons_drop, if_pos hp]
            simp
          split at hs
          · rename_i l' hl'
            have hs := leaf_inv hs
            cases hs
            have hw := storeT_ok ok ha hseg hd hl'
            obtain ⟨cs', hrun, hcs'⟩ := hst (ad.pos e) hw.1
            rw [hv]
            exact ⟨_, _, _, run_u hrun, rfl, Post.set hr hro hov hblk hb hW hth hcs hcs' (by have := hw.1; simp at this ⊢; omega) hpre hrm hw.2, ha⟩
          rename_i hnoT
          split at hs
          · rename_i v hix
            have hq := oLeaf_inv hs
            clear hs
            obtain ⟨hs, rfl⟩ := hq
            simp only [Option.map_eq_some_iff, Prod.mk.injEq] at hs
            obtain ⟨l', hl', rfl, rfl⟩ := hs
            have hw := write1_ok ok ha hseg hval hl'
            exact fin ad.off l' hw.1 (by rw [(Cell.one hval).2]) hw.2 (by unfold Ad.pos; rw [hix])
          · rename_i s hix
            have hq := oLeaf_inv hs
            clear hs
            obtain ⟨hs, rfl⟩ := hq
            simp only [Option.map_eq_some_iff, Prod.mk.injEq] at hs
            obtain ⟨l', hl', rfl, rfl⟩ := hs
            have hw := writeSegs_ok ok ha hseg hd hl'
            obtain ⟨cs', hrun, hcs'⟩ := hst ad.off hw.1
            have hpos : ad.pos e = ad.off := by unfold Ad.pos; rw [hix]
            rw [← hpos] at hrun
            rw [hv]
            exact ⟨_, _, _, run_u hrun, rfl, Post.set hr hro hov hblk hb hW hth hcs hcs' (by have := hw.1; simp at this ⊢; omega) hpre hrm hw.2, ha⟩
          · rename_i ie n v hix
            have hq := oLeaf_inv hs
            clear hs
            obtain ⟨hs, rfl⟩ := hq
            simp only [Option.map_eq_some_iff, Prod.mk.injEq] at hs
            obtain ⟨l', hl', rfl, rfl⟩ := hs
            have hw := writeIx_ok ok ha (h0 _ hix) hseg hval hl'
            exact fin _ l' hw.1 (by rw [(Cell.one hval).2]) hw.2 (by unfold Ad.pos; rw [hix])
          · cases hs
        · cases hs
      · cases hs
    · cases hs
  · rename_i t len parts
    simp only [execOp]
    split at hs
    · rename_i el ps hu hps
      split at hs
      · rename_i ie hie
        split at hs
        · rename_i z hz
          split at hs
          · rename_i h00
            obtain ⟨h0, hq⟩ := oLeaf_inv hs
            cases hq
            simp only [Option.some.injEq, Prod.mk.injEq] at h0
            obtain ⟨rfl, rfl⟩ := h0
            obtain ⟨rfl, hp0⟩ := h00
            refine ⟨_, _, _, run_v (run_buildSlice0 W t el parts a.eval ie hu hie hp0), ⟨_, rfl, ?_⟩, Post.alloc (r := 0) hr (vs := []) (rest := []) rfl rfl (Nat.zero_le _), ha⟩
            exact ⟨_, _, _, rfl, (litD _ _).symm, Nat.le_refl _, .inl ⟨_, new_ad hr _ _ _, rfl, (litD _ _).symm⟩⟩
          split at hs
          · cases hs
          · rename_i hc
            simp only [not_or] at hc
            split at hs
            · rename_i l hl
              have hq := oLeaf_inv hs
              clear hs
              obtain ⟨hs, rfl⟩ := hq
              simp only [Option.map_eq_some_iff, Prod.mk.injEq] at hs
              obtain ⟨l', hl', rfl, rfl⟩ := hs
              have hp := evalParts_ok hG ht hps
              obtain ⟨cs, hf, hd⟩ := sfill_ok ok ha hp (constCells_ok (e := e) (ρ := ρ) hl) hl'
              have hrun := run_buildSlice W t el len (parts.map fun (i, x) => (i, a.eval x)) cs ie z hu hie hz hc.1 hc.2 (by simpa using hf)
              refine ⟨_, _, _, run_v hrun, ⟨_, rfl, ?_⟩, Post.alloc (r := 0) hr (rest := []) (by rw [List.append_nil]) hd (Nat.zero_le _), ha⟩
              exact ⟨_, _, _, rfl, rfl, Nat.le_refl _, .inl ⟨_, new_ad hr _ _ _, rfl, rfl⟩⟩
            · cases hs
        · cases hs
      · cases hs
    · cases hs
  · rename_i t l c
    simp only [execOp]
    split at hs
    · rename_i n m hn hm
      obtain ⟨kl, hkl⟩ := evalI_ok hG ht hn
      obtain ⟨kc, hkc⟩ := evalI_ok hG ht hm
      obtain ⟨V, ρ', W', hrun, ⟨sv, rfl, hD⟩, hp, has⟩ := effMake'_ok ok (ro := ro) (kl := kl) (kc := kc) ha hr hs
      exact ⟨_, ρ', W', run_v (by rw [hkl, hkc]; exact hrun), ⟨V, rfl, hD⟩, hp, has⟩
    · cases hs
  · rename_i s d y
    simp only [execOp]
    split at hs
    · rename_i c el hc hsu hdu
      split at hs
      · rename_i n hel hn
        split at hs
        · rename_i ad l cap A hsrc
          have hs := leaf_inv hs
          cases hs
          have hC := evalCell hG ht hc
          obtain ⟨s1, s2, s3⟩ := srcOf_ok (P := P) ok ha hr hC (fun z hz => by rw [hn] at hz; cases hz; exact Int.le_refl _) hsrc
          refine ⟨_, ρ, W, run_v ?_, ⟨_, rfl, rfl⟩, Post.refl hr, ha⟩
          have hfc := s3 W (Stay.refl _ _ _)
          simp only [lenOfC, Option.some.injEq] at hn
          subst hn
          have hsh : ∃ o n' c', a.eval y = .slice o n' c' ∧ (n' : Int) = l.den e := by
            cases ad with
            | none => obtain ⟨hv, hl, _⟩ := hC; exact ⟨none, 0, 0, hv, by rw [hl]; rfl⟩
            | some q => obtain ⟨o, n', c', hv, hl, _⟩ := hC; exact ⟨o, n', c', hv, hl⟩
          obtain ⟨o, n', c', hv, hl⟩ := hsh
          rw [hv] at hfc ⊢
          rw [run_convert_bytes_string W s d el o n' c' hsu hel hdu]
          have hl2 : (l.den e).toNat = n' := by omega
          rw [hl2] at hfc
          cases o with
          | none =>
            rw [run_firstCells_none] at hfc
            simp only [Result.ok.injEq, and_true] at hfc
            have hA0 : A.den e = [] := by
              have := congrArg Array.size hfc
              simpa using this.symm
            rw [hA0]
            simp [Conv.bytesToString, strOf]
            rfl
          | some q =>
            simp only [Builtin.firstCells, Nat.mul_one] at hfc
            rw [run_bytesToString W q n' c' (A.den e) hfc, foldl_push]
            congr 2
        · cases hs
      · cases hs
    · rename_i a1 n cap el el' hc hsu hdu
      split at hs
      · rename_i bk hel hbk
        split at hs
        · rename_i hcond
          obtain ⟨rfl, hroa, hpos⟩ := hcond
          have hs := leaf_inv hs
          cases hs
          have hC := evalCell hG ht hc
          have hn := knowsLt_ok ok ha hpos
          rw [litD] at hn
          obtain ⟨o, n', c', hv, h1, h2, h3⟩ := hC
          rcases h3 with ⟨A, hA, ho, hcap⟩ | ⟨h4, _, _⟩
          · subst ho
            obtain ⟨l, t⟩ := bk
            obtain ⟨b, o1, r, vs, hb, hat, hl⟩ := hr.blk _ _ _ hbk
            obtain ⟨cs, u, fz, pre, rest, hW, hth, hcs, hpre, hrm⟩ := hat.ex
            have hth := hth (by omega)
            obtain ⟨hAe, _⟩ := Ad.at' hA hb
            obtain ⟨fz', hW', hth', hos, htape, hout, hsize, hsame⟩ := freeze_end W b cs u fz hW hth
            refine ⟨_, ρ, _, run_v (by rw [hv, hAe]; exact run_convert_same W s el hsu hel b _ n' c' cs u fz hW), ⟨_, rfl, ?_⟩, Post.mark hr hroa hov hbk hb hW hW' hth' hos htape hout hsize hsame, ha⟩
            exact ⟨_, n', c', rfl, h1, h2, .inl ⟨A, hA, by rw [hAe], hcap⟩⟩
          · omega
        · cases hs
      · cases hs
    · cases hs
  · rename_i c
    obtain ⟨callee, args, argTypes⟩ := c
    simp only at hs
    split at hs
    · rename_i co o' q' t u hargs htys
      have hargs' : args = #[o', q'] := by apply Array.ext'; rw [hargs]
      have htys' : argTypes = #[t, u] := by apply Array.ext'; rw [htys]
      subst hargs' htys'
      split at hs
      · rename_i el s x hu h1 h2
        obtain ⟨V, ρ', W', hrun, ⟨sv, rfl, hD⟩, hp, has⟩ := effAppend'_ok ok hov (ty := ty) ha hr (evalCell hG ht h1) (evalCell hG ht h2) ⟨_, hu⟩ hs
        refine ⟨_, ρ', W', ?_, ⟨V, rfl, hD⟩, hp, has⟩
        simp [execOp, resolve, invoke, builtin, hrun]
      · rename_i s x hu h1 h2
        obtain ⟨V, ρ', W', hrun, ⟨sv, rfl, hD⟩, hp, has⟩ := effAppend_ok ok hov (ty := ty) ha hr (evalCell hG ht h1) (evalCell hG ht h2) (.inl hu) hs
        refine ⟨_, ρ', W', ?_, ⟨V, rfl, hD⟩, hp, has⟩
        simp [execOp, resolve, invoke, builtin, hrun]
      · cases hs
    · rename_i co o' q' t u hargs htys
      have hargs' : args = #[o', q'] := by apply Array.ext'; rw [hargs]
      have htys' : argTypes = #[t, u] := by apply Array.ext'; rw [htys]
      subst hargs' htys'
      split at hs
      · rename_i d x h1 h2
        obtain ⟨V, ρ', W', hrun, ⟨sv, rfl, hD⟩, hp, has⟩ := effCopy'_ok ok hov (u := u) (ty := ty) ha hr (evalCell hG ht h1) (evalCell hG ht h2) hs
        refine ⟨_, ρ', W', ?_, ⟨V, rfl, hD⟩, hp, has⟩
        simp [execOp, resolve, invoke, builtin, hrun]
      · cases hs
    · cases hs
  · cases hs
/-! ### append where the block stays known: in its room or behind it -/
def keepTag : Nat := 1000003
def sroom (P : Program) (G ro : Nat) (tmps : Tm) (as : Asm) (h : SHeap) (op : Op) : Option ((SVal × SHeap) × (SVal × SHeap)) :=
  match op with
  | .call c => match c.callee, c.args.toList, c.argTypes.toList with
    | .builtin .append, [o, q], [t, u] =>
      (match P.underlying u, asCell (seval G tmps o), asCell (seval G tmps q), intElem P t with
      | some (.slice _), some (.sl (some a) n none), some x, some (_, k, byt) =>
        (match h[a.b]?, lenOfC as x with
        | some (some ([.row k1 A], tag)), some m =>
          if tag = keepTag then
            (match sumI as n m, srcOf as h x m, a.ix with
            | some need, some (k2, X), none =>
              if a.off = 0 ∧ ro ≤ a.b ∧ k1 = k ∧ k2 = k ∧ geZ (n.rng as) = true ∧ knowsLe as n (mkLen as A) = true ∧ knowsLe as need (.lit (140737488355328 / byt)) = true then
                some ((.v (.c (.sl (some a) need none)), h.set a.b (some ([.row k (mkCat (mkPart as A (.lit 0) n) X)], keepTag))), (.v (.c (.sl (some ⟨h.length, 0, none⟩) need none)), h ++ [some ([.row k (mkCat (mkPart as A (.lit 0) n) X)], keepTag)]))
              else none
            | _, _, _ => none)
          else none
        | _, _ => none)
      | _, _, _, _ => none)
    | _, _, _ => none
  | _ => none
include ok hov in
theorem sroom_ok {G : Nat} (hG : Glob G ρ) {tmps : Tm} {a : Act} (ht : TmD e ρ tmps a.tmps.toList) {as : Asm} (ha : AsmOk e as) {h : SHeap} {o : Oper} {q1 q2 : SVal × SHeap}
    (hs : sroom P G ro tmps as h o.op = some (q1, q2)) {W : World} (hr : HRel e ov ρ h W) : ∃ q, (q = q1 ∨ q = q2) ∧ ∃ V ρ' W', (execOp a.eval o).run P W = .ok (.value V) W' ∧ q.1.D e ρ' V ∧ Post e ov ro ρ W ρ' q.2 W' := by
  obtain ⟨dst, op, ty, pos, after, guard⟩ := o
  simp only at hs
  unfold sroom at hs
  split at hs
  · rename_i c
    obtain ⟨callee, args, argTypes⟩ := c
    simp only at hs
    split at hs
    · rename_i co o' q' t u hargs htys
      have hargs' : args = #[o', q'] := by apply Array.ext'; rw [hargs]
      have htys' : argTypes = #[t, u] := by apply Array.ext'; rw [htys]
      subst hargs' htys'
      split at hs
      · rename_i el2 ad n x el k byt hu h1 h2 hel
        split at hs
        · rename_i k1 A tag m hblk hm
          split at hs
          · rename_i htag
            split at hs
            · rename_i need k2 Xs hneed hsrc hix
              split at hs
              · rename_i hc
                obtain ⟨hoff, hro, rfl, rfl, hn0, hnA, hk⟩ := hc
                cases hs
                have hS := evalCell hG ht h1
                have hX := evalCell hG ht h2
                obtain ⟨m0, hlen⟩ := lenOfC_run ok (P := P) ha hX hm
                have byt0 := (intElem_ok hel).2.2.1
                have hneed := sumI_ok ok ha hneed
                have hn0 := geZ_ok hn0 (IExp.rng_ok ok ha n)
                have hnA := knowsLe_ok ok ha hnA
                rw [mkLen_den ok ha] at hnA
                obtain ⟨s1, s2, s3⟩ := srcOf_ok (P := P) ok ha hr hX (fun z hz => by rw [hm] at hz; cases hz; exact Int.le_refl _) hsrc
                obtain ⟨b, o1, r, vs, hb1, hat, hseg⟩ := hr.blk _ _ _ hblk
                obtain ⟨cs, tt, fz, pre, rest, hW, hth, hcs, hpre, hrm⟩ := hat.ex
                have hth := hth (by omega)
                have hrm := hrm (by omega)
                obtain ⟨vs', hvs, hnil⟩ := hseg
                have hnil : vs' = [] := hnil
                subst hnil
                rw [List.append_nil] at hvs
                subst hvs
                have hpart : (mkPart as A (.lit 0) n).den e = (A.den e).take (n.den e).toNat := by rw [mkPart_den ok ha, litD]; simp
                obtain ⟨oo, n', c', hv, hn, hnc, ho⟩ := hS
                have hn2 : (n.den e).toNat = n' := by omega
                rw [hn2] at hpart
                have hcsz : cs.size = o1 + ((A.den e).map (Value.int k2) ++ rest).length := by
                  rw [← Array.length_toList, hcs, ← hpre]; simp only [List.length_append]; omega
                have hfits : (n' + (m.den e).toNat) * byt ≤ 140737488355328 := by
                  have := knowsLe_ok ok ha hk
                  rw [litD, hneed] at this
                  have h1 : (n.den e + m.den e) * byt ≤ 140737488355328 / (byt : Int) * byt := Int.mul_le_mul_of_nonneg_right this (by omega)
                  have h2 : (140737488355328 : Int) / (byt : Int) * byt ≤ 140737488355328 := Int.ediv_mul_le _ (by omega)
                  have h3 : (((n' + (m.den e).toNat) * byt : Nat) : Int) = (n.den e + m.den e) * byt := by push_cast; rw [← hn, Int.toNat_of_nonneg m0]
                  omega
                by_cases hgo : n' + (m.den e).toNat ≤ c'
                · refine ⟨_, .inl rfl, ?_⟩
                  rcases ho with ⟨A1, hA1, rfl, hcap⟩ | ⟨h4, h5, _⟩
                  · obtain ⟨b2, o2, r2, hcap, hcw⟩ := hcap
                    rw [hb1] at hcap
                    cases hcap
                    have hcw : r = c' := by unfold Ad.wid Ad.pos at hcw; rw [hix, hoff] at hcw; simpa using hcw.symm
                    subst hcw
                    have hA1' := hA1
                    obtain ⟨rfl, _⟩ := Ad.at' hA1 hb1
                    have hpos : ad.pos e = 0 := by unfold Ad.pos; rw [hix, hoff]
                    have hst := run_storeCells_thaw (P := P) b (o1 + n') tt fz ((Xs.den e).map (Value.int k2)) 0 cs W hW hth (by simp [s2] at hrm ⊢; rw [hcsz]; simp; omega) (fun v hv => by obtain ⟨z, _, rfl⟩ := List.mem_map.1 hv; rfl)
                    rw [← addr_add] at hst
                    rw [hpos, Nat.add_zero] at hA1' hv
                    have hrun := run_append_in W _ t u ty el k2 byt hel (.inr ⟨_, hu⟩) (some ⟨b, o1, none⟩) n' r (m.den e).toNat (a.eval q') ((Xs.den e).map (Value.int k2)) hlen (s3 _ (Stay.refl _ _ _)) (fun q hq => by cases hq; exact hst) (fun hq => by cases hq) hgo
                    have hnew : (cs.toList.take (o1 + n' + 0) ++ (Xs.den e).map (Value.int k2) ++ cs.toList.drop (o1 + n' + 0 + ((Xs.den e).map (Value.int k2)).length)).toArray.toList = pre ++ ((A.den e).take n' ++ Xs.den e).map (Value.int k2) ++ ((A.den e).map (Value.int k2) ++ rest).drop (n' + (m.den e).toNat) := by
                      show cs.toList.take (o1 + n' + 0) ++ (Xs.den e).map (Value.int k2) ++ cs.toList.drop (o1 + n' + 0 + ((Xs.den e).map (Value.int k2)).length) = _
                      simp only [Nat.add_zero, List.length_map, s2]
                      rw [hcs, ← hpre]
                      rw [List.append_assoc pre, List.take_append, List.take_of_length_le (l := pre) (by omega), List.drop_append, List.drop_eq_nil_of_le (as := pre) (by omega)]
                      simp only [List.nil_append, List.append_assoc, List.map_append]
                      rw [show pre.length + n' - pre.length = n' by omega, show pre.length + n' + (m.den e).toNat - pre.length = n' + (m.den e).toNat by omega]
                      rw [List.take_append_of_le_length (by simp; omega), ← List.map_take]
                    refine ⟨.slice (some ⟨b, o1, none⟩) (n' + (m.den e).toNat) r, ρ, _, ?_, ?_, Post.set' hr hro hov hblk hb1 hW hth hcs hnew ?_ hpre ?_ ⟨[], by rw [mkCat_den, hpart]; simp, rfl⟩⟩
                    · simp [execOp, resolve, invoke, builtin, hv, hrun]
                    · exact ⟨_, _, _, rfl, by omega, hgo, .inl ⟨_, hA1', rfl, ⟨_, _, _, hb1, by unfold Ad.wid Ad.pos; rw [hix, hoff]; simp⟩⟩⟩
                    · rw [← Array.length_toList, hnew, hcsz]
                      simp only [List.length_append, List.length_map, List.length_take, List.length_drop, s2, hpre] at hrm ⊢
                      omega
                    · simp only [List.length_append, List.length_map, List.length_take, List.length_drop, s2] at hrm ⊢
                      omega
                  · have hm2 : (m.den e).toNat = 0 := by omega
                    have hX0 : Xs.den e = [] := List.length_eq_zero_iff.1 (by omega)
                    have hfc := s3 W (Stay.refl _ _ _)
                    rw [hX0] at hfc
                    subst h4 h5
                    have hrun := run_append_in W W t u ty el k2 byt hel (.inr ⟨_, hu⟩) oo 0 0 (m.den e).toNat (a.eval q') [] hlen hfc (fun q hq => by simp [storeCells]) (fun _ => rfl) hgo
                    have hself := setRow_self W b cs tt fz hW
                    have hp := Post.set' (ro := ro) (u' := keepTag) hr hro hov hblk hb1 hW hth hcs (cs' := cs) (vs' := []) (rest' := (A.den e).map (Value.int k2) ++ rest) (l' := [.row k2 (mkCat (mkPart as A (.lit 0) n) Xs)]) (by rw [hcs]; simp) rfl hpre (by simpa using hrm) ⟨[], by rw [mkCat_den, hpart, hX0]; simp, rfl⟩
                    rw [hself] at hp
                    refine ⟨.slice oo (0 + (m.den e).toNat) 0, ρ, W, ?_, ?_, hp⟩
                    · simp [execOp, resolve, invoke, builtin, hv, hrun]
                    · exact ⟨_, _, _, rfl, by omega, by omega, .inr ⟨by omega, rfl, fun z hz => by cases hz⟩⟩
                · refine ⟨_, .inr rfl, ?_⟩
                  have hold : (Builtin.firstCells 1 n' (.slice oo n' c')).run P W.drew = .ok (((A.den e).take n').map (Value.int k2)).toArray W.drew := by
                    rcases ho with ⟨A1, hA1, rfl, _⟩ | ⟨h4, h5, _⟩
                    · obtain ⟨rfl, _⟩ := Ad.at' hA1 hb1
                      have hpos : ad.pos e = 0 := by unfold Ad.pos; rw [hix, hoff]
                      refine run_firstCells_some (P := P) W.drew 1 n' _ n' c' _ (by simp; omega) ?_
                      have := cells_at (W := W.drew) (p := 0) (n := n') hW hcs hpre
                      rw [hpos]
                      simpa [List.map_take] using this
                    · subst h4 h5
                      cases oo with
                      | none => exact run_firstCells_none (P := P) _ _ _ _ _
                      | some q => exact run_firstCells_some (P := P) _ 1 0 q 0 0 [] rfl (fun j v hj => by simp at hj)
                  have hrun := run_append_new W t u ty el k2 byt hel (.inr ⟨_, hu⟩) oo n' c' (m.den e).toNat (a.eval q') (((A.den e).take n').map (Value.int k2)) ((Xs.den e).map (Value.int k2)) hlen hold (s3 _ (Stay.drew _ _ _)) (by omega) hfits
                  have hge := grownCap_ge' W (n' + (m.den e).toNat) c' el
                  have p1 : Post e ov ro ρ W ρ h W.drew := Post.drew hr (W.drawn + 1)
                  have p2 := Post.alloc (ro := ro) (t := el) (u := keepTag) p1.rel (l := [.row k2 (mkCat (mkPart as A (.lit 0) n) Xs)]) (r := grownCap W (n' + (m.den e).toNat) c' el) (cs := (((A.den e).take n').map (Value.int k2)).toArray ++ ((Xs.den e).map (Value.int k2)).toArray ++ Builtin.zeroCells #[.int k2 0] (grownCap W (n' + (m.den e).toNat) c' el - (n' + (m.den e).toNat))) (vs := ((A.den e).take n' ++ Xs.den e).map (Value.int k2)) (rest := (Builtin.zeroCells #[.int k2 0] (grownCap W (n' + (m.den e).toNat) c' el - (n' + (m.den e).toNat))).toList) (by simp) ⟨[], by rw [mkCat_den, hpart]; simp, rfl⟩ (by simp [zeroCells_size, s2]; omega)
                  refine ⟨.slice (some ⟨W.heap.size, 0, none⟩) (n' + (m.den e).toNat) (grownCap W (n' + (m.den e).toNat) c' el), _, _, ?_, ?_, p1.trans p2⟩
                  · simp [execOp, resolve, invoke, builtin, hv, hrun]
                  · refine ⟨_, _, _, rfl, by omega, by omega, .inl ⟨_, new_ad hr _ _ _, rfl, ?_⟩⟩
                    exact ⟨_, _, _, new_get hr _, Nat.mul_one _⟩
              · cases hs
            · cases hs
          · cases hs
        · cases hs
      · cases hs
    · cases hs
  · cases hs
end eff

/-! ### Calls -/
def evalArgs (G : Nat) (tmps : Tm) : List Operand → Option (List SVal)
  | [] => some []
  | o :: r => match seval G tmps o, evalArgs G tmps r with
    | some x, some l => some (x :: l)
    | _, _ => none
theorem evalArgs_ok {e : Env} {ρ : Rho} {G : Nat} (hG : Glob G ρ) {tmps : Tm} {a : Act} (ht : TmD e ρ tmps a.tmps.toList) : ∀ {os : List Operand} {l : List SVal}, evalArgs G tmps os = some l → SValsD e ρ l (os.map a.eval)
  | [], l, h => by simp only [evalArgs, Option.some.injEq] at h; subst h; rfl
  | o :: r, l, h => by
    simp only [evalArgs] at h
    split at h
    · rename_i x q h1 h2
      cases h
      exact ⟨_, _, rfl, seval_ok hG ht h1, evalArgs_ok hG ht h2⟩
    · cases h

def capVals : List Ad → List SVal
  | [] => []
  | a :: r => .v (.c (.p (some a))) :: capVals r
theorem capVals_ok {e : Env} {ρ : Rho} : ∀ {l : List Ad} {vs : List Value}, AdsD e ρ l vs → SValsD e ρ (capVals l) vs
  | [], _, h => h
  | _ :: _, _, ⟨A, vs', h1, h2, h3⟩ => ⟨_, vs', h2, ⟨A, h1, rfl⟩, capVals_ok h3⟩
theorem SValsD.append {e : Env} {ρ : Rho} : ∀ {l l' : List SVal} {vs vs' : List Value}, SValsD e ρ l vs → SValsD e ρ l' vs' → SValsD e ρ (l ++ l') (vs ++ vs')
  | [], _, _, _, h, h' => by cases h; exact h'
  | _ :: _, _, _, _, ⟨v, vs2, h1, h2, h3⟩, h' => by subst h1; exact ⟨v, vs2 ++ _, rfl, h2, SValsD.append h3 h'⟩

def enters (P : Program) (f : Nat) : Bool :=
  match P.funcs[f]? with
  | some fn => !(fn.name == "runtime.NumGoroutine") && fn.body.isSome
  | none => false

def scall (P : Program) (G : Nat) (tmps : Tm) (op : Op) : Option (Nat × List SVal) :=
  match op with
  | .call c =>
    match c.callee with
    | .value f =>
      match asCell (seval G tmps f), evalArgs G tmps c.args.toList with
      | some (.fn g caps), some l => if enters P g then some (g, l ++ capVals caps) else none
      | _, _ => none
    | _ => none
  | _ => none

theorem scall_ok {e : Env} {P : Program} {ρ : Rho} {G : Nat} (hG : Glob G ρ) {tmps : Tm} {a : Act} (ht : TmD e ρ tmps a.tmps.toList) {o : Oper} {f : Nat} {args : List SVal}
    (hs : scall P G tmps o.op = some (f, args)) : ∃ vs, SValsD e ρ args vs ∧ ∀ W, (execOp a.eval o).run P W = .ok (.enter f vs.toArray) W := by
  obtain ⟨dst, op, ty, pos, after, guard⟩ := o
  simp only at hs
  unfold scall at hs
  split at hs
  · rename_i c
    obtain ⟨callee, cargs, argTypes⟩ := c
    simp only at hs
    split at hs
    · rename_i fo
      split at hs
      · rename_i g caps l h1 h2
        split at hs
        · rename_i he
          simp only [Option.some.injEq, Prod.mk.injEq] at hs
          obtain ⟨rfl, rfl⟩ := hs
          obtain ⟨vs, hcap, hv⟩ := evalCell hG ht h1
          have hargs := evalArgs_ok hG ht h2
          refine ⟨_, SValsD.append hargs (capVals_ok hcap), fun W => ?_⟩
          unfold enters at he
          split at he
          · rename_i fn hfn
            simp only [Bool.and_eq_true, Bool.not_eq_true'] at he
            obtain ⟨body, hbody⟩ := Option.isSome_iff_exists.1 he.2
            have hname : fn.name ≠ "runtime.NumGoroutine" := by simpa using he.1
            have e1 : cargs.map a.eval = (List.map a.eval cargs.toList).toArray := by apply Array.ext'; simp
            simp only [execOp, resolve, hv, Deferred.ofValue, invoke, Sem.run_bind, Sem.run_pure, Result.andThen_ok, e1]
            simp [callFunc, hfn, hname, hbody]
          · cases he
        · cases hs
      · cases hs
    · cases hs
  · cases hs
end Go.Proofs.YtaijkkkgpgldbaaDoor.Sy
