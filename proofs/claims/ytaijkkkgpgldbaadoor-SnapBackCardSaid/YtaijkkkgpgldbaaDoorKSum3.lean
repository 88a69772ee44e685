/- Summaries: blocks that an answer does not reach are left out. -/
import Derived.Test.YtaijkkkgpgldbaaDoorKSum2
namespace Go.Proofs.YtaijkkkgpgldbaaDoor.K
open Go Sy
set_option maxRecDepth 100000
set_option linter.unusedVariables false
set_option linter.unusedSimpArgs false
/-! ### What an answer reaches -/
def adsC : Cell → List Nat
  | .p (some a) => [a.b]
  | .sl (some a) _ _ => [a.b]
  | .fn _ l => l.map fun a => a.b
  | _ => []
def adsS : Seg → List Nat
  | .c x => adsC x
  | .el _ _ _ l => l.flatMap adsC
  | _ => []
def adsV : SV → List Nat
  | .c x => adsC x
  | .agg l => l.flatMap adsS
def adsVal : SVal → List Nat
  | .v x => adsV x
  | .tup l => l.flatMap adsV
  | _ => []
/-- Blocks from base on that are reached, each once. -/
def reach (h : SHeap) (base : Nat) : Nat → List Nat → List Nat → List Nat
  | 0, _, acc => acc
  | _ + 1, [], acc => acc
  | n + 1, i :: r, acc => if i < base ∨ acc.contains i = true then reach h base n r acc else
      reach h base n ((match h[i]? with
        | some (some (l, _)) => l.flatMap adsS
        | _ => []) ++ r) (acc ++ [i])
def idxOf : List Nat → Nat → Nat → Nat
  | [], _, d => d
  | j :: r, i, d => if i = j then d else idxOf r i (d + 1)
def cmpLay (base : Nat) (keep : List Nat) : Lay := ⟨id, id, id, fun _ => true, fun _ => true, fun _ => true, fun i => if i < base then i else idxOf keep i base, fun i => Nat.blt i base || keep.contains i, base⟩
def keepOk (base : Nat) (keep : List Nat) (q : SVal × St) : Bool := (cmpLay base keep).valOk q.1 && keep.all (fun i => blkOkS (cmpLay base keep) (q.2.h.getD i none)) && keep.all (fun i => Nat.ble base i && Nat.blt i q.2.h.length) && decide keep.Nodup && decide (base ≤ q.2.h.length) && (q.2.h.take base).all (blkUnder base)
def cmpLeaf (base : Nat) (keep : List Nat) (q : SVal × St) : SVal × St := ((cmpLay base keep).val q.1, ⟨q.2.h.take base ++ keep.map (fun i => blkS (cmpLay base keep) (q.2.h.getD i none)), q.2.as⟩)
def cmpQ (base : Nat) (q : SVal × St) : SVal × St := if keepOk base (reach q.2.h base 1000 (adsVal q.1) []) q then cmpLeaf base (reach q.2.h base 1000 (adsVal q.1) []) q else q
theorem idxOf_get : ∀ {keep : List Nat} {i d : Nat}, i ∈ keep → ∃ j, idxOf keep i d = d + j ∧ keep[j]? = some i
  | [], _, _, h => by cases h
  | j :: r, i, d, h => by
    simp only [idxOf]
    split
    · rename_i hij
      subst hij
      exact ⟨0, rfl, rfl⟩
    · rename_i hij
      obtain ⟨k, h1, h2⟩ := idxOf_get (keep := r) (i := i) (d := d + 1) (by
        rcases List.mem_cons.1 h with h | h
        · exact absurd h hij
        · exact h)
      exact ⟨k + 1, by rw [h1]; omega, by simpa using h2⟩
theorem post_keep {e : Env} {base : Nat} {ρ ρ' : Rho} {h' : SHeap} {W W' : World} (hb : base = ρ.length) (hp : Post e base base ρ W ρ' h' W') {keep : List Nat} (hblk : keep.all (fun i => blkOkS (cmpLay base keep) (h'.getD i none)) = true) (hin : ∀ i ∈ keep, base ≤ i ∧ i < h'.length) (hnd : keep.Nodup) (hbl : base ≤ h'.length) (hun : (h'.take base).all (blkUnder base) = true) (hfl : e.fx.length ≤ ρ.length)
    (hL : LayE (cmpLay base keep) e e ρ' (ρ ++ keep.map fun i => ρ'.getD i (0, 0, 0))) : Post e base base ρ W (ρ ++ keep.map fun i => ρ'.getD i (0, 0, 0)) (h'.take base ++ keep.map (fun i => blkS (cmpLay base keep) (h'.getD i none))) W' := by
  have hlen := hp.rel.len
  have htk : (h'.take base).length = base := by rw [List.length_take]; omega
  have rget : ∀ (i : Nat) c, (ρ ++ keep.map fun i => ρ'.getD i (0, 0, 0))[i]? = some c → (i < base ∧ ρ'[i]? = some c) ∨ ∃ k, base ≤ i ∧ keep[i - base]? = some k ∧ ρ'[k]? = some c := by
    intro i c hi
    rcases Nat.lt_or_ge i base with hl | hl
    · rw [List.getElem?_append_left (by omega)] at hi
      exact .inl ⟨hl, hp.pre.get hi⟩
    · rw [List.getElem?_append_right (by omega), List.getElem?_map, ← hb] at hi
      cases hk : keep[i - base]? with
      | none => rw [hk] at hi; cases hi
      | some k =>
        rw [hk] at hi
        simp only [Option.map_some, Option.some.injEq] at hi
        have hkl := (hin k (List.mem_of_getElem? hk)).2
        refine .inr ⟨k, hl, rfl, ?_⟩
        rw [← hi, List.getD_eq_getElem?_getD, List.getElem?_eq_getElem (by omega)]; rfl
  have hget : ∀ (i : Nat) l t, (h'.take base ++ keep.map (fun i => blkS (cmpLay base keep) (h'.getD i none)))[i]? = some (some (l, t)) → (i < base ∧ h'[i]? = some (some (l, t))) ∨ ∃ k l0, base ≤ i ∧ keep[i - base]? = some k ∧ h'[k]? = some (some (l0, t)) ∧ l = l0.map (cmpLay base keep).seg ∧ l0.all (cmpLay base keep).segOk = true := by
    intro i l t hi
    rcases Nat.lt_or_ge i base with hl | hl
    · rw [List.getElem?_append_left (by omega), List.getElem?_take_of_lt hl] at hi
      exact .inl ⟨hl, hi⟩
    · rw [List.getElem?_append_right (by omega), List.getElem?_map, htk] at hi
      cases hk : keep[i - base]? with
      | none => rw [hk] at hi; cases hi
      | some k =>
        rw [hk] at hi
        simp only [Option.map_some, Option.some.injEq] at hi
        have hkl := (hin k (List.mem_of_getElem? hk)).2
        have hko := List.all_eq_true.1 hblk k (List.mem_of_getElem? hk)
        have hx : h'[k]? = some (h'.getD k none) := by rw [List.getD_eq_getElem?_getD, List.getElem?_eq_getElem hkl]; rfl
        generalize h'.getD k none = x at hi hko hx
        cases x with
        | none => cases hi
        | some y =>
          obtain ⟨l0, t0⟩ := y
          cases hi
          exact .inr ⟨k, l0, hl, rfl, hx, rfl, hko⟩
  have hnl : ∀ i, live (h'.take base ++ keep.map (fun i => blkS (cmpLay base keep) (h'.getD i none))) i → (i < base ∧ live h' i) ∨ ∃ k, base ≤ i ∧ keep[i - base]? = some k ∧ live h' k := by
    rintro i ⟨⟨l, t⟩, hx⟩
    rcases hget i l t hx with ⟨h1, h2⟩ | ⟨k, l0, h1, h2, h3, _⟩
    · exact .inl ⟨h1, _, h2⟩
    · exact .inr ⟨k, h1, h2, _, h3⟩
  have inj : ∀ {i j k : Nat}, keep[i]? = some k → keep[j]? = some k → i = j := fun h1 h2 => by
    have l1 := (List.getElem?_eq_some_iff.1 h1).1
    have l2 := (List.getElem?_eq_some_iff.1 h2).1
    exact (List.getElem_inj hnd).1 (by rw [(List.getElem?_eq_some_iff.1 h1).2, (List.getElem?_eq_some_iff.1 h2).2])
  have hnew : ∀ b ∈ ρ'.drop base, W.heap.size ≤ b.1 := fun b hm => by
    rcases hp.new b (by rw [← hb]; exact hm) with h1 | ⟨o, h1⟩
    · exact h1
    · rw [List.drop_eq_nil_of_le (by omega)] at h1
      cases h1
  have hmem : ∀ b ∈ (keep.map fun i => ρ'.getD i (0, 0, 0)), b ∈ ρ'.drop base := by
    intro b hm
    obtain ⟨i, hi, rfl⟩ := List.mem_map.1 hm
    obtain ⟨h1, h2⟩ := hin i hi
    refine List.mem_of_getElem? (i := i - base) ?_
    rw [List.getElem?_drop, show base + (i - base) = i by omega, List.getD_eq_getElem?_getD, List.getElem?_eq_getElem (by omega)]; rfl
  refine ⟨⟨_, rfl⟩, fun b hm => ?_, ⟨by rw [List.length_append, List.length_append, htk, List.length_map, List.length_map, hb], fun i j b c hi hj hbi hcj hij hov => ?_, fun i l t hi => ?_, ⟨fun i x hx => ?_, by rw [hb]; exact hfl, hp.rel.old.size, hp.rel.old.same, fun b hm => ?_⟩⟩, hp.fr⟩
  · rw [List.drop_left] at hm
    exact .inl (hnew b (hmem b hm))
  · rcases hnl i hi with ⟨i1, i2⟩ | ⟨ki, i1, i2, i3⟩ <;> rcases hnl j hj with ⟨j1, j2⟩ | ⟨kj, j1, j2, j3⟩
    · omega
    · rcases rget i b hbi with ⟨_, g⟩ | ⟨_, g, _⟩ <;> try omega
      rcases rget j c hcj with ⟨f, _⟩ | ⟨k, _, f1, f2⟩ <;> try omega
      rw [j2] at f1
      cases f1
      have := (hin kj (List.mem_of_getElem? j2)).1
      exact hp.rel.apart i kj b c i2 j3 g f2 (by omega) (.inr this)
    · rcases rget j c hcj with ⟨_, g⟩ | ⟨_, g, _⟩ <;> try omega
      rcases rget i b hbi with ⟨f, _⟩ | ⟨k, _, f1, f2⟩ <;> try omega
      rw [i2] at f1
      cases f1
      have := (hin ki (List.mem_of_getElem? i2)).1
      exact hp.rel.apart ki j b c i3 j2 f2 g (by omega) (.inl this)
    · rcases rget i b hbi with ⟨f, _⟩ | ⟨k, _, f1, f2⟩ <;> try omega
      rcases rget j c hcj with ⟨f', _⟩ | ⟨k', _, f1', f2'⟩ <;> try omega
      rw [i2] at f1
      cases f1
      rw [j2] at f1'
      cases f1'
      have := (hin ki (List.mem_of_getElem? i2)).1
      refine hp.rel.apart ki kj b c i3 j3 f2 f2' (fun hk => ?_) (.inl this)
      subst hk
      have := inj i2 j2
      omega
  · rcases hget i l t hi with ⟨h1, h2⟩ | ⟨k, l0, h1, h2, h3, rfl, h5⟩
    · obtain ⟨b, o, r, vs, g1, g2, g3⟩ := hp.rel.blk i l t h2
      obtain ⟨r0, hr0⟩ := hp.pre
      have g1' : ρ[i]? = some (b, o, r) := by
        rw [hr0, List.getElem?_append_left (by omega)] at g1
        exact g1
      refine ⟨b, o, r, vs, by rw [List.getElem?_append_left (by omega)]; exact g1', g2, ?_⟩
      have hu := List.all_eq_true.1 hun (some (l, t)) (List.mem_of_getElem? (by rw [List.getElem?_take_of_lt h1]; exact h2))
      exact (SegsD.low hp.pre hb.symm g3 hu).mono ⟨_, rfl⟩
    · obtain ⟨b, o, r, vs, g1, g2, g3⟩ := hp.rel.blk k l0 t h3
      have hk := hin k (List.mem_of_getElem? h2)
      refine ⟨b, o, r, vs, ?_, g2.weak (fun _ => by omega), lay_segs hL h5 g3⟩
      rw [List.getElem?_append_right (by omega), List.getElem?_map, ← hb, h2]
      simp only [Option.map_some]
      rw [List.getD_eq_getElem?_getD, g1]; rfl
  · have hx' := hp.rel.old.fx i x hx
    rcases rget i ((ρ ++ keep.map fun i => ρ'.getD i (0, 0, 0)).getD i (0, 0, 0)) (by
      have hl : i < ρ.length := by
        have := (List.getElem?_eq_some_iff.1 hx).1
        omega
      rw [List.getD_eq_getElem?_getD, List.getElem?_eq_getElem (by rw [List.length_append]; omega)]; rfl) with ⟨h1, h2⟩ | ⟨k, h1, _⟩
    · rw [List.getElem?_append_left (by omega)]
      obtain ⟨r0, hr0⟩ := hp.pre
      rw [hr0, List.getElem?_append_left (by omega)] at hx'
      exact hx'
    · have := (List.getElem?_eq_some_iff.1 hx).1
      omega
  · rw [hb, List.drop_left] at hm
    exact hp.rel.old.own b (hmem b hm)
theorem cmpLay_E {e : Env} {base : Nat} {ρ ρ' : Rho} (hb : base = ρ.length) (hpre : Sy.Pre ρ ρ') {keep : List Nat} (hin : ∀ i ∈ keep, base ≤ i ∧ i < ρ'.length) : LayE (cmpLay base keep) e e ρ' (ρ ++ keep.map fun i => ρ'.getD i (0, 0, 0)) := by
  refine ⟨fun _ _ => rfl, fun _ _ => rfl, fun _ _ => rfl, fun j y hj hy => ?_⟩
  have hj : (Nat.blt j base || keep.contains j) = true := hj
  simp only [Bool.or_eq_true] at hj
  show (ρ ++ keep.map fun i => ρ'.getD i (0, 0, 0))[if j < base then j else idxOf keep j base]? = some y
  by_cases hlt : j < base
  · rw [if_pos hlt, List.getElem?_append_left (by omega)]
    obtain ⟨r0, hr0⟩ := hpre
    rw [hr0, List.getElem?_append_left (by omega)] at hy
    exact hy
  · have hm : j ∈ keep := by
      rcases hj with h | h
      · rw [Nat.blt_eq] at h; omega
      · simpa using h
    obtain ⟨k, h1, h2⟩ := idxOf_get (d := base) hm
    rw [if_neg hlt, h1, List.getElem?_append_right (by omega), show base + k - ρ.length = k by omega, List.getElem?_map, h2]
    simp only [Option.map_some]
    rw [List.getD_eq_getElem?_getD, hy]; rfl
theorem summ_cmp {f : Nat} {gs : SHeap} {ps : List Shr} {T : WT (SVal × St)} {e0 : Env} (hS : Summ f gs ps T e0) : Summ f gs ps (T.map (cmpQ (rH gs ps).length)) e0 := by
  intro ρc vs W hD hA hrel hg Z R hz hR
  refine hS ρc vs W hD hA hrel hg (fun q => Z (cmpQ (rH gs ps).length q)) R (WT.holds_of_map hz) fun v st' hzz ρ' V W' hp hV has => ?_
  have hlen : (rH gs ps).length = ρc.length := hrel.len
  have hlr := hp.rel.len
  unfold cmpQ at hzz
  split at hzz
  · rename_i hk
    generalize reach st'.h (rH gs ps).length 1000 (adsVal v) [] = keep at hk hzz
    simp only [keepOk, Bool.and_eq_true, decide_eq_true_eq] at hk
    obtain ⟨⟨⟨⟨⟨k1, k2⟩, k3⟩, k4⟩, k5⟩, k6⟩ := hk
    have hin : ∀ i ∈ keep, (rH gs ps).length ≤ i ∧ i < st'.h.length := fun i hi => by
      have := List.all_eq_true.1 k3 i hi
      simp only [Bool.and_eq_true] at this
      exact ⟨Nat.le_of_ble_eq_true this.1, by rw [Nat.blt_eq] at this; exact this.2⟩
    have hL := cmpLay_E (e := e0) hlen hp.pre (fun i hi => ⟨(hin i hi).1, by have := (hin i hi).2; omega⟩)
    exact hR _ _ hzz _ V W' (post_keep hlen hp k2 hin k4 k5 k6 (by have := hrel.old.len; omega) hL) (lay_val hL k1 hV) has
  · exact hR _ _ hzz ρ' V W' hp hV has

/-! Summaries: facts that the ways themselves tell are left out. -/
def slimAs (path : Asm) : Asm → Asm
  | [] => []
  | p :: r => if path.any (asm1Same p) || r.any (asm1Same p) then slimAs path r else p :: slimAs path r
theorem slimAs_mem {path : Asm} : ∀ {bs : Asm} {p : BExp × Bool}, p ∈ slimAs path bs → p ∈ bs
  | [], _, h => by cases h
  | q :: r, p, h => by
    simp only [slimAs] at h
    split at h
    · exact List.mem_cons_of_mem _ (slimAs_mem h)
    · rcases List.mem_cons.1 h with h | h
      · rw [h]; exact List.mem_cons_self
      · exact List.mem_cons_of_mem _ (slimAs_mem h)
def slimW : WT (SVal × St) → Asm → WT (SVal × St)
  | .leaf q, path => .leaf (q.1, ⟨q.2.h, slimAs path q.2.as⟩)
  | .node b t f, path => .node b (slimW t ((b, true) :: path)) (slimW f ((b, false) :: path))
  | .both t f, path => .both (slimW t path) (slimW f path)
  | .stop, _ => .stop
theorem slimW_holds {e : Env} {Z : SVal × St → Prop} : ∀ {t : WT (SVal × St)} {path : Asm}, (slimW t path).holds e Z → t.holds e (fun q => ∃ bs, (∀ p ∈ bs, p ∈ q.2.as) ∧ Z (q.1, ⟨q.2.h, bs⟩))
  | .leaf q, path, h => ⟨_, fun p hp => slimAs_mem hp, h⟩
  | .node b t f, path, h => by
    simp only [slimW, WT.holds] at h ⊢
    split
    · rename_i hb; rw [if_pos hb] at h; exact slimW_holds h
    · rename_i hb; rw [if_neg hb] at h; exact slimW_holds h
  | .both t f, path, h => ⟨slimW_holds h.1, slimW_holds h.2⟩
  | .stop, _, h => h
theorem summ_slim {f : Nat} {gs : SHeap} {ps : List Shr} {T : WT (SVal × St)} {e0 : Env} (hS : Summ f gs ps T e0) : Summ f gs ps (slimW T []) e0 := by
  intro ρc vs W hv ha hr hg Z R hZ hR
  refine hS ρc vs W hv ha hr hg _ R (slimW_holds hZ) ?_
  rintro v st' ⟨bs, hsub, hz⟩ ρ' V W' hp hV has
  exact hR v ⟨st'.h, bs⟩ hz ρ' V W' hp hV (fun p hp => has p (hsub p hp))
end Go.Proofs.YtaijkkkgpgldbaaDoor.K
