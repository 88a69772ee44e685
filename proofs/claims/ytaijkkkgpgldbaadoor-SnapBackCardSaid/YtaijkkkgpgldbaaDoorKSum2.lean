/- Summaries: the contract. -/
import Derived.Test.YtaijkkkgpgldbaaDoorKSum
namespace Go.Proofs.YtaijkkkgpgldbaaDoor.K
open Go Sy
set_option maxRecDepth 100000
set_option linter.unusedVariables false
set_option linter.unusedSimpArgs false
def blkOkS (s : Lay) : Blk → Bool
  | some (l, _) => l.all s.segOk
  | none => true
def leafOkS (s : Lay) (q : SVal × St) : Bool := s.valOk q.1 && (q.2.h.drop s.base).all (blkOkS s) && q.2.as.all fun p => s.bOk p.1
/-- A tree speaks of these letters alone, of the globals and of new blocks. -/
def treeOkS (s : Lay) : WT (SVal × St) → Bool
  | .leaf q => leafOkS s q
  | .node b t f => s.bOk b && treeOkS s t && treeOkS s f
  | .both t f => treeOkS s t && treeOkS s f
  | .stop => true
/-- A summary at a call: the letters' texts, the globals, the summary's blocks, where the caller's new ones begin. -/
def callLay (ks : List Fr) (aq : Asm) (l : List Asg) (G base d : Nat) : Lay := ⟨fun x => x.sb aq l, fun x => x.sb aq l, fun x => x.sb aq l, iL ks, bL ks, aL ks, fun i => if i < G then i else d + (i - base), fun i => Nat.blt i G || Nat.ble base i, base⟩
theorem treeOkS_of {ks : List Fr} {G base : Nat} {aq : Asm} {l : List Asg} {d : Nat} : ∀ {t : WT (SVal × St)}, treeOkS (callLay ks [] [] G base 0) t = true → treeOkS (callLay ks aq l G base d) t = true
  | .leaf q, h => h
  | .node b t f, h => by
    simp only [treeOkS, Bool.and_eq_true] at h ⊢
    exact ⟨⟨h.1.1, treeOkS_of h.1.2⟩, treeOkS_of h.2⟩
  | .both t f, h => by
    simp only [treeOkS, Bool.and_eq_true] at h ⊢
    exact ⟨treeOkS_of h.1, treeOkS_of h.2⟩
  | .stop, _ => rfl
def blkS (s : Lay) : Blk → Blk
  | some (l, t) => some (l.map s.seg, t)
  | none => none
def factsS (s : Lay) : Asm → Asm
  | [] => []
  | p :: r => match s.b p.1 with
    | .lit _ => factsS s r
    | b => (b, p.2) :: factsS s r
def layLeaf (s : Lay) (h : SHeap) (bs : Asm) (q : SVal × St) : SVal × St := (s.val q.1, ⟨h ++ (q.2.h.drop s.base).map (blkS s), factsS s q.2.as ++ bs⟩)
def layTree (s : Lay) (h : SHeap) : Asm → WT (SVal × St) → WT (SVal × St)
  | bs, .leaf q => .leaf (layLeaf s h bs q)
  | bs, .node b t f => match decideB bs (s.b b) with
    | some true => layTree s h bs t
    | some false => layTree s h bs f
    | none => .node (s.b b) (layTree s h ((s.b b, true) :: bs) t) (layTree s h ((s.b b, false) :: bs) f)
  | bs, .both t f => .both (layTree s h bs t) (layTree s h bs f)
  | _, .stop => .stop
section
variable {s : Lay} {e0 e : Env} (hb : ∀ x, s.bOk x = true → x.den e0 = (s.b x).den e)
include hb
theorem layTree_holds (ok : EnvOk e) {h : SHeap} {Z : SVal × St → Prop} : ∀ {t : WT (SVal × St)} {bs : Asm}, AsmOk e bs → treeOkS s t = true → (layTree s h bs t).holds e Z → t.holds e0 (fun q => leafOkS s q = true ∧ ∃ bs', AsmOk e bs' ∧ Z (layLeaf s h bs' q))
  | .leaf q, bs, ha, ht, hz => ⟨ht, bs, ha, hz⟩
  | .node b t f, bs, ha, ht, hz => by
    simp only [treeOkS, Bool.and_eq_true] at ht
    obtain ⟨⟨h1, h2⟩, h3⟩ := ht
    have hd := hb b h1
    simp only [layTree] at hz
    simp only [WT.holds]
    split at hz
    · rename_i hv
      rw [hd, decideB_ok ok ha hv, if_pos rfl]
      exact layTree_holds ok ha h2 hz
    · rename_i hv
      rw [hd, decideB_ok ok ha hv, if_neg (by simp)]
      exact layTree_holds ok ha h3 hz
    · simp only [WT.holds] at hz
      rw [hd]
      split
      · rename_i hv
        rw [if_pos hv] at hz
        exact layTree_holds ok (AsmOk.cons hv ha) h2 hz
      · rename_i hv
        rw [if_neg hv] at hz
        exact layTree_holds ok (AsmOk.cons (by simpa using hv) ha) h3 hz
  | .both t f, bs, ha, ht, hz => by
    simp only [treeOkS, Bool.and_eq_true] at ht
    exact ⟨layTree_holds ok ha ht.1 hz.1, layTree_holds ok ha ht.2 hz.2⟩
  | .stop, _, _, _, hz => hz.elim
theorem factsS_ok : ∀ {fs : Asm}, (fs.all fun p => s.bOk p.1) = true → AsmOk e0 fs → AsmOk e (factsS s fs)
  | [], _, _ => AsmOk.nil _
  | p :: r, ho, h => by
    simp only [List.all_cons, Bool.and_eq_true] at ho
    have ih := factsS_ok (fs := r) ho.2 (fun q hq => h q (List.mem_cons_of_mem _ hq))
    simp only [factsS]
    split
    · exact ih
    · exact AsmOk.cons (by rw [← hb p.1 ho.1]; exact h p List.mem_cons_self) ih
end
/-- The new blocks of a summary are blocks of the caller. -/
theorem post_lay {e e0 : Env} {ov ro : Nat} {ρ ρc ρ' : Rho} {h h' : SHeap} {W W' : World} {s : Lay} (hr : HRel e ov ρ h W) (hbs : s.base = ρc.length) (hp : Post e0 s.base s.base ρc W ρ' h' W') (hok : (h'.drop s.base).all (blkOkS s) = true) (hL : LayE s e0 e ρ' (ρ ++ ρ'.drop s.base)) :
    Post e ov ro ρ W (ρ ++ ρ'.drop s.base) (h ++ (h'.drop s.base).map (blkS s)) W' := by
  have hsame : ∀ k, k < W.heap.size → W'.heap[k]? = W.heap[k]? := fun k hk => hp.fr.same k hk (by
    rintro ⟨o, hm⟩
    rw [List.drop_eq_nil_of_le (by omega)] at hm
    cases hm)
  have hnew : ∀ b ∈ ρ'.drop s.base, W.heap.size ≤ b.1 := fun b hm => by
    rcases hp.new b (by rw [← hbs]; exact hm) with h1 | ⟨o, h1⟩
    · exact h1
    · rw [List.drop_eq_nil_of_le (by omega)] at h1
      cases h1
  have hlen := hp.rel.len
  have hget : ∀ (i : Nat) l t, ((h'.drop s.base).map (blkS s))[i]? = some (some (l, t)) → ∃ l0, h'[s.base + i]? = some (some (l0, t)) ∧ l = l0.map s.seg ∧ l0.all s.segOk = true := by
    intro i l t hi
    rw [List.getElem?_map, List.getElem?_drop] at hi
    cases hq : h'[s.base + i]? with
    | none => rw [hq] at hi; cases hi
    | some o =>
      rw [hq] at hi
      cases o with
      | none => cases hi
      | some x =>
        obtain ⟨l0, t0⟩ := x
        cases hi
        have := List.all_eq_true.1 hok (some (l0, _)) (List.mem_of_getElem? (by rw [List.getElem?_drop]; exact hq))
        exact ⟨l0, rfl, rfl, this⟩
  have hlive : ∀ i, live ((h'.drop s.base).map (blkS s)) i → live h' (s.base + i) := by
    rintro i ⟨⟨l, t⟩, hi⟩
    obtain ⟨l0, h1, _⟩ := hget i l t hi
    exact ⟨_, h1⟩
  have hnl : ∀ i, live (h ++ (h'.drop s.base).map (blkS s)) i → (i < h.length ∧ live h i) ∨ (h.length ≤ i ∧ live h' (s.base + (i - h.length))) := by
    rintro i ⟨x, hx⟩
    rcases Nat.lt_or_ge i h.length with hi | hi
    · rw [List.getElem?_append_left hi] at hx
      exact .inl ⟨hi, x, hx⟩
    · rw [List.getElem?_append_right hi] at hx
      exact .inr ⟨hi, hlive _ ⟨x, hx⟩⟩
  have rget : ∀ (i : Nat) c, (ρ ++ ρ'.drop s.base)[i]? = some c → (i < h.length ∧ ρ[i]? = some c) ∨ (h.length ≤ i ∧ ρ'[s.base + (i - h.length)]? = some c) := by
    intro i c hi
    rcases Nat.lt_or_ge i h.length with hl | hl
    · rw [List.getElem?_append_left (by rw [← hr.len]; exact hl)] at hi
      exact .inl ⟨hl, hi⟩
    · rw [List.getElem?_append_right (by rw [← hr.len]; exact hl), List.getElem?_drop, ← hr.len] at hi
      exact .inr ⟨hl, hi⟩
  have hsz : ∀ (i : Nat) c, ρ'[s.base + i]? = some c → W.heap.size ≤ c.1 := fun i c hc => hnew c (List.mem_of_getElem? (by rw [List.getElem?_drop]; exact hc))
  have hlo := hr.old.len
  refine ⟨⟨_, rfl⟩, fun b hm => ?_, ⟨by rw [List.length_append, List.length_append, List.length_map, List.length_drop, List.length_drop, hr.len, hlen], fun i j b c hi hj hb hc hij hov => ?_, fun i l t hi => ?_, ⟨fun i x hx => ?_, hr.old.fl, Nat.le_trans hr.old.size hp.fr.size, fun k hk => ?_, fun b hm => ?_⟩⟩, ⟨hp.fr.os, hp.fr.tape, hp.fr.output, hp.fr.size, fun k hk _ => hsame k hk⟩⟩
  · rw [List.drop_left] at hm
    exact .inl (hnew b hm)
  · rcases hnl i hi with ⟨i1, i2⟩ | ⟨i1, i2⟩ <;> rcases hnl j hj with ⟨j1, j2⟩ | ⟨j1, j2⟩ <;> rcases rget i b hb with ⟨g1, g2⟩ | ⟨g1, g2⟩ <;> rcases rget j c hc with ⟨f1, f2⟩ | ⟨f1, f2⟩ <;> try omega
    · exact hr.apart i j b c i2 j2 g2 f2 hij hov
    · have a1 := hr.lt i2 g2
      have a2 := hsz _ _ f2
      omega
    · have a1 := hr.lt j2 f2
      have a2 := hsz _ _ g2
      omega
    · exact hp.rel.apart _ _ b c i2 j2 g2 f2 (by omega) (.inl (by omega))
  · rcases Nat.lt_or_ge i h.length with hl | hl
    · rw [List.getElem?_append_left hl] at hi
      obtain ⟨b, o, r, vs, h1, h2, h3⟩ := hr.blk i l t hi
      exact ⟨b, o, r, vs, by rw [List.getElem?_append_left (by rw [← hr.len]; exact hl)]; exact h1, h2.same (hsame b h2.lt), h3.mono ⟨_, rfl⟩⟩
    · rw [List.getElem?_append_right hl] at hi
      obtain ⟨l0, h1, rfl, h3⟩ := hget _ l t hi
      obtain ⟨b, o, r, vs, g1, g2, g3⟩ := hp.rel.blk _ l0 t h1
      exact ⟨b, o, r, vs, by rw [List.getElem?_append_right (by rw [← hr.len]; exact hl), List.getElem?_drop, ← hr.len]; exact g1, g2.weak (fun _ => by omega), lay_segs hL h3 g3⟩
  · have hl : i < ρ.length := by
      have h1 := (List.getElem?_eq_some_iff.1 hx).1
      omega
    rw [List.getElem?_append_left hl]
    exact hr.old.fx i x hx
  · have := hr.old.size
    rw [hsame k (by omega)]
    exact hr.old.same k hk
  · have hm' : b ∈ ρ.drop ov ∨ b ∈ ρ'.drop s.base := by
      rcases drop_grown hm with h1 | h1
      · exact .inl h1
      · rw [List.drop_left] at h1; exact .inr h1
    rcases hm' with h1 | h1
    · exact hr.old.own b h1
    · have a1 := hnew b h1
      have a2 := hr.old.size
      omega
/-- A source that reads functions as a reading does. -/
def srcE (e : Env) : Src := { i := fun _ => [], b := [], a := fun _ _ => [], fi := e.fi, fb := e.fb, fa := e.fa }
theorem srcE_fi {e : Env} (ok : EnvOk e) : (srcE e).env.fi = e.fi := by
  funext k f j l
  exact clip_of (ok.fi k f j l)
theorem srcE_fa {e : Env} (ok : EnvOk e) : (srcE e).env.fa = e.fa := by
  funext k f j l
  exact clipL_of (fun x hx => ok.fa k f j l x hx) (ok.fal k f j l)
def sumLay (gs : SHeap) (ps : List Shr) (st : St) (L : LExp) : Lay := callLay (shrFlat ps) st.as (asgOf 0 (shrFlat ps) L) gs.length (rH gs ps).length st.h.length
/-- What a tree over letters says of a function. -/
def Summ (f : Nat) (gs : SHeap) (ps : List Shr) (T : WT (SVal × St)) (e0 : Env) : Prop := ∀ ρc vs W, SValsD e0 ρc (rArgs gs ps) vs → AsmOk e0 (canonRAs 0 (shrFlat ps)) → HRel e0 (rH gs ps).length ρc (rH gs ps) W → Glob gs.length ρc → ∀ Z (R : Ending → World → Prop), T.holds e0 Z →
  (∀ v st', Z (v, st') → ∀ ρ' V W', Post e0 (rH gs ps).length (rH gs ps).length ρc W ρ' st'.h W' → v.D e0 ρ' V → AsmOk e0 st'.as → R (.returned V) W') → Calls Tryd.prog f vs.toArray W R
theorem summ_run {n f : Nat} {tab : Tab} {gs : SHeap} {ps : List Shr} {e0 : Env} (ok : EnvOk e0) (htab : TabOk Tryd.prog gs.length (rH gs ps).length tab e0) : Summ f gs ps (rTree n f tab gs ps (canonRAs 0 (shrFlat ps))) e0 :=
  fun ρc vs W hD hA hrel hg Z R hz hR => (sound ok mixed plan_ok LtOk.none htab n).2.2.2.2 (rH gs ps).length f (rArgs gs ps) ⟨rH gs ps, canonRAs 0 (shrFlat ps)⟩ Z (Nat.le_refl _) hz ρc vs W R hD hA hrel hg hR
/-- What a function's run told, at a call. -/
def tabSum' (f : Nat) (gs : SHeap) (ps : List Shr) (T : WT (SVal × St)) : Tab := fun _ g args st => if g = f then (match (argSVs args).bind (svsLR st.as st.h ps) with
  | some L => some (layTree (sumLay gs ps st L) st.h st.as T)
  | none => none) else none
theorem tabSum'_ok {f : Nat} {gs : SHeap} {ps : List Shr} {T : WT (SVal × St)} (hps : ps.all Shr.plain = true) (hok : treeOkS (callLay (shrFlat ps) [] [] gs.length (rH gs ps).length 0) T = true) {e : Env} (ok : EnvOk e) (hk : KnowsP gs e)
    (hS : ∀ E : Env, EnvOk E → E.fi = e.fi → E.fa = e.fa → E.fb = e.fb → KnowsP gs E → Summ f gs ps T E) (G ov : Nat) (hG : gs.length ≤ G) : TabOk Tryd.prog G ov (tabSum' f gs ps T) e := by
  intro ro g args st t Z ht hov hz ρ vs W R hv ha hr hg hR
  unfold tabSum' at ht
  split at ht
  · rename_i hgf
    subst hgf
    split at ht
    · rename_i L hL
      cases ht
      simp only [Option.bind_eq_some_iff] at hL
      obtain ⟨sv, h1, h2⟩ := hL
      have hD := argSVs_D h1 hv
      obtain ⟨hwf, his⟩ := svsLR_ok ok ha hr h2 hD
      have hW := hk.at' hr.old
      have ok0 := (Src.know (envOf (srcE e) (L.den e)) W []).ok
      have efi : (Src.know (envOf (srcE e) (L.den e)) W []).env.fi = e.fi := srcE_fi ok
      have efa : (Src.know (envOf (srcE e) (L.den e)) W []).env.fa = e.fa := srcE_fa ok
      have efb : (Src.know (envOf (srcE e) (L.den e)) W []).env.fb = e.fb := rfl
      obtain ⟨ρc, hD0, hA0, hrel, hg0⟩ := r_start hps (srcE e) hW hwf his
      have hagr := asgOf_agree (e := e) hwf (srcE e)
      have hagr' : AgreeF (shrFlat ps) (Src.know (envOf (srcE e) (L.den e)) W []).env (Env.upd e e (asgOf 0 (shrFlat ps) L)) := ⟨fun k p h => (hagr.i k p h).symm, fun p h => (hagr.b p h).symm, fun k p h => (hagr.a k p h).symm⟩
      obtain ⟨u1, u2, u3⟩ := upd_fns e e (asgOf 0 (shrFlat ps) L)
      have dI : ∀ x, iL (shrFlat ps) x = true → x.den (Src.know (envOf (srcE e) (L.den e)) W []).env = ((sumLay gs ps st L).i x).den e := fun x hx => (iL_den hagr' (efi.trans u1.symm) (efb.trans u2.symm) (efa.trans u3.symm) x hx).trans (IExp.sb_ok ok ha x)
      have dB : ∀ x, bL (shrFlat ps) x = true → x.den (Src.know (envOf (srcE e) (L.den e)) W []).env = ((sumLay gs ps st L).b x).den e := fun x hx => (bL_den hagr' (efi.trans u1.symm) (efb.trans u2.symm) (efa.trans u3.symm) x hx).trans (BExp.sb_ok ok ha x)
      have dA : ∀ x, aL (shrFlat ps) x = true → x.den (Src.know (envOf (srcE e) (L.den e)) W []).env = ((sumLay gs ps st L).a x).den e := fun x hx => (aL_den hagr' (efi.trans u1.symm) (efb.trans u2.symm) (efa.trans u3.symm) x hx).trans (AExp.sb_ok ok ha x)
      have hhold := layTree_holds (s := sumLay gs ps st L) dB ok ha (treeOkS_of hok) hz
      have hlen : (rH gs ps).length = ρc.length := hrel.len
      have hGb : gs.length ≤ (rH gs ps).length := by rw [rH, List.length_append]; omega
      refine hS _ ok0 efi efa efb ⟨W, rfl, rfl, hW⟩ ρc vs W hD0 hA0 hrel hg0 _ R hhold fun v st' hzz ρ' V W' hp hV has => ?_
      obtain ⟨hlo, bs', hbs', hZ⟩ := hzz
      simp only [leafOkS, Bool.and_eq_true] at hlo
      obtain ⟨⟨o1, o2⟩, o3⟩ := hlo
      have hLE : LayE (sumLay gs ps st L) (Src.know (envOf (srcE e) (L.den e)) W []).env e ρ' (ρ ++ ρ'.drop (rH gs ps).length) := by
        refine ⟨dI, dB, dA, fun j y hj hy => ?_⟩
        have hjb : j < gs.length ∨ (rH gs ps).length ≤ j := by
          have hj : (Nat.blt j gs.length || Nat.ble (rH gs ps).length j) = true := hj
          simp only [Bool.or_eq_true] at hj
          rcases hj with h | h
          · rw [Nat.blt_eq] at h; exact .inl h
          · exact .inr (Nat.le_of_ble_eq_true h)
        show (ρ ++ ρ'.drop (rH gs ps).length)[if j < gs.length then j else st.h.length + (j - (rH gs ps).length)]? = some y
        have hrl := hr.len
        rcases hjb with h | h
        · rw [if_pos h]
          have hgj := hp.pre.get (hg0 j h)
          rw [hgj] at hy
          cases hy
          have := hg j (by omega)
          rw [List.getElem?_append_left (List.getElem?_eq_some_iff.1 this).1]
          exact this
        · rw [if_neg (by omega), List.getElem?_append_right (by omega), List.getElem?_drop, hrl, show (rH gs ps).length + (ρ.length + (j - (rH gs ps).length) - ρ.length) = j by omega]
          exact hy
      refine hR _ _ hZ (ρ ++ ρ'.drop (rH gs ps).length) V W' (post_lay (s := sumLay gs ps st L) hr hlen hp o2 hLE) (lay_val hLE o1 hV) (AsmOk.append (factsS_ok dB o3 has) hbs')
    · cases ht
  · cases ht
end Go.Proofs.YtaijkkkgpgldbaaDoor.K
