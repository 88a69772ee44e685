/- StorePlays answers true: the walk. -/
import Derived.Test.YtopgnohobmlegaaStPlW
namespace Go.Proofs.Ytopgnohobmlegaa.K
open Go Sy
set_option maxRecDepth 100000
set_option linter.unusedVariables false
set_option linter.unusedSimpArgs false
def plSrc (W : World) (size : Int) (nr cr n c br obr b o : Nat) (z : List Int) (V : Bool) : Src := Src.know { i := fun k => match k with | .i64 => [size, nr, cr, n, c] | _ => [], b := [false, false, false, false, false, false, false, false, false, V], a := fun k j => match k, j with | .u8, 0 => z | .u8, 9 => romL | _, _ => [] } W [(br, obr, 0), (b, o, 0)]
structure PlE (e : Env) (W : World) (size : Int) (nr cr n c br obr b o : Nat) (z : List Int) (V : Bool) : Prop where
  e0 : e.i .i64 0 = size
  e1 : e.i .i64 1 = nr
  e2 : e.i .i64 2 = cr
  e3 : e.i .i64 3 = n
  e4 : e.i .i64 4 = c
  z : e.a .u8 0 = z
  rom : e.a .u8 9 = romL
  v : e.b 9 = V
  base : e.base = W.heap.size
  h0 : e.h0 = fun k => W.heap[k]?
  fx : e.fx = [(br, obr, 0), (b, o, 0)]
theorem PlE.agree {e e' : Env} {W : World} {size : Int} {nr cr n c br obr b o : Nat} {z : List Int} {V : Bool} (h : PlE e W size nr cr n c br obr b o z V) (g : Agree 1000 e e') : PlE e' W size nr cr n c br obr b o z V :=
  ⟨by rw [g.i .i64 0 (by omega)]; exact h.e0, by rw [g.i .i64 1 (by omega)]; exact h.e1, by rw [g.i .i64 2 (by omega)]; exact h.e2, by rw [g.i .i64 3 (by omega)]; exact h.e3, by rw [g.i .i64 4 (by omega)]; exact h.e4,
    by rw [g.a .u8 0 (by omega)]; exact h.z, by rw [g.a .u8 9 (by omega)]; exact h.rom, by rw [g.b 9 (by omega)]; exact h.v, g.base.trans h.base, g.h0.trans h.h0, g.fx.trans h.fx⟩
theorem isEndP_D {v : SVal} {st : St} (h : isEndP (.done v st) = true) {e : Env} : plD e v st := by
  intro ρ V hV
  unfold isEndP at h
  split at h
  · rename_i heq; cases heq; subst h; exact hV
  · rename_i heq
    cases heq
    have := IExp.same_eq
    have hV : V = .bool (BExp.den e (.beq _ _)) := hV
    rw [hV, BExp.same_eq _ _ h]
    simp [BExp.den]
  · cases h
section
variable {W : World} {p q : Option Addr} {size : Int} {nr cr br obr n c b o : Nat} {z : List Int} {Z : List (List Value)} (hz : PlIn W p nr cr br obr z q n c b o Z)
include hz
theorem pl_head {e : Env} (hE : PlE e W size nr cr n c br obr b o z (vastB nr n Z)) {k : Key} (hI : (plInv n (vastB nr n Z)).I k e) (hk : k.2 < 16) {t : WT Sy.GoF} (ht : t.all isGoP = true) :
    t.holds e (OwedF 1000 5000 2 3 [(br, obr, 0), (b, o, 0), (0, 0, 0)] W plPats (plInv n (vastB nr n Z)) plD e (some ((plInv n (vastB nr n Z)).μ k e))) := by
  obtain ⟨hV, i, hi, hle, hin⟩ := hI
  have hin := hin hk
  have hn := hz.recs.1
  have htop : lenTop = 9223372036854775807 := rfl
  have htt := hz.recs.2.1
  refine WT.holds_mono (fun a ha => ?_) (WT.all_holds ht)
  unfold isGoP at ha
  split at ha
  · rename_i qk l left
    simp only [Bool.and_eq_true, decide_eq_true_eq] at ha
    obtain ⟨⟨⟨⟨⟨h1, h2⟩, h3⟩, h4⟩, h5⟩, h6⟩ := ha
    subst h1
    split at h3
    · rename_i x hx
      have h3 := IExp.same_eq _ _ h3
      subst h3
      have none_of : ∀ {j : Nat}, (getI l .i64 j).isNone = true → (Env.upd e e l).i .i64 j = e.i .i64 j := fun h => updI_none (by simpa using h)
      refine pl_go hz hV (i := i + 1) h2 ((none_of h5).trans hE.e3) ((none_of h6).trans hE.e4) ?_ (by omega) fun m' hm' => ?_
      · rw [updI hx, binE, litD, show (IExp.var .i64 1000).den e = i from hi]
        simp only [binDen]
        rw [wrap64 (by omega) (by omega)]
        simp
      · cases hm'
        simp only [plInv, hi, Int.toNat_natCast]
        omega
    · cases h3
  · cases ha
omit hz in
theorem pl_end {e : Env} {m : Option Nat} {t : WT Sy.GoF} (ht : t.all isEndP = true) {inv : Inv} : t.holds e (OwedF 1000 5000 2 3 [(br, obr, 0), (b, o, 0), (0, 0, 0)] W plPats inv plD e m) := by
  refine WT.holds_mono (fun a ha => ?_) (WT.all_holds ht)
  cases a with
  | go q l left => cases ha
  | done v st => exact isEndP_D ha
  | bad => cases ha
end
theorem plS2_end : plS2T.all isEndP = true := by kernel_rfl
theorem plS0_end : plS0T.all isEndP = true := by kernel_rfl
theorem plFine : plPats.all (fun q => patFine 5000 2 3 q.2) = true := by kernel_rfl
theorem plNd : plPats.all (fun q => (patAt plPats q.1).isSome) = true := by kernel_rfl
theorem plPats_at {k : Key} {p : Pat} (h : (k, p) ∈ plPats) : patAt plPats k = some p := by
  simp only [plPats, List.mem_cons, List.not_mem_nil, or_false, Prod.mk.injEq] at h
  rcases h with ⟨rfl, rfl⟩ | ⟨rfl, rfl⟩ | ⟨rfl, rfl⟩ | ⟨rfl, rfl⟩ | ⟨rfl, rfl⟩ | ⟨rfl, rfl⟩ | ⟨rfl, rfl⟩ | ⟨rfl, rfl⟩ | ⟨rfl, rfl⟩ | ⟨rfl, rfl⟩ | ⟨rfl, rfl⟩ | ⟨rfl, rfl⟩ | ⟨rfl, rfl⟩ | ⟨rfl, rfl⟩ | ⟨rfl, rfl⟩ | ⟨rfl, rfl⟩ | ⟨rfl, rfl⟩ <;> rfl
theorem plays_walk (W : World) (size : Int) (hs : IntKind.i64.min ≤ size ∧ size ≤ IntKind.i64.max) (p : Option Addr) (nr cr : Nat) (z : List Int) (hr0 : IsRow .u8 W p nr cr z) (q : Option Addr) (n c : Nat) (hv : CellsIs W [.recs actKs] [.slice q n c]) :
    Calls Try.prog 7 #[.int .i64 size, .slice p nr cr, .slice q n c] W (Yes W) := by
  obtain ⟨hf, hb⟩ := fn_of (f := 7) (by kernel_rfl)
  obtain ⟨b, o, Z, hrec⟩ := slRecs_of (by decide) hv
  have hn := hrec.1
  have ht := hrec.2.1
  have htop : lenTop = 9223372036854775807 := rfl
  obtain ⟨r1, r2, r3, r4⟩ := row_le hr0
  have key : ∀ br obr, (0 < cr → p = some ⟨br, obr, none⟩ ∧ At False W br obr cr (z.map (.int .u8))) → Calls Try.prog 7 #[.int .i64 size, .slice p nr cr, .slice q n c] W (Yes W) := by
    intro br obr hat
    have hz : PlIn W p nr cr br obr z q n c b o Z := ⟨hr0, fun h => (hat h).1, hrec⟩
    have ok := (plSrc W size nr cr n c br obr b o z (vastB nr n Z)).ok
    have hE : PlE (plSrc W size nr cr n c br obr b o z (vastB nr n Z)).env W size nr cr n c br obr b o z (vastB nr n Z) :=
      ⟨clip_of (k := .i64) (n := size) hs, clip_of (k := .i64) (n := (nr : Int)) (i64_in (by omega) (by omega)), clip_of (k := .i64) (n := (cr : Int)) (i64_in (by omega) (by omega)), clip_of (k := .i64) (n := (n : Int)) (i64_in (by omega) (by omega)), clip_of (k := .i64) (n := (c : Int)) (i64_in (by omega) (by omega)),
        clipL_of r4 (by show ((z.length : Nat) : Int) ≤ lenTop; omega), clipL_of (l := romL) (fun x hx => by
          obtain ⟨j, hj, rfl⟩ := List.mem_map.1 hx
          exact u8_in (by omega) (by omega)) (by rw [romL_len]; show (512 : Int) ≤ 9223372036854775807; omega), rfl, rfl, rfl, rfl⟩
    generalize (plSrc W size nr cr n c br obr b o z (vastB nr n Z)).env = E at ok hE
    have hkn : Knows E W [(br, obr, 0), (b, o, 0), (0, 0, 0)] := by
      refine ⟨fun i x hx => ?_, by rw [hE.base]; exact Nat.le_refl _, fun k _ => by rw [hE.h0]⟩
      rw [hE.fx] at hx
      rcases i with _ | _ | i
      · exact hx
      · exact hx
      · simp at hx
    have hrom : E.a .u8 9 = romL := hE.rom
    -- the common end of the three ways
    have run : ∀ (x y : IExp) (st : St), x.den E = nr → y.den E = cr → x.old 1000 = true → y.old 1000 = true → st.h.length = 3 → HRel E 3 [(br, obr, 0), (b, o, 0), (0, 0, 0)] st.h W → AsmOk E st.as → ∀ (inv : Inv),
        (startTF Try.prog 0 plan (tabP (.v (.c (.sl (some ⟨0, 0, none⟩) x (some y)))) x) 1000 1000 7 3 (fnOf 7) (bodyOf 7) plPats (plArgs (.v (.c (.sl (some ⟨0, 0, none⟩) x (some y))))) st).holds E (OwedF 1000 5000 2 3 [(br, obr, 0), (b, o, 0), (0, 0, 0)] W plPats inv plD E none) →
        (∀ k, k ∈ plPats.map (·.1) → ∀ e, EnvOk e → Agree 1000 E e → inv.I k e → (headTF Try.prog 0 plan (tabP (.v (.c (.sl (some ⟨0, 0, none⟩) x (some y)))) x) 1000 1000 7 3 3 (fnOf 7) (bodyOf 7) plPats k).holds e (OwedF 1000 5000 2 3 [(br, obr, 0), (b, o, 0), (0, 0, 0)] W plPats inv plD e (some (inv.μ k e)))) →
        Calls Try.prog 7 #[.int .i64 size, .slice p nr cr, .slice q n c] W (Yes W) := by
      intro x y st hx hy hxo hyo hl hr has inv hstart hheads
      refine cfgF (G := 0) (ov := 3) (plan := plan) (tab := tabP (.v (.c (.sl (some ⟨0, 0, none⟩) x (some y)))) x) (n := 1000) (N := 1000) (NE := 5000) (sv := 2) (ro := 3) (base := 3) (pats := plPats) (args := plArgs (.v (.c (.sl (some ⟨0, 0, none⟩) x (some y))))) (st := st) (e0 := E) (ρ0 := [(br, obr, 0), (b, o, 0), (0, 0, 0)]) (vs := [.int .i64 size, .slice p nr cr, .slice q n c]) (W0 := W) inv plD
        mixed plan_ok rfl (fun _ _ _ => LtOk.none) (fun e ok' g => ?_) hl hf hb ok ⟨_, _, rfl, congrArg _ hE.e0.symm, _, _, rfl, row_cell hr0 hz.at' (i := 0) rfl hx hy, _, _, rfl, hrec.cell (i := 1) rfl hE.e3 hE.e4, rfl⟩ has hr (noGlob _) (Nat.le_refl _) (show 3 ≤ 3 by omega) (by decide) (by decide) (by decide) ?_ hstart (fun k hk e ok' g _ hI => hheads k hk e ok' g hI) (fun k p hm => plPats_at hm) ?_ (by rw [hE.fx]; exact Nat.le_refl _)
      · have hE' := hE.agree g
        exact tabP_ok hz ok' hE'.base hE'.h0 hE'.fx hE'.e3 hE'.e4 (by rw [IExp.den_old g x hxo]; exact hx) (by rw [IExp.den_old g y hyo]; exact hy) hE'.v hE'.rom 3
      · intro k p hm
        exact List.all_eq_true.1 plFine _ hm
      · rintro e v st' ok' g hd ρb hbb ρ' V W' hp hV
        exact ⟨congrArg _ (hd _ _ hV), below_of_post hp (by rw [hbb.len]; exact Nat.le_refl _)⟩
    have hdead : HRel E 3 [(br, obr, 0), (b, o, 0), (0, 0, 0)] [none, none, none] W :=
      HRel.ro (e := E) (W := W) (ρ := [(br, obr, 0), (b, o, 0), (0, 0, 0)]) (h := [none, none, none]) rfl (fun i l t hi => by
        rcases i with _ | _ | _ | i <;> simp at hi) hkn
    have a9 : (BExp.eq (.len (.var .u8 9)) (.lit 512)).den E = true := by simp only [BExp.den, IExp.den, AExp.den, hrom, romL_len]; rfl
    have a3 : (BExp.le (.var .i64 3) (.lit (-1))).den E = false := by simp only [BExp.den, IExp.den, hE.e3]; exact decide_eq_false (by omega)
    rcases Nat.eq_zero_or_pos cr with h0 | h0
    · have hnr : nr = 0 := by omega
      refine run (.lit 0) (.lit 0) plSt0 (by rw [litD, hnr]; rfl) (by rw [litD, h0]; rfl) rfl rfl rfl hdead (AsmOk.cons a3 (AsmOk.cons a9 (AsmOk.nil _))) ⟨fun _ _ => False, fun _ _ => 0⟩ ?_ (fun k _ e _ _ hI => hI.elim)
      have := plS0
      rw [show startTF Try.prog 0 plan (tabP (.v (.c (.sl (some ⟨0, 0, none⟩) (.lit 0) (some (.lit 0))))) (.lit 0)) 1000 1000 7 3 (fnOf 7) (bodyOf 7) plPats (plArgs (.v (.c (.sl (some ⟨0, 0, none⟩) (.lit 0) (some (.lit 0)))))) plSt0 = plS0T from this]
      exact pl_end plS0_end
    · obtain ⟨hp, hA⟩ := hat h0
      have hrow : HRel E 3 [(br, obr, 0), (b, o, 0), (0, 0, 0)] [plRow 0, none, none] W :=
        HRel.ro (e := E) (W := W) (ρ := [(br, obr, 0), (b, o, 0), (0, 0, 0)]) (h := [plRow 0, none, none]) rfl (fun i l t hi => by
          rcases i with _ | _ | _ | i
          · have hi : some ([Seg.row .u8 (.var .u8 0)], _) = some (l, t) := Option.some.inj hi
            cases hi
            obtain ⟨cs, tt, fz, pre, rest, w1, w2, w3, w4, w5⟩ := hA.ex
            exact ⟨br, obr, 0, _, rfl, ⟨cs, tt, fz, pre, rest, w1, fun q => q.elim, w3, w4, Nat.zero_le _⟩, ⟨[], by rw [show (AExp.var .u8 0).den E = z from hE.z, List.append_nil], rfl⟩⟩
          · simp at hi
          · simp at hi
          · simp at hi) hkn
      have az : (BExp.eq (.len (.var .u8 0)) (.var .i64 2)).den E = true := by simp only [BExp.den, IExp.den, AExp.den, hE.z, hE.e2, r3]; exact decide_eq_true trivial
      by_cases h512 : nr = 512
      · refine run (.lit 512) (.var .i64 2) plSt1 (by rw [litD, h512]; rfl) hE.e2 rfl rfl rfl hrow (AsmOk.cons ?_ (AsmOk.cons az (AsmOk.cons a3 (AsmOk.cons a9 (AsmOk.nil _))))) (plInv n (vastB nr n Z)) ?_ ?_
        · simp only [BExp.den, IExp.den, hE.e2]; exact decide_eq_false (by omega)
        · rw [show startTF Try.prog 0 plan (tabP (.v (.c (.sl (some ⟨0, 0, none⟩) (.lit 512) (some (.var .i64 2))))) (.lit 512)) 1000 1000 7 3 (fnOf 7) (bodyOf 7) plPats (plArgs (.v (.c (.sl (some ⟨0, 0, none⟩) (.lit 512) (some (.var .i64 2)))))) plSt1 = plS1T from plS1]
          have qv : (BExp.var 9).den E = vastB nr n Z := hE.v
          simp only [plS1T, WT.holds, qv]
          split
          · exact fun ρ V hV => hV
          · rename_i hV
            have hV : vastB nr n Z = false := by simpa using hV
            split
            · exact fun ρ V hV => hV
            · split
              · split
                · exact ⟨pl_go hz hV (i := 0) rfl ((updI_none rfl).trans hE.e3) ((updI_none rfl).trans hE.e4) ((updI rfl).trans (litD _ _)) (Nat.zero_le _) (fun m' hm' => by cases hm'),
                    pl_go hz hV (i := 0) rfl ((updI_none rfl).trans hE.e3) ((updI_none rfl).trans hE.e4) ((updI rfl).trans (litD _ _)) (Nat.zero_le _) (fun m' hm' => by cases hm')⟩
                · exact fun ρ V hV => hV
              · exact fun ρ V hV => hV
        · intro k hk e ok' g hI
          have hE' := hE.agree g
          have hk : k ∈ [(qPl, 0), (qPl, 1), (qPl, 2), (qPl, 3), (qPl, 4), (qPl, 5), (qPl, 6), (qPl, 7), (qPl, 8), (qPl, 9), (qPl, 10), (qPl, 11), (qPl, 12), (qPl, 13), (qPl, 14), (qPl, 15), (qPl, 16)] := hk
          simp only [List.mem_cons, List.not_mem_nil, or_false] at hk
          rcases hk with rfl | rfl | rfl | rfl | rfl | rfl | rfl | rfl | rfl | rfl | rfl | rfl | rfl | rfl | rfl | rfl | rfl
          · exact pl_head hz hE' hI (by decide) plH0
          · exact pl_head hz hE' hI (by decide) plH1
          · exact pl_head hz hE' hI (by decide) plH2
          · exact pl_head hz hE' hI (by decide) plH3
          · exact pl_head hz hE' hI (by decide) plH4
          · exact pl_head hz hE' hI (by decide) plH5
          · exact pl_head hz hE' hI (by decide) plH6
          · exact pl_head hz hE' hI (by decide) plH7
          · exact pl_head hz hE' hI (by decide) plH8
          · exact pl_head hz hE' hI (by decide) plH9
          · exact pl_head hz hE' hI (by decide) plH10
          · exact pl_head hz hE' hI (by decide) plH11
          · exact pl_head hz hE' hI (by decide) plH12
          · exact pl_head hz hE' hI (by decide) plH13
          · exact pl_head hz hE' hI (by decide) plH14
          · exact pl_head hz hE' hI (by decide) plH15
          · exact pl_end plH16
      · refine run (.var .i64 1) (.var .i64 2) plSt2 hE.e1 hE.e2 rfl rfl rfl hrow (AsmOk.cons ?_ (AsmOk.cons ?_ (AsmOk.cons ?_ (AsmOk.cons ?_ (AsmOk.cons az (AsmOk.cons a3 (AsmOk.cons a9 (AsmOk.nil _)))))))) ⟨fun _ _ => False, fun _ _ => 0⟩ ?_ (fun k _ e _ _ hI => hI.elim)
        · simp only [BExp.den, IExp.den, hE.e1]; exact decide_eq_false (by omega)
        · simp only [BExp.den, IExp.den, hE.e1]; exact decide_eq_false (by omega)
        · simp only [BExp.den, IExp.den, hE.e1, hE.e2]; exact decide_eq_true (by omega)
        · simp only [BExp.den, IExp.den, AExp.den, hE.e1, hE.z, r3]; exact decide_eq_true (by omega)
        · rw [show startTF Try.prog 0 plan (tabP (.v (.c (.sl (some ⟨0, 0, none⟩) (.var .i64 1) (some (.var .i64 2))))) (.var .i64 1)) 1000 1000 7 3 (fnOf 7) (bodyOf 7) plPats (plArgs (.v (.c (.sl (some ⟨0, 0, none⟩) (.var .i64 1) (some (.var .i64 2)))))) plSt2 = plS2T from plS2]
          exact pl_end plS2_end
  rcases isRow_cases hr0 with ⟨g1, g2, g3⟩ | ⟨br, obr, g1, g2, _, _, _, g6, _⟩
  · exact key 0 0 (fun h => by omega)
  · exact key br obr (fun _ => ⟨g1, g6⟩)
end Go.Proofs.Ytopgnohobmlegaa.K
