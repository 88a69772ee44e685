/- CodeCuts answers true. -/
import Derived.Test.YtofphikiadiogaaDoorCoCuA
import Derived.Test.YtofphikiadiogaaDoorCoCuB
import Derived.Test.YtofphikiadiogaaDoorCoCuC
import Derived.Test.YtofphikiadiogaaDoorCoCuD
namespace Go.Proofs.YtofphikiadiogaaDoor.K
open Go Sy
set_option maxRecDepth 100000
set_option linter.unusedVariables false
set_option linter.unusedSimpArgs false
theorem same_is : SameIs Tryd.prog .u8 11 := fun W p p' n n' c c' z z' h h' => same_calls W h h'
theorem row_le {k : IntKind} {W : World} {p : Option Addr} {n c : Nat} {z : List Int} (h : IsRow k W p n c z) : n ≤ c ∧ (c : Int) ≤ lenTop ∧ z.length = c ∧ ∀ x ∈ z, In k x := by
  rcases isRow_cases h with ⟨h1, h2, h3⟩ | ⟨_, _, _, _, h4, h5, h6, _, h7⟩
  · rw [h1, h2, h3]; exact ⟨Nat.le_refl _, by decide, rfl, fun x hx => by cases hx⟩
  · exact ⟨h4, h5, h6, h7⟩
theorem asm_agree {N : Nat} {e e' : Env} (g : Agree N e e') {bs : Asm} (h : (bs.all fun p => p.1.old N) = true) (ha : AsmOk e bs) : AsmOk e' bs := fun p hp => by
  rw [BExp.den_old g _ (List.all_eq_true.1 h p hp)]
  exact ha p hp
theorem cutsOk_get : ∀ {n k j : Nat}, cutsOk k n = true → k ≤ j → j < k + n → (cuH j).all isGoC = true
  | 0, k, j, _, h1, h2 => by omega
  | n + 1, k, j, h, h1, h2 => by
    simp only [cutsOk, Bool.and_eq_true] at h
    rcases Nat.eq_or_lt_of_le h1 with rfl | h1
    · exact h.1
    · exact cutsOk_get h.2 h1 (by omega)
theorem cuts_all (j : Nat) (hj : j < 81) : (cuH j).all isGoC = true := by
  have key : ∀ i, i < 20 → cutsOk (4 * i) 4 = true := by
    intro i hi
    rcases i with _ | _ | _ | _ | _ | _ | _ | _ | _ | _ | _ | _ | _ | _ | _ | _ | _ | _ | _ | _ | i
    · exact cutsOk0
    · exact cutsOk1
    · exact cutsOk2
    · exact cutsOk3
    · exact cutsOk4
    · exact cutsOk5
    · exact cutsOk6
    · exact cutsOk7
    · exact cutsOk8
    · exact cutsOk9
    · exact cutsOk10
    · exact cutsOk11
    · exact cutsOk12
    · exact cutsOk13
    · exact cutsOk14
    · exact cutsOk15
    · exact cutsOk16
    · exact cutsOk17
    · exact cutsOk18
    · exact cutsOk19
    · omega
  rcases Nat.lt_or_ge j 80 with h | h
  · exact cutsOk_get (key (j / 4) (by omega)) (by omega) (by omega)
  · obtain rfl : j = 80 := by omega
    exact cutsEnd
theorem opG80_len : opG80.length = 80 := by kernel_rfl
theorem opG80_cover (i : Nat) (h : i ≤ 255) : ∃ (j : Nat) (g : Nat × Nat), opG80[j]? = some g ∧ g.1 ≤ i ∧ i ≤ g.2 := by
  have hc : (List.range 256).all (fun i => opG80.any fun g => decide (g.1 ≤ i) && decide (i ≤ g.2)) = true := by kernel_rfl
  obtain ⟨g, hg, hb⟩ := List.any_eq_true.1 (List.all_eq_true.1 hc i (List.mem_range.2 (by omega)))
  simp only [Bool.and_eq_true, decide_eq_true_eq] at hb
  obtain ⟨j, hj⟩ := List.mem_iff_getElem?.1 hg
  exact ⟨j, g, hj, hb⟩
theorem cuFrom_at : ∀ {l : List (Nat × Nat)} {k j : Nat} {g : Nat × Nat}, l[j]? = some g → patAt (cuFrom k l) (qCu, k + j) = some (pCu g)
  | [], _, _, _, h => by simp at h
  | x :: r, k, 0, g, h => by
    simp at h; subst h
    simp [cuFrom, patAt]
  | x :: r, k, j + 1, g, h => by
    have := cuFrom_at (k := k + 1) (j := j) (g := g) (l := r) (by simpa using h)
    simp only [cuFrom, patAt]
    rw [show decide ((qCu, k) = (qCu, k + (j + 1))) = false from decide_eq_false (by simp), cond_false, show k + (j + 1) = k + 1 + j by omega]
    exact this
theorem cuFrom_end : ∀ {l : List (Nat × Nat)} {k : Nat}, patAt (cuFrom k l) (qCu, k + l.length) = some pCuE
  | [], k => by simp [cuFrom, patAt]
  | x :: r, k => by
    have := cuFrom_end (l := r) (k := k + 1)
    simp only [cuFrom, patAt, List.length_cons]
    rw [show decide ((qCu, k) = (qCu, k + (r.length + 1))) = false from decide_eq_false (by simp), cond_false, show k + (r.length + 1) = k + 1 + r.length by omega]
    exact this
theorem cuFrom_mem : ∀ {l : List (Nat × Nat)} {k : Nat} {q : Key} {p : Pat}, (q, p) ∈ cuFrom k l → (∃ j g, l[j]? = some g ∧ q = (qCu, k + j) ∧ p = pCu g) ∨ (q = (qCu, k + l.length) ∧ p = pCuE)
  | [], _, _, _, h => by
    simp only [cuFrom, List.mem_singleton, Prod.mk.injEq] at h
    exact .inr ⟨h.1, h.2⟩
  | x :: r, k, q, p, h => by
    rcases List.mem_cons.1 h with h | h
    · cases h; exact .inl ⟨0, x, rfl, rfl, rfl⟩
    · rcases cuFrom_mem h with ⟨j, g, h1, h2, h3⟩ | ⟨h1, h2⟩
      · exact .inl ⟨j + 1, g, by simpa using h1, by rw [h2, show k + 1 + j = k + (j + 1) by omega], h3⟩
      · exact .inr ⟨by rw [h1, List.length_cons, show k + 1 + r.length = k + (r.length + 1) by omega], h2⟩
def cuInv (n : Nat) : Inv := ⟨fun _ e => ∃ i : Nat, e.i .i64 1000 = i, fun _ e => n - (e.i .i64 1000).toNat⟩
def cuSrcE (z : List Int) (n i : Nat) : Src := { i := fun k => match k with | .u8 => [z.getD i 0] | _ => [], b := [], a := fun k j => match k, j with | .u8, 0 => z.take i | .u8, 1 => (z.take n).drop (i + 1) | _, _ => [] }
theorem globs_get {g : Nat} (h : g < 7) (b : Nat × Nat × Nat) : (globs 7 ++ [b])[g]? = some (g, 0, 0) := by
  rw [List.getElem?_append_left (by simpa [globs] using h)]
  simp [globs, h]
theorem drop8 (x : Nat × Nat × Nat) : (globs 7 ++ [x]).drop 8 = [] := rfl
abbrev cuD : Env → SVal → St → Prop := fun e v _ => ∀ ρ V, v.D e ρ V → V = .bool true
section
variable {W : World} {p : Option Addr} {n c b o : Nat} {z : List Int} (hz : IsRow .u8 W p n c z) (hat : 0 < c → p = some ⟨b, o, none⟩ ∧ At False W b o c (z.map (.int .u8))) (hG : GlobsAt true false W)
include hz hat hG
theorem cu_go {e : Env} {l : List Asg} {left : List Nat} {i : Nat} {m : Option Nat} (hleft : left.all (fun j => decide (j < 5)) = true) (e0 : (Env.upd e e l).i .i64 0 = n) (hi : (Env.upd e e l).i .i64 1000 = i) (hm : ∀ m', m = some m' → i ≤ n → n - i < m') :
    OwedF 1000 5000 8 8 (globs 7 ++ [(b, o, 0)]) W cuPats (cuInv n) cuD e m (.go (qCu, 0) l left) := by
  intro ok' hag hfound
  generalize Env.upd e e l = E at *
  obtain ⟨hnc, hct, hzl, hin⟩ := row_le hz
  have htop : lenTop = 9223372036854775807 := rfl
  have hp0' : patAt cuPats (qCu, 0) = some (pCu (0, 0)) := rfl
  have hAs : AsmOk E cuAs := by
    have := hfound (pCu (0, 0)) rfl
    intro x hx
    obtain ⟨j, hj⟩ := List.mem_iff_getElem?.1 hx
    refine this (5 + j) x ?_ ?_
    · rw [show (pCu (0, 0)).as = (pCu (0, 0)).as.take 5 ++ cuAs from rfl, List.getElem?_append_right (show 5 ≤ 5 + j by omega)]
      rw [show 5 + j - ((pCu (0, 0)).as.take 5).length = j from Nat.add_sub_cancel_left 5 j]
      exact hj
    · intro hmem
      have := of_decide_eq_true (List.all_eq_true.1 hleft _ hmem)
      omega
  have hle : i ≤ n := by
    have := leT (hAs (.le (.var .i64 1000) (.var .i64 0), true) (by simp [cuAs]))
    rw [show (IExp.var .i64 1000).den E = i from hi, show (IExp.var .i64 0).den E = n from e0] at this
    omega
  have hp0 : ∀ p2, patAt cuPats (qCu, 0) = some p2 → p2 = pCu (0, 0) := fun p2 h => by
    rw [hp0'] at h
    cases h; rfl
  have ro : ∀ (e' : Env) (j : Nat) l1 t1, j < 7 → (gS true false)[j]? = some (some (l1, t1)) → ∃ b' o' r vs, (globs 7 ++ [(b, o, 0)])[j]? = some (b', o', r) ∧ At False W b' o' r vs ∧ SegsD e' (globs 7 ++ [(b, o, 0)]) l1 vs ∧ ∀ x ∈ (globs 7 ++ [(b, o, 0)]).drop 8, x.1 ≠ b' := by
    intro e' j l1 t1 hj hl1
    obtain ⟨cl, rfl, hc⟩ := gS_get hl1
    obtain ⟨vs, h1, h2⟩ := hG j cl t1 hc
    exact ⟨j, 0, 0, vs, globs_get hj _, h1, (h2 e' _).segs, fun x hx => by rw [drop8] at hx; cases hx⟩
  by_cases hlt : i < n
  · have hx := hin (z.getD i 0) (by rw [List.getD_eq_getElem?_getD, List.getElem?_eq_getElem (by omega)]; exact List.getElem_mem _)
    have hx0 := hx
    obtain ⟨hx1, hx2⟩ := hx0
    simp only [IntKind.min_u8, IntKind.max_u8] at hx1 hx2
    obtain ⟨j, g, hj, hg1, hg2⟩ := opG80_cover (z.getD i 0).toNat (by omega)
    have ag := over_agree E 5000 (cuSrcE z n i)
    have a0 : (over E 5000 (cuSrcE z n i)).i .i64 0 = n := e0
    have ai : (over E 5000 (cuSrcE z n i)).i .i64 1000 = i := hi
    have ax : (over E 5000 (cuSrcE z n i)).i .u8 5000 = z.getD i 0 := (over_i E 5000 (cuSrcE z n i) .u8 0).trans (clip_of hx)
    have ap : (over E 5000 (cuSrcE z n i)).a .u8 5000 = z.take i := (over_a E 5000 (cuSrcE z n i) .u8 0).trans (clipL_of (l := z.take i) (fun x hx => hin x (List.mem_of_mem_take hx)) (by
      show (((z.take i).length : Nat) : Int) ≤ lenTop
      rw [List.length_take]; omega))
    have aq : (over E 5000 (cuSrcE z n i)).a .u8 5001 = (z.take n).drop (i + 1) := (over_a E 5000 (cuSrcE z n i) .u8 1).trans (clipL_of (l := (z.take n).drop (i + 1)) (fun x hx => hin x (List.mem_of_mem_take (List.mem_of_mem_drop hx))) (by
      show ((((z.take n).drop (i + 1)).length : Nat) : Int) ≤ lenTop
      rw [List.length_drop, List.length_take]; omega))
    have lp : (z.take i).length = i := by rw [List.length_take]; omega
    have lq : ((z.take n).drop (i + 1)).length = n - i - 1 := by rw [List.length_drop, List.length_take]; omega
    obtain ⟨hp, hA⟩ := hat (by omega)
    refine ⟨over E 5000 (cuSrcE z n i), globs 7 ++ [(b, o, 0)], (qCu, 0 + j), pCu g, over_ok ok' _ _, ag, ⟨rfl, rfl, rfl⟩, rfl, cuFrom_at hj, fun p2 hp2 => ?_, ?_, ?_, ⟨i, ai⟩, fun m' hm' => ?_⟩
    · rw [hp0 p2 hp2]; exact ⟨rfl, rfl, rfl⟩
    · refine AsmOk.append ?_ (asm_agree ag (by kernel_rfl) hAs)
      refine AsmOk.cons ?_ (AsmOk.cons ?_ (AsmOk.cons ?_ (AsmOk.cons ?_ (AsmOk.cons ?_ (AsmOk.nil _))))) <;> simp only [BExp.den, IExp.den, AExp.den, a0, ai, ax, ap, aq, lp, lq]
      · exact decide_eq_true (by omega)
      · exact decide_eq_false (by omega)
      · exact decide_eq_true trivial
      · refine decide_eq_true ?_
        show ((n - i - 1 : Nat) : Int) = IntKind.i64.wrap (IntKind.i64.wrap ((n : Int) - i) - 1)
        rw [wrap64 (n := (n : Int) - i) (by omega) (by omega), wrap64 (by omega) (by omega)]
        omega
      · exact decide_eq_true (by omega)
    · intro q l1 t1 hq hl1
      rcases Nat.lt_or_ge q 7 with hq7 | hq7
      · exact ro _ q l1 t1 hq7 (by
          rw [show (pCu g).h = gS true false ++ [cuRow] from rfl, List.getElem?_append_left (by rw [gS_len]; exact hq7)] at hl1
          exact hl1)
      · obtain rfl : q = 7 := by omega
        have hl1 : some ([Seg.row .u8 (.cat (.var .u8 5000) (.cat (.one (.var .u8 5000)) (.var .u8 5001)))], _) = some (l1, t1) := Option.some.inj hl1
        cases hl1
        obtain ⟨cs, tt, fz, pre, rest, w1, w2, w3, w4, w5⟩ := hA.ex
        refine ⟨b, o, 0, (z.take n).map (.int .u8), rfl, ⟨cs, tt, fz, pre, (z.drop n).map (.int .u8) ++ rest, w1, fun q => q.elim, ?_, w4, Nat.zero_le _⟩, ?_, fun x hx => by rw [drop8] at hx; cases hx⟩
        · rw [w3]
          simp only [List.append_assoc, ← List.map_append]
          rw [← List.append_assoc ((z.take n).map _), ← List.map_append, List.take_append_drop]
        · refine ⟨[], ?_, rfl⟩
          simp only [AExp.den, IExp.den, ax, ap, aq, List.append_nil]
          congr 1
          have h1 : (z.take n).take i = z.take i := by rw [List.take_take, Nat.min_eq_left (by omega)]
          have h2 : (z.take n)[i]? = some (z.getD i 0) := by
            rw [List.getElem?_take_of_lt hlt, List.getD_eq_getElem?_getD, List.getElem?_eq_getElem (by omega)]; rfl
          have h3 : (z.take n).drop i = z.getD i 0 :: (z.take n).drop (i + 1) := by
            have hl : i < (z.take n).length := by rw [List.length_take]; omega
            rw [List.drop_eq_getElem_cons hl]
            rw [List.getElem?_eq_getElem hl] at h2
            rw [Option.some.inj h2]
          calc z.take n = (z.take n).take i ++ (z.take n).drop i := (List.take_append_drop _ _).symm
            _ = z.take i ++ ([z.getD i 0] ++ (z.take n).drop (i + 1)) := by rw [h1, h3]; rfl
    · simp only [cuInv, ai, Int.toNat_natCast]; exact hm m' hm' hle
  · refine ⟨E, globs 7 ++ [(b, o, 0)], (qCu, 0 + opG80.length), pCuE, ok', Agree.refl _ _, Base.refl _ _ _, rfl, cuFrom_end, fun p2 hp2 => ?_, ?_, ?_, ⟨i, hi⟩, fun m' hm' => ?_⟩
    · rw [hp0 p2 hp2]; exact ⟨rfl, rfl, rfl⟩
    · refine AsmOk.cons ?_ hAs
      simp only [BExp.den, IExp.den, e0, hi]
      exact decide_eq_false (by omega)
    · intro q l1 t1 hq hl1
      rcases Nat.lt_or_ge q 7 with hq7 | hq7
      · exact ro _ q l1 t1 hq7 (by
          rw [show pCuE.h = gS true false ++ [none] from rfl, List.getElem?_append_left (by rw [gS_len]; exact hq7)] at hl1
          exact hl1)
      · obtain rfl : q = 7 := by omega
        cases (Option.some.inj hl1)
    · simp only [cuInv, hi, Int.toNat_natCast]; exact hm m' hm' hle
end
def cuSrc (W : World) (n c b o : Nat) : Src := Src.know { i := fun k => match k with | .i64 => [n, c] | _ => [], b := [], a := fun _ _ => [], fa := coFa, fi := coFi } W []
def isStC : Sy.GoF → Bool
  | .go q l left => decide (q = (qCu, 0)) && left.all (fun j => decide (j < 5)) && (match getI l .i64 1000 with | some x => x.same (.lit 0) | none => false) && (getI l .i64 0).isNone
  | .done v _ => isT1 v
  | .bad => false
theorem cuS_all : cuS.all isStC = true := by kernel_rfl
theorem cuts_walk (W : World) (hG : GlobsAt true false W) (p : Option Addr) (n c : Nat) (z : List Int) (hz : IsRow .u8 W p n c z) : Calls Tryd.prog 3 #[.slice p n c] W (Yes W) := by
  obtain ⟨hf, hbd⟩ := fn_of (f := 3) (by kernel_rfl)
  obtain ⟨hnc, hct, hzl, hin⟩ := row_le hz
  have htop : lenTop = 9223372036854775807 := rfl
  have key : ∀ b o, (0 < c → p = some ⟨b, o, none⟩ ∧ At False W b o c (z.map (.int .u8))) → Calls Tryd.prog 3 #[.slice p n c] W (Yes W) := by
    intro b o hat
    have ok := (cuSrc W n c b o).ok
    have e0 : (cuSrc W n c b o).env.i .i64 0 = n := clip_of (k := .i64) (n := (n : Int)) (i64_in (by omega) (by omega))
    have e1 : (cuSrc W n c b o).env.i .i64 1 = c := clip_of (k := .i64) (n := (c : Int)) (i64_in (by omega) (by omega))
    have hE : CoE (cuSrc W n c b o).env := coFa_env rfl
    have hE2 : CoE2 (cuSrc W n c b o).env := coFi_env rfl
    have hk : KnowsG true false (cuSrc W n c b o).env := ⟨W, rfl, rfl, hG⟩
    have hfx : (cuSrc W n c b o).env.fx = [] := rfl
    have hkn : Knows (cuSrc W n c b o).env W (globs 7 ++ [(b, o, 0)]) := ⟨fun i x h => by rw [hfx] at h; simp at h, Nat.le_refl _, fun k _ => rfl⟩
    generalize (cuSrc W n c b o).env = E at ok e0 e1 hE hE2 hk hkn hfx
    have hr : HRel E 8 (globs 7 ++ [(b, o, 0)]) cuSt.h W := HRel.ro (e := E) (W := W) (ρ := globs 7 ++ [(b, o, 0)]) (h := cuSt.h) rfl (fun i l t hi => by
      rcases Nat.lt_or_ge i 7 with hi7 | hi7
      · rw [show cuSt.h = gS true false ++ [none] from rfl, List.getElem?_append_left (by rw [gS_len]; exact hi7)] at hi
        obtain ⟨cl, rfl, hc⟩ := gS_get hi
        obtain ⟨vs, h1, h2⟩ := hG i cl t hc
        exact ⟨i, 0, 0, vs, globs_get hi7 _, h1, (h2 E _).segs⟩
      · rw [show cuSt.h = gS true false ++ [none] from rfl, List.getElem?_append_right (by rw [gS_len]; exact hi7), gS_len] at hi
        rcases hq : i - 7 with _ | q
        · rw [hq] at hi; cases hi
        · rw [hq] at hi; simp at hi) hkn
    refine cfgF (G := 7) (ov := 8) (plan := plan) (tab := tabCuts) (n := 1000) (N := 1000) (NE := 5000) (sv := 8) (ro := 8) (base := 8) (pats := cuPats) (args := cuArgs) (st := cuSt) (e0 := E) (ρ0 := globs 7 ++ [(b, o, 0)]) (vs := [.slice p n c]) (W0 := W) (cuInv n) cuD
      mixed plan_ok rfl (fun _ _ _ => LtOk.none) (fun e ok' g => TabOk.or (TabOk.or (tabName_ok names_a ok' ⟨fun v hv => by rw [g.fa]; exact hE.name v hv⟩ (hk.agree g) 7 8) (tabFirst_ok first_a ok' ⟨fun l => by rw [g.fi]; exact hE2.first l⟩ (hk.agree g) 7 8)) (tabSame_ok ok' same_is 7 8)) rfl hf hbd ok ⟨_, _, rfl, row_cell hz (fun h => (hat h).1) (i := 7) rfl e0 e1, rfl⟩ ?_ hr (fun g hg => ?_) (Nat.le_refl _) (by simp [globs]) (by decide) (by decide) (by decide) ?_ ?_ ?_ ?_ ?_ (by rw [hfx]; exact Nat.zero_le _)
    · refine AsmOk.cons ?_ (AsmOk.cons ?_ (AsmOk.nil _)) <;> simp only [BExp.den, IExp.den, e0, e1]
      · exact decide_eq_false (by omega)
      · exact decide_eq_true (by omega)
    · exact globs_get hg _
    · intro k p' hm
      rcases cuFrom_mem hm with ⟨j, g, _, _, rfl⟩ | ⟨_, rfl⟩
      · rfl
      · rfl
    · show cuS.holds E _
      refine WT.holds_mono (fun a ha => ?_) (WT.all_holds cuS_all)
      cases a with
      | go q l left =>
        simp only [isStC, Bool.and_eq_true, decide_eq_true_eq] at ha
        obtain ⟨⟨⟨rfl, h1⟩, h2⟩, h3⟩ := ha
        split at h2
        · rename_i x hx
          have h2 := IExp.same_eq _ _ h2
          subst h2
          exact cu_go hz hat hG h1 ((updI_none (by simpa using h3)).trans e0) (i := 0) ((updI hx).trans (litD _ _)) (fun m' hm' => by cases hm')
        · cases h2
      | done v st => exact isTq_D ha
      | bad => cases ha
    · intro k hk' e ok' g ha hI
      obtain ⟨⟨k', p'⟩, hm, rfl⟩ := List.mem_map.1 hk'
      have g0 : e.i .i64 0 = n := by rw [g.i .i64 0 (by omega)]; exact e0
      obtain ⟨i, hi⟩ := hI
      have hjj : ∃ j, j < 81 ∧ k' = (qCu, j) := by
        rcases cuFrom_mem hm with ⟨j, gg, hj, h1, _⟩ | ⟨h1, _⟩
        · have : j < 80 := by rw [← opG80_len]; exact (List.getElem?_eq_some_iff.1 hj).1
          exact ⟨j, by omega, by rw [h1, Nat.zero_add]⟩
        · exact ⟨80, by omega, by rw [h1, opG80_len]⟩
      obtain ⟨j, hj, rfl⟩ := hjj
      have hi0 : ∃ p'', patAt cuPats (qCu, j) = some p'' ∧ (BExp.le (.var .i64 1000) (.var .i64 0), true) ∈ p''.as ∧ (BExp.le (.var .i64 0) (.lit 2147483647), true) ∈ p''.as := by
        rcases cuFrom_mem hm with ⟨j', gg, hj', h1, h2⟩ | ⟨h1, h2⟩
        · exact ⟨pCu gg, by rw [h1]; exact cuFrom_at hj', by simp [pCu, cuAs], by simp [pCu, cuAs]⟩
        · exact ⟨pCuE, by rw [h1]; exact cuFrom_end, by simp [pCuE, cuAs], by simp [pCuE, cuAs]⟩
      obtain ⟨p'', hp1, hp2, hp3⟩ := hi0
      have hn31 : n ≤ 2147483647 := by
        have := leT (ha p'' hp1 _ hp3)
        rw [show (IExp.var .i64 0).den e = n from g0, litD] at this
        omega
      have hile : i ≤ n := by
        have := leT (ha p'' hp1 _ hp2)
        rw [show (IExp.var .i64 1000).den e = i from hi, show (IExp.var .i64 0).den e = n from g0] at this
        omega
      show (cuH j).holds e _
      refine WT.holds_mono (fun a ha => ?_) (WT.all_holds (cuts_all j hj))
      cases a with
      | go q l left =>
        simp only [isGoC, Bool.and_eq_true, decide_eq_true_eq] at ha
        obtain ⟨⟨⟨⟨rfl, h1⟩, h2⟩, h3⟩, h4⟩ := ha
        split at h2
        · rename_i x hx
          unfold stepOf at h2
          split at h2
          · rename_i y kk
            simp only [Bool.and_eq_true, decide_eq_true_eq] at h2
            obtain ⟨⟨h5, h6⟩, h7⟩ := h2
            have h5 := IExp.same_eq _ _ h5
            subst h5
            refine cu_go hz hat hG h1 ((updI_none (by simpa using h3)).trans g0) (i := i + kk.toNat) ?_ (fun m' hm' hle' => ?_)
            · rw [updI hx, binE, litD, show (IExp.var .i64 1000).den e = i from hi]
              simp only [binDen]
              rw [wrap64 (by omega) (by omega)]
              omega
            · cases hm'
              simp only [cuInv, hi, Int.toNat_natCast]
              omega
          · cases h2
        · cases h2
      | done v st => exact isTq_D ha
      | bad => cases ha
    · intro k p' hm
      rcases cuFrom_mem hm with ⟨j, g, hj, h1, h2⟩ | ⟨h1, h2⟩
      · rw [h1, h2]; exact cuFrom_at hj
      · rw [h1, h2]; exact cuFrom_end
    · rintro e v st' ok' g hd ρb hbb ρ' V W' hp' hV
      exact ⟨congrArg _ (hd _ _ hV), below_of_post hp' (by rw [hbb.len]; simp [globs])⟩
  rcases isRow_cases hz with ⟨g1, g2, g3⟩ | ⟨b, o, g1, g2, _, _, _, g6, _⟩
  · exact key 0 0 (fun h => by omega)
  · exact key b o (fun _ => ⟨g1, g6⟩)
theorem codeCuts_walk (W : World) (p : Option Addr) (n c : Nat) (z : List Int) (hz : IsRow .u8 W p n c z) (hL : laidMetH Tryd.prog laidA W) : Calls Tryd.prog 3 #[.slice p n c] W (Yes W) := cuts_walk W (globs_of hL (by kernel_rfl) false (fun _ h => h) (fun h => by cases h)) p n c z hz
end Go.Proofs.YtofphikiadiogaaDoor.K
