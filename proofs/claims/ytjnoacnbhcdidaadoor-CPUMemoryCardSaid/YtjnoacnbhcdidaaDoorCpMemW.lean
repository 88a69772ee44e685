/- CPUMemory's walk. -/
import Derived.Test.YtjnoacnbhcdidaaDoorCpMem
namespace Go.Proofs.YtjnoacnbhcdidaaDoor.K
open Go Sy
set_option maxRecDepth 100000
set_option linter.unusedVariables false
set_option linter.unusedSimpArgs false
theorem mmNd (sl : SV) : ∀ k p, (k, p) ∈ mmPats sl → patAt (mmPats sl) k = some p := by
  intro k p hm
  simp only [mmPats, List.mem_cons, List.not_mem_nil, or_false, Prod.mk.injEq] at hm
  rcases hm with ⟨rfl, rfl⟩ | ⟨rfl, rfl⟩ | ⟨rfl, rfl⟩ <;> rfl
theorem mmFine1 : ∀ k p, (k, p) ∈ mmPats mmSl → patFine 5000 3 3 p = true := by
  intro k p hm
  simp only [mmPats, List.mem_cons, List.not_mem_nil, or_false, Prod.mk.injEq] at hm
  rcases hm with ⟨rfl, rfl⟩ | ⟨rfl, rfl⟩ | ⟨rfl, rfl⟩ <;> kernel_rfl
theorem mmFine0 : ∀ k p, (k, p) ∈ mmPats mmSl0 → patFine 5000 3 3 p = true := by
  intro k p hm
  simp only [mmPats, List.mem_cons, List.not_mem_nil, or_false, Prod.mk.injEq] at hm
  rcases hm with ⟨rfl, rfl⟩ | ⟨rfl, rfl⟩ | ⟨rfl, rfl⟩ <;> kernel_rfl
theorem mmST1 {e : Env} {n : Nat} (e0 : e.i .i64 0 = n) : mmST.holds e (fun g => (∃ l, g = .go (qMm, 0) l ∧ (n : Int) ≤ 2147483647 ∧ getI l .i64 1000 = some (.lit 0) ∧ getI l .i64 0 = none ∧ getI l .i64 1 = none ∧ getA l .u8 1010 = some (.var .u8 9)) ∨ ∃ st, g = .done (.v (.c (.b (.lit true)))) st) := by
  have q1 : (BExp.le (.var .i64 0) (.lit 2147483647)).den e = decide ((n : Int) ≤ 2147483647) := by rw [le_den, litD, show (IExp.var .i64 0).den e = n from e0]
  simp only [mmST, WT.holds, q1, decide_eq_true_eq]
  split
  · split
    · split
      · exact .inl ⟨_, rfl, by assumption, rfl, rfl, rfl, rfl⟩
      · exact .inr ⟨_, rfl⟩
    · exact .inr ⟨_, rfl⟩
  · exact .inr ⟨_, rfl⟩
theorem mmST0 {e : Env} {n : Nat} (e0 : e.i .i64 0 = n) : mmS0T.holds e (fun g => (∃ l, g = .go (qMm, 0) l ∧ (n : Int) ≤ 2147483647 ∧ getI l .i64 1000 = some (.lit 0) ∧ getI l .i64 0 = none ∧ getI l .i64 1 = none ∧ getA l .u8 1010 = some (.var .u8 9)) ∨ ∃ st, g = .done (.v (.c (.b (.lit true)))) st) := by
  have q1 : (BExp.le (.var .i64 0) (.lit 2147483647)).den e = decide ((n : Int) ≤ 2147483647) := by rw [le_den, litD, show (IExp.var .i64 0).den e = n from e0]
  simp only [mmS0T, WT.holds, q1, decide_eq_true_eq]
  split
  · exact .inl ⟨_, rfl, by assumption, rfl, rfl, rfl, rfl⟩
  · exact .inr ⟨_, rfl⟩
theorem memory_walk (W : World) (cs0 : List Value) (k0 : Flat.AllOk cpuFs cs0) (cs1 : List Value) (ck : CellsIs W [.i .u16, .rows .u8, .recs pinKs] cs1) (hL : laidMetH Tryd.prog [("vesper/cpu.lasts", Rows.laid_vesper_cpu_lasts)] W) :
    Calls Tryd.prog 3 #[.agg cs0.toArray, .agg cs1.toArray] W (Yes W) := by
  obtain ⟨c, hc, rfl⟩ := cpu_of k0
  have hlaid : Laid W := fun e => of_laid hL e
  have htop : lenTop = 9223372036854775807 := rfl
  have ck2 : ∃ at' v2 v3, cs1 = [.int .u16 at', v2, v3] ∧ In .u16 at' ∧ CellIs W (.rows .u8) v2 ∧ CellsIs W [.recs pinKs] [v3] := by
    simp only [CellsIs] at ck
    obtain ⟨v1, r1, rfl, h1, v2, r2, rfl, h2, v3, r3, rfl, h3, rfl⟩ := ck
    simp only [CellIs] at h1
    obtain ⟨at', rfl, h1⟩ := h1
    refine ⟨at', v2, v3, rfl, h1, h2, ?_⟩
    simp only [CellsIs]
    exact ⟨v3, [], rfl, h3, rfl⟩
  obtain ⟨at0, v2, v3, rfl, hat, h2, h3⟩ := ck2
  obtain ⟨hat0, hat1⟩ := hat
  simp only [IntKind.min_u16, IntKind.max_u16] at hat0 hat1
  obtain ⟨at', rfl⟩ : ∃ k : Nat, at0 = k := ⟨at0.toNat, by omega⟩
  have hv3 : ∃ a n cap, v3 = .slice a n cap := by
    simp only [CellsIs, CellIs] at h3
    obtain ⟨v, r, hv, ⟨a, n, cap, Z, rfl, _⟩, _⟩ := h3
    simp only [List.cons.injEq] at hv
    exact ⟨a, n, cap, hv.1⟩
  obtain ⟨a, n, cap, rfl⟩ := hv3
  simp only [CellIs] at h2
  obtain ⟨a2, n2, c2, z, rfl, hrow⟩ := h2
  obtain ⟨b, o, Z, hnc, hcap, hsl, hZ⟩ : ∃ (b o : Nat) (Z : List (List Value)), n ≤ cap ∧ (cap : Int) ≤ lenTop ∧ ((cap = 0 ∧ n = 0) ∨ (0 < cap ∧ a = some ⟨b, o, none⟩)) ∧ (0 < cap → RecsAt W pinKs b o cap Z) := by
    rcases recs_open (by decide) h3 with ⟨h1, h2⟩ | ⟨b, o, Z, h1, h2, h3, h4⟩
    · exact ⟨0, 0, [], by omega, by rw [h1]; decide, .inl ⟨h1, h2⟩, fun h => by omega⟩
    · exact ⟨b, o, Z, h3, h4.top, .inr ⟨h2, h1⟩, fun _ => h4⟩
  rcases isRow_cases hrow with ⟨rfl, rfl, rfl⟩ | ⟨b2, o2, rfl, hc2, hn2, hct, hzl, hrat, hin⟩
  · exact mm_core (x := none) (bq := .lit true) (sl := mmSl0) (q0 := []) (x2 := (0, 0, 0)) (z := []) (n2 := 0) (c2 := 0) hlaid hc (by omega) hnc hcap hsl hZ (by rw [htop]; decide) (by rw [htop]; decide) (by rw [htop]; decide) (fun y hy => by cases hy)
      (fun e _ _ _ => slice0 e) (fun e _ _ => by decide) (fun e _ _ => AsmOk.nil _)
      (fun e _ _ => ⟨⟨_, _, _, rfl, by rw [litD]; rfl, Nat.le_refl _, .inr ⟨rfl, rfl, fun x hx => by cases hx; exact litD _ _⟩⟩, rfl, _, rfl⟩) (fun e _ l t h => by cases h) mmFine0 (mmNd _) mmS0 (fun e e0 _ => mmST0 e0) mmH00 mmH10 mmC0
  · exact mm_core (x := mmBlk) (bq := mmB) (sl := mmSl) (q0 := mmAs) (x2 := (b2, o2, c2)) (z := z) (n2 := n2) (c2 := c2) hlaid hc (by omega) hnc hcap hsl hZ (by omega) hct (by rw [hzl]; exact hct) hin
      (fun e e2 e3 ez => slice1 e2 e3 ez hc2 hn2 hct hzl hin) (fun e e2 hb => by
        rw [mmB, le_den, litD, show (IExp.var .i64 2).den e = n2 from e2] at hb
        exact of_decide_eq_true hb)
      (fun e e2 ez => by
        refine AsmOk.cons ?_ (AsmOk.cons ?_ (AsmOk.nil _)) <;> simp only [BExp.den, IExp.den, AExp.den, e2, ez, hzl]
        · exact decide_eq_true (by omega)
        · exact decide_eq_false (by omega))
      (fun e e2 e3 => ⟨slice_D (i := 2) (r := c2) rfl e2 e3 hn2, rfl, _, rfl⟩)
      (fun e ez l t h => by
        cases h
        exact ⟨b2, o2, c2, _, rfl, hrat, [], by rw [show (AExp.var .u8 20).den e = z from ez, List.append_nil], rfl⟩) mmFine1 (mmNd _) mmS (fun e e0 _ => mmST1 e0) mmH0 mmH1 mmC
end Go.Proofs.YtjnoacnbhcdidaaDoor.K
