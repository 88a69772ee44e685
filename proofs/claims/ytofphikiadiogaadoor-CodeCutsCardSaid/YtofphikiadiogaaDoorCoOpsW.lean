/- CodeOps answers true. -/
import Derived.Test.YtofphikiadiogaaDoorCoOpA
import Derived.Test.YtofphikiadiogaaDoorCoOpB
import Derived.Test.YtofphikiadiogaaDoorCoOpC
import Derived.Test.YtofphikiadiogaaDoorCoOpD
namespace Go.Proofs.YtofphikiadiogaaDoor.K
open Go Sy
set_option maxRecDepth 100000
set_option linter.unusedVariables false
set_option linter.unusedSimpArgs false
abbrev Yes (W : World) (en : Ending) (W' : World) : Prop := en = .returned (.bool true) ∧ RowKit.Below W.heap.size W W'
theorem opsOk_get : ∀ {n k j : Nat}, opsOk k n = true → k ≤ j → j < k + n → (opsH j).all isGoK = true
  | 0, k, j, _, h1, h2 => by omega
  | n + 1, k, j, h, h1, h2 => by
    simp only [opsOk, Bool.and_eq_true] at h
    rcases Nat.eq_or_lt_of_le h1 with rfl | h1
    · exact h.1
    · exact opsOk_get h.2 h1 (by omega)
theorem ops_all (j : Nat) (hj : j < 81) : (opsH j).all isGoK = true := by
  have key : ∀ i, i < 20 → opsOk (4 * i) 4 = true := by
    intro i hi
    rcases i with _ | _ | _ | _ | _ | _ | _ | _ | _ | _ | _ | _ | _ | _ | _ | _ | _ | _ | _ | _ | i
    · exact opsOk0
    · exact opsOk1
    · exact opsOk2
    · exact opsOk3
    · exact opsOk4
    · exact opsOk5
    · exact opsOk6
    · exact opsOk7
    · exact opsOk8
    · exact opsOk9
    · exact opsOk10
    · exact opsOk11
    · exact opsOk12
    · exact opsOk13
    · exact opsOk14
    · exact opsOk15
    · exact opsOk16
    · exact opsOk17
    · exact opsOk18
    · exact opsOk19
    · omega
  rcases Nat.lt_or_ge j 80 with h | h
  · exact opsOk_get (key (j / 4) (by omega)) (by omega) (by omega)
  · exact opsOk_get opsOk20 h (by omega)
theorem opGs_len : opGs.length = 81 := by kernel_rfl
theorem opGs_cover (i : Nat) (h : i ≤ 256) : ∃ (j : Nat) (g : Nat × Nat), opGs[j]? = some g ∧ g.1 ≤ i ∧ i ≤ g.2 := by
  have hc : (List.range 257).all (fun i => opGs.any fun g => decide (g.1 ≤ i) && decide (i ≤ g.2)) = true := by kernel_rfl
  obtain ⟨g, hg, hb⟩ := List.any_eq_true.1 (List.all_eq_true.1 hc i (List.mem_range.2 (by omega)))
  simp only [Bool.and_eq_true, decide_eq_true_eq] at hb
  obtain ⟨j, hj⟩ := List.mem_iff_getElem?.1 hg
  exact ⟨j, g, hj, hb⟩
theorem opsFrom_at : ∀ {l : List (Nat × Nat)} {k j : Nat} {g : Nat × Nat}, l[j]? = some g → patAt (opsFrom k l) (qOps, k + j) = some (pOps g)
  | [], _, _, _, h => by simp at h
  | x :: r, k, 0, g, h => by
    simp at h; subst h
    simp [opsFrom, patAt]
  | x :: r, k, j + 1, g, h => by
    have := opsFrom_at (k := k + 1) (j := j) (g := g) (l := r) (by simpa using h)
    simp only [opsFrom, patAt]
    rw [show decide ((qOps, k) = (qOps, k + (j + 1))) = false from decide_eq_false (by simp), cond_false, show k + (j + 1) = k + 1 + j by omega]
    exact this
theorem opsFrom_mem : ∀ {l : List (Nat × Nat)} {k : Nat} {q : Key} {p : Pat}, (q, p) ∈ opsFrom k l → ∃ j g, l[j]? = some g ∧ q = (qOps, k + j) ∧ p = pOps g
  | [], _, _, _, h => by cases h
  | x :: r, k, q, p, h => by
    rcases List.mem_cons.1 h with h | h
    · cases h; exact ⟨0, x, rfl, rfl, rfl⟩
    · obtain ⟨j, g, h1, h2, h3⟩ := opsFrom_mem h
      exact ⟨j + 1, g, by simpa using h1, by rw [h2, show k + 1 + j = k + (j + 1) by omega], h3⟩
def opsInv : Inv := ⟨fun k e => ∃ i : Nat, e.i .i64 1000 = i ∧ i ≤ 256 ∧ (k.2 < 80 → i < 256), fun _ e => 256 - (e.i .i64 1000).toNat⟩
def opsSrc (W : World) : Src := Src.know { i := fun _ => [], b := [], a := fun _ _ => [], fa := coFa, fi := coFi } W []
theorem coFi_env {s : Src} (hs : s.fi = coFi) : CoE2 s.env := ⟨fun l => by
  show clip .i64 (s.fi .i64 2 0 [.a l]) = _
  rw [hs]
  show clip .i64 (firstL l) = firstL l
  refine clip_of ?_
  rcases firstL_range l with h | ⟨n, hn, h, _⟩ <;> exact i64_in (by omega) (by omega)⟩
theorem ops_go {e : Env} {l : List Asg} {i : Nat} {m : Option Nat} {D : Env → SVal → St → Prop} {W : World} {ρ0 : Rho} (hρ : ρ0 = globs 7) (hG : GlobsAt true false W) (hi : (Env.upd e e l).i .i64 1000 = i) (hle : i ≤ 256) (hm : ∀ m', m = some m' → 256 - i < m') :
    Owed 1000 5000 7 7 ρ0 W opsPats opsInv D e m (.go (qOps, 0) l) := by
  intro ok' hag
  generalize Env.upd e e l = E at *
  obtain ⟨j, g, hj, hg1, hg2⟩ := opGs_cover i hle
  have hj81 : j < 81 := by rw [← opGs_len]; exact (List.getElem?_eq_some_iff.1 hj).1
  refine ⟨E, ρ0, (qOps, 0 + j), pOps g, ok', Agree.refl _ _, Base.refl _ _ _, rfl, opsFrom_at hj, fun p2 hp2 => ?_, ?_, ?_, ⟨i, hi, hle, fun h => ?_⟩, fun m' hm' => ?_⟩
  · obtain ⟨j', g', _, _, rfl⟩ := opsFrom_mem (patAt_mem' hp2)
    exact ⟨rfl, rfl, rfl⟩
  · refine AsmOk.cons ?_ (AsmOk.cons ?_ (AsmOk.nil _)) <;> simp only [BExp.den, IExp.den, hi]
    · exact decide_eq_true (by omega)
    · exact decide_eq_false (by omega)
  · intro q l1 t1 hq hl1
    subst hρ
    obtain ⟨c, rfl, hc⟩ := gS_get hl1
    obtain ⟨vs, h1, h2⟩ := hG q c t1 hc
    exact ⟨q, 0, 0, vs, by simp [globs, hq], h1, (h2 E (globs 7)).segs, fun x hx => by rw [show (globs 7).drop 7 = [] from rfl] at hx; cases hx⟩
  · have : g.2 ≤ 255 := by
      have hc : ((List.range 80).all fun j => match opGs[j]? with | some g => decide (g.2 ≤ 255) | none => false) = true := by kernel_rfl
      have := List.all_eq_true.1 hc j (List.mem_range.2 (by simpa using h))
      rw [hj] at this
      simpa using this
    omega
  · simp only [opsInv, hi, Int.toNat_natCast]; exact hm m' hm'
/-- A leaf that is a literal true. -/
theorem isTq_D {v : SVal} (h : isT1 v = true) {e : Env} : ∀ ρ V, v.D e ρ V → V = .bool true := by
  intro ρ V hV
  unfold isT1 at h
  split at h
  · subst h; exact hV
  · cases h
theorem ops_walk (W : World) (hG : GlobsAt true false W) : Calls Tryd.prog 4 #[] W (Yes W) := by
  obtain ⟨hf, hb⟩ := fn_of (f := 4) (by kernel_rfl)
  have ok := (opsSrc W).ok
  have hE : CoE (opsSrc W).env := coFa_env rfl
  have hE2 : CoE2 (opsSrc W).env := coFi_env rfl
  have hk : KnowsG true false (opsSrc W).env := ⟨W, rfl, rfl, hG⟩
  have hkn : Knows (opsSrc W).env W (globs 7) := ⟨fun i x h => by simp [opsSrc, Src.know, Src.env] at h, Nat.le_refl _, fun k _ => rfl⟩
  have hfx : (opsSrc W).env.fx = [] := rfl
  generalize (opsSrc W).env = E at ok hE hE2 hk hkn hfx
  refine cfgR (G := 7) (ov := 7) (plan := plan) (tab := tabOps) (n := 1000) (N := 1000) (NE := 5000) (sv := 7) (ro := 7) (base := 7) (pats := opsPats) (args := []) (st := opsSt) (e0 := E) (ρ0 := globs 7) (vs := []) (W0 := W) opsInv (fun e v _ => ∀ ρ V, v.D e ρ V → V = .bool true)
    mixed plan_ok rfl (fun _ _ _ => LtOk.none) (fun e ok' g => TabOk.or (tabName_ok names_a ok' ⟨fun v hv => by rw [g.fa]; exact hE.name v hv⟩ (hk.agree g) 7 7) (tabFirst_ok first_a ok' ⟨fun l => by rw [g.fi]; exact hE2.first l⟩ (hk.agree g) 7 7)) rfl hf hb ok rfl (AsmOk.nil _) (hG.hrel hkn) (globs_ok 7) (Nat.le_refl _) (by decide) (by decide) (Nat.le_refl _) (Nat.le_refl _) ?_ ?_ ?_ ?_ ?_ (by rw [hfx]; exact Nat.zero_le _)
  · intro k p hm
    obtain ⟨j, g, _, _, rfl⟩ := opsFrom_mem hm
    rfl
  · show opsS.holds E _
    refine WT.holds_mono (fun a ha => ?_) (WT.all_holds opsStart)
    cases a with
    | go q l =>
      simp only [Bool.and_eq_true, decide_eq_true_eq] at ha
      obtain ⟨rfl, h2⟩ := ha
      split at h2
      · rename_i x hx
        have h2 := IExp.same_eq _ _ h2
        subst h2
        exact ops_go rfl hG (i := 0) ((updI hx).trans (litD _ _)) (by omega) (fun m' hm' => by cases hm')
      · cases h2
    | done v st => cases ha
    | bad => cases ha
  · intro k hk' e ok' g ha hI
    obtain ⟨⟨k', p'⟩, hm, rfl⟩ := List.mem_map.1 hk'
    obtain ⟨j, gg, hj, rfl, rfl⟩ := opsFrom_mem hm
    have hj81 : j < 81 := by rw [← opGs_len]; exact (List.getElem?_eq_some_iff.1 hj).1
    rw [Nat.zero_add] at hI ⊢
    show (opsH j).holds e _
    obtain ⟨i, hi, hle, hin⟩ := hI
    rcases Nat.lt_or_ge j 80 with hj80 | hj80
    · have hin := hin hj80
      refine WT.holds_mono (fun a ha => ?_) (WT.all_holds (ops_all j hj81))
      cases a with
      | go q l =>
        simp only [isGoK, Bool.and_eq_true, decide_eq_true_eq] at ha
        obtain ⟨rfl, h2⟩ := ha
        split at h2
        · rename_i x hx
          have h2 := IExp.same_eq _ _ h2
          subst h2
          refine ops_go rfl hG (i := i + 1) ?_ (by omega) (fun m' hm' => ?_)
          · rw [updI hx, binE, litD, show (IExp.var .i64 1000).den e = i from hi]
            simp only [binDen]
            rw [wrap64 (by omega) (by omega)]
            simp
          · cases hm'
            simp only [opsInv, hi, Int.toNat_natCast]
            omega
        · cases h2
      | done v st => exact isTq_D ha
      | bad => cases ha
    · obtain rfl : j = 80 := by omega
      refine WT.holds_mono (fun a ha => ?_) (WT.all_holds opsEnd)
      cases a with
      | go q l => cases ha
      | done v st => exact isTq_D ha
      | bad => cases ha
  · intro k p hm
    obtain ⟨j, gg, hj, rfl, rfl⟩ := opsFrom_mem hm
    exact opsFrom_at hj
  · rintro e v st' ok' g hd ρb hbb ρ' V W' hp hV
    exact ⟨congrArg _ (hd _ _ hV), below_of_post hp (by rw [hbb.len]; decide)⟩
abbrev laidA : List (String × DataW Unit) := [("vesper/code.rows", Rows.laid_vesper_code_rows), ("vesper/code.threes", Rows.laid_vesper_code_threes), ("vesper/code.sevens", Rows.laid_vesper_code_sevens), ("vesper/code.twelves", Rows.laid_vesper_code_twelves), ("vesper/code.fifteens", Rows.laid_vesper_code_fifteens), ("vesper/code.lengths", Rows.laid_vesper_code_lengths)]
theorem globs_of {W : World} {laid : List (String × DataW Unit)} (h : laidMetH Tryd.prog laid W) (hpl : (laid.all fun x => x.2.handleName?.isNone) = true) (dig : Bool) (hsub : ∀ x ∈ laidA, x ∈ laid) (hd : dig = true → ("vesper/code.digits", Rows.laid_vesper_code_digits) ∈ laid) : GlobsAt true dig W := by
  have u62 : Tryd.prog.underlying 62 = some (.array 7 3) := by kernel_rfl
  have u74 : Tryd.prog.underlying 74 = some (.array 16 9) := by kernel_rfl
  have ui : Tryd.prog.underlying 3 = some (.int .i64) := by kernel_rfl
  have us : Tryd.prog.underlying 9 = some .string := by kernel_rfl
  have ci : Tryd.prog.cellsOf 3 = 1 := by kernel_rfl
  have cs : Tryd.prog.cellsOf 9 = 1 := by kernel_rfl
  have c62 : Tryd.prog.cellsOf 62 = 7 := by kernel_rfl
  have c74 : Tryd.prog.cellsOf 74 = 16 := by kernel_rfl
  have mk : ∀ {n : String} {d : DataW Unit} {g : Nat} {t el c : Nat} {l : List Cell}, (n, d) ∈ laid → Tryd.prog.globalNamed n = some g → (Tryd.prog.globals[g]?).map (·.type) = some t → Tryd.prog.underlying t = some (.array c el) → (Tryd.prog.underlying el = some .string ∨ ∃ k, Tryd.prog.underlying el = some (.int k)) → Tryd.prog.cellsOf el = 1 → Tryd.prog.cellsOf t = c → laidCells d = some l → 0 < l.length → ∃ vs, At False W g 0 0 vs ∧ ∀ e ρ, CellsD e ρ l vs := by
    intro n d g t el c l hm hg ht hu he h1 hc hd hl
    rw [MakeChecks.laidMetH_plain _ _ _ hpl] at h
    obtain ⟨ps, hlv, hnd, hcell⟩ := h
    obtain ⟨g', t', cs, fuel, p, e1, e2, hv, htr, hps⟩ := laid_get hlv hm
    obtain rfl := Option.some.inj (hg.symm.trans e1)
    obtain rfl := Option.some.inj (ht.symm.trans e2)
    have hD := fun e ρ => laid_cells hu he h1 hc htr hd e ρ
    have hlen := (hD (srcI []).env []).length
    obtain ⟨⟨c', t'', hblk⟩, _⟩ := hcell g 0 (hps _ (by
      unfold MemPlace.row
      exact List.mem_map.2 ⟨0, by simp at hlen ⊢; omega, rfl⟩))
    have hcc : c' = cs := by
      simp only [World.var?, hg, Option.bind_some, hblk] at hv
      exact Option.some.inj hv
    subst hcc
    exact ⟨c'.toList, ⟨c', t'', _, [], [], hblk, fun q => q.elim, by simp, rfl, Nat.zero_le _⟩, hD⟩
  intro i l t hi
  rcases i with _ | _ | _ | _ | _ | _ | _ | i
  · cases hi
    exact mk (hsub ("vesper/code.lengths", Rows.laid_vesper_code_lengths) (by simp [laidA])) (by kernel_rfl) (by kernel_rfl) u62 (.inr ⟨_, ui⟩) ci c62 (by kernel_rfl) (by decide)
  · cases dig with
    | false => cases hi
    | true =>
      cases hi
      exact mk (hd rfl) (by kernel_rfl) (by kernel_rfl) u62 (.inr ⟨_, ui⟩) ci c62 (by kernel_rfl) (by decide)
  · cases hi
    exact mk (hsub ("vesper/code.threes", Rows.laid_vesper_code_threes) (by simp [laidA])) (by kernel_rfl) (by kernel_rfl) u74 (.inl us) cs c74 (by kernel_rfl) (by decide)
  · cases hi
    exact mk (hsub ("vesper/code.sevens", Rows.laid_vesper_code_sevens) (by simp [laidA])) (by kernel_rfl) (by kernel_rfl) u74 (.inl us) cs c74 (by kernel_rfl) (by decide)
  · cases hi
    exact mk (hsub ("vesper/code.twelves", Rows.laid_vesper_code_twelves) (by simp [laidA])) (by kernel_rfl) (by kernel_rfl) u74 (.inl us) cs c74 (by kernel_rfl) (by decide)
  · cases hi
    exact mk (hsub ("vesper/code.fifteens", Rows.laid_vesper_code_fifteens) (by simp [laidA])) (by kernel_rfl) (by kernel_rfl) u74 (.inl us) cs c74 (by kernel_rfl) (by decide)
  · cases hi
    exact mk (hsub ("vesper/code.rows", Rows.laid_vesper_code_rows) (by simp [laidA])) (by kernel_rfl) (by kernel_rfl) u74 (.inl us) cs c74 (by kernel_rfl) (by decide)
  · simp [gCells] at hi
theorem codeOps_walk (W : World) (hL : laidMetH Tryd.prog laidA W) : Calls Tryd.prog 4 #[] W (Yes W) := ops_walk W (globs_of hL (by kernel_rfl) false (fun _ h => h) (fun h => by cases h))
end Go.Proofs.YtofphikiadiogaaDoor.K
