/- The first op of a name: the walk. -/
import Derived.Test.YtofphikiadiogaaDoorCoFirst0
namespace Go.Proofs.YtofphikiadiogaaDoor.K
open Go Sy
set_option maxRecDepth 100000
set_option linter.unusedVariables false
set_option linter.unusedSimpArgs false
def qFi : Path := [true, false, true, false]
def fiArgs : List SVal := [.v (.c (.s (.var .u8 0)))]
def fiAs : Asm := [(.le (.var .i64 1000) (.lit (-1)), false), (.le (.var .i64 1000) (.lit 256), true)]
def pFa : Pat := ⟨[], 14, [(0, .v (.c (.s (.var .u8 0)))), (4, .v (.c (.i .i64 (.var .i64 1000))))], fiAs⟩
def pFb : Pat := ⟨[], 14, [(0, .v (.c (.s (.var .u8 0)))), (3, .v (.c (.i .i64 (.var .i64 1000))))], fiAs⟩
def fiPats (p : Pat) : Pats := [((qFi, 0), p)]
def fiSt : St := ⟨[], []⟩
def faST : WT Sy.Go := WT.leaf (Go.go ([true, false, true, false], 0) [Asg.i .i64 1000 (IExp.lit 0)])
theorem faS : startT Tryd.prog 0 plan (tabName 21) 1000 1000 23 0 (fnOf 23) (bodyOf 23) (fiPats pFa) fiArgs fiSt = faST := by kernel_rfl
def faHT : WT Sy.Go := WT.node (BExp.le (IExp.var .i64 1000) (IExp.lit 255)) (WT.node (BExp.aeq (AExp.fn .u8 1 0 (LExp.i (IExp.var .i64 1000) LExp.nil)) (AExp.var .u8 0)) (WT.leaf (Go.done (SVal.v (SV.c (Cell.i .i64 (IExp.var .i64 1000)))) { h := [], «as» := [] })) (WT.leaf (Go.go ([true, false, true, false], 0) [Asg.i .i64 1000 (IExp.bin BinOp.add .i64 (IExp.var .i64 1000) (IExp.lit 1))]))) (WT.leaf (Go.done (SVal.v (SV.c (Cell.i .i64 (IExp.lit (-1))))) { h := [], «as» := [] }))
theorem faH : headT Tryd.prog 0 plan (tabName 21) 1000 1000 23 0 0 (fnOf 23) (bodyOf 23) (fiPats pFa) (qFi, 0) = faHT := by kernel_rfl
def fbST : WT Sy.Go := WT.leaf (Go.go ([true, false, true, false], 0) [Asg.i .i64 1000 (IExp.lit 0)])
theorem fbS : startT Tryd.prog 0 plan (tabName 46) 1000 1000 48 0 (fnOf 48) (bodyOf 48) (fiPats pFb) fiArgs fiSt = fbST := by kernel_rfl
def fbHT : WT Sy.Go := WT.node (BExp.le (IExp.var .i64 1000) (IExp.lit 255)) (WT.node (BExp.aeq (AExp.fn .u8 1 0 (LExp.i (IExp.var .i64 1000) LExp.nil)) (AExp.var .u8 0)) (WT.leaf (Go.done (SVal.v (SV.c (Cell.i .i64 (IExp.var .i64 1000)))) { h := [], «as» := [] })) (WT.leaf (Go.go ([true, false, true, false], 0) [Asg.i .i64 1000 (IExp.bin BinOp.add .i64 (IExp.var .i64 1000) (IExp.lit 1))]))) (WT.leaf (Go.done (SVal.v (SV.c (Cell.i .i64 (IExp.lit (-1))))) { h := [], «as» := [] }))
theorem fbH : headT Tryd.prog 0 plan (tabName 46) 1000 1000 48 0 0 (fnOf 48) (bodyOf 48) (fiPats pFb) (qFi, 0) = fbHT := by kernel_rfl

def fiInv (s : List Int) : Inv := ⟨fun _ e => ∃ i : Nat, e.i .i64 1000 = i ∧ i ≤ 256 ∧ ∀ j, j < i → nameL j ≠ s, fun _ e => 256 - (e.i .i64 1000).toNat⟩
/-- The letters' values: names, first ops. -/
def coFa : IntKind → Nat → Nat → List LV → List Int := fun k f _ l => match k, f, l with
  | .u8, 1, [.i n] => nameL n.toNat
  | _, _, _ => []
def coFi : IntKind → Nat → Nat → List LV → Int := fun k f _ l => match k, f, l with
  | .i64, 2, [.a s] => firstL s
  | _, _, _ => 0
theorem nameL_in (v : Nat) : (∀ x ∈ nameL v, In .u8 x) ∧ ((nameL v).length : Int) ≤ lenTop := by
  have h : nameT.all (fun l => l.all (fun x => decide (0 ≤ x) && decide (x ≤ 255)) && decide (l.length ≤ 5)) = true := by kernel_rfl
  rcases Nat.lt_or_ge v nameT.length with hv | hv
  · have h1 := List.all_eq_true.1 h (nameL v) (by rw [nameL, List.getD_eq_getElem?_getD, List.getElem?_eq_getElem hv]; exact List.getElem_mem hv)
    simp only [Bool.and_eq_true, decide_eq_true_eq, List.all_eq_true] at h1
    refine ⟨fun x hx => u8_in (h1.1 x hx).1 (h1.1 x hx).2, ?_⟩
    have htop : lenTop = 9223372036854775807 := rfl
    omega
  · have : nameL v = [] := by rw [nameL, List.getD_eq_getElem?_getD, List.getElem?_eq_none hv]; rfl
    rw [this]; exact ⟨fun x hx => (by cases hx), by decide⟩
theorem nameL_short (v : Nat) : (nameL v).length ≤ 5 := by
  have h : nameT.all (fun l => decide (l.length ≤ 5)) = true := by kernel_rfl
  rcases Nat.lt_or_ge v nameT.length with hv | hv
  · have h1 := List.all_eq_true.1 h (nameL v) (by rw [nameL, List.getD_eq_getElem?_getD, List.getElem?_eq_getElem hv]; exact List.getElem_mem hv)
    simpa using h1
  · have : nameL v = [] := by rw [nameL, List.getD_eq_getElem?_getD, List.getElem?_eq_none hv]; rfl
    rw [this]; exact Nat.zero_le _
theorem coFa_env {s : Src} (hs : s.fa = coFa) : CoE s.env := ⟨fun v hv => by
  show clipL .u8 (s.fa .u8 1 0 [.i v]) = _
  rw [hs]
  show clipL .u8 (nameL (v : Int).toNat) = nameL v
  rw [Int.toNat_natCast]
  exact clipL_of (nameL_in v).1 (nameL_in v).2⟩
def fiSrc (W : World) (s : List Int) : Src := Src.know { i := fun _ => [], b := [], a := fun k j => match k, j with | .u8, 0 => s | _, _ => [], fa := coFa } W []
theorem fi_walk {f fn' : Nat} (hn : NamesF fn') (p : Pat) (hp : p = pFa ∨ p = pFb) (hhas : hasBody f = true) {S H : WT Sy.Go} {h' : SHeap} (hfine : plainB 1000 0 [] (fiPats p) = true)
    (hS : startT Tryd.prog 0 plan (tabName fn') 1000 1000 f 0 (fnOf f) (bodyOf f) (fiPats p) fiArgs fiSt = .leaf (.go (qFi, 0) [.i .i64 1000 (.lit 0)]))
    (hH : headT Tryd.prog 0 plan (tabName fn') 1000 1000 f 0 0 (fnOf f) (bodyOf f) (fiPats p) (qFi, 0) = .node (.le (.var .i64 1000) (.lit 255)) (.node (.aeq (.fn .u8 1 0 (.i (.var .i64 1000) .nil)) (.var .u8 0)) (.leaf (.done (.v (.c (.i .i64 (.var .i64 1000)))) ⟨[], []⟩)) (.leaf (.go (qFi, 0) [.i .i64 1000 (.bin .add .i64 (.var .i64 1000) (.lit 1))]))) (.leaf (.done (.v (.c (.i .i64 (.lit (-1))))) ⟨[], []⟩)))
    {W : World} (hG : GlobsAt false false W) {s : List Int} (hin : ∀ x ∈ s, In .u8 x) (hlen : (s.length : Int) ≤ lenTop) :
    Calls Tryd.prog f #[.string (strOf s)] W fun en W' => en = .returned (.int .i64 (firstL s)) ∧ RowKit.Below W.heap.size W W' := by
  obtain ⟨hf, hb⟩ := fn_of hhas
  have ok := (fiSrc W s).ok
  have ea : (fiSrc W s).env.a .u8 0 = s := clipL_of hin hlen
  have hE : CoE (fiSrc W s).env := coFa_env rfl
  have hk : KnowsG false false (fiSrc W s).env := ⟨W, rfl, rfl, hG⟩
  have hold : Old (fiSrc W s).env 0 [] W := (know_knows _ W []).old
  generalize (fiSrc W s).env = E at ok ea hE hk hold
  have hr : HRel E 0 [] [] W := ⟨rfl, (fun i _ _ _ h => by obtain ⟨s, hs⟩ := h; simp at hs), (fun _ _ _ h => by simp at h), hold⟩
  have pas : p.as = fiAs := by rcases hp with rfl | rfl <;> rfl
  have asm : ∀ {e : Env} {k : Key}, (fiInv s).I k e → ∀ p', patAt (fiPats p) k = some p' → AsmOk e p'.as := by
    intro e k hI p' hp'
    have hm := patAt_mem' hp'
    have hpp : p' = p := by
      have : k = (qFi, 0) ∧ p' = p := by simpa [fiPats] using hm
      exact this.2
    subst hpp
    obtain ⟨i, hi, hle, _⟩ := hI
    rw [pas]
    refine AsmOk.cons ?_ (AsmOk.cons ?_ (AsmOk.nil _)) <;> simp only [BExp.den, IExp.den, hi]
    · exact decide_eq_false (by omega)
    · exact decide_eq_true (by omega)
  refine cfg (G := 0) (ov := 0) (plan := plan) (tab := tabName fn') (n := 1000) (N := 1000) (ro := 0) (base := 0) (pats := fiPats p) (args := fiArgs) (st := fiSt) (e0 := E) (ρ0 := []) (vs := [.string (strOf s)]) (fiInv s) (fun e v _ => ∀ ρ V, v.D e ρ V → V = .int .i64 (firstL s))
    mixed plan_ok rfl (fun _ _ _ => LtOk.none) (fun e ok' g => tabName_ok hn ok' ⟨fun v hv => by rw [g.fa]; exact hE.name v hv⟩ (hk.agree g) 0 0) rfl hf hb ok ⟨_, _, rfl, ?_, rfl⟩ (AsmOk.nil _) hr (noGlob _) (Nat.le_refl _) (Nat.le_refl _) (Nat.le_refl _) (by decide) hfine ?_ ?_ patAt_one ?_
  · show Value.string _ = .string (strOf (E.a .u8 0))
    rw [ea]
  · rw [hS]
    have hI : (fiInv s).I (qFi, 0) (Env.upd E E [.i .i64 1000 (.lit 0)]) := ⟨0, (updI rfl).trans (litD _ _), by omega, fun j hj => by omega⟩
    exact ⟨⟨p, rfl⟩, asm hI, hI, fun m hm => by cases hm⟩
  · intro k hk' e ok' g ha hI
    have hk' : k = (qFi, 0) := by simpa [fiPats] using hk'
    subst hk'
    obtain ⟨i, hi, hle, hne⟩ := hI
    have a0 : e.a .u8 0 = s := by rw [g.a .u8 0 (by omega)]; exact ea
    have hE' : i < 256 → e.fa .u8 1 0 [.i (i : Int)] = nameL i := fun h => by rw [g.fa]; exact hE.name i h
    have q1 : (BExp.le (.var .i64 1000) (.lit 255)).den e = decide ((i : Int) ≤ 255) := by simp only [BExp.den, IExp.den, hi]
    rw [hH]
    simp only [WT.holds, q1, decide_eq_true_eq]
    split
    · rename_i hlt
      have q2 : (BExp.aeq (.fn .u8 1 0 (.i (.var .i64 1000) .nil)) (.var .u8 0)).den e = decide (nameL i = s) := by
        simp only [BExp.den, AExp.den, LExp.den, IExp.den, hi, a0, hE' (by omega)]
      simp only [q2, decide_eq_true_eq]
      split
      · rename_i heq
        intro ρ V hV
        have hV : V = .int .i64 (e.i .i64 1000) := hV
        rw [hV, hi, firstL, firstFrom_at (n := i) (by rw [nameT_len]; omega) hne heq]
        simp
      · rename_i hneq
        have hi1 : (Env.upd e e [.i .i64 1000 (.bin .add .i64 (.var .i64 1000) (.lit 1))]).i .i64 1000 = ((i + 1 : Nat) : Int) := by
          rw [updI rfl, binE, litD, show (IExp.var .i64 1000).den e = i from hi]; simp only [binDen]; rw [wrap64 (by omega) (by omega)]; simp
        have hI : (fiInv s).I (qFi, 0) (Env.upd e e [.i .i64 1000 (.bin .add .i64 (.var .i64 1000) (.lit 1))]) := ⟨i + 1, hi1, by omega, fun j hj => by
          rcases Nat.lt_or_ge j i with h | h
          · exact hne j h
          · rw [show j = i by omega]; exact hneq⟩
        refine ⟨⟨p, rfl⟩, asm hI, hI, fun m hm => ?_⟩
        cases hm
        simp only [fiInv, hi1, hi, Int.toNat_natCast]
        omega
    · rename_i hge
      intro ρ V hV
      have hV : V = .int .i64 ((IExp.lit (-1)).den e) := hV
      rw [hV, litD, firstL, firstFrom_none fun j hj => hne j (by rw [nameT_len] at hj; omega)]
  · rintro e v st' ok' g hd ρ' V W' hp' hV
    exact ⟨congrArg _ (hd _ _ hV), below_of_post hp' (Nat.le_refl _)⟩
def FirstF (f : Nat) : Prop := ∀ {W : World}, GlobsAt false false W → ∀ {s : List Int}, (∀ x ∈ s, In .u8 x) → (s.length : Int) ≤ lenTop →
    Calls Tryd.prog f #[.string (strOf s)] W fun en W' => en = .returned (.int .i64 (firstL s)) ∧ RowKit.Below W.heap.size W W'
theorem first_a : FirstF 23 := by intro W hG s hin hlen; exact fi_walk (S := faST) (H := faHT) (h' := []) names_a pFa (.inl rfl) (by kernel_rfl) (by kernel_rfl) (by rw [faS]; rfl) (by rw [faH]; rfl) hG hin hlen
theorem first_b : FirstF 48 := by intro W hG s hin hlen; exact fi_walk (S := fbST) (H := fbHT) (h' := []) names_b pFb (.inr rfl) (by kernel_rfl) (by kernel_rfl) (by rw [fbS]; rfl) (by rw [fbH]; rfl) hG hin hlen
/-- The first op of a name, as a contract. -/
structure CoE2 (e : Env) : Prop where
  first : ∀ l, e.fi .i64 2 0 [.a l] = firstL l
def lenFits (bs : Asm) (A : AExp) : Bool := match A.lenR bs with
  | some (_, h) => decide (h ≤ 9223372036854775807)
  | none => false
theorem lenFits_ok {e : Env} (ok : EnvOk e) {bs : Asm} (ha : AsmOk e bs) {A : AExp} (h : lenFits bs A = true) : ((A.den e).length : Int) ≤ lenTop := by
  unfold lenFits at h
  have hl := AExp.lenR_ok ok ha A
  split at h
  · rename_i lo hi hr
    rw [hr] at hl
    simp only [decide_eq_true_eq] at h
    have htop : lenTop = 9223372036854775807 := rfl
    have := hl.2
    omega
  · cases h
def firstNo (A : AExp) (st : St) : WT (SVal × St) := .leaf (.v (.c (.i .i64 (.lit (-1)))), ⟨st.h, (.le (.fn .i64 2 0 (.a A .nil)) (.lit (-1)), true) :: st.as⟩)
def firstYes (A : AExp) (st : St) : WT (SVal × St) := .leaf (.v (.c (.i .i64 (.fn .i64 2 0 (.a A .nil)))), ⟨st.h, (.le (.fn .i64 2 0 (.a A .nil)) (.lit 255), true) :: (.le (.fn .i64 2 0 (.a A .nil)) (.lit (-1)), false) :: (.le (mkLen st.as A) (.lit 5), true) :: st.as⟩)
def tabFirst (f : Nat) : Tab := fun _ g args st => if g = f then (match args with
  | [.v (.c (.s A))] => (match cstOf A with
    | some l => if (l.all (fun x => decide (0 ≤ x) && decide (x ≤ 255)) && decide (l.length ≤ 1000)) = true then some (.leaf (.v (.c (.i .i64 (.lit (firstL l)))), st)) else none
    | none => if (A.inK st.as .u8 && lenFits st.as A) = true then some (match decideB st.as (.le (.fn .i64 2 0 (.a A .nil)) (.lit (-1))) with
        | some true => firstNo A st
        | some false => firstYes A st
        | none => .node (.le (.fn .i64 2 0 (.a A .nil)) (.lit (-1))) (firstNo A st) (firstYes A st)) else none)
  | _ => none) else none
theorem tabFirst_ok {f : Nat} (hf : FirstF f) {len dig : Bool} {e : Env} (ok : EnvOk e) (hE : CoE2 e) (hk : KnowsG len dig e) (G ov : Nat) : TabOk Tryd.prog G ov (tabFirst f) e := by
  intro ro g args st t Z ht hov hz ρ vs W R hv ha hr hg hR
  unfold tabFirst at ht
  split at ht
  · rename_i hgf
    subst hgf
    split at ht
    · rename_i A
      have hG := (hk.at' hr.old).weak
      obtain ⟨v1, _, rfl, d1, rfl⟩ := hv
      have d1 : v1 = .string (strOf (A.den e)) := d1
      subst d1
      split at ht
      · rename_i l hl
        have hA := cstOf_den (e := e) hl
        split at ht
        · rename_i hc
          cases ht
          simp only [Bool.and_eq_true, decide_eq_true_eq] at hc
          have hin : ∀ x ∈ l, In .u8 x := fun x hx => by
            have := List.all_eq_true.1 hc.1 x hx
            simp only [Bool.and_eq_true, decide_eq_true_eq] at this
            exact u8_in this.1 this.2
          rw [hA]
          have htop : lenTop = 9223372036854775807 := rfl
          refine (hf hG hin (by omega)).mono ?_
          rintro en W' ⟨rfl, hb⟩
          exact hR _ _ hz ρ _ W' (Post.of_below hr hb) (congrArg _ (litD _ _).symm) ha
        · cases ht
      · split at ht
        · rename_i hc
          cases ht
          simp only [Bool.and_eq_true] at hc
          have hin := AExp.inK_ok ok ha _ _ hc.1
          refine (hf hG hin (lenFits_ok ok ha hc.2)).mono ?_
          rintro en W' ⟨rfl, hb⟩
          have hF : (IExp.fn .i64 2 0 (.a A .nil)).den e = firstL (A.den e) := by simp only [IExp.den, LExp.den, hE.first]
          have hc0 : (BExp.le (.fn .i64 2 0 (.a A .nil)) (.lit (-1))).den e = decide (firstL (A.den e) ≤ -1) := by
            rw [le_den, hF, litD]
          have hno : firstL (A.den e) ≤ -1 → (firstNo A st).holds e Z → R (Ending.returned (.int .i64 (firstL (A.den e)))) W' := by
            intro hle hz
            refine hR _ _ hz ρ _ W' (Post.of_below hr hb) (congrArg _ ?_) (AsmOk.cons ?_ ha)
            · rw [litD]
              rcases firstL_range (A.den e) with h | ⟨n, hn, h, hnm⟩ <;> omega
            · rw [hc0]; exact decide_eq_true hle
          have hyes : ¬ firstL (A.den e) ≤ -1 → (firstYes A st).holds e Z → R (Ending.returned (.int .i64 (firstL (A.den e)))) W' := by
            intro hle hz
            rcases firstL_range (A.den e) with h | ⟨n, hn, h, hnm⟩
            · omega
            · refine hR _ _ hz ρ _ W' (Post.of_below hr hb) (congrArg _ hF.symm) (AsmOk.cons ?_ (AsmOk.cons ?_ (AsmOk.cons ?_ ha)))
              · rw [le_den, hF, litD]; exact decide_eq_true (by omega)
              · rw [hc0]; exact decide_eq_false (by omega)
              · rw [le_den, mkLen_den ok ha, litD, ← hnm]
                have := nameL_short n
                exact decide_eq_true (by omega)
          split at hz
          · rename_i hd
            have := decideB_ok ok ha hd
            rw [hc0] at this
            exact hno (of_decide_eq_true this) hz
          · rename_i hd
            have := decideB_ok ok ha hd
            rw [hc0] at this
            exact hyes (of_decide_eq_false this) hz
          · simp only [WT.holds, hc0, decide_eq_true_eq] at hz
            split at hz
            · rename_i hle; exact hno hle hz
            · rename_i hle; exact hyes hle hz
        · cases ht
    · cases ht
  · cases ht
abbrev Yes (W : World) (en : Ending) (W' : World) : Prop := en = .returned (.bool true) ∧ RowKit.Below W.heap.size W W'
theorem coFi_env {s : Src} (hs : s.fi = coFi) : CoE2 s.env := ⟨fun l => by
  show clip .i64 (s.fi .i64 2 0 [.a l]) = _
  rw [hs]
  show clip .i64 (firstL l) = firstL l
  refine clip_of ?_
  rcases firstL_range l with h | ⟨n, hn, h, _⟩ <;> exact i64_in (by omega) (by omega)⟩
abbrev laidA : List (String × DataW Unit) := [("vesper/code.rows", Rows.laid_vesper_code_rows), ("vesper/code.threes", Rows.laid_vesper_code_threes), ("vesper/code.sevens", Rows.laid_vesper_code_sevens), ("vesper/code.twelves", Rows.laid_vesper_code_twelves), ("vesper/code.fifteens", Rows.laid_vesper_code_fifteens), ("vesper/code.lengths", Rows.laid_vesper_code_lengths)]
theorem globs_of {W : World} {laid : List (String × DataW Unit)} (h : laidMetH Tryd.prog laid W) (hpl : (laid.all fun x => x.2.handleName?.isNone) = true) (dig : Bool) (hsub : ∀ x ∈ laidA, x ∈ laid) (hd : dig = true → ("vesper/code.digits", Rows.laid_vesper_code_digits) ∈ laid) : GlobsAt true dig W := by
  have u62 : Tryd.prog.underlying 62 = some (.array 7 3) := by kernel_rfl
  have u74 : Tryd.prog.underlying 74 = some (.array 16 9) := by kernel_rfl
  have ui : Tryd.prog.underlying 3 = some (.int .i64) := by kernel_rfl
  have us : Tryd.prog.underlying 9 = some .string := by kernel_rfl
  have ci : Tryd.prog.cellsOf 3 = 1 := by kernel_rfl
  have cs : Tryd.prog.cellsOf 9 = 1 := by kernel_rfl
  have c62 : Tryd.prog.cellsOf 62 = 7 := by kernel_rfl
  have c74 : Tryd.prog.cellsOf 74 = 16 := by kernel_rfl
  have mk : ∀ {n : String} {d : DataW Unit} {g : Nat} {t el c : Nat} {l : List Cell}, (n, d) ∈ laid → Tryd.prog.globalNamed n = some g → (Tryd.prog.globals[g]?).map (·.type) = some t → Tryd.prog.underlying t = some (.array c el) → (Tryd.prog.underlying el = some .string ∨ ∃ k, Tryd.prog.underlying el = some (.int k)) → Tryd.prog.cellsOf el = 1 → Tryd.prog.cellsOf t = c → laidCells d = some l → 0 < l.length → ∃ vs, At False W g 0 0 vs ∧ ∀ e ρ, CellsD e ρ l vs := by
    intro n d g t el c l hm hg ht hu he h1 hc hd hl
    rw [MakeChecks.laidMetH_plain _ _ _ hpl] at h
    obtain ⟨ps, hlv, hnd, hcell⟩ := h
    obtain ⟨g', t', cs, fuel, p, e1, e2, hv, htr, hps⟩ := laid_get hlv hm
    obtain rfl := Option.some.inj (hg.symm.trans e1)
    obtain rfl := Option.some.inj (ht.symm.trans e2)
    have hD := fun e ρ => laid_cells hu he h1 hc htr hd e ρ
    have hlen := (hD (srcI []).env []).length
    obtain ⟨⟨c', t'', hblk⟩, _⟩ := hcell g 0 (hps _ (by
      unfold MemPlace.row
      exact List.mem_map.2 ⟨0, by simp at hlen ⊢; omega, rfl⟩))
    have hcc : c' = cs := by
      simp only [World.var?, hg, Option.bind_some, hblk] at hv
      exact Option.some.inj hv
    subst hcc
    exact ⟨c'.toList, ⟨c', t'', _, [], [], hblk, fun q => q.elim, by simp, rfl, fun q => q.elim⟩, hD⟩
  intro i l t hi
  rcases i with _ | _ | _ | _ | _ | _ | _ | i
  · cases hi
    exact mk (hsub ("vesper/code.lengths", Rows.laid_vesper_code_lengths) (by simp [laidA])) (by kernel_rfl) (by kernel_rfl) u62 (.inr ⟨_, ui⟩) ci c62 (by kernel_rfl) (by decide)
  · cases dig with
    | false => cases hi
    | true =>
      cases hi
      exact mk (hd rfl) (by kernel_rfl) (by kernel_rfl) u62 (.inr ⟨_, ui⟩) ci c62 (by kernel_rfl) (by decide)
  · cases hi
    exact mk (hsub ("vesper/code.threes", Rows.laid_vesper_code_threes) (by simp [laidA])) (by kernel_rfl) (by kernel_rfl) u74 (.inl us) cs c74 (by kernel_rfl) (by decide)
  · cases hi
    exact mk (hsub ("vesper/code.sevens", Rows.laid_vesper_code_sevens) (by simp [laidA])) (by kernel_rfl) (by kernel_rfl) u74 (.inl us) cs c74 (by kernel_rfl) (by decide)
  · cases hi
    exact mk (hsub ("vesper/code.twelves", Rows.laid_vesper_code_twelves) (by simp [laidA])) (by kernel_rfl) (by kernel_rfl) u74 (.inl us) cs c74 (by kernel_rfl) (by decide)
  · cases hi
    exact mk (hsub ("vesper/code.fifteens", Rows.laid_vesper_code_fifteens) (by simp [laidA])) (by kernel_rfl) (by kernel_rfl) u74 (.inl us) cs c74 (by kernel_rfl) (by decide)
  · cases hi
    exact mk (hsub ("vesper/code.rows", Rows.laid_vesper_code_rows) (by simp [laidA])) (by kernel_rfl) (by kernel_rfl) u74 (.inl us) cs c74 (by kernel_rfl) (by decide)
  · simp [gCells] at hi
end Go.Proofs.YtofphikiadiogaaDoor.K
