/- CodeThere answers true. -/
import Derived.Test.YtofphikiadiogaaDoorCoThA
import Derived.Test.YtofphikiadiogaaDoorCoThB
import Derived.Test.YtofphikiadiogaaDoorCoThC
import Derived.Test.YtofphikiadiogaaDoorCoThD
import Derived.Test.YtofphikiadiogaaDoorCoAwake
namespace Go.Proofs.YtofphikiadiogaaDoor.K
open Go Sy
set_option maxRecDepth 100000
set_option linter.unusedVariables false
set_option linter.unusedSimpArgs false
theorem nm_all {v : Nat} (hv : v < 256) : nmOk v = true := by
  have get : ∀ {a n : Nat}, (List.range' a n).all nmOk = true → a ≤ v → v < a + n → nmOk v = true := fun h h1 h2 => List.all_eq_true.1 h v (List.mem_range'_1.2 ⟨h1, h2⟩)
  rcases Nat.lt_or_ge v 48 with h | h
  · exact get nm0 (by omega) (by omega)
  rcases Nat.lt_or_ge v 56 with h | h
  · exact get nm48 (by omega) (by omega)
  rcases Nat.lt_or_ge v 64 with h | h
  · exact get nm56 (by omega) (by omega)
  rcases Nat.lt_or_ge v 112 with h | h
  · exact get nm64 (by omega) (by omega)
  rcases Nat.lt_or_ge v 120 with h | h
  · exact get nm112 (by omega) (by omega)
  rcases Nat.lt_or_ge v 128 with h | h
  · exact get nm120 (by omega) (by omega)
  rcases Nat.lt_or_ge v 192 with h | h
  · exact get nm128 (by omega) (by omega)
  rcases Nat.lt_or_ge v 200 with h | h
  · exact get nm192 (by omega) (by omega)
  rcases Nat.lt_or_ge v 208 with h | h
  · exact get nm200 (by omega) (by omega)
  rcases Nat.lt_or_ge v 240 with h | h
  · exact get nm208 (by omega) (by omega)
  rcases Nat.lt_or_ge v 248 with h | h
  · exact get nm240 (by omega) (by omega)
  · exact get nm248 (by omega) (by omega)
theorem thNone : (thRun true (.var .u8 0) thNo).all isT = true := by kernel_rfl
def thRows : FnRows := [(40, hexF)]
def thSrc (s : List Int) (m n c : Int) (z : List Int) (W : World) : Src := Src.know { Src.fns coSrc0 thRows with i := fun k => match k with | .i64 => [0, m, n, c] | _ => [], a := fun k j => match k, j with | .u8, 0 => s | .u8, 4 => z | _, _ => [] } W []
theorem there_walk (W : World) (hG : GlobsAt true true W) (a : ByteArray) (ha : (a.size : Int) ≤ IntKind.i64.max) (m : Int) (hm : IntKind.i64.min ≤ m ∧ m ≤ IntKind.i64.max) (p : Option Addr) (n c : Nat) (z : List Int) (hz : IsRow .u8 W p n c z) :
    Calls Tryd.prog 6 #[.agg #[.string a, .int .i64 m], .slice p n c] W (Yes W) := by
  have htop : lenTop = 9223372036854775807 := rfl
  have hl : (ints a).length = a.size := by rw [← strOf_size, strOf_ints]
  obtain ⟨b, o, hnc, hct, hzl, hin, hat, hp⟩ : ∃ b o, n ≤ c ∧ (c : Int) ≤ lenTop ∧ z.length = c ∧ (∀ x ∈ z, In .u8 x) ∧ At False W b o 0 (z.map (.int .u8)) ∧ (0 < c → p = some ⟨b, o, none⟩) := by
    rcases isRow_cases hz with ⟨rfl, rfl, rfl⟩ | ⟨b, o, rfl, h1, h2, h3, h4, h5, h6⟩
    · obtain ⟨vs, h1, _⟩ := hG 2 c_threes _ rfl
      obtain ⟨cs, t, fz, pre, rest, w1, w2, w3, w4, _⟩ := h1.ex
      exact ⟨2, 0, Nat.le_refl _, by decide, rfl, fun x hx => (by cases hx), ⟨cs, t, fz, [], cs.toList, w1, fun q => q.elim, by simp, rfl, fun q => q.elim⟩, fun h => by omega⟩
    · refine ⟨b, o, h2, h3, h4, h6, ?_, fun _ => rfl⟩
      obtain ⟨cs, t, fz, pre, rest, w1, w2, w3, w4, _⟩ := h5.ex
      exact ⟨cs, t, fz, pre, rest, w1, w2, w3, w4, fun q => q.elim⟩
  have ok := (thSrc (ints a) m n c z W).ok
  have hs0 : (thSrc (ints a) m n c z W).env.a .u8 0 = ints a := clipL_of (l := ints a) (ints_in a) (by simp only [IntKind.max_i64] at ha; omega)
  have hm0 : (thSrc (ints a) m n c z W).env.i .i64 1 = m := clip_of (k := .i64) (n := m) hm
  have hn0 : (thSrc (ints a) m n c z W).env.i .i64 2 = n := clip_of (k := .i64) (n := (n : Int)) (i64_in (by omega) (by omega))
  have hc0 : (thSrc (ints a) m n c z W).env.i .i64 3 = c := clip_of (k := .i64) (n := (c : Int)) (i64_in (by omega) (by omega))
  have hz0 : (thSrc (ints a) m n c z W).env.a .u8 4 = z := clipL_of (l := z) hin (by show ((z.length : Nat) : Int) ≤ lenTop; omega)
  have hE1 : CoE (thSrc (ints a) m n c z W).env := ⟨fun v hv => by
    have h1 : (thSrc (ints a) m n c z W).env.fa .u8 1 = coSrc0.env.fa .u8 1 := by
      show (Src.fns coSrc0 thRows).env.fa .u8 1 = _
      exact fns_fa (rows := thRows) (rows' := []) (f := 1) rfl .u8
    rw [h1]; exact (coFa_env (s := coSrc0) rfl).name v hv⟩
  have hE2 : CoE2 (thSrc (ints a) m n c z W).env := ⟨fun l => by
    have h1 : (thSrc (ints a) m n c z W).env.fi .i64 2 = coSrc0.env.fi .i64 2 := by
      show (Src.fns coSrc0 thRows).env.fi .i64 2 = _
      exact fns_fi (rows := thRows) (rows' := []) (f := 2) rfl .i64
    rw [h1]; exact (coFi_env (s := coSrc0) rfl).first l⟩
  have hE3 : HexE (thSrc (ints a) m n c z W).env := ⟨fun x d hd => by
    show clipL .u8 (Bits.hexL ((d : Int).toNat) ((x : Int).toNat)) = _
    rw [Int.toNat_natCast, Int.toNat_natCast]
    exact clipL_of (l := Bits.hexL d x) (hexL_in d x) (by rw [Bits.hexL_length]; omega)⟩
  have hk : KnowsG true true (thSrc (ints a) m n c z W).env := ⟨W, rfl, rfl, hG⟩
  have hkn : Knows (thSrc (ints a) m n c z W).env W (globs 7 ++ [(b, o, 0)]) := ⟨fun i x h => by simp [thSrc, Src.know, Src.env] at h, Nat.le_refl _, fun k _ => rfl⟩
  generalize (thSrc (ints a) m n c z W).env = E at ok hs0 hm0 hn0 hc0 hz0 hE1 hE2 hE3 hk hkn
  have hr : HRel E 8 (globs 7 ++ [(b, o, 0)]) (thH true) W := by
    have := HRel.ro (e := E) (W := W) (ρ := globs 7 ++ [(b, o, 0)]) (h := thH true) rfl (fun i l t hi => by
      rcases Nat.lt_or_ge i 7 with hlt | hge
      · rw [thH, List.getElem?_append_left (by rw [gS_len]; exact hlt)] at hi
        obtain ⟨cl, rfl, hc⟩ := gS_get hi
        obtain ⟨vs, h1, h2⟩ := hG i cl t hc
        exact ⟨i, 0, 0, vs, by rw [List.getElem?_append_left (by simp [globs]; omega)]; simp [globs, hlt], h1, (h2 E _).segs⟩
      · rw [thH, List.getElem?_append_right (by rw [gS_len]; exact hge), gS_len] at hi
        have hi7 : i - 7 = 0 := by
          have := (List.getElem?_eq_some_iff.1 hi).1
          simp at this; omega
        rw [hi7] at hi
        have hi : some ([Seg.row .u8 (.var .u8 4)], _) = some (l, t) := Option.some.inj hi
        cases hi
        exact ⟨b, o, 0, _, by rw [List.getElem?_append_right (by simp [globs]; omega), show i - (globs 7).length = 0 by simp [globs]; omega]; rfl, hat, ⟨[], by rw [show (AExp.var .u8 4).den E = z from hz0, List.append_nil], rfl⟩⟩) hkn
    exact this
  have hsl : (thSl true).D E (globs 7 ++ [(b, o, 0)]) (.slice p n c) := by
    have e2 : (n : Int) = (IExp.var .i64 2).den E := hn0.symm
    have e3 : (c : Int) = (IExp.var .i64 3).den E := hc0.symm
    refine ⟨p, n, c, rfl, e2, hnc, ?_⟩
    rcases Nat.eq_zero_or_pos c with h0 | h0
    · exact .inr ⟨by omega, h0, fun x hx => by cases hx; show (IExp.var .i64 3).den E = 0; rw [← e3, h0]; rfl⟩
    · exact .inl ⟨⟨b, o, none⟩, ⟨b, o, 0, rfl, rfl⟩, hp h0, e3⟩
  have hAs : AsmOk E (thAs true) := by
    refine AsmOk.cons ?_ (AsmOk.cons ?_ (AsmOk.cons ?_ (AsmOk.nil _))) <;> simp only [BExp.den, IExp.den, AExp.den, hn0, hc0, hz0]
    · exact decide_eq_false (by omega)
    · exact decide_eq_true (by omega)
    · exact decide_eq_true (by omega)
  have tabok : TabOk Tryd.prog 7 8 tabTh E := orTab_ok (tabYes_ok awake_calls 7 8 (fun ρ W' ho => hk.at' ho)) (orTab_ok (TabOk.or (tabName_ok names_a ok hE1 hk 7 8) (tabFirst_ok first_a ok hE2 hk 7 8)) (orTab_ok (tabHex_ok ok hE3 7 8) (orTab_ok (tabNumH_ok ok hE3 7 8) (tabNumL_ok ok 7 8))))
  have go : ∀ (nm : AExp) (more : Asm), nm.den E = ints a → AsmOk E more → (thRun true nm more).all isT = true → Calls Tryd.prog 6 #[.agg #[.string a, .int .i64 m], .slice p n c] W (Yes W) := by
    intro nm more hnm hmore hrun
    refine run_true (plan := plan) (tab := tabTh) (n := 1000) (G := 7) (ov := 8) (f := 6) ok mixed plan_ok LtOk.none tabok (args := [.v (.agg [.c (.s nm), .c (.i .i64 (.var .i64 1))]), thSl true]) (vs := [.agg #[.string a, .int .i64 m], .slice p n c]) (h0 := thH true) (ρ := globs 7 ++ [(b, o, 0)])
      ⟨_, _, rfl, ⟨_, rfl, _, _, rfl, ?_, _, _, rfl, ?_, rfl⟩, _, _, rfl, hsl, rfl⟩ (hmore.append hAs) hr ((globs_ok 7).mono ⟨_, rfl⟩) (Nat.le_refl _) hrun
    · show Value.string a = .string (strOf (nm.den E))
      rw [hnm, strOf_ints]
    · show Value.int .i64 m = .int .i64 (E.i .i64 1)
      rw [hm0]
  rcases firstL_range (ints a) with h | ⟨v, hv, h, hnm⟩
  · refine go (.var .u8 0) thNo hs0 (AsmOk.cons ?_ (AsmOk.nil _)) thNone
    have : (IExp.fn .i64 2 0 (.a (.var .u8 0) .nil)).den E = firstL (ints a) := by
      simp only [IExp.den, LExp.den, AExp.den, hs0]; exact hE2.first _
    rw [le_den, this, h, litD]
    exact decide_eq_true (by omega)
  · have h1 := nm_all hv
    unfold nmOk at h1
    rw [hnm, show decide (firstL (ints a) = (v : Int)) = true from decide_eq_true h, cond_true] at h1
    exact go (.cst (ints a)) [] (by simp only [AExp.den]) (AsmOk.nil _) h1
theorem codeThere_walk (W : World) (a : ByteArray) (ha : (a.size : Int) ≤ IntKind.i64.max) (m : Int) (hm : IntKind.i64.min ≤ m ∧ m ≤ IntKind.i64.max) (p : Option Addr) (n c : Nat) (z : List Int) (hz : IsRow .u8 W p n c z) (hL : laidMetH Tryd.prog laidB W) :
    Calls Tryd.prog 6 #[.agg #[.string a, .int .i64 m], .slice p n c] W (Yes W) := there_walk W (globs_laid hL) a ha m hm p n c z hz
end Go.Proofs.YtofphikiadiogaaDoor.K
