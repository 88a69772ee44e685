/- The store's laws: what bytes answers. -/
import Derived.Test.YtopgnohobmlegaaStBytes
namespace Go.Proofs.Ytopgnohobmlegaa.K
open Go Sy
set_option maxRecDepth 100000
set_option linter.unusedVariables false
set_option linter.unusedSimpArgs false
def bytesB (za zb w : List Int) : Bool := decide (za = w) && decide (zb = w)
def byInv (n : Nat) (za zb w : List Int) : Inv := ⟨fun _ e => bytesB za zb w = true ∧ (e.a .u8 1000).length = n ∧ ∃ i : Nat, e.i .i64 1000 = i ∧ i ≤ n, fun _ e => n - (e.i .i64 1000).toNat⟩
def bySrc (n : Nat) (za zb w : List Int) : Src := { i := fun k => match k with | .i64 => [n] | _ => [], b := [], a := fun k j => match k, j with | .u8, 0 => za | .u8, 1 => zb | .u8, 2 => w | _, _ => [] }
theorem by_asm {n : Nat} {za zb w : List Int} {e : Env} (e0 : e.i .i64 0 = n) (e1 : e.a .u8 1 = zb) (e2 : e.a .u8 2 = w) (hn0 : 0 < n) (hn : (n : Int) ≤ 32768) (hb : zb.length = n) (hw : w.length = n) {k : Key} (h : (byInv n za zb w).I k e) : ∀ p, patAt byPats k = some p → AsmOk e p.as := by
  intro p hp
  have hm := patAt_mem' hp
  have hp : p = pBy := by
    have : k = (qBy, 0) ∧ p = pBy := by simpa [byPats] using hm
    exact this.2
  subst hp
  obtain ⟨hB, hl, i, hi, hle⟩ := h
  simp only [bytesB, Bool.and_eq_true, decide_eq_true_eq] at hB
  refine AsmOk.cons ?_ (AsmOk.cons ?_ (AsmOk.cons ?_ (AsmOk.cons ?_ (AsmOk.cons ?_ (AsmOk.cons ?_ (AsmOk.cons ?_ (AsmOk.nil _))))))) <;> simp only [BExp.den, IExp.den, AExp.den, e0, e1, e2, hi, hl, hb, hw]
  · rw [hB.2]; exact decide_eq_true rfl
  · exact decide_eq_false (by omega)
  · exact decide_eq_true trivial
  · exact decide_eq_false (by omega)
  · exact decide_eq_true hn
  · exact decide_eq_true trivial
  · exact decide_eq_true trivial
theorem bytes_calls {W : World} {ba oa ra bb ob rb bw ow rw' n : Nat} {za zb w : List Int} (ha : At True W ba oa ra (za.map (.int .u8))) (hb : At True W bb ob rb (zb.map (.int .u8))) (hw : At False W bw ow rw' (w.map (.int .u8)))
    (la : za.length = n) (lb : zb.length = n) (lw : w.length = n) (ia : ∀ x ∈ za, In .u8 x) (ib : ∀ x ∈ zb, In .u8 x) (iw : ∀ x ∈ w, In .u8 x) (n0 : 0 < n) (hn : (n : Int) ≤ 32768) (hab : ba ≠ bb) (haw : ba ≠ bw) (hbw : bb ≠ bw) :
    Calls Try.prog 49 #[.slice (some ⟨ba, oa, none⟩) n n, .slice (some ⟨bb, ob, none⟩) n n, .slice (some ⟨bw, ow, none⟩) n n] W fun en W' => en = .returned (.bool (bytesB za zb w)) ∧ But [ba, bb] W W' := by
  obtain ⟨hf, hbd⟩ := fn_of (f := 49) (by kernel_rfl)
  have htop : lenTop = 9223372036854775807 := rfl
  have ok := (bySrc n za zb w).ok
  have e0 : (bySrc n za zb w).env.i .i64 0 = n := clip_of (k := .i64) (n := (n : Int)) (i64_in (by omega) (by omega))
  have ea : (bySrc n za zb w).env.a .u8 0 = za := clipL_of ia (by show ((za.length : Nat) : Int) ≤ lenTop; rw [la]; omega)
  have eb : (bySrc n za zb w).env.a .u8 1 = zb := clipL_of ib (by show ((zb.length : Nat) : Int) ≤ lenTop; rw [lb]; omega)
  have ew : (bySrc n za zb w).env.a .u8 2 = w := clipL_of iw (by show ((w.length : Nat) : Int) ≤ lenTop; rw [lw]; omega)
  have hfx : (bySrc n za zb w).env.fx = [] := rfl
  have hb0 : (bySrc n za zb w).env.base = 0 := rfl
  generalize (bySrc n za zb w).env = E at ok e0 ea eb ew hfx hb0
  have hr : HRel E 1 [(bw, ow, rw'), (ba, oa, ra), (bb, ob, rb)] bySt.h W := by
    refine ⟨rfl, fun i j x y hi hj hx hy hij hov => ?_, fun i l t hi => ?_, Old.of_none hb0 hfx _ _ _⟩
    · rcases i with _ | _ | _ | i <;> rcases j with _ | _ | _ | j <;> simp at hx hy <;> first | omega | (subst hx hy; simp only; omega)
    · rcases i with _ | _ | _ | i
      · have hi : some ([Seg.row .u8 (.var .u8 2)], _) = some (l, t) := Option.some.inj hi
        cases hi
        exact ⟨bw, ow, rw', _, rfl, hw.weak (fun h => by omega), ⟨[], by rw [show (AExp.var .u8 2).den E = w from ew, List.append_nil], rfl⟩⟩
      · have hi : some ([Seg.row .u8 (.var .u8 0)], _) = some (l, t) := Option.some.inj hi
        cases hi
        exact ⟨ba, oa, ra, _, rfl, ha.weak (fun _ => trivial), ⟨[], by rw [show (AExp.var .u8 0).den E = za from ea, List.append_nil], rfl⟩⟩
      · have hi : some ([Seg.row .u8 (.var .u8 1)], _) = some (l, t) := Option.some.inj hi
        cases hi
        exact ⟨bb, ob, rb, _, rfl, hb.weak (fun _ => trivial), ⟨[], by rw [show (AExp.var .u8 1).den E = zb from eb, List.append_nil], rfl⟩⟩
      · simp [bySt] at hi
  refine cfg (G := 0) (ov := 1) (plan := plan) (tab := tabSame 28) (n := 2000) (N := 1000) (ro := 1) (base := 3) (pats := byPats) (args := [bySl 1, bySl 2, bySl 0]) (st := bySt) (e0 := E) (ρ0 := [(bw, ow, rw'), (ba, oa, ra), (bb, ob, rb)]) (vs := [.slice (some ⟨ba, oa, none⟩) n n, .slice (some ⟨bb, ob, none⟩) n n, .slice (some ⟨bw, ow, none⟩) n n]) (byInv n za zb w) (fun e v _ => ∀ ρ V, v.D e ρ V → V = .bool (bytesB za zb w))
    mixed plan_ok rfl (fun _ _ _ => LtOk.none) (fun e ok g => tabSame_ok ok same_is 0 1) rfl hf hbd ok ⟨_, _, rfl, slice_D (i := 1) rfl e0 e0 (Nat.le_refl _), _, _, rfl, slice_D (i := 2) rfl e0 e0 (Nat.le_refl _), _, _, rfl, slice_D (i := 0) rfl e0 e0 (Nat.le_refl _), rfl⟩ ?_ hr (noGlob _) (Nat.le_refl _) (show 1 ≤ 3 by omega) (Nat.zero_le _) (by decide) (by kernel_rfl) ?_ ?_ patAt_one ?_
  · refine AsmOk.cons ?_ (AsmOk.cons ?_ (AsmOk.cons ?_ (AsmOk.cons ?_ (AsmOk.cons ?_ (AsmOk.nil _))))) <;> simp only [BExp.den, IExp.den, AExp.den, e0, ea, eb, ew, la, lb, lw]
    · exact decide_eq_true trivial
    · exact decide_eq_false (by omega)
    · exact decide_eq_true hn
    · exact decide_eq_true trivial
    · exact decide_eq_true trivial
  · rw [byS]
    have tk : ∀ {l : List Int}, l.length = n → l.take n = l := fun h => List.take_of_length_le (by omega)
    have q1 : (BExp.aeq (AExp.var .u8 0) (AExp.var .u8 2)).den E = decide (za = w) := by
      simp only [BExp.den, IExp.den, AExp.den, e0, ea, ew, Int.toNat_natCast]
    have q2 : (BExp.aeq (AExp.var .u8 1) (AExp.var .u8 2)).den E = decide (zb = w) := by
      simp only [BExp.den, IExp.den, AExp.den, e0, eb, ew, Int.toNat_natCast]
    simp only [byST, WT.holds, q1, q2, decide_eq_true_eq]
    split
    · rename_i h1
      split
      · rename_i h2
        have go : ∀ l, getI l .i64 1000 = some (.lit 0) → getI l .i64 0 = none → getA l .u8 1 = none → getA l .u8 2 = none → getA l .u8 1000 = some (.var .u8 0) → Owed1 byPats (byInv n za zb w) (fun e v _ => ∀ ρ V, v.D e ρ V → V = .bool (bytesB za zb w)) E none (.go (qBy, 0) l) := by
          intro l g3 g4 g5 g7 g6
          have hI : (byInv n za zb w).I (qBy, 0) (Env.upd E E l) := ⟨by simp [bytesB, h1, h2], by rw [updA g6]; exact (congrArg List.length ea).trans la, 0, (updI g3).trans (litD _ _), Nat.zero_le _⟩
          exact ⟨⟨_, rfl⟩, by_asm ((updI_none g4).trans e0) ((updA_none g5).trans eb) ((updA_none g7).trans ew) n0 hn lb lw hI, hI, fun m hm => by cases hm⟩
        exact go _ rfl rfl rfl rfl rfl
      · rename_i h2
        intro ρ V hV
        have hV : V = .bool false := hV
        rw [hV, bytesB, decide_eq_false h2]; simp
    · rename_i h1
      intro ρ V hV
      have hV : V = .bool false := hV
      rw [hV, bytesB, decide_eq_false h1]; simp
  · intro k hk e ok' g ha' hI
    have hk : k = (qBy, 0) := by simpa [byPats] using hk
    subst hk
    have a0 : e.i .i64 0 = n := by rw [g.i .i64 0 (by omega)]; exact e0
    have a1 : e.a .u8 1 = zb := by rw [g.a .u8 1 (by omega)]; exact eb
    have a2 : e.a .u8 2 = w := by rw [g.a .u8 2 (by omega)]; exact ew
    obtain ⟨hB, hl, i, hi, hle⟩ := hI
    have q1 : (BExp.lt (IExp.var .i64 1000) (.var .i64 0)).den e = decide ((i : Int) < n) := by simp only [BExp.den, IExp.den, a0, hi]
    rw [byH]
    simp only [byHT, WT.holds, q1, decide_eq_true_eq]
    split
    · rename_i hlt
      have go : ∀ l, getI l .i64 1000 = some (.bin .add .i64 (.var .i64 1000) (.lit 1)) → getI l .i64 0 = none → getA l .u8 1 = none → getA l .u8 2 = none → ((Env.upd e e l).a .u8 1000).length = n → Owed1 byPats (byInv n za zb w) (fun e v _ => ∀ ρ V, v.D e ρ V → V = .bool (bytesB za zb w)) e (some ((byInv n za zb w).μ (qBy, 0) e)) (.go (qBy, 0) l) := by
        intro l g2 g3 g4 g6 g5
        have hi1 : (Env.upd e e l).i .i64 1000 = ((i + 1 : Nat) : Int) := by
          rw [updI g2, binE, litD, show (IExp.var .i64 1000).den e = i from hi]; simp only [binDen]; rw [wrap64 (by omega) (by omega)]; simp
        have hI : (byInv n za zb w).I (qBy, 0) (Env.upd e e l) := ⟨hB, g5, i + 1, hi1, by omega⟩
        refine ⟨⟨_, rfl⟩, by_asm ((updI_none g3).trans a0) ((updA_none g4).trans a1) ((updA_none g6).trans a2) n0 hn lb lw hI, hI, fun m hm => ?_⟩
        cases hm
        simp only [byInv, hi1, hi, Int.toNat_natCast]
        omega
      refine go _ rfl rfl rfl rfl ?_
      rw [updA rfl]
      simp only [AExp.den, List.length_set]; exact hl
    · intro ρ V hV
      have hV : V = .bool ((BExp.eq (IExp.var .i64 0) (IExp.var .i64 0)).den e) := hV
      rw [hV, hB]
      simp [BExp.den]
  · rintro e v st' ok' g hd ρ' V W' hp hV
    exact ⟨congrArg _ (hd _ _ hV), But.of_post hp (fun x hx => by simp at hx; rcases hx with rfl | rfl <;> simp)⟩
end Go.Proofs.Ytopgnohobmlegaa.K
