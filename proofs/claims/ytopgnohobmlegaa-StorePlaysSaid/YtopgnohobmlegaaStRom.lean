/- The store's laws: the ROM of 512 bytes that they lay. -/
import Derived.Test.YtopgnohobmlegaaKBase
namespace Go.Proofs.Ytopgnohobmlegaa.K
open Go Sy
set_option maxRecDepth 100000
set_option linter.unusedVariables false
set_option linter.unusedSimpArgs false

abbrev nRom : Nat := 1000
def qRom : Path := [true, true, false, true, false]
def pRom : Pat := ⟨[some ([.row .u8 (.var .u8 nRom)], 5)], 17, [(1, .v (.c (.sl (some ⟨0, 0, none⟩) (.lit 512) (some (.lit 512))))), (2, .v (.c (.i .i64 (.var .i64 nRom))))],
  [(.eq (.len (.var .u8 nRom)) (.lit 512), true), (.le (.var .i64 nRom) (.lit 512), true), (.le (.var .i64 nRom) (.lit (-1)), false)]⟩
def romPats : Pats := [((qRom, 0), pRom)]
def romST : WT Sy.Go := WT.leaf (Go.go ([true, true, false, true, false], 0) [Asg.a .u8 1000 (AExp.zeros (IExp.lit 512)), Asg.i .i64 1000 (IExp.lit 0)])
theorem romS : startT Try.prog 0 plan noTab 1000 nRom 18 0 (fnOf 18) (bodyOf 18) romPats [] ⟨[], []⟩ = romST := by kernel_rfl
def romHT : WT Sy.Go := WT.node (BExp.le (IExp.var .i64 1000) (IExp.lit 511)) (WT.leaf (Go.go ([true, true, false, true, false], 0) [Asg.a .u8 1000 (AExp.upd (AExp.var .u8 1000) (IExp.var .i64 1000) (IExp.bin BinOp.rem .i64 (IExp.var .i64 1000) (IExp.lit 251))), Asg.i .i64 1000 (IExp.bin BinOp.add .i64 (IExp.var .i64 1000) (IExp.lit 1))])) (WT.leaf (Go.done (SVal.v (SV.c (Cell.sl (some { b := 0, off := 0, ix := none }) (IExp.lit 512) (some (IExp.lit 512))))) { h := [some ([Seg.row .u8 (AExp.var .u8 1000)], 5)], «as» := [] }))
theorem romH : headT Try.prog 0 plan noTab 1000 nRom 18 0 0 (fnOf 18) (bodyOf 18) romPats (qRom, 0) = romHT := by kernel_rfl

def romF (n : Nat) : List Int := (List.range n).map (fun j => ((j % 251 : Nat) : Int)) ++ List.replicate (512 - n) 0
def romL : List Int := (List.range 512).map (fun j => ((j % 251 : Nat) : Int))
theorem romF_step {n : Nat} (h : n < 512) : (romF n).set n ((n % 251 : Nat) : Int) = romF (n + 1) := by
  unfold romF
  rw [List.set_append_right _ _ (by simp), List.length_map, List.length_range, Nat.sub_self, show 512 - n = (512 - (n + 1)) + 1 by omega, List.replicate_succ, List.set_cons_zero, List.range_succ, List.map_append]
  simp
theorem romF_len {n : Nat} (h : n ≤ 512) : (romF n).length = 512 := by simp [romF]; omega
def romInv : Inv := ⟨fun _ e => ∃ n : Nat, e.i .i64 1000 = n ∧ n ≤ 512 ∧ e.a .u8 1000 = romF n, fun _ e => (512 - e.i .i64 1000).toNat⟩
def romRet (W : World) (en : Ending) (W' : World) : Prop := ∃ b o r, en = .returned (.slice (some ⟨b, o, none⟩) 512 512) ∧ RowNew W W' .u8 romL b o r
theorem rom_calls (W : World) : Calls Try.prog 18 #[] W (romRet W) := by
  obtain ⟨hf, hb⟩ := fn_of (f := 18) (by kernel_rfl)
  refine cfg (G := 0) (ov := 0) (plan := plan) (tab := noTab) (n := 1000) (N := nRom) (ro := 0) (pats := romPats) (args := []) (st := ⟨[], []⟩) (e0 := (srcI []).env) (ρ0 := []) romInv
    (fun e v st => v = .v (.c (.sl (some ⟨0, 0, none⟩) (.lit 512) (some (.lit 512)))) ∧ st = ⟨[some ([.row .u8 (.var .u8 1000)], 5)], []⟩ ∧ e.a .u8 1000 = romL)
    mixed plan_ok rfl (fun _ _ _ => LtOk.none) (fun _ _ _ => TabOk.none _ _ _ _) (base := 0) rfl hf hb (srcI []).ok rfl (AsmOk.nil _) (HRel.none _ _ _) (noGlob _) (Nat.le_refl _) (Nat.le_refl _) (Nat.le_refl _) (by decide) (by kernel_rfl) ?_ ?_ patAt_one ?_
  · rw [romS]
    simp only [romST, WT.holds, Owed1]
    refine ⟨⟨_, rfl⟩, ?_, ⟨0, rfl, by omega, ?_⟩, fun m hm => by cases hm⟩
    · intro p hp
      have hp : some pRom = some p := hp
      cases hp
      refine AsmOk.cons ?_ (AsmOk.cons ?_ (AsmOk.cons ?_ (AsmOk.nil _))) <;> simp [Env.upd, BExp.den, IExp.den, AExp.den]
    · simp [Env.upd, AExp.den, IExp.den, romF]
  · intro q hq e ok g ha hI
    obtain ⟨n, hn, hle, hA⟩ := hI
    have hq : q = (qRom, 0) := by simpa [romPats] using hq
    subst hq
    rw [romH]
    simp only [romHT, WT.holds, BExp.den, IExp.den, hn, decide_eq_true_eq]
    split
    · rename_i hlt
      have hlt : n < 512 := by omega
      have hr : Int.tmod (n : Int) 251 = ((n % 251 : Nat) : Int) := by rw [Int.tmod_eq_emod_of_nonneg (by omega)]; rfl
      refine ⟨⟨_, rfl⟩, ?_, ⟨n + 1, ?_, by omega, ?_⟩, ?_⟩
      · intro p hp
        have hp : some pRom = some p := hp
        cases hp
        refine AsmOk.cons ?_ (AsmOk.cons ?_ (AsmOk.cons ?_ (AsmOk.nil _)))
        · simp [Env.upd, BExp.den, IExp.den, AExp.den, hA, romF_len hle]
        · simp only [Env.upd, BExp.den, IExp.den, binDen, hn]
          rw [wrap64 (by omega) (by omega)]
          exact decide_eq_true (by simp; omega)
        · simp only [Env.upd, BExp.den, IExp.den, binDen, hn]
          rw [wrap64 (by omega) (by omega)]
          exact decide_eq_false (by simp; omega)
      · simp only [Env.upd, IExp.den, binDen, hn]
        rw [wrap64 (by omega) (by omega)]
        simp
      · simp only [Env.upd, IExp.den, AExp.den, binDen, hn, hA, hr, Int.toNat_natCast]
        simpa using romF_step hlt
      · intro m hm
        cases hm
        simp only [romInv, Env.upd, IExp.den, binDen, hn]
        rw [wrap64 (by omega) (by omega)]
        simp; omega
    · rename_i hge
      have : n = 512 := by omega
      subst this
      exact ⟨rfl, rfl, by rw [hA]; simp [romF, romL]⟩
  · rintro e v st' ok g ⟨rfl, rfl, hA⟩ ρ' V W' hp hV
    obtain ⟨b, o, r, h1, h2⟩ := row_of_post hp (Nat.le_refl _) (Nat.le_refl 0) (Nat.le_refl 0) rfl
    refine ⟨b, o, r, ?_, ?_⟩
    · rw [slice_of h1 (n := 512) (c := 512) (litD _ _) (litD _ _) (by omega) hV]
    · have hA : (AExp.var .u8 1000).den e = romL := by simp only [AExp.den, hA]
      rw [hA] at h2
      exact h2
def tabRom : Tab := fun _ f args st => match args with
  | [] => if f = 18 then some (.leaf (.v (.c (.sl (some ⟨st.h.length, 0, none⟩) (.lit 512) (some (.lit 512)))), ⟨st.h ++ [some ([.row .u8 (.cst romL)], 5)], st.as⟩)) else none
  | _ => none
theorem tabRom_ok (e : Env) (G ov : Nat) : TabOk Try.prog G ov tabRom e := by
  intro ro f args st t Z ht hov hz ρ vs W R hv ha hr hg hR
  unfold tabRom at ht
  split at ht
  · split at ht
    · rename_i hf
      cases ht
      subst hf
      cases hv
      refine (rom_calls W).mono ?_
      rintro en W' ⟨b, o, r, rfl, hn⟩
      have hl : (ρ ++ [(b, o, r)])[st.h.length]? = some (b, o, r) := by rw [hr.len]; simp
      exact hR _ _ hz _ _ W' (post_new hr hn rfl) (slice_D hl (litD _ _) (litD _ _) (Nat.le_refl _)) ha
    · cases ht
  · cases ht
end Go.Proofs.Ytopgnohobmlegaa.K
