/- The memory in which a program lies. -/
import Derived.Test.YtjnoacnbhcdidaaDoorKRecs
namespace Go.Proofs.YtjnoacnbhcdidaaDoor.K
open Go Sy
set_option maxRecDepth 100000
set_option linter.unusedVariables false
set_option linter.unusedSimpArgs false
def qRm : Path := [true, true, false, true, false]
def rmSl : SVal := .v (.c (.sl (some ⟨0, 0, none⟩) (.var .i64 1) (some (.var .i64 2))))
def rmSl0 : SVal := .v (.c (.sl (some ⟨0, 0, none⟩) (.lit 0) (some (.lit 0))))
def rmBlk : Blk := some ([.row .u8 (.var .u8 0)], 5)
def rmAs : Asm := [(.le (.var .i64 1) (.len (.var .u8 0)), true), (.le (.var .i64 1) (.lit 2147483647), true), (.le (.var .i64 1) (.lit (-1)), false), (.le (.var .i64 0) (.lit 65535), true), (.le (.var .i64 0) (.lit (-1)), false)]
def pRm (x : Blk) (sl : SVal) (q : Asm) : Pat := ⟨[x, some ([.row .u8 (.var .u8 1000)], 5)], 32, [(0, .v (.c (.i .i64 (.var .i64 0)))), (1, sl), (5, .v (.c (.sl (some ⟨1, 0, none⟩) (.lit 65536) (some (.lit 65536))))), (6, .v (.c (.i .i64 (.var .i64 1000))))],
  (.eq (.len (.var .u8 1000)) (.lit 65536), true) :: (.le (.var .i64 1000) (.lit 2147483647), true) :: (.le (.var .i64 1000) (.lit (-1)), false) :: q⟩
def rmPats : Pats := [((qRm, 0), pRm rmBlk rmSl rmAs)]
def rmPats0 : Pats := [((qRm, 0), pRm none rmSl0 [])]
def rmArgs (sl : SVal) : List SVal := [.v (.c (.i .i64 (.var .i64 0))), sl]
def rmST : WT Sy.Go := WT.leaf (Go.go ([true, true, false, true, false], 0) [Asg.a .u8 1000 (AExp.zeros (IExp.lit 65536)), Asg.i .i64 1000 (IExp.lit 0)])
theorem rmS : startT Tryd.prog 0 plan noTab 1000 1000 11 1 (fnOf 11) (bodyOf 11) rmPats (rmArgs rmSl) ⟨[rmBlk], rmAs⟩ = rmST := by kernel_rfl
def rmHT : WT Sy.Go := WT.node (BExp.lt (IExp.var .i64 1000) (IExp.var .i64 1)) (WT.node (BExp.le (IExp.bin BinOp.add .i64 (IExp.var .i64 0) (IExp.var .i64 1000)) (IExp.lit 65535)) (WT.leaf (Go.go ([true, true, false, true, false], 0) [Asg.a .u8 1000 (AExp.upd (AExp.var .u8 1000) (IExp.bin BinOp.add .i64 (IExp.var .i64 0) (IExp.var .i64 1000)) (IExp.sel .u8 (AExp.var .u8 0) (IExp.var .i64 1000))), Asg.i .i64 1000 (IExp.bin BinOp.add .i64 (IExp.var .i64 1000) (IExp.lit 1))])) (WT.leaf (Go.done (SVal.v (SV.c (Cell.sl (some { b := 1, off := 0, ix := none }) (IExp.lit 65536) (some (IExp.lit 65536))))) { h := [some ([Seg.row .u8 (AExp.var .u8 0)], 5), some ([Seg.row .u8 (AExp.var .u8 1000)], 5)], «as» := [] }))) (WT.leaf (Go.done (SVal.v (SV.c (Cell.sl (some { b := 1, off := 0, ix := none }) (IExp.lit 65536) (some (IExp.lit 65536))))) { h := [some ([Seg.row .u8 (AExp.var .u8 0)], 5), some ([Seg.row .u8 (AExp.var .u8 1000)], 5)], «as» := [] }))
theorem rmH : headT Tryd.prog 0 plan noTab 1000 1000 11 1 1 (fnOf 11) (bodyOf 11) rmPats (qRm, 0) = rmHT := by kernel_rfl
def rmS0T : WT Sy.Go := WT.leaf (Go.go ([true, true, false, true, false], 0) [Asg.a .u8 1000 (AExp.zeros (IExp.lit 65536)), Asg.i .i64 1000 (IExp.lit 0)])
theorem rmS0 : startT Tryd.prog 0 plan noTab 1000 1000 11 1 (fnOf 11) (bodyOf 11) rmPats0 (rmArgs rmSl0) ⟨[none], []⟩ = rmS0T := by kernel_rfl
def rmH0T : WT Sy.Go := WT.leaf (Go.done (SVal.v (SV.c (Cell.sl (some { b := 1, off := 0, ix := none }) (IExp.lit 65536) (some (IExp.lit 65536))))) { h := [none, some ([Seg.row .u8 (AExp.var .u8 1000)], 5)], «as» := [] })
theorem rmH0 : headT Tryd.prog 0 plan noTab 1000 1000 11 1 1 (fnOf 11) (bodyOf 11) rmPats0 (qRm, 0) = rmH0T := by kernel_rfl

def roomK (at' : Nat) (z : List Int) : Nat → List Int
  | 0 => List.replicate 65536 0
  | i + 1 => (roomK at' z i).set (at' + i) (z.getD i 0)
theorem roomK_len (at' : Nat) (z : List Int) : ∀ n, (roomK at' z n).length = 65536
  | 0 => List.length_replicate
  | n + 1 => by rw [roomK, List.length_set, roomK_len at' z n]
theorem roomK_past {at' : Nat} {z : List Int} {i : Nat} (h : 65536 ≤ at' + i) : ∀ d, roomK at' z (i + d) = roomK at' z i
  | 0 => rfl
  | d + 1 => by
    show (roomK at' z (i + d)).set (at' + (i + d)) _ = _
    rw [List.set_eq_of_length_le (by rw [roomK_len]; omega)]
    exact roomK_past h d
theorem roomK_in {at' : Nat} {z : List Int} (hz : ∀ x ∈ z, In .u8 x) : ∀ n, ∀ x ∈ roomK at' z n, In .u8 x
  | 0, x, hx => by
    rw [roomK] at hx
    rw [List.eq_of_mem_replicate hx]
    exact u8_in (by omega) (by omega)
  | n + 1, x, hx => by
    rw [roomK] at hx
    rcases List.mem_or_eq_of_mem_set hx with hx | hx
    · exact roomK_in hz n x hx
    · rw [hx, List.getD_eq_getElem?_getD]
      cases hq : z[n]? with
      | none => exact u8_in (by simp) (by simp)
      | some y => exact hz y (List.mem_of_getElem? hq)
def rmInv (at' n : Nat) (z : List Int) : Inv := ⟨fun _ e => ∃ i : Nat, e.i .i64 1000 = i ∧ i ≤ n ∧ e.a .u8 1000 = roomK at' z i, fun _ e => n - (e.i .i64 1000).toNat⟩
def rmSrc (at' : Int) (n c : Nat) (z : List Int) : Src := { i := fun k => match k with | .i64 => [at', n, c] | _ => [], b := [], a := fun k j => match k, j with | .u8, 0 => z | _, _ => [] }
def RoomRet (at' n : Nat) (z : List Int) (W : World) (en : Ending) (W' : World) : Prop := ∃ b o r, en = .returned (.slice (some ⟨b, o, none⟩) 65536 65536) ∧ RowNew W W' .u8 (roomK at' z n) b o r
theorem rm_asm {e : Env} {at' n i : Nat} {z : List Int} {q : Asm} (hq : AsmOk e q) (hi : e.i .i64 1000 = i) (hle : (i : Int) ≤ 2147483647) (ha : e.a .u8 1000 = roomK at' z i) : AsmOk e ((.eq (.len (.var .u8 1000)) (.lit 65536), true) :: (.le (.var .i64 1000) (.lit 2147483647), true) :: (.le (.var .i64 1000) (.lit (-1)), false) :: q) := by
  refine AsmOk.cons ?_ (AsmOk.cons ?_ (AsmOk.cons ?_ hq)) <;> simp only [BExp.den, IExp.den, AExp.den, hi, ha, roomK_len]
  · rfl
  · exact decide_eq_true hle
  · exact decide_eq_false (by omega)
theorem rm_done {e : Env} {at' n : Nat} {z : List Int} {W : World} (ha : e.a .u8 1000 = roomK at' z n) {v : SVal} {st' : St} {ov : Nat} {ρ0 : Rho} (h1 : ρ0.length = 1) (hov : ov ≤ 1) (hv : v = .v (.c (.sl (some ⟨1, 0, none⟩) (.lit 65536) (some (.lit 65536))))) (hst : st'.h[1]? = some (some ([.row .u8 (.var .u8 1000)], 5))) :
    ∀ ρ' V W', Post e ov 1 ρ0 W ρ' st'.h W' → v.D e ρ' V → RoomRet at' n z W (.returned V) W' := by
  intro ρ' V W' hp hV
  subst hv
  obtain ⟨b, o, r, g1, g2⟩ := row_of_post hp (by omega) (by omega) (by omega) hst
  refine ⟨b, o, r, ?_, ?_⟩
  · rw [slice_of g1 (n := 65536) (c := 65536) (litD _ _) (litD _ _) (by omega) hV]
  · have hA : (AExp.var .u8 1000).den e = roomK at' z n := by simp only [AExp.den, ha]
    rw [hA] at g2
    exact g2
theorem room_calls (W : World) {at' n c : Nat} (hat : at' ≤ 65535) {p : Option Addr} {z : List Int} (hz : IsRow .u8 W p n c z) (hn31 : (n : Int) ≤ 2147483647) : Calls Tryd.prog 11 #[.int .i64 at', .slice p n c] W (RoomRet at' n z W) := by
  obtain ⟨hf, hb⟩ := fn_of (f := 11) (by kernel_rfl)
  have zero : ∀ {e : Env} {i : Nat}, i = 0 → (List.replicate ((65536 : Int)).toNat (0 : Int)) = roomK at' z i := by rintro e i rfl; rfl
  rcases isRow_cases hz with ⟨rfl, rfl, rfl⟩ | ⟨b, o, rfl, hc, hn, hct, hzl, hrow, hin⟩
  · have ok := (rmSrc at' 0 0 []).ok
    have e0 : (rmSrc at' 0 0 []).env.i .i64 0 = at' := clip_of (k := .i64) (n := (at' : Int)) (i64_in (by omega) (by omega))
    generalize (rmSrc at' 0 0 []).env = E at ok e0
    refine cfg (G := 0) (ov := 1) (plan := plan) (tab := noTab) (n := 1000) (N := 1000) (ro := 1) (base := 1) (pats := rmPats0) (args := rmArgs rmSl0) (st := ⟨[none], []⟩) (e0 := E) (ρ0 := [(0, 0, 0)]) (vs := [.int .i64 at', .slice p 0 0]) (rmInv at' 0 [])
      (fun e v st => v = .v (.c (.sl (some ⟨1, 0, none⟩) (.lit 65536) (some (.lit 65536)))) ∧ st.h[1]? = some (some ([.row .u8 (.var .u8 1000)], 5)) ∧ e.a .u8 1000 = roomK at' [] 0)
      mixed plan_ok rfl (fun _ _ _ => LtOk.none) (fun e ok g => TabOk.none _ _ _ _) rfl hf hb ok ?_ (AsmOk.nil _) (hrel_dead _ _ 1) (noGlob _) (Nat.le_refl _) (Nat.le_refl _) (Nat.zero_le _) (by decide) (by kernel_rfl) ?_ ?_ patAt_one ?_
    · refine ⟨_, _, rfl, congrArg _ e0.symm, _, _, rfl, ⟨_, _, _, rfl, ?_, Nat.le_refl _, .inr ⟨rfl, rfl, ?_⟩⟩, rfl⟩
      · rw [litD]; rfl
      · intro x hx; cases hx; exact litD _ _
    · rw [rmS0]
      simp only [rmS0T, WT.holds, Owed1]
      have hi : (Env.upd E E [Asg.a .u8 1000 (AExp.zeros (IExp.lit 65536)), Asg.i .i64 1000 (IExp.lit 0)]).i .i64 1000 = ((0 : Nat) : Int) := (updI rfl).trans (litD _ _)
      have ha : (Env.upd E E [Asg.a .u8 1000 (AExp.zeros (IExp.lit 65536)), Asg.i .i64 1000 (IExp.lit 0)]).a .u8 1000 = roomK at' [] 0 := (updA rfl).trans (by simp only [AExp.den, litD]; rfl)
      refine ⟨⟨_, rfl⟩, fun p hp => ?_, ⟨0, hi, Nat.le_refl _, ha⟩, fun m hm => by cases hm⟩
      have hp : some (pRm none rmSl0 []) = some p := hp
      cases hp
      exact rm_asm (n := 0) (AsmOk.nil _) hi (by omega) ha
    · intro q hq e ok g has hI
      have hq : q = (qRm, 0) := by simpa [rmPats0] using hq
      subst hq
      obtain ⟨i, hi, hle, ha⟩ := hI
      rw [rmH0]
      have : i = 0 := by omega
      subst this
      exact ⟨rfl, rfl, ha⟩
    · rintro e v st' ok g ⟨hv, hst, ha⟩
      exact rm_done ha rfl (Nat.le_refl _) hv hst
  · have htop : lenTop = 9223372036854775807 := rfl
    have ok := (rmSrc at' n c z).ok
    have e0 : (rmSrc at' n c z).env.i .i64 0 = at' := clip_of (k := .i64) (n := (at' : Int)) (i64_in (by omega) (by omega))
    have e1 : (rmSrc at' n c z).env.i .i64 1 = n := clip_of (k := .i64) (n := (n : Int)) (i64_in (by omega) (by omega))
    have e2 : (rmSrc at' n c z).env.i .i64 2 = c := clip_of (k := .i64) (n := (c : Int)) (i64_in (by omega) (by rw [htop] at hct; omega))
    have ea : (rmSrc at' n c z).env.a .u8 0 = z := clipL_of hin (by show ((z.length : Nat) : Int) ≤ lenTop; rw [hzl]; exact hct)
    generalize (rmSrc at' n c z).env = E at ok e0 e1 e2 ea
    have asm0 : ∀ e, Agree 1000 E e → AsmOk e rmAs := by
      intro e g
      have a0 : e.i .i64 0 = at' := by rw [g.i .i64 0 (by omega)]; exact e0
      have a1 : e.i .i64 1 = n := by rw [g.i .i64 1 (by omega)]; exact e1
      have aa : e.a .u8 0 = z := by rw [g.a .u8 0 (by omega)]; exact ea
      refine AsmOk.cons ?_ (AsmOk.cons ?_ (AsmOk.cons ?_ (AsmOk.cons ?_ (AsmOk.cons ?_ (AsmOk.nil _))))) <;> simp only [BExp.den, IExp.den, AExp.den, a0, a1, aa, hzl]
      · exact decide_eq_true (by omega)
      · exact decide_eq_true (by omega)
      · exact decide_eq_false (by omega)
      · exact decide_eq_true (by omega)
      · exact decide_eq_false (by omega)
    refine cfg (G := 0) (ov := 1) (plan := plan) (tab := noTab) (n := 1000) (N := 1000) (ro := 1) (base := 1) (pats := rmPats) (args := rmArgs rmSl) (st := ⟨[rmBlk], rmAs⟩) (e0 := E) (ρ0 := [(b, o, c)]) (vs := [.int .i64 at', .slice (some ⟨b, o, none⟩) n c]) (rmInv at' n z)
      (fun e v st => v = .v (.c (.sl (some ⟨1, 0, none⟩) (.lit 65536) (some (.lit 65536)))) ∧ st.h[1]? = some (some ([.row .u8 (.var .u8 1000)], 5)) ∧ e.a .u8 1000 = roomK at' z n)
      mixed plan_ok rfl (fun _ _ _ => LtOk.none) (fun e ok g => TabOk.none _ _ _ _) rfl hf hb ok ?_ (asm0 E (Agree.refl _ _)) (hrel_row hrow (by simp only [AExp.den, ea])) (noGlob _) (Nat.le_refl _) (Nat.le_refl _) (Nat.zero_le _) (by decide) (by kernel_rfl) ?_ ?_ patAt_one ?_
    · exact ⟨_, _, rfl, congrArg _ e0.symm, _, _, rfl, slice_D (i := 0) rfl e1 e2 hn, rfl⟩
    · rw [rmS]
      simp only [rmST, WT.holds, Owed1]
      have hg : Agree 1000 E (Env.upd E E [Asg.a .u8 1000 (AExp.zeros (IExp.lit 65536)), Asg.i .i64 1000 (IExp.lit 0)]) := Env.upd_agree (by decide)
      have hi : (Env.upd E E [Asg.a .u8 1000 (AExp.zeros (IExp.lit 65536)), Asg.i .i64 1000 (IExp.lit 0)]).i .i64 1000 = ((0 : Nat) : Int) := (updI rfl).trans (litD _ _)
      have ha : (Env.upd E E [Asg.a .u8 1000 (AExp.zeros (IExp.lit 65536)), Asg.i .i64 1000 (IExp.lit 0)]).a .u8 1000 = roomK at' z 0 := (updA rfl).trans (by simp only [AExp.den, litD]; rfl)
      refine ⟨⟨_, rfl⟩, fun p hp => ?_, ⟨0, hi, Nat.zero_le _, ha⟩, fun m hm => by cases hm⟩
      have hp : some (pRm rmBlk rmSl rmAs) = some p := hp
      cases hp
      exact rm_asm (n := n) (asm0 _ hg) hi (by omega) ha
    · intro q hq e ok g has hI
      have hq : q = (qRm, 0) := by simpa [rmPats] using hq
      subst hq
      obtain ⟨i, hi, hle, ha⟩ := hI
      have a0 : (IExp.var .i64 0).den e = at' := by show e.i .i64 0 = _; rw [g.i .i64 0 (by omega)]; exact e0
      have a1 : (IExp.var .i64 1).den e = n := by show e.i .i64 1 = _; rw [g.i .i64 1 (by omega)]; exact e1
      have aa : (AExp.var .u8 0).den e = z := by show e.a .u8 0 = _; rw [g.a .u8 0 (by omega)]; exact ea
      have ai : (IExp.var .i64 1000).den e = i := hi
      rw [rmH]
      have hs : (IExp.bin .add .i64 (.var .i64 0) (.var .i64 1000)).den e = ((at' + i : Nat) : Int) := by
        rw [binE, a0, ai]; simp only [binDen]; rw [wrap64 (by omega) (by omega)]; simp
      have q1 : (BExp.lt (.var .i64 1000) (.var .i64 1)).den e = decide ((i : Int) < n) := by simp only [BExp.den, ai, a1]
      have q2 : (BExp.le (.bin .add .i64 (.var .i64 0) (.var .i64 1000)) (.lit 65535)).den e = decide (((at' + i : Nat) : Int) ≤ 65535) := by rw [le_den, hs, litD]
      simp only [rmHT, WT.holds, q1, q2, decide_eq_true_eq]
      split
      · rename_i hlt
        split
        · rename_i hle2
          have hi1 : ∀ {l : List Asg}, getI l .i64 1000 = some (.bin .add .i64 (.var .i64 1000) (.lit 1)) → (Env.upd e e l).i .i64 1000 = ((i + 1 : Nat) : Int) := by
            intro l h
            refine (updI h).trans ?_
            rw [binE, ai, litD]; simp only [binDen]; rw [wrap64 (by omega) (by omega)]; simp
          have ha1 : ∀ {l : List Asg}, getA l .u8 1000 = some (.upd (.var .u8 1000) (.bin .add .i64 (.var .i64 0) (.var .i64 1000)) (.sel .u8 (.var .u8 0) (.var .i64 1000))) → (Env.upd e e l).a .u8 1000 = roomK at' z (i + 1) := by
            intro l h
            refine (updA h).trans ?_
            have av : (AExp.var .u8 1000).den e = roomK at' z i := ha
            simp only [AExp.den, hs, Int.toNat_natCast, roomK]
            have hsel : (IExp.sel .u8 (.var .u8 0) (.var .i64 1000)).den e = z.getD i 0 := by
              simp only [IExp.den]
              rw [show AExp.den e (.var .u8 0) = z from aa, show e.i .i64 1000 = i from hi, Int.toNat_natCast]
            rw [hsel, ha]
          have hg : ∀ {l : List Asg}, l.all (asgLet 1000) = true → Agree 1000 E (Env.upd e e l) := fun h => g.trans (Env.upd_agree h)
          refine ⟨⟨_, rfl⟩, fun p hp => ?_, ⟨i + 1, hi1 rfl, by omega, ha1 rfl⟩, fun m hm => ?_⟩
          · have hp : some (pRm rmBlk rmSl rmAs) = some p := hp
            cases hp
            exact rm_asm (n := n) (asm0 _ (hg (by decide))) (hi1 rfl) (by omega) (ha1 rfl)
          · cases hm
            have h1 : ∀ {l : List Asg}, getI l .i64 1000 = some (.bin .add .i64 (.var .i64 1000) (.lit 1)) → n - ((Env.upd e e l).i .i64 1000).toNat < n - i := fun h => by rw [hi1 h, Int.toNat_natCast]; omega
            show _ < n - (e.i .i64 1000).toNat
            rw [hi, Int.toNat_natCast]
            exact h1 rfl
        · rename_i hgt
          refine ⟨rfl, rfl, ?_⟩
          have := roomK_past (at' := at') (z := z) (i := i) (by omega) (n - i)
          rw [show i + (n - i) = n by omega] at this
          rw [ha, this]
      · have : i = n := by omega
        subst this
        exact ⟨rfl, rfl, ha⟩
    · rintro e v st' ok g ⟨hv, hst, ha⟩
      exact rm_done ha rfl (Nat.le_refl _) hv hst
end Go.Proofs.YtjnoacnbhcdidaaDoor.K
