/- StoreKeeps: its loops keep what is claimed. -/
import Derived.Test.YtopgnohobmlegaaStKeeps
namespace Go.Proofs.Ytopgnohobmlegaa.K
open Go Sy
set_option maxRecDepth 100000
set_option linter.unusedVariables false
set_option linter.unusedSimpArgs false
abbrev yesV (v : SVal) : Prop := v = .v (.c (.b (.lit true)))
theorem rom_take : romL.take 512 = romL := List.take_of_length_le (by rw [romL_len]; exact Nat.le_refl _)
theorem kPats_get {k : Key} {p : Pat} (h : patAt kPats k = some p) : (k = (qK1, 0) ∧ p = pK0) ∨ (k = (qK1, 1) ∧ p = pK1) ∨ (k = (qK2, 0) ∧ p = pK2) := by
  have := patAt_mem' h
  simpa [kPats] using this
/-- What the law's own bytes are, beside the store's. -/
structure KI (e : Env) (size : Nat) : Prop where
  l : (e.a .u8 1001).length = 32768
  t : e.a .u8 1003 = (e.a .u8 1001).take size
  f : e.a .u8 1002 = romL
def kInv (n size : Nat) (Z : List (List Value)) : Inv := ⟨fun k e => KI e size ∧ ∃ i : Nat, e.i .i64 1000 = i ∧ (k = (qK1, 0) → i < n ∧ ∃ a : ActV, Z[i]? = some a.row ∧ ActLet e a ∧ a.z.length = a.q ∧ a.m ≤ a.q ∧ (a.q : Int) ≤ lenTop) ∧ (k = (qK2, 0) → i ≤ size) ∧ (k.1 = qK1 → i ≤ n), fun k e => (if k.1 = qK1 then 40000 + n else size) - (e.i .i64 1000).toNat⟩
theorem kAs_ok {e : Env} {size : Nat} (h : KI e size) (e0 : e.i .i64 0 = size) (e9 : e.a .u8 9 = romL) (h0 : 2048 ≤ size) (h1 : size ≤ 32768) : AsmOk e kAs := by
  have hl := h.l
  have hf := h.f
  have ht : (e.a .u8 1003).length = size := by rw [h.t, List.length_take, hl]; omega
  refine AsmOk.cons ?_ (AsmOk.cons ?_ (AsmOk.cons ?_ (AsmOk.cons ?_ (AsmOk.cons ?_ (AsmOk.cons ?_ (AsmOk.nil _)))))) <;> simp only [BExp.den, IExp.den, AExp.den, hl, hf, ht, romL_len, e0, e9]
  · rfl
  · rfl
  · exact decide_eq_true trivial
  · exact decide_eq_false (by omega)
  · exact decide_eq_true (by omega)
  · rfl
section
variable {W : World} {p : Option Addr} {n c b o size : Nat} {Z : List (List Value)} (hz : SlRecs W actKs p n c b o Z) (h0 : 2048 ≤ size) (h1 : size ≤ 32768)
include hz h0 h1 in
theorem k_next {e : Env} {l : List Asg} {i : Nat} {m : Option Nat} {D : Env → SVal → St → Prop} (e0 : (Env.upd e e l).i .i64 0 = size) (e1 : (Env.upd e e l).i .i64 1 = n) (e2 : (Env.upd e e l).i .i64 2 = c) (e9 : (Env.upd e e l).a .u8 9 = romL) (hi : (Env.upd e e l).i .i64 1000 = i) (hle : i ≤ n) (hk : KI (Env.upd e e l) size) (hm : ∀ m', m = some m' → 40000 + n - i < m') :
    Owed 1000 5000 1 2 [(b, o, 0), (0, 0, 0)] W kPats (kInv n size Z) D e m (.go (qK1, 0) l) := by
  intro ok' hag
  generalize Env.upd e e l = E at *
  have hn := hz.1
  have htop : lenTop = 9223372036854775807 := rfl
  have ht := hz.2.1
  have hq12 : ¬ (qK1 = qK2) := by decide
  by_cases hlt : i < n
  · obtain ⟨r, hr, hkk, hR⟩ := hz.get hlt
    obtain ⟨a, ha, rfl⟩ := act_open hkk
    have L := act_let ha E
    obtain ⟨bd, od, hp, hat⟩ := act_at ha hR.at'
    have ag := over_agree E 5000 a.src
    have a0 : (over E 5000 a.src).i .i64 0 = size := e0
    have a1 : (over E 5000 a.src).i .i64 1 = n := e1
    have a2 : (over E 5000 a.src).i .i64 2 = c := e2
    have a9 : (over E 5000 a.src).a .u8 9 = romL := e9
    have ai : (over E 5000 a.src).i .i64 1000 = i := hi
    have kk : KI (over E 5000 a.src) size := ⟨hk.l, hk.t, hk.f⟩
    obtain ⟨am, aq, az, ain⟩ := row_le ha.z
    refine ⟨over E 5000 a.src, [(b, o, 0), (bd, od, 0)], (qK1, 0), pK0, over_ok ok' _ _, ag, ⟨rfl, rfl, rfl⟩, rfl, rfl, fun p2 hp2 => ?_, ?_, ?_, ⟨kk, i, ai, fun _ => ⟨hlt, a, hr, L, az, am, aq⟩, fun h => absurd (congrArg Prod.fst h) hq12, fun _ => hle⟩, fun m' hm' => ?_⟩
    · rcases kPats_get hp2 with ⟨_, rfl⟩ | ⟨h, _⟩ | ⟨h, _⟩
      · exact ⟨rfl, rfl, rfl⟩
      · cases h
      · exact absurd (congrArg Prod.fst h) hq12
    · refine AsmOk.append (AsmOk.cons ?_ (AsmOk.cons ?_ (AsmOk.cons ?_ (AsmOk.cons ?_ (AsmOk.cons ?_ (AsmOk.cons ?_ (AsmOk.cons ?_ (AsmOk.nil _)))))))) (kAs_ok kk a0 a9 h0 h1) <;> simp only [BExp.den, IExp.den, AExp.den, a1, a2, ai, L.m, L.q, L.z, az]
      · exact decide_eq_false (by omega)
      · exact decide_eq_true (by omega)
      · exact decide_eq_true (by omega)
      · exact decide_eq_false (by omega)
      · exact decide_eq_true (by omega)
      · exact decide_eq_true (by omega)
      · exact decide_eq_true trivial
    · intro j l1 t1 hj hl1
      rcases j with _ | j
      · have hl1 : some ([Seg.el (.var .i64 2) 7 (.var .i64 1000) (actCells 1)], _) = some (l1, t1) := Option.some.inj hl1
        cases hl1
        exact ⟨b, o, 0, _, rfl, hR.at', hR.el (i := i) hr (act_D (d := 1) L ha rfl hp) a2 ai, fun x hx => by simp at hx⟩
      · rcases j with _ | j
        · have hl1 : some ([Seg.row .u8 (.var .u8 5000)], _) = some (l1, t1) := Option.some.inj hl1
          cases hl1
          exact ⟨bd, od, 0, _, rfl, hat, ⟨[], by rw [show (AExp.var .u8 5000).den (over E 5000 a.src) = a.z from L.z, List.append_nil], rfl⟩, fun x hx => by simp at hx⟩
        · omega
    · simp only [kInv, if_true, ai, Int.toNat_natCast]; exact hm m' hm'
  · refine ⟨E, [(b, o, 0), (0, 0, 0)], (qK1, 1), pK1, ok', Agree.refl _ _, Base.refl _ _ _, rfl, rfl, fun p2 hp2 => ?_, ?_, ?_, ⟨hk, i, hi, (fun h => by cases h), (fun h => absurd (congrArg Prod.fst h) hq12), fun _ => hle⟩, fun m' hm' => ?_⟩
    · rcases kPats_get hp2 with ⟨_, rfl⟩ | ⟨h, _⟩ | ⟨h, _⟩
      · exact ⟨rfl, rfl, rfl⟩
      · cases h
      · exact absurd (congrArg Prod.fst h) hq12
    · refine AsmOk.cons ?_ (kAs_ok hk e0 e9 h0 h1)
      simp only [BExp.den, IExp.den, e1, hi]
      exact decide_eq_false (by omega)
    · intro j l1 t1 hj hl1
      rcases j with _ | _ | j
      · cases (Option.some.inj hl1)
      · cases (Option.some.inj hl1)
      · omega
    · simp only [kInv, if_true, hi, Int.toNat_natCast]; exact hm m' hm'
include h0 h1 in
theorem k_next2 {e : Env} {l : List Asg} {i : Nat} {m : Option Nat} {D : Env → SVal → St → Prop} (e0 : (Env.upd e e l).i .i64 0 = size) (e9 : (Env.upd e e l).a .u8 9 = romL) (hi : (Env.upd e e l).i .i64 1000 = i) (hle : i ≤ size) (hk : KI (Env.upd e e l) size) (hm : ∀ m', m = some m' → size - i < m') :
    Owed 1000 5000 1 2 [(b, o, 0), (0, 0, 0)] W kPats (kInv n size Z) D e m (.go (qK2, 0) l) := by
  intro ok' hag
  generalize Env.upd e e l = E at *
  have hq12 : ¬ (qK1 = qK2) := by decide
  refine ⟨E, [(b, o, 0), (0, 0, 0)], (qK2, 0), pK2, ok', Agree.refl _ _, Base.refl _ _ _, rfl, rfl, fun p2 hp2 => ?_, ?_, ?_, ⟨hk, i, hi, (fun h => absurd (congrArg Prod.fst h).symm hq12), (fun _ => hle), fun h => absurd h.symm hq12⟩, fun m' hm' => ?_⟩
  · rcases kPats_get hp2 with ⟨h, _⟩ | ⟨h, _⟩ | ⟨_, rfl⟩
    · exact absurd (congrArg Prod.fst h).symm hq12
    · exact absurd (congrArg Prod.fst h).symm hq12
    · exact ⟨rfl, rfl, rfl⟩
  · refine AsmOk.cons ?_ (AsmOk.cons ?_ (kAs_ok hk e0 e9 h0 h1)) <;> simp only [BExp.den, IExp.den, e0, hi]
    · exact decide_eq_false (by omega)
    · exact decide_eq_false (by omega)
  · intro j l1 t1 hj hl1
    rcases j with _ | _ | j
    · cases (Option.some.inj hl1)
    · cases (Option.some.inj hl1)
    · omega
  · have : ¬ (qK2 = qK1) := fun h => hq12 h.symm
    simp only [kInv, if_neg this, hi, Int.toNat_natCast]; exact hm m' hm'
end
theorem kS_ok {W : World} {p : Option Addr} {n c b o : Nat} {size : Int} {Z : List (List Value)} (hz : SlRecs W actKs p n c b o Z) {e : Env} (e0 : e.i .i64 0 = size) (e1 : e.i .i64 1 = n) (e2 : e.i .i64 2 = c) (e9 : e.a .u8 9 = romL) :
    WT.holds e (Owed 1000 5000 1 2 [(b, o, 0), (0, 0, 0)] W kPats (kInv n size.toNat Z) (fun _ v _ => yesV v) e none) kST := by
  have q1 : (BExp.le (.var .i64 0) (.lit 2047)).den e = decide (size ≤ 2047) := by simp only [BExp.den, IExp.den, e0]
  have q2 : (BExp.le (.var .i64 0) (.lit 32768)).den e = decide (size ≤ 32768) := by simp only [BExp.den, IExp.den, e0]
  simp only [kST, WT.holds, q1, q2, decide_eq_true_eq]
  split
  · exact rfl
  split
  · exact rfl
  split
  · split
    · rename_i hs1 hs2 _
      have hsz : size = (size.toNat : Int) := by omega
      refine k_next (size := size.toNat) (i := 0) hz (by omega) (by omega) ((updI_none rfl).trans (e0.trans hsz)) ((updI_none rfl).trans e1) ((updI_none rfl).trans e2) ((updA_none rfl).trans e9) ((updI rfl).trans (litD _ _)) (Nat.zero_le _) ⟨?_, ?_, ?_⟩ (fun m' hm' => by cases hm')
      · refine (congrArg List.length (updA rfl)).trans ?_
        simp only [AExp.den, IExp.den, List.length_replicate]; rfl
      · refine (updA rfl).trans ?_
        rw [show (Env.upd e e _).a .u8 1001 = _ from updA rfl]
        simp only [AExp.den, IExp.den, e0, List.take_replicate]
        congr 1
        omega
      · refine (updA rfl).trans ?_
        simp only [AExp.den, IExp.den, e9]
        exact rom_take
    · exact rfl
  · exact rfl
theorem take_set' {α : Type} {l : List α} {i n : Nat} {v : α} (h : i < n) : (l.set i v).take n = (l.take n).set i v := by
  rw [List.take_set]
theorem lay_take {L z : List Int} {at' m size : Nat} (h1 : at' + m ≤ size) (h2 : size ≤ L.length) (hz : m ≤ z.length) :
    (L.take at' ++ (z.take m ++ (L.drop (at' + m)).take (L.length - (at' + m)))).take size = (L.take size).take at' ++ (z.take m ++ ((L.take size).drop (at' + m)).take (size - (at' + m))) := by
  have l1 : (L.take at').length = at' := by rw [List.length_take]; omega
  have l2 : (z.take m).length = m := by rw [List.length_take]; omega
  have e1 : (L.take at').take size = L.take at' := List.take_of_length_le (by omega)
  have e2 : (z.take m).take (size - at') = z.take m := List.take_of_length_le (by omega)
  have e3 : (L.take size).take at' = L.take at' := by rw [List.take_take, Nat.min_eq_left (by omega)]
  have e4 : ((L.drop (at' + m)).take (L.length - (at' + m))).take (size - at' - m) = ((L.take size).drop (at' + m)).take (size - (at' + m)) := by
    rw [List.take_take, Nat.min_eq_left (by omega), List.drop_take, List.take_take, show size - at' - m = size - (at' + m) by omega, Nat.min_self]
  rw [List.take_append, l1, List.take_append, l2, e1, e2, e3, e4]
theorem kH0_ok {W : World} {p : Option Addr} {n c b o size : Nat} {Z : List (List Value)} (hz : SlRecs W actKs p n c b o Z) (h0 : 2048 ≤ size) (h1 : size ≤ 32768) {e : Env} (ok : EnvOk e) (e0 : e.i .i64 0 = size) (e1 : e.i .i64 1 = n) (e2 : e.i .i64 2 = c) (e9 : e.a .u8 9 = romL) (hI : (kInv n size Z).I (qK1, 0) e) :
    WT.holds e (Owed 1000 5000 1 2 [(b, o, 0), (0, 0, 0)] W kPats (kInv n size Z) (fun _ v _ => yesV v) e (some ((kInv n size Z).μ (qK1, 0) e))) kH0T := by
  obtain ⟨hk, i, hi, hel, _, _⟩ := hI
  obtain ⟨hlt, a, hr, L, az, am, aq⟩ := hel rfl
  have hn := hz.1
  have ht := hz.2.1
  have htop : lenTop = 9223372036854775807 := rfl
  have hmu : ∀ m', some ((kInv n size Z).μ (qK1, 0) e) = some m' → 40000 + n - (i + 1) < m' := by
    intro m' hm'
    cases hm'
    simp only [kInv, if_true, hi, Int.toNat_natCast]
    omega
  have hi1 : ∀ {l : List Asg}, getI l .i64 1000 = some (.bin .add .i64 (.var .i64 1000) (.lit 1)) → (Env.upd e e l).i .i64 1000 = ((i + 1 : Nat) : Int) := by
    intro l h
    rw [updI h, binE, litD, show (IExp.var .i64 1000).den e = i from hi]; simp only [binDen]; rw [wrap64 (by omega) (by omega)]; simp
  have any : ∀ l, getI l .i64 1000 = some (.bin .add .i64 (.var .i64 1000) (.lit 1)) → getI l .i64 0 = none → getI l .i64 1 = none → getI l .i64 2 = none → getA l .u8 9 = none → KI (Env.upd e e l) size →
      Owed 1000 5000 1 2 [(b, o, 0), (0, 0, 0)] W kPats (kInv n size Z) (fun _ v _ => yesV v) e (some ((kInv n size Z).μ (qK1, 0) e)) (.go (qK1, 0) l) := fun l g g0 g1 g2 g9 hk' =>
    k_next hz h0 h1 ((updI_none g0).trans e0) ((updI_none g1).trans e1) ((updI_none g2).trans e2) ((updA_none g9).trans e9) (hi1 g) hlt hk' hmu
  have same : ∀ l, getI l .i64 1000 = some (.bin .add .i64 (.var .i64 1000) (.lit 1)) → getI l .i64 0 = none → getI l .i64 1 = none → getI l .i64 2 = none → getA l .u8 9 = none → getA l .u8 1001 = some (.var .u8 1001) → getA l .u8 1002 = some (.var .u8 1002) → getA l .u8 1003 = some (.var .u8 1003) →
      Owed 1000 5000 1 2 [(b, o, 0), (0, 0, 0)] W kPats (kInv n size Z) (fun _ v _ => yesV v) e (some ((kInv n size Z).μ (qK1, 0) e)) (.go (qK1, 0) l) := fun l g g0 g1 g2 g9 g11 g12 g13 =>
    any l g g0 g1 g2 g9 ⟨by rw [updA g11]; exact hk.l, by rw [updA g13, updA g11]; exact hk.t, by rw [updA g12]; exact hk.f⟩
  have hl := hk.l
  simp only [kH0T, WT.holds]
  split
  · split
    · exact same _ rfl rfl rfl rfl rfl rfl rfl rfl
    · rename_i c1
      split
      · rename_i c2
        split
        · exact same _ rfl rfl rfl rfl rfl rfl rfl rfl
        · rename_i c3
          have f1 : ¬ a.At ≤ -1 := by
            have := leF (Bool.eq_false_iff.2 c1)
            rw [litD] at this
            rw [← L.At]; exact this
          have f2 : a.At ≤ size := by
            have := leT c2
            rw [← L.At, ← e0]; exact this
          have f3 : ¬ (size : Int) - a.At < a.m := by
            have := ltF (Bool.eq_false_iff.2 c3)
            rw [binE, show (IExp.var .i64 0).den e = size from e0, show (IExp.var .i64 5001).den e = a.At from L.At, show (IExp.var .i64 5002).den e = a.m from L.m] at this
            simp only [binDen] at this
            rw [wrap64 (by omega) (by omega)] at this
            exact this
          obtain ⟨A, hA⟩ : ∃ A : Nat, a.At = A := ⟨a.At.toNat, by omega⟩
          have w1 : IntKind.i64.wrap ((A : Int) + a.m) = ((A + a.m : Nat) : Int) := by rw [wrap64 (by omega) (by omega)]; simp
          have hAt : e.i .i64 5001 = A := L.At.trans hA
          have hlen3 : (e.a .u8 1003).length = size := by rw [hk.t, List.length_take, hl]; omega
          have w2 : IntKind.i64.wrap ((32768 : Int) - ((A + a.m : Nat) : Int)) = ((32768 - (A + a.m) : Nat) : Int) := by rw [wrap64 (by omega) (by omega)]; omega
          have w3 : IntKind.i64.wrap ((size : Int) - ((A + a.m : Nat) : Int)) = ((size - (A + a.m) : Nat) : Int) := by rw [wrap64 (by omega) (by omega)]; omega
          have d1 : ∀ l, getA l .u8 1001 = some (AExp.cat (AExp.sub (AExp.var .u8 1001) (IExp.lit 0) (IExp.var .i64 5001)) (AExp.cat (AExp.sub (AExp.var .u8 5000) (IExp.lit 0) (IExp.var .i64 5002)) (AExp.sub (AExp.var .u8 1001) (IExp.bin BinOp.add .i64 (IExp.var .i64 5001) (IExp.var .i64 5002)) (IExp.bin BinOp.sub .i64 (IExp.len (AExp.var .u8 1001)) (IExp.bin BinOp.add .i64 (IExp.var .i64 5001) (IExp.var .i64 5002)))))) →
              (Env.upd e e l).a .u8 1001 = (e.a .u8 1001).take A ++ (a.z.take a.m ++ ((e.a .u8 1001).drop (A + a.m)).take (32768 - (A + a.m))) := by
            intro l g
            rw [updA g]
            simp only [AExp.den, IExp.den, binDen, hAt, L.m, L.z, w1, hl, Int.toNat_natCast]
            rw [show ((32768 : Nat) : Int) = 32768 from rfl, w2]; rfl
          have d3 : ∀ l, getA l .u8 1003 = some (AExp.cat (AExp.sub (AExp.var .u8 1003) (IExp.lit 0) (IExp.var .i64 5001)) (AExp.cat (AExp.sub (AExp.var .u8 5000) (IExp.lit 0) (IExp.var .i64 5002)) (AExp.sub (AExp.var .u8 1003) (IExp.bin BinOp.add .i64 (IExp.var .i64 5001) (IExp.var .i64 5002)) (IExp.bin BinOp.sub .i64 (IExp.len (AExp.var .u8 1003)) (IExp.bin BinOp.add .i64 (IExp.var .i64 5001) (IExp.var .i64 5002)))))) →
              (Env.upd e e l).a .u8 1003 = (e.a .u8 1003).take A ++ (a.z.take a.m ++ ((e.a .u8 1003).drop (A + a.m)).take (size - (A + a.m))) := by
            intro l g
            rw [updA g]
            simp only [AExp.den, IExp.den, binDen, hAt, L.m, L.z, w1, hlen3, w3, Int.toNat_natCast]; rfl
          refine any _ rfl rfl rfl rfl rfl ⟨?_, ?_, ?_⟩
          · rw [d1 _ rfl]
            simp only [List.length_append, List.length_take, List.length_drop, hl, az]
            omega
          · rw [d3 _ rfl, d1 _ rfl, hk.t]
            have := lay_take (L := e.a .u8 1001) (z := a.z) (at' := A) (m := a.m) (size := size) (by omega) (by omega) (by omega)
            rw [hl] at this
            exact this.symm
          · rw [updA rfl]; exact hk.f
      · exact same _ rfl rfl rfl rfl rfl rfl rfl rfl
  · split
    · split
      · split
        · exact same _ rfl rfl rfl rfl rfl rfl rfl rfl
        · split
          · rename_i c4
            have f4 : a.A < size := by
              have := ltT c4
              rw [← L.A, ← e0]; exact this
            have f5 : 0 ≤ a.A := by
              have := (ok.i .u16 5000).1
              rw [L.A, IntKind.min_u16] at this
              exact this
            refine any _ rfl rfl rfl rfl rfl ⟨?_, ?_, ?_⟩
            · rw [updA rfl]
              simp only [AExp.den, List.length_set]; exact hl
            · rw [updA (x := AExp.upd (AExp.var .u8 1003) (IExp.var .u16 5000) (IExp.var .u8 5000)) rfl, updA (x := AExp.upd (AExp.var .u8 1001) (IExp.var .u16 5000) (IExp.var .u8 5000)) rfl]
              simp only [AExp.den, hk.t]
              rw [List.take_set]
            · rw [updA rfl]; exact hk.f
          · exact same _ rfl rfl rfl rfl rfl rfl rfl rfl
      · split
        · split
          · exact same _ rfl rfl rfl rfl rfl rfl rfl rfl
          · exact same _ rfl rfl rfl rfl rfl rfl rfl rfl
        · split
          · exact same _ rfl rfl rfl rfl rfl rfl rfl rfl
          · exact same _ rfl rfl rfl rfl rfl rfl rfl rfl
    · split
      · exact same _ rfl rfl rfl rfl rfl rfl rfl rfl
      · exact same _ rfl rfl rfl rfl rfl rfl rfl rfl
end Go.Proofs.Ytopgnohobmlegaa.K
