/- What a text is as a number: the program's function. -/
import Derived.Test.YtofphikiadiogaaDoorBtBase
import Derived.Laws.RangeString
namespace Go.Proofs.YtofphikiadiogaaDoor.Bits
open Go Sy
set_option maxRecDepth 100000
set_option linter.unusedVariables false
set_option linter.unusedSimpArgs false

/-- The document's reading, digit by digit. -/
def numF : List Int → Int → Option Int
  | [], n => some n
  | c :: r, n => if 48 ≤ c ∧ c ≤ 57 then numF r (16 * n + (c - 48)) else if 97 ≤ c ∧ c ≤ 102 then numF r (16 * n + (c - 87)) else none
def numR (l : List Int) : Int × Int :=
  if l.length = 0 ∨ 8 < l.length then (0, 1) else match numF l 0 with
  | some n => (n, 0)
  | none => (0, 1)

theorem num_body : body 28 = .seq (sub (body 28) [false]) (.seq (sub (body 28) [true, false]) (.seq (sub (body 28) [true, true, false]) (.seq (.seq (sub (body 28) [true, true, true, false, false])
    (.block 0 (.loop (.seq (sub (body 28) [true, true, true, false, true, false, false, false]) (.seq (sub (body 28) [true, true, true, false, true, false, false, true, false]) (sub (body 28) [true, true, true, false, true, false, false, true, true])))))) (sub (body 28) [true, true, true, true])))) := by kernel_rfl
theorem num_r4 : sub (body 28) [true, true, true, false, false] = .region 4 #[{ dst := some 15, op := Op.move (Operand.tmp 0), type := 9, pos := "bits.go:85", after := #[], guard := none },
    { dst := some 16, op := Op.range 9 (Operand.tmp 15), type := 0, pos := "bits.go:85", after := #[{ on := 0, ground := Ground.data }], guard := none }] false := by kernel_rfl
theorem num_r5 : sub (body 28) [true, true, true, false, true, false, false, false] = .region 5 #[{ dst := some 17, op := Op.next (Operand.tmp 16) true, type := 0, pos := "bits.go:85", after := #[], guard := none },
    { dst := some 18, op := Op.extract (Operand.tmp 17) 0, type := 4, pos := "bits.go:85", after := #[{ on := 0, ground := Ground.data }], guard := none }] false := by kernel_rfl
theorem num_c5 : sub (body 28) [true, true, true, false, true, false, false, true, false] = .cond (.tmp 18) .skip (.exit 0) := by kernel_rfl

/-- What is read at a place. -/
structure RuneIs (c r : Int) : Prop where
  lo : c < 128 → r = c
  hi : ¬ c < 128 → 128 ≤ r
  inn : In .i32 r
theorem decode_big (s : ByteArray) (i : Nat) (h : ¬ (s.get! (i + 0)).toNat < 128) : 128 ≤ (Utf8.decode s i).1 ∧ (Utf8.decode s i).1 ≤ 2097151 := by
  unfold Utf8.decode
  simp only
  rw [if_neg h]
  have b0 := (s.get! (i + 0)).toNat_lt
  have b1 := (s.get! (i + 1)).toNat_lt
  have b2 := (s.get! (i + 2)).toNat_lt
  have b3 := (s.get! (i + 3)).toNat_lt
  repeat' split
  all_goals (try simp only [Utf8.runeError, Bool.and_eq_true, decide_eq_true_eq] at *)
  all_goals omega
/-- The reader of a text that lies in block B stands at a place; nothing that was there before has turned. -/
structure Reads (W0 : World) (s : ByteArray) (B pos : Nat) (w : World) : Prop where
  it : w.heap[B]? = some (.stringIter s pos)
  new : W0.heap.size ≤ B
  below : RowKit.Below W0.heap.size W0 w
theorem Reads.lt {W0 w : World} {s : ByteArray} {B pos : Nat} (h : Reads W0 s B pos w) : B < w.heap.size := (Array.getElem?_eq_some_iff.1 h.it).1
theorem Reads.set {W0 w : World} {s : ByteArray} {B pos : Nat} (h : Reads W0 s B pos w) (p : Nat) : Reads W0 s B p { w with heap := w.heap.setIfInBounds B (.stringIter s p) } := by
  have hlt := h.lt
  refine ⟨?_, h.new, ⟨h.below.os, h.below.tape, h.below.output, ?_, fun k hk => ?_⟩⟩
  · simp [Array.getElem?_setIfInBounds, hlt]
  · simpa using h.below.size
  · have hne : B ≠ k := by have := h.new; omega
    show (w.heap.setIfInBounds B _)[k]? = _
    rw [Array.getElem?_setIfInBounds_ne hne]
    exact h.below.block k hk
theorem Reads.keep {W0 w w' : World} {s : ByteArray} {B pos : Nat} (h : Reads W0 s B pos w) (k : RowKit.Below w.heap.size w w') : Reads W0 s B pos w' :=
  ⟨by rw [k.block B h.lt]; exact h.it, h.new, ⟨k.os.trans h.below.os, k.tape.trans h.below.tape, k.output.trans h.below.output, Nat.le_trans h.below.size k.size, fun q hq => by rw [k.block q (Nat.lt_of_lt_of_le hq h.below.size)]; exact h.below.block q hq⟩⟩
theorem run_next_over {W0 w : World} {s : ByteArray} {B pos : Nat} (h : Reads W0 s B pos w) (ty : TypeId) (hp : ¬ pos < s.size) : (Instr.next (.pointer (some ⟨B, 0, none⟩)) true ty).run Tryd.prog w = .ok (.tuple #[.bool false]) w := by
  simp [Instr.next, getObj, Sem.run, h.it, hp]
theorem run_next {W0 w : World} {s : ByteArray} {B pos : Nat} (h : Reads W0 s B pos w) (ty : TypeId) (hp : pos < s.size) :
    ∃ r p, RuneIs ((ints s).getD pos 0) r ∧ ((ints s).getD pos 0 < 128 → p = pos + 1) ∧
      (Instr.next (.pointer (some ⟨B, 0, none⟩)) true ty).run Tryd.prog w = .ok (.tuple #[.bool true, .int .i64 pos, .int .i32 r]) { w with heap := w.heap.setIfInBounds B (.stringIter s p) } := by
  have hd : (ints s).getD pos 0 = ((s[pos]'hp).toNat : Int) := by
    have hl : pos < s.data.toList.length := by simpa using hp
    simp only [ints, List.getD_eq_getElem?_getD, List.getElem?_map, List.getElem?_eq_getElem hl, Option.map_some, Option.getD_some]
    rfl
  rw [hd]
  have hg : s.get! (pos + 0) = s[pos]'hp := by
    show s.get! pos = _
    simp [ByteArray.get!, getElem!_pos, hp]
    rfl
  have hrun : (Instr.next (.pointer (some ⟨B, 0, none⟩)) true ty).run Tryd.prog w = .ok (.tuple #[.bool true, .int .i64 pos, .int .i32 ((Utf8.decode s pos).1 : Nat)]) { w with heap := w.heap.setIfInBounds B (.stringIter s (pos + (Utf8.decode s pos).2)) } := by
    simp only [Instr.next, getObj, setObj, Sem.run_bind, Sem.run, h.it, Result.andThen, hp, if_true]
    simp [goInt, Sem.run, h.it]
  by_cases ha : (s[pos]'hp).toNat < 128
  · rw [decode_ascii s pos hp ha] at hrun
    refine ⟨((s[pos]'hp).toNat : Int), pos + 1, ⟨fun _ => rfl, fun hn => absurd (by omega) hn, ?_⟩, fun _ => rfl, hrun⟩
    exact ⟨by simp only [IntKind.min_i32]; omega, by simp only [IntKind.max_i32]; omega⟩
  · have hb := decode_big s pos (by rw [hg]; exact ha)
    refine ⟨((Utf8.decode s pos).1 : Int), pos + (Utf8.decode s pos).2, ⟨fun hn => absurd hn (by omega), fun _ => by omega, ?_⟩, fun hn => absurd hn (by omega), hrun⟩
    exact ⟨by simp only [IntKind.min_i32]; omega, by simp only [IntKind.max_i32]; omega⟩

def srcN (n q r : Int) (p : Value) : Src :=
  { i := fun k => match k with
      | .i64 => [n, q]
      | .i32 => [r]
      | _ => [],
    b := [],
    a := fun _ _ => [],
    v := fun _ => p }
def tmH : Tm := ⟨48, [(4, .v (.c (.i .i64 (.var .i64 0)))), (16, .val 0)], true⟩
def tmB : Tm := ⟨48, [(4, .v (.c (.i .i64 (.var .i64 0)))), (16, .val 0), (17, .tup [.c (.b (.lit true)), .c (.i .i64 (.var .i64 1)), .c (.i .i32 (.var .i32 0))])], true⟩
def asN : Asm := [(.le (.var .i64 0) (.lit 4294967295), true), (.le (.var .i64 0) (.lit (-1)), false)]
noncomputable def bodyT : WT (XE × Tm × St) := xCode Tryd.prog 0 plan (fun _ _ _ _ => none) 1000 (plan.at 28) 0 (sub (body 28) [true, true, true, false, true, false, false, true, true])
  ⟨48, [(4, .v (.c (.i .i64 (.var .i64 0)))), (16, .val 0), (17, .tup [.c (.b (.lit true)), .c (.i .i64 (.var .i64 1)), .c (.i .i32 (.var .i32 0))])], true⟩ ⟨[], asN⟩
abbrev R0 : IExp := .var .i32 0
abbrev N0 : IExp := .var .i64 0
theorem bodyT_eq : bodyT.map (slotsOf [4, 16, 2, 3]) = .node (.le R0 (.lit 47)) (.leaf (.ret, [.v (.c (.i .i64 N0)), .val 0, .v (.c (.i .i64 (.lit 0))), .v (.c (.i .i64 (.lit 1)))], 48))
    (.node (.le R0 (.lit 57)) (.leaf (.normal, [.v (.c (.i .i64 (.bin .add .i64 (.bin .mul .i64 N0 (.lit 16)) (.bin .add .i32 R0 (.lit (-48)))))), .val 0, .any, .any], 48))
      (.node (.le R0 (.lit 96)) (.leaf (.ret, [.v (.c (.i .i64 N0)), .val 0, .v (.c (.i .i64 (.lit 0))), .v (.c (.i .i64 (.lit 1)))], 48))
        (.node (.le R0 (.lit 102)) (.leaf (.normal, [.v (.c (.i .i64 (.bin .add .i64 (.bin .mul .i64 N0 (.lit 16)) (.bin .add .i32 R0 (.lit (-87)))))), .val 0, .any, .any], 48))
          (.leaf (.ret, [.v (.c (.i .i64 N0)), .val 0, .v (.c (.i .i64 (.lit 0))), .v (.c (.i .i64 (.lit 1)))], 48))))) := by kernel_rfl

theorem wrap64 {n : Int} (h0 : -9223372036854775808 ≤ n) (h1 : n ≤ 9223372036854775807) : IntKind.i64.wrap n = n := wrap_id ⟨by simp only [IntKind.min_i64]; exact h0, by simp only [IntKind.max_i64]; exact h1⟩
theorem wrap32 {n : Int} (h0 : -2147483648 ≤ n) (h1 : n ≤ 2147483647) : IntKind.i32.wrap n = n := wrap_id ⟨by simp only [IntKind.min_i32]; exact h0, by simp only [IntKind.max_i32]; exact h1⟩
theorem in64 {n : Int} (h0 : -9223372036854775808 ≤ n) (h1 : n ≤ 9223372036854775807) : In .i64 n := ⟨by simp only [IntKind.min_i64]; exact h0, by simp only [IntKind.max_i64]; exact h1⟩
theorem asN_ok {n q r : Int} {p : Value} (h0 : 0 ≤ n) (h1 : n ≤ 4294967295) : AsmOk (srcN n q r p).env asN := by
  have e1 : (srcN n q r p).env.i .i64 0 = n := clip_of (k := .i64) (n := n) (in64 (by omega) (by omega))
  refine AsmOk.cons ?_ (AsmOk.cons ?_ (AsmOk.nil _))
  · simp only [BExp.den, IExp.den, e1]; exact decide_eq_true h1
  · simp only [BExp.den, IExp.den, e1]; exact decide_eq_false (by omega)
theorem getD_put {a : Act} {t u : Nat} {V : Value} (h : t < a.tmps.size) : (a.put (some t) V).tmps.toList.getD u undef = if u = t then V else a.tmps.toList.getD u undef := by
  show (a.tmps.setIfInBounds t V).toList.getD u undef = _
  rw [Array.toList_setIfInBounds, List.getD_eq_getElem?_getD, List.getD_eq_getElem?_getD]
  split
  · rename_i hu
    subst hu
    rw [List.getElem?_set_self (by simpa using h)]; rfl
  · rename_i hu
    rw [List.getElem?_set_ne (fun hh => hu hh.symm)]
theorem size_put (a : Act) (t : Nat) (V : Value) : (a.put (some t) V).tmps.size = a.tmps.size := by
  show (a.tmps.setIfInBounds t V).size = _
  simp
theorem eval_tmp (a : Act) (t : Nat) : a.eval (.tmp t) = a.tmps.toList.getD t undef := by
  simp [Act.eval, Array.getD_eq_getD_getElem?, List.getD_eq_getElem?_getD]

noncomputable def loopB : Code := .seq (sub (body 28) [true, true, true, false, true, false, false, false]) (.seq (sub (body 28) [true, true, true, false, true, false, false, true, false]) (sub (body 28) [true, true, true, false, true, false, false, true, true]))
/-- The frame at the loop's head. -/
structure Head (n : Int) (B : Nat) (a : Act) : Prop where
  size : a.tmps.size = 48
  df : a.defers = []
  t4 : a.tmps.toList.getD 4 undef = .int .i64 n
  t16 : a.tmps.toList.getD 16 undef = .pointer (some ⟨B, 0, none⟩)

theorem num_rounds (s : ByteArray) (h8 : s.size ≤ 8) (W0 : World) (B : Nat) (Q : Exit → Act → World → Prop)
    (hend : ∀ n a p w, Reads W0 s B p w → numF (ints s) 0 = some n → 0 ≤ n → n ≤ 4294967295 → Head n B a → Q (.exit 0) a w)
    (hbad : ∀ a p w, Reads W0 s B p w → numF (ints s) 0 = none → a.defers = [] → a.tmps.toList.getD 2 undef = .int .i64 0 → a.tmps.toList.getD 3 undef = .int .i64 1 → Q .ret a w) :
    ∀ d pos n a w, Reads W0 s B pos w → pos + d = s.size → 0 ≤ n → n < 16 ^ pos → numF (ints s) 0 = numF ((ints s).drop pos) n → Head n B a → Code.rounds Tryd.prog loopB Q (d + 1) a w := by
  have hlen : (ints s).length = s.size := by unfold ints; rw [List.length_map, Array.length_toList]; rfl
  intro d
  induction d with
  | zero =>
    intro pos n a w hw hpd h0 hn hF hH
    have hp : ¬ pos < s.size := by omega
    rw [rounds_succ]
    refine wp_seq ?_
    rw [num_r5]
    refine wp_region_list ?_
    refine wpList_value (V := .tuple #[.bool false]) (W' := w) rfl ?_ ?_
    · simp only [execOp, eval_tmp, hH.t16]
      exact run_v (run_next_over hw 0 hp)
    refine wpList_value (V := .bool false) (W' := w) rfl ?_ ?_
    · simp only [execOp, eval_tmp, getD_put (show 17 < a.tmps.size by rw [hH.size]; omega), if_true]
      exact run_v (by simp [Instr.extract])
    show Exit.then _ _ _ _ _
    simp only [Exit.then]
    refine wp_seq ?_
    rw [num_c5]
    refine wp_cond_false ?_ (wp_exit ?_)
    · rw [eval_tmp, getD_put (by rw [size_put, hH.size]; omega)]; rfl
    have h16 : (16 : Int) ^ pos ≤ 16 ^ 8 := by exact_mod_cast Nat.pow_le_pow_right (show 0 < 16 by omega) (show pos ≤ 8 by omega)
    have h168 : (16 : Int) ^ 8 = 4294967296 := by decide
    refine hend n _ pos w hw ?_ h0 (by omega) ⟨?_, hH.df, ?_, ?_⟩
    · rw [hF, List.drop_eq_nil_of_le (by omega)]; rfl
    · rw [size_put, size_put, hH.size]
    · rw [getD_put (by rw [size_put, hH.size]; omega), getD_put (by rw [hH.size]; omega)]; exact hH.t4
    · rw [getD_put (by rw [size_put, hH.size]; omega), getD_put (by rw [hH.size]; omega)]; exact hH.t16
  | succ d ih =>
    intro pos n a w hw hpd h0 hn hF hH
    have hp : pos < s.size := by omega
    obtain ⟨r, p, hr, hpp, hrun⟩ := run_next hw 0 hp
    have h16 : (16 : Int) ^ pos ≤ 16 ^ 7 := by exact_mod_cast Nat.pow_le_pow_right (show 0 < 16 by omega) (show pos ≤ 7 by omega)
    have h167 : (16 : Int) ^ 7 = 268435456 := by decide
    have hs16 : (16 : Int) ^ (pos + 1) = 16 ^ pos * 16 := Int.pow_succ _ _
    have hc : (ints s).drop pos = (ints s).getD pos 0 :: (ints s).drop (pos + 1) := by
      rw [List.drop_eq_getElem_cons (by omega), List.getD_eq_getElem?_getD, List.getElem?_eq_getElem (by omega)]; rfl
    have hcin := ints_in s ((ints s).getD pos 0) (by rw [List.getD_eq_getElem?_getD, List.getElem?_eq_getElem (by omega), Option.getD_some]; exact List.getElem_mem _)
    obtain ⟨c0, c1⟩ := hcin
    simp only [IntKind.min_u8, IntKind.max_u8] at c0 c1
    generalize (ints s).getD pos 0 = c at hc hr hpp c0 c1
    rw [hc] at hF
    simp only [numF] at hF
    rw [rounds_succ]
    refine wp_seq ?_
    rw [num_r5]
    refine wp_region_list ?_
    refine wpList_value (V := .tuple #[.bool true, .int .i64 pos, .int .i32 r]) (W' := { w with heap := w.heap.setIfInBounds B (.stringIter s p) }) rfl ?_ ?_
    · simp only [execOp, eval_tmp, hH.t16]
      exact run_v hrun
    refine wpList_value (V := .bool true) (W' := { w with heap := w.heap.setIfInBounds B (.stringIter s p) }) rfl ?_ ?_
    · simp only [execOp, eval_tmp, getD_put (show 17 < a.tmps.size by rw [hH.size]; omega), if_true]
      exact run_v (by simp [Instr.extract])
    show Exit.then _ _ _ _ _
    simp only [Exit.then]
    refine wp_seq ?_
    rw [num_c5]
    refine wp_cond_true ?_ (wp_skip ?_)
    · rw [eval_tmp, getD_put (by rw [size_put, hH.size]; omega)]; rfl
    simp only [Exit.then]
    have ok := (srcN n pos r (.pointer (some ⟨B, 0, none⟩))).ok
    have e4 : (srcN n pos r (.pointer (some ⟨B, 0, none⟩))).env.i .i64 0 = n := clip_of (k := .i64) (n := n) (in64 (by omega) (by omega))
    have er : (srcN n pos r (.pointer (some ⟨B, 0, none⟩))).env.i .i32 0 = r := clip_of hr.inn
    generalize hE : (srcN n pos r (.pointer (some ⟨B, 0, none⟩))).env = E at ok e4 er
    have ev : E.v 0 = .pointer (some ⟨B, 0, none⟩) := by rw [← hE]; rfl
    have has : AsmOk E asN := by rw [← hE]; exact asN_ok h0 (by omega)
    let Qs : XE × List SVal × Nat → Prop := fun q => (q.1 = .ret ∧ numF (ints s) 0 = none ∧ q.2.1[2]? = some (.v (.c (.i .i64 (.lit 0)))) ∧ q.2.1[3]? = some (.v (.c (.i .i64 (.lit 1))))) ∨
      (q.1 = .normal ∧ p = pos + 1 ∧ q.2.2 = 48 ∧ q.2.1[1]? = some (.val 0) ∧ ∃ x, q.2.1[0]? = some (.v (.c (.i .i64 x))) ∧ 0 ≤ x.den E ∧ x.den E < 16 ^ (pos + 1) ∧ numF (ints s) 0 = numF ((ints s).drop (pos + 1)) (x.den E))
    have hho : bodyT.holds E (fun q => Qs (slotsOf [4, 16, 2, 3] q)) := by
      refine WT.holds_of_map ?_
      rw [bodyT_eq]
      simp only [WT.holds, BExp.den, IExp.den, er, e4, decide_eq_true_eq]
      have hri := hr.inn
      obtain ⟨hr0, hr1⟩ := hri
      simp only [IntKind.min_i32, IntKind.max_i32] at hr0 hr1
      have hrc : r ≤ 102 → r = c := fun hh => by
        by_cases h128 : c < 128
        · exact hr.lo h128
        · have := hr.hi h128; omega
      have hcr : c < 128 → r = c := hr.lo
      split
      · rename_i h1
        have := hrc (by omega)
        refine .inl ⟨rfl, ?_, rfl, rfl⟩
        rw [hF, if_neg (by omega), if_neg (by omega)]
      · split
        · rename_i h1 h2
          have hrc := hrc (by omega)
          refine .inr ⟨rfl, hpp (by omega), rfl, rfl, _, rfl, ?_⟩
          simp only [IExp.den, binDen, e4, er]
          rw [wrap64 (show -9223372036854775808 ≤ n * 16 by omega) (by omega), wrap32 (show -2147483648 ≤ r + -48 by omega) (by omega), wrap64 (by omega) (by omega)]
          refine ⟨by omega, by omega, ?_⟩
          rw [hF, if_pos (by omega)]
          congr 1; omega
        · split
          · rename_i h1 h2 h3
            have := hrc (by omega)
            refine .inl ⟨rfl, ?_, rfl, rfl⟩
            rw [hF, if_neg (by omega), if_neg (by omega)]
          · split
            · rename_i h1 h2 h3 h4
              have hrc := hrc (by omega)
              refine .inr ⟨rfl, hpp (by omega), rfl, rfl, _, rfl, ?_⟩
              simp only [IExp.den, binDen, e4, er]
              rw [wrap64 (show -9223372036854775808 ≤ n * 16 by omega) (by omega), wrap32 (show -2147483648 ≤ r + -87 by omega) (by omega), wrap64 (by omega) (by omega)]
              refine ⟨by omega, by omega, ?_⟩
              rw [hF, if_neg (by omega), if_pos (by omega)]
              congr 1; omega
            · rename_i h1 h2 h3 h4
              have hc102 : ¬ c ≤ 102 := fun hh => by have := hcr (by omega); omega
              refine .inl ⟨rfl, ?_, rfl, rfl⟩
              rw [hF, if_neg (by omega), if_neg (by omega)]
    have hpl : planned Tryd.prog (plan.at 28).sch (sub (body 28) [true, true, true, false, true, false, false, true, true]) = true := by kernel_rfl
    have e41 : E.i .i64 1 = pos := by rw [← hE]; exact clip_of (k := .i64) (n := (pos : Int)) (in64 (by omega) (by omega))
    have hsz : ((a.put (some 17) (.tuple #[.bool true, .int .i64 pos, .int .i32 r])).put (some 18) (.bool true)).tmps.size = 48 := by rw [size_put, size_put, hH.size]
    have hRl : Rl E 0 0 [] ⟨48, [(4, .v (.c (.i .i64 (.var .i64 0)))), (16, .val 0), (17, .tup [.c (.b (.lit true)), .c (.i .i64 (.var .i64 1)), .c (.i .i32 (.var .i32 0))])], true⟩ ⟨[], asN⟩
        ((a.put (some 17) (.tuple #[.bool true, .int .i64 pos, .int .i32 r])).put (some 18) (.bool true)) { w with heap := w.heap.setIfInBounds B (.stringIter s p) } := by
      refine ⟨TmD.of_list (by rw [Array.length_toList, hsz]) ?_, hH.df, has, HRel.none _ _ _ (by rw [← hE]; rfl) (by rw [← hE]; rfl), fun g hg => absurd hg (Nat.not_lt_zero _)⟩
      intro q hq
      simp only [List.mem_cons, List.not_mem_nil, or_false] at hq
      rcases hq with rfl | rfl | rfl
      · rw [getD_put (by rw [size_put, hH.size]; omega), getD_put (by rw [hH.size]; omega)]
        show a.tmps.toList.getD 4 undef = .int .i64 (E.i .i64 0)
        rw [hH.t4, e4]
      · rw [getD_put (by rw [size_put, hH.size]; omega), getD_put (by rw [hH.size]; omega)]
        show a.tmps.toList.getD 16 undef = E.v 0
        rw [hH.t16, ev]
      · rw [getD_put (by rw [size_put, hH.size]; omega), getD_put (by rw [hH.size]; omega)]
        refine ⟨[.bool true, .int .i64 pos, .int .i32 r], rfl, _, _, rfl, rfl, _, _, rfl, ?_, _, _, rfl, ?_, rfl⟩
        · exact congrArg _ e41.symm
        · exact congrArg _ er.symm
    refine code ok (TabOk.none _ _ _ _) 1000 (plan.at 28) 0 _ _ _ _ hpl (LtAll.none (fun _ => rfl) _) (Nat.le_refl _) hho [] _ _ _ hRl fun ex tm' st' hz ρ' a' W' hp' hR' => ?_
    have hw2 := (hw.set p).keep (show RowKit.Below _ _ W' from ⟨hp'.fr.os, hp'.fr.tape, hp'.fr.output, hp'.fr.size, fun k hk => hp'.fr.same k hk (by rintro ⟨o, hm⟩; simp at hm)⟩)
    rcases hz with ⟨hex, hnone, h2, h3⟩ | ⟨hex, hpp2, hn48, h16', x, hx, hx0, hx1, hxF⟩
    · simp only [slotsOf] at hex
      subst hex
      refine hbad a' p W' hw2 hnone hR'.df ?_ ?_
      · exact hR'.tm.slot (by simpa [slotsOf] using h2)
      · exact hR'.tm.slot (by simpa [slotsOf] using h3)
    · simp only [slotsOf] at hex
      subst hex hpp2
      simp only [XE.to, Exit.then]
      refine ih (pos + 1) (x.den E) a' W' hw2 (by omega) hx0 hx1 hxF ⟨?_, hR'.df, ?_, ?_⟩
      · have := hR'.tm.1
        simp only [slotsOf] at hn48
        rw [hn48] at this
        simpa using this.symm
      · exact hR'.tm.slot (by simpa [slotsOf] using hx)
      · rw [← ev]
        exact hR'.tm.slot (x := .val 0) (by simpa [slotsOf] using h16')

def srcS (l : List Int) (v4 : Int) : Src :=
  { i := fun k => match k with
      | .i64 => [v4]
      | _ => [],
    b := [],
    a := fun k j => match k, j with
      | .u8, 0 => l
      | _, _ => [] }
def tmS (l : List (Nat × SVal)) : Tm := ⟨48, (0, .v (.c (.s (.var .u8 0)))) :: l, true⟩
theorem numA : (xCode Tryd.prog 0 plan (fun _ _ _ _ => none) 1000 (plan.at 28) 0 (sub (body 28) [false]) (tmS []) ⟨[], []⟩).map (slotsOf [0, 2, 3]) =
    .leaf (.normal, [.v (.c (.s (.var .u8 0))), .v (.c (.i .i64 (.lit 0))), .v (.c (.i .i64 (.lit 0)))], 48) := by kernel_rfl
theorem numB : (xCode Tryd.prog 0 plan (fun _ _ _ _ => none) 1000 (plan.at 28) 0 (sub (body 28) [true, false]) (tmS [(2, .v (.c (.i .i64 (.lit 0)))), (3, .v (.c (.i .i64 (.lit 0))))]) ⟨[], []⟩).map (slotsOf [0, 2, 3]) =
    .node (.le (.len (.var .u8 0)) (.lit 0)) (.leaf (.ret, [.v (.c (.s (.var .u8 0))), .v (.c (.i .i64 (.lit 0))), .v (.c (.i .i64 (.lit 1)))], 48))
      (.node (.le (.len (.var .u8 0)) (.lit 8)) (.leaf (.normal, [.v (.c (.s (.var .u8 0))), .v (.c (.i .i64 (.lit 0))), .v (.c (.i .i64 (.lit 0)))], 48))
        (.leaf (.ret, [.v (.c (.s (.var .u8 0))), .v (.c (.i .i64 (.lit 0))), .v (.c (.i .i64 (.lit 1)))], 48))) := by kernel_rfl
theorem numC : (xCode Tryd.prog 0 plan (fun _ _ _ _ => none) 1000 (plan.at 28) 0 (sub (body 28) [true, true, false]) (tmS []) ⟨[], []⟩).map (slotsOf [0, 4]) =
    .leaf (.normal, [.v (.c (.s (.var .u8 0))), .v (.c (.i .i64 (.lit 0)))], 48) := by kernel_rfl
theorem numD : (xCode Tryd.prog 0 plan (fun _ _ _ _ => none) 1000 (plan.at 28) 0 (sub (body 28) [true, true, true, true]) ⟨48, [(4, .v (.c (.i .i64 (.var .i64 0))))], true⟩ ⟨[], []⟩).map (slotsOf [2, 3]) =
    .leaf (.ret, [.v (.c (.i .i64 (.var .i64 0))), .v (.c (.i .i64 (.lit 0)))], 48) := by kernel_rfl
end Go.Proofs.YtofphikiadiogaaDoor.Bits
