/- A small symbolic executor for loop-free Go code: the operations that look at no memory. -/
import Derived.Test.YtbkkeedanfmfeaaDoorSxOps
namespace Go.Proofs.YtbkkeedanfmfeaaDoor.Sx
open Go

def spart (P : Program) (l : List Seg) (t : TypeId) (off : Nat) : Option SV :=
  match P.underlying t with
  | some d =>
    if isAggD d then
      match P.info? t with
      | some i => (readSegs l off i.size).map .agg
      | none => none
    else (readAt l off).map .c
  | none => none

theorem cellsOf_eq {P : Program} {t : TypeId} {i : TypeInfo} (h : P.info? t = some i) : P.cellsOf t = i.size := by simp [Program.cellsOf, h]

theorem spart_ok {e : Env} {ρ : List Nat} {P : Program} {l : List Seg} {vs : List Value} {t : TypeId} {off : Nat} {x : SV} (hl : SegsD e ρ l vs) (h : spart P l t off = some x) :
    ∃ V, x.D e ρ V ∧ ∀ w, (part t vs.toArray off).run P w = .ok V w := by
  unfold spart at h
  split at h
  · rename_i d hd
    split at h
    · rename_i ha
      split at h
      · rename_i i hi
        simp only [Option.map_eq_some_iff] at h
        obtain ⟨q, hq, rfl⟩ := h
        have := readSegs_ok hl hq
        refine ⟨.agg ((vs.drop off).take i.size).toArray, ⟨_, rfl, this.2⟩, fun w => ?_⟩
        simp [part, run_isAgg hd, ha, run_sizeOf' hi, cellsOf_eq hi]
      · cases h
    · rename_i ha
      simp only [Option.map_eq_some_iff] at h
      obtain ⟨q, hq, rfl⟩ := h
      obtain ⟨v, hv, hx⟩ := readAt_ok hl hq
      exact ⟨v, hx, fun w => by simp [part, run_isAgg hd, ha, hv]⟩
  · cases h

/-- Element i of n elements of so many cells, from an address on. -/
def sindex (as : Asm) (a : Ad) (n size : Nat) (i : IExp) : Tree (Ad × Asm) :=
  match a.ix with
  | some _ => .stop
  | none =>
    match isLit i with
    | some m => if 0 ≤ m ∧ m < n then .leaf (⟨a.b, a.off + m.toNat * size, none⟩, as) else .stop
    | none =>
      if size = 1 then
        (fork as (mkLe (.lit 0) i)).bind fun r => if r.1 then (fork r.2 (mkLt i (.lit n))).bind fun q => if q.1 then .leaf (⟨a.b, a.off, some (i, n)⟩, q.2) else .stop else .stop
      else .stop

theorem addr_add (b o n : Nat) : (⟨b, o, none⟩ : Addr).add n = ⟨b, o + n, none⟩ := Addr.add_lit b o n

theorem sindex_ok {e : Env} (ok : EnvOk e) {ρ : List Nat} {as as' : Asm} (ha : AsmOk e as) {a x : Ad} {A : Addr} {n size : Nat} {i : IExp} (hA : a.D e ρ A) (h : (sindex as a n size i).pick e = some (x, as')) :
    AsmOk e as' ∧ 0 ≤ i.den e ∧ i.den e < n ∧ x.D e ρ (A.add ((i.den e).toNat * size)) := by
  unfold sindex at h
  obtain ⟨b', hb, hA⟩ := hA
  split at h
  · cases h
  · rename_i hix
    rw [hix] at hA
    simp only at hA
    subst hA
    split at h
    · rename_i m hm
      have := isLit_eq hm
      subst this
      split at h
      · rename_i hb2
        have h2 := leaf_inv h
        cases h2
        refine ⟨ha, by rw [litD]; exact hb2.1, by rw [litD]; exact hb2.2, b', hb, ?_⟩
        simp only [litD, addr_add]
      · cases h
    · split at h
      · rename_i hs
        subst hs
        obtain ⟨⟨c, as1⟩, h1, h2⟩ := Tree.pick_bind h
        have f1 := fork_ok ok ha h1
        cases c with
        | false => simp [Tree.pick] at h2
        | true =>
          simp only [if_true] at h2
          obtain ⟨⟨c2, as2⟩, h3, h4⟩ := Tree.pick_bind h2
          have f2 := fork_ok ok f1.2 h3
          cases c2 with
          | false => simp [Tree.pick] at h4
          | true =>
            simp only [if_true] at h4
            have h4 := leaf_inv h4
            cases h4
            have g1 := f1.1
            have g2 := f2.1
            rw [mkLe_den, litD] at g1
            rw [mkLt_den, litD] at g2
            have g1 := of_decide_eq_true g1
            have g2 := of_decide_eq_true g2
            exact ⟨f2.2, g1, g2, b', hb, g1, g2, by simp only [addr_add, Nat.mul_one]⟩
      · cases h

def T1 {α : Type} (as : Asm) : Option α → Tree (α × Asm)
  | some x => .leaf (x, as)
  | none => .stop
theorem T1_inv {α : Type} {e : Env} {as as' : Asm} {o : Option α} {x : α} (h : (T1 as o).pick e = some (x, as')) : o = some x ∧ as' = as := by
  cases o with
  | none => cases h
  | some y => have := leaf_inv h; cases this; exact ⟨rfl, rfl⟩

/-- An array value's element at an index that is not known. -/
def sindexV (P : Program) (as : Asm) (l : List Seg) (len : Nat) (el : TypeId) (size : Nat) (i : IExp) : Tree (SVal × Asm) :=
  match P.underlying el with
  | some d =>
    if isAggD d then .stop
    else if size = 1 then
      (fork as (mkLe (.lit 0) i)).bind fun r => if r.1 then (fork r.2 (mkLt i (.lit len))).bind fun q => if q.1 then T1 q.2 ((readIx l 0 i len).map fun c => .v (.c c)) else .stop else .stop
    else .stop
  | none => .stop
theorem sindexV_ok {e : Env} (ok : EnvOk e) {ρ : List Nat} {P : Program} {as as' : Asm} (ha : AsmOk e as) {l : List Seg} {vs : List Value} {len : Nat} {el : TypeId} {size : Nat} {i : IExp} {x : SVal} (hl : SegsD e ρ l vs)
    (h : (sindexV P as l len el size i).pick e = some (x, as')) :
    AsmOk e as' ∧ 0 ≤ i.den e ∧ i.den e < len ∧ ∃ V, x.D e ρ V ∧ ∀ w, (part el vs.toArray ((i.den e).toNat * size)).run P w = .ok V w := by
  unfold sindexV at h
  split at h
  · rename_i d hd
    split at h
    · cases h
    · rename_i hagg
      split at h
      · rename_i hs
        subst hs
        obtain ⟨⟨c, as1⟩, h1, h2⟩ := Tree.pick_bind h
        have f1 := fork_ok ok ha h1
        cases c with
        | false => simp [Tree.pick] at h2
        | true =>
          simp only [if_true] at h2
          obtain ⟨⟨c2, as2⟩, h3, h4⟩ := Tree.pick_bind h2
          have f2 := fork_ok ok f1.2 h3
          cases c2 with
          | false => simp [Tree.pick] at h4
          | true =>
            simp only [if_true] at h4
            obtain ⟨h5, rfl⟩ := T1_inv h4
            simp only [Option.map_eq_some_iff] at h5
            obtain ⟨c, hc, rfl⟩ := h5
            have g1 := f1.1
            have g2 := f2.1
            rw [mkLe_den, litD] at g1
            rw [mkLt_den, litD] at g2
            have g1 := of_decide_eq_true g1
            have g2 := of_decide_eq_true g2
            obtain ⟨v, hv, hx⟩ := readIx_ok g1 g2 hl hc
            refine ⟨f2.2, g1, g2, v, hx, fun w => ?_⟩
            rw [Nat.zero_add] at hv
            simp [part, run_isAgg hd, hagg, hv]
      · cases h
  · cases h

def evalCaps (G : Nat) (tmps : Tm) : List Operand → Option (List Ad)
  | [] => some []
  | o :: r => match asCell (seval G tmps o), evalCaps G tmps r with
    | some (.p (some a)), some l => some (a :: l)
    | _, _ => none
theorem evalCaps_ok {e : Env} {ρ : List Nat} {G : Nat} (hG : Glob G ρ) {tmps : Tm} {a : Act} (ht : TmD e ρ tmps a.tmps.toList) : ∀ {os : List Operand} {l : List Ad}, evalCaps G tmps os = some l → AdsD e ρ l (os.map a.eval)
  | [], l, h => by simp only [evalCaps, Option.some.injEq] at h; subst h; rfl
  | o :: r, l, h => by
    simp only [evalCaps] at h
    split at h
    · rename_i x q h1 h2
      cases h
      obtain ⟨A, hA, hv⟩ := evalCell hG ht h1
      exact ⟨A, _, hA, by rw [List.map_cons, hv], evalCaps_ok hG ht h2⟩
    · cases h

def spure (P : Program) (G : Nat) (tmps : Tm) (as : Asm) (op : Op) : Tree (SVal × Asm) :=
  match op with
  | .move x => T1 as (seval G tmps x)
  | .assign x => T1 as (seval G tmps x)
  | .pick c a b =>
    match asCell (seval G tmps c) with
    | some (.b x) => (fork as x).bind fun r => if r.1 then T1 r.2 (seval G tmps a) else T1 r.2 (seval G tmps b)
    | _ => .stop
  | .nilCheck x =>
    match asCell (seval G tmps x) with
    | some (.p (some a)) => .leaf (.v (.c (.p (some a))), as)
    | some (.fn f caps) => .leaf (.v (.c (.fn f caps)), as)
    | _ => .stop
  | .binOp op t x y _ =>
    match asSV (seval G tmps x), asSV (seval G tmps y) with
    | some (.c a), some (.c b) => (sbin P as op t a b).bind fun r => .leaf (.v (.c r.1), r.2)
    | some (.agg l), some (.agg l') =>
      if P.eqGuardType P.depth t || !((P.underlying t).map isAggD).getD false then .stop
      else
        match leaves P 10000 t, segKinds l, segKinds l' with
        | some L, some K, some K' =>
          if lfsSame L K && lfsSame L K' then
            match op with
            | .eql => (cmpSegs (2 * (segsLen l + segsLen l') + 10) as l l').bind fun q => .leaf (.v (.c (.b (.lit q.1))), q.2)
            | .neq => (cmpSegs (2 * (segsLen l + segsLen l') + 10) as l l').bind fun q => .leaf (.v (.c (.b (.lit (!q.1)))), q.2)
            | _ => .stop
          else .stop
        | _, _, _ => .stop
    | _, _ => .stop
  | .unOp op _ x =>
    match asCell (seval G tmps x), op with
    | some (.b x), .not => .leaf (.v (.c (.b (mkNot x))), as)
    | some (.i k x), .neg => .leaf (.v (.c (.i k (mkBin .sub k (.lit 0) x))), as)
    | _, _ => .stop
  | .convert s d x =>
    match asCell (seval G tmps x), P.underlying s, P.underlying d with
    | some (.i _ x), some _, some (.int k) => .leaf (.v (.c (.i k (mkConv as k x))), as)
    | _, _, _ => .stop
  | .makeFunc fn first captured =>
    match fn, first.toList, evalCaps G tmps captured.toList with
    | .func f, [], some l => .leaf (.v (.c (.fn f l)), as)
    | _, _, _ => .stop
  | .build t parts =>
    match evalParts G tmps parts.toList with
    | some ps => T1 as ((sbuild P t ps).map fun l => .v (.agg l))
    | none => .stop
  | .fieldAddr t x f =>
    match asCell (seval G tmps x), P.underlying t with
    | some (.p (some a)), some (.struct fs) =>
      match fs[f]?, a.ix with
      | some fl, none =>
        match P.info? fl.type with
        | some i => if i.size = 0 then .stop else .leaf (.v (.c (.p (some ⟨a.b, a.off + fl.offset, none⟩))), as)
        | none => .stop
      | _, _ => .stop
    | _, _ => .stop
  | .indexAddr t x ix =>
    match asCell (seval G tmps x), asCell (seval G tmps ix), P.underlying t with
    | some (.p (some a)), some (.i _ i), some (.array len el) =>
      match P.info? el with
      | some ie => (sindex as a len ie.size i).bind fun r => .leaf (.v (.c (.p (some r.1))), r.2)
      | none => .stop
    | some (.sl (some a) len _), some (.i _ i), some (.slice el) =>
      match P.info? el with
      | some ie => (sindex as a len ie.size i).bind fun r => .leaf (.v (.c (.p (some r.1))), r.2)
      | none => .stop
    | _, _, _ => .stop
  | .index t x ix =>
    match asSV (seval G tmps x), asCell (seval G tmps ix), P.underlying t with
    | some (.agg l), some (.i _ i), some (.array len el) =>
      match P.info? el, isLit i with
      | some ie, some m => if 0 ≤ m ∧ m < len then T1 as ((spart P l el (m.toNat * ie.size)).map .v) else .stop
      | some ie, none => sindexV P as l len el ie.size i
      | _, _ => .stop
    | _, _, _ => .stop
  | .field t x f =>
    match asSV (seval G tmps x), P.underlying t with
    | some (.agg l), some (.struct fs) =>
      match fs[f]? with
      | some fl => T1 as ((spart P l fl.type fl.offset).map .v)
      | none => .stop
    | _, _ => .stop
  | .extract x i =>
    match seval G tmps x with
    | some (.tup l) => T1 as ((l[i]?).map .v)
    | _ => .stop
  | .call c =>
    match c.callee, c.args.toList, (c.argTypes[0]?).bind P.underlying with
    | .builtin .len, [o], some (.slice _) =>
      match asCell (seval G tmps o) with
      | some (.sl _ n _) => .leaf (.v (.c (.i .i64 (.lit n))), as)
      | _ => .stop
    | .builtin .len, [o], some .string =>
      match asCell (seval G tmps o) with
      | some (.s x) => .leaf (.v (.c (.i .i64 (.lit x.size))), as)
      | _ => .stop
    | _, _, _ => .stop
  | _ => .stop

theorem run_v {P : Program} {s : Sem Value} {w w' : World} {V : Value} (h : s.run P w = .ok V w') : (do pure (Next.value (← s)) : Sem Next).run P w = .ok (.value V) w' := by
  rw [Sem.run_bind, h]; rfl

theorem SVsD.get {e : Env} {ρ : List Nat} : ∀ {l : List SV} {vs : List Value} {i : Nat} {x : SV}, SVsD e ρ l vs → l[i]? = some x → ∃ v, vs[i]? = some v ∧ x.D e ρ v
  | [], _, _, _, _, h => by simp at h
  | y :: r, _, 0, x, ⟨v, vs', h1, h2, _⟩, h => by subst h1; simp at h; subst h; exact ⟨v, rfl, h2⟩
  | y :: r, _, i + 1, x, ⟨v, vs', h1, _, h3⟩, h => by
    subst h1
    obtain ⟨u, hu, hx⟩ := SVsD.get h3 (by simpa using h)
    exact ⟨u, by simpa using hu, hx⟩

theorem spure_ok {e : Env} (ok : EnvOk e) {P : Program} {ρ : List Nat} {G : Nat} (hG : Glob G ρ) {tmps : Tm} {a : Act} (ht : TmD e ρ tmps a.tmps.toList) {as as' : Asm} (ha : AsmOk e as) {o : Oper} {x : SVal}
    (h : (spure P G tmps as o.op).pick e = some (x, as')) : AsmOk e as' ∧ ∃ V, x.D e ρ V ∧ ∀ w, (execOp a.eval o).run P w = .ok (.value V) w := by
  obtain ⟨dst, op, ty, pos, after, guard⟩ := o
  simp only at h
  cases op <;> simp only [spure] at h <;> simp only [execOp]
  case move y =>
    obtain ⟨h1, rfl⟩ := T1_inv h
    exact ⟨ha, _, seval_ok hG ht h1, fun w => rfl⟩
  case assign y =>
    obtain ⟨h1, rfl⟩ := T1_inv h
    exact ⟨ha, _, seval_ok hG ht h1, fun w => rfl⟩
  case pick c y z =>
    split at h
    · rename_i b hb
      have hc := evalCell hG ht hb
      obtain ⟨⟨q, as1⟩, h1, h2⟩ := Tree.pick_bind h
      have hf := fork_ok ok ha h1
      cases q with
      | true =>
        simp only [if_true] at h2
        obtain ⟨h3, rfl⟩ := T1_inv h2
        refine ⟨hf.2, _, seval_ok hG ht h3, fun w => ?_⟩
        simp only [Cell.D, hf.1] at hc
        simp [hc, asBool]
      | false =>
        simp only [Bool.false_eq_true, if_false] at h2
        obtain ⟨h3, rfl⟩ := T1_inv h2
        refine ⟨hf.2, _, seval_ok hG ht h3, fun w => ?_⟩
        simp only [Cell.D, hf.1] at hc
        simp [hc, asBool]
    · cases h
  case nilCheck y =>
    split at h
    · rename_i b hb
      have hc := evalCell hG ht hb
      have h2 := leaf_inv h
      cases h2
      obtain ⟨A, hA, hv⟩ := hc
      exact ⟨ha, _, ⟨A, hA, rfl⟩, fun w => by rw [hv]; rfl⟩
    · rename_i f caps hb
      have hc := evalCell hG ht hb
      have h2 := leaf_inv h
      cases h2
      obtain ⟨vs, hA, hv⟩ := hc
      exact ⟨ha, _, ⟨vs, hA, rfl⟩, fun w => by rw [hv]; rfl⟩
    · cases h
  case binOp op t y z yt =>
    split at h
    · rename_i c1 c2 h1 h2
      obtain ⟨⟨r, as1⟩, h3, h4⟩ := Tree.pick_bind h
      have h4 := leaf_inv h4
      cases h4
      obtain ⟨q1, V, hV, hrun⟩ := sbin_ok ok ha (evalSV hG ht h1) (evalSV hG ht h2) y z h3
      exact ⟨q1, V, hV, fun w => run_v (hrun w)⟩
    · rename_i l l' h1 h2
      split at h
      · cases h
      · rename_i hg
        simp only [Bool.or_eq_true, not_or, Bool.not_eq_true, Bool.not_eq_false'] at hg
        obtain ⟨hg1, hg2⟩ := hg
        split at h
        · rename_i L K K' hL hK hK'
          split at h
          · rename_i hs
            simp only [Bool.and_eq_true] at hs
            have e1 := lfsSame_eq hs.1
            have e2 := lfsSame_eq hs.2
            subst e1
            subst e2
            obtain ⟨vs, hv, d1⟩ := evalSV hG ht h1
            obtain ⟨ws, hw, d2⟩ := evalSV hG ht h2
            have k1 := segKinds_ok d1 hK
            have k2 := segKinds_ok d2 hK'
            obtain ⟨d', hd', _⟩ := leaves_ul _ _ _ hL
            have hm : ∀ xs, mkv P t xs = .agg xs.toArray := by
              intro xs; unfold mkv
              rw [hd'] at hg2 ⊢
              cases d' <;> first | rfl | (simp [isAggD] at hg2)
            have key : ∀ w, ∃ b, (Op.equalIn 10000 t (.agg vs.toArray) (.agg ws.toArray)).run P w = .ok b w ∧ (b = true ↔ vs = ws) := by
              intro w
              have := equalIn_ok 10000 t L vs ws hL k1 k2 w
              rwa [hm, hm] at this
            have hgd : ∀ op', ∀ w, (eqGuard op' t y z (.agg vs.toArray) (.agg ws.toArray)).run P w = .ok () w := fun op' w => run_eqGuard_agg w op' t y z _ _ hg1
            rw [hv, hw]
            split at h
            · obtain ⟨⟨b, as1⟩, h3, h4⟩ := Tree.pick_bind h
              have h4 := leaf_inv h4
              cases h4
              have hc := cmpSegs_ok ok ha d1 d2 h3
              refine ⟨hc.2, _, rfl, fun w => run_v ?_⟩
              obtain ⟨b2, hb2, hbi⟩ := key w
              have : b2 = b := by rw [Bool.eq_iff_iff, hbi, hc.1]
              subst this
              rw [Sem.run_bind, hgd, Result.andThen_ok, run_eql_struct, hb2]; rfl
            · obtain ⟨⟨b, as1⟩, h3, h4⟩ := Tree.pick_bind h
              have h4 := leaf_inv h4
              cases h4
              have hc := cmpSegs_ok ok ha d1 d2 h3
              refine ⟨hc.2, _, rfl, fun w => run_v ?_⟩
              obtain ⟨b2, hb2, hbi⟩ := key w
              have : b2 = b := by rw [Bool.eq_iff_iff, hbi, hc.1]
              subst this
              rw [Sem.run_bind, hgd, Result.andThen_ok, run_neq_struct, hb2]; rfl
            · cases h
          · cases h
        · cases h
    · cases h
  case unOp op t y =>
    split at h
    · rename_i b hb
      have hc := evalCell hG ht hb
      have h2 := leaf_inv h
      cases h2
      simp only [Cell.D] at hc
      exact ⟨ha, _, rfl, fun w => run_v (by rw [hc]; simp [Op.unary, mkNot_den])⟩
    · rename_i k b hb
      have hc := evalCell hG ht hb
      have h2 := leaf_inv h
      cases h2
      simp only [Cell.D] at hc
      exact ⟨ha, _, rfl, fun w => run_v (by rw [hc]; simp [Op.unary, Op.intArith, mkBin_den, binDen, litD])⟩
    · cases h
  case convert s d y =>
    split at h
    · rename_i k0 b u k hb h1 h2
      have hc := evalCell hG ht hb
      have h2' := leaf_inv h
      cases h2'
      simp only [Cell.D] at hc
      refine ⟨ha, _, rfl, fun w => run_v ?_⟩
      rw [hc, mkConv_den ok ha]
      unfold convert
      simp only [Sem.run_bind, run_underlying h1, run_underlying h2, Result.andThen_ok]
      cases u <;> rfl
    · cases h
  case makeFunc fn first captured =>
    split at h
    · rename_i f l h1 h2
      have h3 := leaf_inv h
      cases h3
      have hc := evalCaps_ok hG ht h2
      have hf : first = #[] := by cases first; simp_all
      subst hf
      refine ⟨ha, _, ⟨_, hc, rfl⟩, fun w => run_v ?_⟩
      have e1 : captured.map a.eval = (List.map a.eval captured.toList).toArray := by apply Array.ext'; simp
      rw [e1]
      simp [Instr.makeFunc]
    · cases h
  case build t parts =>
    split at h
    · rename_i ps h1
      obtain ⟨h2, rfl⟩ := T1_inv h
      simp only [Option.map_eq_some_iff] at h2
      obtain ⟨l, hl, rfl⟩ := h2
      have hp := evalParts_ok hG ht h1
      obtain ⟨cs, hb, hd⟩ := sbuild_ok hp hl
      refine ⟨ha, _, ⟨cs.toList, rfl, hd⟩, fun w => run_v ?_⟩
      refine run_build w t _ _ ?_
      simpa using hb
    · cases h
  case fieldAddr t y f =>
    split at h
    · rename_i ad fs h1 h2
      split at h
      · rename_i fl hf hix
        split at h
        · rename_i i hi
          split at h
          · cases h
          · rename_i hz
            have h3 := leaf_inv h
            cases h3
            obtain ⟨A, ⟨b', hb, hA⟩, hv⟩ := evalCell hG ht h1
            rw [hix] at hA
            simp only at hA
            subst hA
            refine ⟨ha, _, ⟨⟨b', ad.off + fl.offset, none⟩, ⟨b', hb, rfl⟩, rfl⟩, fun w => run_v ?_⟩
            have hsz : P.cellsOf fl.type ≠ 0 := by rw [cellsOf_eq hi]; exact hz
            rw [hv]
            simp [Instr.fieldAt, run_underlying h2, hf, Instr.sureAddr, fieldPlace, run_sizeOf' hi, hsz, addr_add]
        · cases h
      · cases h
    · cases h
  case indexAddr t y z =>
    split at h
    · rename_i ad k i len el h1 h2 h3
      split at h
      · rename_i ie hie
        obtain ⟨⟨x1, as1⟩, h4, h5⟩ := Tree.pick_bind h
        have h5 := leaf_inv h5
        cases h5
        obtain ⟨A, hA, hv⟩ := evalCell hG ht h1
        have hi := evalCell hG ht h2
        simp only [Cell.D] at hi
        obtain ⟨q1, q2, q3, q4⟩ := sindex_ok ok ha hA h4
        refine ⟨q1, _, ⟨_, q4, rfl⟩, fun w => run_v ?_⟩
        rw [hv, hi]
        simp [Instr.indexAt, run_underlying h3, asIntOf, Instr.sureAddr, q2, q3, run_sizeOf' hie, cellsOf_eq hie]
      · cases h
    · rename_i ad len cap k i el h1 h2 h3
      split at h
      · rename_i ie hie
        obtain ⟨⟨x1, as1⟩, h4, h5⟩ := Tree.pick_bind h
        have h5 := leaf_inv h5
        cases h5
        obtain ⟨A, hA, hv⟩ := evalCell hG ht h1
        have hi := evalCell hG ht h2
        simp only [Cell.D] at hi
        obtain ⟨q1, q2, q3, q4⟩ := sindex_ok ok ha hA h4
        refine ⟨q1, _, ⟨_, q4, rfl⟩, fun w => run_v ?_⟩
        rw [hv, hi]
        simp [Instr.indexAt, run_underlying h3, asIntOf, q2, q3, run_sizeOf' hie, cellsOf_eq hie]
      · cases h
    · cases h
  case index t y z =>
    split at h
    · rename_i l k i len el h1 h2 h3
      split at h
      · rename_i ie m hie hm
        split at h
        · rename_i hb
          obtain ⟨h4, rfl⟩ := T1_inv h
          simp only [Option.map_eq_some_iff] at h4
          obtain ⟨sv, hsv, rfl⟩ := h4
          obtain ⟨vs, hv, hd⟩ := evalSV hG ht h1
          have hi := evalCell hG ht h2
          simp only [Cell.D] at hi
          have := isLit_eq hm
          subst this
          rw [litD] at hi
          obtain ⟨V, hV, hrun⟩ := spart_ok (P := P) hd hsv
          refine ⟨ha, V, hV, fun w => run_v ?_⟩
          rw [hv, hi]
          have := hrun w
          simp [Instr.index, run_underlying h3, asIntOf, hb.1, hb.2, run_sizeOf' hie, cellsOf_eq hie, this]
        · cases h
      · rename_i ie hie hm
        obtain ⟨vs, hv, hd⟩ := evalSV hG ht h1
        have hi := evalCell hG ht h2
        simp only [Cell.D] at hi
        obtain ⟨q1, q2, q3, V, hV, hrun⟩ := sindexV_ok ok ha hd h
        refine ⟨q1, V, hV, fun w => run_v ?_⟩
        rw [hv, hi]
        have := hrun w
        simp [Instr.index, run_underlying h3, asIntOf, q2, q3, run_sizeOf' hie, cellsOf_eq hie, this]
      · cases h
    · cases h
  case field t y f =>
    split at h
    · rename_i l fs h1 h2
      split at h
      · rename_i fl hf
        obtain ⟨h4, rfl⟩ := T1_inv h
        simp only [Option.map_eq_some_iff] at h4
        obtain ⟨sv, hsv, rfl⟩ := h4
        obtain ⟨vs, hv, hd⟩ := evalSV hG ht h1
        obtain ⟨V, hV, hrun⟩ := spart_ok (P := P) hd hsv
        refine ⟨ha, V, hV, fun w => run_v ?_⟩
        rw [hv]
        have := hrun w
        simp [Instr.field, run_underlying h2, hf, asAgg, this]
      · cases h
    · cases h
  case extract y i =>
    split at h
    · rename_i l h1
      obtain ⟨h4, rfl⟩ := T1_inv h
      simp only [Option.map_eq_some_iff] at h4
      obtain ⟨sv, hsv, rfl⟩ := h4
      obtain ⟨vs, hv, hd⟩ := seval_ok hG ht h1
      obtain ⟨v, hv2, hd2⟩ := SVsD.get hd hsv
      refine ⟨ha, v, hd2, fun w => run_v ?_⟩
      rw [hv]
      simp [Instr.extract, hv2]
    · cases h
  case call c =>
    obtain ⟨callee, args, argTypes⟩ := c
    simp only at h
    split at h
    · rename_i td o' el hargs hty
      split at h
      · rename_i aa n cc hcell
        have h2 := leaf_inv h
        cases h2
        have hd := evalCell hG ht hcell
        have hargs' : args = #[o'] := by cases args; simp_all
        subst hargs'
        obtain ⟨t0, ht0, hu⟩ := Option.bind_eq_some_iff.1 hty
        have hsl : ∃ A, a.eval o' = .slice A n cc := by
          cases aa with
          | none => exact ⟨none, hd⟩
          | some q => obtain ⟨A, _, hv⟩ := hd; exact ⟨some A, hv⟩
        obtain ⟨A, hsl⟩ := hsl
        refine ⟨ha, _, rfl, fun w => ?_⟩
        simp [resolve, invoke, builtin, Builtin.len_, ht0, hsl, run_underlying hu, litD, goInt]
      · cases h
    · rename_i td o' hargs hty
      split at h
      · rename_i s hcell
        have h2 := leaf_inv h
        cases h2
        have hd := evalCell hG ht hcell
        have hargs' : args = #[o'] := by cases args; simp_all
        subst hargs'
        obtain ⟨t0, ht0, hu⟩ := Option.bind_eq_some_iff.1 hty
        simp only [Cell.D] at hd
        refine ⟨ha, _, rfl, fun w => ?_⟩
        simp [resolve, invoke, builtin, Builtin.len_, ht0, hd, run_underlying hu, litD, goInt]
      · cases h
    · cases h
  all_goals (exfalso; cases h)
end Go.Proofs.YtbkkeedanfmfeaaDoor.Sx
