/- A small symbolic executor for loop-free Go code: loads, stores, new blocks, calls. -/
import Derived.Test.YtbkkeedanfmfeaaDoorSxPure
import Derived.Great.BuildSlice
namespace Go.Proofs.YtbkkeedanfmfeaaDoor.Sx
open Go

/-! ### What a symbolic value stands for is one value -/
theorem Ad.D_fun {e : Env} {ρ : List Nat} {a : Ad} {A B : Addr} (h : a.D e ρ A) (k : a.D e ρ B) : A = B := by
  obtain ⟨b, hb, h⟩ := h
  obtain ⟨b2, hb2, k⟩ := k
  rw [hb] at hb2
  cases hb2
  cases hix : a.ix with
  | none => rw [hix] at h k; simp only at h k; rw [h, k]
  | some q => rw [hix] at h k; simp only at h k; rw [h.2.2, k.2.2]
theorem AdsD.fun' {e : Env} {ρ : List Nat} : ∀ {l : List Ad} {vs ws : List Value}, AdsD e ρ l vs → AdsD e ρ l ws → vs = ws
  | [], _, _, h, k => by cases h; cases k; rfl
  | _ :: _, _, _, ⟨A, v', h1, h2, h3⟩, ⟨B, w', k1, k2, k3⟩ => by rw [h2, k2, Ad.D_fun h1 k1, AdsD.fun' h3 k3]
theorem Cell.D_fun {e : Env} {ρ : List Nat} {x : Cell} {v w : Value} (h : x.D e ρ v) (k : x.D e ρ w) : v = w := by
  cases x with
  | p a => cases a with
    | none => cases h; cases k; rfl
    | some a => obtain ⟨A, h1, rfl⟩ := h; obtain ⟨B, k1, rfl⟩ := k; rw [Ad.D_fun h1 k1]
  | sl a l c => cases a with
    | none => cases h; cases k; rfl
    | some a => obtain ⟨A, h1, rfl⟩ := h; obtain ⟨B, k1, rfl⟩ := k; rw [Ad.D_fun h1 k1]
  | fn f caps => obtain ⟨A, h1, rfl⟩ := h; obtain ⟨B, k1, rfl⟩ := k; rw [AdsD.fun' h1 k1]
  | _ => cases h; cases k; rfl
theorem SegsD.fun' {e : Env} {ρ : List Nat} : ∀ {l : List Seg} {vs ws : List Value}, SegsD e ρ l vs → SegsD e ρ l ws → vs = ws
  | [], _, _, h, k => by cases h; cases k; rfl
  | .c _ :: _, _, _, ⟨v, v', h1, h2, h3⟩, ⟨w, w', k1, k2, k3⟩ => by rw [h1, k1, Cell.D_fun h2 k2, SegsD.fun' h3 k3]
  | .arr _ _ _ :: _, _, _, ⟨v', h1, h2, h3⟩, ⟨w', k1, k2, k3⟩ => by rw [h1, k1, SegsD.fun' h3 k3]
theorem SV.D_fun {e : Env} {ρ : List Nat} {x : SV} {v w : Value} (h : x.D e ρ v) (k : x.D e ρ w) : v = w := by
  cases x with
  | c x => exact Cell.D_fun h k
  | agg l => obtain ⟨A, rfl, h1⟩ := h; obtain ⟨B, rfl, k1⟩ := k; rw [SegsD.fun' h1 k1]

/-! ### Loads -/
def readAd (l : List Seg) (a : Ad) : Option Cell :=
  match a.ix with
  | none => readAt l a.off
  | some (i, n) => readIx l a.off i n

def sload (P : Program) (G : Nat) (tmps : Tm) (h : SHeap) (op : Op) : Option SV :=
  match op with
  | .load t x =>
    match asCell (seval G tmps x) with
    | some (.p (some a)) =>
      match h[a.b]?, P.underlying t, P.info? t with
      | some (some (l, _)), some d, some i =>
        if isAggD d then
          match a.ix with
          | none => (readSegs l a.off i.size).map .agg
          | some _ => none
        else (readAd l a).map .c
      | _, _, _ => none
    | _ => none
  | _ => none

theorem cell_block {W : World} {g off : Nat} {cs : Array Value} {t : TypeId} {fz : Nat × Nat} (h : W.heap[g]? = some (.cells cs t fz)) : W.cell? ⟨g, off, none⟩ = cs[off]? := by
  simp [World.cell?, h]

/-- The known blocks lie there. -/
def Rd (e : Env) (ρ : List Nat) (h : SHeap) (W : World) : Prop :=
  ∀ (i : Nat) (l : List Seg) (t : TypeId), h[i]? = some (some (l, t)) → ∃ b cs t', ρ[i]? = some b ∧ W.heap[b]? = some (.cells cs t' (0, 0)) ∧ SegsD e ρ l cs.toList
theorem Rd.mono {e : Env} {ρ ρ' : List Nat} {h : SHeap} {W : World} (hr : Rd e ρ h W) (hp : Pre ρ ρ') : Rd e ρ' h W := fun i l t hi => by
  obtain ⟨b, cs, tt, h1, h2, h3⟩ := hr i l t hi
  exact ⟨b, cs, tt, hp.get h1, h2, h3.mono hp⟩
theorem Rd.at {e : Env} {ρ : List Nat} {h : SHeap} {W : World} (hr : Rd e ρ h W) {i b : Nat} {l : List Seg} {t : TypeId} (hi : h[i]? = some (some (l, t))) (hb : ρ[i]? = some b) :
    ∃ cs t', W.heap[b]? = some (.cells cs t' (0, 0)) ∧ SegsD e ρ l cs.toList := by
  obtain ⟨b2, cs, tt, h1, h2, h3⟩ := hr i l t hi
  rw [hb] at h1
  cases h1
  exact ⟨cs, tt, h2, h3⟩
theorem HRel.at {e : Env} {ρ : List Nat} {h : SHeap} {W : World} (hr : HRel e ρ h W) {i b : Nat} {l : List Seg} {t : TypeId} (hi : h[i]? = some (some (l, t))) (hb : ρ[i]? = some b) :
    ∃ cs t', W.heap[b]? = some (.cells cs t' (0, 0)) ∧ SegsD e ρ l cs.toList := by
  obtain ⟨b2, cs, tt, h1, h2, h3⟩ := hr.blk i l t hi
  rw [hb] at h1
  cases h1
  exact ⟨cs, tt, h2, h3⟩

theorem sload_run {e : Env} {P : Program} {ρ : List Nat} {G : Nat} (hG : Glob G ρ) {tmps : Tm} {a : Act} (ht : TmD e ρ tmps a.tmps.toList) {h : SHeap} {o : Oper} {x : SV}
    (hs : sload P G tmps h o.op = some x) {W : World} (hr : Rd e ρ h W) : ∃ V, x.D e ρ V ∧ (execOp a.eval o).run P W = .ok (.value V) W := by
  obtain ⟨dst, op, ty, pos, after, guard⟩ := o
  simp only at hs
  unfold sload at hs
  split at hs
  · rename_i t y
    simp only [execOp]
    split at hs
    · rename_i ad had
      obtain ⟨A, ⟨b', hb, hA⟩, hv⟩ := evalCell hG ht had
      split at hs
      · rename_i l bt d i hblk hd hi
        obtain ⟨cs, tt, hW, hseg⟩ := hr.at hblk hb
        split at hs
        · rename_i hag
          split at hs
          · rename_i hix
            rw [hix] at hA
            simp only at hA
            subst hA
            simp only [Option.map_eq_some_iff] at hs
            obtain ⟨q, hq, rfl⟩ := hs
            have hrd := readSegs_ok hseg hq
            refine ⟨_, ⟨_, rfl, hrd.2⟩, run_v ?_⟩
            have hlc := run_loadCells_list (P := P) W ⟨b', ad.off, none⟩ ((cs.toList.drop ad.off).take i.size) (fun j v hj => by
              rw [addr_add, cell_block hW]
              rw [List.getElem?_take] at hj
              split at hj
              · rw [List.getElem?_drop] at hj
                simpa using hj
              · cases hj)
            have hlen : ((cs.toList.drop ad.off).take i.size).length = i.size := by
              have := hrd.1
              simp at this ⊢; omega
            rw [hlen] at hlc
            rw [hv]
            simp [Instr.loadAt, Instr.sureAddr, loadVar, run_isAgg hd, hag, run_sizeOf' hi, cellsOf_eq hi, hlc]
          · cases hs
        · rename_i hag
          simp only [Option.map_eq_some_iff] at hs
          obtain ⟨q, hq, rfl⟩ := hs
          unfold readAd at hq
          cases hix : ad.ix with
          | none =>
            rw [hix] at hA hq
            simp only at hA hq
            subst hA
            obtain ⟨v, hv2, hx⟩ := readAt_ok hseg hq
            refine ⟨v, hx, run_v ?_⟩
            have hc : W.cell? ⟨b', ad.off, none⟩ = some v := by rw [cell_block hW]; simpa using hv2
            rw [hv]
            simp [Instr.loadAt, Instr.sureAddr, loadVar, run_isAgg hd, hag, hc]
          | some p =>
            obtain ⟨ie, n⟩ := p
            rw [hix] at hA hq
            simp only at hA hq
            obtain ⟨h0, hn, rfl⟩ := hA
            obtain ⟨v, hv2, hx⟩ := readIx_ok h0 hn hseg hq
            refine ⟨v, hx, run_v ?_⟩
            have hc : W.cell? ⟨b', ad.off + (ie.den e).toNat, none⟩ = some v := by rw [cell_block hW]; simpa using hv2
            rw [hv]
            simp [Instr.loadAt, Instr.sureAddr, loadVar, run_isAgg hd, hag, hc]
      · cases hs
    · cases hs
  · cases hs

/-- One value in every world that fits. -/
theorem sload_ok {e : Env} {P : Program} {ρ : List Nat} {G : Nat} (hG : Glob G ρ) {tmps : Tm} {a : Act} (ht : TmD e ρ tmps a.tmps.toList) {h : SHeap} {o : Oper} {x : SV}
    (hs : sload P G tmps h o.op = some x) {W : World} (hr : Rd e ρ h W) : ∃ V, x.D e ρ V ∧ ∀ W', Rd e ρ h W' → (execOp a.eval o).run P W' = .ok (.value V) W' := by
  obtain ⟨V, hV, _⟩ := sload_run hG ht hs hr
  refine ⟨V, hV, fun W' hr' => ?_⟩
  obtain ⟨V', hV', hrun⟩ := sload_run hG ht hs hr'
  rw [SV.D_fun hV hV']
  exact hrun

/-! ### Effects -/
def zeroSegs (P : Program) (t : TypeId) : Option (List Seg) :=
  match (P.info? t).bind (·.zero) with
  | some z => constCells z.cells.toList
  | none => none

def initSegs (z : Value) (n : Nat) : Option (List Seg) := constCells ((Array.range n).map (z.cells[· % z.cells.size]!)).toList

def seff (P : Program) (G ro : Nat) (tmps : Tm) (h : SHeap) (op : Op) : Option (Option SV × SHeap) :=
  match op with
  | .alloc t => (zeroSegs P t).map fun l => (some (.c (.p (some ⟨h.length, 0, none⟩))), h ++ [some (l, t)])
  | .box t x => (asSV (seval G tmps x)).map fun sv => (some (.c (.p (some ⟨h.length, 0, none⟩))), h ++ [some (sv.segs, t)])
  | .store t x y =>
    match asCell (seval G tmps x), asSV (seval G tmps y), P.info? t with
    | some (.p (some a)), some sv, some i =>
      if i.size = segsLen sv.segs ∧ ro ≤ a.b then
        match h[a.b]? with
        | some (some (l, bt)) =>
          match a.ix, sv with
          | none, .c v => (write1 l a.off v).map fun l' => (none, h.set a.b (some (l', bt)))
          | none, .agg s => (writeSegs l a.off s).map fun l' => (none, h.set a.b (some (l', bt)))
          | some (ie, n), .c v => (writeIx l a.off ie n v).map fun l' => (none, h.set a.b (some (l', bt)))
          | _, _ => none
        | _ => none
      else none
    | _, _, _ => none
  | .buildSlice t len parts =>
    match P.underlying t, evalParts G tmps parts.toList with
    | some (.slice el), some ps =>
      match P.info? el with
      | some ie =>
        match ie.zero with
        | some z =>
          if len * ie.size > 2 ^ 24 ∨ len * ie.size = 0 then none
          else
            match initSegs z (len * ie.size) with
            | some l => (sfill (fun i => some (i * ie.size, ie.size)) l ps).map fun l' => (some (.c (.sl (some ⟨h.length, 0, none⟩) len len)), h ++ [some (l', el)])
            | none => none
        | none => none
      | none => none
    | _, _ => none
  | _ => none

def OptD (e : Env) (ρ : List Nat) : Option SV → Next → Prop
  | some x, n => ∃ V, n = .value V ∧ x.D e ρ V
  | none, n => n = .skip

theorem run_u {P : Program} {s : Sem Unit} {w w' : World} (h : s.run P w = .ok () w') : (do s; pure Next.skip : Sem Next).run P w = .ok .skip w' := by
  rw [Sem.run_bind, h]; rfl

theorem new_ad {e : Env} {ρ : List Nat} {h : SHeap} {W : World} (hr : HRel e ρ h W) : Ad.D e (ρ ++ [W.heap.size]) ⟨h.length, 0, none⟩ ⟨W.heap.size, 0, none⟩ :=
  ⟨W.heap.size, by rw [hr.len, List.getElem?_append_right (Nat.le_refl _)]; simp, rfl⟩

theorem setRow_set (W : World) (g o : Nat) (cs : Array Value) (v : Value) (ho : o < cs.size) :
    W.setRow g (cs.toList.take o ++ [v] ++ cs.toList.drop (o + 1)).toArray = W.setRow g (cs.toList.set o v).toArray := by
  congr 2
  rw [List.set_eq_take_append_cons_drop, if_pos (by simpa using ho)]
  simp

theorem seff_ok {e : Env} {P : Program} {ρ : List Nat} {G ro : Nat} (hG : Glob G ρ) {tmps : Tm} {a : Act} (ht : TmD e ρ tmps a.tmps.toList) {h h' : SHeap} {o : Oper} {x : Option SV}
    (hs : seff P G ro tmps h o.op = some (x, h')) {W : World} (hr : HRel e ρ h W) :
    ∃ N ρ' W', (execOp a.eval o).run P W = .ok N W' ∧ OptD e ρ' x N ∧ Post e ro ρ W ρ' h' W' := by
  obtain ⟨dst, op, ty, pos, after, guard⟩ := o
  simp only at hs
  unfold seff at hs
  split at hs
  · rename_i t
    simp only [execOp]
    simp only [Option.map_eq_some_iff, Prod.mk.injEq] at hs
    obtain ⟨l, hl, rfl, rfl⟩ := hs
    unfold zeroSegs at hl
    split at hl
    · rename_i z hz
      obtain ⟨i, hi, hz⟩ := Option.bind_eq_some_iff.1 hz
      have hd := constCells_ok (e := e) (ρ := ρ) hl
      refine ⟨_, _, _, run_v ?_, ⟨_, rfl, ⟨_, new_ad hr, rfl⟩⟩, Post.alloc hr hd⟩
      simp [Instr.alloc, zeroValue, typeInfo, hi, hz, newVar, newRow]
    · cases hl
  · rename_i t y
    simp only [execOp]
    simp only [Option.map_eq_some_iff, Prod.mk.injEq] at hs
    obtain ⟨sv, hsv, rfl, rfl⟩ := hs
    have hd := SV.segs_D (evalSV hG ht hsv)
    refine ⟨_, _, _, run_v ?_, ⟨_, rfl, ⟨_, new_ad hr, rfl⟩⟩, Post.alloc hr hd⟩
    simp [Instr.box, newVar, newRow]
  · rename_i t y z
    simp only [execOp]
    split at hs
    · rename_i ad sv i had hsv hi
      split at hs
      · rename_i hc
        obtain ⟨hsz, hro⟩ := hc
        obtain ⟨A, ⟨b', hb, hA⟩, hv⟩ := evalCell hG ht had
        have hval := evalSV hG ht hsv
        have hd := SV.segs_D hval
        have hlen := segsLen_eq hd
        split at hs
        · rename_i l bt hblk
          obtain ⟨cs, tt, hW, hseg⟩ := hr.at hblk hb
          have hone := SegsD.one hd
          have hst : ∀ off, off + (a.eval z).cells.toList.length ≤ cs.size → (Instr.storeAt t (.pointer (some ⟨b', off, none⟩)) (a.eval z)).run P W = .ok () (W.setRow b' (cs.toList.take off ++ (a.eval z).cells.toList ++ cs.toList.drop (off + (a.eval z).cells.toList.length)).toArray) := by
            intro off hle
            have hrun := run_storeCells_at P b' off tt (a.eval z).cells.toList 0 cs W hW (by simpa using hle) hone
            have hsize : (a.eval z).cells.size = P.cellsOf t := by rw [cellsOf_eq hi, hsz, hlen]; simp
            simp [Instr.storeAt, Instr.sureAddr, storeVar, run_sizeOf' hi, hsize] at hrun ⊢
            exact hrun
          split at hs
          · rename_i v hix
            rw [hix] at hA
            simp only at hA
            subst hA
            simp only [Option.map_eq_some_iff, Prod.mk.injEq] at hs
            obtain ⟨l', hl', rfl, rfl⟩ := hs
            have hw := write1_ok hseg hval hl'
            have hcl : (a.eval z).cells.toList = [a.eval z] := by rw [(Cell.one hval).2]
            have := hst ad.off (by rw [hcl]; have := hw.1; simp at this ⊢; omega)
            rw [hcl] at this
            simp only [List.length_singleton] at this
            rw [setRow_set W b' ad.off cs (a.eval z) (by simpa using hw.1)] at this
            rw [hv]
            exact ⟨_, _, _, run_u this, rfl, Post.set hr hro hblk hb hW hw.2⟩
          · rename_i s hix
            rw [hix] at hA
            simp only at hA
            subst hA
            simp only [Option.map_eq_some_iff, Prod.mk.injEq] at hs
            obtain ⟨l', hl', rfl, rfl⟩ := hs
            have hw := writeSegs_ok hseg hd hl'
            have := hst ad.off (by have := hw.1; simpa using this)
            rw [hv]
            exact ⟨_, _, _, run_u this, rfl, Post.set hr hro hblk hb hW hw.2⟩
          · rename_i ie n v hix
            rw [hix] at hA
            simp only at hA
            obtain ⟨h0, hn, rfl⟩ := hA
            simp only [Option.map_eq_some_iff, Prod.mk.injEq] at hs
            obtain ⟨l', hl', rfl, rfl⟩ := hs
            have hw := writeIx_ok h0 hn hseg hval hl'
            have hcl : (a.eval z).cells.toList = [a.eval z] := by rw [(Cell.one hval).2]
            have := hst (ad.off + (ie.den e).toNat) (by rw [hcl]; have := hw.1; simp at this ⊢; omega)
            rw [hcl] at this
            simp only [List.length_singleton] at this
            rw [setRow_set W b' _ cs (a.eval z) (by simpa using hw.1)] at this
            rw [hv]
            exact ⟨_, _, _, run_u this, rfl, Post.set hr hro hblk hb hW hw.2⟩
          · cases hs
        · cases hs
      · cases hs
    · cases hs
  · rename_i t len parts
    simp only [execOp]
    split at hs
    · rename_i el ps hu hps
      split at hs
      · rename_i ie hie
        split at hs
        · rename_i z hz
          split at hs
          · cases hs
          · rename_i hc
            simp only [not_or] at hc
            split at hs
            · rename_i l hl
              simp only [Option.map_eq_some_iff, Prod.mk.injEq] at hs
              obtain ⟨l', hl', rfl, rfl⟩ := hs
              have hp := evalParts_ok hG ht hps
              obtain ⟨cs, hf, hd⟩ := sfill_ok hp (constCells_ok (e := e) (ρ := ρ) hl) hl'
              have hrun := run_buildSlice W t el len (parts.map fun (i, x) => (i, a.eval x)) cs ie z hu hie hz hc.1 hc.2 (by simpa using hf)
              exact ⟨_, _, _, run_v hrun, ⟨_, rfl, ⟨_, new_ad hr, rfl⟩⟩, Post.alloc hr hd⟩
            · cases hs
        · cases hs
      · cases hs
    · cases hs
  · cases hs

/-! ### Calls -/
def evalArgs (G : Nat) (tmps : Tm) : List Operand → Option (List SVal)
  | [] => some []
  | o :: r => match seval G tmps o, evalArgs G tmps r with
    | some x, some l => some (x :: l)
    | _, _ => none
theorem evalArgs_ok {e : Env} {ρ : List Nat} {G : Nat} (hG : Glob G ρ) {tmps : Tm} {a : Act} (ht : TmD e ρ tmps a.tmps.toList) : ∀ {os : List Operand} {l : List SVal}, evalArgs G tmps os = some l → SValsD e ρ l (os.map a.eval)
  | [], l, h => by simp only [evalArgs, Option.some.injEq] at h; subst h; rfl
  | o :: r, l, h => by
    simp only [evalArgs] at h
    split at h
    · rename_i x q h1 h2
      cases h
      exact ⟨_, _, rfl, seval_ok hG ht h1, evalArgs_ok hG ht h2⟩
    · cases h

def capVals : List Ad → List SVal
  | [] => []
  | a :: r => .v (.c (.p (some a))) :: capVals r
theorem capVals_ok {e : Env} {ρ : List Nat} : ∀ {l : List Ad} {vs : List Value}, AdsD e ρ l vs → SValsD e ρ (capVals l) vs
  | [], _, h => h
  | _ :: _, _, ⟨A, vs', h1, h2, h3⟩ => ⟨_, vs', h2, ⟨A, h1, rfl⟩, capVals_ok h3⟩
theorem SValsD.append {e : Env} {ρ : List Nat} : ∀ {l l' : List SVal} {vs vs' : List Value}, SValsD e ρ l vs → SValsD e ρ l' vs' → SValsD e ρ (l ++ l') (vs ++ vs')
  | [], _, _, _, h, h' => by cases h; exact h'
  | _ :: _, _, _, _, ⟨v, vs2, h1, h2, h3⟩, h' => by subst h1; exact ⟨v, vs2 ++ _, rfl, h2, SValsD.append h3 h'⟩

def enters (P : Program) (f : Nat) : Bool :=
  match P.funcs[f]? with
  | some fn => !(fn.name == "runtime.NumGoroutine") && fn.body.isSome
  | none => false

def scall (P : Program) (G : Nat) (tmps : Tm) (op : Op) : Option (Nat × List SVal) :=
  match op with
  | .call c =>
    match c.callee with
    | .value f =>
      match asCell (seval G tmps f), evalArgs G tmps c.args.toList with
      | some (.fn g caps), some l => if enters P g then some (g, l ++ capVals caps) else none
      | _, _ => none
    | _ => none
  | _ => none

theorem scall_ok {e : Env} {P : Program} {ρ : List Nat} {G : Nat} (hG : Glob G ρ) {tmps : Tm} {a : Act} (ht : TmD e ρ tmps a.tmps.toList) {o : Oper} {f : Nat} {args : List SVal}
    (hs : scall P G tmps o.op = some (f, args)) : ∃ vs, SValsD e ρ args vs ∧ ∀ W, (execOp a.eval o).run P W = .ok (.enter f vs.toArray) W := by
  obtain ⟨dst, op, ty, pos, after, guard⟩ := o
  simp only at hs
  unfold scall at hs
  split at hs
  · rename_i c
    obtain ⟨callee, cargs, argTypes⟩ := c
    simp only at hs
    split at hs
    · rename_i fo
      split at hs
      · rename_i g caps l h1 h2
        split at hs
        · rename_i he
          simp only [Option.some.injEq, Prod.mk.injEq] at hs
          obtain ⟨rfl, rfl⟩ := hs
          obtain ⟨vs, hcap, hv⟩ := evalCell hG ht h1
          have hargs := evalArgs_ok hG ht h2
          refine ⟨_, SValsD.append hargs (capVals_ok hcap), fun W => ?_⟩
          unfold enters at he
          split at he
          · rename_i fn hfn
            simp only [Bool.and_eq_true, Bool.not_eq_true'] at he
            obtain ⟨body, hbody⟩ := Option.isSome_iff_exists.1 he.2
            have hname : fn.name ≠ "runtime.NumGoroutine" := by simpa using he.1
            have e1 : cargs.map a.eval = (List.map a.eval cargs.toList).toArray := by apply Array.ext'; simp
            simp only [execOp, resolve, hv, Deferred.ofValue, invoke, Sem.run_bind, Sem.run_pure, Result.andThen_ok, e1]
            simp [callFunc, hfn, hname, hbody]
          · cases he
        · cases hs
      · cases hs
    · cases hs
  · cases hs
end Go.Proofs.YtbkkeedanfmfeaaDoor.Sx
