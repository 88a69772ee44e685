/-
  NARROWER THAN 'FOR EVERY INPUT', by the rows' own cells (each row's printed sentence says how): CPUMemory: laid · CPUExact: laid · CPUMay: laid · CPUDeaf: laid · CPUAsked: laid · CPULoop: laid · CPUAdds: laid · CPUSaves: laid.
  DERIVED. THE GIVEN ROWS OF THIS SEAT. 8 by the template 'for every input the law returns true; each argument reads behind the call as it read before'; 0 by the template 'total and deterministic' (their statements: YtjnoacnbhcdidaaDoorTotals.lean).
  GIVEN WITH THE SEED: the statements are not yours to turn. If you find one false, say at which input.
  Laid BY PROGRAM, IN A SANDBOX (cutbox-rows.mjs): the forced cells as the released guide's own fill.sh prints them over the translation c03709f824e74742… (all of the seat's roots in one cut). By AI agents, Wed Nov 11 2026. No macro, syntax, notation, axiom, sorry.
-/
import Derived.Test.YtjnoacnbhcdidaaDoorChecked
import GoSem.Claim
import GoSem.ClaimJoined
import GoSem.ClaimMapViews
import Derived.JoinedTies
import Derived.KernelRfl
namespace Go.Proofs.YtjnoacnbhcdidaaDoor
/- THE CELL 'sum', in the pinned program and in every row, IS THE sha256 OF THE DUMP (.gsa) THAT YtjnoacnbhcdidaaDoorProg.lean LOADS. Nothing in Lean hashes anything: it is a label: what it is worth is what the hold of that sum in a sandbox is worth. -/
noncomputable def Tryd.pinned : Pinned := { name := "ytjnoacnbhcdidaadoor", sum := "c03709f824e747426451c79382b06df9ac18b11d63d7e15afc188f04c8411c5e", checked := Tryd.checked }
namespace Rows
def none {H : Type} : Left H := { results := [], args := [] }

/- WHAT THE LISTED PACKAGE-LEVEL VARIABLES READ AS WHEN THE CALL BEGINS. Each datum BY PROGRAM (the guide's laid-datum.mjs) off the statement by which the dump's own 'gosem.cut.vars' lays the variable. In a bare row this is a premise. The card (YtjnoacnbhcdidaaDoorCards.lean) ties it to the program's text. -/
def laid_vesper_cpu_lasts {H : Type} : DataW H := .agg [.lit (.int .u8 0), .lit (.int .u8 1), .lit (.int .u8 2), .lit (.int .u8 3), .lit (.int .u8 4), .lit (.int .u8 6), .lit (.int .u8 10), .lit (.int .u8 8)]

/-- 'vesperlaw04.CPUMemory': WHATEVER THE INPUT: true; the input reads as it did. -/
def cPUMemorySpec : ChangeSpec := { name := "cPUMemory", fn := fun _ => fun
  | [d1, d2] => { results := [.lit (.bool true)], args := [d1, d2] }
  | _ => none }
def cPUMemoryRow : OpenClaim := { program := "ytjnoacnbhcdidaadoor", sum := "c03709f824e747426451c79382b06df9ac18b11d63d7e15afc188f04c8411c5e", func := "vesper/vesperlaw04.CPUMemory", spec := "cPUMemory", unfollowed := true, recurses := true, named := ["vesper/cpu.lasts"], apart := false, laid := [("vesper/cpu.lasts", laid_vesper_cpu_lasts)] }
def CPUMemorySaid : Prop := cPUMemoryRow.holds Tryd.pinned (OpenSpec.ofChange cPUMemorySpec)

/-- ITS FALSE NEIGHBOUR: 'it returns false'. Refute it at one input. -/
def cPUMemoryWrong : ChangeSpec := { name := "cPUMemory", fn := fun _ => fun
  | [d1, d2] => { results := [.lit (.bool false)], args := [d1, d2] }
  | _ => none }
def CPUMemoryWrongFalsely : Prop := cPUMemoryRow.holds Tryd.pinned (OpenSpec.ofChange cPUMemoryWrong)

/-- 'vesperlaw04.CPUExact': WHATEVER THE INPUT: true; the input reads as it did. -/
def cPUExactSpec : ChangeSpec := { name := "cPUExact", fn := fun _ => fun
  | [d1, d2] => { results := [.lit (.bool true)], args := [d1, d2] }
  | _ => none }
def cPUExactRow : OpenClaim := { program := "ytjnoacnbhcdidaadoor", sum := "c03709f824e747426451c79382b06df9ac18b11d63d7e15afc188f04c8411c5e", func := "vesper/vesperlaw04.CPUExact", spec := "cPUExact", unfollowed := true, recurses := true, named := ["vesper/cpu.lasts"], apart := false, laid := [("vesper/cpu.lasts", laid_vesper_cpu_lasts)] }
def CPUExactSaid : Prop := cPUExactRow.holds Tryd.pinned (OpenSpec.ofChange cPUExactSpec)

/-- ITS FALSE NEIGHBOUR: 'it returns false'. Refute it at one input. -/
def cPUExactWrong : ChangeSpec := { name := "cPUExact", fn := fun _ => fun
  | [d1, d2] => { results := [.lit (.bool false)], args := [d1, d2] }
  | _ => none }
def CPUExactWrongFalsely : Prop := cPUExactRow.holds Tryd.pinned (OpenSpec.ofChange cPUExactWrong)

/-- 'vesperlaw04.CPUMay': WHATEVER THE INPUT: true; the input reads as it did. -/
def cPUMaySpec : ChangeSpec := { name := "cPUMay", fn := fun _ => fun
  | [d1, d2, d3] => { results := [.lit (.bool true)], args := [d1, d2, d3] }
  | _ => none }
def cPUMayRow : OpenClaim := { program := "ytjnoacnbhcdidaadoor", sum := "c03709f824e747426451c79382b06df9ac18b11d63d7e15afc188f04c8411c5e", func := "vesper/vesperlaw04.CPUMay", spec := "cPUMay", unfollowed := true, recurses := true, named := ["vesper/cpu.lasts"], apart := false, laid := [("vesper/cpu.lasts", laid_vesper_cpu_lasts)] }
def CPUMaySaid : Prop := cPUMayRow.holds Tryd.pinned (OpenSpec.ofChange cPUMaySpec)

/-- ITS FALSE NEIGHBOUR: 'it returns false'. Refute it at one input. -/
def cPUMayWrong : ChangeSpec := { name := "cPUMay", fn := fun _ => fun
  | [d1, d2, d3] => { results := [.lit (.bool false)], args := [d1, d2, d3] }
  | _ => none }
def CPUMayWrongFalsely : Prop := cPUMayRow.holds Tryd.pinned (OpenSpec.ofChange cPUMayWrong)

/-- 'vesperlaw04.CPUDeaf': WHATEVER THE INPUT: true; the input reads as it did. -/
def cPUDeafSpec : ChangeSpec := { name := "cPUDeaf", fn := fun _ => fun
  | [d1, d2, d3] => { results := [.lit (.bool true)], args := [d1, d2, d3] }
  | _ => none }
def cPUDeafRow : OpenClaim := { program := "ytjnoacnbhcdidaadoor", sum := "c03709f824e747426451c79382b06df9ac18b11d63d7e15afc188f04c8411c5e", func := "vesper/vesperlaw04.CPUDeaf", spec := "cPUDeaf", unfollowed := true, recurses := true, named := ["vesper/cpu.lasts"], apart := false, laid := [("vesper/cpu.lasts", laid_vesper_cpu_lasts)] }
def CPUDeafSaid : Prop := cPUDeafRow.holds Tryd.pinned (OpenSpec.ofChange cPUDeafSpec)

/-- ITS FALSE NEIGHBOUR: 'it returns false'. Refute it at one input. -/
def cPUDeafWrong : ChangeSpec := { name := "cPUDeaf", fn := fun _ => fun
  | [d1, d2, d3] => { results := [.lit (.bool false)], args := [d1, d2, d3] }
  | _ => none }
def CPUDeafWrongFalsely : Prop := cPUDeafRow.holds Tryd.pinned (OpenSpec.ofChange cPUDeafWrong)

/-- 'vesperlaw04.CPUAsked': WHATEVER THE INPUT: true; the input reads as it did. -/
def cPUAskedSpec : ChangeSpec := { name := "cPUAsked", fn := fun _ => fun
  | [d1, d2] => { results := [.lit (.bool true)], args := [d1, d2] }
  | _ => none }
def cPUAskedRow : OpenClaim := { program := "ytjnoacnbhcdidaadoor", sum := "c03709f824e747426451c79382b06df9ac18b11d63d7e15afc188f04c8411c5e", func := "vesper/vesperlaw04.CPUAsked", spec := "cPUAsked", unfollowed := true, recurses := true, named := ["vesper/cpu.lasts"], apart := false, laid := [("vesper/cpu.lasts", laid_vesper_cpu_lasts)] }
def CPUAskedSaid : Prop := cPUAskedRow.holds Tryd.pinned (OpenSpec.ofChange cPUAskedSpec)

/-- ITS FALSE NEIGHBOUR: 'it returns false'. Refute it at one input. -/
def cPUAskedWrong : ChangeSpec := { name := "cPUAsked", fn := fun _ => fun
  | [d1, d2] => { results := [.lit (.bool false)], args := [d1, d2] }
  | _ => none }
def CPUAskedWrongFalsely : Prop := cPUAskedRow.holds Tryd.pinned (OpenSpec.ofChange cPUAskedWrong)

/-- 'vesperlaw04.CPULoop': WHATEVER THE INPUT: true; the input reads as it did. -/
def cPULoopSpec : ChangeSpec := { name := "cPULoop", fn := fun _ => fun
  | [d1, d2, d3] => { results := [.lit (.bool true)], args := [d1, d2, d3] }
  | _ => none }
def cPULoopRow : OpenClaim := { program := "ytjnoacnbhcdidaadoor", sum := "c03709f824e747426451c79382b06df9ac18b11d63d7e15afc188f04c8411c5e", func := "vesper/vesperlaw04.CPULoop", spec := "cPULoop", unfollowed := true, recurses := true, named := ["vesper/cpu.lasts"], apart := false, laid := [("vesper/cpu.lasts", laid_vesper_cpu_lasts)] }
def CPULoopSaid : Prop := cPULoopRow.holds Tryd.pinned (OpenSpec.ofChange cPULoopSpec)

/-- ITS FALSE NEIGHBOUR: 'it returns false'. Refute it at one input. -/
def cPULoopWrong : ChangeSpec := { name := "cPULoop", fn := fun _ => fun
  | [d1, d2, d3] => { results := [.lit (.bool false)], args := [d1, d2, d3] }
  | _ => none }
def CPULoopWrongFalsely : Prop := cPULoopRow.holds Tryd.pinned (OpenSpec.ofChange cPULoopWrong)

/-- 'vesperlaw04.CPUAdds': WHATEVER THE INPUT: true; the input reads as it did. -/
def cPUAddsSpec : ChangeSpec := { name := "cPUAdds", fn := fun _ => fun
  | [d1, d2] => { results := [.lit (.bool true)], args := [d1, d2] }
  | _ => none }
def cPUAddsRow : OpenClaim := { program := "ytjnoacnbhcdidaadoor", sum := "c03709f824e747426451c79382b06df9ac18b11d63d7e15afc188f04c8411c5e", func := "vesper/vesperlaw04.CPUAdds", spec := "cPUAdds", unfollowed := true, recurses := true, named := ["vesper/cpu.lasts"], apart := false, laid := [("vesper/cpu.lasts", laid_vesper_cpu_lasts)] }
def CPUAddsSaid : Prop := cPUAddsRow.holds Tryd.pinned (OpenSpec.ofChange cPUAddsSpec)

/-- ITS FALSE NEIGHBOUR: 'it returns false'. Refute it at one input. -/
def cPUAddsWrong : ChangeSpec := { name := "cPUAdds", fn := fun _ => fun
  | [d1, d2] => { results := [.lit (.bool false)], args := [d1, d2] }
  | _ => none }
def CPUAddsWrongFalsely : Prop := cPUAddsRow.holds Tryd.pinned (OpenSpec.ofChange cPUAddsWrong)

/-- 'vesperlaw04.CPUSaves': WHATEVER THE INPUT: true; the input reads as it did. -/
def cPUSavesSpec : ChangeSpec := { name := "cPUSaves", fn := fun _ => fun
  | [d1, d2] => { results := [.lit (.bool true)], args := [d1, d2] }
  | _ => none }
def cPUSavesRow : OpenClaim := { program := "ytjnoacnbhcdidaadoor", sum := "c03709f824e747426451c79382b06df9ac18b11d63d7e15afc188f04c8411c5e", func := "vesper/vesperlaw04.CPUSaves", spec := "cPUSaves", unfollowed := true, recurses := true, named := ["vesper/cpu.lasts"], apart := false, laid := [("vesper/cpu.lasts", laid_vesper_cpu_lasts)] }
def CPUSavesSaid : Prop := cPUSavesRow.holds Tryd.pinned (OpenSpec.ofChange cPUSavesSpec)

/-- ITS FALSE NEIGHBOUR: 'it returns false'. Refute it at one input. -/
def cPUSavesWrong : ChangeSpec := { name := "cPUSaves", fn := fun _ => fun
  | [d1, d2] => { results := [.lit (.bool false)], args := [d1, d2] }
  | _ => none }
def CPUSavesWrongFalsely : Prop := cPUSavesRow.holds Tryd.pinned (OpenSpec.ofChange cPUSavesWrong)

/- THE SECOND FORM. 'bulk': how many values and letters a reading holds, each counted each time it is reached (what is shared counts as often as it is met; a slice's spare places count too). A statement '..UptoSaid' is the law's where the arguments, and the package variables that the reading takes, are together of bulk at most 1048576: NARROWER than '..Said'. Prove '..Said' where nothing that the law and all that it calls make is longer than what came in: it says more and counts as full. Else prove '..UptoSaid'. A law counts once. -/
mutual
def uptoBulk {H : Type} : DataW H → Nat
  | .lit (.string bytes) => bytes.length + 1
  | .lit _ => 1
  | .nil => 1
  | .ptr d => uptoBulk d + 1
  | .slice elems spare => uptoBulkAll elems + uptoBulkAll spare + 1
  | .agg parts => uptoBulkAll parts + 1
  | .iface _ d => uptoBulk d + 1
  | .map entries => uptoBulkEntries entries + 1
  | .held _ => 1
def uptoBulkAll {H : Type} : List (DataW H) → Nat
  | [] => 0
  | d :: r => uptoBulk d + uptoBulkAll r
def uptoBulkEntries {H : Type} : List (Lit × DataW H) → Nat
  | [] => 0
  | x :: r => uptoBulkEntry x + uptoBulkEntries r
def uptoBulkEntry {H : Type} : Lit × DataW H → Nat
  | (.string bytes, d) => bytes.length + uptoBulk d + 1
  | (_, d) => uptoBulk d + 1
 end
def uptoSmall : (H : Type) → List (DataW H) → Bool := fun _ ds => decide (uptoBulkAll ds ≤ 1048576)
def OpenSpec.upto (s : _root_.Go.ChangeSpec) : _root_.Go.OpenSpec := { _root_.Go.OpenSpec.ofChange s with cond := some uptoSmall }

/-- 'vesperlaw04.CPUMemory', WHERE WHAT IT READS IS OF BULK AT MOST 1048576: true; the input reads as it did. -/
def cPUMemoryUptoRow : OpenClaim := { program := "ytjnoacnbhcdidaadoor", sum := "c03709f824e747426451c79382b06df9ac18b11d63d7e15afc188f04c8411c5e", func := "vesper/vesperlaw04.CPUMemory", spec := "cPUMemory", unfollowed := true, recurses := true, named := ["vesper/cpu.lasts"], apart := false, laid := [("vesper/cpu.lasts", laid_vesper_cpu_lasts)], narrowed := true }
def CPUMemoryUptoSaid : Prop := cPUMemoryUptoRow.holds Tryd.pinned (OpenSpec.upto cPUMemorySpec)

/-- 'vesperlaw04.CPUExact', WHERE WHAT IT READS IS OF BULK AT MOST 1048576: true; the input reads as it did. -/
def cPUExactUptoRow : OpenClaim := { program := "ytjnoacnbhcdidaadoor", sum := "c03709f824e747426451c79382b06df9ac18b11d63d7e15afc188f04c8411c5e", func := "vesper/vesperlaw04.CPUExact", spec := "cPUExact", unfollowed := true, recurses := true, named := ["vesper/cpu.lasts"], apart := false, laid := [("vesper/cpu.lasts", laid_vesper_cpu_lasts)], narrowed := true }
def CPUExactUptoSaid : Prop := cPUExactUptoRow.holds Tryd.pinned (OpenSpec.upto cPUExactSpec)

/-- 'vesperlaw04.CPUMay', WHERE WHAT IT READS IS OF BULK AT MOST 1048576: true; the input reads as it did. -/
def cPUMayUptoRow : OpenClaim := { program := "ytjnoacnbhcdidaadoor", sum := "c03709f824e747426451c79382b06df9ac18b11d63d7e15afc188f04c8411c5e", func := "vesper/vesperlaw04.CPUMay", spec := "cPUMay", unfollowed := true, recurses := true, named := ["vesper/cpu.lasts"], apart := false, laid := [("vesper/cpu.lasts", laid_vesper_cpu_lasts)], narrowed := true }
def CPUMayUptoSaid : Prop := cPUMayUptoRow.holds Tryd.pinned (OpenSpec.upto cPUMaySpec)

/-- 'vesperlaw04.CPUDeaf', WHERE WHAT IT READS IS OF BULK AT MOST 1048576: true; the input reads as it did. -/
def cPUDeafUptoRow : OpenClaim := { program := "ytjnoacnbhcdidaadoor", sum := "c03709f824e747426451c79382b06df9ac18b11d63d7e15afc188f04c8411c5e", func := "vesper/vesperlaw04.CPUDeaf", spec := "cPUDeaf", unfollowed := true, recurses := true, named := ["vesper/cpu.lasts"], apart := false, laid := [("vesper/cpu.lasts", laid_vesper_cpu_lasts)], narrowed := true }
def CPUDeafUptoSaid : Prop := cPUDeafUptoRow.holds Tryd.pinned (OpenSpec.upto cPUDeafSpec)

/-- 'vesperlaw04.CPUAsked', WHERE WHAT IT READS IS OF BULK AT MOST 1048576: true; the input reads as it did. -/
def cPUAskedUptoRow : OpenClaim := { program := "ytjnoacnbhcdidaadoor", sum := "c03709f824e747426451c79382b06df9ac18b11d63d7e15afc188f04c8411c5e", func := "vesper/vesperlaw04.CPUAsked", spec := "cPUAsked", unfollowed := true, recurses := true, named := ["vesper/cpu.lasts"], apart := false, laid := [("vesper/cpu.lasts", laid_vesper_cpu_lasts)], narrowed := true }
def CPUAskedUptoSaid : Prop := cPUAskedUptoRow.holds Tryd.pinned (OpenSpec.upto cPUAskedSpec)

/-- 'vesperlaw04.CPULoop', WHERE WHAT IT READS IS OF BULK AT MOST 1048576: true; the input reads as it did. -/
def cPULoopUptoRow : OpenClaim := { program := "ytjnoacnbhcdidaadoor", sum := "c03709f824e747426451c79382b06df9ac18b11d63d7e15afc188f04c8411c5e", func := "vesper/vesperlaw04.CPULoop", spec := "cPULoop", unfollowed := true, recurses := true, named := ["vesper/cpu.lasts"], apart := false, laid := [("vesper/cpu.lasts", laid_vesper_cpu_lasts)], narrowed := true }
def CPULoopUptoSaid : Prop := cPULoopUptoRow.holds Tryd.pinned (OpenSpec.upto cPULoopSpec)

/-- 'vesperlaw04.CPUAdds', WHERE WHAT IT READS IS OF BULK AT MOST 1048576: true; the input reads as it did. -/
def cPUAddsUptoRow : OpenClaim := { program := "ytjnoacnbhcdidaadoor", sum := "c03709f824e747426451c79382b06df9ac18b11d63d7e15afc188f04c8411c5e", func := "vesper/vesperlaw04.CPUAdds", spec := "cPUAdds", unfollowed := true, recurses := true, named := ["vesper/cpu.lasts"], apart := false, laid := [("vesper/cpu.lasts", laid_vesper_cpu_lasts)], narrowed := true }
def CPUAddsUptoSaid : Prop := cPUAddsUptoRow.holds Tryd.pinned (OpenSpec.upto cPUAddsSpec)

/-- 'vesperlaw04.CPUSaves', WHERE WHAT IT READS IS OF BULK AT MOST 1048576: true; the input reads as it did. -/
def cPUSavesUptoRow : OpenClaim := { program := "ytjnoacnbhcdidaadoor", sum := "c03709f824e747426451c79382b06df9ac18b11d63d7e15afc188f04c8411c5e", func := "vesper/vesperlaw04.CPUSaves", spec := "cPUSaves", unfollowed := true, recurses := true, named := ["vesper/cpu.lasts"], apart := false, laid := [("vesper/cpu.lasts", laid_vesper_cpu_lasts)], narrowed := true }
def CPUSavesUptoSaid : Prop := cPUSavesUptoRow.holds Tryd.pinned (OpenSpec.upto cPUSavesSpec)

end Rows
end Go.Proofs.YtjnoacnbhcdidaaDoor
