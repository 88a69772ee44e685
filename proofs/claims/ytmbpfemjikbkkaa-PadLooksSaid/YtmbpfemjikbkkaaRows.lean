/-
  No cell of these rows narrows 'for every input' (looked for: loops, veiled, ifaces, maps, wideKeys, modest, calm, conditions, laid).
  DERIVED. THE GIVEN ROWS OF THIS SEAT. 6 by the template 'for every input the law returns true; each argument reads behind the call as it read before'; 0 by the template 'total and deterministic' (their statements: YtmbpfemjikbkkaaTotals.lean).
  GIVEN WITH THE SEED: the statements are not yours to turn. If you find one false, say at which input.
  Laid BY PROGRAM, IN A SANDBOX (cutbox-rows.mjs): the forced cells as the released guide's own fill.sh prints them over the translation 5e78fdbbaf05a7a8… (all of the seat's roots in one cut). By AI agents, Wed Nov 11 2026. No macro, syntax, notation, axiom, sorry.
-/
import Derived.Test.YtmbpfemjikbkkaaChecked
import GoSem.Claim
import GoSem.ClaimJoined
import GoSem.ClaimMapViews
import Derived.JoinedTies
import Derived.KernelRfl
namespace Go.Proofs.Ytmbpfemjikbkkaa
/- THE CELL 'sum', in the pinned program and in every row, IS THE sha256 OF THE DUMP (.gsa) THAT YtmbpfemjikbkkaaProg.lean LOADS. Nothing in Lean hashes anything: it is a label: what it is worth is what the hold of that sum in a sandbox is worth. -/
noncomputable def Try.pinned : Pinned := { name := "ytmbpfemjikbkkaa", sum := "5e78fdbbaf05a7a862a8c481df5282c178af474dd66fd71e6d17a285309e65f0", checked := Try.checked }
namespace Rows
def none {H : Type} : Left H := { results := [], args := [] }

/-- 'vesperlaw02.CodeNames': WHATEVER THE INPUT: true; the input reads as it did. -/
def codeNamesSpec : ChangeSpec := { name := "codeNames", fn := fun _ => fun
  | [] => { results := [.lit (.bool true)], args := [] }
  | _ => none }
def codeNamesRow : OpenClaim := { program := "ytmbpfemjikbkkaa", sum := "5e78fdbbaf05a7a862a8c481df5282c178af474dd66fd71e6d17a285309e65f0", func := "vesper/vesperlaw02.CodeNames", spec := "codeNames", apart := false }
def CodeNamesSaid : Prop := codeNamesRow.holds Try.pinned (OpenSpec.ofChange codeNamesSpec)

/-- ITS FALSE NEIGHBOUR: 'it returns false'. Refute it at one input. -/
def codeNamesWrong : ChangeSpec := { name := "codeNames", fn := fun _ => fun
  | [] => { results := [.lit (.bool false)], args := [] }
  | _ => none }
def CodeNamesWrongFalsely : Prop := codeNamesRow.holds Try.pinned (OpenSpec.ofChange codeNamesWrong)

/-- 'vesperlaw04.CPUNames': WHATEVER THE INPUT: true; the input reads as it did. -/
def cPUNamesSpec : ChangeSpec := { name := "cPUNames", fn := fun _ => fun
  | [] => { results := [.lit (.bool true)], args := [] }
  | _ => none }
def cPUNamesRow : OpenClaim := { program := "ytmbpfemjikbkkaa", sum := "5e78fdbbaf05a7a862a8c481df5282c178af474dd66fd71e6d17a285309e65f0", func := "vesper/vesperlaw04.CPUNames", spec := "cPUNames", apart := false }
def CPUNamesSaid : Prop := cPUNamesRow.holds Try.pinned (OpenSpec.ofChange cPUNamesSpec)

/-- ITS FALSE NEIGHBOUR: 'it returns false'. Refute it at one input. -/
def cPUNamesWrong : ChangeSpec := { name := "cPUNames", fn := fun _ => fun
  | [] => { results := [.lit (.bool false)], args := [] }
  | _ => none }
def CPUNamesWrongFalsely : Prop := cPUNamesRow.holds Try.pinned (OpenSpec.ofChange cPUNamesWrong)

/-- 'vesperlaw06.PadDowns': WHATEVER THE INPUT: true; the input reads as it did. -/
def padDownsSpec : ChangeSpec := { name := "padDowns", fn := fun _ => fun
  | [d1, d2] => { results := [.lit (.bool true)], args := [d1, d2] }
  | _ => none }
def padDownsRow : OpenClaim := { program := "ytmbpfemjikbkkaa", sum := "5e78fdbbaf05a7a862a8c481df5282c178af474dd66fd71e6d17a285309e65f0", func := "vesper/vesperlaw06.PadDowns", spec := "padDowns", apart := false }
def PadDownsSaid : Prop := padDownsRow.holds Try.pinned (OpenSpec.ofChange padDownsSpec)

/-- ITS FALSE NEIGHBOUR: 'it returns false'. Refute it at one input. -/
def padDownsWrong : ChangeSpec := { name := "padDowns", fn := fun _ => fun
  | [d1, d2] => { results := [.lit (.bool false)], args := [d1, d2] }
  | _ => none }
def PadDownsWrongFalsely : Prop := padDownsRow.holds Try.pinned (OpenSpec.ofChange padDownsWrong)

/-- 'vesperlaw06.PadSteps': WHATEVER THE INPUT: true; the input reads as it did. -/
def padStepsSpec : ChangeSpec := { name := "padSteps", fn := fun _ => fun
  | [d1, d2, d3] => { results := [.lit (.bool true)], args := [d1, d2, d3] }
  | _ => none }
def padStepsRow : OpenClaim := { program := "ytmbpfemjikbkkaa", sum := "5e78fdbbaf05a7a862a8c481df5282c178af474dd66fd71e6d17a285309e65f0", func := "vesper/vesperlaw06.PadSteps", spec := "padSteps", apart := false }
def PadStepsSaid : Prop := padStepsRow.holds Try.pinned (OpenSpec.ofChange padStepsSpec)

/-- ITS FALSE NEIGHBOUR: 'it returns false'. Refute it at one input. -/
def padStepsWrong : ChangeSpec := { name := "padSteps", fn := fun _ => fun
  | [d1, d2, d3] => { results := [.lit (.bool false)], args := [d1, d2, d3] }
  | _ => none }
def PadStepsWrongFalsely : Prop := padStepsRow.holds Try.pinned (OpenSpec.ofChange padStepsWrong)

/-- 'vesperlaw06.PadKeys': WHATEVER THE INPUT: true; the input reads as it did. -/
def padKeysSpec : ChangeSpec := { name := "padKeys", fn := fun _ => fun
  | [d1, d2] => { results := [.lit (.bool true)], args := [d1, d2] }
  | _ => none }
def padKeysRow : OpenClaim := { program := "ytmbpfemjikbkkaa", sum := "5e78fdbbaf05a7a862a8c481df5282c178af474dd66fd71e6d17a285309e65f0", func := "vesper/vesperlaw06.PadKeys", spec := "padKeys", apart := false }
def PadKeysSaid : Prop := padKeysRow.holds Try.pinned (OpenSpec.ofChange padKeysSpec)

/-- ITS FALSE NEIGHBOUR: 'it returns false'. Refute it at one input. -/
def padKeysWrong : ChangeSpec := { name := "padKeys", fn := fun _ => fun
  | [d1, d2] => { results := [.lit (.bool false)], args := [d1, d2] }
  | _ => none }
def PadKeysWrongFalsely : Prop := padKeysRow.holds Try.pinned (OpenSpec.ofChange padKeysWrong)

/-- 'vesperlaw06.PadLooks': WHATEVER THE INPUT: true; the input reads as it did. -/
def padLooksSpec : ChangeSpec := { name := "padLooks", fn := fun _ => fun
  | [d1, d2, d3] => { results := [.lit (.bool true)], args := [d1, d2, d3] }
  | _ => none }
def padLooksRow : OpenClaim := { program := "ytmbpfemjikbkkaa", sum := "5e78fdbbaf05a7a862a8c481df5282c178af474dd66fd71e6d17a285309e65f0", func := "vesper/vesperlaw06.PadLooks", spec := "padLooks", apart := false }
def PadLooksSaid : Prop := padLooksRow.holds Try.pinned (OpenSpec.ofChange padLooksSpec)

/-- ITS FALSE NEIGHBOUR: 'it returns false'. Refute it at one input. -/
def padLooksWrong : ChangeSpec := { name := "padLooks", fn := fun _ => fun
  | [d1, d2, d3] => { results := [.lit (.bool false)], args := [d1, d2, d3] }
  | _ => none }
def PadLooksWrongFalsely : Prop := padLooksRow.holds Try.pinned (OpenSpec.ofChange padLooksWrong)

/- THE SECOND FORM. 'bulk': how many values and letters a reading holds, each counted each time it is reached (what is shared counts as often as it is met; a slice's spare places count too). A statement '..UptoSaid' is the law's where the arguments, and the package variables that the reading takes, are together of bulk at most 1048576: NARROWER than '..Said'. Prove '..Said' where nothing that the law and all that it calls make is longer than what came in: it says more and counts as full. Else prove '..UptoSaid'. A law counts once. -/
mutual
def uptoBulk {H : Type} : DataW H → Nat
  | .lit (.string bytes) => bytes.length + 1
  | .lit _ => 1
  | .nil => 1
  | .ptr d => uptoBulk d + 1
  | .slice elems spare => uptoBulkAll elems + uptoBulkAll spare + 1
  | .agg parts => uptoBulkAll parts + 1
  | .iface _ d => uptoBulk d + 1
  | .map entries => uptoBulkEntries entries + 1
  | .held _ => 1
def uptoBulkAll {H : Type} : List (DataW H) → Nat
  | [] => 0
  | d :: r => uptoBulk d + uptoBulkAll r
def uptoBulkEntries {H : Type} : List (Lit × DataW H) → Nat
  | [] => 0
  | x :: r => uptoBulkEntry x + uptoBulkEntries r
def uptoBulkEntry {H : Type} : Lit × DataW H → Nat
  | (.string bytes, d) => bytes.length + uptoBulk d + 1
  | (_, d) => uptoBulk d + 1
 end
def uptoSmall : (H : Type) → List (DataW H) → Bool := fun _ ds => decide (uptoBulkAll ds ≤ 1048576)
def OpenSpec.upto (s : _root_.Go.ChangeSpec) : _root_.Go.OpenSpec := { _root_.Go.OpenSpec.ofChange s with cond := some uptoSmall }

/-- 'vesperlaw02.CodeNames', WHERE WHAT IT READS IS OF BULK AT MOST 1048576: true; the input reads as it did. -/
def codeNamesUptoRow : OpenClaim := { program := "ytmbpfemjikbkkaa", sum := "5e78fdbbaf05a7a862a8c481df5282c178af474dd66fd71e6d17a285309e65f0", func := "vesper/vesperlaw02.CodeNames", spec := "codeNames", apart := false, narrowed := true }
def CodeNamesUptoSaid : Prop := codeNamesUptoRow.holds Try.pinned (OpenSpec.upto codeNamesSpec)

/-- 'vesperlaw04.CPUNames', WHERE WHAT IT READS IS OF BULK AT MOST 1048576: true; the input reads as it did. -/
def cPUNamesUptoRow : OpenClaim := { program := "ytmbpfemjikbkkaa", sum := "5e78fdbbaf05a7a862a8c481df5282c178af474dd66fd71e6d17a285309e65f0", func := "vesper/vesperlaw04.CPUNames", spec := "cPUNames", apart := false, narrowed := true }
def CPUNamesUptoSaid : Prop := cPUNamesUptoRow.holds Try.pinned (OpenSpec.upto cPUNamesSpec)

/-- 'vesperlaw06.PadDowns', WHERE WHAT IT READS IS OF BULK AT MOST 1048576: true; the input reads as it did. -/
def padDownsUptoRow : OpenClaim := { program := "ytmbpfemjikbkkaa", sum := "5e78fdbbaf05a7a862a8c481df5282c178af474dd66fd71e6d17a285309e65f0", func := "vesper/vesperlaw06.PadDowns", spec := "padDowns", apart := false, narrowed := true }
def PadDownsUptoSaid : Prop := padDownsUptoRow.holds Try.pinned (OpenSpec.upto padDownsSpec)

/-- 'vesperlaw06.PadSteps', WHERE WHAT IT READS IS OF BULK AT MOST 1048576: true; the input reads as it did. -/
def padStepsUptoRow : OpenClaim := { program := "ytmbpfemjikbkkaa", sum := "5e78fdbbaf05a7a862a8c481df5282c178af474dd66fd71e6d17a285309e65f0", func := "vesper/vesperlaw06.PadSteps", spec := "padSteps", apart := false, narrowed := true }
def PadStepsUptoSaid : Prop := padStepsUptoRow.holds Try.pinned (OpenSpec.upto padStepsSpec)

/-- 'vesperlaw06.PadKeys', WHERE WHAT IT READS IS OF BULK AT MOST 1048576: true; the input reads as it did. -/
def padKeysUptoRow : OpenClaim := { program := "ytmbpfemjikbkkaa", sum := "5e78fdbbaf05a7a862a8c481df5282c178af474dd66fd71e6d17a285309e65f0", func := "vesper/vesperlaw06.PadKeys", spec := "padKeys", apart := false, narrowed := true }
def PadKeysUptoSaid : Prop := padKeysUptoRow.holds Try.pinned (OpenSpec.upto padKeysSpec)

/-- 'vesperlaw06.PadLooks', WHERE WHAT IT READS IS OF BULK AT MOST 1048576: true; the input reads as it did. -/
def padLooksUptoRow : OpenClaim := { program := "ytmbpfemjikbkkaa", sum := "5e78fdbbaf05a7a862a8c481df5282c178af474dd66fd71e6d17a285309e65f0", func := "vesper/vesperlaw06.PadLooks", spec := "padLooks", apart := false, narrowed := true }
def PadLooksUptoSaid : Prop := padLooksUptoRow.holds Try.pinned (OpenSpec.upto padLooksSpec)

end Rows
end Go.Proofs.Ytmbpfemjikbkkaa
