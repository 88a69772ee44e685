/-
  NARROWER THAN 'FOR EVERY INPUT', by the rows' own cells (each row's printed sentence says how): CodeCuts: laid · CodeOps: laid · CodeLines: laid · CodeThere: laid · CodeExact: laid.
  DERIVED. THE GIVEN ROWS OF THIS SEAT. 5 by the template 'for every input the law returns true; each argument reads behind the call as it read before'; 0 by the template 'total and deterministic' (their statements: YtofphikiadiogaaDoorTotals.lean).
  GIVEN WITH THE SEED: the statements are not yours to turn. If you find one false, say at which input.
  Laid BY PROGRAM, IN A SANDBOX (cutbox-rows.mjs): the forced cells as the released guide's own fill.sh prints them over the translation e6b7a620bb379082… (all of the seat's roots in one cut). By AI agents, Wed Nov 11 2026. No macro, syntax, notation, axiom, sorry.
-/
import Derived.Test.YtofphikiadiogaaDoorChecked
import GoSem.Claim
import GoSem.ClaimJoined
import GoSem.ClaimMapViews
import Derived.JoinedTies
import Derived.KernelRfl
namespace Go.Proofs.YtofphikiadiogaaDoor
/- THE CELL 'sum', in the pinned program and in every row, IS THE sha256 OF THE DUMP (.gsa) THAT YtofphikiadiogaaDoorProg.lean LOADS. Nothing in Lean hashes anything: it is a label: what it is worth is what the hold of that sum in a sandbox is worth. -/
noncomputable def Tryd.pinned : Pinned := { name := "ytofphikiadiogaadoor", sum := "e6b7a620bb37908290da50505f1dd71115e717c4b606775d544474ff7325a720", checked := Tryd.checked }
namespace Rows
def none {H : Type} : Left H := { results := [], args := [] }

/- WHAT THE LISTED PACKAGE-LEVEL VARIABLES READ AS WHEN THE CALL BEGINS. Each datum BY PROGRAM (the guide's laid-datum.mjs) off the statement by which the dump's own 'gosem.cut.vars' lays the variable. In a bare row this is a premise. The card (YtofphikiadiogaaDoorCards.lean) ties it to the program's text. -/
def laid_vesper_code_rows {H : Type} : DataW H := .agg [.lit (.string []), .lit (.string [73, 78, 67]), .lit (.string [68, 69, 67]), .lit (.string []), .lit (.string [76, 68, 65]), .lit (.string [83, 84, 82]), .lit (.string []), .lit (.string []), .lit (.string [71, 76, 79]), .lit (.string [71, 72, 73]), .lit (.string [80, 76, 79]), .lit (.string [80, 72, 73]), .lit (.string []), .lit (.string [83, 69, 80]), .lit (.string [83, 69, 88]), .lit (.string [])]
def laid_vesper_code_threes {H : Type} : DataW H := .agg [.lit (.string [66, 82]), .lit (.string [66, 81]), .lit (.string [66, 90]), .lit (.string [66, 68, 70]), .lit (.string [66, 49]), .lit (.string [66, 50]), .lit (.string [66, 51]), .lit (.string [66, 52]), .lit (.string [83, 75, 80]), .lit (.string [66, 78, 81]), .lit (.string [66, 78, 90]), .lit (.string [66, 78, 70]), .lit (.string [66, 78, 49]), .lit (.string [66, 78, 50]), .lit (.string [66, 78, 51]), .lit (.string [66, 78, 52])]
def laid_vesper_code_sevens {H : Type} : DataW H := .agg [.lit (.string [82, 69, 84]), .lit (.string [68, 73, 83]), .lit (.string [76, 68, 88, 65]), .lit (.string [83, 84, 88, 68]), .lit (.string [65, 68, 67]), .lit (.string [83, 68, 66]), .lit (.string [83, 72, 82, 67]), .lit (.string [83, 77, 66]), .lit (.string [83, 65, 86]), .lit (.string [77, 65, 82, 75]), .lit (.string [82, 69, 81]), .lit (.string [83, 69, 81]), .lit (.string [65, 68, 67, 73]), .lit (.string [83, 68, 66, 73]), .lit (.string [83, 72, 76, 67]), .lit (.string [83, 77, 66, 73])]
def laid_vesper_code_twelves {H : Type} : DataW H := .agg [.lit (.string [76, 66, 82]), .lit (.string [76, 66, 81]), .lit (.string [76, 66, 90]), .lit (.string [76, 66, 68, 70]), .lit (.string [78, 79, 80]), .lit (.string [76, 83, 78, 81]), .lit (.string [76, 83, 78, 90]), .lit (.string [76, 83, 78, 70]), .lit (.string [76, 83, 75, 80]), .lit (.string [76, 66, 78, 81]), .lit (.string [76, 66, 78, 90]), .lit (.string [76, 66, 78, 70]), .lit (.string [76, 83, 73, 69]), .lit (.string [76, 83, 81]), .lit (.string [76, 83, 90]), .lit (.string [76, 83, 68, 70])]
def laid_vesper_code_fifteens {H : Type} : DataW H := .agg [.lit (.string [76, 68, 88]), .lit (.string [79, 82]), .lit (.string [65, 78, 68]), .lit (.string [88, 79, 82]), .lit (.string [65, 68, 68]), .lit (.string [83, 68]), .lit (.string [83, 72, 82]), .lit (.string [83, 77]), .lit (.string [76, 68, 73]), .lit (.string [79, 82, 73]), .lit (.string [65, 78, 73]), .lit (.string [88, 82, 73]), .lit (.string [65, 68, 73]), .lit (.string [83, 68, 73]), .lit (.string [83, 72, 76]), .lit (.string [83, 77, 73])]
def laid_vesper_code_lengths {H : Type} : DataW H := .agg [.lit (.int .i64 0), .lit (.int .i64 1), .lit (.int .i64 1), .lit (.int .i64 1), .lit (.int .i64 2), .lit (.int .i64 2), .lit (.int .i64 3)]
def laid_vesper_code_digits {H : Type} : DataW H := .agg [.lit (.int .i64 0), .lit (.int .i64 0), .lit (.int .i64 1), .lit (.int .i64 1), .lit (.int .i64 2), .lit (.int .i64 2), .lit (.int .i64 4)]

/-- 'vesperlaw02.CodeCuts': WHATEVER THE INPUT: true; the input reads as it did. -/
def codeCutsSpec : ChangeSpec := { name := "codeCuts", fn := fun _ => fun
  | [d] => { results := [.lit (.bool true)], args := [d] }
  | _ => none }
def codeCutsRow : OpenClaim := { program := "ytofphikiadiogaadoor", sum := "e6b7a620bb37908290da50505f1dd71115e717c4b606775d544474ff7325a720", func := "vesper/vesperlaw02.CodeCuts", spec := "codeCuts", named := ["vesper/code.lengths", "vesper/code.threes", "vesper/code.sevens", "vesper/code.twelves", "vesper/code.fifteens", "vesper/code.rows"], apart := false, laid := [("vesper/code.rows", laid_vesper_code_rows), ("vesper/code.threes", laid_vesper_code_threes), ("vesper/code.sevens", laid_vesper_code_sevens), ("vesper/code.twelves", laid_vesper_code_twelves), ("vesper/code.fifteens", laid_vesper_code_fifteens), ("vesper/code.lengths", laid_vesper_code_lengths)] }
def CodeCutsSaid : Prop := codeCutsRow.holds Tryd.pinned (OpenSpec.ofChange codeCutsSpec)

/-- ITS FALSE NEIGHBOUR: 'it returns false'. Refute it at one input. -/
def codeCutsWrong : ChangeSpec := { name := "codeCuts", fn := fun _ => fun
  | [d] => { results := [.lit (.bool false)], args := [d] }
  | _ => none }
def CodeCutsWrongFalsely : Prop := codeCutsRow.holds Tryd.pinned (OpenSpec.ofChange codeCutsWrong)

/-- 'vesperlaw02.CodeOps': WHATEVER THE INPUT: true; the input reads as it did. -/
def codeOpsSpec : ChangeSpec := { name := "codeOps", fn := fun _ => fun
  | [] => { results := [.lit (.bool true)], args := [] }
  | _ => none }
def codeOpsRow : OpenClaim := { program := "ytofphikiadiogaadoor", sum := "e6b7a620bb37908290da50505f1dd71115e717c4b606775d544474ff7325a720", func := "vesper/vesperlaw02.CodeOps", spec := "codeOps", named := ["vesper/code.lengths", "vesper/code.threes", "vesper/code.sevens", "vesper/code.twelves", "vesper/code.fifteens", "vesper/code.rows"], apart := false, laid := [("vesper/code.rows", laid_vesper_code_rows), ("vesper/code.threes", laid_vesper_code_threes), ("vesper/code.sevens", laid_vesper_code_sevens), ("vesper/code.twelves", laid_vesper_code_twelves), ("vesper/code.fifteens", laid_vesper_code_fifteens), ("vesper/code.lengths", laid_vesper_code_lengths)] }
def CodeOpsSaid : Prop := codeOpsRow.holds Tryd.pinned (OpenSpec.ofChange codeOpsSpec)

/-- ITS FALSE NEIGHBOUR: 'it returns false'. Refute it at one input. -/
def codeOpsWrong : ChangeSpec := { name := "codeOps", fn := fun _ => fun
  | [] => { results := [.lit (.bool false)], args := [] }
  | _ => none }
def CodeOpsWrongFalsely : Prop := codeOpsRow.holds Tryd.pinned (OpenSpec.ofChange codeOpsWrong)

/-- 'vesperlaw02.CodeLines': WHATEVER THE INPUT: true; the input reads as it did. -/
def codeLinesSpec : ChangeSpec := { name := "codeLines", fn := fun _ => fun
  | [d] => { results := [.lit (.bool true)], args := [d] }
  | _ => none }
def codeLinesRow : OpenClaim := { program := "ytofphikiadiogaadoor", sum := "e6b7a620bb37908290da50505f1dd71115e717c4b606775d544474ff7325a720", func := "vesper/vesperlaw02.CodeLines", spec := "codeLines", named := ["vesper/code.threes", "vesper/code.sevens", "vesper/code.twelves", "vesper/code.fifteens", "vesper/code.rows", "vesper/code.lengths", "vesper/code.digits"], apart := false, laid := [("vesper/code.rows", laid_vesper_code_rows), ("vesper/code.threes", laid_vesper_code_threes), ("vesper/code.sevens", laid_vesper_code_sevens), ("vesper/code.twelves", laid_vesper_code_twelves), ("vesper/code.fifteens", laid_vesper_code_fifteens), ("vesper/code.lengths", laid_vesper_code_lengths), ("vesper/code.digits", laid_vesper_code_digits)] }
def CodeLinesSaid : Prop := codeLinesRow.holds Tryd.pinned (OpenSpec.ofChange codeLinesSpec)

/-- ITS FALSE NEIGHBOUR: 'it returns false'. Refute it at one input. -/
def codeLinesWrong : ChangeSpec := { name := "codeLines", fn := fun _ => fun
  | [d] => { results := [.lit (.bool false)], args := [d] }
  | _ => none }
def CodeLinesWrongFalsely : Prop := codeLinesRow.holds Tryd.pinned (OpenSpec.ofChange codeLinesWrong)

/-- 'vesperlaw02.CodeThere': WHATEVER THE INPUT: true; the input reads as it did. -/
def codeThereSpec : ChangeSpec := { name := "codeThere", fn := fun _ => fun
  | [d1, d2] => { results := [.lit (.bool true)], args := [d1, d2] }
  | _ => none }
def codeThereRow : OpenClaim := { program := "ytofphikiadiogaadoor", sum := "e6b7a620bb37908290da50505f1dd71115e717c4b606775d544474ff7325a720", func := "vesper/vesperlaw02.CodeThere", spec := "codeThere", named := ["vesper/code.threes", "vesper/code.sevens", "vesper/code.twelves", "vesper/code.fifteens", "vesper/code.rows", "vesper/code.lengths", "vesper/code.digits"], apart := false, laid := [("vesper/code.rows", laid_vesper_code_rows), ("vesper/code.threes", laid_vesper_code_threes), ("vesper/code.sevens", laid_vesper_code_sevens), ("vesper/code.twelves", laid_vesper_code_twelves), ("vesper/code.fifteens", laid_vesper_code_fifteens), ("vesper/code.lengths", laid_vesper_code_lengths), ("vesper/code.digits", laid_vesper_code_digits)] }
def CodeThereSaid : Prop := codeThereRow.holds Tryd.pinned (OpenSpec.ofChange codeThereSpec)

/-- ITS FALSE NEIGHBOUR: 'it returns false'. Refute it at one input. -/
def codeThereWrong : ChangeSpec := { name := "codeThere", fn := fun _ => fun
  | [d1, d2] => { results := [.lit (.bool false)], args := [d1, d2] }
  | _ => none }
def CodeThereWrongFalsely : Prop := codeThereRow.holds Tryd.pinned (OpenSpec.ofChange codeThereWrong)

/-- 'vesperlaw02.CodeExact': WHATEVER THE INPUT: true; the input reads as it did. -/
def codeExactSpec : ChangeSpec := { name := "codeExact", fn := fun _ => fun
  | [d] => { results := [.lit (.bool true)], args := [d] }
  | _ => none }
def codeExactRow : OpenClaim := { program := "ytofphikiadiogaadoor", sum := "e6b7a620bb37908290da50505f1dd71115e717c4b606775d544474ff7325a720", func := "vesper/vesperlaw02.CodeExact", spec := "codeExact", named := ["vesper/code.lengths", "vesper/code.threes", "vesper/code.sevens", "vesper/code.twelves", "vesper/code.fifteens", "vesper/code.rows", "vesper/code.digits"], apart := false, laid := [("vesper/code.rows", laid_vesper_code_rows), ("vesper/code.threes", laid_vesper_code_threes), ("vesper/code.sevens", laid_vesper_code_sevens), ("vesper/code.twelves", laid_vesper_code_twelves), ("vesper/code.fifteens", laid_vesper_code_fifteens), ("vesper/code.lengths", laid_vesper_code_lengths), ("vesper/code.digits", laid_vesper_code_digits)] }
def CodeExactSaid : Prop := codeExactRow.holds Tryd.pinned (OpenSpec.ofChange codeExactSpec)

/-- ITS FALSE NEIGHBOUR: 'it returns false'. Refute it at one input. -/
def codeExactWrong : ChangeSpec := { name := "codeExact", fn := fun _ => fun
  | [d] => { results := [.lit (.bool false)], args := [d] }
  | _ => none }
def CodeExactWrongFalsely : Prop := codeExactRow.holds Tryd.pinned (OpenSpec.ofChange codeExactWrong)

/- THE SECOND FORM. 'bulk': how many values and letters a reading holds, each counted each time it is reached (what is shared counts as often as it is met; a slice's spare places count too). A statement '..UptoSaid' is the law's where the arguments, and the package variables that the reading takes, are together of bulk at most 1048576: NARROWER than '..Said'. Prove '..Said' where nothing that the law and all that it calls make is longer than what came in: it says more and counts as full. Else prove '..UptoSaid'. A law counts once. -/
mutual
def uptoBulk {H : Type} : DataW H → Nat
  | .lit (.string bytes) => bytes.length + 1
  | .lit _ => 1
  | .nil => 1
  | .ptr d => uptoBulk d + 1
  | .slice elems spare => uptoBulkAll elems + uptoBulkAll spare + 1
  | .agg parts => uptoBulkAll parts + 1
  | .iface _ d => uptoBulk d + 1
  | .map entries => uptoBulkEntries entries + 1
  | .held _ => 1
def uptoBulkAll {H : Type} : List (DataW H) → Nat
  | [] => 0
  | d :: r => uptoBulk d + uptoBulkAll r
def uptoBulkEntries {H : Type} : List (Lit × DataW H) → Nat
  | [] => 0
  | x :: r => uptoBulkEntry x + uptoBulkEntries r
def uptoBulkEntry {H : Type} : Lit × DataW H → Nat
  | (.string bytes, d) => bytes.length + uptoBulk d + 1
  | (_, d) => uptoBulk d + 1
 end
def uptoSmall : (H : Type) → List (DataW H) → Bool := fun _ ds => decide (uptoBulkAll ds ≤ 1048576)
def OpenSpec.upto (s : _root_.Go.ChangeSpec) : _root_.Go.OpenSpec := { _root_.Go.OpenSpec.ofChange s with cond := some uptoSmall }

/-- 'vesperlaw02.CodeCuts', WHERE WHAT IT READS IS OF BULK AT MOST 1048576: true; the input reads as it did. -/
def codeCutsUptoRow : OpenClaim := { program := "ytofphikiadiogaadoor", sum := "e6b7a620bb37908290da50505f1dd71115e717c4b606775d544474ff7325a720", func := "vesper/vesperlaw02.CodeCuts", spec := "codeCuts", named := ["vesper/code.lengths", "vesper/code.threes", "vesper/code.sevens", "vesper/code.twelves", "vesper/code.fifteens", "vesper/code.rows"], apart := false, laid := [("vesper/code.rows", laid_vesper_code_rows), ("vesper/code.threes", laid_vesper_code_threes), ("vesper/code.sevens", laid_vesper_code_sevens), ("vesper/code.twelves", laid_vesper_code_twelves), ("vesper/code.fifteens", laid_vesper_code_fifteens), ("vesper/code.lengths", laid_vesper_code_lengths)], narrowed := true }
def CodeCutsUptoSaid : Prop := codeCutsUptoRow.holds Tryd.pinned (OpenSpec.upto codeCutsSpec)

/-- 'vesperlaw02.CodeOps', WHERE WHAT IT READS IS OF BULK AT MOST 1048576: true; the input reads as it did. -/
def codeOpsUptoRow : OpenClaim := { program := "ytofphikiadiogaadoor", sum := "e6b7a620bb37908290da50505f1dd71115e717c4b606775d544474ff7325a720", func := "vesper/vesperlaw02.CodeOps", spec := "codeOps", named := ["vesper/code.lengths", "vesper/code.threes", "vesper/code.sevens", "vesper/code.twelves", "vesper/code.fifteens", "vesper/code.rows"], apart := false, laid := [("vesper/code.rows", laid_vesper_code_rows), ("vesper/code.threes", laid_vesper_code_threes), ("vesper/code.sevens", laid_vesper_code_sevens), ("vesper/code.twelves", laid_vesper_code_twelves), ("vesper/code.fifteens", laid_vesper_code_fifteens), ("vesper/code.lengths", laid_vesper_code_lengths)], narrowed := true }
def CodeOpsUptoSaid : Prop := codeOpsUptoRow.holds Tryd.pinned (OpenSpec.upto codeOpsSpec)

/-- 'vesperlaw02.CodeLines', WHERE WHAT IT READS IS OF BULK AT MOST 1048576: true; the input reads as it did. -/
def codeLinesUptoRow : OpenClaim := { program := "ytofphikiadiogaadoor", sum := "e6b7a620bb37908290da50505f1dd71115e717c4b606775d544474ff7325a720", func := "vesper/vesperlaw02.CodeLines", spec := "codeLines", named := ["vesper/code.threes", "vesper/code.sevens", "vesper/code.twelves", "vesper/code.fifteens", "vesper/code.rows", "vesper/code.lengths", "vesper/code.digits"], apart := false, laid := [("vesper/code.rows", laid_vesper_code_rows), ("vesper/code.threes", laid_vesper_code_threes), ("vesper/code.sevens", laid_vesper_code_sevens), ("vesper/code.twelves", laid_vesper_code_twelves), ("vesper/code.fifteens", laid_vesper_code_fifteens), ("vesper/code.lengths", laid_vesper_code_lengths), ("vesper/code.digits", laid_vesper_code_digits)], narrowed := true }
def CodeLinesUptoSaid : Prop := codeLinesUptoRow.holds Tryd.pinned (OpenSpec.upto codeLinesSpec)

/-- 'vesperlaw02.CodeThere', WHERE WHAT IT READS IS OF BULK AT MOST 1048576: true; the input reads as it did. -/
def codeThereUptoRow : OpenClaim := { program := "ytofphikiadiogaadoor", sum := "e6b7a620bb37908290da50505f1dd71115e717c4b606775d544474ff7325a720", func := "vesper/vesperlaw02.CodeThere", spec := "codeThere", named := ["vesper/code.threes", "vesper/code.sevens", "vesper/code.twelves", "vesper/code.fifteens", "vesper/code.rows", "vesper/code.lengths", "vesper/code.digits"], apart := false, laid := [("vesper/code.rows", laid_vesper_code_rows), ("vesper/code.threes", laid_vesper_code_threes), ("vesper/code.sevens", laid_vesper_code_sevens), ("vesper/code.twelves", laid_vesper_code_twelves), ("vesper/code.fifteens", laid_vesper_code_fifteens), ("vesper/code.lengths", laid_vesper_code_lengths), ("vesper/code.digits", laid_vesper_code_digits)], narrowed := true }
def CodeThereUptoSaid : Prop := codeThereUptoRow.holds Tryd.pinned (OpenSpec.upto codeThereSpec)

/-- 'vesperlaw02.CodeExact', WHERE WHAT IT READS IS OF BULK AT MOST 1048576: true; the input reads as it did. -/
def codeExactUptoRow : OpenClaim := { program := "ytofphikiadiogaadoor", sum := "e6b7a620bb37908290da50505f1dd71115e717c4b606775d544474ff7325a720", func := "vesper/vesperlaw02.CodeExact", spec := "codeExact", named := ["vesper/code.lengths", "vesper/code.threes", "vesper/code.sevens", "vesper/code.twelves", "vesper/code.fifteens", "vesper/code.rows", "vesper/code.digits"], apart := false, laid := [("vesper/code.rows", laid_vesper_code_rows), ("vesper/code.threes", laid_vesper_code_threes), ("vesper/code.sevens", laid_vesper_code_sevens), ("vesper/code.twelves", laid_vesper_code_twelves), ("vesper/code.fifteens", laid_vesper_code_fifteens), ("vesper/code.lengths", laid_vesper_code_lengths), ("vesper/code.digits", laid_vesper_code_digits)], narrowed := true }
def CodeExactUptoSaid : Prop := codeExactUptoRow.holds Tryd.pinned (OpenSpec.upto codeExactSpec)

end Rows
end Go.Proofs.YtofphikiadiogaaDoor
