/-
  No cell of these rows narrows 'for every input' (looked for: loops, veiled, ifaces, maps, wideKeys, modest, calm, conditions, laid).
  DERIVED. THE GIVEN ROWS OF THIS SEAT. 6 by the template 'for every input the law returns true; each argument reads behind the call as it read before'; 0 by the template 'total and deterministic' (their statements: YtopgnohobmlegaaTotals.lean).
  GIVEN WITH THE SEED: the statements are not yours to turn. If you find one false, say at which input.
  Laid BY PROGRAM, IN A SANDBOX (cutbox-rows.mjs): the forced cells as the released guide's own fill.sh prints them over the translation 3bf5e342561a7d89… (all of the seat's roots in one cut). By AI agents, Wed Nov 11 2026. No macro, syntax, notation, axiom, sorry.
-/
import Derived.Test.YtopgnohobmlegaaChecked
import GoSem.Claim
import GoSem.ClaimJoined
import GoSem.ClaimMapViews
import Derived.JoinedTies
import Derived.KernelRfl
namespace Go.Proofs.Ytopgnohobmlegaa
/- THE CELL 'sum', in the pinned program and in every row, IS THE sha256 OF THE DUMP (.gsa) THAT YtopgnohobmlegaaProg.lean LOADS. Nothing in Lean hashes anything: it is a label: what it is worth is what the hold of that sum in a sandbox is worth. -/
noncomputable def Try.pinned : Pinned := { name := "ytopgnohobmlegaa", sum := "3bf5e342561a7d895492bef8631c1430e386fc6cb0cab860ea9e404b818f5523", checked := Try.checked }
namespace Rows
def none {H : Type} : Left H := { results := [], args := [] }

/-- 'vesperlaw06.PadKeys': WHATEVER THE INPUT: true; the input reads as it did. -/
def padKeysSpec : ChangeSpec := { name := "padKeys", fn := fun _ => fun
  | [d1, d2] => { results := [.lit (.bool true)], args := [d1, d2] }
  | _ => none }
def padKeysRow : OpenClaim := { program := "ytopgnohobmlegaa", sum := "3bf5e342561a7d895492bef8631c1430e386fc6cb0cab860ea9e404b818f5523", func := "vesper/vesperlaw06.PadKeys", spec := "padKeys", apart := false }
def PadKeysSaid : Prop := padKeysRow.holds Try.pinned (OpenSpec.ofChange padKeysSpec)

/-- ITS FALSE NEIGHBOUR: 'it returns false'. Refute it at one input. -/
def padKeysWrong : ChangeSpec := { name := "padKeys", fn := fun _ => fun
  | [d1, d2] => { results := [.lit (.bool false)], args := [d1, d2] }
  | _ => none }
def PadKeysWrongFalsely : Prop := padKeysRow.holds Try.pinned (OpenSpec.ofChange padKeysWrong)

/-- 'vesperlaw03.StoreNames': WHATEVER THE INPUT: true; the input reads as it did. -/
def storeNamesSpec : ChangeSpec := { name := "storeNames", fn := fun _ => fun
  | [] => { results := [.lit (.bool true)], args := [] }
  | _ => none }
def storeNamesRow : OpenClaim := { program := "ytopgnohobmlegaa", sum := "3bf5e342561a7d895492bef8631c1430e386fc6cb0cab860ea9e404b818f5523", func := "vesper/vesperlaw03.StoreNames", spec := "storeNames", apart := false }
def StoreNamesSaid : Prop := storeNamesRow.holds Try.pinned (OpenSpec.ofChange storeNamesSpec)

/-- ITS FALSE NEIGHBOUR: 'it returns false'. Refute it at one input. -/
def storeNamesWrong : ChangeSpec := { name := "storeNames", fn := fun _ => fun
  | [] => { results := [.lit (.bool false)], args := [] }
  | _ => none }
def StoreNamesWrongFalsely : Prop := storeNamesRow.holds Try.pinned (OpenSpec.ofChange storeNamesWrong)

/-- 'vesperlaw03.StoreReads': WHATEVER THE INPUT: true; the input reads as it did. -/
def storeReadsSpec : ChangeSpec := { name := "storeReads", fn := fun _ => fun
  | [d1, d2, d3] => { results := [.lit (.bool true)], args := [d1, d2, d3] }
  | _ => none }
def storeReadsRow : OpenClaim := { program := "ytopgnohobmlegaa", sum := "3bf5e342561a7d895492bef8631c1430e386fc6cb0cab860ea9e404b818f5523", func := "vesper/vesperlaw03.StoreReads", spec := "storeReads", apart := false }
def StoreReadsSaid : Prop := storeReadsRow.holds Try.pinned (OpenSpec.ofChange storeReadsSpec)

/-- ITS FALSE NEIGHBOUR: 'it returns false'. Refute it at one input. -/
def storeReadsWrong : ChangeSpec := { name := "storeReads", fn := fun _ => fun
  | [d1, d2, d3] => { results := [.lit (.bool false)], args := [d1, d2, d3] }
  | _ => none }
def StoreReadsWrongFalsely : Prop := storeReadsRow.holds Try.pinned (OpenSpec.ofChange storeReadsWrong)

/-- 'vesperlaw03.StoreKeeps': WHATEVER THE INPUT: true; the input reads as it did. -/
def storeKeepsSpec : ChangeSpec := { name := "storeKeeps", fn := fun _ => fun
  | [d1, d2] => { results := [.lit (.bool true)], args := [d1, d2] }
  | _ => none }
def storeKeepsRow : OpenClaim := { program := "ytopgnohobmlegaa", sum := "3bf5e342561a7d895492bef8631c1430e386fc6cb0cab860ea9e404b818f5523", func := "vesper/vesperlaw03.StoreKeeps", spec := "storeKeeps", apart := false }
def StoreKeepsSaid : Prop := storeKeepsRow.holds Try.pinned (OpenSpec.ofChange storeKeepsSpec)

/-- ITS FALSE NEIGHBOUR: 'it returns false'. Refute it at one input. -/
def storeKeepsWrong : ChangeSpec := { name := "storeKeeps", fn := fun _ => fun
  | [d1, d2] => { results := [.lit (.bool false)], args := [d1, d2] }
  | _ => none }
def StoreKeepsWrongFalsely : Prop := storeKeepsRow.holds Try.pinned (OpenSpec.ofChange storeKeepsWrong)

/-- 'vesperlaw03.StorePlays': WHATEVER THE INPUT: true; the input reads as it did. -/
def storePlaysSpec : ChangeSpec := { name := "storePlays", fn := fun _ => fun
  | [d1, d2, d3] => { results := [.lit (.bool true)], args := [d1, d2, d3] }
  | _ => none }
def storePlaysRow : OpenClaim := { program := "ytopgnohobmlegaa", sum := "3bf5e342561a7d895492bef8631c1430e386fc6cb0cab860ea9e404b818f5523", func := "vesper/vesperlaw03.StorePlays", spec := "storePlays", apart := false }
def StorePlaysSaid : Prop := storePlaysRow.holds Try.pinned (OpenSpec.ofChange storePlaysSpec)

/-- ITS FALSE NEIGHBOUR: 'it returns false'. Refute it at one input. -/
def storePlaysWrong : ChangeSpec := { name := "storePlays", fn := fun _ => fun
  | [d1, d2, d3] => { results := [.lit (.bool false)], args := [d1, d2, d3] }
  | _ => none }
def StorePlaysWrongFalsely : Prop := storePlaysRow.holds Try.pinned (OpenSpec.ofChange storePlaysWrong)

/-- 'vesperlaw03.StoreNil': WHATEVER THE INPUT: true; the input reads as it did. -/
def storeNilSpec : ChangeSpec := { name := "storeNil", fn := fun _ => fun
  | [d1, d2, d3, d4] => { results := [.lit (.bool true)], args := [d1, d2, d3, d4] }
  | _ => none }
def storeNilRow : OpenClaim := { program := "ytopgnohobmlegaa", sum := "3bf5e342561a7d895492bef8631c1430e386fc6cb0cab860ea9e404b818f5523", func := "vesper/vesperlaw03.StoreNil", spec := "storeNil", apart := false }
def StoreNilSaid : Prop := storeNilRow.holds Try.pinned (OpenSpec.ofChange storeNilSpec)

/-- ITS FALSE NEIGHBOUR: 'it returns false'. Refute it at one input. -/
def storeNilWrong : ChangeSpec := { name := "storeNil", fn := fun _ => fun
  | [d1, d2, d3, d4] => { results := [.lit (.bool false)], args := [d1, d2, d3, d4] }
  | _ => none }
def StoreNilWrongFalsely : Prop := storeNilRow.holds Try.pinned (OpenSpec.ofChange storeNilWrong)

/- THE SECOND FORM. 'bulk': how many values and letters a reading holds, each counted each time it is reached (what is shared counts as often as it is met; a slice's spare places count too). A statement '..UptoSaid' is the law's where the arguments, and the package variables that the reading takes, are together of bulk at most 1048576: NARROWER than '..Said'. Prove '..Said' where nothing that the law and all that it calls make is longer than what came in: it says more and counts as full. Else prove '..UptoSaid'. A law counts once. -/
mutual
def uptoBulk {H : Type} : DataW H → Nat
  | .lit (.string bytes) => bytes.length + 1
  | .lit _ => 1
  | .nil => 1
  | .ptr d => uptoBulk d + 1
  | .slice elems spare => uptoBulkAll elems + uptoBulkAll spare + 1
  | .agg parts => uptoBulkAll parts + 1
  | .iface _ d => uptoBulk d + 1
  | .map entries => uptoBulkEntries entries + 1
  | .held _ => 1
def uptoBulkAll {H : Type} : List (DataW H) → Nat
  | [] => 0
  | d :: r => uptoBulk d + uptoBulkAll r
def uptoBulkEntries {H : Type} : List (Lit × DataW H) → Nat
  | [] => 0
  | x :: r => uptoBulkEntry x + uptoBulkEntries r
def uptoBulkEntry {H : Type} : Lit × DataW H → Nat
  | (.string bytes, d) => bytes.length + uptoBulk d + 1
  | (_, d) => uptoBulk d + 1
 end
def uptoSmall : (H : Type) → List (DataW H) → Bool := fun _ ds => decide (uptoBulkAll ds ≤ 1048576)
def OpenSpec.upto (s : _root_.Go.ChangeSpec) : _root_.Go.OpenSpec := { _root_.Go.OpenSpec.ofChange s with cond := some uptoSmall }

/-- 'vesperlaw06.PadKeys', WHERE WHAT IT READS IS OF BULK AT MOST 1048576: true; the input reads as it did. -/
def padKeysUptoRow : OpenClaim := { program := "ytopgnohobmlegaa", sum := "3bf5e342561a7d895492bef8631c1430e386fc6cb0cab860ea9e404b818f5523", func := "vesper/vesperlaw06.PadKeys", spec := "padKeys", apart := false, narrowed := true }
def PadKeysUptoSaid : Prop := padKeysUptoRow.holds Try.pinned (OpenSpec.upto padKeysSpec)

/-- 'vesperlaw03.StoreNames', WHERE WHAT IT READS IS OF BULK AT MOST 1048576: true; the input reads as it did. -/
def storeNamesUptoRow : OpenClaim := { program := "ytopgnohobmlegaa", sum := "3bf5e342561a7d895492bef8631c1430e386fc6cb0cab860ea9e404b818f5523", func := "vesper/vesperlaw03.StoreNames", spec := "storeNames", apart := false, narrowed := true }
def StoreNamesUptoSaid : Prop := storeNamesUptoRow.holds Try.pinned (OpenSpec.upto storeNamesSpec)

/-- 'vesperlaw03.StoreReads', WHERE WHAT IT READS IS OF BULK AT MOST 1048576: true; the input reads as it did. -/
def storeReadsUptoRow : OpenClaim := { program := "ytopgnohobmlegaa", sum := "3bf5e342561a7d895492bef8631c1430e386fc6cb0cab860ea9e404b818f5523", func := "vesper/vesperlaw03.StoreReads", spec := "storeReads", apart := false, narrowed := true }
def StoreReadsUptoSaid : Prop := storeReadsUptoRow.holds Try.pinned (OpenSpec.upto storeReadsSpec)

/-- 'vesperlaw03.StoreKeeps', WHERE WHAT IT READS IS OF BULK AT MOST 1048576: true; the input reads as it did. -/
def storeKeepsUptoRow : OpenClaim := { program := "ytopgnohobmlegaa", sum := "3bf5e342561a7d895492bef8631c1430e386fc6cb0cab860ea9e404b818f5523", func := "vesper/vesperlaw03.StoreKeeps", spec := "storeKeeps", apart := false, narrowed := true }
def StoreKeepsUptoSaid : Prop := storeKeepsUptoRow.holds Try.pinned (OpenSpec.upto storeKeepsSpec)

/-- 'vesperlaw03.StorePlays', WHERE WHAT IT READS IS OF BULK AT MOST 1048576: true; the input reads as it did. -/
def storePlaysUptoRow : OpenClaim := { program := "ytopgnohobmlegaa", sum := "3bf5e342561a7d895492bef8631c1430e386fc6cb0cab860ea9e404b818f5523", func := "vesper/vesperlaw03.StorePlays", spec := "storePlays", apart := false, narrowed := true }
def StorePlaysUptoSaid : Prop := storePlaysUptoRow.holds Try.pinned (OpenSpec.upto storePlaysSpec)

/-- 'vesperlaw03.StoreNil', WHERE WHAT IT READS IS OF BULK AT MOST 1048576: true; the input reads as it did. -/
def storeNilUptoRow : OpenClaim := { program := "ytopgnohobmlegaa", sum := "3bf5e342561a7d895492bef8631c1430e386fc6cb0cab860ea9e404b818f5523", func := "vesper/vesperlaw03.StoreNil", spec := "storeNil", apart := false, narrowed := true }
def StoreNilUptoSaid : Prop := storeNilUptoRow.holds Try.pinned (OpenSpec.upto storeNilSpec)

end Rows
end Go.Proofs.Ytopgnohobmlegaa
