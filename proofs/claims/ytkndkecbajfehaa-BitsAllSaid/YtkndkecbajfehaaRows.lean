/-
  No cell of these rows narrows 'for every input' (looked for: loops, veiled, ifaces, maps, wideKeys, modest, calm, conditions, laid).
  DERIVED. THE GIVEN ROWS OF THIS SEAT. 8 by the template 'for every input the law returns true; each argument reads behind the call as it read before'; 0 by the template 'total and deterministic' (their statements: YtkndkecbajfehaaTotals.lean).
  GIVEN WITH THE SEED: the statements are not yours to turn. If you find one false, say at which input.
  Laid BY PROGRAM, IN A SANDBOX (cutbox-rows.mjs): the forced cells as the released guide's own fill.sh prints them over the translation 46b5ad9146827ca3… (all of the seat's roots in one cut). By AI agents, Wed Nov 11 2026. No macro, syntax, notation, axiom, sorry.
-/
import Derived.Test.YtkndkecbajfehaaChecked
import GoSem.Claim
import GoSem.ClaimJoined
import GoSem.ClaimMapViews
import Derived.JoinedTies
import Derived.KernelRfl
namespace Go.Proofs.Ytkndkecbajfehaa
/- THE CELL 'sum', in the pinned program and in every row, IS THE sha256 OF THE DUMP (.gsa) THAT YtkndkecbajfehaaProg.lean LOADS. Nothing in Lean hashes anything: it is a label: what it is worth is what the hold of that sum in a sandbox is worth. -/
noncomputable def Try.pinned : Pinned := { name := "ytkndkecbajfehaa", sum := "46b5ad9146827ca358c94f70c5bc115980580d24167c2dafb6f7e00bd31aacec", checked := Try.checked }
namespace Rows
def none {H : Type} : Left H := { results := [], args := [] }

/-- 'vesperlaw01.BitsNames': WHATEVER THE INPUT: true; the input reads as it did. -/
def bitsNamesSpec : ChangeSpec := { name := "bitsNames", fn := fun _ => fun
  | [] => { results := [.lit (.bool true)], args := [] }
  | _ => none }
def bitsNamesRow : OpenClaim := { program := "ytkndkecbajfehaa", sum := "46b5ad9146827ca358c94f70c5bc115980580d24167c2dafb6f7e00bd31aacec", func := "vesper/vesperlaw01.BitsNames", spec := "bitsNames", unfollowed := true, recurses := true, apart := false }
def BitsNamesSaid : Prop := bitsNamesRow.holds Try.pinned (OpenSpec.ofChange bitsNamesSpec)

/-- ITS FALSE NEIGHBOUR: 'it returns false'. Refute it at one input. -/
def bitsNamesWrong : ChangeSpec := { name := "bitsNames", fn := fun _ => fun
  | [] => { results := [.lit (.bool false)], args := [] }
  | _ => none }
def BitsNamesWrongFalsely : Prop := bitsNamesRow.holds Try.pinned (OpenSpec.ofChange bitsNamesWrong)

/-- 'vesperlaw01.BitsDo': WHATEVER THE INPUT: true; the input reads as it did. -/
def bitsDoSpec : ChangeSpec := { name := "bitsDo", fn := fun _ => fun
  | [d] => { results := [.lit (.bool true)], args := [d] }
  | _ => none }
def bitsDoRow : OpenClaim := { program := "ytkndkecbajfehaa", sum := "46b5ad9146827ca358c94f70c5bc115980580d24167c2dafb6f7e00bd31aacec", func := "vesper/vesperlaw01.BitsDo", spec := "bitsDo", unfollowed := true, recurses := true, apart := false }
def BitsDoSaid : Prop := bitsDoRow.holds Try.pinned (OpenSpec.ofChange bitsDoSpec)

/-- ITS FALSE NEIGHBOUR: 'it returns false'. Refute it at one input. -/
def bitsDoWrong : ChangeSpec := { name := "bitsDo", fn := fun _ => fun
  | [d] => { results := [.lit (.bool false)], args := [d] }
  | _ => none }
def BitsDoWrongFalsely : Prop := bitsDoRow.holds Try.pinned (OpenSpec.ofChange bitsDoWrong)

/-- 'vesperlaw01.BitsAll': WHATEVER THE INPUT: true; the input reads as it did. -/
def bitsAllSpec : ChangeSpec := { name := "bitsAll", fn := fun _ => fun
  | [] => { results := [.lit (.bool true)], args := [] }
  | _ => none }
def bitsAllRow : OpenClaim := { program := "ytkndkecbajfehaa", sum := "46b5ad9146827ca358c94f70c5bc115980580d24167c2dafb6f7e00bd31aacec", func := "vesper/vesperlaw01.BitsAll", spec := "bitsAll", unfollowed := true, recurses := true, apart := false }
def BitsAllSaid : Prop := bitsAllRow.holds Try.pinned (OpenSpec.ofChange bitsAllSpec)

/-- ITS FALSE NEIGHBOUR: 'it returns false'. Refute it at one input. -/
def bitsAllWrong : ChangeSpec := { name := "bitsAll", fn := fun _ => fun
  | [] => { results := [.lit (.bool false)], args := [] }
  | _ => none }
def BitsAllWrongFalsely : Prop := bitsAllRow.holds Try.pinned (OpenSpec.ofChange bitsAllWrong)

/-- 'vesperlaw01.BitsHex': WHATEVER THE INPUT: true; the input reads as it did. -/
def bitsHexSpec : ChangeSpec := { name := "bitsHex", fn := fun _ => fun
  | [d1, d2, d3] => { results := [.lit (.bool true)], args := [d1, d2, d3] }
  | _ => none }
def bitsHexRow : OpenClaim := { program := "ytkndkecbajfehaa", sum := "46b5ad9146827ca358c94f70c5bc115980580d24167c2dafb6f7e00bd31aacec", func := "vesper/vesperlaw01.BitsHex", spec := "bitsHex", unfollowed := true, recurses := true, apart := false }
def BitsHexSaid : Prop := bitsHexRow.holds Try.pinned (OpenSpec.ofChange bitsHexSpec)

/-- ITS FALSE NEIGHBOUR: 'it returns false'. Refute it at one input. -/
def bitsHexWrong : ChangeSpec := { name := "bitsHex", fn := fun _ => fun
  | [d1, d2, d3] => { results := [.lit (.bool false)], args := [d1, d2, d3] }
  | _ => none }
def BitsHexWrongFalsely : Prop := bitsHexRow.holds Try.pinned (OpenSpec.ofChange bitsHexWrong)

/-- 'vesperlaw01.BitsBack': WHATEVER THE INPUT: true; the input reads as it did. -/
def bitsBackSpec : ChangeSpec := { name := "bitsBack", fn := fun _ => fun
  | [d1, d2, d3] => { results := [.lit (.bool true)], args := [d1, d2, d3] }
  | _ => none }
def bitsBackRow : OpenClaim := { program := "ytkndkecbajfehaa", sum := "46b5ad9146827ca358c94f70c5bc115980580d24167c2dafb6f7e00bd31aacec", func := "vesper/vesperlaw01.BitsBack", spec := "bitsBack", unfollowed := true, recurses := true, apart := false }
def BitsBackSaid : Prop := bitsBackRow.holds Try.pinned (OpenSpec.ofChange bitsBackSpec)

/-- ITS FALSE NEIGHBOUR: 'it returns false'. Refute it at one input. -/
def bitsBackWrong : ChangeSpec := { name := "bitsBack", fn := fun _ => fun
  | [d1, d2, d3] => { results := [.lit (.bool false)], args := [d1, d2, d3] }
  | _ => none }
def BitsBackWrongFalsely : Prop := bitsBackRow.holds Try.pinned (OpenSpec.ofChange bitsBackWrong)

/-- 'vesperlaw01.BitsRolls': WHATEVER THE INPUT: true; the input reads as it did. -/
def bitsRollsSpec : ChangeSpec := { name := "bitsRolls", fn := fun _ => fun
  | [d1, d2, d3] => { results := [.lit (.bool true)], args := [d1, d2, d3] }
  | _ => none }
def bitsRollsRow : OpenClaim := { program := "ytkndkecbajfehaa", sum := "46b5ad9146827ca358c94f70c5bc115980580d24167c2dafb6f7e00bd31aacec", func := "vesper/vesperlaw01.BitsRolls", spec := "bitsRolls", unfollowed := true, recurses := true, apart := false }
def BitsRollsSaid : Prop := bitsRollsRow.holds Try.pinned (OpenSpec.ofChange bitsRollsSpec)

/-- ITS FALSE NEIGHBOUR: 'it returns false'. Refute it at one input. -/
def bitsRollsWrong : ChangeSpec := { name := "bitsRolls", fn := fun _ => fun
  | [d1, d2, d3] => { results := [.lit (.bool false)], args := [d1, d2, d3] }
  | _ => none }
def BitsRollsWrongFalsely : Prop := bitsRollsRow.holds Try.pinned (OpenSpec.ofChange bitsRollsWrong)

/-- 'vesperlaw01.BitsWords': WHATEVER THE INPUT: true; the input reads as it did. -/
def bitsWordsSpec : ChangeSpec := { name := "bitsWords", fn := fun _ => fun
  | [d1, d2, d3] => { results := [.lit (.bool true)], args := [d1, d2, d3] }
  | _ => none }
def bitsWordsRow : OpenClaim := { program := "ytkndkecbajfehaa", sum := "46b5ad9146827ca358c94f70c5bc115980580d24167c2dafb6f7e00bd31aacec", func := "vesper/vesperlaw01.BitsWords", spec := "bitsWords", unfollowed := true, recurses := true, apart := false }
def BitsWordsSaid : Prop := bitsWordsRow.holds Try.pinned (OpenSpec.ofChange bitsWordsSpec)

/-- ITS FALSE NEIGHBOUR: 'it returns false'. Refute it at one input. -/
def bitsWordsWrong : ChangeSpec := { name := "bitsWords", fn := fun _ => fun
  | [d1, d2, d3] => { results := [.lit (.bool false)], args := [d1, d2, d3] }
  | _ => none }
def BitsWordsWrongFalsely : Prop := bitsWordsRow.holds Try.pinned (OpenSpec.ofChange bitsWordsWrong)

/-- 'vesperlaw01.BitsLong': WHATEVER THE INPUT: true; the input reads as it did. -/
def bitsLongSpec : ChangeSpec := { name := "bitsLong", fn := fun _ => fun
  | [d1, d2, d3] => { results := [.lit (.bool true)], args := [d1, d2, d3] }
  | _ => none }
def bitsLongRow : OpenClaim := { program := "ytkndkecbajfehaa", sum := "46b5ad9146827ca358c94f70c5bc115980580d24167c2dafb6f7e00bd31aacec", func := "vesper/vesperlaw01.BitsLong", spec := "bitsLong", unfollowed := true, recurses := true, apart := false }
def BitsLongSaid : Prop := bitsLongRow.holds Try.pinned (OpenSpec.ofChange bitsLongSpec)

/-- ITS FALSE NEIGHBOUR: 'it returns false'. Refute it at one input. -/
def bitsLongWrong : ChangeSpec := { name := "bitsLong", fn := fun _ => fun
  | [d1, d2, d3] => { results := [.lit (.bool false)], args := [d1, d2, d3] }
  | _ => none }
def BitsLongWrongFalsely : Prop := bitsLongRow.holds Try.pinned (OpenSpec.ofChange bitsLongWrong)

/- THE SECOND FORM. 'bulk': how many values and letters a reading holds, each counted each time it is reached (what is shared counts as often as it is met; a slice's spare places count too). A statement '..UptoSaid' is the law's where the arguments, and the package variables that the reading takes, are together of bulk at most 1048576: NARROWER than '..Said'. Prove '..Said' where nothing that the law and all that it calls make is longer than what came in: it says more and counts as full. Else prove '..UptoSaid'. A law counts once. -/
mutual
def uptoBulk {H : Type} : DataW H → Nat
  | .lit (.string bytes) => bytes.length + 1
  | .lit _ => 1
  | .nil => 1
  | .ptr d => uptoBulk d + 1
  | .slice elems spare => uptoBulkAll elems + uptoBulkAll spare + 1
  | .agg parts => uptoBulkAll parts + 1
  | .iface _ d => uptoBulk d + 1
  | .map entries => uptoBulkEntries entries + 1
  | .held _ => 1
def uptoBulkAll {H : Type} : List (DataW H) → Nat
  | [] => 0
  | d :: r => uptoBulk d + uptoBulkAll r
def uptoBulkEntries {H : Type} : List (Lit × DataW H) → Nat
  | [] => 0
  | x :: r => uptoBulkEntry x + uptoBulkEntries r
def uptoBulkEntry {H : Type} : Lit × DataW H → Nat
  | (.string bytes, d) => bytes.length + uptoBulk d + 1
  | (_, d) => uptoBulk d + 1
 end
def uptoSmall : (H : Type) → List (DataW H) → Bool := fun _ ds => decide (uptoBulkAll ds ≤ 1048576)
def OpenSpec.upto (s : _root_.Go.ChangeSpec) : _root_.Go.OpenSpec := { _root_.Go.OpenSpec.ofChange s with cond := some uptoSmall }

/-- 'vesperlaw01.BitsNames', WHERE WHAT IT READS IS OF BULK AT MOST 1048576: true; the input reads as it did. -/
def bitsNamesUptoRow : OpenClaim := { program := "ytkndkecbajfehaa", sum := "46b5ad9146827ca358c94f70c5bc115980580d24167c2dafb6f7e00bd31aacec", func := "vesper/vesperlaw01.BitsNames", spec := "bitsNames", unfollowed := true, recurses := true, apart := false, narrowed := true }
def BitsNamesUptoSaid : Prop := bitsNamesUptoRow.holds Try.pinned (OpenSpec.upto bitsNamesSpec)

/-- 'vesperlaw01.BitsDo', WHERE WHAT IT READS IS OF BULK AT MOST 1048576: true; the input reads as it did. -/
def bitsDoUptoRow : OpenClaim := { program := "ytkndkecbajfehaa", sum := "46b5ad9146827ca358c94f70c5bc115980580d24167c2dafb6f7e00bd31aacec", func := "vesper/vesperlaw01.BitsDo", spec := "bitsDo", unfollowed := true, recurses := true, apart := false, narrowed := true }
def BitsDoUptoSaid : Prop := bitsDoUptoRow.holds Try.pinned (OpenSpec.upto bitsDoSpec)

/-- 'vesperlaw01.BitsAll', WHERE WHAT IT READS IS OF BULK AT MOST 1048576: true; the input reads as it did. -/
def bitsAllUptoRow : OpenClaim := { program := "ytkndkecbajfehaa", sum := "46b5ad9146827ca358c94f70c5bc115980580d24167c2dafb6f7e00bd31aacec", func := "vesper/vesperlaw01.BitsAll", spec := "bitsAll", unfollowed := true, recurses := true, apart := false, narrowed := true }
def BitsAllUptoSaid : Prop := bitsAllUptoRow.holds Try.pinned (OpenSpec.upto bitsAllSpec)

/-- 'vesperlaw01.BitsHex', WHERE WHAT IT READS IS OF BULK AT MOST 1048576: true; the input reads as it did. -/
def bitsHexUptoRow : OpenClaim := { program := "ytkndkecbajfehaa", sum := "46b5ad9146827ca358c94f70c5bc115980580d24167c2dafb6f7e00bd31aacec", func := "vesper/vesperlaw01.BitsHex", spec := "bitsHex", unfollowed := true, recurses := true, apart := false, narrowed := true }
def BitsHexUptoSaid : Prop := bitsHexUptoRow.holds Try.pinned (OpenSpec.upto bitsHexSpec)

/-- 'vesperlaw01.BitsBack', WHERE WHAT IT READS IS OF BULK AT MOST 1048576: true; the input reads as it did. -/
def bitsBackUptoRow : OpenClaim := { program := "ytkndkecbajfehaa", sum := "46b5ad9146827ca358c94f70c5bc115980580d24167c2dafb6f7e00bd31aacec", func := "vesper/vesperlaw01.BitsBack", spec := "bitsBack", unfollowed := true, recurses := true, apart := false, narrowed := true }
def BitsBackUptoSaid : Prop := bitsBackUptoRow.holds Try.pinned (OpenSpec.upto bitsBackSpec)

/-- 'vesperlaw01.BitsRolls', WHERE WHAT IT READS IS OF BULK AT MOST 1048576: true; the input reads as it did. -/
def bitsRollsUptoRow : OpenClaim := { program := "ytkndkecbajfehaa", sum := "46b5ad9146827ca358c94f70c5bc115980580d24167c2dafb6f7e00bd31aacec", func := "vesper/vesperlaw01.BitsRolls", spec := "bitsRolls", unfollowed := true, recurses := true, apart := false, narrowed := true }
def BitsRollsUptoSaid : Prop := bitsRollsUptoRow.holds Try.pinned (OpenSpec.upto bitsRollsSpec)

/-- 'vesperlaw01.BitsWords', WHERE WHAT IT READS IS OF BULK AT MOST 1048576: true; the input reads as it did. -/
def bitsWordsUptoRow : OpenClaim := { program := "ytkndkecbajfehaa", sum := "46b5ad9146827ca358c94f70c5bc115980580d24167c2dafb6f7e00bd31aacec", func := "vesper/vesperlaw01.BitsWords", spec := "bitsWords", unfollowed := true, recurses := true, apart := false, narrowed := true }
def BitsWordsUptoSaid : Prop := bitsWordsUptoRow.holds Try.pinned (OpenSpec.upto bitsWordsSpec)

/-- 'vesperlaw01.BitsLong', WHERE WHAT IT READS IS OF BULK AT MOST 1048576: true; the input reads as it did. -/
def bitsLongUptoRow : OpenClaim := { program := "ytkndkecbajfehaa", sum := "46b5ad9146827ca358c94f70c5bc115980580d24167c2dafb6f7e00bd31aacec", func := "vesper/vesperlaw01.BitsLong", spec := "bitsLong", unfollowed := true, recurses := true, apart := false, narrowed := true }
def BitsLongUptoSaid : Prop := bitsLongUptoRow.holds Try.pinned (OpenSpec.upto bitsLongSpec)

end Rows
end Go.Proofs.Ytkndkecbajfehaa
