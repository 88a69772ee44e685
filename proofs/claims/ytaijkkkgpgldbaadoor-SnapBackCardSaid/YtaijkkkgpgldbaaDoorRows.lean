/-
  NARROWER THAN 'FOR EVERY INPUT', by the rows' own cells (each row's printed sentence says how): SnapNames: laid · SnapSaves: laid · SnapLoads: laid · SnapMade: laid · SnapBack: laid · SnapTurned: laid.
  DERIVED. THE GIVEN ROWS OF THIS SEAT. 6 by the template 'for every input the law returns true; each argument reads behind the call as it read before'; 0 by the template 'total and deterministic' (their statements: YtaijkkkgpgldbaaDoorTotals.lean).
  GIVEN WITH THE SEED: the statements are not yours to turn. If you find one false, say at which input.
  Laid BY PROGRAM, IN A SANDBOX (cutbox-rows.mjs): the forced cells as the released guide's own fill.sh prints them over the translation 25de6b0ac18cd1c4… (all of the seat's roots in one cut). By AI agents, Wed Nov 11 2026. No macro, syntax, notation, axiom, sorry.
-/
import Derived.Test.YtaijkkkgpgldbaaDoorChecked
import GoSem.Claim
import GoSem.ClaimJoined
import GoSem.ClaimMapViews
import Derived.JoinedTies
import Derived.KernelRfl
namespace Go.Proofs.YtaijkkkgpgldbaaDoor
/- THE CELL 'sum', in the pinned program and in every row, IS THE sha256 OF THE DUMP (.gsa) THAT YtaijkkkgpgldbaaDoorProg.lean LOADS. Nothing in Lean hashes anything: it is a label: what it is worth is what the hold of that sum in a sandbox is worth. -/
noncomputable def Tryd.pinned : Pinned := { name := "ytaijkkkgpgldbaadoor", sum := "25de6b0ac18cd1c4c60f0c195458ae2375e1c3e9d5072280e4abea90c65cb285", checked := Tryd.checked }
namespace Rows
def none {H : Type} : Left H := { results := [], args := [] }

/- WHAT THE LISTED PACKAGE-LEVEL VARIABLES READ AS WHEN THE CALL BEGINS. Each datum BY PROGRAM (the guide's laid-datum.mjs) off the statement by which the dump's own 'gosem.cut.vars' lays the variable. In a bare row this is a premise. The card (YtaijkkkgpgldbaaDoorCards.lean) ties it to the program's text. -/
def laid_vesper_pixie_shown {H : Type} : DataW H := .agg [.agg [.lit (.int .i64 80), .lit (.int .i64 207)]]

/-- 'vesperlaw21.SnapNames': WHATEVER THE INPUT: true; the input reads as it did. -/
def snapNamesSpec : ChangeSpec := { name := "snapNames", fn := fun _ => fun
  | [] => { results := [.lit (.bool true)], args := [] }
  | _ => none }
def snapNamesRow : OpenClaim := { program := "ytaijkkkgpgldbaadoor", sum := "25de6b0ac18cd1c4c60f0c195458ae2375e1c3e9d5072280e4abea90c65cb285", func := "vesper/vesperlaw21.SnapNames", spec := "snapNames", unfollowed := true, recurses := true, named := ["vesper/pixie.shown"], apart := false, laid := [("vesper/pixie.shown", laid_vesper_pixie_shown)] }
def SnapNamesSaid : Prop := snapNamesRow.holds Tryd.pinned (OpenSpec.ofChange snapNamesSpec)

/-- ITS FALSE NEIGHBOUR: 'it returns false'. Refute it at one input. -/
def snapNamesWrong : ChangeSpec := { name := "snapNames", fn := fun _ => fun
  | [] => { results := [.lit (.bool false)], args := [] }
  | _ => none }
def SnapNamesWrongFalsely : Prop := snapNamesRow.holds Tryd.pinned (OpenSpec.ofChange snapNamesWrong)

/-- 'vesperlaw21.SnapSaves': WHATEVER THE INPUT: true; the input reads as it did. -/
def snapSavesSpec : ChangeSpec := { name := "snapSaves", fn := fun _ => fun
  | [d] => { results := [.lit (.bool true)], args := [d] }
  | _ => none }
def snapSavesRow : OpenClaim := { program := "ytaijkkkgpgldbaadoor", sum := "25de6b0ac18cd1c4c60f0c195458ae2375e1c3e9d5072280e4abea90c65cb285", func := "vesper/vesperlaw21.SnapSaves", spec := "snapSaves", unfollowed := true, recurses := true, named := ["vesper/pixie.shown"], apart := false, laid := [("vesper/pixie.shown", laid_vesper_pixie_shown)] }
def SnapSavesSaid : Prop := snapSavesRow.holds Tryd.pinned (OpenSpec.ofChange snapSavesSpec)

/-- ITS FALSE NEIGHBOUR: 'it returns false'. Refute it at one input. -/
def snapSavesWrong : ChangeSpec := { name := "snapSaves", fn := fun _ => fun
  | [d] => { results := [.lit (.bool false)], args := [d] }
  | _ => none }
def SnapSavesWrongFalsely : Prop := snapSavesRow.holds Tryd.pinned (OpenSpec.ofChange snapSavesWrong)

/-- 'vesperlaw21.SnapLoads': WHATEVER THE INPUT: true; the input reads as it did. -/
def snapLoadsSpec : ChangeSpec := { name := "snapLoads", fn := fun _ => fun
  | [d] => { results := [.lit (.bool true)], args := [d] }
  | _ => none }
def snapLoadsRow : OpenClaim := { program := "ytaijkkkgpgldbaadoor", sum := "25de6b0ac18cd1c4c60f0c195458ae2375e1c3e9d5072280e4abea90c65cb285", func := "vesper/vesperlaw21.SnapLoads", spec := "snapLoads", unfollowed := true, recurses := true, named := ["vesper/pixie.shown"], apart := false, laid := [("vesper/pixie.shown", laid_vesper_pixie_shown)] }
def SnapLoadsSaid : Prop := snapLoadsRow.holds Tryd.pinned (OpenSpec.ofChange snapLoadsSpec)

/-- ITS FALSE NEIGHBOUR: 'it returns false'. Refute it at one input. -/
def snapLoadsWrong : ChangeSpec := { name := "snapLoads", fn := fun _ => fun
  | [d] => { results := [.lit (.bool false)], args := [d] }
  | _ => none }
def SnapLoadsWrongFalsely : Prop := snapLoadsRow.holds Tryd.pinned (OpenSpec.ofChange snapLoadsWrong)

/-- 'vesperlaw21.SnapMade': WHATEVER THE INPUT: true; the input reads as it did. -/
def snapMadeSpec : ChangeSpec := { name := "snapMade", fn := fun _ => fun
  | [d1, d2, d3] => { results := [.lit (.bool true)], args := [d1, d2, d3] }
  | _ => none }
def snapMadeRow : OpenClaim := { program := "ytaijkkkgpgldbaadoor", sum := "25de6b0ac18cd1c4c60f0c195458ae2375e1c3e9d5072280e4abea90c65cb285", func := "vesper/vesperlaw21.SnapMade", spec := "snapMade", unfollowed := true, recurses := true, named := ["vesper/pixie.shown"], apart := false, laid := [("vesper/pixie.shown", laid_vesper_pixie_shown)] }
def SnapMadeSaid : Prop := snapMadeRow.holds Tryd.pinned (OpenSpec.ofChange snapMadeSpec)

/-- ITS FALSE NEIGHBOUR: 'it returns false'. Refute it at one input. -/
def snapMadeWrong : ChangeSpec := { name := "snapMade", fn := fun _ => fun
  | [d1, d2, d3] => { results := [.lit (.bool false)], args := [d1, d2, d3] }
  | _ => none }
def SnapMadeWrongFalsely : Prop := snapMadeRow.holds Tryd.pinned (OpenSpec.ofChange snapMadeWrong)

/-- 'vesperlaw21.SnapBack': WHATEVER THE INPUT: true; the input reads as it did. -/
def snapBackSpec : ChangeSpec := { name := "snapBack", fn := fun _ => fun
  | [d1, d2] => { results := [.lit (.bool true)], args := [d1, d2] }
  | _ => none }
def snapBackRow : OpenClaim := { program := "ytaijkkkgpgldbaadoor", sum := "25de6b0ac18cd1c4c60f0c195458ae2375e1c3e9d5072280e4abea90c65cb285", func := "vesper/vesperlaw21.SnapBack", spec := "snapBack", unfollowed := true, recurses := true, named := ["vesper/pixie.shown"], apart := false, laid := [("vesper/pixie.shown", laid_vesper_pixie_shown)] }
def SnapBackSaid : Prop := snapBackRow.holds Tryd.pinned (OpenSpec.ofChange snapBackSpec)

/-- ITS FALSE NEIGHBOUR: 'it returns false'. Refute it at one input. -/
def snapBackWrong : ChangeSpec := { name := "snapBack", fn := fun _ => fun
  | [d1, d2] => { results := [.lit (.bool false)], args := [d1, d2] }
  | _ => none }
def SnapBackWrongFalsely : Prop := snapBackRow.holds Tryd.pinned (OpenSpec.ofChange snapBackWrong)

/-- 'vesperlaw21.SnapTurned': WHATEVER THE INPUT: true; the input reads as it did. -/
def snapTurnedSpec : ChangeSpec := { name := "snapTurned", fn := fun _ => fun
  | [d1, d2, d3] => { results := [.lit (.bool true)], args := [d1, d2, d3] }
  | _ => none }
def snapTurnedRow : OpenClaim := { program := "ytaijkkkgpgldbaadoor", sum := "25de6b0ac18cd1c4c60f0c195458ae2375e1c3e9d5072280e4abea90c65cb285", func := "vesper/vesperlaw21.SnapTurned", spec := "snapTurned", unfollowed := true, recurses := true, named := ["vesper/pixie.shown"], apart := false, laid := [("vesper/pixie.shown", laid_vesper_pixie_shown)] }
def SnapTurnedSaid : Prop := snapTurnedRow.holds Tryd.pinned (OpenSpec.ofChange snapTurnedSpec)

/-- ITS FALSE NEIGHBOUR: 'it returns false'. Refute it at one input. -/
def snapTurnedWrong : ChangeSpec := { name := "snapTurned", fn := fun _ => fun
  | [d1, d2, d3] => { results := [.lit (.bool false)], args := [d1, d2, d3] }
  | _ => none }
def SnapTurnedWrongFalsely : Prop := snapTurnedRow.holds Tryd.pinned (OpenSpec.ofChange snapTurnedWrong)

/- THE SECOND FORM. 'bulk': how many values and letters a reading holds, each counted each time it is reached (what is shared counts as often as it is met; a slice's spare places count too). A statement '..UptoSaid' is the law's where the arguments, and the package variables that the reading takes, are together of bulk at most 1048576: NARROWER than '..Said'. Prove '..Said' where nothing that the law and all that it calls make is longer than what came in: it says more and counts as full. Else prove '..UptoSaid'. A law counts once. -/
mutual
def uptoBulk {H : Type} : DataW H → Nat
  | .lit (.string bytes) => bytes.length + 1
  | .lit _ => 1
  | .nil => 1
  | .ptr d => uptoBulk d + 1
  | .slice elems spare => uptoBulkAll elems + uptoBulkAll spare + 1
  | .agg parts => uptoBulkAll parts + 1
  | .iface _ d => uptoBulk d + 1
  | .map entries => uptoBulkEntries entries + 1
  | .held _ => 1
def uptoBulkAll {H : Type} : List (DataW H) → Nat
  | [] => 0
  | d :: r => uptoBulk d + uptoBulkAll r
def uptoBulkEntries {H : Type} : List (Lit × DataW H) → Nat
  | [] => 0
  | x :: r => uptoBulkEntry x + uptoBulkEntries r
def uptoBulkEntry {H : Type} : Lit × DataW H → Nat
  | (.string bytes, d) => bytes.length + uptoBulk d + 1
  | (_, d) => uptoBulk d + 1
 end
def uptoSmall : (H : Type) → List (DataW H) → Bool := fun _ ds => decide (uptoBulkAll ds ≤ 1048576)
def OpenSpec.upto (s : _root_.Go.ChangeSpec) : _root_.Go.OpenSpec := { _root_.Go.OpenSpec.ofChange s with cond := some uptoSmall }

/-- 'vesperlaw21.SnapNames', WHERE WHAT IT READS IS OF BULK AT MOST 1048576: true; the input reads as it did. -/
def snapNamesUptoRow : OpenClaim := { program := "ytaijkkkgpgldbaadoor", sum := "25de6b0ac18cd1c4c60f0c195458ae2375e1c3e9d5072280e4abea90c65cb285", func := "vesper/vesperlaw21.SnapNames", spec := "snapNames", unfollowed := true, recurses := true, named := ["vesper/pixie.shown"], apart := false, laid := [("vesper/pixie.shown", laid_vesper_pixie_shown)], narrowed := true }
def SnapNamesUptoSaid : Prop := snapNamesUptoRow.holds Tryd.pinned (OpenSpec.upto snapNamesSpec)

/-- 'vesperlaw21.SnapSaves', WHERE WHAT IT READS IS OF BULK AT MOST 1048576: true; the input reads as it did. -/
def snapSavesUptoRow : OpenClaim := { program := "ytaijkkkgpgldbaadoor", sum := "25de6b0ac18cd1c4c60f0c195458ae2375e1c3e9d5072280e4abea90c65cb285", func := "vesper/vesperlaw21.SnapSaves", spec := "snapSaves", unfollowed := true, recurses := true, named := ["vesper/pixie.shown"], apart := false, laid := [("vesper/pixie.shown", laid_vesper_pixie_shown)], narrowed := true }
def SnapSavesUptoSaid : Prop := snapSavesUptoRow.holds Tryd.pinned (OpenSpec.upto snapSavesSpec)

/-- 'vesperlaw21.SnapLoads', WHERE WHAT IT READS IS OF BULK AT MOST 1048576: true; the input reads as it did. -/
def snapLoadsUptoRow : OpenClaim := { program := "ytaijkkkgpgldbaadoor", sum := "25de6b0ac18cd1c4c60f0c195458ae2375e1c3e9d5072280e4abea90c65cb285", func := "vesper/vesperlaw21.SnapLoads", spec := "snapLoads", unfollowed := true, recurses := true, named := ["vesper/pixie.shown"], apart := false, laid := [("vesper/pixie.shown", laid_vesper_pixie_shown)], narrowed := true }
def SnapLoadsUptoSaid : Prop := snapLoadsUptoRow.holds Tryd.pinned (OpenSpec.upto snapLoadsSpec)

/-- 'vesperlaw21.SnapMade', WHERE WHAT IT READS IS OF BULK AT MOST 1048576: true; the input reads as it did. -/
def snapMadeUptoRow : OpenClaim := { program := "ytaijkkkgpgldbaadoor", sum := "25de6b0ac18cd1c4c60f0c195458ae2375e1c3e9d5072280e4abea90c65cb285", func := "vesper/vesperlaw21.SnapMade", spec := "snapMade", unfollowed := true, recurses := true, named := ["vesper/pixie.shown"], apart := false, laid := [("vesper/pixie.shown", laid_vesper_pixie_shown)], narrowed := true }
def SnapMadeUptoSaid : Prop := snapMadeUptoRow.holds Tryd.pinned (OpenSpec.upto snapMadeSpec)

/-- 'vesperlaw21.SnapBack', WHERE WHAT IT READS IS OF BULK AT MOST 1048576: true; the input reads as it did. -/
def snapBackUptoRow : OpenClaim := { program := "ytaijkkkgpgldbaadoor", sum := "25de6b0ac18cd1c4c60f0c195458ae2375e1c3e9d5072280e4abea90c65cb285", func := "vesper/vesperlaw21.SnapBack", spec := "snapBack", unfollowed := true, recurses := true, named := ["vesper/pixie.shown"], apart := false, laid := [("vesper/pixie.shown", laid_vesper_pixie_shown)], narrowed := true }
def SnapBackUptoSaid : Prop := snapBackUptoRow.holds Tryd.pinned (OpenSpec.upto snapBackSpec)

/-- 'vesperlaw21.SnapTurned', WHERE WHAT IT READS IS OF BULK AT MOST 1048576: true; the input reads as it did. -/
def snapTurnedUptoRow : OpenClaim := { program := "ytaijkkkgpgldbaadoor", sum := "25de6b0ac18cd1c4c60f0c195458ae2375e1c3e9d5072280e4abea90c65cb285", func := "vesper/vesperlaw21.SnapTurned", spec := "snapTurned", unfollowed := true, recurses := true, named := ["vesper/pixie.shown"], apart := false, laid := [("vesper/pixie.shown", laid_vesper_pixie_shown)], narrowed := true }
def SnapTurnedUptoSaid : Prop := snapTurnedUptoRow.holds Tryd.pinned (OpenSpec.upto snapTurnedSpec)

end Rows
end Go.Proofs.YtaijkkkgpgldbaaDoor
