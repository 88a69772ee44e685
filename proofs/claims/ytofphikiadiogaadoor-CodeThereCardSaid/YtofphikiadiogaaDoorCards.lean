/-
  DERIVED. GIVEN WITH THE SEED: THE CARDS: each row of YtofphikiadiogaaDoorRows.lean that lists a variable, with what it lists TIED to the program's text (the seventh form; the later family's looks); each row that meets fmt, with fmt's text TOLD by the authors' own Lean function (tested against real Go, not proved from fmt's source: count such statements apart). THE CARD IS WHAT COUNTS. Prove the row's statement (the work); the ties are given (YtofphikiadiogaaDoorTie.lean); close each card by the builder's one call (the guide's Derived/Test/ToyasCard.lean, 'card_holds'). Laid BY PROGRAM, IN A SANDBOX (cutbox-door.mjs). By AI agents, Wed Nov 11 2026. No macro, syntax, notation, axiom, sorry.
-/
import Derived.Test.YtofphikiadiogaaDoorRows
import GoSem.ClaimSeven
namespace Go.Proofs.YtofphikiadiogaaDoor
namespace Rows

/-- THE TIED CARD OF 'vesperlaw02.CodeCuts'. -/
def codeCutsCard : Claim7 := { stood := { row := codeCutsRow, standIns := [], harness := (true, "dc1bd9c23235db68a878ad9f5dc99840dcd7ca1cedab8410d9a5604d4c8f7cec"), looks := false }, kinds := [], alts := [], laidByText := true, laidKinds := [.data, .data, .data, .data, .data, .data], laidTests := true, laidLooks := .later }
def CodeCutsCardSaid : Prop := Claim7.holds Tryd.pinned (.plain (OpenSpec.ofChange codeCutsSpec)) codeCutsCard

/-- THE TIED CARD OF 'vesperlaw02.CodeOps'. -/
def codeOpsCard : Claim7 := { stood := { row := codeOpsRow, standIns := [], harness := (true, "dc1bd9c23235db68a878ad9f5dc99840dcd7ca1cedab8410d9a5604d4c8f7cec"), looks := false }, kinds := [], alts := [], laidByText := true, laidKinds := [.data, .data, .data, .data, .data, .data], laidTests := true, laidLooks := .later }
def CodeOpsCardSaid : Prop := Claim7.holds Tryd.pinned (.plain (OpenSpec.ofChange codeOpsSpec)) codeOpsCard

/-- THE TIED CARD OF 'vesperlaw02.CodeLines'. -/
def codeLinesCard : Claim7 := { stood := { row := codeLinesRow, standIns := [], harness := (true, "dc1bd9c23235db68a878ad9f5dc99840dcd7ca1cedab8410d9a5604d4c8f7cec"), looks := false }, kinds := [], alts := [], laidByText := true, laidKinds := [.data, .data, .data, .data, .data, .data, .data], laidTests := true, laidLooks := .later }
def CodeLinesCardSaid : Prop := Claim7.holds Tryd.pinned (.plain (OpenSpec.ofChange codeLinesSpec)) codeLinesCard

/-- THE TIED CARD OF 'vesperlaw02.CodeThere'. -/
def codeThereCard : Claim7 := { stood := { row := codeThereRow, standIns := [], harness := (true, "dc1bd9c23235db68a878ad9f5dc99840dcd7ca1cedab8410d9a5604d4c8f7cec"), looks := false }, kinds := [], alts := [], laidByText := true, laidKinds := [.data, .data, .data, .data, .data, .data, .data], laidTests := true, laidLooks := .later }
def CodeThereCardSaid : Prop := Claim7.holds Tryd.pinned (.plain (OpenSpec.ofChange codeThereSpec)) codeThereCard

/-- THE TIED CARD OF 'vesperlaw02.CodeExact'. -/
def codeExactCard : Claim7 := { stood := { row := codeExactRow, standIns := [], harness := (true, "dc1bd9c23235db68a878ad9f5dc99840dcd7ca1cedab8410d9a5604d4c8f7cec"), looks := false }, kinds := [], alts := [], laidByText := true, laidKinds := [.data, .data, .data, .data, .data, .data, .data], laidTests := true, laidLooks := .later }
def CodeExactCardSaid : Prop := Claim7.holds Tryd.pinned (.plain (OpenSpec.ofChange codeExactSpec)) codeExactCard

/-- THE SECOND FORM's CARD OF 'vesperlaw02.CodeCuts'. -/
def codeCutsUptoCard : Claim7 := { stood := { row := codeCutsUptoRow, standIns := [], harness := (true, "dc1bd9c23235db68a878ad9f5dc99840dcd7ca1cedab8410d9a5604d4c8f7cec"), looks := false }, kinds := [], alts := [], laidByText := true, laidKinds := [.data, .data, .data, .data, .data, .data], laidTests := true, laidLooks := .later }
def CodeCutsUptoCardSaid : Prop := Claim7.holds Tryd.pinned (.plain (OpenSpec.upto codeCutsSpec)) codeCutsUptoCard

/-- THE SECOND FORM's CARD OF 'vesperlaw02.CodeOps'. -/
def codeOpsUptoCard : Claim7 := { stood := { row := codeOpsUptoRow, standIns := [], harness := (true, "dc1bd9c23235db68a878ad9f5dc99840dcd7ca1cedab8410d9a5604d4c8f7cec"), looks := false }, kinds := [], alts := [], laidByText := true, laidKinds := [.data, .data, .data, .data, .data, .data], laidTests := true, laidLooks := .later }
def CodeOpsUptoCardSaid : Prop := Claim7.holds Tryd.pinned (.plain (OpenSpec.upto codeOpsSpec)) codeOpsUptoCard

/-- THE SECOND FORM's CARD OF 'vesperlaw02.CodeLines'. -/
def codeLinesUptoCard : Claim7 := { stood := { row := codeLinesUptoRow, standIns := [], harness := (true, "dc1bd9c23235db68a878ad9f5dc99840dcd7ca1cedab8410d9a5604d4c8f7cec"), looks := false }, kinds := [], alts := [], laidByText := true, laidKinds := [.data, .data, .data, .data, .data, .data, .data], laidTests := true, laidLooks := .later }
def CodeLinesUptoCardSaid : Prop := Claim7.holds Tryd.pinned (.plain (OpenSpec.upto codeLinesSpec)) codeLinesUptoCard

/-- THE SECOND FORM's CARD OF 'vesperlaw02.CodeThere'. -/
def codeThereUptoCard : Claim7 := { stood := { row := codeThereUptoRow, standIns := [], harness := (true, "dc1bd9c23235db68a878ad9f5dc99840dcd7ca1cedab8410d9a5604d4c8f7cec"), looks := false }, kinds := [], alts := [], laidByText := true, laidKinds := [.data, .data, .data, .data, .data, .data, .data], laidTests := true, laidLooks := .later }
def CodeThereUptoCardSaid : Prop := Claim7.holds Tryd.pinned (.plain (OpenSpec.upto codeThereSpec)) codeThereUptoCard

/-- THE SECOND FORM's CARD OF 'vesperlaw02.CodeExact'. -/
def codeExactUptoCard : Claim7 := { stood := { row := codeExactUptoRow, standIns := [], harness := (true, "dc1bd9c23235db68a878ad9f5dc99840dcd7ca1cedab8410d9a5604d4c8f7cec"), looks := false }, kinds := [], alts := [], laidByText := true, laidKinds := [.data, .data, .data, .data, .data, .data, .data], laidTests := true, laidLooks := .later }
def CodeExactUptoCardSaid : Prop := Claim7.holds Tryd.pinned (.plain (OpenSpec.upto codeExactSpec)) codeExactUptoCard
end Rows
end Go.Proofs.YtofphikiadiogaaDoor
