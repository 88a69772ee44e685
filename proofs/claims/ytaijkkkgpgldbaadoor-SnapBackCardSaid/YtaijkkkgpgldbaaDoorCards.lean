/-
  DERIVED. GIVEN WITH THE SEED: THE CARDS: each row of YtaijkkkgpgldbaaDoorRows.lean that lists a variable, with what it lists TIED to the program's text (the seventh form; the later family's looks); each row that meets fmt, with fmt's text TOLD by the authors' own Lean function (tested against real Go, not proved from fmt's source: count such statements apart). THE CARD IS WHAT COUNTS. Prove the row's statement (the work); the ties are given (YtaijkkkgpgldbaaDoorTie.lean); close each card by the builder's one call (the guide's Derived/Test/ToyasCard.lean, 'card_holds'). Laid BY PROGRAM, IN A SANDBOX (cutbox-door.mjs). By AI agents, Wed Nov 11 2026. No macro, syntax, notation, axiom, sorry.
-/
import Derived.Test.YtaijkkkgpgldbaaDoorRows
import GoSem.ClaimSeven
namespace Go.Proofs.YtaijkkkgpgldbaaDoor
namespace Rows

/-- THE TIED CARD OF 'vesperlaw21.SnapNames'. -/
def snapNamesCard : Claim7 := { stood := { row := snapNamesRow, standIns := [], harness := (true, "8c08e5b38238f3cca13ff46cf7938c58a14b847b4fe25d2b00e5b0b7cde82beb"), looks := false }, kinds := [], alts := [], laidByText := true, laidKinds := [.widerDeep], laidTests := true, laidLooks := .later }
def SnapNamesCardSaid : Prop := Claim7.holds Tryd.pinned (.plain (OpenSpec.ofChange snapNamesSpec)) snapNamesCard

/-- THE TIED CARD OF 'vesperlaw21.SnapSaves'. -/
def snapSavesCard : Claim7 := { stood := { row := snapSavesRow, standIns := [], harness := (true, "8c08e5b38238f3cca13ff46cf7938c58a14b847b4fe25d2b00e5b0b7cde82beb"), looks := false }, kinds := [], alts := [], laidByText := true, laidKinds := [.widerDeep], laidTests := true, laidLooks := .later }
def SnapSavesCardSaid : Prop := Claim7.holds Tryd.pinned (.plain (OpenSpec.ofChange snapSavesSpec)) snapSavesCard

/-- THE TIED CARD OF 'vesperlaw21.SnapLoads'. -/
def snapLoadsCard : Claim7 := { stood := { row := snapLoadsRow, standIns := [], harness := (true, "8c08e5b38238f3cca13ff46cf7938c58a14b847b4fe25d2b00e5b0b7cde82beb"), looks := false }, kinds := [], alts := [], laidByText := true, laidKinds := [.widerDeep], laidTests := true, laidLooks := .later }
def SnapLoadsCardSaid : Prop := Claim7.holds Tryd.pinned (.plain (OpenSpec.ofChange snapLoadsSpec)) snapLoadsCard

/-- THE TIED CARD OF 'vesperlaw21.SnapMade'. -/
def snapMadeCard : Claim7 := { stood := { row := snapMadeRow, standIns := [], harness := (true, "8c08e5b38238f3cca13ff46cf7938c58a14b847b4fe25d2b00e5b0b7cde82beb"), looks := false }, kinds := [], alts := [], laidByText := true, laidKinds := [.widerDeep], laidTests := true, laidLooks := .later }
def SnapMadeCardSaid : Prop := Claim7.holds Tryd.pinned (.plain (OpenSpec.ofChange snapMadeSpec)) snapMadeCard

/-- THE TIED CARD OF 'vesperlaw21.SnapBack'. -/
def snapBackCard : Claim7 := { stood := { row := snapBackRow, standIns := [], harness := (true, "8c08e5b38238f3cca13ff46cf7938c58a14b847b4fe25d2b00e5b0b7cde82beb"), looks := false }, kinds := [], alts := [], laidByText := true, laidKinds := [.widerDeep], laidTests := true, laidLooks := .later }
def SnapBackCardSaid : Prop := Claim7.holds Tryd.pinned (.plain (OpenSpec.ofChange snapBackSpec)) snapBackCard

/-- THE TIED CARD OF 'vesperlaw21.SnapTurned'. -/
def snapTurnedCard : Claim7 := { stood := { row := snapTurnedRow, standIns := [], harness := (true, "8c08e5b38238f3cca13ff46cf7938c58a14b847b4fe25d2b00e5b0b7cde82beb"), looks := false }, kinds := [], alts := [], laidByText := true, laidKinds := [.widerDeep], laidTests := true, laidLooks := .later }
def SnapTurnedCardSaid : Prop := Claim7.holds Tryd.pinned (.plain (OpenSpec.ofChange snapTurnedSpec)) snapTurnedCard

/-- THE SECOND FORM's CARD OF 'vesperlaw21.SnapNames'. -/
def snapNamesUptoCard : Claim7 := { stood := { row := snapNamesUptoRow, standIns := [], harness := (true, "8c08e5b38238f3cca13ff46cf7938c58a14b847b4fe25d2b00e5b0b7cde82beb"), looks := false }, kinds := [], alts := [], laidByText := true, laidKinds := [.widerDeep], laidTests := true, laidLooks := .later }
def SnapNamesUptoCardSaid : Prop := Claim7.holds Tryd.pinned (.plain (OpenSpec.upto snapNamesSpec)) snapNamesUptoCard

/-- THE SECOND FORM's CARD OF 'vesperlaw21.SnapSaves'. -/
def snapSavesUptoCard : Claim7 := { stood := { row := snapSavesUptoRow, standIns := [], harness := (true, "8c08e5b38238f3cca13ff46cf7938c58a14b847b4fe25d2b00e5b0b7cde82beb"), looks := false }, kinds := [], alts := [], laidByText := true, laidKinds := [.widerDeep], laidTests := true, laidLooks := .later }
def SnapSavesUptoCardSaid : Prop := Claim7.holds Tryd.pinned (.plain (OpenSpec.upto snapSavesSpec)) snapSavesUptoCard

/-- THE SECOND FORM's CARD OF 'vesperlaw21.SnapLoads'. -/
def snapLoadsUptoCard : Claim7 := { stood := { row := snapLoadsUptoRow, standIns := [], harness := (true, "8c08e5b38238f3cca13ff46cf7938c58a14b847b4fe25d2b00e5b0b7cde82beb"), looks := false }, kinds := [], alts := [], laidByText := true, laidKinds := [.widerDeep], laidTests := true, laidLooks := .later }
def SnapLoadsUptoCardSaid : Prop := Claim7.holds Tryd.pinned (.plain (OpenSpec.upto snapLoadsSpec)) snapLoadsUptoCard

/-- THE SECOND FORM's CARD OF 'vesperlaw21.SnapMade'. -/
def snapMadeUptoCard : Claim7 := { stood := { row := snapMadeUptoRow, standIns := [], harness := (true, "8c08e5b38238f3cca13ff46cf7938c58a14b847b4fe25d2b00e5b0b7cde82beb"), looks := false }, kinds := [], alts := [], laidByText := true, laidKinds := [.widerDeep], laidTests := true, laidLooks := .later }
def SnapMadeUptoCardSaid : Prop := Claim7.holds Tryd.pinned (.plain (OpenSpec.upto snapMadeSpec)) snapMadeUptoCard

/-- THE SECOND FORM's CARD OF 'vesperlaw21.SnapBack'. -/
def snapBackUptoCard : Claim7 := { stood := { row := snapBackUptoRow, standIns := [], harness := (true, "8c08e5b38238f3cca13ff46cf7938c58a14b847b4fe25d2b00e5b0b7cde82beb"), looks := false }, kinds := [], alts := [], laidByText := true, laidKinds := [.widerDeep], laidTests := true, laidLooks := .later }
def SnapBackUptoCardSaid : Prop := Claim7.holds Tryd.pinned (.plain (OpenSpec.upto snapBackSpec)) snapBackUptoCard

/-- THE SECOND FORM's CARD OF 'vesperlaw21.SnapTurned'. -/
def snapTurnedUptoCard : Claim7 := { stood := { row := snapTurnedUptoRow, standIns := [], harness := (true, "8c08e5b38238f3cca13ff46cf7938c58a14b847b4fe25d2b00e5b0b7cde82beb"), looks := false }, kinds := [], alts := [], laidByText := true, laidKinds := [.widerDeep], laidTests := true, laidLooks := .later }
def SnapTurnedUptoCardSaid : Prop := Claim7.holds Tryd.pinned (.plain (OpenSpec.upto snapTurnedSpec)) snapTurnedUptoCard
end Rows
end Go.Proofs.YtaijkkkgpgldbaaDoor
