/-
  DERIVED. GIVEN WITH THE SEED: THE CARDS: each row of YtjnoacnbhcdidaaDoorRows.lean that lists a variable, with what it lists TIED to the program's text (the seventh form; the later family's looks); each row that meets fmt, with fmt's text TOLD by the authors' own Lean function (tested against real Go, not proved from fmt's source: count such statements apart). THE CARD IS WHAT COUNTS. Prove the row's statement (the work); the ties are given (YtjnoacnbhcdidaaDoorTie.lean); close each card by the builder's one call (the guide's Derived/Test/ToyasCard.lean, 'card_holds'). Laid BY PROGRAM, IN A SANDBOX (cutbox-door.mjs). By AI agents, Wed Nov 11 2026. No macro, syntax, notation, axiom, sorry.
-/
import Derived.Test.YtjnoacnbhcdidaaDoorRows
import GoSem.ClaimSeven
namespace Go.Proofs.YtjnoacnbhcdidaaDoor
namespace Rows

/-- THE TIED CARD OF 'vesperlaw04.CPUMemory'. -/
def cPUMemoryCard : Claim7 := { stood := { row := cPUMemoryRow, standIns := [], harness := (true, "98511fce54f280b5b40febb657e91666cb70590ac639b19bf718eb3ee594e96a"), looks := false }, kinds := [], alts := [], laidByText := true, laidKinds := [.data], laidTests := true, laidLooks := .later }
def CPUMemoryCardSaid : Prop := Claim7.holds Tryd.pinned (.plain (OpenSpec.ofChange cPUMemorySpec)) cPUMemoryCard

/-- THE TIED CARD OF 'vesperlaw04.CPUExact'. -/
def cPUExactCard : Claim7 := { stood := { row := cPUExactRow, standIns := [], harness := (true, "98511fce54f280b5b40febb657e91666cb70590ac639b19bf718eb3ee594e96a"), looks := false }, kinds := [], alts := [], laidByText := true, laidKinds := [.data], laidTests := true, laidLooks := .later }
def CPUExactCardSaid : Prop := Claim7.holds Tryd.pinned (.plain (OpenSpec.ofChange cPUExactSpec)) cPUExactCard

/-- THE TIED CARD OF 'vesperlaw04.CPUMay'. -/
def cPUMayCard : Claim7 := { stood := { row := cPUMayRow, standIns := [], harness := (true, "98511fce54f280b5b40febb657e91666cb70590ac639b19bf718eb3ee594e96a"), looks := false }, kinds := [], alts := [], laidByText := true, laidKinds := [.data], laidTests := true, laidLooks := .later }
def CPUMayCardSaid : Prop := Claim7.holds Tryd.pinned (.plain (OpenSpec.ofChange cPUMaySpec)) cPUMayCard

/-- THE TIED CARD OF 'vesperlaw04.CPUDeaf'. -/
def cPUDeafCard : Claim7 := { stood := { row := cPUDeafRow, standIns := [], harness := (true, "98511fce54f280b5b40febb657e91666cb70590ac639b19bf718eb3ee594e96a"), looks := false }, kinds := [], alts := [], laidByText := true, laidKinds := [.data], laidTests := true, laidLooks := .later }
def CPUDeafCardSaid : Prop := Claim7.holds Tryd.pinned (.plain (OpenSpec.ofChange cPUDeafSpec)) cPUDeafCard

/-- THE TIED CARD OF 'vesperlaw04.CPUAsked'. -/
def cPUAskedCard : Claim7 := { stood := { row := cPUAskedRow, standIns := [], harness := (true, "98511fce54f280b5b40febb657e91666cb70590ac639b19bf718eb3ee594e96a"), looks := false }, kinds := [], alts := [], laidByText := true, laidKinds := [.data], laidTests := true, laidLooks := .later }
def CPUAskedCardSaid : Prop := Claim7.holds Tryd.pinned (.plain (OpenSpec.ofChange cPUAskedSpec)) cPUAskedCard

/-- THE TIED CARD OF 'vesperlaw04.CPULoop'. -/
def cPULoopCard : Claim7 := { stood := { row := cPULoopRow, standIns := [], harness := (true, "98511fce54f280b5b40febb657e91666cb70590ac639b19bf718eb3ee594e96a"), looks := false }, kinds := [], alts := [], laidByText := true, laidKinds := [.data], laidTests := true, laidLooks := .later }
def CPULoopCardSaid : Prop := Claim7.holds Tryd.pinned (.plain (OpenSpec.ofChange cPULoopSpec)) cPULoopCard

/-- THE TIED CARD OF 'vesperlaw04.CPUAdds'. -/
def cPUAddsCard : Claim7 := { stood := { row := cPUAddsRow, standIns := [], harness := (true, "98511fce54f280b5b40febb657e91666cb70590ac639b19bf718eb3ee594e96a"), looks := false }, kinds := [], alts := [], laidByText := true, laidKinds := [.data], laidTests := true, laidLooks := .later }
def CPUAddsCardSaid : Prop := Claim7.holds Tryd.pinned (.plain (OpenSpec.ofChange cPUAddsSpec)) cPUAddsCard

/-- THE TIED CARD OF 'vesperlaw04.CPUSaves'. -/
def cPUSavesCard : Claim7 := { stood := { row := cPUSavesRow, standIns := [], harness := (true, "98511fce54f280b5b40febb657e91666cb70590ac639b19bf718eb3ee594e96a"), looks := false }, kinds := [], alts := [], laidByText := true, laidKinds := [.data], laidTests := true, laidLooks := .later }
def CPUSavesCardSaid : Prop := Claim7.holds Tryd.pinned (.plain (OpenSpec.ofChange cPUSavesSpec)) cPUSavesCard

/-- THE SECOND FORM's CARD OF 'vesperlaw04.CPUMemory'. -/
def cPUMemoryUptoCard : Claim7 := { stood := { row := cPUMemoryUptoRow, standIns := [], harness := (true, "98511fce54f280b5b40febb657e91666cb70590ac639b19bf718eb3ee594e96a"), looks := false }, kinds := [], alts := [], laidByText := true, laidKinds := [.data], laidTests := true, laidLooks := .later }
def CPUMemoryUptoCardSaid : Prop := Claim7.holds Tryd.pinned (.plain (OpenSpec.upto cPUMemorySpec)) cPUMemoryUptoCard

/-- THE SECOND FORM's CARD OF 'vesperlaw04.CPUExact'. -/
def cPUExactUptoCard : Claim7 := { stood := { row := cPUExactUptoRow, standIns := [], harness := (true, "98511fce54f280b5b40febb657e91666cb70590ac639b19bf718eb3ee594e96a"), looks := false }, kinds := [], alts := [], laidByText := true, laidKinds := [.data], laidTests := true, laidLooks := .later }
def CPUExactUptoCardSaid : Prop := Claim7.holds Tryd.pinned (.plain (OpenSpec.upto cPUExactSpec)) cPUExactUptoCard

/-- THE SECOND FORM's CARD OF 'vesperlaw04.CPUMay'. -/
def cPUMayUptoCard : Claim7 := { stood := { row := cPUMayUptoRow, standIns := [], harness := (true, "98511fce54f280b5b40febb657e91666cb70590ac639b19bf718eb3ee594e96a"), looks := false }, kinds := [], alts := [], laidByText := true, laidKinds := [.data], laidTests := true, laidLooks := .later }
def CPUMayUptoCardSaid : Prop := Claim7.holds Tryd.pinned (.plain (OpenSpec.upto cPUMaySpec)) cPUMayUptoCard

/-- THE SECOND FORM's CARD OF 'vesperlaw04.CPUDeaf'. -/
def cPUDeafUptoCard : Claim7 := { stood := { row := cPUDeafUptoRow, standIns := [], harness := (true, "98511fce54f280b5b40febb657e91666cb70590ac639b19bf718eb3ee594e96a"), looks := false }, kinds := [], alts := [], laidByText := true, laidKinds := [.data], laidTests := true, laidLooks := .later }
def CPUDeafUptoCardSaid : Prop := Claim7.holds Tryd.pinned (.plain (OpenSpec.upto cPUDeafSpec)) cPUDeafUptoCard

/-- THE SECOND FORM's CARD OF 'vesperlaw04.CPUAsked'. -/
def cPUAskedUptoCard : Claim7 := { stood := { row := cPUAskedUptoRow, standIns := [], harness := (true, "98511fce54f280b5b40febb657e91666cb70590ac639b19bf718eb3ee594e96a"), looks := false }, kinds := [], alts := [], laidByText := true, laidKinds := [.data], laidTests := true, laidLooks := .later }
def CPUAskedUptoCardSaid : Prop := Claim7.holds Tryd.pinned (.plain (OpenSpec.upto cPUAskedSpec)) cPUAskedUptoCard

/-- THE SECOND FORM's CARD OF 'vesperlaw04.CPULoop'. -/
def cPULoopUptoCard : Claim7 := { stood := { row := cPULoopUptoRow, standIns := [], harness := (true, "98511fce54f280b5b40febb657e91666cb70590ac639b19bf718eb3ee594e96a"), looks := false }, kinds := [], alts := [], laidByText := true, laidKinds := [.data], laidTests := true, laidLooks := .later }
def CPULoopUptoCardSaid : Prop := Claim7.holds Tryd.pinned (.plain (OpenSpec.upto cPULoopSpec)) cPULoopUptoCard

/-- THE SECOND FORM's CARD OF 'vesperlaw04.CPUAdds'. -/
def cPUAddsUptoCard : Claim7 := { stood := { row := cPUAddsUptoRow, standIns := [], harness := (true, "98511fce54f280b5b40febb657e91666cb70590ac639b19bf718eb3ee594e96a"), looks := false }, kinds := [], alts := [], laidByText := true, laidKinds := [.data], laidTests := true, laidLooks := .later }
def CPUAddsUptoCardSaid : Prop := Claim7.holds Tryd.pinned (.plain (OpenSpec.upto cPUAddsSpec)) cPUAddsUptoCard

/-- THE SECOND FORM's CARD OF 'vesperlaw04.CPUSaves'. -/
def cPUSavesUptoCard : Claim7 := { stood := { row := cPUSavesUptoRow, standIns := [], harness := (true, "98511fce54f280b5b40febb657e91666cb70590ac639b19bf718eb3ee594e96a"), looks := false }, kinds := [], alts := [], laidByText := true, laidKinds := [.data], laidTests := true, laidLooks := .later }
def CPUSavesUptoCardSaid : Prop := Claim7.holds Tryd.pinned (.plain (OpenSpec.upto cPUSavesSpec)) cPUSavesUptoCard
end Rows
end Go.Proofs.YtjnoacnbhcdidaaDoor
