/-
  DERIVED. GIVEN WITH THE SEED: THE CARDS: each row of YtabifopphhpciaaGreatDoorRows.lean that lists a variable, with what it lists TIED to the program's text (the seventh form; the later family's looks); each row that meets fmt, with fmt's text TOLD by the authors' own Lean function (tested against real Go, not proved from fmt's source: count such statements apart). THE CARD IS WHAT COUNTS. Prove the row's statement (the work); the ties are given (YtabifopphhpciaaGreatDoorTie.lean); close each card by the builder's one call (the guide's Derived/Test/ToyasCard.lean, 'card_holds'). Laid BY PROGRAM, IN A SANDBOX (cutbox-door.mjs). By AI agents, Wed Nov 11 2026. No macro, syntax, notation, axiom, sorry.
-/
import Derived.Test.YtabifopphhpciaaGreatDoorRows
import GoSem.ClaimSeven
namespace Go.Proofs.YtabifopphhpciaaGreatDoor
namespace Rows

/-- THE TIED CARD OF 'sherdlaw18.ClientPhases'. -/
def clientPhasesCard : Claim7 := { stood := { row := clientPhasesRow, standIns := [], harness := (true, "d016df9a103f1234ac660f077d65c4e6cb202ea5bac9f294e37c5342b7152d88"), looks := true }, kinds := [], alts := [], laidByText := true, laidKinds := [.handle], laidTests := true, laidLooks := .later }
def ClientPhasesCardSaid : Prop := Claim7.holds Tryz.pinned (.plain (OpenSpec.ofChange clientPhasesSpec)) clientPhasesCard

/-- THE TIED CARD OF 'sherdlaw18.ClientWrites'. -/
def clientWritesCard : Claim7 := { stood := { row := clientWritesRow, standIns := [], harness := (true, "d016df9a103f1234ac660f077d65c4e6cb202ea5bac9f294e37c5342b7152d88"), looks := true }, kinds := [], alts := [], laidByText := true, laidKinds := [.handle], laidTests := true, laidLooks := .later }
def ClientWritesCardSaid : Prop := Claim7.holds Tryz.pinned (.plain (OpenSpec.ofChange clientWritesSpec)) clientWritesCard

/-- THE TIED CARD OF 'sherdlaw18.ClientDeaf'. -/
def clientDeafCard : Claim7 := { stood := { row := clientDeafRow, standIns := [], harness := (true, "d016df9a103f1234ac660f077d65c4e6cb202ea5bac9f294e37c5342b7152d88"), looks := true }, kinds := [], alts := [], laidByText := true, laidKinds := [.handle], laidTests := true, laidLooks := .later }
def ClientDeafCardSaid : Prop := Claim7.holds Tryz.pinned (.plain (OpenSpec.ofChange clientDeafSpec)) clientDeafCard

/-- THE TIED CARD OF 'sherdlaw18.ClientAll'. -/
def clientAllCard : Claim7 := { stood := { row := clientAllRow, standIns := [], harness := (true, "d016df9a103f1234ac660f077d65c4e6cb202ea5bac9f294e37c5342b7152d88"), looks := true }, kinds := [], alts := [], laidByText := true, laidKinds := [.handle], laidTests := true, laidLooks := .later }
def ClientAllCardSaid : Prop := Claim7.holds Tryz.pinned (.plain (OpenSpec.ofChange clientAllSpec)) clientAllCard

/-- THE SECOND FORM's CARD OF 'sherdlaw18.ClientPhases'. -/
def clientPhasesUptoCard : Claim7 := { stood := { row := clientPhasesUptoRow, standIns := [], harness := (true, "d016df9a103f1234ac660f077d65c4e6cb202ea5bac9f294e37c5342b7152d88"), looks := true }, kinds := [], alts := [], laidByText := true, laidKinds := [.handle], laidTests := true, laidLooks := .later }
def ClientPhasesUptoCardSaid : Prop := Claim7.holds Tryz.pinned (.plain (OpenSpec.upto clientPhasesSpec)) clientPhasesUptoCard

/-- THE SECOND FORM's CARD OF 'sherdlaw18.ClientWrites'. -/
def clientWritesUptoCard : Claim7 := { stood := { row := clientWritesUptoRow, standIns := [], harness := (true, "d016df9a103f1234ac660f077d65c4e6cb202ea5bac9f294e37c5342b7152d88"), looks := true }, kinds := [], alts := [], laidByText := true, laidKinds := [.handle], laidTests := true, laidLooks := .later }
def ClientWritesUptoCardSaid : Prop := Claim7.holds Tryz.pinned (.plain (OpenSpec.upto clientWritesSpec)) clientWritesUptoCard

/-- THE SECOND FORM's CARD OF 'sherdlaw18.ClientDeaf'. -/
def clientDeafUptoCard : Claim7 := { stood := { row := clientDeafUptoRow, standIns := [], harness := (true, "d016df9a103f1234ac660f077d65c4e6cb202ea5bac9f294e37c5342b7152d88"), looks := true }, kinds := [], alts := [], laidByText := true, laidKinds := [.handle], laidTests := true, laidLooks := .later }
def ClientDeafUptoCardSaid : Prop := Claim7.holds Tryz.pinned (.plain (OpenSpec.upto clientDeafSpec)) clientDeafUptoCard

/-- THE SECOND FORM's CARD OF 'sherdlaw18.ClientAll'. -/
def clientAllUptoCard : Claim7 := { stood := { row := clientAllUptoRow, standIns := [], harness := (true, "d016df9a103f1234ac660f077d65c4e6cb202ea5bac9f294e37c5342b7152d88"), looks := true }, kinds := [], alts := [], laidByText := true, laidKinds := [.handle], laidTests := true, laidLooks := .later }
def ClientAllUptoCardSaid : Prop := Claim7.holds Tryz.pinned (.plain (OpenSpec.upto clientAllSpec)) clientAllUptoCard
end Rows
end Go.Proofs.YtabifopphhpciaaGreatDoor
