/-
  DERIVED. GIVEN WITH THE SEED: THE CARDS: each row of YtnhgnfflihoaiaaDoorRows.lean that lists a variable, with what it lists TIED to the program's text (the seventh form; the later family's looks); each row that meets fmt, with fmt's text TOLD by the authors' own Lean function (tested against real Go, not proved from fmt's source: count such statements apart). THE CARD IS WHAT COUNTS. Prove the row's statement (the work); the ties are given (YtnhgnfflihoaiaaDoorTie.lean); close each card by the builder's one call (the guide's Derived/Test/ToyasCard.lean, 'card_holds'). Laid BY PROGRAM, IN A SANDBOX (cutbox-door.mjs). By AI agents, Wed Nov 11 2026. No macro, syntax, notation, axiom, sorry.
-/
import Derived.Test.YtnhgnfflihoaiaaDoorRows
import GoSem.ClaimSeven
namespace Go.Proofs.YtnhgnfflihoaiaaDoor
namespace Rows

/-- THE TIED CARD OF 'sherdlaw11.RecordWrites'. -/
def recordWritesCard : Claim7 := { stood := { row := recordWritesRow, standIns := [], harness := (true, "029d889c4db29097a60df393340a0f544c022535280cddf37ea6a80aff9790b9"), looks := true }, kinds := [], alts := [], laidByText := true, laidKinds := [.data], laidTests := true, laidLooks := .later }
def RecordWritesCardSaid : Prop := Claim7.holds Tryd.pinned (.plain (OpenSpec.ofChange recordWritesSpec)) recordWritesCard

/-- THE TIED CARD OF 'sherdlaw11.RecordSpoilt'. -/
def recordSpoiltCard : Claim7 := { stood := { row := recordSpoiltRow, standIns := [], harness := (true, "029d889c4db29097a60df393340a0f544c022535280cddf37ea6a80aff9790b9"), looks := true }, kinds := [], alts := [], laidByText := true, laidKinds := [.data], laidTests := true, laidLooks := .later }
def RecordSpoiltCardSaid : Prop := Claim7.holds Tryd.pinned (.plain (OpenSpec.ofChange recordSpoiltSpec)) recordSpoiltCard

/-- THE TIED CARD OF 'sherdlaw11.RecordAny'. -/
def recordAnyCard : Claim7 := { stood := { row := recordAnyRow, standIns := [], harness := (true, "029d889c4db29097a60df393340a0f544c022535280cddf37ea6a80aff9790b9"), looks := true }, kinds := [], alts := [], laidByText := true, laidKinds := [.data], laidTests := true, laidLooks := .later }
def RecordAnyCardSaid : Prop := Claim7.holds Tryd.pinned (.plain (OpenSpec.ofChange recordAnySpec)) recordAnyCard

/-- THE TIED CARD OF 'sherdlaw11.RecordBack'. -/
def recordBackCard : Claim7 := { stood := { row := recordBackRow, standIns := [], harness := (true, "029d889c4db29097a60df393340a0f544c022535280cddf37ea6a80aff9790b9"), looks := true }, kinds := [], alts := [], laidByText := true, laidKinds := [.data], laidTests := true, laidLooks := .later }
def RecordBackCardSaid : Prop := Claim7.holds Tryd.pinned (.plain (OpenSpec.ofChange recordBackSpec)) recordBackCard

/-- THE TIED CARD OF 'sherdlaw11.RecordTorn'. -/
def recordTornCard : Claim7 := { stood := { row := recordTornRow, standIns := [], harness := (true, "029d889c4db29097a60df393340a0f544c022535280cddf37ea6a80aff9790b9"), looks := true }, kinds := [], alts := [], laidByText := true, laidKinds := [.data], laidTests := true, laidLooks := .later }
def RecordTornCardSaid : Prop := Claim7.holds Tryd.pinned (.plain (OpenSpec.ofChange recordTornSpec)) recordTornCard

/-- THE SECOND FORM's CARD OF 'sherdlaw11.RecordWrites'. -/
def recordWritesUptoCard : Claim7 := { stood := { row := recordWritesUptoRow, standIns := [], harness := (true, "029d889c4db29097a60df393340a0f544c022535280cddf37ea6a80aff9790b9"), looks := true }, kinds := [], alts := [], laidByText := true, laidKinds := [.data], laidTests := true, laidLooks := .later }
def RecordWritesUptoCardSaid : Prop := Claim7.holds Tryd.pinned (.plain (OpenSpec.upto recordWritesSpec)) recordWritesUptoCard

/-- THE SECOND FORM's CARD OF 'sherdlaw11.RecordSpoilt'. -/
def recordSpoiltUptoCard : Claim7 := { stood := { row := recordSpoiltUptoRow, standIns := [], harness := (true, "029d889c4db29097a60df393340a0f544c022535280cddf37ea6a80aff9790b9"), looks := true }, kinds := [], alts := [], laidByText := true, laidKinds := [.data], laidTests := true, laidLooks := .later }
def RecordSpoiltUptoCardSaid : Prop := Claim7.holds Tryd.pinned (.plain (OpenSpec.upto recordSpoiltSpec)) recordSpoiltUptoCard

/-- THE SECOND FORM's CARD OF 'sherdlaw11.RecordAny'. -/
def recordAnyUptoCard : Claim7 := { stood := { row := recordAnyUptoRow, standIns := [], harness := (true, "029d889c4db29097a60df393340a0f544c022535280cddf37ea6a80aff9790b9"), looks := true }, kinds := [], alts := [], laidByText := true, laidKinds := [.data], laidTests := true, laidLooks := .later }
def RecordAnyUptoCardSaid : Prop := Claim7.holds Tryd.pinned (.plain (OpenSpec.upto recordAnySpec)) recordAnyUptoCard

/-- THE SECOND FORM's CARD OF 'sherdlaw11.RecordBack'. -/
def recordBackUptoCard : Claim7 := { stood := { row := recordBackUptoRow, standIns := [], harness := (true, "029d889c4db29097a60df393340a0f544c022535280cddf37ea6a80aff9790b9"), looks := true }, kinds := [], alts := [], laidByText := true, laidKinds := [.data], laidTests := true, laidLooks := .later }
def RecordBackUptoCardSaid : Prop := Claim7.holds Tryd.pinned (.plain (OpenSpec.upto recordBackSpec)) recordBackUptoCard

/-- THE SECOND FORM's CARD OF 'sherdlaw11.RecordTorn'. -/
def recordTornUptoCard : Claim7 := { stood := { row := recordTornUptoRow, standIns := [], harness := (true, "029d889c4db29097a60df393340a0f544c022535280cddf37ea6a80aff9790b9"), looks := true }, kinds := [], alts := [], laidByText := true, laidKinds := [.data], laidTests := true, laidLooks := .later }
def RecordTornUptoCardSaid : Prop := Claim7.holds Tryd.pinned (.plain (OpenSpec.upto recordTornSpec)) recordTornUptoCard
end Rows
end Go.Proofs.YtnhgnfflihoaiaaDoor
