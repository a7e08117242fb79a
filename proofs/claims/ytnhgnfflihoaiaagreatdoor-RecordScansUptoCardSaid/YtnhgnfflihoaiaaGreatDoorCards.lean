/-
  DERIVED. GIVEN WITH THE SEED: THE CARDS: each row of YtnhgnfflihoaiaaGreatDoorRows.lean that lists a variable, with what it lists TIED to the program's text (the seventh form; the later family's looks); each row that meets fmt, with fmt's text TOLD by the authors' own Lean function (tested against real Go, not proved from fmt's source: count such statements apart). THE CARD IS WHAT COUNTS. Prove the row's statement (the work); the ties are given (YtnhgnfflihoaiaaGreatDoorTie.lean); close each card by the builder's one call (the guide's Derived/Test/ToyasCard.lean, 'card_holds'). Laid BY PROGRAM, IN A SANDBOX (cutbox-door.mjs). By AI agents, Wed Nov 11 2026. No macro, syntax, notation, axiom, sorry.
-/
import Derived.Test.YtnhgnfflihoaiaaGreatDoorRows
import GoSem.ClaimSeven
namespace Go.Proofs.YtnhgnfflihoaiaaGreatDoor
namespace Rows

/-- THE TIED CARD OF 'sherdlaw11.RecordScans'. -/
def recordScansCard : Claim7 := { stood := { row := recordScansRow, standIns := [], harness := (true, "5312cded3accb4f44c05d8a87ea758e90333430d0c4cc867366ccc4d4cda9c77"), looks := true }, kinds := [], alts := [], laidByText := true, laidKinds := [.data], laidTests := true, laidLooks := .later }
def RecordScansCardSaid : Prop := Claim7.holds Tryz.pinned (.plain (OpenSpec.ofChange recordScansSpec)) recordScansCard

/-- THE SECOND FORM's CARD OF 'sherdlaw11.RecordScans'. -/
def recordScansUptoCard : Claim7 := { stood := { row := recordScansUptoRow, standIns := [], harness := (true, "5312cded3accb4f44c05d8a87ea758e90333430d0c4cc867366ccc4d4cda9c77"), looks := true }, kinds := [], alts := [], laidByText := true, laidKinds := [.data], laidTests := true, laidLooks := .later }
def RecordScansUptoCardSaid : Prop := Claim7.holds Tryz.pinned (.plain (OpenSpec.upto recordScansSpec)) recordScansUptoCard
end Rows
end Go.Proofs.YtnhgnfflihoaiaaGreatDoor
