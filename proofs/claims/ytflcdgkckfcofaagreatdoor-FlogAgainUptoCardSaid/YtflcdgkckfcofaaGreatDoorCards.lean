/-
  DERIVED. GIVEN WITH THE SEED: THE CARDS: each row of YtflcdgkckfcofaaGreatDoorRows.lean that lists a variable, with what it lists TIED to the program's text (the seventh form; the later family's looks); each row that meets fmt, with fmt's text TOLD by the authors' own Lean function (tested against real Go, not proved from fmt's source: count such statements apart). THE CARD IS WHAT COUNTS. Prove the row's statement (the work); the ties are given (YtflcdgkckfcofaaGreatDoorTie.lean); close each card by the builder's one call (the guide's Derived/Test/ToyasCard.lean, 'card_holds'). Laid BY PROGRAM, IN A SANDBOX (cutbox-door.mjs). By AI agents, Wed Nov 11 2026. No macro, syntax, notation, axiom, sorry.
-/
import Derived.Test.YtflcdgkckfcofaaGreatDoorRows
import GoSem.ClaimSeven
namespace Go.Proofs.YtflcdgkckfcofaaGreatDoor
namespace Rows

/-- THE TIED CARD OF 'sherdlaw14.FlogOthers'. -/
def flogOthersCard : Claim7 := { stood := { row := flogOthersRow, standIns := [], harness := (true, "75d7cbd732587860b23ec326f3ff40d4d0080bacfbf3d5cb54b39a1d795a0f44"), looks := true }, kinds := [], alts := [], laidByText := true, laidKinds := [.handle, .data], laidTests := true, laidLooks := .later }
def FlogOthersCardSaid : Prop := Claim7.holds Tryz.pinned (.plain (OpenSpec.ofChange flogOthersSpec)) flogOthersCard

/-- THE TIED CARD OF 'sherdlaw14.FlogSmall'. -/
def flogSmallCard : Claim7 := { stood := { row := flogSmallRow, standIns := [], harness := (true, "75d7cbd732587860b23ec326f3ff40d4d0080bacfbf3d5cb54b39a1d795a0f44"), looks := true }, kinds := [], alts := [], laidByText := true, laidKinds := [.handle, .data], laidTests := true, laidLooks := .later }
def FlogSmallCardSaid : Prop := Claim7.holds Tryz.pinned (.plain (OpenSpec.ofChange flogSmallSpec)) flogSmallCard

/-- THE TIED CARD OF 'sherdlaw14.FlogLasts'. -/
def flogLastsCard : Claim7 := { stood := { row := flogLastsRow, standIns := [], harness := (true, "75d7cbd732587860b23ec326f3ff40d4d0080bacfbf3d5cb54b39a1d795a0f44"), looks := true }, kinds := [], alts := [], laidByText := true, laidKinds := [.handle, .data], laidTests := true, laidLooks := .later }
def FlogLastsCardSaid : Prop := Claim7.holds Tryz.pinned (.plain (OpenSpec.ofChange flogLastsSpec)) flogLastsCard

/-- THE TIED CARD OF 'sherdlaw14.FlogAgain'. -/
def flogAgainCard : Claim7 := { stood := { row := flogAgainRow, standIns := [], harness := (true, "75d7cbd732587860b23ec326f3ff40d4d0080bacfbf3d5cb54b39a1d795a0f44"), looks := true }, kinds := [], alts := [], laidByText := true, laidKinds := [.handle, .data], laidTests := true, laidLooks := .later }
def FlogAgainCardSaid : Prop := Claim7.holds Tryz.pinned (.plain (OpenSpec.ofChange flogAgainSpec)) flogAgainCard

/-- THE TIED CARD OF 'sherdlaw14.FlogPlays'. -/
def flogPlaysCard : Claim7 := { stood := { row := flogPlaysRow, standIns := [], harness := (true, "75d7cbd732587860b23ec326f3ff40d4d0080bacfbf3d5cb54b39a1d795a0f44"), looks := true }, kinds := [], alts := [], laidByText := true, laidKinds := [.handle, .data], laidTests := true, laidLooks := .later }
def FlogPlaysCardSaid : Prop := Claim7.holds Tryz.pinned (.plain (OpenSpec.ofChange flogPlaysSpec)) flogPlaysCard

/-- THE SECOND FORM's CARD OF 'sherdlaw14.FlogOthers'. -/
def flogOthersUptoCard : Claim7 := { stood := { row := flogOthersUptoRow, standIns := [], harness := (true, "75d7cbd732587860b23ec326f3ff40d4d0080bacfbf3d5cb54b39a1d795a0f44"), looks := true }, kinds := [], alts := [], laidByText := true, laidKinds := [.handle, .data], laidTests := true, laidLooks := .later }
def FlogOthersUptoCardSaid : Prop := Claim7.holds Tryz.pinned (.plain (OpenSpec.upto flogOthersSpec)) flogOthersUptoCard

/-- THE SECOND FORM's CARD OF 'sherdlaw14.FlogSmall'. -/
def flogSmallUptoCard : Claim7 := { stood := { row := flogSmallUptoRow, standIns := [], harness := (true, "75d7cbd732587860b23ec326f3ff40d4d0080bacfbf3d5cb54b39a1d795a0f44"), looks := true }, kinds := [], alts := [], laidByText := true, laidKinds := [.handle, .data], laidTests := true, laidLooks := .later }
def FlogSmallUptoCardSaid : Prop := Claim7.holds Tryz.pinned (.plain (OpenSpec.upto flogSmallSpec)) flogSmallUptoCard

/-- THE SECOND FORM's CARD OF 'sherdlaw14.FlogLasts'. -/
def flogLastsUptoCard : Claim7 := { stood := { row := flogLastsUptoRow, standIns := [], harness := (true, "75d7cbd732587860b23ec326f3ff40d4d0080bacfbf3d5cb54b39a1d795a0f44"), looks := true }, kinds := [], alts := [], laidByText := true, laidKinds := [.handle, .data], laidTests := true, laidLooks := .later }
def FlogLastsUptoCardSaid : Prop := Claim7.holds Tryz.pinned (.plain (OpenSpec.upto flogLastsSpec)) flogLastsUptoCard

/-- THE SECOND FORM's CARD OF 'sherdlaw14.FlogAgain'. -/
def flogAgainUptoCard : Claim7 := { stood := { row := flogAgainUptoRow, standIns := [], harness := (true, "75d7cbd732587860b23ec326f3ff40d4d0080bacfbf3d5cb54b39a1d795a0f44"), looks := true }, kinds := [], alts := [], laidByText := true, laidKinds := [.handle, .data], laidTests := true, laidLooks := .later }
def FlogAgainUptoCardSaid : Prop := Claim7.holds Tryz.pinned (.plain (OpenSpec.upto flogAgainSpec)) flogAgainUptoCard

/-- THE SECOND FORM's CARD OF 'sherdlaw14.FlogPlays'. -/
def flogPlaysUptoCard : Claim7 := { stood := { row := flogPlaysUptoRow, standIns := [], harness := (true, "75d7cbd732587860b23ec326f3ff40d4d0080bacfbf3d5cb54b39a1d795a0f44"), looks := true }, kinds := [], alts := [], laidByText := true, laidKinds := [.handle, .data], laidTests := true, laidLooks := .later }
def FlogPlaysUptoCardSaid : Prop := Claim7.holds Tryz.pinned (.plain (OpenSpec.upto flogPlaysSpec)) flogPlaysUptoCard
end Rows
end Go.Proofs.YtflcdgkckfcofaaGreatDoor
