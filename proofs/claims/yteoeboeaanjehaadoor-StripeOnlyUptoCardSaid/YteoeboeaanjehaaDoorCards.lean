/-
  DERIVED. GIVEN WITH THE SEED: THE CARDS: each row of YteoeboeaanjehaaDoorRows.lean that lists a variable, with what it lists TIED to the program's text (the seventh form; the later family's looks); each row that meets fmt, with fmt's text TOLD by the authors' own Lean function (tested against real Go, not proved from fmt's source: count such statements apart). THE CARD IS WHAT COUNTS. Prove the row's statement (the work); the ties are given (YteoeboeaanjehaaDoorTie.lean); close each card by the builder's one call (the guide's Derived/Test/ToyasCard.lean, 'card_holds'). Laid BY PROGRAM, IN A SANDBOX (cutbox-door.mjs). By AI agents, Wed Nov 11 2026. No macro, syntax, notation, axiom, sorry.
-/
import Derived.Test.YteoeboeaanjehaaDoorRows
import GoSem.ClaimSeven
namespace Go.Proofs.YteoeboeaanjehaaDoor
namespace Rows

/-- THE TIED CARD OF 'sherdlaw05.StripeOnly'. -/
def stripeOnlyCard : Claim7 := { stood := { row := stripeOnlyRow, standIns := [], harness := (true, "fa924bca1db00bd6ad30757ba6caacddcc0f517e370b614afb4e560b5277cde3"), looks := true }, kinds := [], alts := [], laidByText := true, laidKinds := [.handle], laidTests := true, laidLooks := .later }
def StripeOnlyCardSaid : Prop := Claim7.holds Tryd.pinned (.plain (OpenSpec.ofChange stripeOnlySpec)) stripeOnlyCard

/-- THE TIED CARD OF 'sherdlaw05.StripeWhole'. -/
def stripeWholeCard : Claim7 := { stood := { row := stripeWholeRow, standIns := [], harness := (true, "fa924bca1db00bd6ad30757ba6caacddcc0f517e370b614afb4e560b5277cde3"), looks := true }, kinds := [], alts := [], laidByText := true, laidKinds := [.handle], laidTests := true, laidLooks := .later }
def StripeWholeCardSaid : Prop := Claim7.holds Tryd.pinned (.plain (OpenSpec.ofChange stripeWholeSpec)) stripeWholeCard

/-- THE SECOND FORM's CARD OF 'sherdlaw05.StripeOnly'. -/
def stripeOnlyUptoCard : Claim7 := { stood := { row := stripeOnlyUptoRow, standIns := [], harness := (true, "fa924bca1db00bd6ad30757ba6caacddcc0f517e370b614afb4e560b5277cde3"), looks := true }, kinds := [], alts := [], laidByText := true, laidKinds := [.handle], laidTests := true, laidLooks := .later }
def StripeOnlyUptoCardSaid : Prop := Claim7.holds Tryd.pinned (.plain (OpenSpec.upto stripeOnlySpec)) stripeOnlyUptoCard

/-- THE SECOND FORM's CARD OF 'sherdlaw05.StripeWhole'. -/
def stripeWholeUptoCard : Claim7 := { stood := { row := stripeWholeUptoRow, standIns := [], harness := (true, "fa924bca1db00bd6ad30757ba6caacddcc0f517e370b614afb4e560b5277cde3"), looks := true }, kinds := [], alts := [], laidByText := true, laidKinds := [.handle], laidTests := true, laidLooks := .later }
def StripeWholeUptoCardSaid : Prop := Claim7.holds Tryd.pinned (.plain (OpenSpec.upto stripeWholeSpec)) stripeWholeUptoCard
end Rows
end Go.Proofs.YteoeboeaanjehaaDoor
