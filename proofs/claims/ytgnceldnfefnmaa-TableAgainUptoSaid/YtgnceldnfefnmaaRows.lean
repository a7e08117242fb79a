/-
  No cell of these rows narrows 'for every input' (looked for: loops, veiled, ifaces, maps, wideKeys, modest, calm, conditions, laid).
  DERIVED. THE GIVEN ROWS OF THIS SEAT. 4 by the template 'for every input the law returns true; each argument reads behind the call as it read before'; 0 by the template 'total and deterministic' (their statements: YtgnceldnfefnmaaTotals.lean).
  GIVEN WITH THE SEED: the statements are not yours to turn. If you find one false, say at which input.
  Laid BY PROGRAM, IN A SANDBOX (cutbox-rows.mjs): the forced cells as the released guide's own fill.sh prints them over the translation 089eba70a25dc63f… (all of the seat's roots in one cut). By AI agents, Wed Nov 11 2026. No macro, syntax, notation, axiom, sorry.
-/
import Derived.Test.YtgnceldnfefnmaaChecked
import GoSem.Claim
import GoSem.ClaimJoined
import GoSem.ClaimMapViews
import Derived.JoinedTies
import Derived.KernelRfl
namespace Go.Proofs.Ytgnceldnfefnmaa
/- THE CELL 'sum', in the pinned program and in every row, IS THE sha256 OF THE DUMP (.gsa) THAT YtgnceldnfefnmaaProg.lean LOADS. Nothing in Lean hashes anything: it is a label: what it is worth is what the hold of that sum in a sandbox is worth. -/
noncomputable def Try.pinned : Pinned := { name := "ytgnceldnfefnmaa", sum := "089eba70a25dc63f3920c49719cc54f2fd983f4ed772076ea11a06fba2bac77c", checked := Try.checked }
namespace Rows
def none {H : Type} : Left H := { results := [], args := [] }

/-- 'sherdlaw15.TableBounds': WHATEVER THE INPUT: true; the input reads as it did. -/
def tableBoundsSpec : ChangeSpec := { name := "tableBounds", fn := fun _ => fun
  | [d1, d2] => { results := [.lit (.bool true)], args := [d1, d2] }
  | _ => none }
def tableBoundsRow : OpenClaim := { program := "ytgnceldnfefnmaa", sum := "089eba70a25dc63f3920c49719cc54f2fd983f4ed772076ea11a06fba2bac77c", func := "sherd/sherdlaw15.TableBounds", spec := "tableBounds", unfollowed := true, recurses := true, plainKeys := false, apart := false }
def TableBoundsSaid : Prop := tableBoundsRow.holds Try.pinned (OpenSpec.ofChange tableBoundsSpec)

/-- ITS FALSE NEIGHBOUR: 'it returns false'. Refute it at one input. -/
def tableBoundsWrong : ChangeSpec := { name := "tableBounds", fn := fun _ => fun
  | [d1, d2] => { results := [.lit (.bool false)], args := [d1, d2] }
  | _ => none }
def TableBoundsWrongFalsely : Prop := tableBoundsRow.holds Try.pinned (OpenSpec.ofChange tableBoundsWrong)

/-- 'sherdlaw15.TableHolds': WHATEVER THE INPUT: true; the input reads as it did. -/
def tableHoldsSpec : ChangeSpec := { name := "tableHolds", fn := fun _ => fun
  | [d1, d2] => { results := [.lit (.bool true)], args := [d1, d2] }
  | _ => none }
def tableHoldsRow : OpenClaim := { program := "ytgnceldnfefnmaa", sum := "089eba70a25dc63f3920c49719cc54f2fd983f4ed772076ea11a06fba2bac77c", func := "sherd/sherdlaw15.TableHolds", spec := "tableHolds", unfollowed := true, recurses := true, plainKeys := false, apart := false }
def TableHoldsSaid : Prop := tableHoldsRow.holds Try.pinned (OpenSpec.ofChange tableHoldsSpec)

/-- ITS FALSE NEIGHBOUR: 'it returns false'. Refute it at one input. -/
def tableHoldsWrong : ChangeSpec := { name := "tableHolds", fn := fun _ => fun
  | [d1, d2] => { results := [.lit (.bool false)], args := [d1, d2] }
  | _ => none }
def TableHoldsWrongFalsely : Prop := tableHoldsRow.holds Try.pinned (OpenSpec.ofChange tableHoldsWrong)

/-- 'sherdlaw15.TableTurns': WHATEVER THE INPUT: true; the input reads as it did. -/
def tableTurnsSpec : ChangeSpec := { name := "tableTurns", fn := fun _ => fun
  | [d1, d2, d3] => { results := [.lit (.bool true)], args := [d1, d2, d3] }
  | _ => none }
def tableTurnsRow : OpenClaim := { program := "ytgnceldnfefnmaa", sum := "089eba70a25dc63f3920c49719cc54f2fd983f4ed772076ea11a06fba2bac77c", func := "sherd/sherdlaw15.TableTurns", spec := "tableTurns", unfollowed := true, recurses := true, plainKeys := false, apart := false }
def TableTurnsSaid : Prop := tableTurnsRow.holds Try.pinned (OpenSpec.ofChange tableTurnsSpec)

/-- ITS FALSE NEIGHBOUR: 'it returns false'. Refute it at one input. -/
def tableTurnsWrong : ChangeSpec := { name := "tableTurns", fn := fun _ => fun
  | [d1, d2, d3] => { results := [.lit (.bool false)], args := [d1, d2, d3] }
  | _ => none }
def TableTurnsWrongFalsely : Prop := tableTurnsRow.holds Try.pinned (OpenSpec.ofChange tableTurnsWrong)

/-- 'sherdlaw15.TableAgain': WHATEVER THE INPUT: true; the input reads as it did. -/
def tableAgainSpec : ChangeSpec := { name := "tableAgain", fn := fun _ => fun
  | [d1, d2, d3] => { results := [.lit (.bool true)], args := [d1, d2, d3] }
  | _ => none }
def tableAgainRow : OpenClaim := { program := "ytgnceldnfefnmaa", sum := "089eba70a25dc63f3920c49719cc54f2fd983f4ed772076ea11a06fba2bac77c", func := "sherd/sherdlaw15.TableAgain", spec := "tableAgain", unfollowed := true, recurses := true, plainKeys := false, apart := false }
def TableAgainSaid : Prop := tableAgainRow.holds Try.pinned (OpenSpec.ofChange tableAgainSpec)

/-- ITS FALSE NEIGHBOUR: 'it returns false'. Refute it at one input. -/
def tableAgainWrong : ChangeSpec := { name := "tableAgain", fn := fun _ => fun
  | [d1, d2, d3] => { results := [.lit (.bool false)], args := [d1, d2, d3] }
  | _ => none }
def TableAgainWrongFalsely : Prop := tableAgainRow.holds Try.pinned (OpenSpec.ofChange tableAgainWrong)

/- THE SECOND FORM. 'bulk': how many values and letters a reading holds, each counted each time it is reached (what is shared counts as often as it is met; a slice's spare places count too). A statement '..UptoSaid' is the law's where the arguments, and the package variables that the reading takes, are together of bulk at most 1048576: NARROWER than '..Said'. Prove '..Said' where nothing that the law and all that it calls make is longer than what came in: it says more and counts as full. Else prove '..UptoSaid'. A law counts once. -/
mutual
def uptoBulk {H : Type} : DataW H → Nat
  | .lit (.string bytes) => bytes.length + 1
  | .lit _ => 1
  | .nil => 1
  | .ptr d => uptoBulk d + 1
  | .slice elems spare => uptoBulkAll elems + uptoBulkAll spare + 1
  | .agg parts => uptoBulkAll parts + 1
  | .iface _ d => uptoBulk d + 1
  | .map entries => uptoBulkEntries entries + 1
  | .held _ => 1
def uptoBulkAll {H : Type} : List (DataW H) → Nat
  | [] => 0
  | d :: r => uptoBulk d + uptoBulkAll r
def uptoBulkEntries {H : Type} : List (Lit × DataW H) → Nat
  | [] => 0
  | x :: r => uptoBulkEntry x + uptoBulkEntries r
def uptoBulkEntry {H : Type} : Lit × DataW H → Nat
  | (.string bytes, d) => bytes.length + uptoBulk d + 1
  | (_, d) => uptoBulk d + 1
 end
def uptoSmall : (H : Type) → List (DataW H) → Bool := fun _ ds => decide (uptoBulkAll ds ≤ 1048576)
def OpenSpec.upto (s : _root_.Go.ChangeSpec) : _root_.Go.OpenSpec := { _root_.Go.OpenSpec.ofChange s with cond := some uptoSmall }

/-- 'sherdlaw15.TableBounds', WHERE WHAT IT READS IS OF BULK AT MOST 1048576: true; the input reads as it did. -/
def tableBoundsUptoRow : OpenClaim := { program := "ytgnceldnfefnmaa", sum := "089eba70a25dc63f3920c49719cc54f2fd983f4ed772076ea11a06fba2bac77c", func := "sherd/sherdlaw15.TableBounds", spec := "tableBounds", unfollowed := true, recurses := true, plainKeys := false, apart := false, narrowed := true }
def TableBoundsUptoSaid : Prop := tableBoundsUptoRow.holds Try.pinned (OpenSpec.upto tableBoundsSpec)

/-- 'sherdlaw15.TableHolds', WHERE WHAT IT READS IS OF BULK AT MOST 1048576: true; the input reads as it did. -/
def tableHoldsUptoRow : OpenClaim := { program := "ytgnceldnfefnmaa", sum := "089eba70a25dc63f3920c49719cc54f2fd983f4ed772076ea11a06fba2bac77c", func := "sherd/sherdlaw15.TableHolds", spec := "tableHolds", unfollowed := true, recurses := true, plainKeys := false, apart := false, narrowed := true }
def TableHoldsUptoSaid : Prop := tableHoldsUptoRow.holds Try.pinned (OpenSpec.upto tableHoldsSpec)

/-- 'sherdlaw15.TableTurns', WHERE WHAT IT READS IS OF BULK AT MOST 1048576: true; the input reads as it did. -/
def tableTurnsUptoRow : OpenClaim := { program := "ytgnceldnfefnmaa", sum := "089eba70a25dc63f3920c49719cc54f2fd983f4ed772076ea11a06fba2bac77c", func := "sherd/sherdlaw15.TableTurns", spec := "tableTurns", unfollowed := true, recurses := true, plainKeys := false, apart := false, narrowed := true }
def TableTurnsUptoSaid : Prop := tableTurnsUptoRow.holds Try.pinned (OpenSpec.upto tableTurnsSpec)

/-- 'sherdlaw15.TableAgain', WHERE WHAT IT READS IS OF BULK AT MOST 1048576: true; the input reads as it did. -/
def tableAgainUptoRow : OpenClaim := { program := "ytgnceldnfefnmaa", sum := "089eba70a25dc63f3920c49719cc54f2fd983f4ed772076ea11a06fba2bac77c", func := "sherd/sherdlaw15.TableAgain", spec := "tableAgain", unfollowed := true, recurses := true, plainKeys := false, apart := false, narrowed := true }
def TableAgainUptoSaid : Prop := tableAgainUptoRow.holds Try.pinned (OpenSpec.upto tableAgainSpec)

end Rows
end Go.Proofs.Ytgnceldnfefnmaa
