/-
  NARROWER THAN 'FOR EVERY INPUT', by the rows' own cells (each row's printed sentence says how): ClientPhases: laid · ClientWrites: laid · ClientDeaf: laid · ClientAll: laid.
  DERIVED. THE GIVEN ROWS OF THIS SEAT. 4 by the template 'for every input the law returns true; each argument reads behind the call as it read before'; 0 by the template 'total and deterministic' (their statements: YtabifopphhpciaaGreatDoorTotals.lean).
  GIVEN WITH THE SEED: the statements are not yours to turn. If you find one false, say at which input.
  Laid BY PROGRAM, IN A SANDBOX (cutbox-rows.mjs): the forced cells as the released guide's own fill.sh prints them over the translation c85950c3049dec28… (all of the seat's roots in one cut). By AI agents, Wed Nov 11 2026. No macro, syntax, notation, axiom, sorry.
-/
import Derived.Test.YtabifopphhpciaaGreatDoorChecked
import GoSem.Claim
import GoSem.ClaimJoined
import GoSem.ClaimMapViews
import Derived.JoinedTies
import Derived.KernelRfl
namespace Go.Proofs.YtabifopphhpciaaGreatDoor
/- THE CELL 'sum', in the pinned program and in every row, IS THE sha256 OF THE DUMP (.gsa) THAT YtabifopphhpciaaGreatDoorProg.lean LOADS. Nothing in Lean hashes anything: it is a label: what it is worth is what the hold of that sum in a sandbox is worth. -/
noncomputable def Tryz.pinned : Pinned := { name := "ytabifopphhpciaagreatdoor", sum := "c85950c3049dec28bcfca81f090c93d5044de45f05394aff992967007aa5c3e8", checked := Tryz.checked }
namespace Rows
def none {H : Type} : Left H := { results := [], args := [] }

/- WHAT THE LISTED PACKAGE-LEVEL VARIABLES READ AS WHEN THE CALL BEGINS. Each datum BY PROGRAM (the guide's laid-datum.mjs) off the statement by which the dump's own 'gosem.cut.vars' lays the variable. In a bare row this is a premise. The card (YtabifopphhpciaaGreatDoorCards.lean) ties it to the program's text. -/
def laid_errors_errorType {H : Type} : DataW H := .iface "internal/reflectlite.rtype" (.agg [.ptr (.lit (.string [101, 114, 114, 111, 114]))])

/-- 'sherdlaw18.ClientPhases': WHATEVER THE INPUT: true; the input reads as it did. -/
def clientPhasesSpec : ChangeSpec := { name := "clientPhases", fn := fun _ => fun
  | [d1, d2, d3] => { results := [.lit (.bool true)], args := [d1, d2, d3] }
  | _ => none }
def clientPhasesRow : OpenClaim := { program := "ytabifopphhpciaagreatdoor", sum := "c85950c3049dec28bcfca81f090c93d5044de45f05394aff992967007aa5c3e8", func := "sherd/sherdlaw18.ClientPhases", spec := "clientPhases", inPlace := ["maps.clone", "internal/reflectlite.TypeOf", "internal/reflectlite.ValueOf", "(internal/reflectlite.Value).Type", "(internal/reflectlite.Value).IsNil", "(internal/reflectlite.Value).Elem", "(internal/reflectlite.Value).Set"], unfollowed := true, recurses := true, named := ["errors.errorType"], apart := false, laid := [("errors.errorType", laid_errors_errorType)] }
def ClientPhasesSaid : Prop := clientPhasesRow.holds Tryz.pinned (OpenSpec.ofChange clientPhasesSpec)

/-- ITS FALSE NEIGHBOUR: 'it returns false'. Refute it at one input. -/
def clientPhasesWrong : ChangeSpec := { name := "clientPhases", fn := fun _ => fun
  | [d1, d2, d3] => { results := [.lit (.bool false)], args := [d1, d2, d3] }
  | _ => none }
def ClientPhasesWrongFalsely : Prop := clientPhasesRow.holds Tryz.pinned (OpenSpec.ofChange clientPhasesWrong)

/-- 'sherdlaw18.ClientWrites': WHATEVER THE INPUT: true; the input reads as it did. -/
def clientWritesSpec : ChangeSpec := { name := "clientWrites", fn := fun _ => fun
  | [d] => { results := [.lit (.bool true)], args := [d] }
  | _ => none }
def clientWritesRow : OpenClaim := { program := "ytabifopphhpciaagreatdoor", sum := "c85950c3049dec28bcfca81f090c93d5044de45f05394aff992967007aa5c3e8", func := "sherd/sherdlaw18.ClientWrites", spec := "clientWrites", inPlace := ["maps.clone", "internal/reflectlite.TypeOf", "internal/reflectlite.ValueOf", "(internal/reflectlite.Value).Type", "(internal/reflectlite.Value).IsNil", "(internal/reflectlite.Value).Elem", "(internal/reflectlite.Value).Set"], unfollowed := true, recurses := true, named := ["errors.errorType"], apart := false, laid := [("errors.errorType", laid_errors_errorType)] }
def ClientWritesSaid : Prop := clientWritesRow.holds Tryz.pinned (OpenSpec.ofChange clientWritesSpec)

/-- ITS FALSE NEIGHBOUR: 'it returns false'. Refute it at one input. -/
def clientWritesWrong : ChangeSpec := { name := "clientWrites", fn := fun _ => fun
  | [d] => { results := [.lit (.bool false)], args := [d] }
  | _ => none }
def ClientWritesWrongFalsely : Prop := clientWritesRow.holds Tryz.pinned (OpenSpec.ofChange clientWritesWrong)

/-- 'sherdlaw18.ClientDeaf': WHATEVER THE INPUT: true; the input reads as it did. -/
def clientDeafSpec : ChangeSpec := { name := "clientDeaf", fn := fun _ => fun
  | [d1, d2, d3] => { results := [.lit (.bool true)], args := [d1, d2, d3] }
  | _ => none }
def clientDeafRow : OpenClaim := { program := "ytabifopphhpciaagreatdoor", sum := "c85950c3049dec28bcfca81f090c93d5044de45f05394aff992967007aa5c3e8", func := "sherd/sherdlaw18.ClientDeaf", spec := "clientDeaf", inPlace := ["maps.clone", "internal/reflectlite.TypeOf", "internal/reflectlite.ValueOf", "(internal/reflectlite.Value).Type", "(internal/reflectlite.Value).IsNil", "(internal/reflectlite.Value).Elem", "(internal/reflectlite.Value).Set"], unfollowed := true, recurses := true, named := ["errors.errorType"], apart := false, laid := [("errors.errorType", laid_errors_errorType)] }
def ClientDeafSaid : Prop := clientDeafRow.holds Tryz.pinned (OpenSpec.ofChange clientDeafSpec)

/-- ITS FALSE NEIGHBOUR: 'it returns false'. Refute it at one input. -/
def clientDeafWrong : ChangeSpec := { name := "clientDeaf", fn := fun _ => fun
  | [d1, d2, d3] => { results := [.lit (.bool false)], args := [d1, d2, d3] }
  | _ => none }
def ClientDeafWrongFalsely : Prop := clientDeafRow.holds Tryz.pinned (OpenSpec.ofChange clientDeafWrong)

/-- 'sherdlaw18.ClientAll': WHATEVER THE INPUT: true; the input reads as it did. -/
def clientAllSpec : ChangeSpec := { name := "clientAll", fn := fun _ => fun
  | [d] => { results := [.lit (.bool true)], args := [d] }
  | _ => none }
def clientAllRow : OpenClaim := { program := "ytabifopphhpciaagreatdoor", sum := "c85950c3049dec28bcfca81f090c93d5044de45f05394aff992967007aa5c3e8", func := "sherd/sherdlaw18.ClientAll", spec := "clientAll", inPlace := ["maps.clone", "internal/reflectlite.TypeOf", "internal/reflectlite.ValueOf", "(internal/reflectlite.Value).Type", "(internal/reflectlite.Value).IsNil", "(internal/reflectlite.Value).Elem", "(internal/reflectlite.Value).Set"], unfollowed := true, recurses := true, named := ["errors.errorType"], apart := false, laid := [("errors.errorType", laid_errors_errorType)] }
def ClientAllSaid : Prop := clientAllRow.holds Tryz.pinned (OpenSpec.ofChange clientAllSpec)

/-- ITS FALSE NEIGHBOUR: 'it returns false'. Refute it at one input. -/
def clientAllWrong : ChangeSpec := { name := "clientAll", fn := fun _ => fun
  | [d] => { results := [.lit (.bool false)], args := [d] }
  | _ => none }
def ClientAllWrongFalsely : Prop := clientAllRow.holds Tryz.pinned (OpenSpec.ofChange clientAllWrong)

/- THE SECOND FORM. 'bulk': how many values and letters a reading holds, each counted each time it is reached (what is shared counts as often as it is met; a slice's spare places count too). A statement '..UptoSaid' is the law's where the arguments, and the package variables that the reading takes, are together of bulk at most 1048576: NARROWER than '..Said'. Prove '..Said' where nothing that the law and all that it calls make is longer than what came in: it says more and counts as full. Else prove '..UptoSaid'. A law counts once. -/
mutual
def uptoBulk {H : Type} : DataW H → Nat
  | .lit (.string bytes) => bytes.length + 1
  | .lit _ => 1
  | .nil => 1
  | .ptr d => uptoBulk d + 1
  | .slice elems spare => uptoBulkAll elems + uptoBulkAll spare + 1
  | .agg parts => uptoBulkAll parts + 1
  | .iface _ d => uptoBulk d + 1
  | .map entries => uptoBulkEntries entries + 1
  | .held _ => 1
def uptoBulkAll {H : Type} : List (DataW H) → Nat
  | [] => 0
  | d :: r => uptoBulk d + uptoBulkAll r
def uptoBulkEntries {H : Type} : List (Lit × DataW H) → Nat
  | [] => 0
  | x :: r => uptoBulkEntry x + uptoBulkEntries r
def uptoBulkEntry {H : Type} : Lit × DataW H → Nat
  | (.string bytes, d) => bytes.length + uptoBulk d + 1
  | (_, d) => uptoBulk d + 1
 end
def uptoSmall : (H : Type) → List (DataW H) → Bool := fun _ ds => decide (uptoBulkAll ds ≤ 1048576)
def OpenSpec.upto (s : _root_.Go.ChangeSpec) : _root_.Go.OpenSpec := { _root_.Go.OpenSpec.ofChange s with cond := some uptoSmall }

/-- 'sherdlaw18.ClientPhases', WHERE WHAT IT READS IS OF BULK AT MOST 1048576: true; the input reads as it did. -/
def clientPhasesUptoRow : OpenClaim := { program := "ytabifopphhpciaagreatdoor", sum := "c85950c3049dec28bcfca81f090c93d5044de45f05394aff992967007aa5c3e8", func := "sherd/sherdlaw18.ClientPhases", spec := "clientPhases", inPlace := ["maps.clone", "internal/reflectlite.TypeOf", "internal/reflectlite.ValueOf", "(internal/reflectlite.Value).Type", "(internal/reflectlite.Value).IsNil", "(internal/reflectlite.Value).Elem", "(internal/reflectlite.Value).Set"], unfollowed := true, recurses := true, named := ["errors.errorType"], apart := false, laid := [("errors.errorType", laid_errors_errorType)], narrowed := true }
def ClientPhasesUptoSaid : Prop := clientPhasesUptoRow.holds Tryz.pinned (OpenSpec.upto clientPhasesSpec)

/-- 'sherdlaw18.ClientWrites', WHERE WHAT IT READS IS OF BULK AT MOST 1048576: true; the input reads as it did. -/
def clientWritesUptoRow : OpenClaim := { program := "ytabifopphhpciaagreatdoor", sum := "c85950c3049dec28bcfca81f090c93d5044de45f05394aff992967007aa5c3e8", func := "sherd/sherdlaw18.ClientWrites", spec := "clientWrites", inPlace := ["maps.clone", "internal/reflectlite.TypeOf", "internal/reflectlite.ValueOf", "(internal/reflectlite.Value).Type", "(internal/reflectlite.Value).IsNil", "(internal/reflectlite.Value).Elem", "(internal/reflectlite.Value).Set"], unfollowed := true, recurses := true, named := ["errors.errorType"], apart := false, laid := [("errors.errorType", laid_errors_errorType)], narrowed := true }
def ClientWritesUptoSaid : Prop := clientWritesUptoRow.holds Tryz.pinned (OpenSpec.upto clientWritesSpec)

/-- 'sherdlaw18.ClientDeaf', WHERE WHAT IT READS IS OF BULK AT MOST 1048576: true; the input reads as it did. -/
def clientDeafUptoRow : OpenClaim := { program := "ytabifopphhpciaagreatdoor", sum := "c85950c3049dec28bcfca81f090c93d5044de45f05394aff992967007aa5c3e8", func := "sherd/sherdlaw18.ClientDeaf", spec := "clientDeaf", inPlace := ["maps.clone", "internal/reflectlite.TypeOf", "internal/reflectlite.ValueOf", "(internal/reflectlite.Value).Type", "(internal/reflectlite.Value).IsNil", "(internal/reflectlite.Value).Elem", "(internal/reflectlite.Value).Set"], unfollowed := true, recurses := true, named := ["errors.errorType"], apart := false, laid := [("errors.errorType", laid_errors_errorType)], narrowed := true }
def ClientDeafUptoSaid : Prop := clientDeafUptoRow.holds Tryz.pinned (OpenSpec.upto clientDeafSpec)

/-- 'sherdlaw18.ClientAll', WHERE WHAT IT READS IS OF BULK AT MOST 1048576: true; the input reads as it did. -/
def clientAllUptoRow : OpenClaim := { program := "ytabifopphhpciaagreatdoor", sum := "c85950c3049dec28bcfca81f090c93d5044de45f05394aff992967007aa5c3e8", func := "sherd/sherdlaw18.ClientAll", spec := "clientAll", inPlace := ["maps.clone", "internal/reflectlite.TypeOf", "internal/reflectlite.ValueOf", "(internal/reflectlite.Value).Type", "(internal/reflectlite.Value).IsNil", "(internal/reflectlite.Value).Elem", "(internal/reflectlite.Value).Set"], unfollowed := true, recurses := true, named := ["errors.errorType"], apart := false, laid := [("errors.errorType", laid_errors_errorType)], narrowed := true }
def ClientAllUptoSaid : Prop := clientAllUptoRow.holds Tryz.pinned (OpenSpec.upto clientAllSpec)

end Rows
end Go.Proofs.YtabifopphhpciaaGreatDoor
