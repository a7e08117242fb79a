/-
  NARROWER THAN 'FOR EVERY INPUT', by the rows' own cells (each row's printed sentence says how): RecordWrites: laid · RecordSpoilt: laid · RecordAny: laid · RecordBack: laid · RecordTorn: laid.
  DERIVED. THE GIVEN ROWS OF THIS SEAT. 5 by the template 'for every input the law returns true; each argument reads behind the call as it read before'; 0 by the template 'total and deterministic' (their statements: YtnhgnfflihoaiaaDoorTotals.lean).
  GIVEN WITH THE SEED: the statements are not yours to turn. If you find one false, say at which input.
  Laid BY PROGRAM, IN A SANDBOX (cutbox-rows.mjs): the forced cells as the released guide's own fill.sh prints them over the translation 0d56a5bc00379dd6… (all of the seat's roots in one cut). By AI agents, Wed Nov 11 2026. No macro, syntax, notation, axiom, sorry.
-/
import Derived.Test.YtnhgnfflihoaiaaDoorChecked
import GoSem.Claim
import GoSem.ClaimJoined
import GoSem.ClaimMapViews
import Derived.JoinedTies
import Derived.KernelRfl
namespace Go.Proofs.YtnhgnfflihoaiaaDoor
/- THE CELL 'sum', in the pinned program and in every row, IS THE sha256 OF THE DUMP (.gsa) THAT YtnhgnfflihoaiaaDoorProg.lean LOADS. Nothing in Lean hashes anything: it is a label: what it is worth is what the hold of that sum in a sandbox is worth. -/
noncomputable def Tryd.pinned : Pinned := { name := "ytnhgnfflihoaiaadoor", sum := "0d56a5bc00379dd6fa522fa51a66a928df91072e7777b1ebde47c874ffa7ed72", checked := Tryd.checked }
namespace Rows
def none {H : Type} : Left H := { results := [], args := [] }

/- WHAT THE LISTED PACKAGE-LEVEL VARIABLES READ AS WHEN THE CALL BEGINS. Each datum BY PROGRAM (the guide's laid-datum.mjs) off the statement by which the dump's own 'gosem.cut.vars' lays the variable. In a bare row this is a premise. The card (YtnhgnfflihoaiaaDoorCards.lean) ties it to the program's text. -/
def laid_sherd_sum_steps {H : Type} : DataW H := .agg [.lit (.int .u32 0), .lit (.int .u32 498536548), .lit (.int .u32 997073096), .lit (.int .u32 651767980), .lit (.int .u32 1994146192), .lit (.int .u32 1802195444), .lit (.int .u32 1303535960), .lit (.int .u32 1342533948), .lit (.int .u32 3988292384), .lit (.int .u32 4027552580), .lit (.int .u32 3604390888), .lit (.int .u32 3412177804), .lit (.int .u32 2607071920), .lit (.int .u32 2262029012), .lit (.int .u32 2685067896), .lit (.int .u32 3183342108)]

/-- 'sherdlaw11.RecordWrites': WHATEVER THE INPUT: true; the input reads as it did. -/
def recordWritesSpec : ChangeSpec := { name := "recordWrites", fn := fun _ => fun
  | [d1, d2] => { results := [.lit (.bool true)], args := [d1, d2] }
  | _ => none }
def recordWritesRow : OpenClaim := { program := "ytnhgnfflihoaiaadoor", sum := "0d56a5bc00379dd6fa522fa51a66a928df91072e7777b1ebde47c874ffa7ed72", func := "sherd/sherdlaw11.RecordWrites", spec := "recordWrites", named := ["sherd/sum.steps"], apart := false, laid := [("sherd/sum.steps", laid_sherd_sum_steps)] }
def RecordWritesSaid : Prop := recordWritesRow.holds Tryd.pinned (OpenSpec.ofChange recordWritesSpec)

/-- ITS FALSE NEIGHBOUR: 'it returns false'. Refute it at one input. -/
def recordWritesWrong : ChangeSpec := { name := "recordWrites", fn := fun _ => fun
  | [d1, d2] => { results := [.lit (.bool false)], args := [d1, d2] }
  | _ => none }
def RecordWritesWrongFalsely : Prop := recordWritesRow.holds Tryd.pinned (OpenSpec.ofChange recordWritesWrong)

/-- 'sherdlaw11.RecordSpoilt': WHATEVER THE INPUT: true; the input reads as it did. -/
def recordSpoiltSpec : ChangeSpec := { name := "recordSpoilt", fn := fun _ => fun
  | [d1, d2, d3] => { results := [.lit (.bool true)], args := [d1, d2, d3] }
  | _ => none }
def recordSpoiltRow : OpenClaim := { program := "ytnhgnfflihoaiaadoor", sum := "0d56a5bc00379dd6fa522fa51a66a928df91072e7777b1ebde47c874ffa7ed72", func := "sherd/sherdlaw11.RecordSpoilt", spec := "recordSpoilt", unfollowed := true, recurses := true, named := ["sherd/sum.steps"], apart := false, laid := [("sherd/sum.steps", laid_sherd_sum_steps)] }
def RecordSpoiltSaid : Prop := recordSpoiltRow.holds Tryd.pinned (OpenSpec.ofChange recordSpoiltSpec)

/-- ITS FALSE NEIGHBOUR: 'it returns false'. Refute it at one input. -/
def recordSpoiltWrong : ChangeSpec := { name := "recordSpoilt", fn := fun _ => fun
  | [d1, d2, d3] => { results := [.lit (.bool false)], args := [d1, d2, d3] }
  | _ => none }
def RecordSpoiltWrongFalsely : Prop := recordSpoiltRow.holds Tryd.pinned (OpenSpec.ofChange recordSpoiltWrong)

/-- 'sherdlaw11.RecordAny': WHATEVER THE INPUT: true; the input reads as it did. -/
def recordAnySpec : ChangeSpec := { name := "recordAny", fn := fun _ => fun
  | [d1, d2] => { results := [.lit (.bool true)], args := [d1, d2] }
  | _ => none }
def recordAnyRow : OpenClaim := { program := "ytnhgnfflihoaiaadoor", sum := "0d56a5bc00379dd6fa522fa51a66a928df91072e7777b1ebde47c874ffa7ed72", func := "sherd/sherdlaw11.RecordAny", spec := "recordAny", unfollowed := true, recurses := true, named := ["sherd/sum.steps"], apart := false, laid := [("sherd/sum.steps", laid_sherd_sum_steps)] }
def RecordAnySaid : Prop := recordAnyRow.holds Tryd.pinned (OpenSpec.ofChange recordAnySpec)

/-- ITS FALSE NEIGHBOUR: 'it returns false'. Refute it at one input. -/
def recordAnyWrong : ChangeSpec := { name := "recordAny", fn := fun _ => fun
  | [d1, d2] => { results := [.lit (.bool false)], args := [d1, d2] }
  | _ => none }
def RecordAnyWrongFalsely : Prop := recordAnyRow.holds Tryd.pinned (OpenSpec.ofChange recordAnyWrong)

/-- 'sherdlaw11.RecordBack': WHATEVER THE INPUT: true; the input reads as it did. -/
def recordBackSpec : ChangeSpec := { name := "recordBack", fn := fun _ => fun
  | [d1, d2] => { results := [.lit (.bool true)], args := [d1, d2] }
  | _ => none }
def recordBackRow : OpenClaim := { program := "ytnhgnfflihoaiaadoor", sum := "0d56a5bc00379dd6fa522fa51a66a928df91072e7777b1ebde47c874ffa7ed72", func := "sherd/sherdlaw11.RecordBack", spec := "recordBack", unfollowed := true, recurses := true, named := ["sherd/sum.steps"], apart := false, laid := [("sherd/sum.steps", laid_sherd_sum_steps)] }
def RecordBackSaid : Prop := recordBackRow.holds Tryd.pinned (OpenSpec.ofChange recordBackSpec)

/-- ITS FALSE NEIGHBOUR: 'it returns false'. Refute it at one input. -/
def recordBackWrong : ChangeSpec := { name := "recordBack", fn := fun _ => fun
  | [d1, d2] => { results := [.lit (.bool false)], args := [d1, d2] }
  | _ => none }
def RecordBackWrongFalsely : Prop := recordBackRow.holds Tryd.pinned (OpenSpec.ofChange recordBackWrong)

/-- 'sherdlaw11.RecordTorn': WHATEVER THE INPUT: true; the input reads as it did. -/
def recordTornSpec : ChangeSpec := { name := "recordTorn", fn := fun _ => fun
  | [d1, d2, d3] => { results := [.lit (.bool true)], args := [d1, d2, d3] }
  | _ => none }
def recordTornRow : OpenClaim := { program := "ytnhgnfflihoaiaadoor", sum := "0d56a5bc00379dd6fa522fa51a66a928df91072e7777b1ebde47c874ffa7ed72", func := "sherd/sherdlaw11.RecordTorn", spec := "recordTorn", unfollowed := true, recurses := true, named := ["sherd/sum.steps"], apart := false, laid := [("sherd/sum.steps", laid_sherd_sum_steps)] }
def RecordTornSaid : Prop := recordTornRow.holds Tryd.pinned (OpenSpec.ofChange recordTornSpec)

/-- ITS FALSE NEIGHBOUR: 'it returns false'. Refute it at one input. -/
def recordTornWrong : ChangeSpec := { name := "recordTorn", fn := fun _ => fun
  | [d1, d2, d3] => { results := [.lit (.bool false)], args := [d1, d2, d3] }
  | _ => none }
def RecordTornWrongFalsely : Prop := recordTornRow.holds Tryd.pinned (OpenSpec.ofChange recordTornWrong)

/- THE SECOND FORM. 'bulk': how many values and letters a reading holds, each counted each time it is reached (what is shared counts as often as it is met; a slice's spare places count too). A statement '..UptoSaid' is the law's where the arguments, and the package variables that the reading takes, are together of bulk at most 1048576: NARROWER than '..Said'. Prove '..Said' where nothing that the law and all that it calls make is longer than what came in: it says more and counts as full. Else prove '..UptoSaid'. A law counts once. -/
mutual
def uptoBulk {H : Type} : DataW H → Nat
  | .lit (.string bytes) => bytes.length + 1
  | .lit _ => 1
  | .nil => 1
  | .ptr d => uptoBulk d + 1
  | .slice elems spare => uptoBulkAll elems + uptoBulkAll spare + 1
  | .agg parts => uptoBulkAll parts + 1
  | .iface _ d => uptoBulk d + 1
  | .map entries => uptoBulkEntries entries + 1
  | .held _ => 1
def uptoBulkAll {H : Type} : List (DataW H) → Nat
  | [] => 0
  | d :: r => uptoBulk d + uptoBulkAll r
def uptoBulkEntries {H : Type} : List (Lit × DataW H) → Nat
  | [] => 0
  | x :: r => uptoBulkEntry x + uptoBulkEntries r
def uptoBulkEntry {H : Type} : Lit × DataW H → Nat
  | (.string bytes, d) => bytes.length + uptoBulk d + 1
  | (_, d) => uptoBulk d + 1
 end
def uptoSmall : (H : Type) → List (DataW H) → Bool := fun _ ds => decide (uptoBulkAll ds ≤ 1048576)
def OpenSpec.upto (s : _root_.Go.ChangeSpec) : _root_.Go.OpenSpec := { _root_.Go.OpenSpec.ofChange s with cond := some uptoSmall }

/-- 'sherdlaw11.RecordWrites', WHERE WHAT IT READS IS OF BULK AT MOST 1048576: true; the input reads as it did. -/
def recordWritesUptoRow : OpenClaim := { program := "ytnhgnfflihoaiaadoor", sum := "0d56a5bc00379dd6fa522fa51a66a928df91072e7777b1ebde47c874ffa7ed72", func := "sherd/sherdlaw11.RecordWrites", spec := "recordWrites", named := ["sherd/sum.steps"], apart := false, laid := [("sherd/sum.steps", laid_sherd_sum_steps)], narrowed := true }
def RecordWritesUptoSaid : Prop := recordWritesUptoRow.holds Tryd.pinned (OpenSpec.upto recordWritesSpec)

/-- 'sherdlaw11.RecordSpoilt', WHERE WHAT IT READS IS OF BULK AT MOST 1048576: true; the input reads as it did. -/
def recordSpoiltUptoRow : OpenClaim := { program := "ytnhgnfflihoaiaadoor", sum := "0d56a5bc00379dd6fa522fa51a66a928df91072e7777b1ebde47c874ffa7ed72", func := "sherd/sherdlaw11.RecordSpoilt", spec := "recordSpoilt", unfollowed := true, recurses := true, named := ["sherd/sum.steps"], apart := false, laid := [("sherd/sum.steps", laid_sherd_sum_steps)], narrowed := true }
def RecordSpoiltUptoSaid : Prop := recordSpoiltUptoRow.holds Tryd.pinned (OpenSpec.upto recordSpoiltSpec)

/-- 'sherdlaw11.RecordAny', WHERE WHAT IT READS IS OF BULK AT MOST 1048576: true; the input reads as it did. -/
def recordAnyUptoRow : OpenClaim := { program := "ytnhgnfflihoaiaadoor", sum := "0d56a5bc00379dd6fa522fa51a66a928df91072e7777b1ebde47c874ffa7ed72", func := "sherd/sherdlaw11.RecordAny", spec := "recordAny", unfollowed := true, recurses := true, named := ["sherd/sum.steps"], apart := false, laid := [("sherd/sum.steps", laid_sherd_sum_steps)], narrowed := true }
def RecordAnyUptoSaid : Prop := recordAnyUptoRow.holds Tryd.pinned (OpenSpec.upto recordAnySpec)

/-- 'sherdlaw11.RecordBack', WHERE WHAT IT READS IS OF BULK AT MOST 1048576: true; the input reads as it did. -/
def recordBackUptoRow : OpenClaim := { program := "ytnhgnfflihoaiaadoor", sum := "0d56a5bc00379dd6fa522fa51a66a928df91072e7777b1ebde47c874ffa7ed72", func := "sherd/sherdlaw11.RecordBack", spec := "recordBack", unfollowed := true, recurses := true, named := ["sherd/sum.steps"], apart := false, laid := [("sherd/sum.steps", laid_sherd_sum_steps)], narrowed := true }
def RecordBackUptoSaid : Prop := recordBackUptoRow.holds Tryd.pinned (OpenSpec.upto recordBackSpec)

/-- 'sherdlaw11.RecordTorn', WHERE WHAT IT READS IS OF BULK AT MOST 1048576: true; the input reads as it did. -/
def recordTornUptoRow : OpenClaim := { program := "ytnhgnfflihoaiaadoor", sum := "0d56a5bc00379dd6fa522fa51a66a928df91072e7777b1ebde47c874ffa7ed72", func := "sherd/sherdlaw11.RecordTorn", spec := "recordTorn", unfollowed := true, recurses := true, named := ["sherd/sum.steps"], apart := false, laid := [("sherd/sum.steps", laid_sherd_sum_steps)], narrowed := true }
def RecordTornUptoSaid : Prop := recordTornUptoRow.holds Tryd.pinned (OpenSpec.upto recordTornSpec)

end Rows
end Go.Proofs.YtnhgnfflihoaiaaDoor
