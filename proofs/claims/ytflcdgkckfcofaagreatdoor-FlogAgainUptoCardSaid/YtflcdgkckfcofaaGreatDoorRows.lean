/-
  NARROWER THAN 'FOR EVERY INPUT', by the rows' own cells (each row's printed sentence says how): FlogOthers: laid · FlogSmall: laid · FlogLasts: laid · FlogAgain: laid · FlogPlays: laid.
  DERIVED. THE GIVEN ROWS OF THIS SEAT. 5 by the template 'for every input the law returns true; each argument reads behind the call as it read before'; 0 by the template 'total and deterministic' (their statements: YtflcdgkckfcofaaGreatDoorTotals.lean).
  GIVEN WITH THE SEED: the statements are not yours to turn. If you find one false, say at which input.
  Laid BY PROGRAM, IN A SANDBOX (cutbox-rows.mjs): the forced cells as the released guide's own fill.sh prints them over the translation 7539d6d3d9190586… (all of the seat's roots in one cut). By AI agents, Wed Nov 11 2026. No macro, syntax, notation, axiom, sorry.
-/
import Derived.Test.YtflcdgkckfcofaaGreatDoorChecked
import GoSem.Claim
import GoSem.ClaimJoined
import GoSem.ClaimMapViews
import Derived.JoinedTies
import Derived.KernelRfl
namespace Go.Proofs.YtflcdgkckfcofaaGreatDoor
/- THE CELL 'sum', in the pinned program and in every row, IS THE sha256 OF THE DUMP (.gsa) THAT YtflcdgkckfcofaaGreatDoorProg.lean LOADS. Nothing in Lean hashes anything: it is a label: what it is worth is what the hold of that sum in a sandbox is worth. -/
noncomputable def Tryz.pinned : Pinned := { name := "ytflcdgkckfcofaagreatdoor", sum := "7539d6d3d91905867cc32d80d78bd3f43ccf329f4c5a10e27b62de416712318c", checked := Tryz.checked }
namespace Rows
def none {H : Type} : Left H := { results := [], args := [] }

/- WHAT THE LISTED PACKAGE-LEVEL VARIABLES READ AS WHEN THE CALL BEGINS. Each datum BY PROGRAM (the guide's laid-datum.mjs) off the statement by which the dump's own 'gosem.cut.vars' lays the variable. In a bare row this is a premise. The card (YtflcdgkckfcofaaGreatDoorCards.lean) ties it to the program's text. -/
def laid_errors_errorType {H : Type} : DataW H := .iface "internal/reflectlite.rtype" (.agg [.ptr (.lit (.string [101, 114, 114, 111, 114]))])
def laid_sherd_sum_steps {H : Type} : DataW H := .agg [.lit (.int .u32 0), .lit (.int .u32 498536548), .lit (.int .u32 997073096), .lit (.int .u32 651767980), .lit (.int .u32 1994146192), .lit (.int .u32 1802195444), .lit (.int .u32 1303535960), .lit (.int .u32 1342533948), .lit (.int .u32 3988292384), .lit (.int .u32 4027552580), .lit (.int .u32 3604390888), .lit (.int .u32 3412177804), .lit (.int .u32 2607071920), .lit (.int .u32 2262029012), .lit (.int .u32 2685067896), .lit (.int .u32 3183342108)]

/-- 'sherdlaw14.FlogOthers': WHATEVER THE INPUT: true; the input reads as it did. -/
def flogOthersSpec : ChangeSpec := { name := "flogOthers", fn := fun _ => fun
  | [d1, d2] => { results := [.lit (.bool true)], args := [d1, d2] }
  | _ => none }
def flogOthersRow : OpenClaim := { program := "ytflcdgkckfcofaagreatdoor", sum := "7539d6d3d91905867cc32d80d78bd3f43ccf329f4c5a10e27b62de416712318c", func := "sherd/sherdlaw14.FlogOthers", spec := "flogOthers", inPlace := ["internal/reflectlite.ValueOf", "(internal/reflectlite.Value).Type", "(internal/reflectlite.Value).IsNil", "internal/reflectlite.TypeOf", "(internal/reflectlite.Value).Elem", "(internal/reflectlite.Value).Set"], unfollowed := true, recurses := true, named := ["sherd/sum.steps", "errors.errorType"], apart := false, laid := [("errors.errorType", laid_errors_errorType), ("sherd/sum.steps", laid_sherd_sum_steps)] }
def FlogOthersSaid : Prop := flogOthersRow.holds Tryz.pinned (OpenSpec.ofChange flogOthersSpec)

/-- ITS FALSE NEIGHBOUR: 'it returns false'. Refute it at one input. -/
def flogOthersWrong : ChangeSpec := { name := "flogOthers", fn := fun _ => fun
  | [d1, d2] => { results := [.lit (.bool false)], args := [d1, d2] }
  | _ => none }
def FlogOthersWrongFalsely : Prop := flogOthersRow.holds Tryz.pinned (OpenSpec.ofChange flogOthersWrong)

/-- 'sherdlaw14.FlogSmall': WHATEVER THE INPUT: true; the input reads as it did. -/
def flogSmallSpec : ChangeSpec := { name := "flogSmall", fn := fun _ => fun
  | [d] => { results := [.lit (.bool true)], args := [d] }
  | _ => none }
def flogSmallRow : OpenClaim := { program := "ytflcdgkckfcofaagreatdoor", sum := "7539d6d3d91905867cc32d80d78bd3f43ccf329f4c5a10e27b62de416712318c", func := "sherd/sherdlaw14.FlogSmall", spec := "flogSmall", inPlace := ["internal/reflectlite.ValueOf", "(internal/reflectlite.Value).Type", "(internal/reflectlite.Value).IsNil", "internal/reflectlite.TypeOf", "(internal/reflectlite.Value).Elem", "(internal/reflectlite.Value).Set"], unfollowed := true, recurses := true, named := ["sherd/sum.steps", "errors.errorType"], apart := false, laid := [("errors.errorType", laid_errors_errorType), ("sherd/sum.steps", laid_sherd_sum_steps)] }
def FlogSmallSaid : Prop := flogSmallRow.holds Tryz.pinned (OpenSpec.ofChange flogSmallSpec)

/-- ITS FALSE NEIGHBOUR: 'it returns false'. Refute it at one input. -/
def flogSmallWrong : ChangeSpec := { name := "flogSmall", fn := fun _ => fun
  | [d] => { results := [.lit (.bool false)], args := [d] }
  | _ => none }
def FlogSmallWrongFalsely : Prop := flogSmallRow.holds Tryz.pinned (OpenSpec.ofChange flogSmallWrong)

/-- 'sherdlaw14.FlogLasts': WHATEVER THE INPUT: true; the input reads as it did. -/
def flogLastsSpec : ChangeSpec := { name := "flogLasts", fn := fun _ => fun
  | [d] => { results := [.lit (.bool true)], args := [d] }
  | _ => none }
def flogLastsRow : OpenClaim := { program := "ytflcdgkckfcofaagreatdoor", sum := "7539d6d3d91905867cc32d80d78bd3f43ccf329f4c5a10e27b62de416712318c", func := "sherd/sherdlaw14.FlogLasts", spec := "flogLasts", inPlace := ["internal/reflectlite.ValueOf", "(internal/reflectlite.Value).Type", "(internal/reflectlite.Value).IsNil", "internal/reflectlite.TypeOf", "(internal/reflectlite.Value).Elem", "(internal/reflectlite.Value).Set"], unfollowed := true, recurses := true, named := ["sherd/sum.steps", "errors.errorType"], apart := false, laid := [("errors.errorType", laid_errors_errorType), ("sherd/sum.steps", laid_sherd_sum_steps)] }
def FlogLastsSaid : Prop := flogLastsRow.holds Tryz.pinned (OpenSpec.ofChange flogLastsSpec)

/-- ITS FALSE NEIGHBOUR: 'it returns false'. Refute it at one input. -/
def flogLastsWrong : ChangeSpec := { name := "flogLasts", fn := fun _ => fun
  | [d] => { results := [.lit (.bool false)], args := [d] }
  | _ => none }
def FlogLastsWrongFalsely : Prop := flogLastsRow.holds Tryz.pinned (OpenSpec.ofChange flogLastsWrong)

/-- 'sherdlaw14.FlogAgain': WHATEVER THE INPUT: true; the input reads as it did. -/
def flogAgainSpec : ChangeSpec := { name := "flogAgain", fn := fun _ => fun
  | [d] => { results := [.lit (.bool true)], args := [d] }
  | _ => none }
def flogAgainRow : OpenClaim := { program := "ytflcdgkckfcofaagreatdoor", sum := "7539d6d3d91905867cc32d80d78bd3f43ccf329f4c5a10e27b62de416712318c", func := "sherd/sherdlaw14.FlogAgain", spec := "flogAgain", inPlace := ["internal/reflectlite.ValueOf", "(internal/reflectlite.Value).Type", "(internal/reflectlite.Value).IsNil", "internal/reflectlite.TypeOf", "(internal/reflectlite.Value).Elem", "(internal/reflectlite.Value).Set"], unfollowed := true, recurses := true, named := ["sherd/sum.steps", "errors.errorType"], apart := false, laid := [("errors.errorType", laid_errors_errorType), ("sherd/sum.steps", laid_sherd_sum_steps)] }
def FlogAgainSaid : Prop := flogAgainRow.holds Tryz.pinned (OpenSpec.ofChange flogAgainSpec)

/-- ITS FALSE NEIGHBOUR: 'it returns false'. Refute it at one input. -/
def flogAgainWrong : ChangeSpec := { name := "flogAgain", fn := fun _ => fun
  | [d] => { results := [.lit (.bool false)], args := [d] }
  | _ => none }
def FlogAgainWrongFalsely : Prop := flogAgainRow.holds Tryz.pinned (OpenSpec.ofChange flogAgainWrong)

/-- 'sherdlaw14.FlogPlays': WHATEVER THE INPUT: true; the input reads as it did. -/
def flogPlaysSpec : ChangeSpec := { name := "flogPlays", fn := fun _ => fun
  | [d] => { results := [.lit (.bool true)], args := [d] }
  | _ => none }
def flogPlaysRow : OpenClaim := { program := "ytflcdgkckfcofaagreatdoor", sum := "7539d6d3d91905867cc32d80d78bd3f43ccf329f4c5a10e27b62de416712318c", func := "sherd/sherdlaw14.FlogPlays", spec := "flogPlays", inPlace := ["internal/reflectlite.ValueOf", "(internal/reflectlite.Value).Type", "(internal/reflectlite.Value).IsNil", "internal/reflectlite.TypeOf", "(internal/reflectlite.Value).Elem", "(internal/reflectlite.Value).Set"], unfollowed := true, recurses := true, named := ["sherd/sum.steps", "errors.errorType"], apart := false, laid := [("errors.errorType", laid_errors_errorType), ("sherd/sum.steps", laid_sherd_sum_steps)] }
def FlogPlaysSaid : Prop := flogPlaysRow.holds Tryz.pinned (OpenSpec.ofChange flogPlaysSpec)

/-- ITS FALSE NEIGHBOUR: 'it returns false'. Refute it at one input. -/
def flogPlaysWrong : ChangeSpec := { name := "flogPlays", fn := fun _ => fun
  | [d] => { results := [.lit (.bool false)], args := [d] }
  | _ => none }
def FlogPlaysWrongFalsely : Prop := flogPlaysRow.holds Tryz.pinned (OpenSpec.ofChange flogPlaysWrong)

/- THE SECOND FORM. 'bulk': how many values and letters a reading holds, each counted each time it is reached (what is shared counts as often as it is met; a slice's spare places count too). A statement '..UptoSaid' is the law's where the arguments, and the package variables that the reading takes, are together of bulk at most 1048576: NARROWER than '..Said'. Prove '..Said' where nothing that the law and all that it calls make is longer than what came in: it says more and counts as full. Else prove '..UptoSaid'. A law counts once. -/
mutual
def uptoBulk {H : Type} : DataW H → Nat
  | .lit (.string bytes) => bytes.length + 1
  | .lit _ => 1
  | .nil => 1
  | .ptr d => uptoBulk d + 1
  | .slice elems spare => uptoBulkAll elems + uptoBulkAll spare + 1
  | .agg parts => uptoBulkAll parts + 1
  | .iface _ d => uptoBulk d + 1
  | .map entries => uptoBulkEntries entries + 1
  | .held _ => 1
def uptoBulkAll {H : Type} : List (DataW H) → Nat
  | [] => 0
  | d :: r => uptoBulk d + uptoBulkAll r
def uptoBulkEntries {H : Type} : List (Lit × DataW H) → Nat
  | [] => 0
  | x :: r => uptoBulkEntry x + uptoBulkEntries r
def uptoBulkEntry {H : Type} : Lit × DataW H → Nat
  | (.string bytes, d) => bytes.length + uptoBulk d + 1
  | (_, d) => uptoBulk d + 1
 end
def uptoSmall : (H : Type) → List (DataW H) → Bool := fun _ ds => decide (uptoBulkAll ds ≤ 1048576)
def OpenSpec.upto (s : _root_.Go.ChangeSpec) : _root_.Go.OpenSpec := { _root_.Go.OpenSpec.ofChange s with cond := some uptoSmall }

/-- 'sherdlaw14.FlogOthers', WHERE WHAT IT READS IS OF BULK AT MOST 1048576: true; the input reads as it did. -/
def flogOthersUptoRow : OpenClaim := { program := "ytflcdgkckfcofaagreatdoor", sum := "7539d6d3d91905867cc32d80d78bd3f43ccf329f4c5a10e27b62de416712318c", func := "sherd/sherdlaw14.FlogOthers", spec := "flogOthers", inPlace := ["internal/reflectlite.ValueOf", "(internal/reflectlite.Value).Type", "(internal/reflectlite.Value).IsNil", "internal/reflectlite.TypeOf", "(internal/reflectlite.Value).Elem", "(internal/reflectlite.Value).Set"], unfollowed := true, recurses := true, named := ["sherd/sum.steps", "errors.errorType"], apart := false, laid := [("errors.errorType", laid_errors_errorType), ("sherd/sum.steps", laid_sherd_sum_steps)], narrowed := true }
def FlogOthersUptoSaid : Prop := flogOthersUptoRow.holds Tryz.pinned (OpenSpec.upto flogOthersSpec)

/-- 'sherdlaw14.FlogSmall', WHERE WHAT IT READS IS OF BULK AT MOST 1048576: true; the input reads as it did. -/
def flogSmallUptoRow : OpenClaim := { program := "ytflcdgkckfcofaagreatdoor", sum := "7539d6d3d91905867cc32d80d78bd3f43ccf329f4c5a10e27b62de416712318c", func := "sherd/sherdlaw14.FlogSmall", spec := "flogSmall", inPlace := ["internal/reflectlite.ValueOf", "(internal/reflectlite.Value).Type", "(internal/reflectlite.Value).IsNil", "internal/reflectlite.TypeOf", "(internal/reflectlite.Value).Elem", "(internal/reflectlite.Value).Set"], unfollowed := true, recurses := true, named := ["sherd/sum.steps", "errors.errorType"], apart := false, laid := [("errors.errorType", laid_errors_errorType), ("sherd/sum.steps", laid_sherd_sum_steps)], narrowed := true }
def FlogSmallUptoSaid : Prop := flogSmallUptoRow.holds Tryz.pinned (OpenSpec.upto flogSmallSpec)

/-- 'sherdlaw14.FlogLasts', WHERE WHAT IT READS IS OF BULK AT MOST 1048576: true; the input reads as it did. -/
def flogLastsUptoRow : OpenClaim := { program := "ytflcdgkckfcofaagreatdoor", sum := "7539d6d3d91905867cc32d80d78bd3f43ccf329f4c5a10e27b62de416712318c", func := "sherd/sherdlaw14.FlogLasts", spec := "flogLasts", inPlace := ["internal/reflectlite.ValueOf", "(internal/reflectlite.Value).Type", "(internal/reflectlite.Value).IsNil", "internal/reflectlite.TypeOf", "(internal/reflectlite.Value).Elem", "(internal/reflectlite.Value).Set"], unfollowed := true, recurses := true, named := ["sherd/sum.steps", "errors.errorType"], apart := false, laid := [("errors.errorType", laid_errors_errorType), ("sherd/sum.steps", laid_sherd_sum_steps)], narrowed := true }
def FlogLastsUptoSaid : Prop := flogLastsUptoRow.holds Tryz.pinned (OpenSpec.upto flogLastsSpec)

/-- 'sherdlaw14.FlogAgain', WHERE WHAT IT READS IS OF BULK AT MOST 1048576: true; the input reads as it did. -/
def flogAgainUptoRow : OpenClaim := { program := "ytflcdgkckfcofaagreatdoor", sum := "7539d6d3d91905867cc32d80d78bd3f43ccf329f4c5a10e27b62de416712318c", func := "sherd/sherdlaw14.FlogAgain", spec := "flogAgain", inPlace := ["internal/reflectlite.ValueOf", "(internal/reflectlite.Value).Type", "(internal/reflectlite.Value).IsNil", "internal/reflectlite.TypeOf", "(internal/reflectlite.Value).Elem", "(internal/reflectlite.Value).Set"], unfollowed := true, recurses := true, named := ["sherd/sum.steps", "errors.errorType"], apart := false, laid := [("errors.errorType", laid_errors_errorType), ("sherd/sum.steps", laid_sherd_sum_steps)], narrowed := true }
def FlogAgainUptoSaid : Prop := flogAgainUptoRow.holds Tryz.pinned (OpenSpec.upto flogAgainSpec)

/-- 'sherdlaw14.FlogPlays', WHERE WHAT IT READS IS OF BULK AT MOST 1048576: true; the input reads as it did. -/
def flogPlaysUptoRow : OpenClaim := { program := "ytflcdgkckfcofaagreatdoor", sum := "7539d6d3d91905867cc32d80d78bd3f43ccf329f4c5a10e27b62de416712318c", func := "sherd/sherdlaw14.FlogPlays", spec := "flogPlays", inPlace := ["internal/reflectlite.ValueOf", "(internal/reflectlite.Value).Type", "(internal/reflectlite.Value).IsNil", "internal/reflectlite.TypeOf", "(internal/reflectlite.Value).Elem", "(internal/reflectlite.Value).Set"], unfollowed := true, recurses := true, named := ["sherd/sum.steps", "errors.errorType"], apart := false, laid := [("errors.errorType", laid_errors_errorType), ("sherd/sum.steps", laid_sherd_sum_steps)], narrowed := true }
def FlogPlaysUptoSaid : Prop := flogPlaysUptoRow.holds Tryz.pinned (OpenSpec.upto flogPlaysSpec)

end Rows
end Go.Proofs.YtflcdgkckfcofaaGreatDoor
