/-
  What the row gives: the table's cells, the arguments opened. The world of the witness.
-/
import Derived.Test.YtnhgnfflihoaiaaGreatDoorPutting
import Derived.Test.YtnhgnfflihoaiaaGreatDoorLaw
import Derived.Test.YtnhgnfflihoaiaaGreatDoorCards
import Derived.Test.YtnhgnfflihoaiaaGreatDoorTie
import Derived.ProofKit
import Derived.Lib.LaidTab
namespace Go.Proofs.YtnhgnfflihoaiaaGreatDoor
open Go Go.Vc Go.ChangeShapes Go.WideShapes Go.RowKit

theorem own : ownKnob PP.godebug = none := by kernel_rfl
theorem laidOut : laidOutB PP = true := by kernel_rfl
theorem gTab : PP.globalNamed "sherd/sum.steps" = some G_sum_steps := by kernel_rfl
theorem gTabType : (PP.globals[G_sum_steps]?).map (·.type) = some Ty_16_uint32 := by kernel_rfl
theorem undAr : PP.underlying Ty_16_uint32 = some (.array 16 Ty_uint32) := by kernel_rfl
theorem undU32 : PP.underlying Ty_uint32 = some (.int .u32) := by kernel_rfl
theorem cellsAr : PP.cellsOf Ty_16_uint32 = 16 := by kernel_rfl
theorem cellsU32 : PP.cellsOf Ty_uint32 = 1 := by kernel_rfl
theorem cells_uint8 : PP.cellsOf Ty_uint8 = 1 := by kernel_rfl
theorem bytes_uint8 : PP.bytesOf Ty_uint8 = 1 := by kernel_rfl
theorem und_bool : PP.underlying Ty_bool = some .bool := by kernel_rfl
theorem cells_Update : PP.cellsOf Ty_api_Update = 7 := by kernel_rfl
theorem cells_int : PP.cellsOf Ty_int = 1 := by kernel_rfl
theorem cells_int64 : PP.cellsOf Ty_int64 = 1 := by kernel_rfl
theorem und_int64 : PP.underlying Ty_int64 = some (.int .i64) := by kernel_rfl
theorem cells_bool : PP.cellsOf Ty_bool = 1 := by kernel_rfl
theorem cells_string : PP.cellsOf Ty_string = 1 := by kernel_rfl
theorem cells_Entry : PP.cellsOf Ty_api_Entry = 5 := by kernel_rfl
theorem cells_Tag : PP.cellsOf Ty_api_Tag = 2 := by kernel_rfl
theorem cells_slu8 : PP.cellsOf Ty_sl_uint8 = 1 := by kernel_rfl
def zsSteps : List Int := [0, 498536548, 997073096, 651767980, 1994146192, 1802195444, 1303535960, 1342533948, 3988292384, 4027552580, 3604390888, 3412177804, 2607071920, 2262029012, 2685067896, 3183342108]
theorem steps_tab : ∀ i : Fin 16, zsSteps.getD i.val 0 = ((tab i.val).toNat : Int) := by decide +kernel
theorem given {W : World} (h : laidMetH PP [("sherd/sum.steps", Rows.laid_sherd_sum_steps)] W) : GT W := by
  have h1 : laidMet PP (("sherd/sum.steps", Lib.tabData .u32 zsSteps) :: []) W := h
  have h2 := Lib.tabIs_of_head (rest := []) gTab gTabType undAr undU32 cellsU32 cellsAr h1
  intro i hi
  have h3 := h2.cell gTab i hi
  rw [blk_add, h3, steps_tab ⟨i, hi⟩]

section
variable {H : Type} {enc : TypeId × Value → H} {w : World} {cs : List Value}
theorem len7 {α : Type} {l : List α} (h : l.length = 7) : ∃ a b c d e f g, l = [a, b, c, d, e, f, g] := by
  match l, h with
  | [a, b, c, d, e, f, g], _ => exact ⟨a, b, c, d, e, f, g, rfl⟩
end

noncomputable def laidWorld (os : Os) : World :=
  { World.holding PP os ⟨#[], #[], []⟩ with heap := (World.holding PP os ⟨#[], #[], []⟩).heap.modify G_sum_steps fun
      | .cells _ t frozen => .cells (zsSteps.map (Value.int .u32)).toArray t frozen
      | o => o }
end Go.Proofs.YtnhgnfflihoaiaaGreatDoor
