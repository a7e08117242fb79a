/-
  The exclusive or of two bytes, as the conditions have it. A plain text (the check of all pairs takes the kernel half a minute).
-/
import Derived.Test.YtabifopphhpciaaGreatMem
namespace Go.Gf
open Go Go.Vc
theorem xor8 (a b : UInt8) : Value.int .u8 (xorI .u8 (a.toNat : Int) (b.toNat : Int)) = u8v (a ^^^ b) := by
  have h : ∀ x y : Fin 256, xorI .u8 (x.val : Int) (y.val : Int) = ((x.val ^^^ y.val : Nat) : Int) := by decide +kernel
  have h1 := h ⟨a.toNat, a.toNat_lt⟩ ⟨b.toNat, b.toNat_lt⟩
  simp only at h1
  unfold u8v
  rw [h1, UInt8.toNat_xor]
end Go.Gf
