/-
  Plain facts on numbers and lists of bytes: the form of a number, the sum of 32 bits, four bytes of a number. Nothing of Go stands here but the names of its arithmetic.
-/
import Derived.Test.YtgnceldnfefnmaaGreatOwn
namespace Go.Vc
open Go

/-! ## A number's form -/
/-! ## Bytes and Go's arithmetic -/
theorem u8_ofNat {n : Nat} (h : n < 256) : ((UInt8.ofNat n).toNat : Int) = n := by
  have : (UInt8.ofNat n).toNat = n % 256 := by simp [UInt8.toNat_ofNat']
  rw [this]; omega
/-! ## The sum -/
/-! ## Go's numbers of 32 bits as bits -/
end Go.Vc
