/-
  Plain facts on numbers and lists of bytes: the form of a number, the sum of 32 bits, four bytes of a number. Nothing of Go stands here but the names of its arithmetic.
-/
import Derived.Test.YtabifopphhpciaaGreatOwn
namespace Go.Vc
open Go

theorem flat_step {α : Type} (l : List (List α)) (k : Nat) (hk : k < l.length) : (l.take (k + 1)).flatten = (l.take k).flatten ++ l[k] := by
  rw [List.take_succ_eq_append_getElem hk, List.flatten_append]; simp
theorem flat_le {α : Type} (l : List (List α)) (k : Nat) : (l.take k).flatten.length ≤ l.flatten.length := by
  have h := congrArg (fun x : List (List α) => x.flatten.length) (List.take_append_drop k l)
  simp only [List.flatten_append, List.length_append] at h
  omega

/-! ## A number's form -/
def uv (n : Nat) : List UInt8 := if n < 128 then [UInt8.ofNat n] else UInt8.ofNat (n % 128 + 128) :: uv (n / 128)
termination_by n
decreasing_by omega
theorem uv_small {n : Nat} (h : n < 128) : uv n = [UInt8.ofNat n] := by rw [uv, if_pos h]
theorem uv_big {n : Nat} (h : 128 ≤ n) : uv n = UInt8.ofNat (n % 128 + 128) :: uv (n / 128) := by rw [uv, if_neg (by omega)]
theorem uv_len_pos (n : Nat) : 0 < (uv n).length := by rw [uv]; split <;> simp
theorem uv_len (k : Nat) : ∀ n, n < 128 ^ (k + 1) → (uv n).length ≤ k + 1 := by
  induction k with
  | zero => intro n h; rw [uv_small (by simpa using h)]; simp
  | succ k ih =>
    intro n h
    by_cases h1 : n < 128
    · rw [uv_small h1]; simp
    · rw [uv_big (by omega)]
      have : n / 128 < 128 ^ (k + 1) := by rw [Nat.pow_succ] at h; omega
      have := ih _ this
      simp; omega
theorem uv_len9 {n : Nat} (h : n < 9223372036854775808) : (uv n).length ≤ 9 := uv_len 8 n (by omega)

/-! ## Bytes and Go's arithmetic -/
theorem u8_ofNat {n : Nat} (h : n < 256) : ((UInt8.ofNat n).toNat : Int) = n := by
  have : (UInt8.ofNat n).toNat = n % 256 := by simp [UInt8.toNat_ofNat']
  rw [this]; omega
theorem shr64 {n : Nat} (k : Nat) (hk : k ≤ 64) : shrI .i64 (n : Int) (k : Int) = ((n / 2 ^ k : Nat) : Int) := by
  unfold shrI
  have e : min (Int.toNat (k : Int)) (IntKind.i64.bits) = k := by
    have : IntKind.i64.bits = 64 := rfl
    rw [this, Int.toNat_natCast]; omega
  rw [e]
  have : ((2 : Int) ^ k) = ((2 ^ k : Nat) : Int) := by simp
  rw [this, Int.fdiv_eq_ediv_of_nonneg _ (Int.natCast_nonneg _)]
  exact (Int.natCast_ediv _ _).symm
theorem or128 {n : Nat} (h : n < 128) : orI .u8 (n : Int) 128 = ((n + 128 : Nat) : Int) := by
  have : ∀ m : Fin 128, orI .u8 (m.val : Int) 128 = ((m.val + 128 : Nat) : Int) := by decide +kernel
  exact this ⟨n, h⟩
theorem or128' {n : Nat} (h : n < 256) (h1 : 128 ≤ n) : orI .u8 (n : Int) 128 = (n : Int) := by
  have : ∀ m : Fin 256, 128 ≤ m.val → orI .u8 (m.val : Int) 128 = (m.val : Int) := by decide +kernel
  exact this ⟨n, h⟩ h1
theorem form_byte (n : Nat) : orI .u8 (wr .u8 (n : Int)) 128 = ((UInt8.ofNat (n % 128 + 128)).toNat : Int) := by
  rw [u8_ofNat (by omega), wr8_mod]
  have e : (n : Int) % 256 = ((n % 256 : Nat) : Int) := by omega
  rw [e]
  by_cases h : n % 256 < 128
  · rw [or128 h]; omega
  · rw [or128' (by omega) (by omega)]; omega

/-! ## The sum -/
def poly : BitVec 32 := 0xEDB88320#32
/-- One bit further. -/
def bs1 (c : BitVec 32) : BitVec 32 := (c >>> 1) ^^^ (if c.getLsbD 0 then poly else 0)
def bsn : Nat → BitVec 32 → BitVec 32
  | 0, c => c
  | n + 1, c => bsn n (bs1 c)
def crcB (c : BitVec 32) (b : UInt8) : BitVec 32 := bsn 8 (c ^^^ BitVec.ofNat 32 b.toNat)
def crcL (c : BitVec 32) (l : List UInt8) : BitVec 32 := l.foldl crcB c
/-- The sum of some bytes. -/
def crc (l : List UInt8) : BitVec 32 := ~~~ (crcL (BitVec.allOnes 32) l)
theorem crcL_append (c : BitVec 32) (a b : List UInt8) : crcL c (a ++ b) = crcL (crcL c a) b := by simp [crcL]
theorem bs1_xor (a b : BitVec 32) : bs1 (a ^^^ b) = bs1 a ^^^ bs1 b := by
  unfold bs1
  rw [BitVec.getLsbD_xor, BitVec.ushiftRight_xor_distrib]
  cases a.getLsbD 0 <;> cases b.getLsbD 0 <;> simp
  · rw [BitVec.xor_assoc]
  · rw [BitVec.xor_assoc, BitVec.xor_assoc, BitVec.xor_comm poly]
  · rw [BitVec.xor_assoc (a >>> 1) poly, BitVec.xor_comm poly (_ ^^^ poly), BitVec.xor_assoc (b >>> 1), BitVec.xor_self, BitVec.xor_zero]
theorem bsn_xor (n : Nat) : ∀ a b : BitVec 32, bsn n (a ^^^ b) = bsn n a ^^^ bsn n b := by
  induction n with
  | zero => intro a b; rfl
  | succ n ih => intro a b; simp only [bsn]; rw [bs1_xor, ih]
theorem bsn_add (m n : Nat) : ∀ c, bsn (m + n) c = bsn n (bsn m c) := by
  induction m with
  | zero => intro c; simp [bsn]
  | succ m ih => intro c; rw [Nat.add_right_comm]; simp only [bsn]; exact ih _
/-- Bits that haven't come yet just go down. -/
theorem bsn_high (n : Nat) : ∀ c : BitVec 32, (∀ i, i < n → c.getLsbD i = false) → bsn n c = c >>> n := by
  induction n with
  | zero => intro c _; simp [bsn]
  | succ n ih =>
    intro c h
    simp only [bsn]
    have e : bs1 c = c >>> 1 := by unfold bs1; rw [h 0 (by omega)]; simp
    rw [e, ih _ (fun i hi => by rw [BitVec.getLsbD_ushiftRight]; exact h _ (by omega)), ← BitVec.shiftRight_add, Nat.add_comm 1 n]
def tab (i : Nat) : BitVec 32 := bsn 4 (BitVec.ofNat 32 i)
theorem split_mask (c m : BitVec 32) : c = (c &&& m) ^^^ (c &&& ~~~ m) := by
  ext i hi
  simp
  cases c[i] <;> cases m[i] <;> rfl
theorem half (c : BitVec 32) : bsn 4 c = tab (c &&& 15#32).toNat ^^^ (c >>> 4) := by
  have e := split_mask c 15#32
  conv => lhs; rw [e]
  rw [bsn_xor]
  congr 1
  · unfold tab; rw [BitVec.ofNat_toNat]; simp
  · rw [bsn_high]
    · ext i hi
      simp only [BitVec.getElem_ushiftRight, BitVec.getLsbD_and, BitVec.getLsbD_not]
      by_cases h : 4 + i < 32
      · have e2 : (15#32).getLsbD (4 + i) = false := by
          have : ∀ j : Fin 28, (15#32).getLsbD (4 + j.val) = false := by decide +kernel
          exact this ⟨i, by omega⟩
        rw [e2]; simp [h]
      · simp [h]
        exact BitVec.getLsbD_of_ge c _ (by omega)
    · intro i hi
      rw [BitVec.getLsbD_and, BitVec.getLsbD_not]
      have : ∀ j : Fin 4, (15#32).getLsbD j.val = true := by decide +kernel
      rw [this ⟨i, hi⟩]; simp
theorem crcB_tab (c : BitVec 32) (b : UInt8) : crcB c b = (let x := c ^^^ BitVec.ofNat 32 b.toNat; let y := tab (x &&& 15#32).toNat ^^^ (x >>> 4); tab (y &&& 15#32).toNat ^^^ (y >>> 4)) := by
  unfold crcB
  rw [show 8 = 4 + 4 from rfl, bsn_add, half, half]
/-! ## Go's numbers of 32 bits as bits -/
theorem of32 (a : BitVec 32) : BitVec.ofInt IntKind.u32.bits (a.toNat : Int) = a := by
  show BitVec.ofInt 32 (a.toNat : Int) = a
  rw [BitVec.ofInt_natCast, BitVec.ofNat_toNat]; simp
theorem wrap32 (a : BitVec 32) : IntKind.u32.wrap (a.toNat : Int) = (a.toNat : Int) := by
  rw [IntKind.wrap_u32]; have := a.isLt; omega
theorem xor32 (a b : BitVec 32) : xorI .u32 (a.toNat : Int) (b.toNat : Int) = ((a ^^^ b).toNat : Int) := by unfold xorI; rw [of32, of32]; exact wrap32 _
theorem and32 (a b : BitVec 32) : andI .u32 (a.toNat : Int) (b.toNat : Int) = ((a &&& b).toNat : Int) := by unfold andI; rw [of32, of32]; exact wrap32 _
theorem shr32 (a : BitVec 32) (k : Nat) (hk : k ≤ 32) : shrI .u32 (a.toNat : Int) (k : Int) = ((a >>> k).toNat : Int) := by
  unfold shrI
  have e : min (Int.toNat (k : Int)) (IntKind.u32.bits) = k := by
    have : IntKind.u32.bits = 32 := rfl
    rw [this, Int.toNat_natCast]; omega
  rw [e]
  have : ((2 : Int) ^ k) = ((2 ^ k : Nat) : Int) := by simp
  rw [this, Int.fdiv_eq_ediv_of_nonneg _ (Int.natCast_nonneg _), BitVec.toNat_ushiftRight, Nat.shiftRight_eq_div_pow]
  exact (Int.natCast_ediv _ _).symm
theorem not32 (a : BitVec 32) : notI .u32 (a.toNat : Int) = ((~~~ a).toNat : Int) := by
  have h : notI .u32 (a.toNat : Int) = xorI .u32 (((BitVec.allOnes 32).toNat : Nat) : Int) (a.toNat : Int) := rfl
  rw [h, xor32, BitVec.allOnes_xor]
theorem wr32_u8 (b : UInt8) : wr .u32 (b.toNat : Int) = ((BitVec.ofNat 32 b.toNat).toNat : Int) := by
  have := b.toNat_lt
  rw [wr32u (by omega) (by omega)]
  simp
/-- Four bytes of a number, the lowest first. -/
def le4 (c : BitVec 32) : List UInt8 := [UInt8.ofNat (c.toNat % 256), UInt8.ofNat (c.toNat / 256 % 256), UInt8.ofNat (c.toNat / 65536 % 256), UInt8.ofNat (c.toNat / 16777216 % 256)]
theorem le4_len (c : BitVec 32) : (le4 c).length = 4 := rfl
theorem wr8_byte (n : Nat) : wr .u8 (n : Int) = ((UInt8.ofNat (n % 256)).toNat : Int) := by rw [u8_ofNat (by omega), wr8_mod]; omega
theorem le4_byte (c : BitVec 32) (k : Nat) (hk : k ≤ 32) : wr .u8 (shrI .u32 (c.toNat : Int) (k : Int)) = ((UInt8.ofNat (c.toNat / 2 ^ k % 256)).toNat : Int) := by
  rw [shr32 c k hk, wr8_byte, BitVec.toNat_ushiftRight, Nat.shiftRight_eq_div_pow]
end Go.Vc
