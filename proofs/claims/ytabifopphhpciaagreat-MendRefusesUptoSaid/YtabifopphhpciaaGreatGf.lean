/-
  The field of 256 elements of the polynomial 0x11d: a plain text, no program in sight.
-/
namespace Go.Gf
/-- Twice an element; the powers of 2. -/
def dbl (n : Nat) : Nat := if 255 < 2 * n then (2 * n) ^^^ 285 else 2 * n
def pw : Nat → Nat
  | 0 => 1
  | i + 1 => dbl (pw i)
/-- The powers and the logarithms, as tables. -/
def expT : List Nat := [1, 2, 4, 8, 16, 32, 64, 128, 29, 58, 116, 232, 205, 135, 19, 38, 76, 152, 45, 90, 180, 117, 234, 201, 143, 3, 6, 12, 24, 48, 96, 192, 157, 39, 78, 156, 37, 74, 148, 53, 106, 212, 181, 119, 238, 193, 159, 35, 70, 140, 5, 10, 20, 40, 80, 160, 93, 186, 105, 210, 185, 111, 222, 161, 95, 190, 97, 194, 153, 47, 94, 188, 101, 202, 137, 15, 30, 60, 120, 240, 253, 231, 211, 187, 107, 214, 177, 127, 254, 225, 223, 163, 91, 182, 113, 226, 217, 175, 67, 134, 17, 34, 68, 136, 13, 26, 52, 104, 208, 189, 103, 206, 129, 31, 62, 124, 248, 237, 199, 147, 59, 118, 236, 197, 151, 51, 102, 204, 133, 23, 46, 92, 184, 109, 218, 169, 79, 158, 33, 66, 132, 21, 42, 84, 168, 77, 154, 41, 82, 164, 85, 170, 73, 146, 57, 114, 228, 213, 183, 115, 230, 209, 191, 99, 198, 145, 63, 126, 252, 229, 215, 179, 123, 246, 241, 255, 227, 219, 171, 75, 150, 49, 98, 196, 149, 55, 110, 220, 165, 87, 174, 65, 130, 25, 50, 100, 200, 141, 7, 14, 28, 56, 112, 224, 221, 167, 83, 166, 81, 162, 89, 178, 121, 242, 249, 239, 195, 155, 43, 86, 172, 69, 138, 9, 18, 36, 72, 144, 61, 122, 244, 245, 247, 243, 251, 235, 203, 139, 11, 22, 44, 88, 176, 125, 250, 233, 207, 131, 27, 54, 108, 216, 173, 71, 142]
def logT : List Nat := [0, 0, 1, 25, 2, 50, 26, 198, 3, 223, 51, 238, 27, 104, 199, 75, 4, 100, 224, 14, 52, 141, 239, 129, 28, 193, 105, 248, 200, 8, 76, 113, 5, 138, 101, 47, 225, 36, 15, 33, 53, 147, 142, 218, 240, 18, 130, 69, 29, 181, 194, 125, 106, 39, 249, 185, 201, 154, 9, 120, 77, 228, 114, 166, 6, 191, 139, 98, 102, 221, 48, 253, 226, 152, 37, 179, 16, 145, 34, 136, 54, 208, 148, 206, 143, 150, 219, 189, 241, 210, 19, 92, 131, 56, 70, 64, 30, 66, 182, 163, 195, 72, 126, 110, 107, 58, 40, 84, 250, 133, 186, 61, 202, 94, 155, 159, 10, 21, 121, 43, 78, 212, 229, 172, 115, 243, 167, 87, 7, 112, 192, 247, 140, 128, 99, 13, 103, 74, 222, 237, 49, 197, 254, 24, 227, 165, 153, 119, 38, 184, 180, 124, 17, 68, 146, 217, 35, 32, 137, 46, 55, 63, 209, 91, 149, 188, 207, 205, 144, 135, 151, 178, 220, 252, 190, 97, 242, 86, 211, 171, 20, 42, 93, 158, 132, 60, 57, 83, 71, 109, 65, 162, 31, 45, 67, 216, 183, 123, 164, 118, 196, 23, 73, 236, 127, 12, 111, 246, 108, 161, 59, 82, 41, 157, 85, 170, 251, 96, 134, 177, 187, 204, 62, 90, 203, 89, 95, 176, 156, 169, 160, 81, 11, 245, 22, 235, 122, 117, 44, 215, 79, 174, 213, 233, 230, 231, 173, 232, 116, 214, 244, 234, 168, 80, 88, 175]
def lg (x : Nat) : Nat := logT.getD x 0
theorem pw_tab : ∀ i : Fin 255, pw i.val = expT.getD i.val 0 ∧ expT.getD i.val 0 < 256 ∧ expT.getD i.val 0 ≠ 0 ∧ lg (expT.getD i.val 0) = i.val := by decide +kernel
theorem lg_tab : ∀ x : Fin 256, x.val ≠ 0 → expT.getD (lg x.val) 0 = x.val ∧ lg x.val < 255 := by decide +kernel
theorem dbl_xor_tab : ∀ x y : Fin 256, dbl (x.val ^^^ y.val) = dbl x.val ^^^ dbl y.val := by decide +kernel
theorem dbl_tab : ∀ x : Fin 256, dbl x.val < 256 := by decide +kernel
theorem pw_255 : pw 255 = 1 := by decide +kernel
theorem pw_add (i : Nat) : ∀ j, pw (i + 255 + j) = pw (i + j)
  | 0 => by
    induction i with
    | zero => show pw 255 = pw 0; exact pw_255
    | succ i ih =>
      show pw (i + 1 + 255) = pw (i + 1)
      rw [show i + 1 + 255 = (i + 255) + 1 by omega]
      show dbl (pw (i + 255)) = dbl (pw i)
      have : pw (i + 255) = pw i := ih
      rw [this]
  | j + 1 => by
    show dbl (pw (i + 255 + j)) = dbl (pw (i + j))
    rw [pw_add i j]
theorem pw_mod (i : Nat) : pw (i % 255) = pw i := by
  have h : ∀ q r, pw (r + 255 * q) = pw r := fun q r => by
    induction q with
    | zero => rfl
    | succ q ih =>
      have := pw_add r (255 * q)
      rw [show r + 255 * (q + 1) = r + 255 + 255 * q by omega, this, ih]
  conv => rhs; rw [← Nat.mod_add_div i 255]
  exact (h _ _).symm
theorem pw_lt (i : Nat) : pw i < 256 ∧ pw i ≠ 0 := by
  rw [← pw_mod i]
  have h := pw_tab ⟨i % 255, Nat.mod_lt _ (by decide)⟩
  simp only at h
  rw [h.1]
  exact ⟨h.2.1, h.2.2.1⟩
theorem lg_pw (i : Nat) : lg (pw i) = i % 255 := by
  rw [← pw_mod i]
  have h := pw_tab ⟨i % 255, Nat.mod_lt _ (by decide)⟩
  simp only at h
  rw [h.1]
  exact h.2.2.2
theorem pw_lg {x : Nat} (hx : x < 256) (h0 : x ≠ 0) : pw (lg x) = x ∧ lg x < 255 := by
  have h := lg_tab ⟨x, hx⟩ h0
  simp only at h
  have h2 := pw_tab ⟨lg x, h.2⟩
  simp only at h2
  exact ⟨by rw [h2.1, h.1], h.2⟩
theorem exists_pw {x : Nat} (hx : x < 256) (h0 : x ≠ 0) : ∃ i, x = pw i := ⟨lg x, (pw_lg hx h0).1.symm⟩
/-- The product. -/
def mulN (a b : Nat) : Nat := if a = 0 ∨ b = 0 then 0 else pw (lg a + lg b)
theorem mulN_pw (i j : Nat) : mulN (pw i) (pw j) = pw (i + j) := by
  unfold mulN
  rw [if_neg (fun h => h.elim (pw_lt i).2 (pw_lt j).2), lg_pw, lg_pw, ← pw_mod (i + j), ← pw_mod (i % 255 + j % 255), ← Nat.add_mod]
def dblN : Nat → Nat → Nat
  | 0, x => x
  | i + 1, x => dbl (dblN i x)
theorem dblN_pw (i j : Nat) : dblN i (pw j) = pw (i + j) := by
  induction i with
  | zero => show pw j = pw (0 + j); rw [Nat.zero_add]
  | succ i ih => show dbl (dblN i (pw j)) = _; rw [ih, show i + 1 + j = (i + j) + 1 by omega]; rfl
theorem dblN_zero (i : Nat) : dblN i 0 = 0 := by
  induction i with
  | zero => rfl
  | succ i ih => show dbl (dblN i 0) = 0; rw [ih]; rfl
theorem dblN_lt {x : Nat} (hx : x < 256) (i : Nat) : dblN i x < 256 := by
  induction i with
  | zero => exact hx
  | succ i ih => exact dbl_tab ⟨dblN i x, ih⟩
theorem xor_lt {x y : Nat} (hx : x < 256) (hy : y < 256) : x ^^^ y < 256 := Nat.xor_lt_two_pow (n := 8) hx hy
theorem dblN_xor {x y : Nat} (hx : x < 256) (hy : y < 256) (i : Nat) : dblN i (x ^^^ y) = dblN i x ^^^ dblN i y := by
  induction i with
  | zero => rfl
  | succ i ih =>
    show dbl (dblN i (x ^^^ y)) = dbl (dblN i x) ^^^ dbl (dblN i y)
    rw [ih]
    exact dbl_xor_tab ⟨_, dblN_lt hx i⟩ ⟨_, dblN_lt hy i⟩
theorem mulN_dblN {x : Nat} (hx : x < 256) (i : Nat) : mulN (pw i) x = dblN i x := by
  by_cases h0 : x = 0
  · subst h0
    unfold mulN
    rw [if_pos (.inr rfl), dblN_zero]
  · obtain ⟨j, rfl⟩ := exists_pw hx h0
    rw [mulN_pw, dblN_pw]
theorem mulN_lt (a b : Nat) : mulN a b < 256 := by
  unfold mulN
  split
  · decide
  · exact (pw_lt _).1
/-- The field. -/
def mul (a b : UInt8) : UInt8 := UInt8.ofNat (mulN a.toNat b.toNat)
def inv (a : UInt8) : UInt8 := UInt8.ofNat (pw (255 - lg a.toNat))
theorem mul_toNat (a b : UInt8) : (mul a b).toNat = mulN a.toNat b.toNat := by
  unfold mul
  rw [UInt8.toNat_ofNat']
  exact Nat.mod_eq_of_lt (mulN_lt _ _)
theorem toNat_ne {a : UInt8} (h : a ≠ 0) : a.toNat ≠ 0 := fun e => h (UInt8.toNat_inj.1 e)
theorem mul_zero (a : UInt8) : mul a 0 = 0 := UInt8.toNat_inj.1 (by rw [mul_toNat]; unfold mulN; rw [if_pos (.inr rfl)]; rfl)
theorem zero_mul (a : UInt8) : mul 0 a = 0 := UInt8.toNat_inj.1 (by rw [mul_toNat]; unfold mulN; rw [if_pos (.inl rfl)]; rfl)
theorem mul_comm (a b : UInt8) : mul a b = mul b a := UInt8.toNat_inj.1 (by
  rw [mul_toNat, mul_toNat]
  unfold mulN
  by_cases h : a.toNat = 0 ∨ b.toNat = 0
  · rw [if_pos h, if_pos h.symm]
  · rw [if_neg h, if_neg (fun k => h k.symm), Nat.add_comm])
theorem pw_of {a : UInt8} (h : a ≠ 0) : ∃ i, a.toNat = pw i := exists_pw a.toNat_lt (toNat_ne h)
theorem mul_assoc (a b c : UInt8) : mul (mul a b) c = mul a (mul b c) := by
  by_cases ha : a = 0
  · subst ha; rw [zero_mul, zero_mul, zero_mul]
  by_cases hb : b = 0
  · subst hb; rw [mul_zero, zero_mul, mul_zero]
  by_cases hc : c = 0
  · subst hc; rw [mul_zero, mul_zero, mul_zero]
  obtain ⟨i, hi⟩ := pw_of ha
  obtain ⟨j, hj⟩ := pw_of hb
  obtain ⟨k, hk⟩ := pw_of hc
  apply UInt8.toNat_inj.1
  rw [mul_toNat, mul_toNat, mul_toNat, mul_toNat, hi, hj, hk, mulN_pw, mulN_pw, mulN_pw, mulN_pw, Nat.add_assoc]
theorem one_mul (a : UInt8) : mul 1 a = a := UInt8.toNat_inj.1 (by
  rw [mul_toNat]
  exact mulN_dblN a.toNat_lt 0)
theorem mul_one (a : UInt8) : mul a 1 = a := by rw [mul_comm, one_mul]
theorem mul_add (a x y : UInt8) : mul a (x ^^^ y) = mul a x ^^^ mul a y := by
  by_cases ha : a = 0
  · subst ha; rw [zero_mul, zero_mul, zero_mul]; rfl
  obtain ⟨i, hi⟩ := pw_of ha
  apply UInt8.toNat_inj.1
  rw [UInt8.toNat_xor, mul_toNat, mul_toNat, mul_toNat, UInt8.toNat_xor, hi, mulN_dblN (xor_lt x.toNat_lt y.toNat_lt), mulN_dblN x.toNat_lt, mulN_dblN y.toNat_lt]
  exact dblN_xor x.toNat_lt y.toNat_lt i
theorem add_mul (x y a : UInt8) : mul (x ^^^ y) a = mul x a ^^^ mul y a := by rw [mul_comm, mul_add, mul_comm a x, mul_comm a y]
theorem mul_inv {a : UInt8} (h : a ≠ 0) : mul a (inv a) = 1 := by
  have h1 := pw_lg a.toNat_lt (toNat_ne h)
  apply UInt8.toNat_inj.1
  have h2 : (inv a).toNat = pw (255 - lg a.toNat) := by
    unfold inv
    rw [UInt8.toNat_ofNat']
    exact Nat.mod_eq_of_lt (pw_lt _).1
  rw [mul_toNat, h2]
  conv => lhs; arg 1; rw [← h1.1]
  rw [mulN_pw, show lg a.toNat + (255 - lg a.toNat) = 255 by omega]
  exact pw_255
theorem mul_eq_zero {a b : UInt8} (h : mul a b = 0) (ha : a ≠ 0) : b = 0 := by
  have h1 : mul (inv a) (mul a b) = 0 := by rw [h, mul_zero]
  rw [← mul_assoc, mul_comm (inv a), mul_inv ha, one_mul] at h1
  exact h1
theorem inv_ne {a : UInt8} (h : a ≠ 0) : inv a ≠ 0 := fun e => by
  have := mul_inv h
  rw [e, mul_zero] at this
  exact absurd this (by decide)
theorem add_self (a : UInt8) : a ^^^ a = 0 := UInt8.xor_self
theorem add_zero (a : UInt8) : a ^^^ 0 = a := UInt8.xor_zero
theorem zero_add (a : UInt8) : 0 ^^^ a = a := UInt8.zero_xor
theorem add_comm (a b : UInt8) : a ^^^ b = b ^^^ a := UInt8.xor_comm _ _
theorem add_assoc (a b c : UInt8) : a ^^^ b ^^^ c = a ^^^ (b ^^^ c) := UInt8.xor_assoc _ _ _
theorem add_swap (a b c d : UInt8) : (a ^^^ b) ^^^ (c ^^^ d) = (a ^^^ c) ^^^ (b ^^^ d) := by
  rw [add_assoc, add_assoc, ← add_assoc b, add_comm b c, add_assoc c]
theorem eq_of_add {a b : UInt8} (h : a ^^^ b = 0) : a = b := by
  have h1 : (a ^^^ b) ^^^ b = b := by rw [h, zero_add]
  rw [add_assoc, add_self, add_zero] at h1
  exact h1
end Go.Gf
