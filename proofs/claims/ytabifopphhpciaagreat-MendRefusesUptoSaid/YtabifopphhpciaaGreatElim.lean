/-
  The steps of elimination keep what is done. A plain text, no program in sight.
-/
import Derived.Test.YtabifopphhpciaaGreatRwHp
namespace Go.Gf
section
variable {A : Mat} {n col i : Nat} {a : UInt8}
theorem done_swap (h : Done A n col) (hc : col ≤ i) (hi : i < n) : Done (fun r => if r = col then A i else if r = i then A col else A r) n col := fun j hj r hr => by
  dsimp only
  by_cases h1 : r = col
  · rw [if_pos h1, h j hj i hi, if_neg (by omega), if_neg (by omega)]
  · rw [if_neg h1]
    by_cases h2 : r = i
    · rw [if_pos h2, h j hj col (by omega), if_neg (by omega), if_neg (by omega)]
    · rw [if_neg h2, h j hj r hr]
theorem done_scale (h : Done A n col) (hc : col < n) : Done (fun r => if r = col then fun c => mul a (A col c) else A r) n col := fun j hj r hr => by
  dsimp only
  by_cases h1 : r = col
  · rw [if_pos h1, h j hj col hc, if_neg (by omega), if_neg (by omega), mul_zero]
  · rw [if_neg h1, h j hj r hr]
theorem done_add (h : Done A n col) (hc : col < n) : Done (fun r => if r = i then fun c => A i c ^^^ mul a (A col c) else A r) n col := fun j hj r hr => by
  dsimp only
  by_cases h1 : r = i
  · subst h1
    rw [if_pos rfl, h j hj col hc, h j hj r hr, if_neg (show ¬ col = j by omega), mul_zero, add_zero]
  · rw [if_neg h1, h j hj r hr]
theorem done_next (h : Done A n col) (h1 : A col col = 1) (h2 : ∀ r, r < n → r ≠ col → A r col = 0) : Done A n (col + 1) := fun j hj r hr => by
  by_cases hjc : j = col
  · subst hjc
    by_cases hr2 : r = j
    · rw [if_pos hr2, hr2, h1]
    · rw [if_neg hr2, h2 r hr hr2]
  · exact h j (by omega) r hr
end
theorem ent_setF {R : List (List UInt8)} {i : Nat} {r : List UInt8} (hi : i < R.length) : ent (R.set i r) = fun j => if j = i then fun c => r.getD c 0 else ent R j := by
  funext j c
  rw [ent_set hi]
  by_cases h : j = i
  · rw [if_pos h, if_pos h]
  · rw [if_neg h, if_neg h]
theorem ent_row {R : List (List UInt8)} {i : Nat} (hi : i < R.length) : (fun c => R[i].getD c 0) = ent R i := by funext c; rw [ent_at hi]
/-- A row times an element. -/
def mulR (a : UInt8) (l : List UInt8) : List UInt8 := l.map fun x => mul x a
theorem mulR_at (a : UInt8) (l : List UInt8) (c : Nat) : (mulR a l).getD c 0 = mul a (l.getD c 0) := by
  unfold mulR
  simp only [List.getD_eq_getElem?_getD, List.getElem?_map]
  cases l[c]? with
  | none => simp [mul_zero]
  | some x => simp [mul_comm]
end Go.Gf
