/-
  Linear algebra over the field of 256 elements: kernels, elimination, Vandermonde. A plain text, no program in sight.
-/
import Derived.Test.YtabifopphhpciaaGreatGf
namespace Go.Gf
/-- A sum, a product with a column. -/
def sumX : Nat → (Nat → UInt8) → UInt8
  | 0, _ => 0
  | n + 1, f => sumX n f ^^^ f n
def dot (n : Nat) (f v : Nat → UInt8) : UInt8 := sumX n fun c => mul (f c) (v c)
theorem sumX_congr {n : Nat} {f g : Nat → UInt8} (h : ∀ c, c < n → f c = g c) : sumX n f = sumX n g := by
  induction n with
  | zero => rfl
  | succ n ih =>
    show sumX n f ^^^ f n = sumX n g ^^^ g n
    rw [ih fun c hc => h c (by omega), h n (by omega)]
theorem sumX_zero {n : Nat} {f : Nat → UInt8} (h : ∀ c, c < n → f c = 0) : sumX n f = 0 := by
  induction n with
  | zero => rfl
  | succ n ih =>
    show sumX n f ^^^ f n = 0
    rw [ih fun c hc => h c (by omega), h n (by omega)]
    rfl
theorem sumX_add (n : Nat) (f g : Nat → UInt8) : sumX n (fun c => f c ^^^ g c) = sumX n f ^^^ sumX n g := by
  induction n with
  | zero => exact (add_zero 0).symm
  | succ n ih =>
    show sumX n (fun c => f c ^^^ g c) ^^^ (f n ^^^ g n) = (sumX n f ^^^ f n) ^^^ (sumX n g ^^^ g n)
    rw [ih, add_swap]
theorem sumX_mul (n : Nat) (a : UInt8) (f : Nat → UInt8) : sumX n (fun c => mul a (f c)) = mul a (sumX n f) := by
  induction n with
  | zero => exact (mul_zero a).symm
  | succ n ih =>
    show sumX n (fun c => mul a (f c)) ^^^ mul a (f n) = mul a (sumX n f ^^^ f n)
    rw [ih, mul_add]
theorem sumX_swap (n m : Nat) (f : Nat → Nat → UInt8) : sumX n (fun i => sumX m fun j => f i j) = sumX m fun j => sumX n fun i => f i j := by
  induction n with
  | zero => exact (sumX_zero fun _ _ => rfl).symm
  | succ n ih =>
    show sumX n (fun i => sumX m fun j => f i j) ^^^ sumX m (fun j => f n j) = sumX m fun j => sumX n (fun i => f i j) ^^^ f n j
    rw [ih, sumX_add]
/-- One summand alone. -/
theorem sumX_one {n k : Nat} {f : Nat → UInt8} (hk : k < n) (h : ∀ c, c < n → c ≠ k → f c = 0) : sumX n f = f k := by
  induction n with
  | zero => omega
  | succ n ih =>
    show sumX n f ^^^ f n = f k
    by_cases hn : k = n
    · subst hn
      rw [sumX_zero fun c hc => h c (by omega) (by omega), zero_add]
    · rw [ih (by omega) fun c hc hck => h c (by omega) hck, h n (by omega) (fun e => hn e.symm), add_zero]
theorem sumX_split (n m : Nat) (f : Nat → UInt8) : sumX (n + m) f = sumX n f ^^^ sumX m fun c => f (n + c) := by
  induction m with
  | zero => exact (add_zero _).symm
  | succ m ih =>
    show sumX (n + m) f ^^^ f (n + m) = sumX n f ^^^ (sumX m (fun c => f (n + c)) ^^^ f (n + m))
    rw [ih, add_assoc]
theorem sumX_head (k : Nat) (f : Nat → UInt8) : sumX (k + 1) f = f 0 ^^^ sumX k fun c => f (c + 1) := by
  rw [Nat.add_comm k 1, sumX_split]
  show (0 ^^^ f 0) ^^^ _ = _
  rw [zero_add]
  congr 1
  exact sumX_congr fun c _ => by rw [Nat.add_comm]
theorem dot_congr {n : Nat} {f g v w : Nat → UInt8} (h : ∀ c, c < n → f c = g c) (h2 : ∀ c, c < n → v c = w c) : dot n f v = dot n g w := sumX_congr fun c hc => by rw [h c hc, h2 c hc]
theorem dot_add (n : Nat) (f g v : Nat → UInt8) : dot n (fun c => f c ^^^ g c) v = dot n f v ^^^ dot n g v := by
  unfold dot
  rw [← sumX_add]
  exact sumX_congr fun c _ => add_mul _ _ _
theorem dot_mul (n : Nat) (a : UInt8) (f v : Nat → UInt8) : dot n (fun c => mul a (f c)) v = mul a (dot n f v) := by
  unfold dot
  rw [← sumX_mul]
  exact sumX_congr fun c _ => mul_assoc _ _ _
/-! ## Rows under elimination -/
abbrev Mat := Nat → Nat → UInt8
/-- What all rows send to 0. -/
def Ker (A : Mat) (n w : Nat) (v : Nat → UInt8) : Prop := ∀ i, i < n → dot w (A i) v = 0
def SameKer (A B : Mat) (n w : Nat) : Prop := ∀ v, Ker A n w v ↔ Ker B n w v
theorem SameKer.refl (A : Mat) (n w : Nat) : SameKer A A n w := fun _ => Iff.rfl
theorem SameKer.trans {A B C : Mat} {n w : Nat} (h : SameKer A B n w) (k : SameKer B C n w) : SameKer A C n w := fun v => (h v).trans (k v)
theorem ker_swap {A : Mat} {n w i j : Nat} (hi : i < n) (hj : j < n) : SameKer A (fun r => if r = i then A j else if r = j then A i else A r) n w := fun v => by
  constructor
  · intro h r hr
    show dot w (if r = i then A j else if r = j then A i else A r) v = 0
    split
    · exact h j hj
    · split
      · exact h i hi
      · exact h r hr
  · intro h r hr
    by_cases h1 : r = i
    · subst h1
      have := h j hj
      simp only at this
      by_cases h2 : j = r
      · subst h2; simpa using this
      · rw [if_neg h2] at this; simpa using this
    · by_cases h2 : r = j
      · subst h2
        have := h i hi
        simp only [if_true] at this
        exact this
      · have := h r hr
        simp only [if_neg h1, if_neg h2] at this
        exact this
theorem ker_scale {A : Mat} {n w i : Nat} {a : UInt8} (hi : i < n) (ha : a ≠ 0) : SameKer A (fun r => if r = i then fun c => mul a (A i c) else A r) n w := fun v => by
  constructor
  · intro h r hr
    show dot w (if r = i then fun c => mul a (A i c) else A r) v = 0
    split
    · rw [dot_mul, h i hi, mul_zero]
    · exact h r hr
  · intro h r hr
    have := h r hr
    simp only at this
    by_cases h1 : r = i
    · subst h1
      rw [if_pos rfl, dot_mul] at this
      exact mul_eq_zero this ha
    · rw [if_neg h1] at this
      exact this
theorem ker_add {A : Mat} {n w i j : Nat} {a : UInt8} (hi : i < n) (hj : j < n) (hij : i ≠ j) : SameKer A (fun r => if r = i then fun c => A i c ^^^ mul a (A j c) else A r) n w := fun v => by
  constructor
  · intro h r hr
    show dot w (if r = i then fun c => A i c ^^^ mul a (A j c) else A r) v = 0
    split
    · rw [dot_add, dot_mul, h i hi, h j hj, mul_zero]; rfl
    · exact h r hr
  · intro h r hr
    have h1 := h r hr
    have h2 := h j hj
    simp only at h1 h2
    rw [if_neg (Ne.symm hij)] at h2
    by_cases h3 : r = i
    · subst h3
      rw [if_pos rfl, dot_add, dot_mul, h2, mul_zero, add_zero] at h1
      exact h1
    · rw [if_neg h3] at h1
      exact h1
/-- The first columns are done. -/
def Done (A : Mat) (n col : Nat) : Prop := ∀ j, j < col → ∀ i, i < n → A i j = if i = j then 1 else 0
/-- Only 0 is sent to 0. -/
def Triv (M : Mat) (n : Nat) : Prop := ∀ v, Ker M n n v → ∀ c, c < n → v c = 0
/-- Where no row has a pivot, something is sent to 0. -/
theorem no_pivot {A : Mat} {n w col : Nat} (hD : Done A n col) (hc : col < n) (hw : n ≤ w) (h0 : ∀ i, col ≤ i → i < n → A i col = 0) : ∃ v, v col = 1 ∧ (∀ c, col < c → v c = 0) ∧ Ker A n w v := by
  refine ⟨fun c => if c = col then 1 else if c < col then A c col else 0, by simp, fun c h => by simp only; rw [if_neg (by omega), if_neg (by omega)], fun i hi => ?_⟩
  have h1 : dot w (A i) (fun c => if c = col then 1 else if c < col then A c col else 0) = sumX w fun c => (if c = col then A i col else 0) ^^^ (if c < col then (if i = c then A c col else 0) else 0) := by
    refine sumX_congr fun c hcw => ?_
    dsimp only
    by_cases h2 : c = col
    · subst h2
      simp [mul_one]
    · rw [if_neg h2, if_neg h2]
      by_cases h3 : c < col
      · rw [if_pos h3, if_pos h3, hD c h3 i hi, zero_add]
        by_cases h4 : i = c
        · rw [if_pos h4, if_pos h4, one_mul]
        · rw [if_neg h4, if_neg h4, zero_mul]
      · rw [if_neg h3, if_neg h3, mul_zero, add_zero]
  rw [h1, sumX_add, sumX_one (k := col) (by omega) (fun c _ hcc => by rw [if_neg hcc]), if_pos rfl]
  by_cases h5 : i < col
  · rw [sumX_one (k := i) (by omega) (fun c _ hci => by
      split
      · rw [if_neg (fun e => hci e.symm)]
      · rfl), if_pos h5, if_pos rfl, add_self]
  · rw [h0 i (by omega) hi, sumX_zero fun c _ => by
      split
      · rename_i h6; rw [if_neg (by omega)]
      · rfl]
    rfl
/-! ## The inverse -/
/-- A matrix beside the identity. -/
def aug (M : Mat) (n : Nat) : Mat := fun i c => if c < n then M i c else if c = n + i then 1 else 0
def pair (n : Nat) (x y : Nat → UInt8) : Nat → UInt8 := fun c => if c < n then x c else y (c - n)
theorem dot_pair (n : Nat) (f x y : Nat → UInt8) : dot (n + n) f (pair n x y) = dot n f x ^^^ dot n (fun c => f (n + c)) y := by
  unfold dot
  rw [sumX_split]
  congr 1
  · exact sumX_congr fun c hc => by unfold pair; rw [if_pos hc]
  · exact sumX_congr fun c hc => by unfold pair; rw [if_neg (by omega), show n + c - n = c by omega]
theorem dot_aug {M : Mat} {n i : Nat} (hi : i < n) (x y : Nat → UInt8) : dot (n + n) (aug M n i) (pair n x y) = dot n (M i) x ^^^ y i := by
  rw [dot_pair]
  congr 1
  · exact dot_congr (fun c hc => by unfold aug; rw [if_pos hc]) fun _ _ => rfl
  · unfold dot
    rw [sumX_one (k := i) hi fun c hc hci => by
      unfold aug
      dsimp only
      rw [if_neg (by omega), if_neg (by omega), zero_mul]]
    unfold aug
    dsimp only
    rw [if_neg (by omega), if_pos rfl, one_mul]
theorem dot_done {A : Mat} {n i : Nat} (hD : Done A n n) (hi : i < n) (x y : Nat → UInt8) : dot (n + n) (A i) (pair n x y) = x i ^^^ dot n (fun c => A i (n + c)) y := by
  rw [dot_pair]
  congr 1
  unfold dot
  rw [sumX_one (k := i) hi fun c hc hci => by rw [hD c hc i hi, if_neg (fun e => hci e.symm), zero_mul], hD i hi i hi, if_pos rfl, one_mul]
theorem inverse {M A : Mat} {n : Nat} (hD : Done A n n) (hK : SameKer (aug M n) A n (n + n)) :
    (∀ x i, i < n → dot n (fun c => A i (n + c)) (fun j => dot n (M j) x) = x i) ∧ (∀ y i, i < n → dot n (M i) (fun j => dot n (fun c => A j (n + c)) y) = y i) := by
  constructor
  · intro x i hi
    have h1 : Ker (aug M n) n (n + n) (pair n x fun j => dot n (M j) x) := fun r hr => by rw [dot_aug hr, add_self]
    have h2 := (hK _).1 h1 i hi
    rw [dot_done hD hi] at h2
    exact (eq_of_add h2).symm
  · intro y i hi
    have h1 : Ker A n (n + n) (pair n (fun j => dot n (fun c => A j (n + c)) y) y) := fun r hr => by rw [dot_done hD hr, add_self]
    have h2 := (hK _).2 h1 i hi
    rw [dot_aug hi] at h2
    exact eq_of_add h2
/-- A matrix that sends only 0 to 0 always has a pivot. -/
theorem has_pivot {M A : Mat} {n col : Nat} (hT : Triv M n) (hK : SameKer (aug M n) A n (n + n)) (hD : Done A n col) (hc : col < n) : ∃ i, col ≤ i ∧ i < n ∧ A i col ≠ 0 := by
  refine Classical.byContradiction fun hno => ?_
  obtain ⟨v, h1, h2, h3⟩ := no_pivot hD hc (show n ≤ n + n by omega) fun i hi hn => Classical.byContradiction fun h => hno ⟨i, hi, hn, h⟩
  have h4 := (hK v).2 h3
  have h5 : Ker M n n v := fun i hi => by
    have h6 := h4 i hi
    have h7 : dot (n + n) (aug M n i) v = dot (n + n) (aug M n i) (pair n v fun _ => 0) := dot_congr (fun _ _ => rfl) fun c hc2 => by
      unfold pair
      split
      · rfl
      · exact h2 c (by omega)
    rw [h7, dot_aug hi, add_zero] at h6
    exact h6
  have h6 := hT v h5 col hc
  rw [h1] at h6
  exact absurd h6 (by decide)
/-! ## Vandermonde -/
def powX (p : UInt8) : Nat → UInt8
  | 0 => 1
  | c + 1 => mul (powX p c) p
/-- A polynomial's value, the lowest coefficient first. -/
def evalX : List UInt8 → UInt8 → UInt8
  | [], _ => 0
  | c :: r, x => c ^^^ mul x (evalX r x)
/-- What is left when a root's factor is taken out. -/
def quoX : List UInt8 → UInt8 → List UInt8
  | [], _ => []
  | [_], _ => []
  | _ :: c :: r, a => evalX (c :: r) a :: quoX (c :: r) a
theorem quo_len : ∀ (l : List UInt8) (a : UInt8), (quoX l a).length = l.length - 1
  | [], _ => rfl
  | [_], _ => rfl
  | _ :: c :: r, a => by
    show (quoX (c :: r) a).length + 1 = _
    rw [quo_len (c :: r) a]
    simp
theorem quo_eq : ∀ (l : List UInt8) (a x : UInt8), evalX l x = evalX l a ^^^ mul (x ^^^ a) (evalX (quoX l a) x)
  | [], a, x => by
    show (0 : UInt8) = 0 ^^^ mul (x ^^^ a) 0
    rw [mul_zero]; rfl
  | [c], a, x => by
    show c ^^^ mul x 0 = (c ^^^ mul a 0) ^^^ mul (x ^^^ a) 0
    rw [mul_zero, mul_zero, mul_zero, add_zero, add_zero]
  | d :: c :: r, a, x => by
    have ih := quo_eq (c :: r) a x
    show d ^^^ mul x (evalX (c :: r) x) = (d ^^^ mul a (evalX (c :: r) a)) ^^^ mul (x ^^^ a) (evalX (c :: r) a ^^^ mul x (evalX (quoX (c :: r) a) x))
    generalize evalX (c :: r) a = e at *
    generalize evalX (quoX (c :: r) a) x = q at *
    have h1 : mul (x ^^^ a) (mul x q) = mul x (mul (x ^^^ a) q) := by rw [← mul_assoc, mul_comm (x ^^^ a) x, mul_assoc]
    rw [ih, mul_add x, mul_add (x ^^^ a), h1, add_mul x a e, add_assoc d]
    congr 1
    rw [← add_assoc (mul a e), add_comm (mul x e) (mul a e), ← add_assoc (mul a e), add_self, zero_add]
theorem quo_zero : ∀ (l : List UInt8) (a : UInt8), evalX l a = 0 → (∀ y ∈ quoX l a, y = 0) → ∀ y ∈ l, y = 0
  | [], _, _, _ => fun y hy => nomatch hy
  | [c], a, h, _ => fun y hy => by
    simp at hy; subst hy
    have h : y ^^^ mul a 0 = 0 := h
    rw [mul_zero, add_zero] at h
    exact h
  | d :: c :: r, a, h, hq => fun y hy => by
    have h1 : evalX (c :: r) a = 0 := hq _ (List.mem_cons_self)
    have h2 := quo_zero (c :: r) a h1 fun y hy => hq y (List.mem_cons_of_mem _ hy)
    have h : d ^^^ mul a (evalX (c :: r) a) = 0 := h
    rw [h1, mul_zero, add_zero] at h
    rcases List.mem_cons.1 hy with rfl | hy
    · exact h
    · exact h2 y hy
/-- As many roots as coefficients: all of these are 0. -/
theorem roots : ∀ (ps l : List UInt8), ps.Nodup → l.length ≤ ps.length → (∀ p ∈ ps, evalX l p = 0) → ∀ y ∈ l, y = 0
  | [], l, _, hl, _ => fun y hy => by
    have : l = [] := List.length_eq_zero_iff.1 (by simpa using hl)
    rw [this] at hy; cases hy
  | p :: ps, l, hn, hl, h0 => by
    have h1 := h0 p List.mem_cons_self
    refine quo_zero l p h1 (roots ps (quoX l p) (List.nodup_cons.1 hn).2 (by rw [quo_len]; simp at hl; omega) fun b hb => ?_)
    have h2 := quo_eq l p b
    rw [h0 b (List.mem_cons_of_mem _ hb), h1, zero_add] at h2
    refine mul_eq_zero h2.symm fun e => ?_
    have : b = p := eq_of_add e
    exact (List.nodup_cons.1 hn).1 (this ▸ hb)
theorem evalX_eq (v : Nat → UInt8) (x : UInt8) : ∀ (k s : Nat), mul (powX x s) (evalX ((List.range' s k).map v) x) = sumX k fun c => mul (powX x (s + c)) (v (s + c))
  | 0, s => mul_zero _
  | k + 1, s => by
    have ih := evalX_eq v x k (s + 1)
    rw [sumX_head]
    show mul (powX x s) (v s ^^^ mul x (evalX ((List.range' (s + 1) k).map v) x)) = mul (powX x (s + 0)) (v (s + 0)) ^^^ sumX k fun c => mul (powX x (s + (c + 1))) (v (s + (c + 1)))
    rw [mul_add, ← mul_assoc]
    congr 1
    show mul (powX x (s + 1)) _ = _
    rw [ih]
    exact sumX_congr fun c _ => by rw [show s + 1 + c = s + (c + 1) by omega]
/-- Vandermonde's rows at unlike points send only 0 to 0. -/
theorem vander (p : Nat → UInt8) (k : Nat) (hp : ∀ i j, i < k → j < k → p i = p j → i = j) : Triv (fun i c => powX (p i) c) k := fun v hv c hc => by
  have hn : ((List.range k).map p).Nodup := by
    show List.Pairwise (· ≠ ·) _
    rw [List.pairwise_map]
    refine List.Pairwise.imp_of_mem (fun {a b} ha hb hab e => ?_) (List.nodup_range (n := k))
    exact hab (hp a b (List.mem_range.1 ha) (List.mem_range.1 hb) e)
  have h1 := roots ((List.range k).map p) ((List.range' 0 k).map v) hn (by simp) (fun y hy => by
    obtain ⟨i, hi, rfl⟩ := List.mem_map.1 hy
    have h2 := evalX_eq v (p i) k 0
    have h3 := hv i (List.mem_range.1 hi)
    unfold dot at h3
    simp only [Nat.zero_add] at h2
    rw [h3] at h2
    have : powX (p i) 0 = 1 := rfl
    rw [this, one_mul] at h2
    exact h2)
  exact h1 (v c) (List.mem_map_of_mem (by rw [List.mem_range'_1]; omega))
end Go.Gf
