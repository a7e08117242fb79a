/-
  Stores of several cells into a row; an element put into a list in order by swaps. Nothing of any program stands here.
-/
import Derived.Test.YtgnceldnfefnmaaGreatSortHp
namespace Go.Vc
open Go Go.Vc.Asn
def setL : List Value → Nat → List Value → List Value
  | cs, _, [] => cs
  | cs, p, v :: r => setL (cs.set p v) (p + 1) r
theorem setL_eq : ∀ (vs cs : List Value) (p : Nat), p + vs.length ≤ cs.length → setL cs p vs = cs.take p ++ vs ++ cs.drop (p + vs.length)
  | [], cs, p, _ => by simp [setL]
  | v :: r, cs, p, h => by
    simp only [List.length_cons] at h
    rw [setL, setL_eq r _ _ (by simp; omega)]
    have h1 : (cs.set p v).take (p + 1) = cs.take p ++ [v] := by
      rw [List.take_succ_eq_append_getElem (by simp; omega), List.take_set_of_le (Nat.le_refl _)]
      simp
    have h2 : (cs.set p v).drop (p + 1 + r.length) = cs.drop (p + (r.length + 1)) := by
      rw [List.drop_set_of_lt (by omega)]
      congr 1
      omega
    rw [h1, h2]
    simp
theorem Hp.stoNOwn {e size : Nat} {s : Slc} {w0 : World} {F : Asn} {p : Addr} (hp : s.a = some p) {K : World → Prop} : ∀ (vs : List Value) (i q : Nat) (cs : List Value) (w : World), i + q + vs.length ≤ cs.length → Hp w0 w (star (Asn.own e size s cs) F) →
    (∀ w', Hp w0 w' (star (Asn.own e size s (setL cs (i + q) vs)) F) → K w') → StoN (p.add i) q vs w K
  | [], i, q, cs, w, _, H, k => k w H
  | v :: r, i, q, cs, w, h, H, k => by
    simp only [List.length_cons] at h
    have hh : Sto w (p.add (i + q)) v (fun w' => StoN (p.add i) (q + 1) r w' K) := H.stoS (s := s) (i := i + q) (by omega) hp fun w' H => Hp.stoNOwn hp r i (q + 1) _ w' (by simp; omega) H k
    rw [← add_add] at hh
    exact hh
theorem flat_set {α : Type} {enc : α → List Value} {k : Nat} (hk : ∀ x, (enc x).length = k) {l : List α} {i : Nat} (hi : i < l.length) (x : α) : setL (l.flatMap enc) (i * k) (enc x) = (l.set i x).flatMap enc := by
  have hm : (i + 1) * k ≤ l.length * k := Nat.mul_le_mul_right _ hi
  rw [Nat.add_mul, Nat.one_mul] at hm
  rw [setL_eq _ _ _ (by rw [flat_len hk, hk]; omega), hk]
  have hl : l = l.take i ++ l[i] :: l.drop (i + 1) := by rw [List.getElem_cons_drop, List.take_append_drop]
  have h1 : (l.take i).flatMap enc = (l.flatMap enc).take (i * k) := by
    conv => rhs; rw [hl, List.flatMap_append]
    rw [List.take_left' (by rw [flat_len hk, List.length_take]; congr 1; omega)]
  have h2 : (l.drop (i + 1)).flatMap enc = (l.flatMap enc).drop (i * k + k) := by
    conv => rhs; rw [hl, List.flatMap_append, List.flatMap_cons, ← List.append_assoc]
    rw [List.drop_left' (by rw [List.length_append, flat_len hk, hk, List.length_take]; congr 2; omega)]
  rw [← h1, ← h2, List.set_eq_take_append_cons_drop, if_pos hi, List.flatMap_append, List.flatMap_cons, List.append_assoc]
def insAt {α : Type} (l : List α) (x : α) (i : Nat) : List α := l.take i ++ x :: l.drop i
section
variable {α : Type} {l : List α} {x : α} {i : Nat}
theorem insAt_len (h : i ≤ l.length) : (insAt l x i).length = l.length + 1 := by unfold insAt; simp; omega
theorem insAt_end : insAt l x l.length = l ++ [x] := by unfold insAt; simp
theorem insAt_perm : (insAt l x i).Perm (x :: l) := by
  unfold insAt
  exact (List.perm_middle).trans (by rw [List.take_append_drop])
theorem insAt_at (h : i ≤ l.length) : (insAt l x i)[i]? = some x := by
  unfold insAt
  rw [List.getElem?_append_right (by simp; omega)]
  simp [Nat.min_eq_left h]
theorem insAt_pre (h : i < l.length) : (insAt l x (i + 1))[i]? = some l[i] := by
  unfold insAt
  rw [List.getElem?_append_left (by simp; omega), List.getElem?_take, if_pos (Nat.lt_succ_self i), List.getElem?_eq_getElem h]
theorem insAt_swap (h : i < l.length) : ((insAt l x (i + 1)).set (i + 1) l[i]).set i x = insAt l x i := by
  have h1 : l.take (i + 1) = l.take i ++ [l[i]] := by rw [List.take_succ_eq_append_getElem h]
  have h2 : l.drop i = l[i] :: l.drop (i + 1) := List.drop_eq_getElem_cons h
  unfold insAt
  rw [h1, h2, List.append_assoc]
  have h3 : (l.take i).length = i := by simp; omega
  generalize l.take i = a at *
  subst h3
  rw [List.set_append_right _ _ (by omega), List.set_append_right _ _ (by omega), Nat.sub_self, show a.length + 1 - a.length = 1 by omega]
  rfl
theorem insAt_pw {lt : α → α → Bool} (has : ∀ a b, lt a b = true → lt b a = false) (hnt : ∀ a b c, lt a b = false → lt b c = false → lt a c = false) (hl : l.Pairwise fun a b => lt b a = false) (hi : i ≤ l.length) (hge : ∀ j, i ≤ j → (h : j < l.length) → lt x l[j] = true) (hlt : ∀ j, j + 1 = i → (h : j < l.length) → lt x l[j] = false) : (insAt l x i).Pairwise fun a b => lt b a = false := by
  unfold insAt
  have hsp : (l.take i ++ l.drop i).Pairwise fun a b => lt b a = false := by rw [List.take_append_drop]; exact hl
  rw [List.pairwise_append] at hsp
  rw [List.pairwise_append]
  refine ⟨hsp.1, List.pairwise_cons.2 ⟨fun b hb => ?_, hsp.2.1⟩, fun a ha b hb => ?_⟩
  · obtain ⟨j, hj, rfl⟩ := List.getElem_of_mem hb
    rw [List.getElem_drop]
    rw [List.length_drop] at hj
    exact has _ _ (hge (i + j) (by omega) (by omega))
  · rcases List.mem_cons.1 hb with rfl | hb
    · obtain ⟨j, hj, rfl⟩ := List.getElem_of_mem ha
      rw [List.length_take] at hj
      rw [List.getElem_take]
      obtain ⟨m, rfl⟩ : ∃ m, i = m + 1 := ⟨i - 1, by omega⟩
      have h1 := hlt m rfl (by omega)
      by_cases hjm : j = m
      · subst hjm; exact h1
      · exact hnt _ _ _ h1 (List.pairwise_iff_getElem.1 hl j m (by omega) (by omega) (by omega))
    · exact hsp.2.2 a ha b hb
end
end Go.Vc
