/-
  Maps as parts of the memory: laws over the words of the conditions. Nothing of any program stands here.
-/
import Derived.Test.YtgnceldnfefnmaaGreatMapOps
import Derived.Maps.RangeRun
namespace Go.Vc
open Go Go.Vc.Asn
open Go.ChangeMaps (setBlock)
section
variable {κ ν : Type}
def ml (x : κ × ν × Nat) : κ × ν := (x.1, x.2.1)
variable [DecidableEq κ]
def llook (l : List (κ × ν)) (k : κ) : Option ν := (l.find? fun x => decide (x.1 = k)).map (·.2)
def lput (l : List (κ × ν)) (k : κ) (v : ν) : List (κ × ν) := if k ∈ l.map (·.1) then l.map (fun x => if x.1 = k then (x.1, v) else x) else l ++ [(k, v)]
def ldel (l : List (κ × ν)) (k : κ) : List (κ × ν) := l.filter fun x => decide (x.1 ≠ k)
omit [DecidableEq κ] in
theorem ml_keys (L : List (κ × ν × Nat)) : (L.map ml).map (·.1) = L.map (·.1) := by rw [List.map_map]; rfl
theorem mlook_ml (L : List (κ × ν × Nat)) (k : κ) : mlook L k = llook (L.map ml) k := by
  unfold mlook llook
  rw [List.find?_map]
  cases h : L.find? (fun x => decide (x.1 = k)) with
  | none => have : L.find? ((fun x : κ × ν => decide (x.1 = k)) ∘ ml) = none := h; rw [this]; rfl
  | some x => have : L.find? ((fun x : κ × ν => decide (x.1 = k)) ∘ ml) = some x := h; rw [this]; rfl
theorem mput_ml (L : List (κ × ν × Nat)) (c : Nat) (k : κ) (v : ν) : (mput L c k v).1.map ml = lput (L.map ml) k v := by
  unfold mput lput
  rw [ml_keys]
  split
  · simp only [List.map_map]
    apply List.map_congr_left
    intro x _
    simp only [Function.comp, ml]
    by_cases h : x.1 = k <;> simp [h]
  · simp [ml]
theorem mdel_ml (L : List (κ × ν × Nat)) (k : κ) : (mdel L k).map ml = ldel (L.map ml) k := by
  unfold mdel ldel
  rw [List.filter_map]
  rfl
theorem MInv.put {L : List (κ × ν × Nat)} {c : Nat} (h : MInv L c) (k : κ) (v : ν) : MInv (mput L c k v).1 (mput L c k v).2 := by
  unfold mput
  split
  · have e1 : ∀ x : κ × ν × Nat, (if x.1 = k then (x.1, v, x.2.2) else x).1 = x.1 := fun x => by split <;> rfl
    have e2 : ∀ x : κ × ν × Nat, (if x.1 = k then (x.1, v, x.2.2) else x).2.2 = x.2.2 := fun x => by split <;> rfl
    refine ⟨?_, ?_, ?_⟩
    · simp only [List.map_map]
      rw [show ((fun x : κ × ν × Nat => x.1) ∘ fun x => if x.1 = k then (x.1, v, x.2.2) else x) = fun x => x.1 from funext e1]
      exact h.keys
    · simp only [List.map_map]
      rw [show ((fun x : κ × ν × Nat => x.2.2) ∘ fun x => if x.1 = k then (x.1, v, x.2.2) else x) = fun x => x.2.2 from funext e2]
      exact h.borns
    · intro x hx
      obtain ⟨y, hy, rfl⟩ := List.mem_map.1 hx
      rw [e2]
      exact h.lt y hy
  · rename_i hk
    refine ⟨?_, ?_, ?_⟩
    · simp only [List.map_append, List.map_cons, List.map_nil]
      refine List.nodup_append.2 ⟨h.keys, by simp, fun a ha b hb => ?_⟩
      simp at hb
      rintro rfl
      subst hb
      exact hk ha
    · simp only [List.map_append, List.map_cons, List.map_nil]
      refine List.nodup_append.2 ⟨h.borns, by simp, fun a ha b hb => ?_⟩
      simp at hb
      obtain ⟨x, hx, rfl⟩ := List.mem_map.1 ha
      have := h.lt x hx
      omega
    · intro x hx
      rcases List.mem_append.1 hx with hx | hx
      · have := h.lt x hx
        show x.2.2 < c + 1
        omega
      · simp at hx
        subst hx
        exact Nat.lt_succ_self c
theorem MInv.del {L : List (κ × ν × Nat)} {c : Nat} (h : MInv L c) (k : κ) : MInv (mdel L k) c := by
  unfold mdel
  exact ⟨h.keys.sublist (List.Sublist.map _ List.filter_sublist), h.borns.sublist (List.Sublist.map _ List.filter_sublist), fun x hx => h.lt x (List.mem_filter.1 hx).1⟩
end
def Asn.mp {κ ν : Type} (ec : κ → Value) (ev : ν → Value) (g : Nat) (l : List (κ × ν)) : Asn where
  p w S := (∀ k, S k ↔ k = g) ∧ ∃ (L : List (κ × ν × Nat)) (c : Nat), L.map ml = l ∧ w.heap[g]? = some (.map (ments ec ev L) c) ∧ MInv L c
  loc := by
    rintro w w' S ⟨h1, L, c, h2, h3, h4⟩ h
    exact ⟨h1, L, c, h2, (h g ((h1 g).2 rfl)).trans h3, h4⟩
  lt := by
    rintro w S ⟨h1, L, c, h2, h3, h4⟩ k hk
    rw [(h1 k).1 hk]
    exact (Array.getElem?_eq_some_iff.1 h3).1
section
variable {κ ν : Type} {ec : κ → Value} {ev : ν → Value}
class TakeM (ec : κ → Value) (ev : ν → Value) (g : Nat) (A : Asn) (l : outParam (List (κ × ν))) (F : outParam Asn) : Prop where
  e : Ent A (star (mp ec ev g l) F)
instance (priority := 2000) takeM_here (ec : κ → Value) (ev : ν → Value) (g : Nat) (l : List (κ × ν)) (F : Asn) : TakeM ec ev g (star (mp ec ev g l) F) l F := ⟨Ent.refl _⟩
instance (priority := 1500) takeM_assoc (ec : κ → Value) (ev : ν → Value) (g : Nat) (l : List (κ × ν)) (X Y Z F : Asn) [h : TakeM ec ev g (star X (star Y Z)) l F] : TakeM ec ev g (star (star X Y) Z) l F := ⟨assoc.trans h.e⟩
instance (priority := 1000) takeM_there (ec : κ → Value) (ev : ν → Value) (g : Nat) (l : List (κ × ν)) (B A F : Asn) [h : TakeM ec ev g A l F] : TakeM ec ev g (star B A) l (star B F) := ⟨(Ent.star (Ent.refl B) h.e).trans left⟩
instance (priority := 500) takeM_last (ec : κ → Value) (ev : ν → Value) (g : Nat) (l : List (κ × ν)) : TakeM ec ev g (mp ec ev g l) l emp := ⟨emp_r⟩
variable {P : Program} {w0 w : World} {A F : Asn} {t kt et ty : TypeId} {g : Nat} {l : List (κ × ν)}
theorem Hp.map (ec : κ → Value) (ev : ν → Value) (g : Nat) [h : TakeM ec ev g A l F] (H : Hp w0 w A) : Hp w0 w (star (mp ec ev g l) F) := H.ent h.e
theorem heap_frS (w : World) (g : Nat) (o : Obj) : Fr [g] w { w with heap := w.heap.setIfInBounds g o } :=
  ⟨rfl, rfl, rfl, by simp, fun k _ hk => by simp at hk; simp [Array.getElem?_setIfInBounds, Ne.symm hk]⟩
theorem Hp.mset {l' : List (κ × ν)} {L : List (κ × ν × Nat)} {c : Nat} (H : Hp w0 w (star (mp ec ev g l) F)) (hl : L.map ml = l') (hI : MInv L c) : Hp w0 { w with heap := w.heap.setIfInBounds g (.map (ments ec ev L) c) } (star (mp ec ev g l') F) :=
  H.step fun S _ hp => ⟨[g], S, fun k hk => (hp.1 k).2 (by simpa using hk), heap_frS _ _ _, ⟨hp.1, L, c, hl, by
    obtain ⟨_, _, _, _, h3, _⟩ := hp
    have := (Array.getElem?_eq_some_iff.1 h3).1
    simp [Array.getElem?_setIfInBounds, this], hI⟩, fun k hk => .inl hk⟩
theorem Hp.mheap (H : Hp w0 w (star (mp ec ev g l) F)) : ∃ (L : List (κ × ν × Nat)) (c : Nat), L.map ml = l ∧ w.heap[g]? = some (.map (ments ec ev L) c) ∧ MInv L c := by
  obtain ⟨_, S, _, S1, S2, _, _, ⟨_, h⟩, _⟩ := H
  exact h
variable [DecidableEq κ]
theorem Hp.lkp [h : TakeM ec ev g A l F] (H : Hp w0 w A) (T : KeyT P kt ec) (ht : P.underlying t = some (.map kt et)) {z : Value} (hz : (zeroValue et).run P w = .ok z w) {c : Bool} {k : κ} {K : Value → Prop}
    (hk : K (if c then .tuple #[((llook l k).map ev).getD z, .bool (llook l k).isSome] else ((llook l k).map ev).getD z)) : Lkp P t c w (.map (some g)) (ec k) K := by
  obtain ⟨L, q, rfl, h3, _⟩ := (H.map ec ev g).mheap
  refine ⟨_, run_lookM T ht h3 hz k c, ?_⟩
  rw [mlook_ml]
  exact hk
theorem lkp0 (T : KeyT P kt ec) (ht : P.underlying t = some (.map kt et)) {z : Value} (hz : (zeroValue et).run P w = .ok z w) {c : Bool} {k : κ} {K : Value → Prop}
    (hk : K (if c then .tuple #[z, .bool false] else z)) : Lkp P t c w (.map none) (ec k) K := ⟨_, run_lookM0 T ht hz k c, hk⟩
theorem Hp.mup [h : TakeM ec ev g A l F] (H : Hp w0 w A) (T : KeyT P kt ec) (ht : P.underlying t = some (.map kt et)) {k : κ} {v : ν} {K : World → Prop} (hk : ∀ w', Hp w0 w' (star (mp ec ev g (lput l k v)) F) → K w') : Mup P t w (.map (some g)) (ec k) (ev v) K := by
  have H' := H.map ec ev g
  obtain ⟨L, q, rfl, h3, h4⟩ := H'.mheap
  exact ⟨_, run_updM T ht h3 h4.keys k v, hk _ (H'.mset (mput_ml L q k v) (h4.put k v))⟩
omit [DecidableEq κ] in
theorem Hp.newM (ec : κ → Value) (ev : ν → Value) (H : Hp w0 w A) {K : Nat → World → Prop} (hk : ∀ g w', Hp w0 w' (star (mp ec ev g []) A) → K g w') : NewM P t w K := by
  have hs : (w.alloc (.map #[] 0)).heap.size = w.heap.size + 1 := Array.size_push ..
  have hf : Fr [] w (w.alloc (.map #[] 0)) := ⟨rfl, rfl, rfl, by omega, fun k hk _ => by
    show (w.heap.push _)[k]? = _
    rw [Array.getElem?_push, if_neg (by omega)]⟩
  refine ⟨w.heap.size, w.alloc (.map #[] 0), rfl, hk _ _ (H.beside ⟨hf, fun x => x = w.heap.size, fun x hx => by rw [hx]; exact Nat.le_refl _, fun _ => Iff.rfl, [], 0, rfl, ?_, ⟨List.nodup_nil, List.nodup_nil, fun x hx => by cases hx⟩⟩)⟩
  show (w.heap.push _)[w.heap.size]? = _
  rw [Array.getElem?_push, if_pos rfl]
  rfl
end
end Go.Vc
