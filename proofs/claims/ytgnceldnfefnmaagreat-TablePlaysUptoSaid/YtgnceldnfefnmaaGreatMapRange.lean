/-
  Loops over maps as parts. Nothing of any program stands here.
-/
import Derived.Test.YtgnceldnfefnmaaGreatMapSep
namespace Go.Vc
open Go Go.Vc.Asn
open Go.ChangeMaps (setBlock)
section
variable {κ ν : Type}
def Asn.mr (ec : κ → Value) (ev : ν → Value) (it g : Nat) (l rest : List (κ × ν)) (cur : Option (κ × ν)) : Asn where
  p w S := (∀ k, S k ↔ k = it ∨ k = g) ∧ it ≠ g ∧ ∃ (L : List (κ × ν × Nat)) (c : Nat) (seen : Array Nat), L.map ml = l ∧ w.heap[g]? = some (.map (ments ec ev L) c) ∧ MInv L c ∧ w.heap[it]? = some (.mapIter (some g) c seen c) ∧
    (L.filter fun x => !seen.contains x.2.2).map ml = rest ∧ ∀ y, cur = some y → ∃ (s0 : Array Nat) (b : Nat), seen = s0.push b ∧ (y.1, y.2, b) ∈ L
  loc := by
    rintro w w' S ⟨h1, h0, L, c, seen, h2, h3, h4, h5, h6⟩ h
    exact ⟨h1, h0, L, c, seen, h2, (h g ((h1 g).2 (.inr rfl))).trans h3, h4, (h it ((h1 it).2 (.inl rfl))).trans h5, h6⟩
  lt := by
    rintro w S ⟨h1, h0, L, c, seen, h2, h3, h4, h5, h6⟩ k hk
    rcases (h1 k).1 hk with rfl | rfl
    · exact (Array.getElem?_eq_some_iff.1 h5).1
    · exact (Array.getElem?_eq_some_iff.1 h3).1
def Asn.mn (it : Nat) : Asn where
  p w S := (∀ k, S k ↔ k = it) ∧ w.heap[it]? = some (.mapIter none 0 #[] 0)
  loc := by
    rintro w w' S ⟨h1, h2⟩ h
    exact ⟨h1, (h it ((h1 it).2 rfl)).trans h2⟩
  lt := by
    rintro w S ⟨h1, h2⟩ k hk
    rw [(h1 k).1 hk]
    exact (Array.getElem?_eq_some_iff.1 h2).1
def mleft (it g : Nat) (w : World) : Nat := match w.heap[it]?, w.heap[g]? with | some (.mapIter _ _ seen _), some (.map es _) => (leftOf es seen).size | _, _ => 0
variable {ec : κ → Value} {ev : ν → Value} {P : Program} {w0 w : World} {A F : Asn} {t kt et ty : TypeId} {it g : Nat} {l rest : List (κ × ν)} {cur : Option (κ × ν)}
theorem alloc_fr (w : World) (o : Obj) : Fr [] w (w.alloc o) := ⟨rfl, rfl, rfl, by show w.heap.size ≤ (w.heap.push o).size; rw [Array.size_push]; omega, fun k hk _ => by
  show (w.heap.push o)[k]? = _
  rw [Array.getElem?_push, if_neg (by omega)]⟩
theorem alloc_at (w : World) (o : Obj) : (w.alloc o).heap[w.heap.size]? = some o := by
  show (w.heap.push o)[w.heap.size]? = _
  rw [Array.getElem?_push, if_pos rfl]
theorem Hp.rng (ht : P.underlying t = some (.map kt et)) (H : Hp w0 w (star (mp ec ev g l) F)) {K : Nat → World → Prop} (hk : ∀ it w', Hp w0 w' (star (mr ec ev it g l l none) F) → K it w') : Rng P t w (.map (some g)) K := by
  obtain ⟨L, c, rfl, h3, h4⟩ := H.mheap
  refine ⟨w.heap.size, w.alloc (.mapIter (some g) c #[] c), ?_, hk _ _ (H.step fun S _ hp => ⟨[], fun k => k = w.heap.size ∨ k = g, by simp, alloc_fr _ _, ⟨fun _ => Iff.rfl, ?_, L, c, #[], rfl, ?_, h4, alloc_at _ _, ?_, fun y h => by cases h⟩, fun k hk => ?_⟩)⟩
  · simp only [Instr.range, Sem.run_bind, run_underlying ht, Result.andThen, MapKept.run_getObj_map h3, Sem.run_pure]
    rfl
  · have := (Array.getElem?_eq_some_iff.1 h3).1; omega
  · rw [(alloc_fr w _).block g (Array.getElem?_eq_some_iff.1 h3).1 (by simp)]; exact h3
  · rw [List.filter_eq_self.2 (by intro x _; simp)]
  · rcases hk with rfl | rfl
    · exact .inr (Nat.le_refl _)
    · exact .inl ((hp.1 _).2 rfl)
theorem Hp.rng0 (ht : P.underlying t = some (.map kt et)) (H : Hp w0 w A) {K : Nat → World → Prop} (hk : ∀ it w', Hp w0 w' (star (mn it) A) → K it w') : Rng P t w (.map none) K := by
  refine ⟨w.heap.size, w.alloc (.mapIter none 0 #[] 0), ?_, hk _ _ (H.beside ⟨alloc_fr _ _, fun x => x = w.heap.size, fun x hx => by rw [hx]; exact Nat.le_refl _, fun _ => Iff.rfl, alloc_at _ _⟩)⟩
  simp only [Instr.range, Sem.run_bind, run_underlying ht, Result.andThen, Sem.run_pure]
  rfl
theorem Hp.nxt0 (H : Hp w0 w (star (mn it) F)) {K : Bool → World → Prop} (hk : K false w) : Nxt P ty w (.pointer (some (Vc.blk it))) K := by
  obtain ⟨_, S, _, S1, S2, _, _, ⟨_, h⟩, _⟩ := H
  refine ⟨false, [], w, ?_, hk⟩
  simp only [Vc.blk, Instr.next, getObj, Sem.run_bind, Sem.run, h, Result.andThen]
  rfl
theorem Hp.mrEnd (H : Hp w0 w (star (mr ec ev it g l rest cur) F)) : Hp w0 w (star (mp ec ev g l) F) :=
  H.step fun S _ hp => by
    obtain ⟨h1, h0, L, c, seen, h2, h3, h4, _⟩ := hp
    exact ⟨[], fun k => k = g, by simp, Fr.refl _ _, ⟨fun _ => Iff.rfl, L, c, h2, h3, h4⟩, fun k hk => .inl ((h1 k).2 (.inr hk))⟩
variable [DecidableEq κ]
theorem Hp.nxt (H : Hp w0 w (star (mr ec ev it g l rest cur) F)) {K : Bool → World → Prop} (h0 : rest = [] → K false w) (hk : ∀ x ∈ rest, ∀ w', Hp w0 w' (star (mr ec ev it g l (ldel rest x.1) (some x)) F) → K true w') : Nxt P ty w (.pointer (some (Vc.blk it))) K := by
  have H0 := H
  obtain ⟨_, S, _, S1, S2, _, _, ⟨hS, hne, L, c, seen, rfl, h3, h4, h5, rfl, _⟩, _⟩ := H
  have hl : leftOf (ments ec ev L) seen = ments ec ev (L.filter fun x => !seen.contains x.2.2) := by
    unfold leftOf ments
    apply Array.ext'
    simp only [Array.toList_filter, List.filter_map]
    rfl
  have hold : ∀ x ∈ (ments ec ev L).toList, x.born < c := fun x hx => by
    obtain ⟨y, hy, rfl⟩ := List.mem_map.1 (show x ∈ L.map (ment ec ev) from hx)
    exact h4.lt y hy
  rcases run_next_at (P := P) w ty it g c c seen (ments ec ev L) c h5 h3 hold (Nat.le_refl _) with ⟨hz, hr⟩ | ⟨e, he, w1, hw, hr⟩
  · refine ⟨false, [], w, hr, h0 ?_⟩
    rw [hl] at hz
    have : (L.filter fun x => !seen.contains x.2.2).length = 0 := by simpa [ments] using hz
    rw [List.eq_nil_of_length_eq_zero this]; rfl
  · rw [hl] at he
    obtain ⟨x, hx, rfl⟩ := List.mem_map.1 (show e ∈ (L.filter fun x => !seen.contains x.2.2).map (ment ec ev) from he)
    obtain ⟨hxL, hxs⟩ := List.mem_filter.1 hx
    refine ⟨true, [(ment ec ev x).key, (ment ec ev x).val], _, hr, hk (ml x) (List.mem_map_of_mem hx) _ (H0.step fun S hSn hp => ⟨[it], S, fun k hk => (hp.1 k).2 (.inl (by simpa using hk)), ?_, ⟨hp.1, hne, L, c, seen.push x.2.2, rfl, ?_, h4, ?_, ?_, fun y hy => ?_⟩, fun k hk => .inl hk⟩)⟩
    · have hf : Fr [] w w1 := by
        rcases hw with rfl | rfl
        · exact Fr.refl _ _
        · exact (Fr.refl [] w).drewN 1
      exact (Fr.local_ (S := [it]) (hf.sub fun k hk => by cases hk) (heap_frS w1 it _) fun x hx => .inl hx)
    · have : w1.heap = w.heap := by rcases hw with rfl | rfl <;> rfl
      show (w1.heap.setIfInBounds it _)[g]? = _
      rw [Array.getElem?_setIfInBounds, if_neg hne, this]
      exact h3
    · have : w1.heap = w.heap := by rcases hw with rfl | rfl <;> rfl
      show (w1.heap.setIfInBounds it _)[it]? = _
      have hlt := (Array.getElem?_eq_some_iff.1 h5).1
      rw [Array.getElem?_setIfInBounds, if_pos rfl, this, if_pos hlt]
      rfl
    · have hb : ∀ y ∈ L, (y.2.2 = x.2.2 ↔ y.1 = x.1) := fun y hy => by
        have k1 := List.pairwise_map.1 h4.keys
        have k2 := List.pairwise_map.1 h4.borns
        by_cases hyx : y = x
        · subst hyx; simp
        · obtain ⟨i, hi, rfl⟩ := List.getElem_of_mem hy
          obtain ⟨j, hj, rfl⟩ := List.getElem_of_mem hxL
          have hij : i ≠ j := fun h => hyx (by subst h; rfl)
          rcases Nat.lt_or_gt_of_ne hij with h | h
          · have a1 := List.pairwise_iff_getElem.1 k1 i j hi hj h
            have a2 := List.pairwise_iff_getElem.1 k2 i j hi hj h
            exact ⟨fun e => absurd e a2, fun e => absurd e a1⟩
          · have a1 := List.pairwise_iff_getElem.1 k1 j i hj hi h
            have a2 := List.pairwise_iff_getElem.1 k2 j i hj hi h
            exact ⟨fun e => absurd e.symm a2, fun e => absurd e.symm a1⟩
      unfold ldel
      rw [List.filter_map, List.filter_filter]
      congr 1
      apply List.filter_congr
      intro y hy
      have := hb y hy
      simp only [Array.contains_push, Function.comp, ml]
      by_cases h1 : y.1 = x.1
      · have h2 := this.2 h1
        simp [h1, h2]
      · have h2 : ¬ y.2.2 = x.2.2 := fun e => h1 (this.1 e)
        simp [h1, h2]
    · injection hy with hy
      subst hy
      exact ⟨seen, x.2.2, rfl, hxL⟩
omit [DecidableEq κ] in
theorem Hp.etr {x : κ × ν} (H : Hp w0 w (star (mr ec ev it g l rest (some x)) F)) {K : Value → Prop} (hk : K (.tuple #[ec x.1, ev x.2])) : Etr P w (.pointer (some (Vc.blk it))) K := by
  obtain ⟨_, S, _, S1, S2, _, _, ⟨hS, hne, L, c, seen, rfl, h3, h4, h5, rfl, hc⟩, _⟩ := H
  obtain ⟨s0, b, rfl, hm⟩ := hc x rfl
  refine ⟨_, run_entry_at w it g c s0 _ c (ment ec ev (x.1, x.2, b)) h5 h3 ?_ ?_, hk⟩
  · simp only [ments]
    exact List.mem_map_of_mem hm
  · have : (ments ec ev L).toList.map (·.born) = L.map (·.2.2) := by simp [ments, ment]
    rw [this]
    exact h4.borns
omit [DecidableEq κ] in
theorem Hp.left (H : Hp w0 w (star (mr ec ev it g l rest cur) F)) : mleft it g w = rest.length := by
  obtain ⟨_, S, _, S1, S2, _, _, ⟨hS, hne, L, c, seen, rfl, h3, h4, h5, rfl, _⟩, _⟩ := H
  unfold mleft
  rw [h5, h3]
  simp only [leftOf, ments]
  rw [List.length_map, ← Array.length_toList, Array.toList_filter, List.filter_map, List.length_map]
  rfl
theorem ldel_lt {x : κ × ν} (hx : x ∈ rest) : (ldel rest x.1).length < rest.length := by
  unfold ldel
  rcases Nat.lt_or_ge (rest.filter fun y => decide (y.1 ≠ x.1)).length rest.length with h | h
  · exact h
  · have e := (List.filter_sublist (p := fun y : κ × ν => decide (y.1 ≠ x.1)) (l := rest)).eq_of_length_le h
    have h2 := List.filter_eq_self.1 e x hx
    simp at h2
theorem Hp.dltR (H : Hp w0 w (star (mr ec ev it g l rest cur) F)) (T : KeyT P kt ec) (ht : P.underlying t = some (.map kt et)) {k : κ} {K : World → Prop} (hk : ∀ w', Hp w0 w' (star (mr ec ev it g (ldel l k) (ldel rest k) none) F) → K w') : Dlt P t kt ty w (.map (some g)) (ec k) K := by
  have H0 := H
  obtain ⟨_, S, _, S1, S2, _, _, ⟨hS, hne, L, c, seen, rfl, h3, h4, h5, rfl, _⟩, _⟩ := H
  refine ⟨_, run_delM T ht h3 h4.keys k, hk _ (H0.step fun S hSn hp => ⟨[g], S, fun x hx => (hp.1 x).2 (.inr (by simpa using hx)), heap_frS _ _ _, ⟨hp.1, hne, mdel L k, c, seen, mdel_ml L k, ?_, h4.del k, ?_, ?_, fun y hy => by cases hy⟩, fun x hx => .inl hx⟩)⟩
  · show (w.heap.setIfInBounds g _)[g]? = _
    have hlt := (Array.getElem?_eq_some_iff.1 h3).1
    rw [Array.getElem?_setIfInBounds, if_pos rfl, if_pos hlt]
  · show (w.heap.setIfInBounds g _)[it]? = _
    rw [Array.getElem?_setIfInBounds, if_neg (Ne.symm hne)]
    exact h5
  · unfold mdel ldel
    rw [List.filter_map, List.filter_filter, List.filter_filter]
    congr 1
    apply List.filter_congr
    intro y _
    simp only [Function.comp, ml]
    by_cases h : y.1 = k <;> simp [h]
end
section
variable {κ ν : Type} {ec : κ → Value} {ev : ν → Value} {w0 w : World} {F : Asn} {it g : Nat} {l rest : List (κ × ν)} {cur : Option (κ × ν)}
theorem Hp.mpKeys (H : Hp w0 w (star (mp ec ev g l) F)) : (l.map (·.1)).Nodup := by
  obtain ⟨L, c, rfl, h3, h4⟩ := H.mheap
  rw [List.map_map]
  exact h4.keys
theorem Hp.mrKeys (H : Hp w0 w (star (mr ec ev it g l rest cur) F)) : (l.map (·.1)).Nodup ∧ (rest.map (·.1)).Nodup := by
  obtain ⟨_, S, _, S1, S2, _, _, ⟨hS, hne, L, c, seen, rfl, h3, h4, h5, rfl, hc⟩, _⟩ := H
  rw [List.map_map, List.map_map]
  exact ⟨h4.keys, h4.keys.sublist (List.Sublist.map _ List.filter_sublist)⟩
variable [DecidableEq κ]
theorem ldel_perm : ∀ {l : List (κ × ν)} {x : κ × ν}, (l.map (·.1)).Nodup → x ∈ l → l.Perm (x :: ldel l x.1)
  | y :: r, x, hn, hx => by
    simp only [List.map_cons, List.nodup_cons] at hn
    rcases List.mem_cons.1 hx with rfl | h
    · have : ldel (x :: r) x.1 = r := by
        unfold ldel
        rw [List.filter_cons]
        simp only [ne_eq, not_true_eq_false, decide_false, Bool.false_eq_true, if_false]
        refine List.filter_eq_self.2 fun z hz => ?_
        have : z.1 ≠ x.1 := fun e => hn.1 (e ▸ List.mem_map_of_mem hz)
        simpa using this
      rw [this]
    · have hne : y.1 ≠ x.1 := fun e => hn.1 (e ▸ List.mem_map_of_mem h)
      have : ldel (y :: r) x.1 = y :: ldel r x.1 := by
        unfold ldel
        rw [List.filter_cons]
        simp [hne]
      rw [this]
      exact ((ldel_perm hn.2 h).cons y).trans (List.Perm.swap _ _ _)
theorem llook_mem {l : List (κ × ν)} {k : κ} {v : ν} (h : llook l k = some v) : (k, v) ∈ l := by
  unfold llook at h
  obtain ⟨x, hx, rfl⟩ := Option.map_eq_some_iff.1 h
  have h1 := List.find?_some hx
  have h2 := List.mem_of_find?_eq_some hx
  simp at h1
  rw [← h1]
  exact h2
theorem llook_none {l : List (κ × ν)} {k : κ} (h : llook l k = none) : k ∉ l.map (·.1) := by
  unfold llook at h
  simp only [Option.map_eq_none_iff, List.find?_eq_none, decide_eq_true_eq] at h
  intro hk
  obtain ⟨x, hx, rfl⟩ := List.mem_map.1 hk
  exact h x hx rfl
theorem llook_of {k : κ} {v : ν} : ∀ {l : List (κ × ν)}, (l.map (·.1)).Nodup → (k, v) ∈ l → llook l k = some v
  | y :: r, hn, h => by
    simp only [List.map_cons, List.nodup_cons] at hn
    unfold llook
    rw [List.find?_cons]
    by_cases hy : y.1 = k
    · rw [decide_eq_true hy]
      rcases List.mem_cons.1 h with e | e
      · subst e; rfl
      · exact absurd (List.mem_map_of_mem (f := (·.1)) e) (hy ▸ hn.1)
    · rw [decide_eq_false hy]
      rcases List.mem_cons.1 h with e | e
      · subst e; exact absurd rfl hy
      · exact llook_of hn.2 e
theorem ldel_notin {l : List (κ × ν)} {k : κ} (h : k ∉ l.map (·.1)) : ldel l k = l := by
  unfold ldel
  refine List.filter_eq_self.2 fun z hz => ?_
  have : z.1 ≠ k := fun e => h (e ▸ List.mem_map_of_mem hz)
  simpa using this
theorem lput_perm {l : List (κ × ν)} (hn : (l.map (·.1)).Nodup) (k : κ) (v : ν) : (lput l k v).Perm ((k, v) :: ldel l k) := by
  unfold lput
  split
  · rename_i hk
    induction l with
    | nil => simp at hk
    | cons y r ih =>
      simp only [List.map_cons, List.nodup_cons] at hn
      by_cases hy : y.1 = k
      · have hr : k ∉ r.map (·.1) := hy ▸ hn.1
        have e1 : r.map (fun x => if x.1 = k then (x.1, v) else x) = r := by
          conv => rhs; rw [← List.map_id r]
          refine List.map_congr_left fun z hz => ?_
          have : z.1 ≠ k := fun e => hr (e ▸ List.mem_map_of_mem hz)
          rw [if_neg this]; rfl
        have e2 : ldel (y :: r) k = r := by
          rw [show ldel (y :: r) k = ldel r k from by unfold ldel; rw [List.filter_cons]; simp [hy], ldel_notin hr]
        rw [List.map_cons, e1, e2, if_pos hy, hy]
      · have hk' : k ∈ r.map (·.1) := by
          rcases List.mem_cons.1 (show k ∈ y.1 :: r.map (·.1) from by simpa using hk) with e | e
          · exact absurd e.symm hy
          · exact e
        have e2 : ldel (y :: r) k = y :: ldel r k := by unfold ldel; rw [List.filter_cons]; simp [hy]
        rw [List.map_cons, if_neg hy, e2]
        exact ((ih hn.2 hk').cons y).trans (List.Perm.swap _ _ _)
  · rename_i hk
    rw [ldel_notin hk]
    exact List.perm_append_singleton _ _
theorem llook_cons (x : κ × ν) (l : List (κ × ν)) (k : κ) : llook (x :: l) k = if x.1 = k then some x.2 else llook l k := by
  unfold llook
  rw [List.find?_cons]
  by_cases h : x.1 = k <;> simp [h]
theorem llook_append (l l' : List (κ × ν)) (k : κ) : llook (l ++ l') k = (llook l k).or (llook l' k) := by
  induction l with
  | nil => rfl
  | cons x r ih =>
    rw [List.cons_append, llook_cons, llook_cons, ih]
    split <;> rfl
theorem llook_put (l : List (κ × ν)) (k k' : κ) (v : ν) : llook (lput l k v) k' = if k' = k then some v else llook l k' := by
  unfold lput
  split
  · rename_i hk
    induction l with
    | nil => simp at hk
    | cons x r ih =>
      rw [List.map_cons, llook_cons, llook_cons]
      by_cases hx : x.1 = k
      · rw [if_pos hx]
        by_cases h : k' = k
        · rw [h, if_pos hx, if_pos rfl]
        · have : ¬ x.1 = k' := fun e => h (e ▸ hx)
          rw [if_neg this, if_neg this, if_neg h]
          clear ih hk
          induction r with
          | nil => rfl
          | cons y r ih =>
            rw [List.map_cons, llook_cons, llook_cons]
            by_cases hy : y.1 = k
            · have hy' : ¬ y.1 = k' := fun e => h (e ▸ hy)
              rw [if_pos hy, if_neg hy', if_neg hy', ih]
            · rw [if_neg hy, ih]
      · rw [if_neg hx]
        have hk2 : k ∈ r.map (·.1) := by
          rcases List.mem_cons.1 (show k ∈ x.1 :: r.map (·.1) from by simpa using hk) with e | e
          · exact absurd e.symm hx
          · exact e
        rw [ih hk2]
        by_cases h1 : x.1 = k'
        · have : ¬ k' = k := fun e => hx (h1.trans e)
          rw [if_pos h1, if_neg this, if_pos h1]
        · rw [if_neg h1]
          by_cases h2 : k' = k
          · rw [if_pos h2, if_pos h2]
          · rw [if_neg h2, if_neg h2, if_neg h1]
  · rename_i hk
    rw [llook_append]
    by_cases h : k' = k
    · subst h
      rw [if_pos rfl]
      cases hl : llook l k' with
      | none => rw [llook_cons, if_pos rfl]; rfl
      | some u => exact absurd (List.mem_map_of_mem (f := (·.1)) (llook_mem hl)) hk
    · rw [if_neg h, llook_cons, if_neg (fun e => h e.symm)]
      cases llook l k' <;> rfl
theorem lput_len (l : List (κ × ν)) (k : κ) (v : ν) : (lput l k v).length ≤ l.length + 1 := by
  unfold lput
  split
  · simp
  · simp
theorem ldel_keys {l : List (κ × ν)} (hn : (l.map (·.1)).Nodup) (k : κ) : ((ldel l k).map (·.1)).Nodup ∧ k ∉ (ldel l k).map (·.1) := by
  refine ⟨hn.sublist (List.Sublist.map _ List.filter_sublist), fun h => ?_⟩
  obtain ⟨x, hx, rfl⟩ := List.mem_map.1 h
  have := (List.mem_filter.1 hx).2
  simp at this
theorem lput_keys (l : List (κ × ν)) (hn : (l.map (·.1)).Nodup) (k : κ) (v : ν) : ((lput l k v).map (·.1)).Nodup := by
  have h := (lput_perm hn k v).map (·.1)
  refine (h.nodup_iff).2 ?_
  simp only [List.map_cons]
  exact List.nodup_cons.2 ⟨(ldel_keys hn k).2, (ldel_keys hn k).1⟩
end
namespace Asn
theorem all_perm {α : Type} {f : α → Asn} {l l' : List α} (h : l.Perm l') : Ent (all f l) (all f l') := by
  induction h with
  | nil => exact Ent.refl _
  | cons x _ ih => exact Ent.star (Ent.refl _) ih
  | swap x y l => exact left
  | trans _ _ ih1 ih2 => exact ih1.trans ih2
end Asn
theorem keyT_two {P : Program} {kt n : Nat} {fs : Array Field} {k1 k2 : IntKind} (hd : P.underlying kt = some (.struct fs)) (hc : ∀ (em : Bool) (c d : Int) (w : World), (Instr.checkKey em 10000 kt (.agg #[.int k1 c, .int k2 d])).run P w = .ok () w)
    (he : ∀ {x0 y0 x1 y1 : Int}, QE P n kt (.agg #[.int k1 x0, .int k2 x1]) (.agg #[.int k1 y0, .int k2 y1]) (decide (x0 = y0) && decide (x1 = y1))) (hn : Nat.ble n 10000 = true) : KeyT P kt (fun x : Int × Int => Value.agg #[.int k1 x.1, .int k2 x.2]) := by
  have heq : ∀ (k k' : Int × Int) (w : World), (Op.equal kt (.agg #[.int k1 k.1, .int k2 k.2]) (.agg #[.int k1 k'.1, .int k2 k'.2])).run P w = .ok (decide (k = k')) w := fun k k' w => by
    have h := he (x0 := k.1) (y0 := k'.1) (x1 := k.2) (y1 := k'.2) (10000 - n) w
    rw [Nat.sub_add_cancel (Nat.le_of_ble_eq_true hn)] at h
    have e : (decide (k.1 = k'.1) && decide (k.2 = k'.2)) = decide (k = k') := by
      rw [Bool.eq_iff_iff]
      simp [Prod.ext_iff]
    rw [e] at h
    exact h
  refine ⟨fun em k w => hc em k.1 k.2 w, fun k l ks h w => ?_, fun k => ?_⟩
  · cases l with
    | nil =>
      have : ks = [] := by cases ks with | nil => rfl | cons => simp at h
      subst this
      rw [Instr.findKey]
      simp only [Sem.run_bind, run_underlying hd, Result.andThen, Instr.findNow, Sem.run_pure]
      rfl
    | cons e es =>
      have hno : Instr.findNow (.struct fs) (.agg #[.int k1 k.1, .int k2 k.2]) (e :: es) 0 = none := by simp [Instr.findNow, Instr.sameNow]
      rw [Instr.findKey]
      simp only [Sem.run_bind, run_underlying hd, Result.andThen, hno]
      have := run_findAsk (P := P) (kt := kt) (w := w) (ec := fun x : Int × Int => Value.agg #[.int k1 x.1, .int k2 x.2]) (k := k) (fun k' => heq k k' w) (e :: es) ks 0 h
      simpa using this
  · simp [Instr.sameBits]
end Go.Vc
