/-
  From the library's contracts of the sort, said over worlds, to parts. Nothing of any program stands here.
-/
import Derived.Test.YtgnceldnfefnmaaGreatSep
import Derived.Shelf.SlSortCmp.NoneTotal
import Derived.Sort.EncStr
namespace Go.Vc
open Go Go.Vc.Asn Go.Sort
def Gr (w w' : World) : Prop := ∃ (q : Nat) (os : Array Obj), w' = grow (w.drewN q) os
theorem Gr.refl (w : World) : Gr w w := ⟨0, #[], by simp; rfl⟩
theorem Gr.trans {a b c : World} (h : Gr a b) (k : Gr b c) : Gr a c := by
  obtain ⟨q, os, rfl⟩ := h
  obtain ⟨q', os', rfl⟩ := k
  refine ⟨q + q', os ++ os', ?_⟩
  unfold grow World.drewN
  simp [Nat.add_assoc, Array.append_assoc]
theorem Gr.alloc (w : World) (o : Obj) : Gr w (w.alloc o) := ⟨0, #[o], by rw [alloc_eq_grow]; rfl⟩
theorem Gr.fr {w w' : World} (h : Gr w w') : Fr [] w w' := by
  obtain ⟨q, os, rfl⟩ := h
  refine ⟨rfl, rfl, rfl, by simp [grow, World.drewN], fun k hk _ => ?_⟩
  simp only [grow, World.drewN, Array.getElem?_append]
  rw [if_pos hk]
theorem New.gr {w : World} {cs : Array Value} {e : TypeId} {K : Nat → World → Prop} (k : ∀ b w', NewBlk w cs e b w' → Gr w w' → K b w') : New w cs e K := by
  refine New.intro fun b w' nb => k b w' nb ?_
  rw [nb.is]
  exact Gr.alloc _ _

theorem flat_get {α : Type} {enc : α → List Value} {k : Nat} (hk : ∀ x, (enc x).length = k) : ∀ (l : List α) (t : Nat), t < l.length * k → (l.flatMap enc)[t]? = (l[t / k]?).bind fun x => (enc x)[t % k]?
  | [], t, h => by simp at h
  | x :: r, t, h => by
    have hk0 : 0 < k := by rcases Nat.eq_zero_or_pos k with h0 | h0; · subst h0; simp at h
                           · exact h0
    rw [List.flatMap_cons]
    by_cases ht : t < k
    · rw [List.getElem?_append_left (by rw [hk]; exact ht), Nat.div_eq_of_lt ht, Nat.mod_eq_of_lt ht]
      simp
    · rw [List.getElem?_append_right (by rw [hk]; omega), hk, flat_get hk r (t - k) (by simp [Nat.add_mul] at h; omega)]
      have e1 : t / k = (t - k) / k + 1 := by rw [← Nat.add_div_right _ hk0]; congr 1; omega
      have e2 : t % k = (t - k) % k := by rw [Nat.mod_eq_sub_mod (by omega)]
      rw [e1, e2, List.getElem?_cons_succ]
theorem flat_len {α : Type} {enc : α → List Value} {k : Nat} (hk : ∀ x, (enc x).length = k) (l : List α) : (l.flatMap enc).length = l.length * k := by
  induction l with
  | nil => simp
  | cons x r ih => rw [List.flatMap_cons, List.length_append, ih, hk, List.length_cons, Nat.add_mul]; omega
theorem Cel.elem {α : Type} {enc : α → List Value} {k : Nat} {w : World} {s : Slc} {l : List α} (hk : ∀ x, (enc x).length = k) (h : Cel w s k (l.flatMap enc)) {i : Nat} {x : α} (hx : l[i]? = some x) (hk0 : 0 < k) : ∃ a, s.a = some a ∧ ∀ j v, (enc x)[j]? = some v → w.cell? ((a.add (i * k)).add j) = some v := by
  have hi := (List.getElem?_eq_some_iff.1 hx).1
  have hm : (i + 1) * k ≤ l.length * k := Nat.mul_le_mul_right _ hi
  rw [Nat.add_mul] at hm
  obtain ⟨a, ha, _⟩ := h.get (i := 0) (by rw [flat_len hk]; omega)
  refine ⟨a, ha, fun j v hv => ?_⟩
  have hj : j < k := by have := (List.getElem?_eq_some_iff.1 hv).1; rw [hk] at this; exact this
  have e1 : (i * k + j) / k = i := by rw [Nat.mul_comm, Nat.mul_add_div hk0, Nat.div_eq_of_lt hj]; rfl
  have e2 : (i * k + j) % k = j := by rw [Nat.mul_comm, Nat.mul_add_mod, Nat.mod_eq_of_lt hj]
  obtain ⟨q, hq, hc⟩ := h.at_ (i * k + j) v (by rw [flat_get hk _ _ (by omega), e1, e2, hx]; exact hv)
  rw [ha] at hq
  injection hq with hq
  rw [add_add, hq]
  exact hc
theorem Cel.flen {α : Type} {enc : α → List Value} {k : Nat} {w : World} {s : Slc} {l : List α} (hk : ∀ x, (enc x).length = k) (h : Cel w s k (l.flatMap enc)) (hk0 : 0 < k) : s.l = l.length := by
  have := h.len
  rw [flat_len hk] at this
  exact (Nat.eq_of_mul_eq_mul_right hk0 this).symm
theorem flatK_toList {α : Type} [Inhabited α] {enc : α → List Value} {k : Nat} (hk : ∀ x, (enc x).length = k) (d : Array α) : (flatK enc k d).toList = d.toList.flatMap enc := by
  apply List.ext_getElem?
  intro t
  by_cases ht : t < d.size * k
  · have hk0 : 0 < k := by rcases Nat.eq_zero_or_pos k with h0 | h0; · subst h0; simp at ht
                           · exact h0
    have hi : t / k < d.size := Nat.div_lt_of_lt_mul (by rw [Nat.mul_comm]; exact ht)
    have hm : t % k < k := Nat.mod_lt _ hk0
    rw [flat_get hk d.toList t (by simpa using ht)]
    have e := get_flatK enc k d t ht
    rw [Array.getElem?_toList, Array.getElem?_eq_getElem (by simpa using ht)]
    rw [getElem!_pos _ _ (by simpa using ht)] at e
    rw [e]
    rw [Array.getElem?_toList, Array.getElem?_eq_getElem hi]
    simp only [Option.bind_some]
    rw [getElem!_pos d _ hi, getElem!_pos _ _ (by rw [hk]; exact hm), List.getElem?_eq_getElem (by rw [hk]; exact hm)]
  · rw [List.getElem?_eq_none (by simpa using ht), List.getElem?_eq_none (by rw [flat_len hk]; simpa using ht)]
section
variable {e size g n c : Nat} {w0 w : World} {A : Asn}
theorem Own.holds {F : Array Value} (h : Own e size w ⟨some (Vc.blk g), n, c⟩ F.toList) : Holds id w g 0 F := by
  intro j hj
  have hne : F.toList ≠ [] := by intro h0; simp at h0; subst h0; simp at hj
  obtain ⟨g', cur, h1, h2, h3, h4, h5, h6⟩ := h.some_ hne
  have hg : g = g' := by injection h1 with h1; injection h1
  subst hg
  have hc : cur[j]? = some F[j] := by
    have := congrArg (fun l => l[j]?) h6
    simp only [List.getElem?_take, Array.getElem?_toList] at this
    have hl : F.size = n * size := by simpa using h.1
    rw [if_pos (by show j < n * size; omega), Array.getElem?_eq_getElem hj] at this
    exact this
  refine ⟨?_, ?_⟩
  · rw [Nat.zero_add, h2.at_, hc, getElem!_pos F j hj]
    rfl
  · have := h2.frz (0 + j)
    rwa [blk_add] at this
theorem Hp.sorted {F F' : Array Value} (H : Hp w0 w (star (Asn.own e size ⟨some (Vc.blk g), n, c⟩ F.toList) A)) (hs : F'.size = F.size) (m : Nat) (os : Array Obj) : Hp w0 (grow (putRow id (Sort.ahead w m) g 0 F') os) (star (Asn.own e size ⟨some (Vc.blk g), n, c⟩ F'.toList) A) := by
  refine H.step fun S _ hp => ?_
  obtain ⟨h1, h2⟩ := hp
  have hlt : g < w.heap.size := h2.lt g (by simp [Slc.blks])
  have hb : (grow (putRow id (Sort.ahead w m) g 0 F') os).heap[g]? = (w.heap[g]?).map (onCells (putCells id 0 F')) := by
    simp only [grow, putRow, mapBlock, Sort.ahead]
    rw [Array.getElem?_append, if_pos (by simpa using hlt), Array.getElem?_modify, if_pos rfl]
  refine ⟨[g], S, fun k hk => (h1 k).2 (by simpa [Slc.blks] using hk), ⟨rfl, rfl, rfl, by simp [grow, putRow, mapBlock, Sort.ahead], fun k hk hn => ?_⟩, ⟨h1, ?_⟩, fun k hk => .inl hk⟩
  · simp only [List.mem_singleton] at hn
    simp only [grow, putRow, mapBlock, Sort.ahead]
    rw [Array.getElem?_append, if_pos (by simpa using hk), Array.getElem?_modify, if_neg (Ne.symm hn)]
  · rcases h2.2 with ⟨h3, _⟩ | ⟨g', cap, cur, h3, h4, h5, h6, h7, h8, h9⟩
    · simp at h3
    · have hg : g = g' := by simp only [Slc.v] at h3; injection h3 with h3 _ _; injection h3 with h3; injection h3
      have hcap : c = cap := by simp only [Slc.v] at h3; injection h3
      subst hg hcap
      have hl : F.size = n * size := by simpa using h2.1
      refine ⟨by simpa [hs] using hl, .inr ⟨g, c, putCells id 0 F' cur, rfl, h4, ?_, h6, h7, by simpa [putCells] using h8, ?_⟩⟩
      · rw [hb, h5]; rfl
      · apply List.ext_getElem?
        intro t
        rw [List.getElem?_take, Array.getElem?_toList, Array.getElem?_toList]
        simp only at hl h6
        have hle : n * size ≤ c * size := Nat.mul_le_mul_right _ h6
        by_cases ht : t < n * size
        · rw [if_pos ht]
          simp only [putCells, Array.getElem?_mapIdx]
          rw [Array.getElem?_eq_getElem (show t < cur.size by omega), Option.map_some, if_pos ⟨Nat.zero_le _, by omega⟩, Nat.sub_zero, getElem!_pos F' t (by omega), Array.getElem?_eq_getElem (show t < F'.size by omega)]
          rfl
        · rw [if_neg ht, Array.getElem?_eq_none (by omega)]
end
theorem putRow_enc {α : Type} [Inhabited α] (enc : α → Value) (w : World) (b off : Nat) (d : Array α) : putRow enc w b off d = putRow id w b off (d.map enc) := by
  unfold putRow
  refine mapBlock_congr _ _ _ _ fun cs _ _ _ => ?_
  unfold putCells
  apply Array.ext_getElem?
  intro k
  simp only [Array.getElem?_mapIdx, Array.size_map]
  congr 1
  funext x
  split
  · rename_i h
    have hk : k - off < d.size := by omega
    rw [getElem!_pos d _ hk, getElem!_pos _ _ (by simpa using hk), Array.getElem_map]
    rfl
  · rfl
theorem holds_enc {α : Type} [Inhabited α] (enc : α → Value) (w : World) (b off : Nat) (d : Array α) (h : Holds id w b off (d.map enc)) : Holds enc w b off d := by
  intro j hj
  have := h j (by simpa using hj)
  rw [getElem!_pos _ _ (by simpa using hj), Array.getElem_map] at this
  rw [getElem!_pos d j hj]
  exact this
theorem Hp.sortFunc {P : Program} {ρ : Go.Shelf.Ren} {α : Type} [Inhabited α] {e k g : Nat} {enc : α → List Value} {cf : α → α → Int} {w0 w : World} {F : Asn} {s : Slc} {l : List α} (L : Go.Proofs.SlLaysF0.n6 P ρ)
    (aE : ∀ w, (isAgg (ρ.t 24)).run P w = .ok true w) (zE : ∀ w, (Go.sizeOf (ρ.t 24)).run P w = .ok k w) (hk : ∀ x, (enc x).length = k) (h1 : ∀ x, ∀ v ∈ enc x, v.oneCell' = true) (hO : SWO (Go.Proofs.ltOf cf)) (hk0 : 0 < k)
    (eg : ∀ args w, (callFunc g args).run P w = .ok (.enter g args) w) (hc : ∀ x y w, Calls P g #[.agg (enc x).toArray, .agg (enc y).toArray] w (Rt fun v w' => v = .int .i64 (cf x y) ∧ Gr w w')) (hT : ∀ x y, (Go.Proofs.ltOf cf) x y = false → (Go.Proofs.ltOf cf) y x = false → x = y)
    (hsz : l.length < 4611686018427387904) (H : Hp w0 w (star (Asn.own e k s (l.flatMap enc)) F)) :
    Calls P (ρ.f 6) #[s.v, .func (.func g) #[] #[]] w (Rt fun v w' => v = .tuple #[] ∧ Hp w0 w' (star (Asn.own e k s ((l.mergeSort fun x y => !(Go.Proofs.ltOf cf) y x).flatMap enc)) F)) := by
  have hO0 := H.isOwn (s := s)
  have hlen : s.l = l.length := by
    have h := hO0.1
    rw [flat_len hk] at h
    exact (Nat.eq_of_mul_eq_mul_right hk0 h).symm
  by_cases h0 : l = []
  · subst h0
    obtain ⟨a, n, c⟩ := s
    simp only [List.length_nil] at hlen
    subst hlen
    refine (Go.Proofs.AnyF.slices_SortFunc_none L a c _ w).mono ?_
    rintro _ _ ⟨rfl, rfl⟩
    exact ⟨rfl, by simpa using H⟩
  · have hne : l.flatMap enc ≠ [] := by
      intro h
      have h2 := congrArg List.length h
      rw [flat_len hk] at h2
      have := List.length_pos_iff.2 h0
      have : 0 < l.length * k := Nat.mul_pos this hk0
      simp at h2
      omega
    obtain ⟨b, cur, ha, hB, h3, h4, h5, h6⟩ := hO0.some_ hne
    obtain ⟨a, n, c⟩ := s
    simp only at ha hlen
    subst ha hlen
    have eF : ∀ d : List α, d.flatMap enc = (flatK enc k d.toArray).toList := fun d => by rw [flatK_toList hk]
    rw [eF] at H hO0
    have hH : HoldsK enc k w b 0 l.toArray := hO0.holds
    have hcon := Go.Proofs.AnyQ.slices_SortFunc_total L k aE zE enc hk h1 cf hO g #[] b 0 c l.toArray w eg (fun m os dk _ x y => (hc x y _).mono (by
      rintro (v | _ | _) w' h
      · exact ⟨by rw [h.1], h.2⟩
      · exact h.elim
      · exact h.elim)) hH (hO0.lt b (by simp [Slc.blks])) (by simpa using hsz) hT
    refine hcon.mono ?_
    rintro _ _ ⟨rfl, m, os, rfl⟩
    refine ⟨rfl, ?_⟩
    rw [eF]
    exact H.sorted (by simp [List.length_mergeSort]) m os
end Go.Vc
