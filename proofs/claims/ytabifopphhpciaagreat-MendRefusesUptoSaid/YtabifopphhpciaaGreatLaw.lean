/-
  From a law's contract to its row: what an argument that was read is; the law's post. Nothing of any program stands here.
-/
import Derived.Test.YtabifopphhpciaaGreatPure
import Derived.OpenShut
import Derived.Carry
import Derived.ChangeSame
import Derived.Deep.DeepHandedRow
import Derived.SizedLaws
import Derived.RowKit
namespace Go.Vc
open Go Go.ChangeShapes Go.WideShapes Go.RowKit
section
variable {H : Type} {enc : TypeId × Value → H} {P : Program}

/-- What was read there is a datum of this type, and none of its parts is beyond the form's reach. -/
def Rd (enc : TypeId × Value → H) (P : Program) (w : World) (t : TypeId) (cs : List Value) : Prop :=
  ∃ fuel x, DataW.trod enc P w 0 (fun _ => true) true fuel t cs = some x ∧ ∀ n ∈ x.1.weights P t, n ≤ reachBytes
section
variable {w : World} {t : TypeId} {cs : List Value}
theorem Rd.int {k : IntKind} (h : Rd enc P w t cs) (ht : P.underlying t = some (.int k)) : ∃ n, cs = [.int k n] ∧ (Lit.int k n).wf = true := by
  obtain ⟨fuel, x, h, _⟩ := h
  obtain ⟨n, h1, _, h2⟩ := DataW.trod_int ht h
  exact ⟨n, h1, h2⟩
theorem Rd.bool (h : Rd enc P w t cs) (ht : P.underlying t = some .bool) : ∃ n, cs = [.bool n] := by
  obtain ⟨fuel, x, h, _⟩ := h
  obtain ⟨n, h1, _⟩ := DataW.trod_bool ht h
  exact ⟨n, h1⟩
theorem Rd.str (h : Rd enc P w t cs) (ht : P.underlying t = some .string) : ∃ s : ByteArray, cs = [.string s] ∧ s.size ≤ reachBytes := by
  obtain ⟨fuel, x, h, hz⟩ := h
  obtain ⟨s, h1, h2, _⟩ := DataW.trod_string ht h
  refine ⟨s, h1, ?_⟩
  subst h2
  have := hz s.data.toList.length (by simp [DataW.weights])
  simpa using this
theorem Rd.len (h : Rd enc P w t cs) {i off u : Nat} (hf : fldTyB P t i off u = true) : cs.length = P.cellsOf t := by
  obtain ⟨fuel, x, h, _⟩ := h
  unfold fldTyB at hf
  split at hf
  · rename_i fs hu
    obtain ⟨_, _, _, _, hl, _⟩ := DataW.trod_struct hu h
    exact hl
  · cases hf
theorem Rd.fld (h : Rd enc P w t cs) {i off u : Nat} (hf : fldTyB P t i off u = true) : Rd enc P w u ((cs.drop off).take (P.cellsOf u)) := by
  obtain ⟨fuel, x, h, hz⟩ := h
  unfold fldTyB at hf
  split at hf
  · rename_i fs hu
    split at hf
    · rename_i f hfi
      simp only [Bool.and_eq_true] at hf
      have e1 : f.offset = off := Nat.eq_of_beq_eq_true hf.1
      have e2 : f.type = u := Nat.eq_of_beq_eq_true hf.2
      obtain ⟨xs, n, _, hx, _, hl, hg⟩ := DataW.trod_struct hu h
      have h1 := hg i f hfi
      have hi : i < fs.size := (Array.getElem?_eq_some_iff.1 hfi).1
      rw [List.getElem?_eq_getElem (by omega)] at h1
      rw [e1, e2] at h1
      refine ⟨n, _, h1, fun m hm => hz m ?_⟩
      rw [hx]
      simp only [DataW.weights, hu]
      refine DataW.weights_mem_each (j := i) (t := u) (d := (xs[i]'(by omega)).1) ?_ ?_ m hm
      · have : fs.toList[i]? = some f := by simpa using hfi
        simp [List.getElem?_map, this, e2]
      · rw [List.getElem?_map, List.getElem?_eq_getElem (by omega)]
        rfl
    · cases hf
  · cases hf
theorem weights_mem_all {e : TypeId} {d : DataW H} {m : Nat} : ∀ {l : List (DataW H)}, d ∈ l → m ∈ d.weights P e → m ∈ DataW.weightsAll P e l
  | a :: r, h, hm => by
    simp only [DataW.weightsAll, List.mem_append]
    rcases List.mem_cons.1 h with rfl | h1
    · exact .inl hm
    · exact .inr (weights_mem_all h1 hm)
theorem Rd.slice {e : TypeId} (h : Rd enc P w t cs) (ht : P.underlying t = some (.slice e)) :
    ∃ s : Slc, cs = [s.v] ∧ s.l ≤ s.c ∧ s.l * P.bytesOf e ≤ reachBytes ∧ ∀ i, i < s.l → ∃ a cs', s.a = some a ∧ cs'.length = P.cellsOf e ∧ (∀ j v, cs'[j]? = some v → w.cell? (a.add (i * P.cellsOf e + j)) = some v) ∧ Rd enc P w e cs' := by
  obtain ⟨fuel, x, h, hz⟩ := h
  rcases DataW.trod_slice ht h with ⟨h1, _⟩ | ⟨a, len, cap, elems, rest, n, _, h1, hx, _, hl, hc, hel, he, hr, _⟩
  · exact ⟨Slc.nil, h1, Nat.le_refl _, by simp, fun i hi => by simp at hi⟩
  · subst hx
    refine ⟨⟨some a, len, cap⟩, h1, hl, ?_, fun i hi => ?_⟩
    · have := hz ((elems.length + rest.length) * P.bytesOf e) (by simp [DataW.weights, ht])
      exact Nat.le_trans (Nat.mul_le_mul_right _ (by simp only; omega)) this
    · simp only at hi
      have h2 := he i hi
      rw [List.getElem?_eq_getElem (by omega)] at h2
      obtain ⟨cs', h3, h4⟩ := Option.bind_eq_some_iff.1 h2
      obtain ⟨_, h5, h6⟩ := World.cells?_some h3
      refine ⟨a, cs', rfl, h5, fun j v hv => ?_, n, _, h4, fun m hm => hz m ?_⟩
      · have hj : j < P.cellsOf e := by have := (List.getElem?_eq_some_iff.1 hv).1; omega
        rw [← add_add, h6 j hj, hv]
      · simp only [DataW.weights, ht, List.mem_cons, List.mem_append]
        right; left
        exact weights_mem_all (d := (elems[i]'(by omega)).1) (List.mem_map.2 ⟨_, List.getElem_mem _, rfl⟩) hm
theorem choice {α : Type} {n : Nat} {R : Nat → α → Prop} (h : ∀ i, i < n → ∃ x, R i x) : ∃ l : List α, l.length = n ∧ ∀ i (hi : i < l.length), R i l[i] := by
  induction n with
  | zero => exact ⟨[], rfl, fun i hi => by simp at hi⟩
  | succ n ih =>
    obtain ⟨l, h1, h2⟩ := ih fun i hi => h i (by omega)
    obtain ⟨x, hx⟩ := h n (by omega)
    refine ⟨l ++ [x], by simp [h1], fun i hi => ?_⟩
    by_cases hl : i < l.length
    · rw [List.getElem_append_left hl]; exact h2 i hl
    · have : i = n := by simp at hi; omega
      subst this
      rw [List.getElem_append_right (by omega)]
      simpa using hx
theorem cells1 {e : TypeId} {u : TypeDesc} (_h : P.underlying e = some u) (hone : oneB P e = true) : P.cellsOf e = 1 := by
  unfold oneB at hone
  simp only [Bool.and_eq_true] at hone
  have h2 := hone.2
  unfold Program.cellsOf
  split at h2
  · rename_i i hi
    rw [hi]
    simpa using Nat.eq_of_beq_eq_true h2
  · cases h2
/-- A slice of bytes. -/
theorem Rd.bytes {e : TypeId} (h : Rd enc P w t cs) (ht : P.underlying t = some (.slice e)) (he : P.underlying e = some (.int .u8)) (h1 : P.cellsOf e = 1) (hb : P.bytesOf e = 1) :
    ∃ (s : Slc) (bs : List UInt8), cs = [s.v] ∧ Byt w s bs ∧ bs.length ≤ reachBytes := by
  obtain ⟨s, hs, hl, hr, hi⟩ := h.slice ht
  obtain ⟨bs, hbl, hbs⟩ := choice (R := fun i (b : UInt8) => ∃ a, s.a = some a ∧ w.cell? (a.add i) = some (u8v b)) (n := s.l) fun i hlt => by
    obtain ⟨a, cs', ha, hl', hc, hd⟩ := hi i hlt
    obtain ⟨n, hn, hwf⟩ := hd.int he
    subst hn
    have h2 := hc 0 _ rfl
    rw [h1, Nat.mul_one, Nat.add_zero] at h2
    simp only [Lit.wf, Bool.and_eq_true, decide_eq_true_eq] at hwf
    have e1 : IntKind.u8.min = 0 := rfl
    have e2 : IntKind.u8.max = 255 := rfl
    rw [e1, e2] at hwf
    refine ⟨UInt8.ofNat n.toNat, a, ha, ?_⟩
    rw [h2]
    have := u8_ofNat (n := n.toNat) (by omega)
    rw [u8v, this]
    congr 2
    omega
  refine ⟨s, bs, hs, ⟨by simp [hbl], hl, fun i v hv => ?_⟩, by rw [hbl]; rw [hb] at hr; omega⟩
  simp only [List.getElem?_map, Option.map_eq_some_iff] at hv
  obtain ⟨b, hb, rfl⟩ := hv
  obtain ⟨hlt, rfl⟩ := List.getElem?_eq_some_iff.1 hb
  exact hbs i hlt
end

section
variable {ps : Array TypeId} {args : Array Value} {W : World} {base : Nat} (hval : ∀ (j : Nat) t v, ps[j]? = some t → args[j]? = some v → Value.okWide P W .any base t v)
include hval
theorem arg_struct {j : Nat} {t : TypeId} {v : Value} {fs : Array Field} (ht : P.underlying t = some (.struct fs)) (h1 : ps[j]? = some t) (h2 : args[j]? = some v) : ∃ cs, v = .agg cs := by
  obtain ⟨cs, h, _⟩ := okWide_struct ht (hval j t v h1 h2)
  exact ⟨cs, h⟩
theorem arg_slice {j : Nat} {t e : TypeId} {v : Value} (ht : P.underlying t = some (.slice e)) (h1 : ps[j]? = some t) (h2 : args[j]? = some v) : ∃ s : Slc, v = s.v := by
  obtain ⟨a, l, c, h⟩ := okWide_slice ht (hval j t v h1 h2)
  exact ⟨⟨a, l, c⟩, h⟩
theorem arg_int {j : Nat} {t : TypeId} {k : IntKind} {v : Value} (ht : P.underlying t = some (.int k)) (h1 : ps[j]? = some t) (h2 : args[j]? = some v) : ∃ n, v = .int k n := okWide_int ht (hval j t v h1 h2)
theorem arg_bool {j : Nat} {t : TypeId} {v : Value} (ht : P.underlying t = some .bool) (h1 : ps[j]? = some t) (h2 : args[j]? = some v) : ∃ n, v = .bool n := okWide_bool ht (hval j t v h1 h2)
theorem arg_str {j : Nat} {t : TypeId} {v : Value} (ht : P.underlying t = some .string) (h1 : ps[j]? = some t) (h2 : args[j]? = some v) : ∃ n, v = .string n := okWide_string ht (hval j t v h1 h2)
end
theorem agg_of {cs : Array Value} {l : List Value} (h : (Value.agg cs).cells.toList = l) : cs = l.toArray := by
  have : cs.toList = l := h
  rw [← this]
theorem slc_of {s s' : Slc} (h : (Slc.v s).cells.toList = [Slc.v s']) : s = s' := by
  have h2 : [Slc.v s] = [Slc.v s'] := h
  injection h2 with h3
  injection h3 with h4 h5 h6
  cases s; cases s'; simp_all
/-! ## The whole of what was read -/
theorem rd_all {W : World} : ∀ {ts : List TypeId} {vs : List Value} {ds : List (DataW H)} {ps : List MemPlace}, DataW.TrodAll enc P W 0 (fun _ => true) true ts vs ds ps → (∀ n ∈ DataW.weightsEach P ts ds, n ≤ reachBytes) →
    ∀ (j : Nat) (t : TypeId), ts[j]? = some t → ∃ v, vs[j]? = some v ∧ Rd enc P W t v.cells.toList
  | [], _, _, _, _, _ => fun j t h => by simp at h
  | t0 :: ts, vs, ds, ps, h, hz => by
    obtain ⟨v, vs', d, ds', p, q, rfl, rfl, rfl, h1, h2⟩ := trodAll_cons h
    intro j t ht
    cases j with
    | zero =>
      simp only [List.getElem?_cons_zero, Option.some.injEq] at ht
      subst ht
      obtain ⟨fuel, hf⟩ := h1
      exact ⟨v, rfl, fuel, _, hf, fun n hn => hz n (by simp only [DataW.weightsEach, List.mem_append]; exact .inl hn)⟩
    | succ j =>
      simp only [List.getElem?_cons_succ] at ht ⊢
      exact rd_all h2 (fun n hn => hz n (by simp only [DataW.weightsEach, List.mem_append]; exact .inr hn)) j t ht
theorem trodAll_len {W : World} : ∀ {ts : List TypeId} {vs : List Value} {ds : List (DataW H)} {ps : List MemPlace}, DataW.TrodAll enc P W 0 (fun _ => true) true ts vs ds ps → vs.length = ts.length
  | [], _, _, _, h => by obtain ⟨rfl, _, _⟩ := trodAll_nil h; rfl
  | t0 :: ts, vs, ds, ps, h => by
    obtain ⟨v, vs', d, ds', p, q, rfl, rfl, rfl, h1, h2⟩ := trodAll_cons h
    simp [trodAll_len h2]
theorem trodAll_stays (hl : laidOutB P = true) {W W' : World} {sp : Nat → Bool} : ∀ {ts : List TypeId} {vs : List Value} {ds : List (DataW H)} {ps : List MemPlace}, (∀ t ∈ ts, P.readableRec t = true ∧ t < P.types.size) → DataW.TrodAll enc P W 0 (fun _ => true) true ts vs ds ps →
    (∀ p ∈ ps, W.sameAt W' p) → (∀ p ∈ ps, sp p.block = true) → DataW.TrodAll enc P W' 0 sp true ts vs ds ps
  | [], _, _, _, _, h, _, _ => by
    obtain ⟨rfl, rfl, rfl⟩ := trodAll_nil h
    exact trodAll_mk0
  | t0 :: ts, vs, ds, ps, ht, h, h1, h2 => by
    obtain ⟨v, vs', d, ds', p, q, rfl, rfl, rfl, h3, h4⟩ := trodAll_cons h
    obtain ⟨a, b⟩ := ht t0 (by simp)
    exact trodAll_cons_mk (WideElems.Trod_stays hl a b h3 (fun x hx => h1 x (List.mem_append_left _ hx)) (fun x hx => h2 x (List.mem_append_left _ hx)))
      (trodAll_stays hl (fun t h => ht t (by simp [h])) h4 (fun x hx => h1 x (List.mem_append_right _ hx)) (fun x hx => h2 x (List.mem_append_right _ hx)))
theorem Fr.kept {W W' : World} (h : Fr [] W W') (may : MemPlace → Prop) : W.keptBut W' may := by
  refine ⟨h.os, h.output, fun i hi => ?_⟩
  rw [h.block i hi (by simp)]
  cases W.heap[i]? with
  | none => rfl
  | some o =>
    cases o <;> first | exact ⟨rfl, rfl, rfl, fun _ _ => rfl⟩ | exact .inr ⟨rfl, rfl⟩ | rfl
theorem Fr.froz {W W' : World} (h : Fr [] W W') {a : Addr} (ha : a.block < W.heap.size) : W'.frozen? a = W.frozen? a := by
  unfold World.frozen?
  rw [h.block _ ha (by simp)]
/-- The law answers true, and nothing that was there has turned. -/
theorem post_true {f : Func} {s : ChangeSpec} {apart fresh handsOn again : Bool} {W W' : World} {args : Array Value} {ds gs : List (DataW H)} {before : List MemPlace} {tb : TypeId} (hl : laidOutB P = true)
    (hrd : ∀ t ∈ f.params.toList, P.readableRec t = true ∧ t < P.types.size) (hvs : s.vars = []) (hW : DataW.Whole enc P f.params.toList s.vars apart W args.toList ds gs before) (hfr : Fr [] W W')
    (hres : f.resultTypes = #[tb]) (hb : P.underlying tb = some .bool) (hs : s.fn H (ds ++ gs) = { results := [.lit (.bool true)], args := ds }) : s.post enc P f apart fresh handsOn again W args (.bool true) W' := by
  have hlt : ∀ p ∈ before, p.block < W.heap.size := fun p hp => by simpa using hW.lt p hp
  have hW0 := hW
  obtain ⟨p, q, hA, hV, rfl, hz, hn⟩ := hW
  rw [hvs] at hV
  obtain ⟨rfl, rfl⟩ := trodVars_none hV
  simp only [List.append_nil] at hW0 hz hn hlt hs ⊢
  have hsame : ∀ x ∈ p, W.sameAt W' x := fun x hx => hfr.below.same (hlt x hx)
  have hr1 : ∀ (b : Nat) (sp : Nat → Bool) (hd : Bool), DataW.TrodAll enc P W' b sp hd f.resultTypes.toList ((Value.bool true).resultList f.resultTypes.size) [.lit (.bool true)] [] := fun b sp hd => by
    rw [hres]
    exact trodAll_cons_mk (shut_bool hb true) trodAll_mk0
  have hvars : ∀ sp : Nat → Bool, DataW.TrodVars enc P W' sp s.vars [] [] := fun sp => by rw [hvs]; rfl
  refine ⟨ds, [], p, [], p, [], hW0, ?_, ?_, ?_, hfr.kept _, fun _ => ?_⟩
  · simp only [List.append_nil]
    rw [hs]
    exact hr1 _ _ _
  · simp only [List.append_nil]
    rw [hs]
    exact trodAll_stays hl hrd hA hsame fun x hx => by simpa using hlt x hx
  · simp only [List.append_nil]
    rw [hs]
    exact hvars _
  · refine ⟨fun j t r h1 h2 => ?_, .lit (.bool true) :: ds, [], p, ⟨p, [], ?_, ?_, by simp, ?_, ?_⟩, ?_⟩
    · rw [hres] at h1 h2
      obtain rfl : j = 0 := by
        have := (Array.getElem?_eq_some_iff.1 h1).1
        simp at this
        omega
      simp [Value.resultList] at h1 h2
      subst h1 h2
      exact okWide_bool_mk hb _
    · have := trodAll_append (trodAll_stays (sp := fun _ => true) hl hrd hA hsame fun _ _ => rfl) (hr1 0 (fun _ => true) true)
      simpa using this
    · exact hvars _
    · intro b off hp
      rw [hfr.froz (hlt _ hp)]
      exact hz b off hp
    · exact hn
    · intro x hx _
      exact hx
end
end Go.Vc
