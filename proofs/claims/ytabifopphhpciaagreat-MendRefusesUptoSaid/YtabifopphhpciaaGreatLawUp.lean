/-
  From a law's contract to its row, where what is read is of small bulk: what an argument that was read is, and how long.
-/
import Derived.Test.YtabifopphhpciaaGreatLaw
import Derived.Test.YtabifopphhpciaaGreatRows
import Derived.ProofKit
namespace Go.Proofs.YtabifopphhpciaaGreat
open Go Go.Vc Go.ChangeShapes Go.WideShapes Go.RowKit
section
variable {H : Type} {enc : TypeId × Value → H} {P : Program}
theorem bulk_one (d : DataW H) : 1 ≤ Rows.uptoBulk d := by
  cases d with
  | lit l => cases l <;> simp [Rows.uptoBulk]
  | nil => simp [Rows.uptoBulk]
  | ptr d => simp [Rows.uptoBulk]
  | slice elems spare => simp [Rows.uptoBulk]
  | agg parts => simp [Rows.uptoBulk]
  | iface t d => simp [Rows.uptoBulk]
  | map entries => simp [Rows.uptoBulk]
  | held h => simp [Rows.uptoBulk]
theorem bulk_part {d : DataW H} {l : List (DataW H)} (h : d ∈ l) : Rows.uptoBulk d ≤ Rows.uptoBulkAll l := by
  induction l with
  | nil => cases h
  | cons x r ih =>
    simp only [Rows.uptoBulkAll]
    cases List.mem_cons.1 h with
    | inl e => subst e; omega
    | inr e => have := ih e; omega
theorem bulk_len (l : List (DataW H)) : l.length ≤ Rows.uptoBulkAll l := by
  induction l with
  | nil => simp [Rows.uptoBulkAll]
  | cons x r ih => have := bulk_one x; simp only [Rows.uptoBulkAll, List.length_cons]; omega
/-- What was read there is a datum of this type, of bulk at most b. -/
def Ru (enc : TypeId × Value → H) (P : Program) (b : Nat) (w : World) (t : TypeId) (cs : List Value) : Prop :=
  ∃ fuel x, DataW.trod enc P w 0 (fun _ => true) true fuel t cs = some x ∧ (∀ n ∈ x.1.weights P t, n ≤ reachBytes) ∧ Rows.uptoBulk x.1 ≤ b
section
variable {w : World} {t : TypeId} {cs : List Value} {b : Nat}
theorem Ru.rd (h : Ru enc P b w t cs) : Rd enc P w t cs := by obtain ⟨f, x, h1, h2, _⟩ := h; exact ⟨f, x, h1, h2⟩
theorem Ru.int {k : IntKind} (h : Ru enc P b w t cs) (ht : P.underlying t = some (.int k)) : ∃ n, cs = [.int k n] ∧ (Lit.int k n).wf = true := h.rd.int ht
theorem Ru.bool (h : Ru enc P b w t cs) (ht : P.underlying t = some .bool) : ∃ n, cs = [.bool n] := h.rd.bool ht
theorem Ru.str (h : Ru enc P b w t cs) (ht : P.underlying t = some .string) : ∃ s : ByteArray, cs = [.string s] ∧ s.size < b := by
  obtain ⟨fuel, x, h, _, hb⟩ := h
  obtain ⟨s, h1, h2, _⟩ := DataW.trod_string ht h
  refine ⟨s, h1, ?_⟩
  subst h2
  simp only [Rows.uptoBulk] at hb
  have : s.data.toList.length = s.size := by simp
  omega
theorem Ru.len (h : Ru enc P b w t cs) {i off u : Nat} (hf : fldTyB P t i off u = true) : cs.length = P.cellsOf t := h.rd.len hf
theorem Ru.fld (h : Ru enc P b w t cs) {i off u : Nat} (hf : fldTyB P t i off u = true) : Ru enc P b w u ((cs.drop off).take (P.cellsOf u)) := by
  obtain ⟨fuel, x, h, hz, hb⟩ := h
  unfold fldTyB at hf
  split at hf
  · rename_i fs hu
    split at hf
    · rename_i f hfi
      simp only [Bool.and_eq_true] at hf
      have e1 : f.offset = off := Nat.eq_of_beq_eq_true hf.1
      have e2 : f.type = u := Nat.eq_of_beq_eq_true hf.2
      obtain ⟨xs, n, _, hx, _, hl, hg⟩ := DataW.trod_struct hu h
      have h1 := hg i f hfi
      have hi : i < fs.size := (Array.getElem?_eq_some_iff.1 hfi).1
      rw [List.getElem?_eq_getElem (by omega)] at h1
      rw [e1, e2] at h1
      refine ⟨n, _, h1, fun m hm => hz m ?_, ?_⟩
      · rw [hx]
        simp only [DataW.weights, hu]
        refine DataW.weights_mem_each (j := i) (t := u) (d := (xs[i]'(by omega)).1) ?_ ?_ m hm
        · have : fs.toList[i]? = some f := by simpa using hfi
          simp [List.getElem?_map, this, e2]
        · rw [List.getElem?_map, List.getElem?_eq_getElem (by omega)]
          rfl
      · rw [hx] at hb
        simp only [Rows.uptoBulk] at hb
        have := bulk_part (d := (xs[i]'(by omega)).1) (l := xs.map (·.1)) (List.mem_map.2 ⟨_, List.getElem_mem _, rfl⟩)
        omega
    · cases hf
  · cases hf
theorem Ru.slice {e : TypeId} (h : Ru enc P b w t cs) (ht : P.underlying t = some (.slice e)) :
    ∃ s : Slc, cs = [s.v] ∧ s.l ≤ s.c ∧ s.l < b + 1 ∧ ∀ i, i < s.l → ∃ a cs', s.a = some a ∧ cs'.length = P.cellsOf e ∧ (∀ j v, cs'[j]? = some v → w.cell? (a.add (i * P.cellsOf e + j)) = some v) ∧ Ru enc P b w e cs' := by
  obtain ⟨fuel, x, h, hz, hb⟩ := h
  rcases DataW.trod_slice ht h with ⟨h1, _⟩ | ⟨a, len, cap, elems, rest, n, _, h1, hx, _, hl, hc, hel, he, hr, _⟩
  · exact ⟨Slc.nil, h1, Nat.le_refl _, by simp, fun i hi => by simp at hi⟩
  · subst hx
    simp only [Rows.uptoBulk] at hb
    have hbl := bulk_len (elems.map (·.1))
    rw [List.length_map] at hbl
    refine ⟨⟨some a, len, cap⟩, h1, hl, by simp only; omega, fun i hi => ?_⟩
    simp only at hi
    have h2 := he i hi
    rw [List.getElem?_eq_getElem (by omega)] at h2
    obtain ⟨cs', h3, h4⟩ := Option.bind_eq_some_iff.1 h2
    obtain ⟨_, h5, h6⟩ := World.cells?_some h3
    have hmem : (elems[i]'(by omega)).1 ∈ elems.map (·.1) := List.mem_map.2 ⟨_, List.getElem_mem _, rfl⟩
    refine ⟨a, cs', rfl, h5, fun j v hv => ?_, n, _, h4, fun m hm => hz m ?_, ?_⟩
    · have hj : j < P.cellsOf e := by have := (List.getElem?_eq_some_iff.1 hv).1; omega
      rw [← add_add, h6 j hj, hv]
    · simp only [DataW.weights, ht, List.mem_cons, List.mem_append]
      right; left
      exact weights_mem_all (d := (elems[i]'(by omega)).1) hmem hm
    · have := bulk_part hmem
      omega
/-- A slice of bytes. -/
theorem Ru.bytes {e : TypeId} (h : Ru enc P b w t cs) (ht : P.underlying t = some (.slice e)) (he : P.underlying e = some (.int .u8)) (h1 : P.cellsOf e = 1) (hb : P.bytesOf e = 1) :
    ∃ (s : Slc) (bs : List UInt8), cs = [s.v] ∧ Byt w s bs ∧ bs.length ≤ b := by
  obtain ⟨s, bs, hs, hB, _⟩ := h.rd.bytes ht he h1 hb
  obtain ⟨s', hs', _, hl, _⟩ := h.slice ht
  refine ⟨s, bs, hs, hB, ?_⟩
  rw [hs] at hs'
  obtain rfl : s = s' := slc_of (s := s) (s' := s') (by rw [← hs']; rfl)
  have := hB.len
  omega
/-- A slice, element by element. -/
theorem Ru.elems {e : TypeId} {α : Type} (R : α → List Value → Prop) (h : Ru enc P b w t cs) (ht : P.underlying t = some (.slice e)) (step : ∀ cs', Ru enc P b w e cs' → ∃ x, R x cs') :
    ∃ (s : Slc) (l : List α), cs = [s.v] ∧ s.l = l.length ∧ s.l ≤ s.c ∧ l.length ≤ b ∧ ∀ i (hi : i < l.length), ∃ a cs', s.a = some a ∧ R l[i] cs' ∧ cs'.length = P.cellsOf e ∧ ∀ j v, cs'[j]? = some v → w.cell? (a.add (i * P.cellsOf e + j)) = some v := by
  obtain ⟨s, hs, hc, hl, hi⟩ := h.slice ht
  obtain ⟨l, h1, h2⟩ := choice (R := fun i (x : α) => ∃ a cs', s.a = some a ∧ R x cs' ∧ cs'.length = P.cellsOf e ∧ ∀ j v, cs'[j]? = some v → w.cell? (a.add (i * P.cellsOf e + j)) = some v) (n := s.l) fun i hlt => by
    obtain ⟨a, cs', ha, hl', hc, hd⟩ := hi i hlt
    obtain ⟨x, hx⟩ := step cs' hd
    exact ⟨x, a, cs', ha, hx, hl', hc⟩
  exact ⟨s, l, hs, h1.symm, hc, by omega, h2⟩
end
/-! ## The whole of what was read -/
theorem ru_all {W : World} {b : Nat} : ∀ {ts : List TypeId} {vs : List Value} {ds : List (DataW H)} {ps : List MemPlace}, DataW.TrodAll enc P W 0 (fun _ => true) true ts vs ds ps → (∀ n ∈ DataW.weightsEach P ts ds, n ≤ reachBytes) → Rows.uptoBulkAll ds ≤ b →
    ∀ (j : Nat) (t : TypeId), ts[j]? = some t → ∃ v, vs[j]? = some v ∧ Ru enc P b W t v.cells.toList
  | [], _, _, _, _, _, _ => fun j t h => by simp at h
  | t0 :: ts, vs, ds, ps, h, hz, hb => by
    obtain ⟨v, vs', d, ds', p, q, rfl, rfl, rfl, h1, h2⟩ := trodAll_cons h
    simp only [Rows.uptoBulkAll] at hb
    intro j t ht
    cases j with
    | zero =>
      simp only [List.getElem?_cons_zero, Option.some.injEq] at ht
      subst ht
      obtain ⟨fuel, hf⟩ := h1
      exact ⟨v, rfl, fuel, _, hf, fun n hn => hz n (by simp only [DataW.weightsEach, List.mem_append]; exact .inl hn), by simp only; omega⟩
    | succ j =>
      simp only [List.getElem?_cons_succ] at ht ⊢
      exact ru_all h2 (fun n hn => hz n (by simp only [DataW.weightsEach, List.mem_append]; exact .inr hn)) (by omega) j t ht
end
theorem trodAll_dlen {H : Type} {enc : TypeId × Value → H} {P : Program} {W : World} : ∀ {ts : List TypeId} {vs : List Value} {ds : List (DataW H)} {ps : List MemPlace}, DataW.TrodAll enc P W 0 (fun _ => true) true ts vs ds ps → ds.length = ts.length
  | [], _, _, _, h => by obtain ⟨_, rfl, _⟩ := trodAll_nil h; rfl
  | t0 :: ts, vs, ds, ps, h => by
    obtain ⟨v, vs', d, ds', p, q, rfl, rfl, rfl, h1, h2⟩ := trodAll_cons h
    simp [trodAll_dlen h2]
theorem list1 {α : Type} {a : List α} (h : a.length = 1) : ∃ x, a = [x] := by
  match a, h with
  | [x], _ => exact ⟨x, rfl⟩
theorem list2 {α : Type} {a : List α} (h : a.length = 2) : ∃ x y, a = [x, y] := by
  match a, h with
  | [x, y], _ => exact ⟨x, y, rfl⟩
theorem list3 {α : Type} {a : List α} (h : a.length = 3) : ∃ x y z, a = [x, y, z] := by
  match a, h with
  | [x, y, z], _ => exact ⟨x, y, z, rfl⟩
theorem list4 {α : Type} {a : List α} (h : a.length = 4) : ∃ x y z u, a = [x, y, z, u] := by
  match a, h with
  | [x, y, z, u], _ => exact ⟨x, y, z, u, rfl⟩
theorem list5 {α : Type} {a : List α} (h : a.length = 5) : ∃ x y z u v, a = [x, y, z, u, v] := by
  match a, h with
  | [x, y, z, u, v], _ => exact ⟨x, y, z, u, v, rfl⟩
theorem list6 {α : Type} {a : List α} (h : a.length = 6) : ∃ x y z u v w, a = [x, y, z, u, v, w] := by
  match a, h with
  | [x, y, z, u, v, w], _ => exact ⟨x, y, z, u, v, w, rfl⟩
theorem args1 {α : Type} {a : Array α} (h : a.toList.length = 1) : ∃ x, a = #[x] := by
  obtain ⟨l⟩ := a
  match l, h with
  | [x], _ => exact ⟨x, rfl⟩
theorem args2 {α : Type} {a : Array α} (h : a.toList.length = 2) : ∃ x y, a = #[x, y] := by
  obtain ⟨l⟩ := a
  match l, h with
  | [x, y], _ => exact ⟨x, y, rfl⟩
theorem args3 {α : Type} {a : Array α} (h : a.toList.length = 3) : ∃ x y z, a = #[x, y, z] := by
  obtain ⟨l⟩ := a
  match l, h with
  | [x, y, z], _ => exact ⟨x, y, z, rfl⟩
theorem args4 {α : Type} {a : Array α} (h : a.toList.length = 4) : ∃ x y z u, a = #[x, y, z, u] := by
  obtain ⟨l⟩ := a
  match l, h with
  | [x, y, z, u], _ => exact ⟨x, y, z, u, rfl⟩
theorem args5 {α : Type} {a : Array α} (h : a.toList.length = 5) : ∃ x y z u v, a = #[x, y, z, u, v] := by
  obtain ⟨l⟩ := a
  match l, h with
  | [x, y, z, u, v], _ => exact ⟨x, y, z, u, v, rfl⟩
theorem args6 {α : Type} {a : Array α} (h : a.toList.length = 6) : ∃ x y z u v w, a = #[x, y, z, u, v, w] := by
  obtain ⟨l⟩ := a
  match l, h with
  | [x, y, z, u, v, w], _ => exact ⟨x, y, z, u, v, w, rfl⟩
theorem val_of {v : Value} {l : List Value} (h : ∃ cs, v = .agg cs) (e : v.cells.toList = l) : v = .agg l.toArray := by
  obtain ⟨cs, rfl⟩ := h
  rw [agg_of e]
theorem val_of_int {k : IntKind} {v : Value} {n : Int} (h : ∃ n, v = .int k n) (e : v.cells.toList = [.int k n]) : v = .int k n := by
  obtain ⟨m, rfl⟩ := h
  have h2 : [Value.int k m] = [.int k n] := e
  injection h2
theorem val_of_slc {v : Value} {s : Slc} (h : ∃ s : Slc, v = s.v) (e : v.cells.toList = [s.v]) : v = s.v := by
  obtain ⟨m, rfl⟩ := h
  rw [slc_of e]
theorem val_of_bool {v : Value} {n : Bool} (h : ∃ n, v = .bool n) (e : v.cells.toList = [.bool n]) : v = .bool n := by
  obtain ⟨m, rfl⟩ := h
  have h2 : [Value.bool m] = [.bool n] := e
  injection h2
theorem val_of_str {v : Value} {n : ByteArray} (h : ∃ n, v = .string n) (e : v.cells.toList = [.string n]) : v = .string n := by
  obtain ⟨m, rfl⟩ := h
  have h2 : [Value.string m] = [.string n] := e
  injection h2
end Go.Proofs.YtabifopphhpciaaGreat
