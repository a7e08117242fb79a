/-
  Maps that a run has made: what the operations come to, as parts. Nothing of any program stands here.
-/
import Derived.Test.YtgnceldnfefnmaaGreatSep
import Derived.Maps.RangeRun
import Derived.MapKept
namespace Go.Vc
open Go Go.Vc.Asn

/-! ## Keys -/
structure KeyT (P : Program) (kt : TypeId) {κ : Type} [DecidableEq κ] (ec : κ → Value) : Prop where
  chk : ∀ (em : Bool) (k : κ) (w : World), (Instr.checkKey em 10000 kt (ec k)).run P w = .ok () w
  find : ∀ (k : κ) (l : List MapEntry) (ks : List κ), l.map (·.key) = ks.map ec → ∀ w, (Instr.findKey kt (ec k) l).run P w = .ok ((ks.findIdx? (fun x => decide (x = k))).bind fun i => (l[i]?).map fun e => (i, e.val)) w
  same : ∀ k, Instr.sameBits 10000 (ec k) (ec k) = true
theorem run_findAsk {P : Program} {kt : TypeId} {κ : Type} [DecidableEq κ] {ec : κ → Value} {w : World} {k : κ} (heq : ∀ k' : κ, (Op.equal kt (ec k) (ec k')).run P w = .ok (decide (k = k')) w) :
    ∀ (l : List MapEntry) (ks : List κ) (i : Nat), l.map (·.key) = ks.map ec → (Instr.findAsking kt (ec k) l i).run P w = .ok ((ks.findIdx? (fun x => decide (x = k))).bind fun j => (l[j]?).map fun e => (i + j, e.val)) w
  | [], ks, i, h => by
    have : ks = [] := by cases ks with | nil => rfl | cons => simp at h
    subst this
    simp [Instr.findAsking]
  | e :: es, [], i, h => by simp at h
  | e :: es, k' :: ks, i, h => by
    simp only [List.map_cons, List.cons.injEq] at h
    simp only [Instr.findAsking, Sem.run_bind, h.1, heq, Result.andThen]
    by_cases hk : k = k'
    · subst hk
      simp [List.findIdx?_cons]
    · have hk' : ¬ k' = k := fun e => hk e.symm
      rw [if_neg (by simpa using hk), run_findAsk heq es ks (i + 1) h.2]
      simp only [List.findIdx?_cons, hk', decide_false, Bool.false_eq_true, if_false]
      cases ks.findIdx? (fun x => decide (x = k)) with
      | none => rfl
      | some j => simp; cases es[j]? <;> simp; omega
theorem run_findNow' {P : Program} {kt : TypeId} {d : TypeDesc} {κ : Type} [DecidableEq κ] {ec : κ → Value} {k : κ} (hd : P.underlying kt = some d) (hs : ∀ k' : κ, Instr.sameNow d (ec k) (ec k') = some (decide (k = k'))) :
    ∀ (l : List MapEntry) (ks : List κ) (i : Nat), l.map (·.key) = ks.map ec → Instr.findNow d (ec k) l i = some ((ks.findIdx? (fun x => decide (x = k))).bind fun j => (l[j]?).map fun e => (i + j, e.val))
  | [], ks, i, h => by
    have : ks = [] := by cases ks with | nil => rfl | cons => simp at h
    subst this
    simp [Instr.findNow]
  | e :: es, [], i, h => by simp at h
  | e :: es, k' :: ks, i, h => by
    simp only [List.map_cons, List.cons.injEq] at h
    simp only [Instr.findNow, h.1, hs]
    by_cases hk : k = k'
    · subst hk
      simp [List.findIdx?_cons]
    · have hk' : ¬ k' = k := fun e => hk e.symm
      simp only [hk, decide_false]
      rw [run_findNow' hd hs es ks (i + 1) h.2]
      simp only [List.findIdx?_cons, hk', decide_false, Bool.false_eq_true, if_false]
      cases ks.findIdx? (fun x => decide (x = k)) with
      | none => rfl
      | some j => simp; cases es[j]? <;> simp; omega
theorem keyT_now {P : Program} {kt : TypeId} {d : TypeDesc} {κ : Type} [DecidableEq κ] {ec : κ → Value} (hd : P.underlying kt = some d) (hs : ∀ k k' : κ, Instr.sameNow d (ec k) (ec k') = some (decide (k = k')))
    (hc : ∀ (em : Bool) (k : κ) (w : World), (Instr.checkKey em 10000 kt (ec k)).run P w = .ok () w) (hb : ∀ k, Instr.sameBits 10000 (ec k) (ec k) = true) : KeyT P kt ec :=
  ⟨hc, fun k l ks h w => by
    rw [Instr.findKey]
    simp only [Sem.run_bind, run_underlying hd, Result.andThen]
    rw [run_findNow' hd (hs k) l ks 0 h]
    simp, hb⟩
theorem bytes_beq' (a b : ByteArray) : (a == b) = decide (a = b) := by
  rw [Bool.eq_iff_iff, MapKept.bytes_beq]; simp
theorem keyT_str {P : Program} {kt : TypeId} (hd : P.underlying kt = some .string) : KeyT P kt (fun s : ByteArray => Value.string s) :=
  keyT_now hd (fun k k' => by simp [Instr.sameNow, bytes_beq']) (fun em k w => by unfold Instr.checkKey; simp [run_underlying hd]) fun k => by simp [Instr.sameBits, bytes_beq']
/-! ## The entries -/
theorem map_erase {α β : Type} (f : α → β) : ∀ (l : List α) (i : Nat), (l.map f).eraseIdx i = (l.eraseIdx i).map f
  | [], _ => by simp
  | _ :: _, 0 => by simp
  | x :: r, i + 1 => by simp [map_erase f r i]
section
variable {κ ν : Type} [DecidableEq κ] (ec : κ → Value) (ev : ν → Value)
def ment (x : κ × ν × Nat) : MapEntry := { key := ec x.1, val := ev x.2.1, born := x.2.2 }
def ments (L : List (κ × ν × Nat)) : Array MapEntry := (L.map (ment ec ev)).toArray
structure MInv (L : List (κ × ν × Nat)) (c : Nat) : Prop where
  keys : (L.map (·.1)).Nodup
  borns : (L.map (·.2.2)).Nodup
  lt : ∀ x ∈ L, x.2.2 < c
def mlook (L : List (κ × ν × Nat)) (k : κ) : Option ν := (L.find? fun x => decide (x.1 = k)).map (·.2.1)
def mput (L : List (κ × ν × Nat)) (c : Nat) (k : κ) (v : ν) : List (κ × ν × Nat) × Nat :=
  if k ∈ L.map (·.1) then (L.map fun x => if x.1 = k then (x.1, v, x.2.2) else x, c) else (L ++ [(k, v, c)], c + 1)
def mdel (L : List (κ × ν × Nat)) (k : κ) : List (κ × ν × Nat) := L.filter fun x => decide (x.1 ≠ k)
variable {ec ev}
theorem findIdx_keys (L : List (κ × ν × Nat)) (k : κ) : (L.map (·.1)).findIdx? (fun x => decide (x = k)) = L.findIdx? fun x => decide (x.1 = k) := by
  rw [List.findIdx?_map]; rfl
omit [DecidableEq κ] in
theorem ment_keys (L : List (κ × ν × Nat)) : (L.map (ment ec ev)).map (·.key) = (L.map (·.1)).map ec := by
  rw [List.map_map, List.map_map]; rfl
theorem find_bind (L : List (κ × ν × Nat)) (k : κ) : ((L.map (·.1)).findIdx? (fun x => decide (x = k))).bind (fun i => ((L.map (ment ec ev))[i]?).map fun e => (i, e.val)) =
    (L.findIdx? fun x => decide (x.1 = k)).bind fun i => (L[i]?).map fun x => (i, ev x.2.1) := by
  rw [findIdx_keys]
  cases h : L.findIdx? (fun x => decide (x.1 = k)) with
  | none => rfl
  | some i => simp [List.getElem?_map]; cases L[i]? <;> simp [ment]
theorem look_of_idx (L : List (κ × ν × Nat)) (k : κ) : ((L.findIdx? fun x => decide (x.1 = k)).bind fun i => L[i]?) = L.find? fun x => decide (x.1 = k) := by
  induction L with
  | nil => rfl
  | cons x r ih =>
    simp only [List.findIdx?_cons, List.find?_cons]
    by_cases h : x.1 = k
    · simp [h]
    · simp only [h, decide_false, Bool.false_eq_true, if_false]
      rw [← ih]
      cases r.findIdx? (fun x => decide (x.1 = k)) <;> simp
end
section
variable {P : Program} {w : World} {t kt et ty : TypeId} {κ ν : Type} [DecidableEq κ] {ec : κ → Value} {ev : ν → Value} {g c : Nat} {L : List (κ × ν × Nat)}
theorem run_findM (T : KeyT P kt ec) (k : κ) : (Instr.findKey kt (ec k) (ments ec ev L).toList).run P w = .ok ((L.findIdx? fun x => decide (x.1 = k)).bind fun i => (L[i]?).map fun x => (i, ev x.2.1)) w := by
  rw [← find_bind (ec := ec)]
  exact T.find k _ _ (ment_keys L) w
theorem run_lookM (T : KeyT P kt ec) (ht : P.underlying t = some (.map kt et)) (hg : w.heap[g]? = some (.map (ments ec ev L) c)) {z : Value} (hz : (zeroValue et).run P w = .ok z w) (k : κ) (b : Bool) :
    (Instr.lookup t (.map (some g)) (ec k) b).run P w = .ok (if b then .tuple #[((mlook L k).map ev).getD z, .bool (mlook L k).isSome] else ((mlook L k).map ev).getD z) w := by
  have hl := look_of_idx L k
  have hf : (Instr.findKey kt (ec k) (ments ec ev L).toList).run P w = _ := run_findM (ec := ec) (ev := ev) (L := L) T k
  simp only [Instr.lookup, Sem.run_bind, run_underlying ht, Result.andThen, MapKept.run_getObj_map hg, Sem.run_pure, T.chk, hf]
  unfold mlook
  rw [← hl]
  cases h : L.findIdx? (fun x => decide (x.1 = k)) with
  | none => simp [hz]
  | some i =>
    have hi : i < L.length := by
      have := List.findIdx?_eq_some_iff_getElem.1 h
      obtain ⟨h1, _⟩ := this
      exact h1
    simp [List.getElem?_eq_getElem hi]
theorem run_lookM0 (T : KeyT P kt ec) (ht : P.underlying t = some (.map kt et)) {z : Value} (hz : (zeroValue et).run P w = .ok z w) (k : κ) (b : Bool) :
    (Instr.lookup t (.map none) (ec k) b).run P w = .ok (if b then .tuple #[z, .bool false] else z) w := by
  have hf := T.find k [] [] rfl w
  simp at hf
  simp only [Instr.lookup, Sem.run_bind, run_underlying ht, Result.andThen, Sem.run_pure, T.chk, hf, hz]
theorem run_updM (T : KeyT P kt ec) (ht : P.underlying t = some (.map kt et)) (hg : w.heap[g]? = some (.map (ments ec ev L) c)) (hn : (L.map (·.1)).Nodup) (k : κ) (v : ν) :
    (Instr.mapUpdate t (.map (some g)) (ec k) (ev v)).run P w = .ok () { w with heap := w.heap.setIfInBounds g (.map (ments ec ev (mput L c k v).1) (mput L c k v).2) } := by
  have hf : (Instr.findKey kt (ec k) (ments ec ev L).toList).run P w = _ := run_findM (ec := ec) (ev := ev) (L := L) T k
  simp only [Instr.mapUpdate, Sem.run_bind, run_underlying ht, Result.andThen, MapKept.run_getObj_map hg, T.chk, hf]
  unfold mput
  cases h : L.findIdx? (fun x => decide (x.1 = k)) with
  | none =>
    have hk : k ∉ L.map (·.1) := by
      intro hm
      obtain ⟨x, hx, rfl⟩ := List.mem_map.1 hm
      have := List.findIdx?_eq_none_iff.1 h x hx
      simp at this
    rw [if_neg hk]
    simp only [Option.bind_none, MapKept.run_setObj_map _ hg]
    simp [ments, ment]
  | some i =>
    obtain ⟨hi, h1, h2⟩ := List.findIdx?_eq_some_iff_getElem.1 h
    simp only [decide_eq_true_eq] at h1
    have hk : k ∈ L.map (·.1) := List.mem_map.2 ⟨L[i], List.getElem_mem _, h1⟩
    rw [if_pos hk]
    simp only [List.getElem?_eq_getElem hi, Option.map_some, Option.bind_some]
    have e1 : (((ments ec ev L)[i]?).map (·.key)).getD (ec k) = ec k := by simp [ments, List.getElem?_eq_getElem hi, ment, h1]
    have e2 : (Instr.keyThatStays (ec k) (ec k)).run P w = .ok (ec k) w := by unfold Instr.keyThatStays; rw [if_pos (T.same k)]; rfl
    simp only [e1, Sem.run_bind, e2, Result.andThen, MapKept.run_setObj_map _ hg]
    have e3 : (ments ec ev L).modify i (fun e => { e with key := ec k, val := ev v }) = ments ec ev (L.map fun x => if x.1 = k then (x.1, v, x.2.2) else x) := by
      apply Array.ext'
      unfold ments
      simp only [Array.toList_modify, List.map_map]
      apply List.ext_getElem?
      intro j
      rw [List.getElem?_modify, List.getElem?_map, List.getElem?_map]
      by_cases hj : i = j
      · subst hj
        rw [List.getElem?_eq_getElem hi]
        simp [ment, h1]
      · cases hx : L[j]? with
        | none => simp
        | some x =>
          have hxk : x.1 ≠ k := by
            intro e
            apply hj
            obtain ⟨hjl, hxe⟩ := List.getElem?_eq_some_iff.1 hx
            have a1 : (L.map (·.1))[i]'(by simpa using hi) = k := by simpa using h1
            have a2 : (L.map (·.1))[j]'(by simpa using hjl) = k := by simp [hxe, e]
            by_cases hij : i = j
            · exact hij
            · exfalso
              have hp := List.pairwise_iff_getElem.1 hn
              rcases Nat.lt_or_gt_of_ne hij with h3 | h3
              · exact hp i j (by simpa using hi) (by simpa using hjl) h3 (a1.trans a2.symm)
              · exact hp j i (by simpa using hjl) (by simpa using hi) h3 (a2.trans a1.symm)
          simp [hj, hxk]
    rw [e3]
theorem run_delM (T : KeyT P kt ec) (ht : P.underlying t = some (.map kt et)) (hg : w.heap[g]? = some (.map (ments ec ev L) c)) (hn : (L.map (·.1)).Nodup) (k : κ) :
    (Builtin.delete_ #[t, kt] ty #[.map (some g), ec k]).run P w = .ok (.tuple #[]) { w with heap := w.heap.setIfInBounds g (.map (ments ec ev (mdel L k)) c) } := by
  have hf : (Instr.findKey kt (ec k) (ments ec ev L).toList).run P w = _ := run_findM (ec := ec) (ev := ev) (L := L) T k
  have e0 : ∀ (x y z : Value), (#[x, y] : Array Value)[0]? = some x ∧ (#[x, y] : Array Value)[1]? = some y := by intros; exact ⟨rfl, rfl⟩
  simp only [Builtin.delete_, List.getElem?_toArray, List.getElem?_cons_zero, List.getElem?_cons_succ, Sem.run_bind, run_underlying ht, Result.andThen, MapKept.run_getObj_map hg, T.chk, hf]
  cases h : L.findIdx? (fun x => decide (x.1 = k)) with
  | none =>
    have hd : mdel L k = L := by
      unfold mdel
      rw [List.filter_eq_self]
      intro x hx
      have := List.findIdx?_eq_none_iff.1 h x hx
      simpa using this
    simp only [Option.bind_none, Sem.run_bind, MapKept.run_setObj_map _ hg, Result.andThen, Sem.run_pure, hd]
  | some i =>
    obtain ⟨hi, h1, h2⟩ := List.findIdx?_eq_some_iff_getElem.1 h
    simp only [decide_eq_true_eq] at h1
    have e3 : (ments ec ev L).eraseIdxIfInBounds i = ments ec ev (mdel L k) := by
      have hd : mdel L k = L.eraseIdx i := by
        clear hf h2 hg h
        unfold mdel
        induction L generalizing i with
        | nil => simp at hi
        | cons x r ih =>
          simp only [List.map_cons, List.nodup_cons] at hn
          cases i with
          | zero =>
            simp only [List.getElem_cons_zero] at h1
            simp only [List.eraseIdx_cons_zero, List.filter_cons, h1, ne_eq, not_true_eq_false, decide_false, Bool.false_eq_true, if_false]
            rw [List.filter_eq_self]
            intro y hy
            simp only [decide_eq_true_eq]
            rintro rfl
            exact hn.1 (h1 ▸ List.mem_map.2 ⟨y, hy, rfl⟩)
          | succ i =>
            simp only [List.getElem_cons_succ] at h1
            have hx : x.1 ≠ k := by
              rintro rfl
              exact hn.1 (List.mem_map.2 ⟨r[i]'(by simpa using hi), List.getElem_mem _, h1⟩)
            simp only [List.eraseIdx_cons_succ, List.filter_cons, hx, ne_eq, not_false_eq_true, decide_true, if_true]
            rw [← ih hn.2 i (by simpa using hi) h1]
      rw [hd]
      unfold ments
      simp [Array.eraseIdxIfInBounds, hi, map_erase]
    simp only [List.getElem?_eq_getElem hi, Option.map_some, Option.bind_some, Sem.run_bind, MapKept.run_setObj_map _ hg, Result.andThen, Sem.run_pure, e3]
end
end Go.Vc
