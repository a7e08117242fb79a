/-
  slices.Sort at strings, by parts. Nothing of any program stands here.
-/
import Derived.Test.YtgnceldnfefnmaaGreatSortHp
import Derived.Shelf.Sort.Plain
import Derived.Shelf.Slices.In.SortNone
import Derived.Sort.KeysCollected
namespace Go.Vc
open Go Go.Vc.Asn Go.Sort
theorem Hp.sortStr {P : Program} {ρ : Go.Shelf.Ren} {e : Nat} {w0 w : World} {F : Asn} {s : Slc} {l : List (List UInt8)} (L : Go.Proofs.Lays.n190 P ρ) (hsz : l.length < 4611686018427387904) (H : Hp w0 w (star (Asn.own e 1 s (l.map Go.Proofs.encStr)) F)) :
    Calls P (ρ.f 190) #[s.v] w (Rt fun v w' => v = .tuple #[] ∧ Hp w0 w' (star (Asn.own e 1 s ((l.mergeSort fun x y => decide (x ≤ y)).map Go.Proofs.encStr)) F)) := by
  have hO0 := H.isOwn (s := s)
  have hlen : s.l = l.length := by
    have h := hO0.1
    simp at h
    omega
  by_cases h0 : l = []
  · subst h0
    obtain ⟨a, n, c⟩ := s
    simp only [List.length_nil] at hlen
    subst hlen
    refine (Go.Proofs.Any.slices_Sort_string_none L a c w).mono ?_
    rintro _ _ ⟨rfl, rfl⟩
    exact ⟨rfl, by simpa using H⟩
  · obtain ⟨b, cur, ha, hB, h3, h4, h5, h6⟩ := hO0.some_ (by simpa using h0)
    obtain ⟨a, n, c⟩ := s
    simp only at ha hlen
    subst ha hlen
    have eF : ∀ d : List (List UInt8), d.map Go.Proofs.encStr = (d.toArray.map Go.Proofs.encStr).toList := fun d => by simp
    rw [eF] at H hO0
    have hH : Holds Go.Proofs.encStr w b 0 l.toArray := holds_enc Go.Proofs.encStr w b 0 l.toArray hO0.holds
    have hcon := Go.Proofs.Any.slices_Sort_string L b 0 c l w hH (hO0.lt b (by simp [Slc.blks])) hsz
    refine hcon.mono ?_
    rintro _ _ ⟨rfl, m, os, rfl⟩
    refine ⟨rfl, ?_⟩
    rw [eF, putRow_enc]
    exact H.sorted (by simp [List.length_mergeSort]) m os
end Go.Vc
namespace Go.Tab
open Go Go.Vc
def sortK (l : List ByteArray) : List ByteArray := ((l.map (·.data.toList)).mergeSort fun x y => decide (x ≤ y)).map fun b => ⟨b.toArray⟩
theorem eta (k : ByteArray) : (⟨k.data.toList.toArray⟩ : ByteArray) = k := by cases k; simp
theorem map_eta (l : List ByteArray) : (l.map (·.data.toList)).map (fun b => (⟨b.toArray⟩ : ByteArray)) = l := by
  rw [List.map_map]
  conv => rhs; rw [← List.map_id l]
  exact List.map_congr_left fun k _ => eta k
theorem sortK_perm (l : List ByteArray) : (sortK l).Perm l := by
  have h := (List.mergeSort_perm (l.map (·.data.toList)) (fun x y => decide (x ≤ y))).map fun b => (⟨b.toArray⟩ : ByteArray)
  rw [map_eta] at h
  exact h
theorem sortK_ext {l l' : List ByteArray} (h : l.Perm l') : sortK l = sortK l' := by
  unfold sortK
  have e := Go.mergeSort_of_perm (h.map (·.data.toList))
  exact congrArg (List.map fun b => (⟨b.toArray⟩ : ByteArray)) e
theorem encStr_eta (l : List ByteArray) : (l.map (·.data.toList)).map Go.Proofs.encStr = l.map Value.string := by
  rw [List.map_map]
  refine List.map_congr_left fun k _ => ?_
  show Value.string ⟨k.data.toList.toArray⟩ = _
  rw [eta]
theorem encStr_sort (l : List ByteArray) : ((l.map (·.data.toList)).mergeSort fun x y => decide (x ≤ y)).map Go.Proofs.encStr = (sortK l).map Value.string := by
  unfold sortK
  rw [List.map_map]
  rfl
end Go.Tab
