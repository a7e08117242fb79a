/-
  Slices that a function owns: stores, appends, parts; stores of whole blocks. Nothing of any program stands here.
-/
import Derived.Test.YtflcdgkckfcofaaGreatDoorMem
namespace Go.Vc
open Go
section
variable {P : Program} {e size : Nat} {w w' : World} {s s' : Slc} {cs ds : List Value}
theorem Own.some_ (h : Own e size w s cs) (hz : cs ≠ []) : ∃ g cur, s.a = some (blk g) ∧ Blk w g e cur ∧ s.l ≤ s.c ∧ s.c ≤ maxLen ∧ cur.size = s.c * size ∧ cur.toList.take (s.l * size) = cs := by
  rcases h.2 with ⟨_, h2⟩ | ⟨g, cap, cur, h1, _, h3, h4, h5, h6, h7⟩
  · exact absurd (List.eq_nil_of_length_eq_zero (by rw [h.1, h2]; simp)) hz
  · injection h1 with h8 h9 h10
    subst h10
    exact ⟨g, cur, h8, h3, h4, h5, h6, h7⟩
theorem Own.sto (h : Own e size w s cs) {i : Nat} (hi : i < cs.length) {p : Addr} (hp : s.a = some p) {v : Value} {K : World → Prop} (k : ∀ w', Own e size w' s (cs.set i v) → Fr s.blks w w' → K w') : Sto w (p.add i) v K := by
  obtain ⟨g, cur, h1, h2, h3, h4, h5, h6⟩ := h.some_ (by intro h0; rw [h0] at hi; simp at hi)
  rw [h1] at hp
  injection hp with hp
  subst hp
  have hc : i < cur.size := by
    have := congrArg List.length h6
    simp at this
    omega
  refine h2.sto hc fun w' hB hF => k w' ⟨by rw [List.length_set]; exact h.1, .inr ⟨g, s.c, _, by simp only [Slc.v, h1], Nat.zero_le _, hB, h3, h4, by simpa using h5, ?_⟩⟩ ?_
  · rw [Array.toList_setIfInBounds, ← h6, List.take_set]
  · unfold Slc.blks
    rw [h1]
    exact hF
theorem Own.apart {e' size' : Nat} (h : Own e size w s cs) (h' : Own e' size' w s' ds) (hne : e ≠ e') : ∀ k ∈ s.blks, k ∉ s'.blks := by
  intro k hk hk'
  rcases h.2 with ⟨h1, _⟩ | ⟨g, cap, cur, h1, _, h3, _⟩
  · injection h1 with h8
    unfold Slc.blks at hk; rw [h8] at hk; simp at hk
  · injection h1 with h8
    unfold Slc.blks at hk; rw [h8] at hk; simp at hk
    subst hk
    exact h'.ne (t := e) h3 (Ne.symm hne) hk'
end
end Go.Vc
namespace Go.Vc
open Go
theorem Blk.stoN {g : Nat} {t : TypeId} {K : World → Prop} : ∀ (l : List Value) (i : Nat) (cs : Array Value) (w : World), Blk w g t cs → i + l.length = cs.size → (∀ w', Blk w' g t (cs.toList.take i ++ l).toArray → Fr [g] w w' → K w') → StoN (Vc.blk g) i l w K
  | [], i, cs, w, h, hi, k => by
    refine k w ?_ (Fr.refl _ _)
    rw [List.append_nil, List.take_of_length_le (by simp at hi; simp; omega)]
    exact h
  | v :: r, i, cs, w, h, hi, k => by
    simp at hi
    refine ⟨by rw [h.cell (v := cs[i]) (Array.getElem?_eq_getElem (by omega))]; rfl, h.frz i, ?_⟩
    refine Blk.stoN r (i + 1) _ _ (h.set i v) (by simp; omega) fun w' hB hF => k w' ?_ ?_
    · have e : (cs.setIfInBounds i v).toList.take (i + 1) ++ r = cs.toList.take i ++ v :: r := by
        rw [Array.toList_setIfInBounds, List.take_succ_eq_append_getElem (by simp; omega), List.take_set_of_le (Nat.le_refl _)]
        simp
      rw [e] at hB
      exact hB
    · have := Fr.set w ((Vc.blk g).add i) v
      rw [show ((Vc.blk g).add i).block = g by rw [blk_add]] at this
      exact this.local_ hF fun _ hx => .inl hx
theorem Blk.stoAll {g : Nat} {t : TypeId} {cs : Array Value} {w : World} {l : List Value} {K : World → Prop} (h : Blk w g t cs) (hl : l.length = cs.size) (k : ∀ w', Blk w' g t l.toArray → Fr [g] w w' → K w') : StoN (Vc.blk g) 0 l w K :=
  Blk.stoN l 0 cs w h (by omega) fun w' hB hF => k w' (by simpa using hB) hF
theorem NewBlk.frS {w w1 w2 : World} {cs : Array Value} {e : TypeId} {b : Nat} (h : NewBlk w cs e b w1) (f : Fr [b] w1 w2) : Fr [] w w2 :=
  h.fr.local_ f fun x hx => .inr (by simp at hx; rw [hx, h.at_]; exact Nat.le_refl _)
end Go.Vc
namespace Go.Vc
open Go
section
variable {w w' : World} {g : Nat} {t : TypeId} {cs : Array Value} {S : List Nat}
theorem Blk.sto3 (h : Blk w g t cs) {i j k : Nat} (hi : i + j + k < cs.size) {v : Value} {K : World → Prop} (hk : ∀ w', Blk w' g t (cs.setIfInBounds (i + j + k) v) → Fr [g] w w' → K w') : Sto w ((((Vc.blk g).add i).add j).add k) v K := by
  rw [add_add, add_add, ← Nat.add_assoc]
  exact h.sto hi hk
end
end Go.Vc
