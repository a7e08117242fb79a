/-
  Slices that a function owns: stores, appends, parts; stores of whole blocks. Nothing of any program stands here.
-/
import Derived.Test.YtgnceldnfefnmaaGreatMem
namespace Go.Vc
open Go
section
variable {P : Program} {e size : Nat} {w w' : World} {s s' : Slc} {cs ds : List Value}
theorem Own.some_ (h : Own e size w s cs) (hz : cs ≠ []) : ∃ g cur, s.a = some (blk g) ∧ Blk w g e cur ∧ s.l ≤ s.c ∧ s.c ≤ maxLen ∧ cur.size = s.c * size ∧ cur.toList.take (s.l * size) = cs := by
  rcases h.2 with ⟨_, h2⟩ | ⟨g, cap, cur, h1, _, h3, h4, h5, h6, h7⟩
  · exact absurd (List.eq_nil_of_length_eq_zero (by rw [h.1, h2]; simp)) hz
  · injection h1 with h8 h9 h10
    subst h10
    exact ⟨g, cur, h8, h3, h4, h5, h6, h7⟩
theorem Own.sto (h : Own e size w s cs) {i : Nat} (hi : i < cs.length) {p : Addr} (hp : s.a = some p) {v : Value} {K : World → Prop} (k : ∀ w', Own e size w' s (cs.set i v) → Fr s.blks w w' → K w') : Sto w (p.add i) v K := by
  obtain ⟨g, cur, h1, h2, h3, h4, h5, h6⟩ := h.some_ (by intro h0; rw [h0] at hi; simp at hi)
  rw [h1] at hp
  injection hp with hp
  subst hp
  have hc : i < cur.size := by
    have := congrArg List.length h6
    simp at this
    omega
  refine h2.sto hc fun w' hB hF => k w' ⟨by rw [List.length_set]; exact h.1, .inr ⟨g, s.c, _, by simp only [Slc.v, h1], Nat.zero_le _, hB, h3, h4, by simpa using h5, ?_⟩⟩ ?_
  · rw [Array.toList_setIfInBounds, ← h6, List.take_set]
  · unfold Slc.blks
    rw [h1]
    exact hF
theorem Own.apart {e' size' : Nat} (h : Own e size w s cs) (h' : Own e' size' w s' ds) (hne : e ≠ e') : ∀ k ∈ s.blks, k ∉ s'.blks := by
  intro k hk hk'
  rcases h.2 with ⟨h1, _⟩ | ⟨g, cap, cur, h1, _, h3, _⟩
  · injection h1 with h8
    unfold Slc.blks at hk; rw [h8] at hk; simp at hk
  · injection h1 with h8
    unfold Slc.blks at hk; rw [h8] at hk; simp at hk
    subst hk
    exact h'.ne (t := e) h3 (Ne.symm hne) hk'
theorem Own.ahead {n : Nat} (h : Own e size w s cs) (ha : s'.a = s.a) (hc : s'.c = s.c) (hl : s'.l = n) (hn : n ≤ s.l) : Own e size w s' (cs.take (n * size)) := by
  subst hl
  obtain ⟨a, l, c⟩ := s
  obtain ⟨a', l', c'⟩ := s'
  simp only at ha hc hn
  subst ha hc
  have hlen := h.1
  simp only at hlen
  have hm : l' * size ≤ l * size := Nat.mul_le_mul_right _ hn
  refine ⟨by simp; omega, ?_⟩
  rcases h.2 with ⟨h1, h2⟩ | ⟨g, cap, cur, h1, h2, h3, h4, h5, h6, h7⟩
  · injection h1 with h8 h9 h10
    simp only at h2 h8 h10
    have : l' = 0 := by omega
    subst this h8 h10
    exact .inl ⟨rfl, rfl⟩
  · injection h1 with h8 h9 h10
    subst h10
    simp only at h8
    subst h8
    refine .inr ⟨g, _, cur, rfl, h2, h3, by simp only at h4; simp only; omega, h5, h6, ?_⟩
    simp only at h7 ⊢
    rw [← h7, List.take_take, Nat.min_eq_left hm]
end
end Go.Vc
namespace Go.Vc
open Go
theorem Blk.stoN {g : Nat} {t : TypeId} {K : World → Prop} : ∀ (l : List Value) (i : Nat) (cs : Array Value) (w : World), Blk w g t cs → i + l.length = cs.size → (∀ w', Blk w' g t (cs.toList.take i ++ l).toArray → Fr [g] w w' → K w') → StoN (Vc.blk g) i l w K
  | [], i, cs, w, h, hi, k => by
    refine k w ?_ (Fr.refl _ _)
    rw [List.append_nil, List.take_of_length_le (by simp at hi; simp; omega)]
    exact h
  | v :: r, i, cs, w, h, hi, k => by
    simp at hi
    refine ⟨by rw [h.cell (v := cs[i]) (Array.getElem?_eq_getElem (by omega))]; rfl, h.frz i, ?_⟩
    refine Blk.stoN r (i + 1) _ _ (h.set i v) (by simp; omega) fun w' hB hF => k w' ?_ ?_
    · have e : (cs.setIfInBounds i v).toList.take (i + 1) ++ r = cs.toList.take i ++ v :: r := by
        rw [Array.toList_setIfInBounds, List.take_succ_eq_append_getElem (by simp; omega), List.take_set_of_le (Nat.le_refl _)]
        simp
      rw [e] at hB
      exact hB
    · have := Fr.set w ((Vc.blk g).add i) v
      rw [show ((Vc.blk g).add i).block = g by rw [blk_add]] at this
      exact this.local_ hF fun _ hx => .inl hx
theorem Blk.stoAll {g : Nat} {t : TypeId} {cs : Array Value} {w : World} {l : List Value} {K : World → Prop} (h : Blk w g t cs) (hl : l.length = cs.size) (k : ∀ w', Blk w' g t l.toArray → Fr [g] w w' → K w') : StoN (Vc.blk g) 0 l w K :=
  Blk.stoN l 0 cs w h (by omega) fun w' hB hF => k w' (by simpa using hB) hF
end Go.Vc
namespace Go.Vc
open Go
section
variable {w w' : World} {g : Nat} {t : TypeId} {cs : Array Value} {S : List Nat}
end
end Go.Vc
