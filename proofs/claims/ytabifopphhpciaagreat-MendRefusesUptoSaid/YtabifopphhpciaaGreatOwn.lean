/-
  Slices that a function owns: stores, appends, parts; stores of whole blocks. Nothing of any program stands here.
-/
import Derived.Test.YtabifopphhpciaaGreatMem
namespace Go.Vc
open Go
section
variable {P : Program} {e size : Nat} {w w' : World} {s s' : Slc} {cs ds : List Value}
/-- What it means to own a row that isn't nil. -/
theorem Own.some_ (h : Own e size w s cs) (hz : cs ≠ []) : ∃ g cur, s.a = some (blk g) ∧ Blk w g e cur ∧ s.l ≤ s.c ∧ s.c ≤ maxLen ∧ cur.size = s.c * size ∧ cur.toList.take (s.l * size) = cs := by
  rcases h.2 with ⟨_, h2⟩ | ⟨g, cap, cur, h1, _, h3, h4, h5, h6, h7⟩
  · exact absurd (List.eq_nil_of_length_eq_zero (by rw [h.1, h2]; simp)) hz
  · injection h1 with h8 h9 h10
    subst h10
    exact ⟨g, cur, h8, h3, h4, h5, h6, h7⟩
/-- A store into a row of one's own. -/
theorem Own.sto (h : Own e size w s cs) {i : Nat} (hi : i < cs.length) {p : Addr} (hp : s.a = some p) {v : Value} {K : World → Prop} (k : ∀ w', Own e size w' s (cs.set i v) → Fr s.blks w w' → K w') : Sto w (p.add i) v K := by
  obtain ⟨g, cur, h1, h2, h3, h4, h5, h6⟩ := h.some_ (by intro h0; rw [h0] at hi; simp at hi)
  rw [h1] at hp
  injection hp with hp
  subst hp
  have hc : i < cur.size := by
    have := congrArg List.length h6
    simp at this
    omega
  refine h2.sto hc fun w' hB hF => k w' ⟨by rw [List.length_set]; exact h.1, .inr ⟨g, s.c, _, by simp only [Slc.v, h1], Nat.zero_le _, hB, h3, h4, by simpa using h5, ?_⟩⟩ ?_
  · rw [Array.toList_setIfInBounds, ← h6, List.take_set]
  · unfold Slc.blks
    rw [h1]
    exact hF
/-- Rows of two kinds are apart. -/
theorem Own.apart {e' size' : Nat} (h : Own e size w s cs) (h' : Own e' size' w s' ds) (hne : e ≠ e') : ∀ k ∈ s.blks, k ∉ s'.blks := by
  intro k hk hk'
  rcases h.2 with ⟨h1, _⟩ | ⟨g, cap, cur, h1, _, h3, _⟩
  · injection h1 with h8
    unfold Slc.blks at hk; rw [h8] at hk; simp at hk
  · injection h1 with h8
    unfold Slc.blks at hk; rw [h8] at hk; simp at hk
    subst hk
    exact h'.ne (t := e) h3 (Ne.symm hne) hk'
/-- A part ahead of a row of one's own. -/
theorem Own.ahead {n : Nat} (h : Own e size w s cs) (ha : s'.a = s.a) (hc : s'.c = s.c) (hl : s'.l = n) (hn : n ≤ s.l) : Own e size w s' (cs.take (n * size)) := by
  subst hl
  obtain ⟨a, l, c⟩ := s
  obtain ⟨a', l', c'⟩ := s'
  simp only at ha hc hn
  subst ha hc
  have hlen := h.1
  simp only at hlen
  have hm : l' * size ≤ l * size := Nat.mul_le_mul_right _ hn
  refine ⟨by simp; omega, ?_⟩
  rcases h.2 with ⟨h1, h2⟩ | ⟨g, cap, cur, h1, h2, h3, h4, h5, h6, h7⟩
  · injection h1 with h8 h9 h10
    simp only at h2 h8 h10
    have : l' = 0 := by omega
    subst this h8 h10
    exact .inl ⟨rfl, rfl⟩
  · injection h1 with h8 h9 h10
    subst h10
    simp only at h8
    subst h8
    refine .inr ⟨g, _, cur, rfl, h2, h3, by simp only at h4; simp only; omega, h5, h6, ?_⟩
    simp only at h7 ⊢
    rw [← h7, List.take_take, Nat.min_eq_left hm]
/-- append onto a slice of one's own: in place, or into a new row. -/
theorem App.own2 {t ty bytes : Nat} {z : Value} (T : SlT P t e size bytes z) {y : Slc} {xs ys : List Value} {K : Slc → World → Prop} (ho : Own e size w s xs) (hy : Cel w y size ys) (hy0 : 0 < y.l)
    (h1 : ∀ u ∈ ys, u.oneCell' = true) (hm : s.l + y.l ≤ maxLen) (hb : (s.l + y.l) * bytes ≤ 140737488355328)
    (k : ∀ s' w', Own e size w' s' (xs ++ ys) → s'.l = s.l + y.l → ((Fr s.blks w w' ∧ s'.a = s.a ∧ s'.c = s.c) ∨ (Fr [] w w' ∧ s'.blks = [w.heap.size])) → K s' w') : App P t t ty w s.v y.v K := by
  obtain ⟨ad, ha⟩ : ∃ ad, y.a = some ad := by
    have : 0 < ys.length := by rw [hy.len]; exact Nat.mul_pos hy0 T.pos
    obtain ⟨p, hp, _⟩ := hy.get this
    exact ⟨p, hp⟩
  have hc : ∀ j u, ys[j]? = some u → w.cell? (ad.add j) = some u := by
    intro j u hu
    obtain ⟨p, hp, hc⟩ := hy.at_ j u hu
    rw [ha] at hp
    injection hp with hp
    subst hp
    exact hc
  cases hi : P.info? e with
  | none => have := T.info; rw [hi] at this; simp at this
  | some i =>
    have hinfo := T.info
    rw [hi] at hinfo
    simp only [Option.map_some, Option.some.injEq, Prod.mk.injEq] at hinfo
    obtain ⟨hz, hs, hby⟩ := hinfo
    subst hs
    subst hby
    have hsmall : s.l + y.l ≤ 9223372036854775807 := by simp only [maxLen] at hm; omega
    have hlen : (xs ++ ys).length = (s.l + y.l) * i.size := by rw [List.length_append, ho.1, hy.len, Nat.add_mul]
    have grown : ∀ old : Nat, Own e i.size (w.drew.alloc (.cells (xs.toArray ++ ys.toArray ++ Builtin.zeroCells z.cells (grownCap w (s.l + y.l) old e - (s.l + y.l))) e)) ⟨some (blk w.heap.size), s.l + y.l, grownCap w (s.l + y.l) old e⟩ (xs ++ ys) ∧
        Fr [] w (w.drew.alloc (.cells (xs.toArray ++ ys.toArray ++ Builtin.zeroCells z.cells (grownCap w (s.l + y.l) old e - (s.l + y.l))) e)) := by
      intro old
      have hge := grownCap_ge w (s.l + y.l) old e
      have hcm : grownCap w (s.l + y.l) old e ≤ maxLen := grownCap_le_maxLen w (s.l + y.l) old e hm
      refine ⟨⟨hlen, .inr ⟨w.heap.size, _, _, rfl, Nat.zero_le _, heap_alloc_new w.drew _, hge, hcm, ?_, ?_⟩⟩, ⟨rfl, rfl, rfl, by simp, fun k hk _ => RowKit.Below.heap_alloc w.drew _ k hk⟩⟩
      · simp only [Array.size_append, List.size_toArray, size_zeroCells, T.zs, ho.1, hy.len, ← Nat.add_mul]
        congr 1
        omega
      · simp only [Array.toList_append, List.append_assoc]
        rw [← List.append_assoc, ← hlen]
        exact List.take_left
    have hyv : y.v = .slice (some ad) y.l y.c := by simp only [Slc.v, ha]
    rcases ho.2 with ⟨hv, hn⟩ | ⟨g, cap, cur, hv, hbg, hg, hnc, hcm, hcs, htake⟩
    · have hx : xs = [] := List.eq_nil_of_length_eq_zero (by rw [ho.1, hn]; simp)
      subst hx
      have hr := run_append_nil (P := P) w t ty e i z T.ut hi hz ad y.l y.c ys hy.len hc hy0 (by omega) (by rw [hn] at hb; simp at hb; omega)
      obtain ⟨g1, g2⟩ := grown 0
      refine ⟨_, _, ?_, k _ _ g1 rfl (.inr ⟨g2, rfl⟩)⟩
      rw [hv, hyv, hr, hn]
      simp [Slc.v, blk]
    · have hcap : cap = s.c := by injection hv with _ _ h10; exact h10.symm
      have hsa : s.a = some (blk g) := by injection hv
      by_cases hroom : s.l + y.l ≤ cap
      · have hfit : s.l * i.size + ys.length ≤ cur.size := by rw [hy.len, hcs, ← Nat.add_mul]; exact Nat.mul_le_mul_right _ hroom
        have hr := run_append_room (P := P) w t ty e i T.ut hi g s.l cap cur hg ad y.l y.c ys hy.len hc h1 hroom hfit
        refine ⟨⟨some (blk g), s.l + y.l, cap⟩, _, by rw [hv, hyv, hr], k _ _ ⟨hlen, .inr ⟨g, cap, _, rfl, Nat.zero_le _, setRow_heap w g cur _ e _ hg, hroom, hcm, ?_, ?_⟩⟩ rfl (.inl ⟨⟨rfl, rfl, rfl, by simp, fun k _ hk => setRow_other w g k _ (fun e => hk (by unfold Slc.blks; rw [hsa, e]; simp))⟩, hsa.symm, hcap⟩)⟩
        · simp only [List.size_toArray, List.length_append, List.length_take, List.length_drop, Array.length_toList]
          omega
        · rw [htake, ← hlen]
          exact List.take_left
      · have holds : ∀ j u, xs[j]? = some u → w.cell? ((⟨g, 0, none⟩ : Addr).add j) = some u := World.ownsRow.cells (g := g) (show w.ownsRow 0 e i.size s.v s.l xs from ho) (by rw [hv]; rfl)
        have hr := run_append_grow (P := P) w t ty e i z T.ut hi hz ⟨g, 0, none⟩ s.l cap xs ho.1 holds ad y.l y.c ys hy.len hc (by omega) (by omega) (growslice_fits (by omega) hb)
        obtain ⟨g1, g2⟩ := grown cap
        refine ⟨_, _, ?_, k _ _ g1 rfl (.inr ⟨g2, rfl⟩)⟩
        rw [hv, hyv, hr]
theorem App.fresh_not {s : Slc} {n : Nat} {x : Nat} (h : s.blks = [n]) (hx : x < n) : x ∉ s.blks := by rw [h]; simp; omega
theorem blks_a {s s' : Slc} (h : s'.a = s.a) : s'.blks = s.blks := by unfold Slc.blks; rw [h]
end
end Go.Vc
namespace Go.Vc
open Go
/-- A store of a whole block. -/
theorem Blk.stoN {g : Nat} {t : TypeId} {K : World → Prop} : ∀ (l : List Value) (i : Nat) (cs : Array Value) (w : World), Blk w g t cs → i + l.length = cs.size → (∀ w', Blk w' g t (cs.toList.take i ++ l).toArray → Fr [g] w w' → K w') → StoN (Vc.blk g) i l w K
  | [], i, cs, w, h, hi, k => by
    refine k w ?_ (Fr.refl _ _)
    rw [List.append_nil, List.take_of_length_le (by simp at hi; simp; omega)]
    exact h
  | v :: r, i, cs, w, h, hi, k => by
    simp at hi
    refine ⟨by rw [h.cell (v := cs[i]) (Array.getElem?_eq_getElem (by omega))]; rfl, h.frz i, ?_⟩
    refine Blk.stoN r (i + 1) _ _ (h.set i v) (by simp; omega) fun w' hB hF => k w' ?_ ?_
    · have e : (cs.setIfInBounds i v).toList.take (i + 1) ++ r = cs.toList.take i ++ v :: r := by
        rw [Array.toList_setIfInBounds, List.take_succ_eq_append_getElem (by simp; omega), List.take_set_of_le (Nat.le_refl _)]
        simp
      rw [e] at hB
      exact hB
    · have := Fr.set w ((Vc.blk g).add i) v
      rw [show ((Vc.blk g).add i).block = g by rw [blk_add]] at this
      exact this.local_ hF fun _ hx => .inl hx
theorem Blk.stoAll {g : Nat} {t : TypeId} {cs : Array Value} {w : World} {l : List Value} {K : World → Prop} (h : Blk w g t cs) (hl : l.length = cs.size) (k : ∀ w', Blk w' g t l.toArray → Fr [g] w w' → K w') : StoN (Vc.blk g) 0 l w K :=
  Blk.stoN l 0 cs w h (by omega) fun w' hB hF => k w' (by simpa using hB) hF
/-- A new block that is stored into. -/
theorem NewBlk.frS {w w1 w2 : World} {cs : Array Value} {e : TypeId} {b : Nat} (h : NewBlk w cs e b w1) (f : Fr [b] w1 w2) : Fr [] w w2 :=
  h.fr.local_ f fun x hx => .inr (by simp at hx; rw [hx, h.at_]; exact Nat.le_refl _)
end Go.Vc
namespace Go.Vc
open Go
section
variable {w w' : World} {g : Nat} {t : TypeId} {cs : Array Value} {S : List Nat}
theorem Blk.sto3 (h : Blk w g t cs) {i j k : Nat} (hi : i + j + k < cs.size) {v : Value} {K : World → Prop} (hk : ∀ w', Blk w' g t (cs.setIfInBounds (i + j + k) v) → Fr [g] w w' → K w') : Sto w ((((Vc.blk g).add i).add j).add k) v K := by
  rw [add_add, add_add, ← Nat.add_assoc]
  exact h.sto hi hk
end
end Go.Vc
