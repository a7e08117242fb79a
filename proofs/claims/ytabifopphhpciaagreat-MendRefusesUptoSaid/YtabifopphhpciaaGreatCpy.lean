/-
  copy, and reading and writing rows within lists of rows. Nothing of any program stands here.
-/
import Derived.Test.YtabifopphhpciaaGreatMkHp
import Derived.Laws.CopyRow
import Derived.Laws.IdiomCopy
namespace Go.Vc
open Go Go.Vc.Asn
theorem Own.cpy {P : Program} {t ty e bytes : Nat} {z : Value} (T : SlT P t e 1 bytes z) {w : World} {s d y : Slc} {cs ys : List Value} {o : Nat} (h : Own e 1 w s cs) (hy : Cel w y 1 ys) (h1 : ∀ u ∈ ys, u.oneCell' = true)
    (hd : 0 < d.l → ∀ p, s.a = some p → d.a = some (p.add o)) (hl : o + d.l ≤ cs.length) {K : Int → World → Prop}
    (k : ∀ w', Own e 1 w' s (cs.take o ++ ys.take (min y.l d.l) ++ cs.drop (o + min y.l d.l)) → Fr s.blks w w' → K ((min y.l d.l : Nat) : Int) w') : Cpy P t t ty w d.v y.v K := by
  have hyl := hy.len
  have hi : (P.info? e).map (·.size) = some 1 := by
    have := T.info
    cases hq : P.info? e with
    | none => rw [hq] at this; simp at this
    | some i => rw [hq] at this; simp at this; simp [this.2.1]
  by_cases hn : min y.l d.l = 0
  · have hr := run_copy_none (P := P) w t t ty e d.a y.a d.l d.c y.l y.c T.ut hi hn
    refine ⟨0, w, hr, ?_⟩
    have := k w (by rw [hn]; simpa using h) (Fr.refl _ _)
    rw [hn] at this
    exact this
  · obtain ⟨g, cur, e1, hB, e3, e4, e5, e6⟩ := h.some_ (by intro h0; rw [h0] at hl; simp at hl; omega)
    obtain ⟨a, ha, _⟩ := hy.at_ 0 (ys[0]'(by omega)) (List.getElem?_eq_getElem _)
    have hda := hd (by omega) _ e1
    rw [blk_add] at hda
    obtain ⟨da, dl, dc⟩ := d
    obtain ⟨ya, yl, yc⟩ := y
    simp only at hda ha hl hn hyl k
    subst hda ha
    have hcl : s.l ≤ cur.size := by omega
    have hcs : cs.length = s.l := by have := h.1; omega
    have hr := run_copy_row P w t t ty e g o dl dc a yl yc cur e (ys.take (min yl dl)) T.ut hi hB (by rw [List.length_take]; show _ = min yl dl; omega) (fun j v hv => by
      rw [List.getElem?_take] at hv
      split at hv
      · obtain ⟨q, hq, hc⟩ := hy.at_ j v hv
        injection hq with hq
        subst hq
        exact hc
      · cases hv) (by rw [List.length_take]; omega) (fun v hv => h1 v (List.mem_of_mem_take hv))
    have hlen : (ys.take (min yl dl)).length = min yl dl := by rw [List.length_take]; omega
    rw [hlen] at hr
    refine ⟨((min yl dl : Nat) : Int), _, hr, k _ ⟨?_, .inr ⟨g, s.c, _, by simp only [Slc.v, e1], Nat.zero_le _, setRow_heap w g cur _ e _ hB, e3, e4, ?_, ?_⟩⟩ ?_⟩
    · simp only [List.length_append, List.length_take, List.length_drop]; omega
    · simp only [List.size_toArray, List.length_append, List.length_take, List.length_drop, Array.length_toList]; omega
    · rw [← e6]
      simp only [Nat.mul_one]
      rw [List.take_append, List.take_append]
      simp only [List.length_append, List.length_take, Array.length_toList, List.take_take, List.drop_take]
      congr 1
      · congr 1
        · rw [show min o s.l = o by omega, show min s.l o = o by omega]
        · congr 1; omega
      · congr 1
        omega
    · unfold Slc.blks
      rw [e1]
      refine ⟨rfl, rfl, rfl, by simp [World.setRow], fun k hk hks => ?_⟩
      rw [setRow_other]
      intro e7
      subst e7
      simp at hks
section
variable {w0 w : World} {A F : Asn} {P : Program} {t ty e bytes : Nat} {z : Value} {s d y : Slc} {cs ys : List Value} {o : Nat}
/-- copy into a row of one's own, from place o on. -/
theorem Hp.cpy (T : SlT P t e 1 bytes z) [h : TakeS s A e 1 cs F] (H : Hp w0 w A) (hy : Cel w y 1 ys) (h1 : ∀ u ∈ ys, u.oneCell' = true) (hd : 0 < d.l → ∀ p, s.a = some p → d.a = some (p.add o)) (hl : o + d.l ≤ cs.length) {K : Int → World → Prop}
    (k : ∀ w', Hp w0 w' (star (Asn.own e 1 s (cs.take o ++ ys.take (min y.l d.l) ++ cs.drop (o + min y.l d.l))) F) → K ((min y.l d.l : Nat) : Int) w') : Cpy P t t ty w d.v y.v K :=
  H.isOwn.cpy T hy h1 hd hl fun w' hO f => k w' ((H.own s).step fun S _hS hp => ⟨s.blks, S, fun k hk => (hp.1 k).2 hk, f, ⟨hp.1, hO⟩, fun _k hk => .inl hk⟩)
end
/-! ## Reading -/
section
variable {w : World} {s : Slc} {α : Type} {g : α → Value} {xs : List α} {i : Nat}
theorem Cel.at' (h : Cel w s 1 (xs.map g)) (hi : i < xs.length) {a : Addr} (ha : s.a = some a) : w.cell? (a.add (Int.toNat (i : Int) * 1)) = some (g xs[i]) := by
  obtain ⟨p, hp, hc⟩ := h.at_ i (g xs[i]) (by rw [List.getElem?_map, List.getElem?_eq_getElem hi]; rfl)
  rw [ha] at hp
  injection hp with hp
  subst hp
  rw [Int.toNat_natCast, Nat.mul_one]
  exact hc
theorem Cel.lenM (h : Cel w s 1 (xs.map g)) : s.l = xs.length := by have := h.len; simp at this; omega
theorem Cel.rd (h : Cel w s 1 (xs.map g)) (hi : i < xs.length) {Q : Addr → Prop} (k : ∀ a, s.a = some a → w.cell? (a.add (Int.toNat (i : Int) * 1)) = some (g xs[i]) → Q a) : ∃ a : Addr, s.a = some a ∧ (0 : Int) ≤ (i : Int) ∧ ((i : Nat) : Int) < s.l ∧ Q a := by
  obtain ⟨p, hp, hc⟩ := h.at_ i (g xs[i]) (by rw [List.getElem?_map, List.getElem?_eq_getElem hi]; rfl)
  refine ⟨p, hp, by omega, by rw [h.lenM]; omega, k p hp (h.at' hi hp)⟩
end
section
variable {w : World} {s : Slc}
/-- An element that is a slice; a byte. -/
theorem Cel.rdS {rs : List (Slc × List UInt8)} {i : Nat} (h : Cel w s 1 (rs.map fun r => r.1.v)) (hi : i < rs.length) {Q : Addr → Slc → Prop} (k : ∀ a, s.a = some a → Q a rs[i].1) : ∃ a : Addr, s.a = some a ∧ (0 : Int) ≤ (i : Int) ∧ ((i : Nat) : Int) < s.l ∧ ∃ l : Slc, w.cell? (a.add (Int.toNat (i : Int) * 1)) = some l.v ∧ Q a l :=
  h.rd hi fun a ha hc => ⟨rs[i].1, hc, k a ha⟩
theorem Byt.rd {bs : List UInt8} {i : Nat} (h : Byt w s bs) (hi : i < bs.length) {Q : Addr → Int → Prop} (k : ∀ a, s.a = some a → Q a ((bs[i].toNat : Nat) : Int)) : ∃ a : Addr, s.a = some a ∧ (0 : Int) ≤ (i : Int) ∧ ((i : Nat) : Int) < s.l ∧ ∃ l : Int, w.cell? (a.add (Int.toNat (i : Int) * 1)) = some (.int .u8 l) ∧ Q a l :=
  Cel.rd h hi fun a ha hc => ⟨_, hc, k a ha⟩
/-- A place in a row of one's own, to be written. -/
theorem Hp.wr {w0 : World} {A F : Asn} {e : Nat} {cs : List Value} {i : Nat} [h : TakeS s A e 1 cs F] (H : Hp w0 w A) (hi : i < cs.length) {v : Value} {K : World → Prop} (k : ∀ w', Hp w0 w' (star (Asn.own e 1 s (cs.set i v)) F) → K w') :
    ∃ a : Addr, s.a = some a ∧ (0 : Int) ≤ (i : Int) ∧ ((i : Nat) : Int) < s.l ∧ Sto w (a.add (Int.toNat (i : Int) * 1)) v K := by
  have hc := H.cel (s := s)
  obtain ⟨p, hp, _⟩ := hc.get hi
  have := hc.len
  refine ⟨p, hp, by omega, by omega, ?_⟩
  rw [Int.toNat_natCast, Nat.mul_one]
  exact H.stoS (s := s) hi hp k
end
namespace Asn
theorem all_at {α : Type} (f : α → Asn) : ∀ (l : List α) (k : Nat) (h : k < l.length), Ent (all f l) (star (f l[k]) (all f (l.take k ++ l.drop (k + 1))))
  | [], k, h => by simp at h
  | x :: l, 0, _ => Ent.refl _
  | x :: l, k + 1, h => (Ent.star (Ent.refl _) (all_at f l k (by simpa using h))).trans left
theorem all_put {α : Type} (f : α → Asn) (y : α) : ∀ (l : List α) (k : Nat), k < l.length → Ent (star (f y) (all f (l.take k ++ l.drop (k + 1)))) (all f (l.set k y))
  | [], k, h => by simp at h
  | x :: l, 0, _ => Ent.refl _
  | x :: l, k + 1, h => left.trans (Ent.star (Ent.refl _) (all_put f y l k (by simpa using h)))
theorem all_perm {α : Type} {f : α → Asn} {l l' : List α} (h : l.Perm l') : Ent (all f l) (all f l') := by
  induction h with
  | nil => exact Ent.refl _
  | cons x _ ih => exact Ent.star (Ent.refl _) ih
  | swap x y l => exact left
  | trans _ _ ih1 ih2 => exact ih1.trans ih2
theorem all_snoc {α : Type} (f : α → Asn) (x : α) (l : List α) : Ent (star (f x) (all f l)) (all f (l ++ [x])) := all_perm (List.perm_append_singleton x l).symm
end Asn
end Go.Vc
