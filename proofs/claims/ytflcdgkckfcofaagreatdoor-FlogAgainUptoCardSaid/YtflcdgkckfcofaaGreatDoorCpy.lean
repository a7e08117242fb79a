/-
  copy, and reading and writing rows within lists of rows. Nothing of any program stands here.
-/
import Derived.Test.YtflcdgkckfcofaaGreatDoorMkHp
import Derived.Laws.CopyRow
import Derived.Laws.IdiomCopy
namespace Go.Vc
open Go Go.Vc.Asn
section
variable {w0 w : World} {A F : Asn} {P : Program} {t ty e bytes : Nat} {z : Value} {s d y : Slc} {cs ys : List Value} {o : Nat}
end
/-! ## Reading -/
section
variable {w : World} {s : Slc} {α : Type} {g : α → Value} {xs : List α} {i : Nat}
theorem Cel.at' (h : Cel w s 1 (xs.map g)) (hi : i < xs.length) {a : Addr} (ha : s.a = some a) : w.cell? (a.add (Int.toNat (i : Int) * 1)) = some (g xs[i]) := by
  obtain ⟨p, hp, hc⟩ := h.at_ i (g xs[i]) (by rw [List.getElem?_map, List.getElem?_eq_getElem hi]; rfl)
  rw [ha] at hp
  injection hp with hp
  subst hp
  rw [Int.toNat_natCast, Nat.mul_one]
  exact hc
theorem Cel.lenM (h : Cel w s 1 (xs.map g)) : s.l = xs.length := by have := h.len; simp at this; omega
theorem Cel.rd (h : Cel w s 1 (xs.map g)) (hi : i < xs.length) {Q : Addr → Prop} (k : ∀ a, s.a = some a → w.cell? (a.add (Int.toNat (i : Int) * 1)) = some (g xs[i]) → Q a) : ∃ a : Addr, s.a = some a ∧ (0 : Int) ≤ (i : Int) ∧ ((i : Nat) : Int) < s.l ∧ Q a := by
  obtain ⟨p, hp, hc⟩ := h.at_ i (g xs[i]) (by rw [List.getElem?_map, List.getElem?_eq_getElem hi]; rfl)
  refine ⟨p, hp, by omega, by rw [h.lenM]; omega, k p hp (h.at' hi hp)⟩
end
section
variable {w : World} {s : Slc}
theorem Byt.rd {bs : List UInt8} {i : Nat} (h : Byt w s bs) (hi : i < bs.length) {Q : Addr → Int → Prop} (k : ∀ a, s.a = some a → Q a ((bs[i].toNat : Nat) : Int)) : ∃ a : Addr, s.a = some a ∧ (0 : Int) ≤ (i : Int) ∧ ((i : Nat) : Int) < s.l ∧ ∃ l : Int, w.cell? (a.add (Int.toNat (i : Int) * 1)) = some (.int .u8 l) ∧ Q a l :=
  Cel.rd h hi fun a ha hc => ⟨_, hc, k a ha⟩
theorem Hp.wr {w0 : World} {A F : Asn} {e : Nat} {cs : List Value} {i : Nat} [h : TakeS s A e 1 cs F] (H : Hp w0 w A) (hi : i < cs.length) {v : Value} {K : World → Prop} (k : ∀ w', Hp w0 w' (star (Asn.own e 1 s (cs.set i v)) F) → K w') :
    ∃ a : Addr, s.a = some a ∧ (0 : Int) ≤ (i : Int) ∧ ((i : Nat) : Int) < s.l ∧ Sto w (a.add (Int.toNat (i : Int) * 1)) v K := by
  have hc := H.cel (s := s)
  obtain ⟨p, hp, _⟩ := hc.get hi
  have := hc.len
  refine ⟨p, hp, by omega, by omega, ?_⟩
  rw [Int.toNat_natCast, Nat.mul_one]
  exact H.stoS (s := s) hi hp k
end
namespace Asn
theorem all_at {α : Type} (f : α → Asn) : ∀ (l : List α) (k : Nat) (h : k < l.length), Ent (all f l) (star (f l[k]) (all f (l.take k ++ l.drop (k + 1))))
  | [], k, h => by simp at h
  | x :: l, 0, _ => Ent.refl _
  | x :: l, k + 1, h => (Ent.star (Ent.refl _) (all_at f l k (by simpa using h))).trans left
theorem all_put {α : Type} (f : α → Asn) (y : α) : ∀ (l : List α) (k : Nat), k < l.length → Ent (star (f y) (all f (l.take k ++ l.drop (k + 1)))) (all f (l.set k y))
  | [], k, h => by simp at h
  | x :: l, 0, _ => Ent.refl _
  | x :: l, k + 1, h => left.trans (Ent.star (Ent.refl _) (all_put f y l k (by simpa using h)))
theorem all_perm {α : Type} {f : α → Asn} {l l' : List α} (h : l.Perm l') : Ent (all f l) (all f l') := by
  induction h with
  | nil => exact Ent.refl _
  | cons x _ ih => exact Ent.star (Ent.refl _) ih
  | swap x y l => exact left
  | trans _ _ ih1 ih2 => exact ih1.trans ih2
theorem all_snoc {α : Type} (f : α → Asn) (x : α) (l : List α) : Ent (star (f x) (all f l)) (all f (l ++ [x])) := all_perm (List.perm_append_singleton x l).symm
end Asn
end Go.Vc
