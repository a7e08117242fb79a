/-
  Parts that a run has made for itself; the contract of mend.refused.
-/
import Derived.Test.YtabifopphhpciaaGreatParts
namespace Go.Vc
open Go Go.Vc.Asn
theorem all_mem {α : Type} {f : α → Asn} : ∀ {l : List α} {w : World} {S : Nat → Prop}, (all f l).p w S → ∀ x ∈ l, ∃ S', (f x).p w S'
  | y :: r, w, S, ⟨S1, S2, _, _, ha, hb⟩, x, hx => by
    rcases List.mem_cons.1 hx with rfl | hx
    · exact ⟨S1, ha⟩
    · exact all_mem hb x hx
theorem enc_set : ∀ (ps : List Pt) (i : Nat) (q : Pt), i < ps.length → ((ps.flatMap Pt.enc).set (i * 2) (.int .i64 q.ix)).set (i * 2 + 1) q.sl.v = (ps.set i q).flatMap Pt.enc
  | [], _, _, h => by simp at h
  | p :: r, 0, q, _ => rfl
  | p :: r, i + 1, q, h => by
    have ih := enc_set r i q (by simpa using h)
    rw [List.set_cons_succ, List.flatMap_cons, List.flatMap_cons, ← ih, show (i + 1) * 2 = i * 2 + 2 by omega]
    rfl
theorem sto2N {p : Addr} {v1 v2 : Value} {w : World} {K : World → Prop} (h : Sto w (p.add 0) v1 fun w' => Sto w' (p.add 1) v2 K) : StoN p 0 [v1, v2] w K := h
theorem Hp.stoP {e : Nat} {w0 w : World} {F : Asn} {s : Slc} {ps : List Pt} {i : Nat} {a : Addr} {q : Pt} (H : Hp w0 w (star (Asn.own e 2 s (ps.flatMap Pt.enc)) F)) (hi : i < ps.length) (ha : s.a = some a) {K : World → Prop} (k : ∀ w', Hp w0 w' (star (Asn.own e 2 s ((ps.set i q).flatMap Pt.enc)) F) → K w') : StoN (a.add (Int.toNat (i : Int) * 2)) 0 [.int .i64 q.ix, q.sl.v] w K := by
  have hl := enc_len ps
  refine sto2N ?_
  rw [Int.toNat_natCast, add_add, add_add]
  refine H.stoS (s := s) (i := i * 2 + 0) (by omega) ha fun w1 H => ?_
  refine H.stoS (s := s) (i := i * 2 + 1) (by rw [List.length_set]; omega) ha fun w2 H => k w2 ?_
  rw [Nat.add_zero, enc_set ps i q hi] at H
  exact H
end Go.Vc
namespace Go.Proofs.YtabifopphhpciaaGreat
open Go Go.Vc Go.Vc.Asn Go.Gf
def rowP (p : Pt) : Asn := own Ty_uint8 1 p.sl (p.bs.map u8v)
def partsA (s : Slc) (ps : List Pt) : Asn := star (own Ty_api_Part 2 s (ps.flatMap Pt.enc)) (all rowP ps)
theorem rdPA {w0 w : World} {F : Asn} {s : Slc} {ps : List Pt} (H : Hp w0 w (star (partsA s ps) F)) : RdP w s ps := by
  refine ⟨(H.assoc).cel (s := s), fun p hp => ?_⟩
  obtain ⟨_, S, _, S1, S2, _, _, ⟨_, T2, _, _, _, hb⟩, _⟩ := H
  obtain ⟨S', h⟩ := all_mem hb p hp
  exact h.2.cel
end Go.Proofs.YtabifopphhpciaaGreat
