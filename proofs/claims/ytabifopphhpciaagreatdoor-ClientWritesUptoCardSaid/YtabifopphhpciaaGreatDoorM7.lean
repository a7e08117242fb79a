/-
  Contract of gf.AddMul.
-/
import Derived.Test.YtabifopphhpciaaGreatDoorM6
import Derived.Laws.MakeOwn
import Derived.Laws.CopyRow
import Derived.Laws.IdiomCopy
namespace Go.Gf
open Go Go.Vc
def addR (c : UInt8) (bs xs : List UInt8) : List UInt8 := List.zipWith (fun b x => b ^^^ mul c x) bs xs
end Go.Gf
namespace Go.Proofs.YtabifopphhpciaaGreatDoor
open Go Go.Vc Go.Vc.Asn Go.Gf
section
variable {p : Nat} {w0 w : World} {F : Asn}
def RdB (w0 : World) (F : Asn) (d : Slc) (bs : List UInt8) : Prop := ∀ w' A, Hp w0 w' (star A F) → Byt w' d bs
def RdK (w0 : World) (F : Asn) (p : Nat) : Prop := ∀ w' A, Hp w0 w' (star A F) → Blk w' p Ty_gf_Field fieldL.toArray
theorem addMul_c {d s : Slc} {bs xs : List UInt8} (c : UInt8) (hK : RdK w0 F p) (hb : RdB w0 F s xs) (hlen : xs.length = bs.length) (hl : bs.length ≤ 1099511627776) (H : Hp w0 w (star (own Ty_uint8 1 d (bs.map u8v)) F)) :
    Calls PP F_gf_Field_AddMul #[.pointer (some (blk p)), d.v, u8v c, s.v] w (Rt fun v w' => v = .int .i64 0 ∧ Hp w0 w' (star (own Ty_uint8 1 d ((addR c bs xs).map u8v)) F)) := by
  have hdl : d.l = bs.length := by have := (H.cel (s := d)).len; simp at this; omega
  have hsl : s.l = xs.length := by have := (hb _ _ H).len; omega
  refine sim_gf_Field_AddMul _ _ _ _ _ _ ?_
  unfold vc_gf_Field_AddMul
  refine ⟨fun h => by simp at h, fun _ => ⟨fun h => ?_, fun _ => ?_⟩⟩
  · rw [hdl, hsl, hlen] at h; simp at h
  refine Hp.app (s := Slc.nil) slT_sl_uint8 (H.nilRow Ty_uint8 1) (hb _ _ H) (one_u8 _) (by unfold maxLen; simp only; omega) (by simp only; omega) fun s15 w1 H hs15 => ?_
  simp only at hs15
  rw [List.nil_append] at H
  refine ⟨fun i w' => ∃ (j : Nat) (cur : List UInt8), i = (j : Int) ∧ j ≤ bs.length ∧ cur.length = bs.length ∧ (∀ k, k < j → cur[k]? = (addR c bs xs)[k]?) ∧ (∀ k, j ≤ k → cur[k]? = bs[k]?) ∧ Hp w0 w' (star (own Ty_uint8 1 s15 (xs.map u8v)) (star (own Ty_uint8 1 d (cur.map u8v)) F)), fun i _ => bs.length - i.toNat, ⟨0, bs, rfl, Nat.zero_le _, rfl, (fun k hk => by omega), fun _ _ => rfl, H⟩, ?_⟩
  rintro _ w2 ⟨j, cur, rfl, hj, hcl, h1, h2, H⟩
  have hal : (addR c bs xs).length = bs.length := by unfold addR; rw [List.length_zipWith]; omega
  refine ⟨fun h => ?_, fun h => ?_⟩
  · have hlt : j < bs.length := by simp only [decide_eq_true_eq] at h; omega
    have ewr : wr .i64 ((j : Int) + 1) = ((j + 1 : Nat) : Int) := by rw [wr64 (by omega) (by omega)]; omega
    obtain ⟨a, ha, hc⟩ := (H.cel (s := s15)).at_ j (u8v (xs[j]'(by omega))) (by rw [List.getElem?_map, List.getElem?_eq_getElem (by omega)]; rfl)
    have hcj : cur[j]? = some (bs[j]'hlt) := by rw [h2 j (Nat.le_refl _), List.getElem?_eq_getElem hlt]
    have H := H.drew 1
    obtain ⟨a2, ha2, hc2⟩ := (H.cel (s := d)).at_ j (u8v (bs[j]'hlt)) (by rw [List.getElem?_map, hcj]; rfl)
    refine ⟨a, ha, by omega, by omega, _, by rw [Int.toNat_natCast, Nat.mul_one]; exact hc, a2, ha2, by omega, by omega, _, by rw [Int.toNat_natCast, Nat.mul_one]; exact hc2, ?_⟩
    refine call (mul_c c (xs[j]'(by omega)) (hK _ _ H.assoc')) ?_
    rintro _ w3 ⟨rfl, f⟩
    have H := H.fr0 f
    rw [Int.toNat_natCast, Nat.mul_one]
    obtain ⟨a3, ha3, hc3⟩ := (H.cel (s := d)).at_ j (u8v (bs[j]'hlt)) (by rw [List.getElem?_map, hcj]; rfl)
    rw [ha2] at ha3
    injection ha3 with ha3
    subst ha3
    refine ⟨_, rfl, hc3, a2, ha2, by omega, by omega, ?_⟩
    refine (H.own d).stoS (s := d) (i := j) (by rw [List.length_map]; omega) ha2 fun w4 H => ?_
    rw [xor8, ← List.map_set] at H
    refine ⟨⟨j + 1, cur.set j (bs[j]'hlt ^^^ mul c (xs[j]'(by omega))), by rw [ewr], by omega, by rw [List.length_set]; exact hcl, fun k hk => ?_, fun k hk => ?_, H.own s15⟩, by dsimp only; rw [ewr]; omega⟩
    · rw [List.getElem?_set]
      by_cases hkj : j = k
      · subst hkj
        rw [if_pos rfl, if_pos (by omega)]
        unfold addR
        rw [List.getElem?_zipWith, List.getElem?_eq_getElem hlt, List.getElem?_eq_getElem (by omega)]
      · rw [if_neg hkj]
        exact h1 k (by omega)
    · rw [List.getElem?_set, if_neg (by omega)]
      exact h2 k (by omega)
  · have hje : j = bs.length := by simp only [decide_eq_false_iff_not] at h; omega
    subst hje
    have e : cur = addR c bs xs := by
      apply List.ext_getElem?
      intro k
      by_cases hk : k < bs.length
      · exact h1 k hk
      · rw [List.getElem?_eq_none (by omega), List.getElem?_eq_none (by omega)]
    rw [e] at H
    exact Rt.ok ⟨rfl, H.drop⟩
end
end Go.Proofs.YtabifopphhpciaaGreatDoor

namespace Go.Vc
open Go Go.Vc.Asn
theorem Asn.Ent.bring {P A F B : Asn} [h : Take P A F] (k : Ent F B) : Ent A (Asn.star P B) := h.e.trans (Ent.star (Ent.refl P) k)
theorem made_one {z : Value} (hz : z.cells = #[z]) (n : Nat) : madeCells z.cells (n * 1) = (List.replicate n z).toArray := by
  rw [hz, Nat.mul_one]
  apply Array.ext
  · simp [madeCells]
  · intro i h1 h2
    simp [madeCells, Nat.mod_one]
theorem Hp.make {P : Program} {t e bytes n : Nat} {z : Value} (T : SlT P t e 1 bytes z) (hz : z.cells = #[z]) {w0 w : World} {A : Asn} {K : Slc → World → Prop} (hb : bytes * n ≤ 281474976710656) (hn : n ≤ 16777216) (H : Hp w0 w A)
    (k : ∀ b w', Hp w0 w' (star (Asn.own e 1 ⟨some (Vc.blk b), n, n⟩ (List.replicate n z)) A) → K ⟨some (Vc.blk b), n, n⟩ w') : Mk P t w (.int .i64 (n : Int)) (.int .i64 (n : Int)) K := by
  cases hi : P.info? e with
  | none => have := T.info; rw [hi] at this; simp at this
  | some i =>
    have hinfo := T.info
    rw [hi] at hinfo
    simp only [Option.map_some, Option.some.injEq, Prod.mk.injEq] at hinfo
    obtain ⟨h1, h2, h3⟩ := hinfo
    have hb2 : (bytes : Int) * (n : Int) ≤ 281474976710656 := by
      have h : ((bytes * n : Nat) : Int) ≤ 281474976710656 := by omega
      rwa [Int.natCast_mul] at h
    have hr := run_makeSlice (P := P) (w := w) t e i z T.ut hi h1 .i64 .i64 (n : Int) (n : Int) (by omega) (Int.le_refl _) (by rw [h2]; omega) (by rw [h3]; exact hb2) (by omega)
    refine ⟨⟨some (Vc.blk w.heap.size), n, n⟩, _, hr, ?_⟩
    simp only [Int.toNat_natCast]
    rw [h2, made_one hz]
    exact k _ _ (H.row (b := w.heap.size) ⟨rfl, rfl⟩ rfl (by simp) (by unfold maxLen; omega))
end Go.Vc

namespace Go.Proofs.YtabifopphhpciaaGreatDoor
open Go Go.Vc Go.Vc.Asn Go.Gf
abbrev Rws := List (Slc × List UInt8)
def rwA (r : Slc × List UInt8) : Asn := own Ty_uint8 1 r.1 (r.2.map u8v)
def rwsA (s : Slc) (rs : Rws) : Asn := star (own Ty_sl_uint8 1 s (rs.map fun r => r.1.v)) (all rwA rs)
def matA (p : Nat) (f : Option Addr) (s : Slc) (rs : Rws) : Asn := star (bk p Ty_matrix_Matrix #[.pointer f, s.v]) (rwsA s rs)
section
variable {p : Nat} {w0 w : World} {F : Asn}
theorem zcells (n : Nat) : (List.replicate n (Value.int .u8 0)) = (List.replicate n (0 : UInt8)).map u8v := by
  rw [List.map_replicate]; rfl
theorem all_snoc2 {α : Type} (f : α → Asn) (x : α) (l : List α) : Ent (star (f x) (all f l)) (all f (l ++ [x])) := by
  induction l with
  | nil => exact Ent.refl _
  | cons y r ih => exact left.trans (Ent.star (Ent.refl _) ih)
theorem blank_c {f : Option Addr} {m n : Nat} (hm : m ≤ 16777216) (hn : n ≤ 16777216) (H : Hp w0 w F) :
    Calls PP F_matrix_blank #[.pointer f, .int .i64 (m : Int), .int .i64 (n : Int)] w (Rt fun v w' => ∃ p s rs, v = .pointer (some (blk p)) ∧ rs.map (·.2) = List.replicate m (List.replicate n 0) ∧ Hp w0 w' (star (matA p f s rs) F)) := by
  refine sim_matrix_blank _ _ _ _ _ ?_
  unfold vc_matrix_blank
  refine Hp.make slT_sl_sl_uint8 rfl (by omega) hm H fun b6 w1 H => H.new fun b9 w2 H => ?_
  refine ⟨fun i w' => ∃ (j : Nat) (rs : Rws), i = (j : Int) ∧ j ≤ m ∧ rs.map (·.2) = List.replicate j (List.replicate n 0) ∧ Hp w0 w' (star (bk b9 Ty_matrix_Matrix #[.pointer f, Slc.v ⟨some (blk b6), m, m⟩]) (star (own Ty_sl_uint8 1 ⟨some (blk b6), m, m⟩ (rs.map (fun r => r.1.v) ++ List.replicate (m - j) (Slc.v Slc.nil))) (star (all rwA rs) F))), fun i _ => m - i.toNat, ⟨0, [], rfl, Nat.zero_le _, rfl, H.ent (Ent.star (Ent.refl _) (Ent.star (Ent.refl _) emp_l))⟩, ?_⟩
  rintro _ w3 ⟨j, rs, rfl, hj, hrs, H⟩
  have hrl : rs.length = j := by have := congrArg List.length hrs; simpa using this
  refine ⟨fun h => ?_, fun h => ?_⟩
  · have hlt : j < m := by simp only [decide_eq_true_eq] at h; omega
    have ewr : wr .i64 ((j : Int) + 1) = ((j + 1 : Nat) : Int) := by rw [wr64 (by omega) (by omega)]; omega
    have H := H.drew 1
    refine ⟨_, H.cell (b := b9) (i := 1) rfl, Hp.make slT_sl_uint8 rfl (by omega) hn H fun b25 w4 H => ⟨H.cell (b := b9) (i := 1) rfl, blk b6, rfl, by omega, by show (j : Int) < (m : Int); omega, ?_⟩⟩
    rw [Int.toNat_natCast, Nat.mul_one]
    refine (H.own ⟨some (blk b6), m, m⟩).stoS (s := ⟨some (blk b6), m, m⟩) (i := j) (by simp; omega) rfl fun w5 H => ?_
    refine ⟨⟨j + 1, rs ++ [(⟨some (blk b25), n, n⟩, List.replicate n 0)], by rw [ewr], by omega, ?_, ?_⟩, by dsimp only; rw [ewr]; omega⟩
    · rw [List.map_append, hrs, List.replicate_succ']; rfl
    · have e1 : (rs.map (fun r => r.1.v) ++ List.replicate (m - j) (Slc.v Slc.nil)).set j (⟨some (blk b25), n, n⟩ : Slc).v = (rs ++ [((⟨some (blk b25), n, n⟩ : Slc), List.replicate n 0)]).map (fun r : Slc × List UInt8 => r.1.v) ++ List.replicate (m - (j + 1)) (Slc.v Slc.nil) := by
        rw [List.set_append_right _ _ (by simp; omega), List.length_map, hrl, Nat.sub_self, show m - j = (m - (j + 1)) + 1 by omega, List.replicate_succ, List.set_cons_zero, List.map_append, List.append_assoc]
        rfl
      rw [e1, zcells] at H
      have H := ((H.own ⟨some (blk b25), n, n⟩).ent (Ent.star (Ent.refl _) (Ent.bring (P := all rwA rs) (Ent.refl _)))).assoc'
      have H := H.ent (Ent.star (all_snoc2 rwA (⟨some (blk b25), n, n⟩, List.replicate n 0) rs) (Ent.refl _))
      exact (H.own ⟨some (blk b6), m, m⟩).blk b9
  · have hje : j = m := by simp only [decide_eq_false_iff_not] at h; omega
    subst hje
    rw [Nat.sub_self, List.replicate_zero, List.append_nil] at H
    refine Rt.ok ⟨b9, ⟨some (blk b6), j, j⟩, rs, rfl, hrs, ?_⟩
    exact (H.ent (Ent.star (Ent.refl _) Asn.assoc')).assoc'
end
end Go.Proofs.YtabifopphhpciaaGreatDoor

namespace Go.Vc
open Go Go.Vc.Asn
theorem Own.cpy {P : Program} {t ty e bytes : Nat} {z : Value} (T : SlT P t e 1 bytes z) {w : World} {s d y : Slc} {cs ys : List Value} {o : Nat} (h : Own e 1 w s cs) (hy : Cel w y 1 ys) (h1 : ∀ u ∈ ys, u.oneCell' = true)
    (hd : 0 < d.l → ∀ p, s.a = some p → d.a = some (p.add o)) (hl : o + d.l ≤ cs.length) {K : Int → World → Prop}
    (k : ∀ w', Own e 1 w' s (cs.take o ++ ys.take (min y.l d.l) ++ cs.drop (o + min y.l d.l)) → Fr s.blks w w' → K ((min y.l d.l : Nat) : Int) w') : Cpy P t t ty w d.v y.v K := by
  have hyl := hy.len
  have hi : (P.info? e).map (·.size) = some 1 := by
    have := T.info
    cases hq : P.info? e with
    | none => rw [hq] at this; simp at this
    | some i => rw [hq] at this; simp at this; simp [this.2.1]
  by_cases hn : min y.l d.l = 0
  · have hr := run_copy_none (P := P) w t t ty e d.a y.a d.l d.c y.l y.c T.ut hi hn
    refine ⟨0, w, hr, ?_⟩
    have := k w (by rw [hn]; simpa using h) (Fr.refl _ _)
    rw [hn] at this
    exact this
  · obtain ⟨g, cur, e1, hB, e3, e4, e5, e6⟩ := h.some_ (by intro h0; rw [h0] at hl; simp at hl; omega)
    obtain ⟨a, ha, _⟩ := hy.at_ 0 (ys[0]'(by omega)) (List.getElem?_eq_getElem _)
    have hda := hd (by omega) _ e1
    rw [blk_add] at hda
    obtain ⟨da, dl, dc⟩ := d
    obtain ⟨ya, yl, yc⟩ := y
    simp only at hda ha hl hn hyl k
    subst hda ha
    have hcl : s.l ≤ cur.size := by omega
    have hcs : cs.length = s.l := by have := h.1; omega
    have hr := run_copy_row P w t t ty e g o dl dc a yl yc cur e (ys.take (min yl dl)) T.ut hi hB (by rw [List.length_take]; show _ = min yl dl; omega) (fun j v hv => by
      rw [List.getElem?_take] at hv
      split at hv
      · obtain ⟨q, hq, hc⟩ := hy.at_ j v hv
        injection hq with hq
        subst hq
        exact hc
      · cases hv) (by rw [List.length_take]; omega) (fun v hv => h1 v (List.mem_of_mem_take hv))
    have hlen : (ys.take (min yl dl)).length = min yl dl := by rw [List.length_take]; omega
    rw [hlen] at hr
    refine ⟨((min yl dl : Nat) : Int), _, hr, k _ ⟨?_, .inr ⟨g, s.c, _, by simp only [Slc.v, e1], Nat.zero_le _, setRow_heap w g cur _ e _ hB, e3, e4, ?_, ?_⟩⟩ ?_⟩
    · simp only [List.length_append, List.length_take, List.length_drop]; omega
    · simp only [List.size_toArray, List.length_append, List.length_take, List.length_drop, Array.length_toList]; omega
    · rw [← e6]
      simp only [Nat.mul_one]
      rw [List.take_append, List.take_append]
      simp only [List.length_append, List.length_take, Array.length_toList, List.take_take, List.drop_take]
      congr 1
      · congr 1
        · rw [show min o s.l = o by omega, show min s.l o = o by omega]
        · congr 1; omega
      · congr 1
        omega
    · unfold Slc.blks
      rw [e1]
      refine ⟨rfl, rfl, rfl, by simp [World.setRow], fun k hk hks => ?_⟩
      rw [setRow_other]
      intro e7
      subst e7
      simp at hks
section
variable {w0 w : World} {A F : Asn} {P : Program} {t ty e bytes : Nat} {z : Value} {s d y : Slc} {cs ys : List Value} {o : Nat}
theorem Hp.cpy (T : SlT P t e 1 bytes z) [h : TakeS s A e 1 cs F] (H : Hp w0 w A) (hy : Cel w y 1 ys) (h1 : ∀ u ∈ ys, u.oneCell' = true) (hd : 0 < d.l → ∀ p, s.a = some p → d.a = some (p.add o)) (hl : o + d.l ≤ cs.length) {K : Int → World → Prop}
    (k : ∀ w', Hp w0 w' (star (Asn.own e 1 s (cs.take o ++ ys.take (min y.l d.l) ++ cs.drop (o + min y.l d.l))) F) → K ((min y.l d.l : Nat) : Int) w') : Cpy P t t ty w d.v y.v K :=
  H.isOwn.cpy T hy h1 hd hl fun w' hO f => k w' ((H.own s).step fun S _hS hp => ⟨s.blks, S, fun k hk => (hp.1 k).2 hk, f, ⟨hp.1, hO⟩, fun _k hk => .inl hk⟩)
end
/-! ## Reading -/
section
variable {w : World} {s : Slc} {α : Type} {g : α → Value} {xs : List α} {i : Nat}
theorem Cel.at' (h : Cel w s 1 (xs.map g)) (hi : i < xs.length) {a : Addr} (ha : s.a = some a) : w.cell? (a.add (Int.toNat (i : Int) * 1)) = some (g xs[i]) := by
  obtain ⟨p, hp, hc⟩ := h.at_ i (g xs[i]) (by rw [List.getElem?_map, List.getElem?_eq_getElem hi]; rfl)
  rw [ha] at hp
  injection hp with hp
  subst hp
  rw [Int.toNat_natCast, Nat.mul_one]
  exact hc
theorem Cel.lenM (h : Cel w s 1 (xs.map g)) : s.l = xs.length := by have := h.len; simp at this; omega
theorem Cel.rd (h : Cel w s 1 (xs.map g)) (hi : i < xs.length) {Q : Addr → Prop} (k : ∀ a, s.a = some a → w.cell? (a.add (Int.toNat (i : Int) * 1)) = some (g xs[i]) → Q a) : ∃ a : Addr, s.a = some a ∧ (0 : Int) ≤ (i : Int) ∧ ((i : Nat) : Int) < s.l ∧ Q a := by
  obtain ⟨p, hp, hc⟩ := h.at_ i (g xs[i]) (by rw [List.getElem?_map, List.getElem?_eq_getElem hi]; rfl)
  refine ⟨p, hp, by omega, by rw [h.lenM]; omega, k p hp (h.at' hi hp)⟩
end
section
variable {w : World} {s : Slc}
theorem Cel.rdS {rs : List (Slc × List UInt8)} {i : Nat} (h : Cel w s 1 (rs.map fun r => r.1.v)) (hi : i < rs.length) {Q : Addr → Slc → Prop} (k : ∀ a, s.a = some a → Q a rs[i].1) : ∃ a : Addr, s.a = some a ∧ (0 : Int) ≤ (i : Int) ∧ ((i : Nat) : Int) < s.l ∧ ∃ l : Slc, w.cell? (a.add (Int.toNat (i : Int) * 1)) = some l.v ∧ Q a l :=
  h.rd hi fun a ha hc => ⟨rs[i].1, hc, k a ha⟩
theorem Byt.rd {bs : List UInt8} {i : Nat} (h : Byt w s bs) (hi : i < bs.length) {Q : Addr → Int → Prop} (k : ∀ a, s.a = some a → Q a ((bs[i].toNat : Nat) : Int)) : ∃ a : Addr, s.a = some a ∧ (0 : Int) ≤ (i : Int) ∧ ((i : Nat) : Int) < s.l ∧ ∃ l : Int, w.cell? (a.add (Int.toNat (i : Int) * 1)) = some (.int .u8 l) ∧ Q a l :=
  Cel.rd h hi fun a ha hc => ⟨_, hc, k a ha⟩
theorem Hp.wr {w0 : World} {A F : Asn} {e : Nat} {cs : List Value} {i : Nat} [h : TakeS s A e 1 cs F] (H : Hp w0 w A) (hi : i < cs.length) {v : Value} {K : World → Prop} (k : ∀ w', Hp w0 w' (star (Asn.own e 1 s (cs.set i v)) F) → K w') :
    ∃ a : Addr, s.a = some a ∧ (0 : Int) ≤ (i : Int) ∧ ((i : Nat) : Int) < s.l ∧ Sto w (a.add (Int.toNat (i : Int) * 1)) v K := by
  have hc := H.cel (s := s)
  obtain ⟨p, hp, _⟩ := hc.get hi
  have := hc.len
  refine ⟨p, hp, by omega, by omega, ?_⟩
  rw [Int.toNat_natCast, Nat.mul_one]
  exact H.stoS (s := s) hi hp k
end
namespace Asn
theorem all_at {α : Type} (f : α → Asn) : ∀ (l : List α) (k : Nat) (h : k < l.length), Ent (all f l) (star (f l[k]) (all f (l.take k ++ l.drop (k + 1))))
  | [], k, h => by simp at h
  | x :: l, 0, _ => Ent.refl _
  | x :: l, k + 1, h => (Ent.star (Ent.refl _) (all_at f l k (by simpa using h))).trans left
theorem all_put {α : Type} (f : α → Asn) (y : α) : ∀ (l : List α) (k : Nat), k < l.length → Ent (star (f y) (all f (l.take k ++ l.drop (k + 1)))) (all f (l.set k y))
  | [], k, h => by simp at h
  | x :: l, 0, _ => Ent.refl _
  | x :: l, k + 1, h => left.trans (Ent.star (Ent.refl _) (all_put f y l k (by simpa using h)))
theorem all_prm {α : Type} {f : α → Asn} {l l' : List α} (h : l.Perm l') : Ent (all f l) (all f l') := by
  induction h with
  | nil => exact Ent.refl _
  | cons x _ ih => exact Ent.star (Ent.refl _) ih
  | swap x y l => exact left
  | trans _ _ ih1 ih2 => exact ih1.trans ih2
theorem all_snoc {α : Type} (f : α → Asn) (x : α) (l : List α) : Ent (star (f x) (all f l)) (all f (l ++ [x])) := all_prm (List.perm_append_singleton x l).symm
end Asn
end Go.Vc

namespace Go.Gf
def ent (R : List (List UInt8)) : Go.Gf.Mat := fun i c => (R.getD i []).getD c 0
structure Shp (R : List (List UInt8)) (m n : Nat) : Prop where
  len : R.length = m
  row : ∀ r ∈ R, r.length = n
theorem Shp.at_ {R : List (List UInt8)} {m n : Nat} (h : Shp R m n) {i : Nat} (hi : i < R.length) : R[i].length = n := h.row _ (List.getElem_mem hi)
theorem Shp.set {R : List (List UInt8)} {m n : Nat} (h : Shp R m n) {i : Nat} {r : List UInt8} (hr : r.length = n) : Shp (R.set i r) m n :=
  ⟨by rw [List.length_set]; exact h.len, fun x hx => (List.mem_or_eq_of_mem_set hx).elim (h.row x) fun e => e ▸ hr⟩
theorem ent_at {R : List (List UInt8)} {i : Nat} (hi : i < R.length) (c : Nat) : ent R i c = R[i].getD c 0 := by
  unfold ent; rw [List.getD_eq_getElem?_getD (l := R), List.getElem?_eq_getElem hi]; rfl
theorem ent_at2 {R : List (List UInt8)} {i c : Nat} (hi : i < R.length) (hc : c < R[i].length) : ent R i c = R[i][c] := by
  rw [ent_at hi, List.getD_eq_getElem?_getD, List.getElem?_eq_getElem hc]; rfl
theorem ent_set {R : List (List UInt8)} {i : Nat} {r : List UInt8} (hi : i < R.length) (j c : Nat) : ent (R.set i r) j c = if j = i then r.getD c 0 else ent R j c := by
  unfold ent
  rw [List.getD_eq_getElem?_getD (l := R.set i r), List.getElem?_set]
  by_cases h : i = j
  · subst h
    rw [if_pos rfl, if_pos hi, if_pos rfl]; rfl
  · rw [if_neg h, if_neg (Ne.symm h), List.getD_eq_getElem?_getD (l := R)]
theorem ent_blank (m n i c : Nat) : ent (List.replicate m (List.replicate n 0)) i c = 0 := by
  unfold ent
  rw [List.getD_eq_getElem?_getD (l := List.replicate m _), List.getElem?_replicate]
  split
  · rw [Option.getD_some, List.getD_eq_getElem?_getD, List.getElem?_replicate]; split <;> rfl
  · rfl
theorem Shp.blank (m n : Nat) : Shp (List.replicate m (List.replicate n 0)) m n := ⟨by simp, fun r hr => by rw [List.eq_of_mem_replicate hr]; simp⟩
theorem list_ext {l k : List UInt8} (h : l.length = k.length) (h2 : ∀ c, c < l.length → l.getD c 0 = k.getD c 0) : l = k := by
  apply List.ext_getElem h
  intro i h3 h4
  have := h2 i h3
  rwa [List.getD_eq_getElem?_getD, List.getElem?_eq_getElem h3, List.getD_eq_getElem?_getD, List.getElem?_eq_getElem h4] at this
theorem ent_ext {R Q : List (List UInt8)} {m n : Nat} (h : Shp R m n) (h' : Shp Q m n) (e : ∀ i c, i < m → c < n → ent R i c = ent Q i c) : R = Q := by
  apply List.ext_getElem (by rw [h.len, h'.len])
  intro i h1 h2
  refine list_ext (by rw [h.at_, h'.at_]) fun c hc => ?_
  rw [← ent_at h1, ← ent_at h2]
  exact e i c (by rw [← h.len]; exact h1) (by rw [← h.at_ h1]; exact hc)
theorem addR_len {c : UInt8} {bs xs : List UInt8} (h : xs.length = bs.length) : (addR c bs xs).length = bs.length := by unfold addR; rw [List.length_zipWith]; omega
theorem addR_at {c : UInt8} {bs xs : List UInt8} (h : xs.length = bs.length) (j : Nat) : (addR c bs xs).getD j 0 = bs.getD j 0 ^^^ mul c (xs.getD j 0) := by
  unfold addR
  simp only [List.getD_eq_getElem?_getD, List.getElem?_zipWith]
  by_cases hj : j < bs.length
  · rw [List.getElem?_eq_getElem hj, List.getElem?_eq_getElem (by omega)]; rfl
  · rw [List.getElem?_eq_none (by omega), List.getElem?_eq_none (by omega)]
    simp [mul_zero]
end Go.Gf
namespace Go.Proofs.YtabifopphhpciaaGreatDoor
open Go Go.Vc Go.Vc.Asn Go.Gf
abbrev mt (rs : Rws) : List (List UInt8) := rs.map fun r => r.2
def upd (rs : Rws) (i : Nat) (bs : List UInt8) : Rws := rs.set i ((rs.getD i (Slc.nil, [])).1, bs)
theorem upd_len (rs : Rws) (i : Nat) (bs : List UInt8) : (upd rs i bs).length = rs.length := by unfold upd; rw [List.length_set]
theorem upd_at {rs : Rws} {i : Nat} (hi : i < rs.length) (bs : List UInt8) : upd rs i bs = rs.set i (rs[i].1, bs) := by
  unfold upd; rw [List.getD_eq_getElem?_getD, List.getElem?_eq_getElem hi]; rfl
theorem upd_mt {rs : Rws} (i : Nat) (bs : List UInt8) : mt (upd rs i bs) = (mt rs).set i bs := by unfold mt upd; rw [List.map_set]
theorem upd_sl {rs : Rws} (i : Nat) (bs : List UInt8) : (upd rs i bs).map (fun r => r.1.v) = rs.map fun r => r.1.v := by
  by_cases hi : i < rs.length
  · rw [upd_at hi, List.map_set]
    apply List.ext_getElem?
    intro j
    rw [List.getElem?_set]
    by_cases hj : i = j
    · subst hj
      rw [if_pos rfl, if_pos (by simpa using hi), List.getElem?_map, List.getElem?_eq_getElem hi]; rfl
    · rw [if_neg hj]
  · unfold upd; rw [List.set_eq_of_length_le (by omega)]
structure RdR (w : World) (s : Slc) (rs : Rws) : Prop where
  cel : Cel w s 1 (rs.map fun r => r.1.v)
  row : ∀ r ∈ rs, Byt w r.1 r.2
theorem RdR.fr0 {w w' : World} {s : Slc} {rs : Rws} (h : RdR w s rs) (f : Fr [] w w') : RdR w' s rs := ⟨h.cel.fr0 f, fun r hr => (h.row r hr).fr0 f⟩
theorem RdR.at_ {w : World} {s : Slc} {rs : Rws} (h : RdR w s rs) {i : Nat} (hi : i < rs.length) : Byt w rs[i].1 rs[i].2 := h.row _ (List.getElem_mem hi)
section
variable {w0 w : World} {A F : Asn} {s : Slc} {rs : Rws}
theorem rowsHave : ∀ {rs : Rws} {S : Nat → Prop}, (all rwA rs).p w S → ∀ r ∈ rs, Byt w r.1 r.2
  | [], _, _ => fun r hr => nomatch hr
  | x :: l, S, h => fun r hr => by
    obtain ⟨S1, S2, _, _, h1, h2⟩ := h
    rcases List.mem_cons.1 hr with rfl | hr
    · exact Own.cel h1.2
    · exact rowsHave (S := S2) h2 r hr
theorem rowsOf [h : Take (all rwA rs) A F] (H : Hp w0 w A) : ∀ r ∈ rs, Byt w r.1 r.2 := by
  obtain ⟨_, S, _, S1, S2, _, _, h1, _⟩ := H.take (all rwA rs)
  exact rowsHave (S := S1) h1
theorem rdR (H : Hp w0 w (star (own Ty_sl_uint8 1 s (rs.map fun r => r.1.v)) (star (all rwA rs) F))) : RdR w s rs := ⟨H.cel (s := s), rowsOf (rs := rs) H⟩
theorem wrRow (rs : Rws) [h : Take (all rwA rs) A F] (H : Hp w0 w A) {i j : Nat} (hi : i < rs.length) (hj : j < rs[i].2.length) {v : UInt8} {K : World → Prop} (k : ∀ w', Hp w0 w' (star (all rwA (upd rs i (rs[i].2.set j v))) F) → K w') :
    ∃ a : Addr, rs[i].1.a = some a ∧ (0 : Int) ≤ (j : Int) ∧ ((j : Nat) : Int) < rs[i].1.l ∧ Sto w (a.add (Int.toNat (j : Int) * 1)) (u8v v) K := by
  have H := (H.take (all rwA rs)).ent (Ent.star (all_at rwA rs i hi) (Ent.refl _))
  have H : Hp w0 w (star (own Ty_uint8 1 rs[i].1 (rs[i].2.map u8v)) _) := H.assoc
  refine Hp.wr (s := rs[i].1) H (by simpa using hj) fun w' H => k w' ?_
  rw [← List.map_set] at H
  rw [upd_at hi]
  exact H.assoc'.ent (Ent.star (all_put rwA (rs[i].1, rs[i].2.set j v) rs i hi) (Ent.refl _))
theorem pickRow (rs : Rws) [h : Take (all rwA rs) A F] (H : Hp w0 w A) {i : Nat} (hi : i < rs.length) : Hp w0 w (star (own Ty_uint8 1 rs[i].1 (rs[i].2.map u8v)) (star (all rwA (rs.take i ++ rs.drop (i + 1))) F)) :=
  ((H.take (all rwA rs)).ent (Ent.star (all_at rwA rs i hi) (Ent.refl _))).assoc
theorem putRow {i : Nat} (hi : i < rs.length) {bs : List UInt8} (H : Hp w0 w (star (own Ty_uint8 1 rs[i].1 (bs.map u8v)) (star (all rwA (rs.take i ++ rs.drop (i + 1))) F))) : Hp w0 w (star (all rwA (upd rs i bs)) F) := by
  rw [upd_at hi]
  exact (H.assoc').ent (Ent.star (all_put rwA (rs[i].1, bs) rs i hi) (Ent.refl _))
end
end Go.Proofs.YtabifopphhpciaaGreatDoor

namespace Go.Proofs.YtabifopphhpciaaGreatDoor
open Go Go.Vc Go.Vc.Asn Go.Gf
theorem ofW (n : Nat) (h : n < 4611686018427387904) : wr .i64 ((n : Int) + 1) = ((n + 1 : Nat) : Int) := by rw [wr64 (by omega) (by omega)]; omega
section
variable {w0 w : World} {F : Asn} {q : Nat} {f : Option Addr} {s : Slc} {rs : Rws}
theorem matOpen (H : Hp w0 w (star (matA q f s rs) F)) : Hp w0 w (star (bk q Ty_matrix_Matrix #[.pointer f, s.v]) (star (own Ty_sl_uint8 1 s (rs.map fun r => r.1.v)) (star (all rwA rs) F))) := by
  have H : Hp w0 w (star (bk q Ty_matrix_Matrix #[.pointer f, s.v]) (star (star (own Ty_sl_uint8 1 s (rs.map fun r => r.1.v)) (all rwA rs)) F)) := H.assoc
  exact H.ent (Ent.star (Ent.refl _) Asn.assoc)
theorem matClose (H : Hp w0 w (star (bk q Ty_matrix_Matrix #[.pointer f, s.v]) (star (own Ty_sl_uint8 1 s (rs.map fun r => r.1.v)) (star (all rwA rs) F)))) : Hp w0 w (star (matA q f s rs) F) :=
  (H.ent (Ent.star (Ent.refl _) Asn.assoc')).assoc'
theorem sized_c {p : Addr} {m n : Nat} (hm : 1 ≤ m) (hm2 : m ≤ 256) (hn : 1 ≤ n) (hn2 : n ≤ 256) : Calls PP F_matrix_sized #[.pointer (some p), .int .i64 (m : Int), .int .i64 (n : Int)] w (Rt fun v w' => v = .int .i64 0 ∧ w' = w) := by
  refine sim_matrix_sized _ _ _ _ _ ?_
  unfold vc_matrix_sized
  refine ⟨fun h => by simp at h, fun _ => ⟨fun h => ?_, fun _ => ⟨fun h => ?_, fun _ => Rt.ok ⟨rfl, rfl⟩⟩⟩⟩
  · simp at h; omega
  · simp at h; omega
structure RdM (w : World) (q : Nat) (f : Option Addr) (s : Slc) (rs : Rws) : Prop where
  box : Blk w q Ty_matrix_Matrix #[.pointer f, s.v]
  rows : RdR w s rs
theorem RdM.fr0 {w w' : World} (h : RdM w q f s rs) (g : Fr [] w w') : RdM w' q f s rs := ⟨h.box.fr g (by simp), h.rows.fr0 g⟩
theorem rdM (H : Hp w0 w (star (matA q f s rs) F)) : RdM w q f s rs := ⟨(matOpen H).isBlk (b := q), rdR (matOpen H).drop⟩
theorem vander_c {g k : Nat} {ps : Slc} {pb : List UInt8} (hK : Blk w g Ty_gf_Field fieldL.toArray) (hp : Byt w ps pb) (hm : 1 ≤ pb.length) (hm2 : pb.length ≤ 256) (hk : 1 ≤ k) (hk2 : k ≤ 256) :
    Calls PP F_matrix_Vandermonde #[.pointer (some (blk g)), ps.v, .int .i64 (k : Int)] w (Rt fun v w' => ∃ q s rs, v = .tuple #[.pointer (some (blk q)), .int .i64 0] ∧ Shp (mt rs) pb.length k ∧ (∀ i c, i < pb.length → c < k → ent (mt rs) i c = powX (pb.getD i 0) c) ∧ Hp w w' (star (matA q (some (blk g)) s rs) emp)) := by
  refine sim_matrix_Vandermonde _ _ _ _ _ ?_
  unfold vc_matrix_Vandermonde
  have hpl := hp.len
  refine call (sized_c (m := ps.l) (by omega) (by omega) hk hk2) ?_
  rintro _ w1 ⟨rfl, rfl⟩
  refine ⟨_, rfl, fun h => by simp at h, fun _ => ?_⟩
  refine call (blank_c (by omega) (by omega) (Hp.start w1)) ?_
  rintro _ w2 ⟨q, s, rs0, rfl, hrs0, H⟩
  have hS0 : Shp (mt rs0) pb.length k := by unfold mt; rw [hrs0, hpl]; exact Shp.blank _ _
  refine ⟨_, rfl, fun i w' => ∃ (j : Nat) (rs : Rws), i = (j : Int) ∧ j ≤ pb.length ∧ Shp (mt rs) pb.length k ∧ (∀ i c, i < j → c < k → ent (mt rs) i c = powX (pb.getD i 0) c) ∧ Hp w1 w' (star (bk q Ty_matrix_Matrix #[.pointer (some (blk g)), s.v]) (star (own Ty_sl_uint8 1 s (rs.map fun r => r.1.v)) (star (all rwA rs) emp))), fun i _ => pb.length - i.toNat, ⟨0, rs0, rfl, Nat.zero_le _, hS0, fun i c hi => by omega, matOpen H⟩, ?_⟩
  rintro _ w3 ⟨j, rs, rfl, hj, hS, hent, H⟩
  have hrl : rs.length = pb.length := by have := hS.len; simpa using this
  refine ⟨fun h => ?_, fun h => ?_⟩
  · have hlt : j < pb.length := by simp only [decide_eq_true_eq] at h; omega
    refine ⟨fun w' => ∃ (rs : Rws), Shp (mt rs) pb.length k ∧ (∀ i c, i < j + 1 → c < k → ent (mt rs) i c = powX (pb.getD i 0) c) ∧ Hp w1 w' (star (bk q Ty_matrix_Matrix #[.pointer (some (blk g)), s.v]) (star (own Ty_sl_uint8 1 s (rs.map fun r => r.1.v)) (star (all rwA rs) emp))), ?_, ?_⟩
    · refine (hp.fr0 H.fr).rd hlt fun a ha => ⟨blk q, rfl, s, H.cell (b := q) (i := 1) rfl, ?_⟩
      have hjr : j < rs.length := by omega
      have hrow : rs[j].2.length = k := hS.row _ (List.mem_map_of_mem (List.getElem_mem hjr))
      refine (rdR H.drop).cel.rdS hjr fun a2 ha2 => ?_
      refine wrRow rs (j := 0) (v := 1) H hjr (by omega) fun w4 H => ?_
      have e1 : pb[j] = pb.getD j 0 := by rw [List.getD_eq_getElem?_getD, List.getElem?_eq_getElem hlt]; rfl
      refine ⟨fun c w' => ∃ (t : Nat) (rs : Rws), c = (t : Int) ∧ 1 ≤ t ∧ t ≤ k ∧ Shp (mt rs) pb.length k ∧ (∀ i c, i < j → c < k → ent (mt rs) i c = powX (pb.getD i 0) c) ∧ (∀ c, c < t → ent (mt rs) j c = powX (pb.getD j 0) c) ∧ Hp w1 w' (star (bk q Ty_matrix_Matrix #[.pointer (some (blk g)), s.v]) (star (own Ty_sl_uint8 1 s (rs.map fun r => r.1.v)) (star (all rwA rs) emp))), fun c _ => k - c.toNat, ⟨1, upd rs j (rs[j].2.set 0 1), rfl, Nat.le_refl _, hk, ?_, ?_, ?_, ?_⟩, ?_⟩
      · rw [upd_mt]; exact hS.set (by rw [List.length_set]; exact hrow)
      · intro i c hi hc
        rw [upd_mt, ent_set (by simpa using hjr), if_neg (by omega)]
        exact hent i c hi hc
      · intro c hc
        have : c = 0 := by omega
        subst this
        rw [upd_mt, ent_set (by simpa using hjr), if_pos rfl, List.getD_eq_getElem?_getD, List.getElem?_set, if_pos rfl, if_pos (by omega)]
        rfl
      · rw [upd_sl]
        exact (H.own s).blk q
      rintro _ w5 ⟨t, rs, rfl, ht1, htk, hS, hent, hrw, H⟩
      have hrl : rs.length = pb.length := by have := hS.len; simpa using this
      have hjr : j < rs.length := by omega
      have hrow : rs[j].2.length = k := hS.row _ (List.mem_map_of_mem (List.getElem_mem hjr))
      refine ⟨fun h => ?_, fun h => ?_⟩
      · have htlt : t < k := by simp only [decide_eq_true_eq] at h; omega
        have ewm : wr .i64 ((t : Int) - 1) = ((t - 1 : Nat) : Int) := by rw [wr64 (by omega) (by omega)]; omega
        have H := H.drew 1
        have hR := rdR H.drop
        rw [ewm, ofW t (by omega)]
        refine ⟨s, H.cell (b := q) (i := 1) rfl, hR.cel.rdS hjr fun a3 ha3 => ⟨s, H.cell (b := q) (i := 1) rfl, hR.cel.rdS hjr fun a4 ha4 => (hR.at_ hjr).rd (by omega) fun a5 ha5 => ?_⟩⟩
        refine call (mul_c (f := g) _ _ (hK.fr H.fr (by simp))) ?_
        rintro _ w6 ⟨rfl, f6⟩
        have H := H.fr0 f6
        have hR := rdR H.drop
        refine ⟨_, rfl, H.cell (b := q) (i := 1) rfl, hR.cel.at' hjr ha3, wrRow rs (j := t) H hjr (by omega) fun w7 H => ?_⟩
        refine ⟨⟨t + 1, upd rs j (rs[j].2.set t (mul (rs[j].2[t - 1]'(by omega)) pb[j])), rfl, by omega, by omega, ?_, ?_, ?_, ?_⟩, by dsimp only; omega⟩
        · rw [upd_mt]; exact hS.set (by rw [List.length_set]; exact hrow)
        · intro i c hi hc
          rw [upd_mt, ent_set (by simpa using hjr), if_neg (by omega)]
          exact hent i c hi hc
        · intro c hc
          rw [upd_mt, ent_set (by simpa using hjr), if_pos rfl, List.getD_eq_getElem?_getD, List.getElem?_set]
          have hm1 : (mt rs)[j]'(by simpa using hjr) = rs[j].2 := by simp [mt]
          by_cases h2 : t = c
          · subst h2
            rw [if_pos rfl, if_pos (by omega)]
            have h3 := hrw (t - 1) (by omega)
            rw [ent_at (by simpa using hjr), hm1, List.getD_eq_getElem?_getD, List.getElem?_eq_getElem (by omega)] at h3
            have h3 : rs[j].2[t - 1]'(by omega) = powX (pb.getD j 0) (t - 1) := h3
            show mul _ _ = _
            rw [h3, e1, show t = (t - 1) + 1 by omega]
            rfl
          · rw [if_neg h2, ← List.getD_eq_getElem?_getD, ← hm1, ← ent_at (by simpa using hjr)]
            exact hrw c (by omega)
        · rw [upd_sl]
          exact (H.own s).blk q
      · have hte : t = k := by simp only [decide_eq_false_iff_not] at h; omega
        subst hte
        refine ⟨rs, hS, fun i c hi hc => ?_, H⟩
        by_cases hij : i = j
        · subst hij; exact hrw c hc
        · exact hent i c (by omega) hc
    · rintro w4 ⟨rs, hS, hent, H⟩
      rw [ofW j (by omega)]
      exact ⟨⟨j + 1, rs, rfl, by omega, hS, hent, H⟩, by dsimp only; omega⟩
  · have hje : j = pb.length := by simp only [decide_eq_false_iff_not] at h; omega
    subst hje
    exact Rt.ok ⟨q, s, rs, rfl, hS, hent, matClose H⟩
end
end Go.Proofs.YtabifopphhpciaaGreatDoor

namespace Go.Vc
open Go Go.Vc.Asn
theorem Own.cap {e : Nat} {w : World} {b l n : Nat} {z : Value} (hb : Blk w b e (List.replicate n z).toArray) (hl : l ≤ n) (hm : n ≤ maxLen) : Own e 1 w ⟨some (blk b), l, n⟩ (List.replicate l z) :=
  ⟨by simp, .inr ⟨b, n, _, rfl, Nat.zero_le _, hb, hl, hm, by simp, by simp; omega⟩⟩
theorem Hp.makeCap {P : Program} {t e bytes l n : Nat} {z : Value} (T : SlT P t e 1 bytes z) (hz : z.cells = #[z]) {w0 w : World} {A : Asn} {K : Slc → World → Prop} (hb : bytes * n ≤ 281474976710656) (hn : n ≤ 16777216) (hl : l ≤ n) (H : Hp w0 w A)
    (k : ∀ b w', Hp w0 w' (star (Asn.own e 1 ⟨some (Vc.blk b), l, n⟩ (List.replicate l z)) A) → K ⟨some (Vc.blk b), l, n⟩ w') : Mk P t w (.int .i64 (l : Int)) (.int .i64 (n : Int)) K := by
  cases hi : P.info? e with
  | none => have := T.info; rw [hi] at this; simp at this
  | some i =>
    have hinfo := T.info
    rw [hi] at hinfo
    simp only [Option.map_some, Option.some.injEq, Prod.mk.injEq] at hinfo
    obtain ⟨h1, h2, h3⟩ := hinfo
    have hb2 : (bytes : Int) * (n : Int) ≤ 281474976710656 := by
      have h : ((bytes * n : Nat) : Int) ≤ 281474976710656 := by omega
      rwa [Int.natCast_mul] at h
    have hr := run_makeSlice (P := P) (w := w) t e i z T.ut hi h1 .i64 .i64 (l : Int) (n : Int) (by omega) (by omega) (by rw [h2]; omega) (by rw [h3]; exact hb2) (by omega)
    refine ⟨⟨some (Vc.blk w.heap.size), l, n⟩, _, hr, ?_⟩
    simp only [Int.toNat_natCast]
    rw [h2, made_one hz]
    exact k _ _ (H.beside ⟨NewBlk.fr (cs := (List.replicate n z).toArray) (e := e) (b := w.heap.size) ⟨rfl, rfl⟩, fun x => x = w.heap.size, fun x hx => by rw [hx]; exact Nat.le_refl _, fun x => by simp [Slc.blks], Own.cap (NewBlk.blk ⟨rfl, rfl⟩) hl (by unfold maxLen; omega)⟩)
end Go.Vc
namespace Go.Proofs.YtabifopphhpciaaGreatDoor
open Go Go.Vc Go.Vc.Asn Go.Gf
section
variable {w0 w : World} {F : Asn} {q : Nat} {f : Option Addr} {s : Slc} {rs : Rws}
theorem fieldL_zero : fieldL.toArray[0]? = some (.int .i64 285) := by
  rw [List.getElem?_toArray]; unfold fieldL; exact List.getElem?_cons_zero
theorem poly_c {g : Nat} (hK : Blk w g Ty_gf_Field fieldL.toArray) : Calls PP F_gf_Field_Poly #[.pointer (some (blk g))] w (Rt fun v w' => v = .int .i64 285 ∧ w' = w) := by
  refine sim_gf_Field_Poly _ _ _ ?_
  unfold vc_gf_Field_Poly
  exact ⟨fun h => by simp at h, fun _ => ⟨_, rfl, 285, hK.cell (i := 0) fieldL_zero, Rt.ok ⟨rfl, rfl⟩⟩⟩
theorem mul_mat_c {g q1 q2 m n l : Nat} {s1 s2 : Slc} {rs1 rs2 : Rws} (hK : Blk w g Ty_gf_Field fieldL.toArray) (h1 : RdM w q1 (some (blk g)) s1 rs1) (h2 : RdM w q2 (some (blk g)) s2 rs2) (hs1 : Shp (mt rs1) m n) (hs2 : Shp (mt rs2) n l)
    (hm : 1 ≤ m) (hm2 : m ≤ 256) (hn : 1 ≤ n) (hn2 : n ≤ 256) (hl2 : l ≤ 256) :
    Calls PP F_matrix_Matrix_Mul #[.pointer (some (blk q1)), .pointer (some (blk q2))] w (Rt fun v w' => ∃ q s rs, v = .tuple #[.pointer (some (blk q)), .int .i64 0] ∧ Shp (mt rs) m l ∧ (∀ i c, i < m → c < l → ent (mt rs) i c = dot n (ent (mt rs1) i) fun j => ent (mt rs2) j c) ∧ Hp w w' (star (matA q (some (blk g)) s rs) emp)) := by
  refine sim_matrix_Matrix_Mul _ _ _ _ ?_
  unfold vc_matrix_Matrix_Mul
  have hl1 : rs1.length = m := by have := hs1.len; simpa using this
  have hl2' : rs2.length = n := by have := hs2.len; simpa using this
  have r1 : ∀ i (hi : i < rs1.length), rs1[i].2.length = n := fun i hi => hs1.row _ (List.mem_map_of_mem (List.getElem_mem hi))
  have r2 : ∀ i (hi : i < rs2.length), rs2[i].2.length = l := fun i hi => hs2.row _ (List.mem_map_of_mem (List.getElem_mem hi))
  refine ⟨fun h => by simp at h, fun _ => ⟨fun b w' => b = false ∧ Fr [] w w', ⟨fun h => by simp at h, fun _ => ?_⟩, ?_⟩⟩
  · have f1 : Fr [] w (w.drewN 1) := ((Hp.start w).drew 1).fr
    refine ⟨_, rfl, some (blk g), ((h2.fr0 f1).box.cell (i := 0) rfl), _, rfl, some (blk g), ((h1.fr0 f1).box.cell (i := 0) rfl), ?_⟩
    refine call (poly_c (hK.fr f1 (by simp))) ?_
    rintro _ w1 ⟨rfl, rfl⟩
    refine ⟨_, rfl, ((h1.fr0 f1).box.cell (i := 0) rfl), call (poly_c (hK.fr f1 (by simp))) ?_⟩
    rintro _ w1 ⟨rfl, rfl⟩
    exact ⟨_, rfl, rfl, f1⟩
  · rintro _ w12 ⟨rfl, f12⟩
    refine ⟨fun h => by simp at h, fun _ => ⟨_, rfl, s1, (h1.fr0 f12).box.cell (i := 1) rfl, (h1.fr0 f12).rows.cel.rdS (i := 0) (by omega) fun a ha => ⟨_, rfl, s2, (h2.fr0 f12).box.cell (i := 1) rfl, fun k => ⟨fun h => ?_, fun _ => ?_⟩⟩⟩⟩
    · have e1 := ((h1.fr0 f12).rows.at_ (i := 0) (by omega)).len
      have e2 := (h2.rows.cel).lenM
      rw [e1, e2, r1 0 (by omega)] at h
      simp at h
      omega
    have H := (((Hp.start w).fr0 f12).drew k).drew 1
    have h1' := h1.fr0 H.fr
    have h2' := h2.fr0 H.fr
    refine ⟨some (blk g), h1'.box.cell (i := 0) rfl, s1, h1'.box.cell (i := 1) rfl, s2, h2'.box.cell (i := 1) rfl, h2'.rows.cel.rdS (i := 0) (by omega) fun a2 ha2 => ?_⟩
    have e1 := h1.rows.cel.lenM
    have e2 := (h2'.rows.at_ (i := 0) (by omega)).len
    rw [r2 0 (by omega)] at e2
    refine call (blank_c (by omega) (by omega) H) ?_
    rintro _ w2 ⟨q, s, rs0, rfl, hrs0, H⟩
    rw [e1, e2, hl1] at hrs0
    have hS0 : Shp (mt rs0) m l := by unfold mt; rw [hrs0]; exact Shp.blank _ _
    have hZ0 : ∀ i c, ent (mt rs0) i c = 0 := fun i c => by unfold mt; rw [hrs0]; exact ent_blank _ _ _ _
    refine ⟨_, rfl, s1, (h1.fr0 H.fr).box.cell (i := 1) rfl, fun i w' => ∃ (j : Nat) (rs : Rws), i = (j : Int) ∧ j ≤ m ∧ Shp (mt rs) m l ∧ (∀ i c, i < j → c < l → ent (mt rs) i c = dot n (ent (mt rs1) i) fun j => ent (mt rs2) j c) ∧ (∀ i c, j ≤ i → ent (mt rs) i c = 0) ∧ Hp w w' (star (bk q Ty_matrix_Matrix #[.pointer (some (blk g)), s.v]) (star (own Ty_sl_uint8 1 s (rs.map fun r => r.1.v)) (star (all rwA rs) emp))), fun i _ => m - i.toNat, ⟨0, rs0, rfl, Nat.zero_le _, hS0, fun i c hi => by omega, fun i c _ => hZ0 i c, matOpen H⟩, ?_⟩
    rintro _ w3 ⟨j, rs, rfl, hj, hS, hent, hz, H⟩
    have hrl : rs.length = m := by have := hS.len; simpa using this
    refine ⟨fun h => ?_, fun h => ?_⟩
    · have hlt : j < m := by simp only [decide_eq_true_eq] at h; omega
      refine ⟨fun w' => ∃ (rs : Rws), Shp (mt rs) m l ∧ (∀ i c, i < j + 1 → c < l → ent (mt rs) i c = dot n (ent (mt rs1) i) fun j => ent (mt rs2) j c) ∧ (∀ i c, j + 1 ≤ i → ent (mt rs) i c = 0) ∧ Hp w w' (star (bk q Ty_matrix_Matrix #[.pointer (some (blk g)), s.v]) (star (own Ty_sl_uint8 1 s (rs.map fun r => r.1.v)) (star (all rwA rs) emp))), ?_, ?_⟩
      · refine (h1.fr0 H.fr).rows.cel.rdS (by omega) fun a3 ha3 => ?_
        refine ⟨fun c w' => ∃ (t : Nat) (rs : Rws), c = (t : Int) ∧ t ≤ n ∧ Shp (mt rs) m l ∧ (∀ i c, i < j → c < l → ent (mt rs) i c = dot n (ent (mt rs1) i) fun j => ent (mt rs2) j c) ∧ (∀ i c, j + 1 ≤ i → ent (mt rs) i c = 0) ∧ (∀ c, c < l → ent (mt rs) j c = sumX t fun x => mul (ent (mt rs1) j x) (ent (mt rs2) x c)) ∧ Hp w w' (star (bk q Ty_matrix_Matrix #[.pointer (some (blk g)), s.v]) (star (own Ty_sl_uint8 1 s (rs.map fun r => r.1.v)) (star (all rwA rs) emp))), fun c _ => n - c.toNat, ⟨0, rs, rfl, Nat.zero_le _, hS, hent, fun i c hi => hz i c (by omega), fun c _ => hz j c (Nat.le_refl _), H⟩, ?_⟩
        rintro _ w5 ⟨t, rs, rfl, htn, hS, hent, hz, hrw, H⟩
        have hrl : rs.length = m := by have := hS.len; simpa using this
        have hjr : j < rs.length := by omega
        have hrow : rs[j].2.length = l := hS.row _ (List.mem_map_of_mem (List.getElem_mem hjr))
        have hrd := (h1.fr0 H.fr).rows.at_ (i := j) (by omega)
        have hrdl := hrd.len
        rw [r1 j (by omega)] at hrdl
        refine ⟨fun h => ?_, fun h => ?_⟩
        · have htlt : t < n := by simp only [decide_eq_true_eq] at h; omega
          refine hrd.rd (i := t) (by rw [r1 j (by omega)]; exact htlt) fun a4 ha4 => ?_
          have H := H.drew 1
          have hR := rdR H.drop
          have hR2 := (h2.fr0 H.fr).rows
          refine ⟨_, (h1.fr0 H.fr).box.cell (i := 0) rfl, _, rfl, s, H.cell (b := q) (i := 1) rfl, hR.cel.rdS hjr fun a5 ha5 => ⟨s2, (h2.fr0 H.fr).box.cell (i := 1) rfl, hR2.cel.rdS (i := t) (by omega) fun a6 ha6 => ?_⟩⟩
          have H2 := pickRow rs H hjr
          refine call (addMul_c (p := g) (bs := rs[j].2) (xs := (rs2[t]'(by omega)).2) ((rs1[j]'(by omega)).2[t]'(by rw [r1 j (by omega)]; exact htlt)) (fun w' A X => hK.fr X.fr (by simp)) (fun w' A X => (h2.fr0 X.fr).rows.at_ (by omega)) (by rw [r2 t (by omega), hrow]) (by omega) H2) ?_
          rintro _ w6 ⟨rfl, H⟩
          have H := putRow hjr H
          rw [ofW t (by omega)]
          refine ⟨_, rfl, ⟨t + 1, _, rfl, by omega, ?_, ?_, ?_, ?_, by rw [upd_sl]; exact (H.own s).blk q⟩, by dsimp only; omega⟩
          · rw [upd_mt]; exact hS.set (by rw [addR_len (by rw [r2 t (by omega), hrow])]; exact hrow)
          · intro i c hi hc
            rw [upd_mt, ent_set (by simpa using hjr), if_neg (by omega)]
            exact hent i c hi hc
          · intro i c hi
            rw [upd_mt, ent_set (by simpa using hjr), if_neg (by omega)]
            exact hz i c hi
          · intro c hc
            have hm1 : (mt rs)[j]'(by simpa using hjr) = rs[j].2 := by simp [mt]
            rw [upd_mt, ent_set (by simpa using hjr), if_pos rfl, addR_at (by rw [r2 t (by omega), hrow]), ← hm1, ← ent_at (by simpa using hjr), hrw c hc]
            show _ = sumX t _ ^^^ mul _ _
            congr 2
            · rw [ent_at2 (by simp [mt]; omega) (by simp [mt]; rw [r1 j (by omega)]; exact htlt)]; simp [mt]
            · rw [ent_at (by simp [mt]; omega)]; simp [mt]
        · have hte : t = n := by simp only [decide_eq_false_iff_not] at h; omega
          subst hte
          refine ⟨rs, hS, fun i c hi hc => ?_, hz, H⟩
          by_cases hij : i = j
          · subst hij; exact hrw c hc
          · exact hent i c (by omega) hc
      · rintro w4 ⟨rs, hS, hent, hz, H⟩
        rw [ofW j (by omega)]
        exact ⟨⟨j + 1, rs, rfl, by omega, hS, hent, hz, H⟩, by dsimp only; omega⟩
    · have hje : j = m := by simp only [decide_eq_false_iff_not] at h; omega
      subst hje
      exact Rt.ok ⟨q, s, rs, rfl, hS, hent, matClose H⟩
end
end Go.Proofs.YtabifopphhpciaaGreatDoor

namespace Go.Vc
open Go Go.Vc.Asn
section
variable {P : Program} {t ty e bytes : Nat} {z : Value} {s : Slc} {w0 w : World} {A F : Asn} {cs : List Value}
theorem Hp.app1 (T : SlT P t e 1 bytes z) [h : TakeS s A e 1 cs F] (H : Hp w0 w A) {v : Value} (h1 : v.oneCell' = true) {K : Slc → World → Prop} (hm : s.l + 1 ≤ maxLen) (hb : (s.l + 1) * bytes ≤ 140737488355328)
    (k : ∀ s' w', Hp w0 w' (star (Asn.own e 1 s' (cs ++ [v])) F) → s'.l = s.l + 1 → K s' w') : New w #[v] e fun b w' => App P t t ty w' s.v (Slc.v (Slc.mk (some (Vc.blk b)) 1 1)) K := by
  refine (H.own s).new fun b w1 H => ?_
  have hC : Cel w1 (Slc.mk (some (Vc.blk b)) 1 1) 1 [v] := Cel.block (b := b) (e := e) (l := [v]) (H.isBlk (b := b)) rfl (Nat.le_refl _) (Nat.le_refl _)
  exact (H.drop).app (s := s) T hC (fun u hu => by simp at hu; subst hu; exact h1) hm hb fun s' w' H hl => k s' w' H hl
end
end Go.Vc
namespace Go.Proofs.YtabifopphhpciaaGreatDoor
open Go Go.Vc Go.Vc.Asn Go.Gf
theorem mt_at {rs : Rws} {j : Nat} (hj : j < rs.length) : (mt rs)[j]'(by simpa [mt] using hj) = rs[j].2 := by simp [mt]
theorem mt_len (rs : Rws) : (mt rs).length = rs.length := by simp [mt]
section
variable {w0 w : World} {F : Asn} {q : Nat} {f : Option Addr} {s : Slc} {rs : Rws}
theorem rows_c (hM : RdM w q f s rs) (hl : rs.length ≤ 1048576) (hl2 : ∀ r ∈ rs, r.2.length ≤ 1073741824) :
    Calls PP F_matrix_Matrix_Rows #[.pointer (some (blk q))] w (Rt fun v w' => ∃ s' rs', v = s'.v ∧ mt rs' = mt rs ∧ Hp w w' (star (rwsA s' rs') emp)) := by
  refine sim_matrix_Matrix_Rows _ _ _ ?_
  unfold vc_matrix_Matrix_Rows
  have hsl := hM.rows.cel.lenM
  refine ⟨fun h => by simp at h, fun _ => ⟨_, rfl, s, hM.box.cell (i := 1) rfl, ?_⟩⟩
  refine Hp.makeCap (l := 0) slT_sl_sl_uint8 rfl (by omega) (by omega) (Nat.zero_le _) (Hp.start w) fun b w1 H => ?_
  refine ⟨s, (hM.fr0 H.fr).box.cell (i := 1) rfl, fun o i w' => ∃ (j : Nat) (rs' : Rws), i = (j : Int) ∧ j ≤ rs.length ∧ mt rs' = (mt rs).take j ∧ Hp w w' (star (own Ty_sl_uint8 1 o (rs'.map fun r => r.1.v)) (star (all rwA rs') emp)), fun _ i _ => rs.length - i.toNat, ⟨0, [], rfl, Nat.zero_le _, rfl, H.ent (Ent.star (Ent.refl _) emp_l)⟩, ?_⟩
  rintro o _ w2 ⟨j, rs', rfl, hj, hrs, H⟩
  have hrl : rs'.length = j := by have := congrArg List.length hrs; simpa [Nat.min_eq_left hj] using this
  have hol := (H.cel (s := o)).lenM
  refine ⟨fun h => ?_, fun h => ?_⟩
  · have hlt : j < rs.length := by simp only [decide_eq_true_eq] at h; omega
    refine (hM.fr0 H.fr).rows.cel.rdS hlt fun a ha => ?_
    have hB := (hM.fr0 H.fr).rows.at_ hlt
    have hBl := hB.len
    have hbl := hl2 _ (List.getElem_mem hlt)
    refine Hp.app (s := Slc.nil) slT_sl_uint8 (H.nilRow Ty_uint8 1) hB (one_u8 _) (by unfold maxLen; simp only; omega) (by simp only; omega) fun s34 w3 H hs => ?_
    rw [List.nil_append] at H
    refine Hp.app1 (s := o) slT_sl_sl_uint8 H rfl (by unfold maxLen; omega) (by omega) fun s40 w4 H hs2 => ?_
    rw [ofW j (by omega)]
    refine ⟨⟨j + 1, rs' ++ [(s34, rs[j].2)], rfl, by omega, ?_, ?_⟩, by dsimp only; omega⟩
    · show (rs' ++ [_]).map _ = _
      have hrs : rs'.map (fun r => r.2) = (rs.map fun r => r.2).take j := hrs
      rw [List.map_append, hrs, List.take_add_one, List.getElem?_map, List.getElem?_eq_getElem hlt]
      rfl
    · have H : Hp w w4 (star (own Ty_sl_uint8 1 s40 (rs'.map (fun r => r.1.v) ++ [s34.v])) (star (rwA (s34, rs[j].2)) (star (all rwA rs') emp))) := H
      rw [List.map_append]
      exact H.ent (Ent.star (Ent.refl _) (Asn.assoc'.trans (Ent.star (all_snoc rwA _ rs') (Ent.refl _))))
  · have hje : j = rs.length := by simp only [decide_eq_false_iff_not] at h; omega
    subst hje
    rw [List.take_of_length_le (by simp)] at hrs
    exact Rt.ok ⟨o, rs', rfl, hrs, H.assoc'⟩
theorem indexB_c {fn : FuncId} {cap : Array Value} {p : Slc → Bool} (hC : Cel w s 1 (rs.map fun r => r.1.v)) (hl : rs.length ≤ 1099511627776) (hb : bodyB PP fn = true)
    (hp : ∀ w' (l : Slc), Fr [] w w' → Calls PP fn (#[l.v] ++ cap) w' (Rt fun v w'' => v = .bool (p l) ∧ Fr [] w' w'')) :
    Calls PP F_slices_IndexFunc_byte_byte_147 #[s.v, .func (.func fn) #[] cap] w (Rt fun v w' => ∃ i : Int, v = .int .i64 i ∧ decide (0 ≤ i) = rs.any (fun r => p r.1) ∧ Fr [] w w') := by
  refine sim_slices_IndexFunc_byte_byte_147 _ _ _ _ ?_
  unfold vc_slices_IndexFunc_byte_byte_147
  have hsl := hC.lenM
  refine ⟨fun i w' => ∃ j : Nat, i = (j : Int) ∧ j ≤ rs.length ∧ (∀ k (hk : k < rs.length), k < j → p rs[k].1 = false) ∧ Fr [] w w', fun i _ => rs.length - i.toNat, ⟨0, rfl, Nat.zero_le _, fun k _ hk => by omega, Fr.refl _ _⟩, ?_⟩
  rintro _ w2 ⟨j, rfl, hj, hno, f2⟩
  refine ⟨fun h => ?_, fun h => ?_⟩
  · have hlt : j < rs.length := by simp only [decide_eq_true_eq] at h; omega
    refine (hC.fr0 f2).rdS hlt fun a ha => ⟨fn, cap, rfl, hb, call (hp w2 _ f2) ?_⟩
    rintro _ w3 ⟨rfl, f3⟩
    refine ⟨_, rfl, fun h => Rt.ok ⟨_, rfl, ?_, f2.then_ f3⟩, fun h => ?_⟩
    · rw [show decide (0 ≤ (j : Int)) = true by simp]
      symm
      exact List.any_eq_true.2 ⟨rs[j], List.getElem_mem hlt, h⟩
    · rw [ofW j (by omega)]
      refine ⟨⟨j + 1, rfl, by omega, fun k hk hkj => ?_, f2.then_ f3⟩, by dsimp only; omega⟩
      by_cases hkj2 : k = j
      · subst hkj2; exact h
      · exact hno k hk (by omega)
  · have hje : j = rs.length := by simp only [decide_eq_false_iff_not] at h; omega
    refine Rt.ok ⟨-1, rfl, ?_, f2⟩
    symm
    show rs.any _ = false
    rw [List.any_eq_false]
    intro r hr
    obtain ⟨k, hk, rfl⟩ := List.getElem_of_mem hr
    rw [hno k hk (by omega)]
    simp
theorem containsB_c {fn : FuncId} {cap : Array Value} {p : Slc → Bool} (hC : Cel w s 1 (rs.map fun r => r.1.v)) (hl : rs.length ≤ 1099511627776) (hb : bodyB PP fn = true)
    (hp : ∀ w' (l : Slc), Fr [] w w' → Calls PP fn (#[l.v] ++ cap) w' (Rt fun v w'' => v = .bool (p l) ∧ Fr [] w' w'')) :
    Calls PP F_slices_ContainsFunc_byte_byte_111 #[s.v, .func (.func fn) #[] cap] w (Rt fun v w' => v = .bool (rs.any fun r => p r.1) ∧ Fr [] w w') := by
  refine sim_slices_ContainsFunc_byte_byte_111 _ _ _ _ ?_
  unfold vc_slices_ContainsFunc_byte_byte_111
  refine call (indexB_c hC hl hb hp) ?_
  rintro _ w1 ⟨i, rfl, hi, f⟩
  exact ⟨i, rfl, Rt.ok ⟨by rw [hi], f⟩⟩
theorem cpy_all {α : Type} {k : Nat} {cs ys : List α} (h : cs.length = k) (h2 : ys.length = k) : cs.take 0 ++ ys.take k ++ cs.drop (0 + k) = ys := by
  rw [List.take_zero, List.nil_append, List.take_of_length_le (by omega), List.drop_eq_nil_of_le (by omega), List.append_nil]
theorem matNew_c {g m n : Nat} (hR : RdR w s rs) (hS : Shp (mt rs) m n) (hm : 1 ≤ m) (hm2 : m ≤ 256) (hn : 1 ≤ n) (hn2 : n ≤ 256) :
    Calls PP F_matrix_New #[.pointer (some (blk g)), s.v] w (Rt fun v w' => ∃ q s' rs', v = .tuple #[.pointer (some (blk q)), .int .i64 0] ∧ mt rs' = mt rs ∧ Hp w w' (star (matA q (some (blk g)) s' rs') emp)) := by
  refine sim_matrix_New _ _ _ _ ?_
  unfold vc_matrix_New
  have hsl := hR.cel.lenM
  have hrl : rs.length = m := by have := hS.len; simpa using this
  have hrn : ∀ i (hi : i < rs.length), rs[i].1.l = n := fun i hi => by rw [(hR.at_ hi).len]; exact hS.row _ (List.mem_map_of_mem (List.getElem_mem hi))
  refine (Hp.start w).new fun b w1 H => ⟨fun h => by simp at h, fun _ => ⟨false, fun h => ?_, fun h => ?_, fun b' w' => b' = false ∧ Hp w w' (star (bk b Ty_sl_sl_uint8 #[s.v]) emp), ⟨fun _ => ?_, fun h => by simp at h⟩, ?_⟩⟩
  · refine (hR.fr0 H.fr).cel.rdS (i := 0) (by omega) fun a ha => ?_
    rw [hrn 0 (by omega)]
    exact (decide_eq_false (by omega)).symm
  · simp at h; omega
  · refine call (containsB_c (p := fun l => decide ((l.l : Int) ≠ (rs[0]'(by omega)).1.l)) (hR.fr0 H.fr).cel (by omega) (by kernel_rfl) fun w' l f => ?_) ?_
    · refine sim_matrix_New_c1 _ _ _ _ ?_
      unfold vc_matrix_New_c1
      exact ⟨s, (H.fr0 f).cell (b := b) (i := 0) rfl, ((hR.fr0 H.fr).fr0 f).cel.rdS (i := 0) (by omega) fun a ha => Rt.ok ⟨rfl, Fr.refl _ _⟩⟩
    · rintro _ w2 ⟨rfl, f⟩
      refine ⟨_, rfl, ?_, H.fr0 f⟩
      rw [List.any_eq_false]
      intro r hr
      obtain ⟨k, hk, rfl⟩ := List.getElem_of_mem hr
      simp only [decide_eq_true_eq, ne_eq, Decidable.not_not]
      rw [hrn k hk, hrn 0 (by omega)]
  · rintro _ w2 ⟨rfl, H⟩
    refine ⟨fun h => by simp at h, fun _ => ⟨s, H.cell (b := b) (i := 0) rfl, false, fun _ => ⟨s, H.cell (b := b) (i := 0) rfl, (hR.fr0 H.fr).cel.rdS (i := 0) (by omega) fun a ha => ?_⟩, fun h => ?_, fun h => by simp at h, fun _ => ?_⟩⟩
    · rw [hrn 0 (by omega)]
      exact (decide_eq_false (by omega)).symm
    · simp at h; omega
    · have H := H.drew 1
      refine ⟨s, H.cell (b := b) (i := 0) rfl, s, H.cell (b := b) (i := 0) rfl, (hR.fr0 H.fr).cel.rdS (i := 0) (by omega) fun a ha => ?_⟩
      refine call (blank_c (m := s.l) (n := (rs[0]'(by omega)).1.l) (by omega) (by rw [hrn 0 (by omega)]; omega) H) ?_
      rintro _ w3 ⟨q, t, rs0, rfl, hrs0, H⟩
      rw [hrn 0 (by omega), hsl, hrl] at hrs0
      have hS0 : Shp (mt rs0) m n := by unfold mt; rw [hrs0]; exact Shp.blank _ _
      refine ⟨_, rfl, s, H.cell (b := b) (i := 0) rfl, fun i w' => ∃ (j : Nat) (rs' : Rws), i = (j : Int) ∧ j ≤ m ∧ Shp (mt rs') m n ∧ (∀ k, k < j → (mt rs')[k]? = (mt rs)[k]?) ∧ Hp w w' (star (bk q Ty_matrix_Matrix #[.pointer (some (blk g)), t.v]) (star (own Ty_sl_uint8 1 t (rs'.map fun r => r.1.v)) (star (all rwA rs') (star (bk b Ty_sl_sl_uint8 #[s.v]) emp)))), fun i _ => m - i.toNat, ⟨0, rs0, rfl, Nat.zero_le _, hS0, fun k hk => by omega, matOpen H⟩, ?_⟩
      rintro _ w4 ⟨j, rs', rfl, hj, hS', hk, H⟩
      have hrl' : rs'.length = m := by have := hS'.len; simpa using this
      refine ⟨fun h => ?_, fun h => ?_⟩
      · have hlt : j < m := by simp only [decide_eq_true_eq] at h; omega
        have hjr : j < rs'.length := by omega
        refine (hR.fr0 H.fr).cel.rdS (i := j) (by omega) fun a2 ha2 => ⟨_, rfl, t, H.cell (b := q) (i := 1) rfl, (rdR H.drop).cel.rdS hjr fun a3 ha3 => ?_⟩
        have hB := (hR.fr0 H.fr).at_ (i := j) (by omega)
        have hBl := hB.len
        have hB' := (rdR H.drop).at_ hjr
        have hBl' := hB'.len
        have hrow : rs'[j].2.length = n := hS'.row _ (List.mem_map_of_mem (List.getElem_mem hjr))
        have hrow0 : (rs[j]'(by omega)).2.length = n := hS.row _ (List.mem_map_of_mem (List.getElem_mem _))
        refine Hp.cpy (s := rs'[j].1) (d := rs'[j].1) (o := 0) slT_sl_uint8 (pickRow rs' H hjr) hB (one_u8 _) (fun _ p hp => by rw [hp]; rfl) (by rw [List.length_map]; omega) fun w5 H => ?_
        rw [show min (rs[j]'(by omega)).1.l rs'[j].1.l = n by omega, cpy_all (by rw [List.length_map]; omega) (by rw [List.length_map]; omega)] at H
        have H := putRow hjr H
        rw [ofW j (by omega)]
        refine ⟨⟨j + 1, _, rfl, by omega, ?_, ?_, by rw [upd_sl]; exact (H.own t).blk q⟩, by dsimp only; omega⟩
        · rw [upd_mt]; exact hS'.set hrow0
        · intro k hkj
          rw [upd_mt, List.getElem?_set]
          by_cases h2 : j = k
          · subst h2
            rw [if_pos rfl, if_pos (by rw [mt_len]; exact hjr), List.getElem?_eq_getElem (by rw [mt_len]; omega), mt_at (by omega)]
          · rw [if_neg h2]; exact hk k (by omega)
      · have hje : j = m := by simp only [decide_eq_false_iff_not] at h; omega
        subst hje
        refine Rt.ok ⟨q, t, rs', rfl, List.ext_getElem? fun k => ?_, matClose (H.blk b).drop⟩
        · by_cases hkj : k < j
          · exact hk k hkj
          · rw [List.getElem?_eq_none (by rw [mt_len]; omega), List.getElem?_eq_none (by rw [mt_len]; omega)]
end
end Go.Proofs.YtabifopphhpciaaGreatDoor

namespace Go.Gf
section
variable {A : Mat} {n col i : Nat} {a : UInt8}
theorem done_swap (h : Done A n col) (hc : col ≤ i) (hi : i < n) : Done (fun r => if r = col then A i else if r = i then A col else A r) n col := fun j hj r hr => by
  dsimp only
  by_cases h1 : r = col
  · rw [if_pos h1, h j hj i hi, if_neg (by omega), if_neg (by omega)]
  · rw [if_neg h1]
    by_cases h2 : r = i
    · rw [if_pos h2, h j hj col (by omega), if_neg (by omega), if_neg (by omega)]
    · rw [if_neg h2, h j hj r hr]
theorem done_scale (h : Done A n col) (hc : col < n) : Done (fun r => if r = col then fun c => mul a (A col c) else A r) n col := fun j hj r hr => by
  dsimp only
  by_cases h1 : r = col
  · rw [if_pos h1, h j hj col hc, if_neg (by omega), if_neg (by omega), mul_zero]
  · rw [if_neg h1, h j hj r hr]
theorem done_add (h : Done A n col) (hc : col < n) : Done (fun r => if r = i then fun c => A i c ^^^ mul a (A col c) else A r) n col := fun j hj r hr => by
  dsimp only
  by_cases h1 : r = i
  · subst h1
    rw [if_pos rfl, h j hj col hc, h j hj r hr, if_neg (show ¬ col = j by omega), mul_zero, add_zero]
  · rw [if_neg h1, h j hj r hr]
theorem done_next (h : Done A n col) (h1 : A col col = 1) (h2 : ∀ r, r < n → r ≠ col → A r col = 0) : Done A n (col + 1) := fun j hj r hr => by
  by_cases hjc : j = col
  · subst hjc
    by_cases hr2 : r = j
    · rw [if_pos hr2, hr2, h1]
    · rw [if_neg hr2, h2 r hr hr2]
  · exact h j (by omega) r hr
end
theorem ent_setF {R : List (List UInt8)} {i : Nat} {r : List UInt8} (hi : i < R.length) : ent (R.set i r) = fun j => if j = i then fun c => r.getD c 0 else ent R j := by
  funext j c
  rw [ent_set hi]
  by_cases h : j = i
  · rw [if_pos h, if_pos h]
  · rw [if_neg h, if_neg h]
theorem ent_row {R : List (List UInt8)} {i : Nat} (hi : i < R.length) : (fun c => R[i].getD c 0) = ent R i := by funext c; rw [ent_at hi]
def mulR (a : UInt8) (l : List UInt8) : List UInt8 := l.map fun x => mul x a
theorem mulR_at (a : UInt8) (l : List UInt8) (c : Nat) : (mulR a l).getD c 0 = mul a (l.getD c 0) := by
  unfold mulR
  simp only [List.getD_eq_getElem?_getD, List.getElem?_map]
  cases l[c]? with
  | none => simp [mul_zero]
  | some x => simp [mul_comm]
end Go.Gf

namespace Go.Proofs.YtabifopphhpciaaGreatDoor
open Go Go.Vc Go.Vc.Asn Go.Gf
def RdC (w0 : World) (F : Asn) (a : Addr) (v : Value) : Prop := ∀ w' A, Hp w0 w' (star A F) → w'.cell? a = some v
def swp (rs : Rws) (i j : Nat) : Rws := (rs.set i (rs.getD j (Slc.nil, []))).set j (rs.getD i (Slc.nil, []))
theorem swp_at {rs : Rws} {i j : Nat} (hi : i < rs.length) (hj : j < rs.length) : swp rs i j = (rs.set i rs[j]).set j rs[i] := by
  unfold swp
  rw [List.getD_eq_getElem?_getD, List.getD_eq_getElem?_getD, List.getElem?_eq_getElem hi, List.getElem?_eq_getElem hj]; rfl
theorem swp_mt {rs : Rws} {i j : Nat} (hi : i < rs.length) (hj : j < rs.length) : mt (swp rs i j) = ((mt rs).set i ((mt rs)[j]'(by rw [mt_len]; exact hj))).set j ((mt rs)[i]'(by rw [mt_len]; exact hi)) := by
  rw [swp_at hi hj]
  simp only [mt, List.map_set, List.getElem_map]
theorem swp_ent {rs : Rws} {i j : Nat} (hi : i < rs.length) (hj : j < rs.length) : ent (mt (swp rs i j)) = fun r => if r = i then ent (mt rs) j else if r = j then ent (mt rs) i else ent (mt rs) r := by
  rw [swp_mt hi hj, ent_setF (by rw [List.length_set, mt_len]; exact hj), ent_setF (by rw [mt_len]; exact hi), ent_row, ent_row]
  funext r
  by_cases h1 : r = i
  · by_cases h2 : r = j
    · subst h1; subst h2; simp
    · simp [h1]
      intro h3; exact absurd (h1.trans h3) h2
  · by_cases h2 : r = j
    · simp [h2]
      intro h3; subst h3; rfl
    · simp [h1, h2]
section
variable {w0 w : World} {F : Asn} {s : Slc} {rs : Rws} {g i j : Nat} {b b5 : Addr}
abbrev OwR (s : Slc) (rs : Rws) (F : Asn) : Asn := star (own Ty_sl_uint8 1 s (rs.map fun r => r.1.v)) (star (all rwA rs) F)
theorem swap_c (hb : RdC w0 F b s.v) (H : Hp w0 w (OwR s rs F)) (hi : i < rs.length) (hj : j < rs.length) :
    Calls PP F_matrix_eliminate_c1 #[.int .i64 (i : Int), .int .i64 (j : Int), .pointer (some b)] w (Rt fun v w' => v = .tuple #[] ∧ Hp w0 w' (OwR s (swp rs i j) F)) := by
  refine sim_matrix_eliminate_c1 _ _ _ _ _ ?_
  unfold vc_matrix_eliminate_c1
  have H := H.drew 1
  have hC := (rdR H).cel
  have hB := hb _ _ H.drop
  refine ⟨s, hB, s, hB, s, hB, hC.rdS hj fun a ha => ⟨s, hB, hC.rdS hi fun a2 ha2 => Hp.wr (s := s) H (by simpa using hi) fun w1 H => ⟨hb _ _ H.drop, Hp.wr (s := s) H (by simpa using hj) fun w2 H => Rt.ok ⟨rfl, ?_⟩⟩⟩⟩
  have e : (swp rs i j).map (fun r => r.1.v) = ((rs.map fun r => r.1.v).set i rs[j].1.v).set j rs[i].1.v := by
    rw [swp_at hi hj, List.map_set, List.map_set]
  unfold OwR
  rw [e]
  refine H.ent (Ent.star (Ent.refl _) (Ent.star (all_prm ?_) (Ent.refl _)))
  rw [swp_at hi hj]
  exact (List.set_set_perm hi hj).symm
theorem scale_c {c : UInt8} (hK : Blk w0 g Ty_gf_Field fieldL.toArray) (hb : RdC w0 F b s.v) (hb5 : RdC w0 F b5 (.pointer (some (blk g)))) (H : Hp w0 w (OwR s rs F)) (hi : i < rs.length) (hl : rs[i].2.length ≤ 1099511627776) :
    Calls PP F_matrix_eliminate_c3 #[.int .i64 (i : Int), u8v c, .pointer (some b), .pointer (some b5)] w (Rt fun v w' => v = .tuple #[] ∧ Hp w0 w' (OwR s (upd rs i (mulR c rs[i].2)) F)) := by
  refine sim_matrix_eliminate_c3 _ _ _ _ _ _ ?_
  unfold vc_matrix_eliminate_c3
  have hrl := ((rdR H).at_ hi).len
  refine ⟨s, hb _ _ H.drop, (rdR H).cel.rdS hi fun a ha => ⟨fun x w' => ∃ (t : Nat) (cur : List UInt8), x = (t : Int) ∧ t ≤ rs[i].2.length ∧ cur.length = rs[i].2.length ∧ (∀ k, k < t → cur[k]? = (mulR c rs[i].2)[k]?) ∧ (∀ k, t ≤ k → cur[k]? = rs[i].2[k]?) ∧ Hp w0 w' (star (own Ty_uint8 1 rs[i].1 (cur.map u8v)) (star (all rwA (rs.take i ++ rs.drop (i + 1))) (star (own Ty_sl_uint8 1 s (rs.map fun r => r.1.v)) F))), fun x _ => rs[i].2.length - x.toNat, ⟨0, rs[i].2, rfl, Nat.zero_le _, rfl, fun k hk => by omega, fun _ _ => rfl, pickRow rs H hi⟩, ?_⟩⟩
  rintro _ w1 ⟨t, cur, rfl, ht, hcl, h1, h2, H⟩
  have hml : (mulR c rs[i].2).length = rs[i].2.length := by unfold mulR; rw [List.length_map]
  refine ⟨fun h => ?_, fun h => ?_⟩
  · have hlt : t < rs[i].2.length := by simp only [decide_eq_true_eq] at h; omega
    have hcu : t < cur.length := by omega
    refine Byt.rd (H.cel (s := rs[i].1)) hcu fun a2 ha2 => ?_
    have H := H.drew 1
    refine ⟨s, hb _ _ H.drop.drop, Cel.rdS (H.drop.drop.cel (s := s)) hi fun a3 ha3 => ⟨some (blk g), hb5 _ _ H.drop.drop, ?_⟩⟩
    refine call (mul_c (f := g) cur[t] c (hK.fr H.fr (by simp))) ?_
    rintro _ w2 ⟨rfl, f⟩
    have H := H.fr0 f
    refine ⟨_, rfl, hb _ _ H.drop.drop, Cel.at' (H.drop.drop.cel (s := s)) hi ha3, Hp.wr (s := rs[i].1) H (by simpa using hcu) fun w3 H => ?_⟩
    rw [← List.map_set] at H
    rw [ofW t (by omega)]
    refine ⟨⟨t + 1, cur.set t (mul cur[t] c), rfl, by omega, by rw [List.length_set]; exact hcl, fun k hk => ?_, fun k hk => ?_, H⟩, by dsimp only; omega⟩
    · rw [List.getElem?_set]
      by_cases hkt : t = k
      · subst hkt
        have e := h2 t (Nat.le_refl _)
        rw [List.getElem?_eq_getElem hcu, List.getElem?_eq_getElem hlt] at e
        injection e with e
        rw [if_pos rfl, if_pos hcu, e]
        unfold mulR
        rw [List.getElem?_map, List.getElem?_eq_getElem hlt]
        rfl
      · rw [if_neg hkt]; exact h1 k (by omega)
    · rw [List.getElem?_set, if_neg (by omega)]
      exact h2 k (by omega)
  · have hte : t = rs[i].2.length := by simp only [decide_eq_false_iff_not] at h; omega
    have e : cur = mulR c rs[i].2 := by
      apply List.ext_getElem?
      intro k
      by_cases hk : k < rs[i].2.length
      · exact h1 k (by omega)
      · rw [List.getElem?_eq_none (by omega), List.getElem?_eq_none (by omega)]
    rw [e] at H
    refine Rt.ok ⟨rfl, ?_⟩
    have H := putRow hi H
    unfold OwR
    rw [upd_sl]
    exact H.own s
theorem others {α : Type} {l : List α} {i j : Nat} (hi : i < l.length) (hj : j < l.length) (h : i ≠ j) : l[j] ∈ l.take i ++ l.drop (i + 1) := by
  rw [List.mem_append]
  by_cases h2 : j < i
  · left
    rw [List.mem_take_iff_getElem]
    exact ⟨j, by omega, rfl⟩
  · right
    rw [List.mem_drop_iff_getElem]
    exact ⟨j - (i + 1), by omega, by congr 1; omega⟩
theorem add_c {c : UInt8} (hK : Blk w0 g Ty_gf_Field fieldL.toArray) (hb : RdC w0 F b s.v) (hb5 : RdC w0 F b5 (.pointer (some (blk g)))) (H : Hp w0 w (OwR s rs F)) (hi : i < rs.length) (hj : j < rs.length) (hij : i ≠ j) (hl : rs[i].2.length ≤ 1099511627776) (hl2 : rs[j].2.length = rs[i].2.length) :
    Calls PP F_matrix_eliminate_c2 #[.int .i64 (i : Int), u8v c, .int .i64 (j : Int), .pointer (some b5), .pointer (some b)] w (Rt fun v w' => v = .tuple #[] ∧ Hp w0 w' (OwR s (upd rs i (addR c rs[i].2 rs[j].2)) F)) := by
  refine sim_matrix_eliminate_c2 _ _ _ _ _ _ _ ?_
  unfold vc_matrix_eliminate_c2
  have H := H.drew 1
  refine ⟨_, hb5 _ _ H.drop, s, hb _ _ H.drop, (rdR H).cel.rdS hi fun a ha => ⟨s, hb _ _ H.drop, (rdR H).cel.rdS hj fun a2 ha2 => ?_⟩⟩
  refine call (addMul_c (p := g) (bs := rs[i].2) (xs := rs[j].2) c (fun w' A X => hK.fr X.fr (by simp)) (fun w' A X => ?_) hl2 hl (pickRow rs H hi)) ?_
  · have X2 : Hp w0 w' (star (all rwA (rs.take i ++ rs.drop (i + 1))) _) := X.drop
    exact rowsOf (rs := rs.take i ++ rs.drop (i + 1)) X2 rs[j] (others hi hj hij)
  · rintro _ w1 ⟨rfl, H⟩
    have H := putRow hi H
    refine ⟨_, rfl, Rt.ok ⟨rfl, ?_⟩⟩
    unfold OwR
    rw [upd_sl]
    exact H.own s
end
end Go.Proofs.YtabifopphhpciaaGreatDoor

namespace Go.Proofs.YtabifopphhpciaaGreatDoor
open Go Go.Vc Go.Vc.Asn Go.Gf
theorem entR {rs : Rws} {i c : Nat} (hi : i < rs.length) (hc : c < rs[i].2.length) : rs[i].2[c] = ent (mt rs) i c := by
  rw [ent_at2 (by rw [mt_len]; exact hi) (by rw [mt_at hi]; exact hc)]
  simp [mt]
theorem shpRow {rs : Rws} {m n i : Nat} (h : Shp (mt rs) m n) (hi : i < rs.length) : rs[i].2.length = n := h.row _ (List.mem_map_of_mem (List.getElem_mem hi))
theorem shpLen {rs : Rws} {m n : Nat} (h : Shp (mt rs) m n) : rs.length = m := by have := h.len; rwa [mt_len] at this
section
variable {w0 w : World} {F : Asn} {s : Slc} {rs : Rws} {g n : Nat} {M : Go.Gf.Mat}
theorem elim_c (hK : Blk w0 g Ty_gf_Field fieldL.toArray) (hS : Shp (mt rs) n (n + n)) (hn : n ≤ 256) (hT : Triv M n) (hSK : SameKer (aug M n) (ent (mt rs)) n (n + n)) (H : Hp w0 w (OwR s rs F)) :
    Calls PP F_matrix_eliminate #[.pointer (some (blk g)), s.v, .int .i64 (n : Int)] w (Rt fun v w' => ∃ (pv : Slc) (rs' : Rws), v = pv.v ∧ pv.l = n ∧ Shp (mt rs') n (n + n) ∧ Done (ent (mt rs')) n n ∧ SameKer (aug M n) (ent (mt rs')) n (n + n) ∧ Hp w0 w' (OwR s rs' F)) := by
  refine sim_matrix_eliminate _ _ _ _ _ ?_
  unfold vc_matrix_eliminate
  have hsl : s.l = n := by rw [(rdR H).cel.lenM]; exact shpLen hS
  refine H.new fun b5 w1 H => H.new fun b8 w2 H => ?_
  have H := H.nilRow Ty_int 1
  have H := (H.take (all rwA rs)).own s
  refine ⟨fun p x w' => ∃ (col : Nat) (ps : List Value) (rs : Rws), x = (col : Int) ∧ col ≤ n ∧ p.l = col ∧ Shp (mt rs) n (n + n) ∧ Done (ent (mt rs)) n col ∧ SameKer (aug M n) (ent (mt rs)) n (n + n) ∧ Hp w0 w' (OwR s rs (star (own Ty_int 1 p ps) (star (bk b8 Ty_sl_sl_uint8 #[s.v]) (star (bk b5 Ty_p_gf_Field #[.pointer (some (blk g))]) F)))), fun _ x _ => n - x.toNat,
    ⟨0, [], rs, rfl, Nat.zero_le _, rfl, hS, fun j hj => by omega, hSK, H⟩, ?_⟩
  rintro p _ w3 ⟨col, ps, rs, rfl, hc, hpl, hS, hD, hSK, H⟩
  rw [hpl]
  refine ⟨fun h => ?_, fun h => ?_⟩
  · have hlt : col < n := by simp only [decide_eq_true_eq] at h; omega
    refine ⟨fun p w' => ∃ (ps : List Value) (rs : Rws), p.l = col + 1 ∧ Shp (mt rs) n (n + n) ∧ Done (ent (mt rs)) n (col + 1) ∧ SameKer (aug M n) (ent (mt rs)) n (n + n) ∧ Hp w0 w' (OwR s rs (star (own Ty_int 1 p ps) (star (bk b8 Ty_sl_sl_uint8 #[s.v]) (star (bk b5 Ty_p_gf_Field #[.pointer (some (blk g))]) F)))), ?_, ?_⟩
    · refine ⟨fun x w' => ∃ t : Nat, x = (t : Int) ∧ col ≤ t ∧ t ≤ n ∧ (∀ r, col ≤ r → r < t → ent (mt rs) r col = 0) ∧ Hp w0 w' (OwR s rs (star (own Ty_int 1 p ps) (star (bk b8 Ty_sl_sl_uint8 #[s.v]) (star (bk b5 Ty_p_gf_Field #[.pointer (some (blk g))]) F)))), fun x _ => n - x.toNat, ⟨col, rfl, Nat.le_refl _, hc, fun r h1 h2 => by omega, H⟩, ?_⟩
      rintro _ w4 ⟨t, rfl, hct, htn, hz, H⟩
      have hb : RdC w0 (star (own Ty_int 1 p ps) (star (bk b8 Ty_sl_sl_uint8 #[s.v]) (star (bk b5 Ty_p_gf_Field #[.pointer (some (blk g))]) F))) (blk b8) s.v := fun w' A X => X.cell (b := b8) (i := 0) rfl
      have hb5 : RdC w0 (star (own Ty_int 1 p ps) (star (bk b8 Ty_sl_sl_uint8 #[s.v]) (star (bk b5 Ty_p_gf_Field #[.pointer (some (blk g))]) F))) (blk b5) (.pointer (some (blk g))) := fun w' A X => X.cell (b := b5) (i := 0) rfl
      have hrl := shpLen hS
      refine ⟨s, H.cell (b := b8) (i := 0) rfl, fun h => ?_, fun h => ?_⟩
      · exfalso
        simp only [decide_eq_true_eq] at h
        obtain ⟨i, h1, h2, h3⟩ := has_pivot hT hSK hD hlt
        exact h3 (hz i h1 (by omega))
      · have htlt : t < n := by simp only [decide_eq_false_iff_not] at h; omega
        have htr : t < rs.length := by omega
        have hw := shpRow hS htr
        refine ⟨s, H.cell (b := b8) (i := 0) rfl, (rdR H).cel.rdS htr fun a ha => ((rdR H).at_ htr).rd (i := col) (by omega) fun a2 ha2 => ⟨fun h => ?_, fun h => ?_⟩⟩
        · have hne : ent (mt rs) t col ≠ 0 := by
            rw [← entR htr (by omega)]
            intro e
            rw [e] at h
            simp at h
          refine call (swap_c hb H (by omega) htr) ?_
          rintro _ w5 ⟨rfl, H⟩
          have e1 := swp_ent (rs := rs) (i := col) (j := t) (by omega) htr
          have hcr : col < rs.length := by omega
          have hl1 : (swp rs col t).length = n := by rw [swp_at hcr htr]; simp [hrl]
          have hS1 : Shp (mt (swp rs col t)) n (n + n) := by
            rw [swp_mt hcr htr]
            exact (hS.set (hS.at_ _)).set (hS.at_ _)
          have hD1 : Done (ent (mt (swp rs col t))) n col := by rw [e1]; exact done_swap hD hct htlt
          have hSK1 : SameKer (aug M n) (ent (mt (swp rs col t))) n (n + n) := by rw [e1]; exact hSK.trans (ker_swap hlt htlt)
          have hne1 : ent (mt (swp rs col t)) col col ≠ 0 := by rw [e1]; dsimp only; rw [if_pos rfl]; exact hne
          generalize swp rs col t = rs1 at *
          have H := H.drew 1
          have hc1 : col < rs1.length := by omega
          have hw1 := shpRow hS1 hc1
          refine ⟨rfl, _, H.cell (b := b5) (i := 0) rfl, s, H.cell (b := b8) (i := 0) rfl, (rdR H).cel.rdS hc1 fun a3 ha3 => ((rdR H).at_ hc1).rd (i := col) (by omega) fun a4 ha4 => ?_⟩
          have e2 := entR (rs := rs1) (c := col) hc1 (by omega)
          refine call (inv_c (f := g) rs1[col].2[col] (by rw [e2]; exact hne1) (hK.fr H.fr (by simp))) ?_
          rintro _ w6 ⟨rfl, f6⟩
          have H := H.fr0 f6
          refine ⟨_, _, rfl, call (scale_c (g := g) (c := inv rs1[col].2[col]) hK hb hb5 H hc1 (by omega)) ?_⟩
          rintro _ w7 ⟨rfl, H⟩
          have hA : ent (mt (upd rs1 col (mulR (inv rs1[col].2[col]) rs1[col].2))) = fun r => if r = col then fun c => mul (inv rs1[col].2[col]) (ent (mt rs1) col c) else ent (mt rs1) r := by
            rw [upd_mt, ent_setF (by rw [mt_len]; exact hc1)]
            funext r
            by_cases hr : r = col
            · rw [if_pos hr, if_pos hr]
              funext c
              rw [mulR_at, ent_at (by rw [mt_len]; exact hc1), mt_at hc1]
            · rw [if_neg hr, if_neg hr]
          have hS2 : Shp (mt (upd rs1 col (mulR (inv rs1[col].2[col]) rs1[col].2))) n (n + n) := by rw [upd_mt]; exact hS1.set (by unfold mulR; rw [List.length_map]; exact hw1)
          have hD2 : Done (ent (mt (upd rs1 col (mulR (inv rs1[col].2[col]) rs1[col].2)))) n col := by rw [hA]; exact done_scale hD1 hlt
          have hSK2 : SameKer (aug M n) (ent (mt (upd rs1 col (mulR (inv rs1[col].2[col]) rs1[col].2)))) n (n + n) := by rw [hA]; exact hSK1.trans (ker_scale hlt (inv_ne (by rw [e2]; exact hne1)))
          have hone : ent (mt (upd rs1 col (mulR (inv rs1[col].2[col]) rs1[col].2))) col col = 1 := by
            rw [hA]; dsimp only; rw [if_pos rfl, e2, mul_comm]; exact mul_inv hne1
          generalize upd rs1 col (mulR (inv rs1[col].2[col]) rs1[col].2) = rs2 at *
          refine ⟨rfl, s, H.cell (b := b8) (i := 0) rfl, fun x w' => ∃ (t : Nat) (rs : Rws), x = (t : Int) ∧ t ≤ n ∧ Shp (mt rs) n (n + n) ∧ Done (ent (mt rs)) n col ∧ SameKer (aug M n) (ent (mt rs)) n (n + n) ∧ ent (mt rs) col col = 1 ∧ (∀ r, r < t → r ≠ col → ent (mt rs) r col = 0) ∧ Hp w0 w' (OwR s rs (star (own Ty_int 1 p ps) (star (bk b8 Ty_sl_sl_uint8 #[s.v]) (star (bk b5 Ty_p_gf_Field #[.pointer (some (blk g))]) F)))), fun x _ => n - x.toNat, ⟨0, rs2, rfl, Nat.zero_le _, hS2, hD2, hSK2, hone, fun r hr => by omega, H⟩, ?_⟩
          rintro _ w8 ⟨u, rs3, rfl, hu, hS3, hD3, hSK3, hone3, hz3, H⟩
          have hl3 := shpLen hS3
          refine ⟨fun h => ?_, fun h => ?_⟩
          · have hul : u < n := by simp only [decide_eq_true_eq] at h; omega
            have hur : u < rs3.length := by omega
            have hwu := shpRow hS3 hur
            refine ⟨fun w' => ∃ rs : Rws, Shp (mt rs) n (n + n) ∧ Done (ent (mt rs)) n col ∧ SameKer (aug M n) (ent (mt rs)) n (n + n) ∧ ent (mt rs) col col = 1 ∧ (∀ r, r < u + 1 → r ≠ col → ent (mt rs) r col = 0) ∧ Hp w0 w' (OwR s rs (star (own Ty_int 1 p ps) (star (bk b8 Ty_sl_sl_uint8 #[s.v]) (star (bk b5 Ty_p_gf_Field #[.pointer (some (blk g))]) F)))), ⟨fun h => ?_, fun h => ?_⟩, ?_⟩
            · have huc : u ≠ col := by simp only [decide_eq_true_eq] at h; omega
              have hc3 : col < rs3.length := by omega
              have hwc := shpRow hS3 hc3
              refine ⟨s, H.cell (b := b8) (i := 0) rfl, (rdR H).cel.rdS hur fun a3 ha3 => ((rdR H).at_ hur).rd (i := col) (by omega) fun a4 ha4 => ?_⟩
              refine call (add_c (g := g) (c := rs3[u].2[col]) hK hb hb5 H hur hc3 huc (by omega) (by omega)) ?_
              rintro _ w9 ⟨rfl, H⟩
              have e3 := entR (rs := rs3) (c := col) hur (by omega)
              have hA : ent (mt (upd rs3 u (addR rs3[u].2[col] rs3[u].2 rs3[col].2))) = fun r => if r = u then fun c => ent (mt rs3) u c ^^^ mul rs3[u].2[col] (ent (mt rs3) col c) else ent (mt rs3) r := by
                rw [upd_mt, ent_setF (by rw [mt_len]; exact hur)]
                funext r
                by_cases hr : r = u
                · rw [if_pos hr, if_pos hr]
                  funext c
                  rw [addR_at (by omega), ent_at (by rw [mt_len]; exact hur), ent_at (by rw [mt_len]; exact hc3), mt_at hur, mt_at hc3]
                · rw [if_neg hr, if_neg hr]
              refine ⟨rfl, _, ?_, ?_, ?_, ?_, ?_, H⟩
              · rw [upd_mt]; exact hS3.set (by rw [addR_len (by omega)]; exact hwu)
              · rw [hA]; exact done_add hD3 hlt
              · rw [hA]; exact hSK3.trans (ker_add hul hlt huc)
              · rw [hA]; dsimp only; rw [if_neg (Ne.symm huc)]; exact hone3
              · intro r hr hrc
                rw [hA]
                dsimp only
                by_cases hru : r = u
                · rw [if_pos hru, hone3, mul_one, e3, add_self]
                · rw [if_neg hru]; exact hz3 r (by omega) hrc
            · have huc : u = col := by simp only [decide_eq_false_iff_not, ne_eq, Decidable.not_not] at h; omega
              exact ⟨rs3, hS3, hD3, hSK3, hone3, fun r hr hrc => hz3 r (by omega) hrc, H⟩
            · rintro w9 ⟨rs4, h1, h2, h3, h4, h5, H⟩
              rw [ofW u (by omega)]
              exact ⟨⟨u + 1, rs4, rfl, by omega, h1, h2, h3, h4, h5, H⟩, by dsimp only; omega⟩
          · have hue : u = n := by simp only [decide_eq_false_iff_not] at h; omega
            subst hue
            refine Hp.app1 (s := p) slT_sl_int H rfl (by unfold maxLen; omega) (by omega) fun p2 w9 H hp2 => ?_
            exact ⟨_, rs3, by omega, hS3, done_next hD3 hone3 hz3, hSK3, (H.take (all rwA rs3)).own s⟩
        · rw [ofW t (by omega)]
          refine ⟨⟨t + 1, rfl, by omega, by omega, fun r h1 h2 => ?_, H⟩, by dsimp only; omega⟩
          by_cases hrt : r = t
          · subst hrt
            rw [← entR htr (by omega)]
            simp only [decide_eq_false_iff_not, ne_eq, Decidable.not_not] at h
            exact UInt8.toNat_inj.1 (by show _ = 0; omega)
          · exact hz r h1 (by omega)
    · rintro p2 w4 ⟨ps2, rs2, h1, h2, h3, h4, H⟩
      rw [ofW col (by omega)]
      exact ⟨⟨col + 1, ps2, rs2, rfl, by omega, h1, h2, h3, h4, H⟩, by dsimp only; omega⟩
  · have hce : col = n := by simp only [decide_eq_false_iff_not] at h; omega
    subst hce
    exact Rt.ok ⟨p, rs, rfl, hpl, hS, hD, hSK, (((((H.own p).drop).blk b8).drop.blk b5).drop)⟩
end
end Go.Proofs.YtabifopphhpciaaGreatDoor

namespace Go.Gf
def Inv (n : Nat) (M R : Mat) : Prop := (∀ x i, i < n → dot n (R i) (fun j => dot n (M j) x) = x i) ∧ (∀ y i, i < n → dot n (M i) (fun j => dot n (R j) y) = y i)
theorem sameKer_ext {A B : Mat} {n w : Nat} (h : ∀ i c, i < n → c < w → A i c = B i c) : SameKer A B n w := fun v =>
  ⟨fun k i hi => by rw [← k i hi]; exact dot_congr (fun c hc => (h i c hi hc).symm) fun _ _ => rfl, fun k i hi => by rw [← k i hi]; exact dot_congr (fun c hc => h i c hi hc) fun _ _ => rfl⟩
end Go.Gf
namespace Go.Proofs.YtabifopphhpciaaGreatDoor
open Go Go.Vc Go.Vc.Asn Go.Gf
section
variable {w0 w : World} {F : Asn} {s : Slc} {rs : Rws} {g n q : Nat}
set_option maxHeartbeats 1000000 in
theorem invert_c (hK : Blk w g Ty_gf_Field fieldL.toArray) (hM : RdM w q (some (blk g)) s rs) (hS : Shp (mt rs) n n) (hn : 1 ≤ n) (hn2 : n ≤ 256) (hT : Triv (ent (mt rs)) n) :
    Calls PP F_matrix_Matrix_Invert #[.pointer (some (blk q))] w (Rt fun v w' => ∃ q' s' rs', v = .tuple #[.pointer (some (blk q')), .int .i64 0] ∧ Shp (mt rs') n n ∧ Go.Gf.Inv n (ent (mt rs)) (ent (mt rs')) ∧ Hp w w' (star (matA q' (some (blk g)) s' rs') emp)) := by
  refine sim_matrix_Matrix_Invert _ _ _ ?_
  unfold vc_matrix_Matrix_Invert
  have hl := shpLen hS
  have hsl : s.l = n := by rw [hM.rows.cel.lenM]; exact hl
  have hrn : ∀ i (hi : i < rs.length), rs[i].1.l = n := fun i hi => by rw [(hM.rows.at_ hi).len]; exact shpRow hS hi
  refine ⟨fun h => by simp at h, fun _ => ⟨_, rfl, s, hM.box.cell (i := 1) rfl, s, hM.box.cell (i := 1) rfl, hM.rows.cel.rdS (i := 0) (by omega) fun a ha => ⟨fun h => ?_, fun _ => ?_⟩⟩⟩
  · rw [hsl, hrn 0 (by omega)] at h; simp at h
  rw [hsl]
  have ew2 : wr .i64 (2 * (n : Int)) = ((n + n : Nat) : Int) := by rw [wr64 (by omega) (by omega)]; omega
  rw [ew2]
  refine ⟨_, hM.box.cell (i := 0) rfl, call (blank_c (by omega) (by omega) (Hp.start w)) ?_⟩
  rintro _ w1 ⟨b, t, rs0, rfl, hrs0, H⟩
  have hS0 : Shp (mt rs0) n (n + n) := by unfold mt; rw [hrs0]; exact Shp.blank _ _
  have hZ0 : ∀ i c, ent (mt rs0) i c = 0 := fun i c => by unfold mt; rw [hrs0]; exact ent_blank _ _ _ _
  refine ⟨_, rfl, s, (hM.fr0 H.fr).box.cell (i := 1) rfl, fun x w' => ∃ (j : Nat) (rs' : Rws), x = (j : Int) ∧ j ≤ n ∧ Shp (mt rs') n (n + n) ∧ (∀ i c, i < j → c < n + n → ent (mt rs') i c = aug (ent (mt rs)) n i c) ∧ (∀ i c, j ≤ i → ent (mt rs') i c = 0) ∧ Hp w w' (star (bk b Ty_matrix_Matrix #[.pointer (some (blk g)), t.v]) (star (own Ty_sl_uint8 1 t (rs'.map fun r => r.1.v)) (star (all rwA rs') emp))), fun x _ => n - x.toNat, ⟨0, rs0, rfl, Nat.zero_le _, hS0, fun i c hi => by omega, fun i c _ => hZ0 i c, matOpen H⟩, ?_⟩
  rintro _ w2 ⟨j, rs1, rfl, hj, hS1, hent, hz, H⟩
  have hl1 := shpLen hS1
  refine ⟨fun h => ?_, fun h => ?_⟩
  · have hlt : j < n := by simp only [decide_eq_true_eq] at h; omega
    have hjr : j < rs1.length := by omega
    have hw1 := shpRow hS1 hjr
    have hw := shpRow hS (i := j) (by omega)
    have hR := rdR H.drop
    have hBl := (hR.at_ hjr).len
    have hB := (hM.fr0 H.fr).rows.at_ (i := j) (by omega)
    refine (hM.fr0 H.fr).rows.cel.rdS (i := j) (by omega) fun a1 ha1 => ⟨_, rfl, t, H.cell (b := b) (i := 1) rfl, hR.cel.rdS hjr fun a2 ha2 => ?_⟩
    refine Hp.cpy (s := rs1[j].1) (d := rs1[j].1) (o := 0) slT_sl_uint8 (pickRow rs1 H hjr) hB (one_u8 _) (fun _ p hp => by rw [hp]; rfl) (by rw [List.length_map]; omega) fun w3 H => ?_
    rw [show min (rs[j]'(by omega)).1.l rs1[j].1.l = n by rw [hrn j (by omega)]; omega] at H
    have e1 : (rs1[j].2.map u8v).take 0 ++ ((rs[j]'(by omega)).2.map u8v).take n ++ (rs1[j].2.map u8v).drop (0 + n) = ((rs[j]'(by omega)).2 ++ rs1[j].2.drop n).map u8v := by
      rw [List.take_zero, List.nil_append, List.take_of_length_le (by rw [List.length_map]; omega), Nat.zero_add, List.map_append, List.map_drop]
    rw [e1] at H
    have ewn : wr .i64 ((n : Int) + (j : Int)) = ((n + j : Nat) : Int) := by rw [wr64 (by omega) (by omega)]; omega
    rw [ewn, ofW j (by omega)]
    refine ⟨t, H.cell (b := b) (i := 1) rfl, Cel.rdS (H.cel (s := t)) hjr fun a3 ha3 => Hp.wr (s := rs1[j].1) H (by simp; omega) fun w4 H => ?_⟩
    have H : Hp w w4 (star (own Ty_uint8 1 rs1[j].1 ((((rs[j]'(by omega)).2 ++ rs1[j].2.drop n).map u8v).set (n + j) (u8v 1))) _) := H
    rw [← List.map_set] at H
    have H := putRow hjr H
    refine ⟨⟨j + 1, _, rfl, by omega, ?_, ?_, ?_, by rw [upd_sl]; exact (H.own t).blk b⟩, by dsimp only; omega⟩
    · rw [upd_mt]; exact hS1.set (by simp; omega)
    · intro i c hi hc
      rw [upd_mt, ent_set (by rw [mt_len]; exact hjr)]
      by_cases hij : i = j
      · subst hij
        rw [if_pos rfl, List.getD_eq_getElem?_getD, List.getElem?_set]
        unfold aug
        by_cases h1 : n + i = c
        · subst h1
          rw [if_pos rfl, if_pos (by simp; omega), if_neg (by omega), if_pos rfl]; rfl
        · rw [if_neg h1]
          by_cases h2 : c < n
          · rw [if_pos h2, List.getElem?_append_left (by omega), ← List.getD_eq_getElem?_getD, ent_at (by rw [mt_len]; omega), mt_at (by omega)]
          · rw [if_neg h2, if_neg (Ne.symm h1), List.getElem?_append_right (by omega), List.getElem?_drop, hw, show n + (c - n) = c by omega, ← List.getD_eq_getElem?_getD]
            have h3 := hz i c (Nat.le_refl _)
            rw [ent_at (by rw [mt_len]; omega), mt_at hjr] at h3
            exact h3
      · rw [if_neg hij]; exact hent i c (by omega) hc
    · intro i c hi
      rw [upd_mt, ent_set (by rw [mt_len]; exact hjr), if_neg (by omega)]
      exact hz i c (by omega)
  · have hje : j = n := by simp only [decide_eq_false_iff_not] at h; omega
    subst hje
    have H := H.drew 1
    have hSK : SameKer (aug (ent (mt rs)) j) (ent (mt rs1)) j (j + j) := sameKer_ext fun i c hi hc => (hent i c hi hc).symm
    refine ⟨_, (hM.fr0 H.fr).box.cell (i := 0) rfl, _, rfl, t, H.cell (b := b) (i := 1) rfl, ?_⟩
    refine call (elim_c hK hS1 hn2 hT hSK ((H.take (all rwA rs1)).own t)) ?_
    rintro _ w3 ⟨pv, rs2, rfl, hpv, hS2, hD, hK2, H⟩
    have hl2 := shpLen hS2
    refine ⟨pv, rfl, fun h => ?_, fun _ => ⟨_, (hM.fr0 H.fr).box.cell (i := 0) rfl, call (blank_c (by omega) (by omega) H) ?_⟩⟩
    · rw [hpv] at h; simp at h
    rintro _ w4 ⟨d, t2, rsb, rfl, hrsb, H⟩
    have hSb : Shp (mt rsb) j j := by unfold mt; rw [hrsb]; exact Shp.blank _ _
    have htl : t.l = j := by
      have H2 := (H.take (all rwA rs2)).own t
      rw [(H2.cel (s := t)).lenM]; exact hl2
    refine ⟨_, rfl, t, H.cell (b := b) (i := 1) rfl, fun x w' => ∃ (k : Nat) (rs' : Rws), x = (k : Int) ∧ k ≤ j ∧ Shp (mt rs') j j ∧ (∀ i c, i < k → c < j → ent (mt rs') i c = ent (mt rs2) i (j + c)) ∧ Hp w w' (star (bk d Ty_matrix_Matrix #[.pointer (some (blk g)), t2.v]) (star (own Ty_sl_uint8 1 t2 (rs'.map fun r => r.1.v)) (star (all rwA rs') (OwR t rs2 (star (bk b Ty_matrix_Matrix #[.pointer (some (blk g)), t.v]) emp))))), fun x _ => j - x.toNat, ⟨0, rsb, rfl, Nat.zero_le _, hSb, fun i c hi => by omega, matOpen H⟩, ?_⟩
    rintro _ w5 ⟨k, rs3, rfl, hk, hS3, hent3, H⟩
    have hl3 := shpLen hS3
    refine ⟨fun h => ?_, fun h => ?_⟩
    · have hlt : k < j := by simp only [decide_eq_true_eq] at h; omega
      have hkr : k < rs3.length := by omega
      have hkr2 : k < rs2.length := by omega
      have hw3 := shpRow hS3 hkr
      have hw2 := shpRow hS2 hkr2
      refine (rdR H.drop.drop.drop).cel.rdS hkr2 fun a1 ha1 => ⟨_, rfl, t2, ?_⟩
      have H := H.drew 1
      have hB2 := (rdR H.drop.drop.drop).at_ hkr2
      have hB2l := hB2.len
      have hB3l := ((rdR H.drop).at_ hkr).len
      have hcut : Byt (w5.drewN 1) (rs2[k].1.cut 1 j rs2[k].1.l) (rs2[k].2.drop j) := by
        have := Cel.cut hB2 (l := j) (k := rs2[k].1.l) (by omega) (Nat.le_refl _)
        rw [Nat.mul_one, Nat.mul_one, List.take_of_length_le (by simp; omega), ← List.map_drop] at this
        exact this
      have hcutl := hcut.len
      rw [List.length_drop] at hcutl
      refine ⟨H.cell (b := d) (i := 1) rfl, (rdR H.drop).cel.rdS hkr fun a2 ha2 => ⟨by omega, by omega, by have := hB2.cap; omega, ?_⟩⟩
      rw [Int.toNat_natCast, Int.toNat_natCast]
      refine Hp.cpy (s := rs3[k].1) (d := rs3[k].1) (o := 0) slT_sl_uint8 (pickRow rs3 H hkr) hcut (one_u8 _) (fun _ p hp => by rw [hp]; rfl) (by rw [List.length_map]; omega) fun w6 H => ?_
      rw [show min (rs2[k].1.cut 1 j rs2[k].1.l).l rs3[k].1.l = j by omega, cpy_all (by rw [List.length_map]; omega) (by rw [List.length_map, List.length_drop]; omega)] at H
      have H := putRow hkr H
      rw [ofW k (by omega)]
      refine ⟨⟨k + 1, _, rfl, by omega, ?_, ?_, by rw [upd_sl]; exact ((H.own t2).blk d).ent (Ent.star (Ent.refl _) (Ent.star (Ent.refl _) (Ent.star (Ent.refl _) (Ent.refl _))))⟩, by dsimp only; omega⟩
      · rw [upd_mt]; exact hS3.set (by simp; omega)
      · intro i c hi hc
        rw [upd_mt, ent_set (by rw [mt_len]; exact hkr)]
        by_cases hik : i = k
        · subst hik
          rw [if_pos rfl, List.getD_eq_getElem?_getD, List.getElem?_drop, ent_at (by rw [mt_len]; exact hkr2), mt_at hkr2, List.getD_eq_getElem?_getD]
        · rw [if_neg hik]; exact hent3 i c (by omega) hc
    · have hke : k = j := by simp only [decide_eq_false_iff_not] at h; omega
      subst hke
      obtain ⟨i1, i2⟩ := inverse hD hK2
      refine Rt.ok ⟨d, t2, rs3, rfl, hS3, ⟨fun x i hi => ?_, fun y i hi => ?_⟩, ?_⟩
      · rw [← i1 x i hi]
        exact dot_congr (fun c hc => hent3 i c hi hc) fun _ _ => rfl
      · rw [← i2 y i hi]
        exact dot_congr (fun _ _ => rfl) fun c hc => dot_congr (fun c2 hc2 => hent3 c c2 hc hc2) fun _ _ => rfl
      · have H := (H.own t).drop
        have H := (H.take (all rwA rs2)).drop
        have H := (H.blk b).drop
        exact matClose H
end
end Go.Proofs.YtabifopphhpciaaGreatDoor

namespace Go.Gf
theorem dot_comp (n m : Nat) (a : Nat → UInt8) (B : Mat) (v : Nat → UInt8) : dot n a (fun j => dot m (B j) v) = dot m (fun c => dot n a fun j => B j c) v := by
  unfold dot
  have h1 : ∀ j, j < n → mul (a j) (sumX m fun c => mul (B j c) (v c)) = sumX m fun c => mul (a j) (mul (B j c) (v c)) := fun j _ => (sumX_mul m (a j) _).symm
  rw [sumX_congr h1, sumX_swap]
  refine sumX_congr fun c _ => ?_
  have h2 : ∀ j, j < n → mul (a j) (mul (B j c) (v c)) = mul (v c) (mul (a j) (B j c)) := fun j _ => by rw [← mul_assoc, mul_comm]
  rw [sumX_congr h2, sumX_mul, mul_comm]
theorem dot_zero {n : Nat} {a v : Nat → UInt8} (h : ∀ c, c < n → v c = 0) : dot n a v = 0 := sumX_zero fun c hc => by rw [h c hc, mul_zero]
theorem dot_delta {n k : Nat} (a : Nat → UInt8) (hk : k < n) : dot n a (fun c => if c = k then 1 else 0) = a k := by
  unfold dot
  rw [sumX_one (k := k) hk fun c _ hck => by dsimp only; rw [if_neg hck, mul_zero]]
  dsimp only
  rw [if_pos rfl, mul_one]
def pt (i : Nat) : UInt8 := UInt8.ofNat i
def vm : Mat := fun i c => powX (pt i) c
theorem pt_inj {i j : Nat} (hi : i < 256) (hj : j < 256) (h : pt i = pt j) : i = j := by
  have := congrArg UInt8.toNat h
  unfold pt at this
  rw [UInt8.toNat_ofNat', UInt8.toNat_ofNat'] at this
  omega
structure Gen (n k : Nat) (R : List (List UInt8)) : Prop where
  shp : Shp R n k
  by_ : ∃ B : Mat, Inv k vm B ∧ ∀ i c, i < n → c < k → ent R i c = dot k (vm i) fun j => B j c
section
variable {n k : Nat} {R : List (List UInt8)}
theorem Gen.sys (h : Gen n k R) (hk : k ≤ n) {i c : Nat} (hi : i < k) (hc : c < k) : ent R i c = if i = c then 1 else 0 := by
  obtain ⟨B, hB, he⟩ := h.by_
  rw [he i c (by omega) hc]
  have h1 := hB.2 (fun x => if x = c then 1 else 0) i hi
  rw [← h1]
  exact dot_congr (fun _ _ => rfl) fun j _ => (dot_delta (B j) hc).symm
theorem Gen.any (h : Gen n k R) (hn : n ≤ 255) (hk : k ≤ n) (ix : Nat → Nat) (hix : ∀ i, i < k → ix i < n) (hinj : ∀ i j, i < k → j < k → ix i = ix j → i = j) : Triv (fun i => ent R (ix i)) k := fun v hv c hc => by
  obtain ⟨B, hB, he⟩ := h.by_
  have h0 : ∀ i, i < k → dot k (ent R i) v = dot k (vm i) fun j => dot k (B j) v := fun i hi => by
    rw [dot_comp]
    exact dot_congr (fun c hc => he i c (by omega) hc) fun _ _ => rfl
  have h1 : Ker (fun i c => powX (pt (ix i)) c) k k fun j => dot k (B j) v := fun i hi => by
    have := hv i hi
    rw [← this]
    show dot k (vm (ix i)) _ = _
    rw [dot_comp]
    exact dot_congr (fun c hc => (he (ix i) c (hix i hi) hc).symm) fun _ _ => rfl
  have h2 := vander (fun i => pt (ix i)) k (fun i j hi hj e => hinj i j hi hj (pt_inj (by have := hix i hi; omega) (by have := hix j hj; omega) e)) _ h1
  rw [← hB.2 v c hc]
  exact dot_zero h2
end
def lin (fs : List UInt8) (D : List (List UInt8)) (l : Nat) : List UInt8 := (List.range l).map fun j => dot D.length (fun x => fs.getD x 0) fun x => ent D x j
theorem lin_len (fs : List UInt8) (D : List (List UInt8)) (l : Nat) : (lin fs D l).length = l := by unfold lin; simp
theorem lin_at (fs : List UInt8) (D : List (List UInt8)) {l j : Nat} (hj : j < l) : (lin fs D l).getD j 0 = dot D.length (fun x => fs.getD x 0) fun x => ent D x j := by
  unfold lin
  rw [List.getD_eq_getElem?_getD, List.getElem?_map, List.getElem?_range hj]; rfl
theorem lin_ent {R D : List (List UInt8)} {l i j : Nat} (hi : i < R.length) (hj : j < l) : (lin R[i] D l).getD j 0 = dot D.length (ent R i) fun x => ent D x j := by
  rw [lin_at _ _ hj]
  exact dot_congr (fun c _ => (ent_at hi c).symm) fun _ _ => rfl
theorem Gen.first {n k : Nat} {R D : List (List UInt8)} {l i : Nat} (h : Gen n k R) (hk : k ≤ n) (hD : Shp D k l) (hi : i < k) : lin (R[i]'(by rw [h.shp.len]; omega)) D l = D[i]'(by rw [hD.len]; exact hi) := by
  refine list_ext (by rw [lin_len, hD.at_]) fun j hj => ?_
  rw [lin_len] at hj
  rw [lin_ent (by rw [h.shp.len]; omega) hj, ← ent_at (by rw [hD.len]; exact hi)]
  have h1 : dot D.length (ent R i) (fun x => ent D x j) = dot k (fun c => if c = i then 1 else 0) (fun x => ent D x j) := by
    rw [hD.len]
    refine dot_congr (fun c hc => ?_) fun _ _ => rfl
    rw [h.sys hk hi hc]
    by_cases h2 : i = c
    · rw [if_pos h2, if_pos h2.symm]
    · rw [if_neg h2, if_neg (Ne.symm h2)]
  rw [h1]
  unfold dot
  rw [sumX_one (k := i) hi fun c _ hci => by dsimp only; rw [if_neg hci, zero_mul]]
  dsimp only
  rw [if_pos rfl, one_mul]
def Agrees (R D : List (List UInt8)) (l : Nat) (ps : List (Nat × List UInt8)) : Prop := ∀ p ∈ ps, lin (R.getD p.1 []) D l = p.2
def back (W : Mat) (Y : List (List UInt8)) (k l : Nat) : List (List UInt8) := (List.range k).map fun i => (List.range l).map fun j => dot k (W i) fun x => ent Y x j
theorem back_shp (W : Mat) (Y : List (List UInt8)) (k l : Nat) : Shp (back W Y k l) k l := ⟨by unfold back; simp, fun r hr => by
  unfold back at hr
  obtain ⟨i, _, rfl⟩ := List.mem_map.1 hr
  simp⟩
theorem back_ent (W : Mat) (Y : List (List UInt8)) {k l i j : Nat} (hi : i < k) (hj : j < l) : ent (back W Y k l) i j = dot k (W i) fun x => ent Y x j := by
  have hs := back_shp W Y k l
  rw [ent_at2 (by rw [hs.len]; exact hi) (by rw [hs.at_]; exact hj)]
  simp [back]
section
variable {n k l : Nat} {R D Y : List (List UInt8)} {M W : Mat}
theorem back_agrees (hI : Inv k M W) (hY : Shp Y k l) {i : Nat} (hi : i < k) {r : List UInt8} (hr : ∀ c, c < k → r.getD c 0 = M i c) : lin r (back W Y k l) l = Y[i]'(by rw [hY.len]; exact hi) := by
  refine list_ext (by rw [lin_len, hY.at_]) fun j hj => ?_
  rw [lin_len] at hj
  rw [lin_at _ _ hj, (back_shp W Y k l).len]
  have h1 : dot k (fun x => r.getD x 0) (fun x => ent (back W Y k l) x j) = dot k (M i) fun x => dot k (W x) fun y => ent Y y j := dot_congr (fun c hc => hr c hc) fun c hc => back_ent W Y hc hj
  rw [h1, hI.2 _ i hi, ent_at (by rw [hY.len]; exact hi)]
theorem back_uniq (hI : Inv k M W) (hY : Shp Y k l) (hD : Shp D k l) (h : ∀ i (hi : i < k), ∃ r : List UInt8, (∀ c, c < k → r.getD c 0 = M i c) ∧ lin r D l = Y[i]'(by rw [hY.len]; exact hi)) : D = back W Y k l := by
  refine ent_ext hD (back_shp W Y k l) fun i j hi hj => ?_
  rw [back_ent W Y hi hj, ← hI.1 (fun x => ent D x j) i hi]
  refine dot_congr (fun _ _ => rfl) fun x hx => ?_
  obtain ⟨r, h1, h2⟩ := h x hx
  rw [ent_at (by rw [hY.len]; exact hx), ← h2, lin_at _ _ hj, hD.len]
  exact dot_congr (fun c hc => (h1 c hc).symm) fun _ _ => rfl
end
end Go.Gf

namespace Go.Proofs.YtabifopphhpciaaGreatDoor
open Go Go.Vc Go.Vc.Asn Go.Gf
section
variable {w0 w : World} {F : Asn} {s : Slc} {rs : Rws} {g n k q : Nat}
theorem std_c : Calls PP F_gf_Std #[] w (Rt fun v w' => ∃ p, v = .pointer (some (blk p)) ∧ Hp w w' (star (fieldA p) emp)) := by
  refine sim_gf_Std _ _ ?_
  unfold vc_gf_Std
  refine call gfNew_c ?_
  rintro _ w1 ⟨p, rfl, H⟩
  exact ⟨_, _, rfl, Rt.ok ⟨p, rfl, H⟩⟩
theorem generator_c (hK : Blk w g Ty_gf_Field fieldL.toArray) (hk : 1 ≤ k) (hkn : k ≤ n) (hn : n ≤ 255) :
    Calls PP F_code_generator #[.pointer (some (blk g)), .int .i64 (n : Int), .int .i64 (k : Int)] w (Rt fun v w' => ∃ s rs, v = s.v ∧ Gen n k (mt rs) ∧ Hp w w' (star (rwsA s rs) emp)) := by
  refine sim_code_generator _ _ _ _ _ ?_
  unfold vc_code_generator
  refine Hp.make slT_sl_uint8 rfl (by omega) (by omega) (Hp.start w) fun b w1 H => ?_
  have e0 : List.replicate n (Value.int .u8 0) = ((List.range 0).map pt ++ List.replicate (n - 0) 0).map u8v := by rw [zcells]; rfl
  rw [e0] at H
  refine ⟨fun x w' => ∃ j : Nat, x = (j : Int) ∧ j ≤ n ∧ Hp w w' (star (own Ty_uint8 1 ⟨some (blk b), n, n⟩ (((List.range j).map pt ++ List.replicate (n - j) 0).map u8v)) emp), fun x _ => n - x.toNat, ⟨0, rfl, Nat.zero_le _, H⟩, ?_⟩
  rintro _ w2 ⟨j, rfl, hj, H⟩
  refine ⟨fun h => ?_, fun h => ?_⟩
  · have hlt : j < n := by simp only [decide_eq_true_eq] at h; omega
    have e1 : (Value.int .u8 (wr .u8 (j : Int))) = u8v (pt j) := by
      unfold u8v pt
      rw [wr8u (by omega) (by omega), UInt8.toNat_ofNat', Nat.mod_eq_of_lt (by omega)]
    rw [e1, ofW j (by omega)]
    refine Hp.wr (s := ⟨some (blk b), n, n⟩) H (by simp; omega) fun w3 H => ?_
    rw [← List.map_set, List.set_append_right _ _ (by simp), List.length_map, List.length_range, Nat.sub_self, show n - j = (n - (j + 1)) + 1 by omega, List.replicate_succ, List.set_cons_zero] at H
    refine ⟨⟨j + 1, rfl, by omega, ?_⟩, by dsimp only; omega⟩
    have e2 : (List.range (j + 1)).map pt ++ List.replicate (n - (j + 1)) 0 = (List.range j).map pt ++ pt j :: List.replicate (n - (j + 1)) 0 := by rw [List.range_succ, List.map_append, List.append_assoc]; rfl
    rw [e2]
    exact H
  · have hje : j = n := by simp only [decide_eq_false_iff_not] at h; omega
    subst hje
    rw [Nat.sub_self, List.replicate_zero, List.append_nil] at H
    have hP : Byt w2 ⟨some (blk b), j, j⟩ ((List.range j).map pt) := H.cel (s := ⟨some (blk b), j, j⟩)
    have hgP : ∀ i, i < j → ((List.range j).map pt).getD i 0 = pt i := fun i hi => by
      rw [List.getD_eq_getElem?_getD, List.getElem?_map, List.getElem?_range hi]; rfl
    refine call (vander_c (hK.fr H.fr (by simp)) hP (by simp; omega) (by simp; omega) hk (by omega)) ?_
    rintro _ w3 ⟨q1, s1, r1, rfl, hS1, he1, H1⟩
    rw [List.length_map, List.length_range] at hS1 he1
    have H2 := H.beside H1
    refine ⟨_, _, rfl, by omega, by omega, by show (k : Int) ≤ (j : Int); omega, ?_⟩
    have hcut : Byt w3 ((⟨some (blk b), j, j⟩ : Slc).cut 1 (Int.toNat 0) (Int.toNat (k : Int))) ((List.range k).map pt) := by
      have := Cel.cut (hP.fr0 H1.fr) (l := 0) (k := k) (by omega) (by show k ≤ j; omega)
      rw [Nat.mul_one, Nat.mul_one, List.drop_zero, ← List.map_take, ← List.map_take, List.take_range, Nat.sub_zero, Nat.min_eq_left hkn] at this
      exact this
    refine call (vander_c (hK.fr H2.fr (by simp)) hcut (by simp; omega) (by simp; omega) hk (by omega)) ?_
    rintro _ w4 ⟨q2, s2, r2, rfl, hS2, he2, H3⟩
    rw [List.length_map, List.length_range] at hS2 he2
    have H4 := H2.beside H3
    have hE : ∀ i c, i < k → c < k → ent (mt r2) i c = vm i c := fun i c hi hc => by
      rw [he2 i c hi hc, List.getD_eq_getElem?_getD, List.getElem?_map, List.getElem?_range hi]; rfl
    have hT : Triv (ent (mt r2)) k := by
      have hv := vander pt k fun i j hi hj e => pt_inj (by omega) (by omega) e
      intro v hk2
      refine hv v fun i hi => ?_
      rw [← hk2 i hi]
      exact dot_congr (fun c hc => (hE i c hi hc).symm) fun _ _ => rfl
    refine ⟨_, _, rfl, call (invert_c (hK.fr H4.fr (by simp)) (rdM H3) hS2 hk (by omega) hT) ?_⟩
    rintro _ w5 ⟨q3, s3, r3, rfl, hS3, hI, H5⟩
    have H6 := H4.beside H5
    refine ⟨_, _, rfl, call (mul_mat_c (m := j) (n := k) (l := k) (hK.fr H6.fr (by simp)) ((rdM H1).fr0 (H3.fr.then_ H5.fr)) (rdM H5) hS1 hS3 (by omega) (by omega) hk (by omega) (by omega)) ?_⟩
    rintro _ w6 ⟨q4, s4, r4, rfl, hS4, he4, H7⟩
    have H8 := H6.beside H7
    refine ⟨_, _, rfl, call (rows_c (rdM H7) (by rw [shpLen hS4]; omega) fun r hr => by
      obtain ⟨i, hi, rfl⟩ := List.getElem_of_mem hr
      rw [shpRow hS4 hi]; omega) ?_⟩
    rintro _ w7 ⟨s5, r5, rfl, hm5, H9⟩
    refine ⟨_, rfl, Rt.ok ⟨s5, r5, rfl, ?_, Hp.from H8.fr H9⟩⟩
    rw [hm5]
    refine ⟨hS4, ent (mt r3), ?_, fun i c hi hc => ?_⟩
    · refine ⟨fun x i hi => ?_, fun y i hi => ?_⟩
      · rw [← hI.1 x i hi]
        exact dot_congr (fun _ _ => rfl) fun c hc => dot_congr (fun c2 hc2 => (hE c c2 hc hc2).symm) fun _ _ => rfl
      · rw [← hI.2 y i hi]
        exact dot_congr (fun c hc => (hE i c hi hc).symm) fun _ _ => rfl
    · rw [he4 i c hi hc]
      refine dot_congr (fun x hx => ?_) fun _ _ => rfl
      rw [he1 i x hi hx, hgP i hi]; rfl
structure RdCode (w : World) (q g : Nat) (s : Slc) (rs : Rws) (n k : Nat) : Prop where
  box : Blk w q Ty_code_Code #[.pointer (some (blk g)), .int .i64 (n : Int), .int .i64 (k : Int), s.v]
  field : Blk w g Ty_gf_Field fieldL.toArray
  rows : RdR w s rs
  gen : Gen n k (mt rs)
  hk : 1 ≤ k
  hkn : k ≤ n
  hn : n ≤ 255
theorem RdCode.fr0 {w w' : World} (h : RdCode w q g s rs n k) (f : Fr [] w w') : RdCode w' q g s rs n k := ⟨h.box.fr f (by simp), h.field.fr f (by simp), h.rows.fr0 f, h.gen, h.hk, h.hkn, h.hn⟩
theorem sum_c {fsl d : Slc} {fs : List UInt8} {ds : Rws} {m l : Nat} (hC : RdCode w q g s rs n k) (hf : Byt w fsl fs) (hd : RdR w d ds) (hS : Shp (mt ds) m l) (hm : 1 ≤ m) (hm2 : m ≤ 256) (hfm : m ≤ fs.length) (hl : l ≤ 16777216) :
    Calls PP F_code_Code_sum #[.pointer (some (blk q)), fsl.v, d.v] w (Rt fun v w' => ∃ o, v = o.v ∧ Hp w w' (star (own Ty_uint8 1 o ((lin fs (mt ds) l).map u8v)) emp)) := by
  refine sim_code_Code_sum _ _ _ _ _ ?_
  unfold vc_code_Code_sum
  have hdl := shpLen hS
  have hdsl := hd.cel.lenM
  have hrw : ∀ i (hi : i < ds.length), ds[i].1.l = l := fun i hi => by rw [(hd.at_ hi).len]; exact shpRow hS hi
  refine hd.cel.rdS (i := 0) (by omega) fun a ha => ?_
  rw [hrw 0 (by omega)]
  refine Hp.make slT_sl_uint8 rfl (by omega) hl (Hp.start w) fun b w1 H => ?_
  rw [zcells] at H
  refine ⟨fun x w' => ∃ (t : Nat) (cur : List UInt8), x = (t : Int) ∧ t ≤ m ∧ cur.length = l ∧ (∀ c, c < l → cur.getD c 0 = sumX t fun x => mul (fs.getD x 0) (ent (mt ds) x c)) ∧ Hp w w' (star (own Ty_uint8 1 ⟨some (blk b), l, l⟩ (cur.map u8v)) emp), fun x _ => m - x.toNat, ⟨0, List.replicate l 0, rfl, Nat.zero_le _, by simp, fun c hc => ?_, H⟩, ?_⟩
  · rw [List.getD_eq_getElem?_getD, List.getElem?_replicate, if_pos hc]; rfl
  rintro _ w2 ⟨t, cur, rfl, ht, hcl, hcur, H⟩
  refine ⟨fun h => ?_, fun h => ?_⟩
  · have hlt : t < m := by simp only [decide_eq_true_eq] at h; omega
    have htd : t < ds.length := by omega
    have hr := shpRow hS htd
    refine (hd.fr0 H.fr).cel.rdS htd fun a2 ha2 => ⟨_, rfl, ?_⟩
    have H := H.drew 1
    refine ⟨_, (hC.fr0 H.fr).box.cell (i := 0) rfl, (hf.fr0 H.fr).rd (i := t) (by omega) fun a3 ha3 => ?_⟩
    refine call (addMul_c (p := g) (bs := cur) (xs := ds[t].2) (fs[t]'(by omega)) (fun w' A X => hC.field.fr X.fr (by simp)) (fun w' A X => (hd.fr0 X.fr).at_ htd) (by omega) (by omega) H) ?_
    rintro _ w3 ⟨rfl, H⟩
    rw [ofW t (by omega)]
    refine ⟨_, rfl, ⟨t + 1, _, rfl, by omega, ?_, fun c hc => ?_, H⟩, by dsimp only; omega⟩
    · rw [addR_len (by omega)]; exact hcl
    · rw [addR_at (by omega), hcur c hc]
      show _ = sumX t _ ^^^ mul _ _
      congr 2
      · rw [List.getD_eq_getElem?_getD, List.getElem?_eq_getElem (by omega)]; rfl
      · rw [ent_at (by rw [mt_len]; omega), mt_at htd]
  · have hte : t = m := by simp only [decide_eq_false_iff_not] at h; omega
    subst hte
    have e : cur = lin fs (mt ds) l := list_ext (by rw [lin_len]; exact hcl) fun c hc => by
      rw [lin_at _ _ (by omega), hcur c (by omega), mt_len, hdl]; rfl
    rw [e] at H
    exact Rt.ok ⟨_, rfl, H⟩
theorem shaped_c {d : Slc} {ds : Rws} {l : Nat} (hC : RdCode w q g s rs n k) (hd : RdR w d ds) (hS : Shp (mt ds) k l) :
    Calls PP F_code_Code_shaped #[.pointer (some (blk q)), d.v] w (Rt fun v w' => v = .bool true ∧ Fr [] w w') := by
  refine sim_code_Code_shaped _ _ _ _ ?_
  unfold vc_code_Code_shaped
  have hdl := shpLen hS
  have hdsl := hd.cel.lenM
  have hk := hC.hk
  have hkn := hC.hkn
  have hn := hC.hn
  have hrw : ∀ i (hi : i < ds.length), ds[i].1.l = l := fun i hi => by rw [(hd.at_ hi).len]; exact shpRow hS hi
  refine (Hp.start w).new fun b w1 H => ?_
  have H := H.drew 1
  refine ⟨fun b w' => b = true ∧ Fr [] w w', ⟨d, H.cell (b := b) (i := 0) rfl, _, rfl, (k : Int), (hC.fr0 H.fr).box.cell (i := 2) rfl, fun _ => ⟨d, H.cell (b := b) (i := 0) rfl, ?_⟩, fun h => ?_⟩, ?_⟩
  · refine call (containsB_c (p := fun l => decide ((l.l : Int) ≠ (ds[0]'(by omega)).1.l)) (hd.fr0 H.fr).cel (by omega) (by kernel_rfl) fun w' l f => ?_) ?_
    · refine sim_code_Code_shaped_c1 _ _ _ _ ?_
      unfold vc_code_Code_shaped_c1
      exact ⟨d, (H.fr0 f).cell (b := b) (i := 0) rfl, ((hd.fr0 H.fr).fr0 f).cel.rdS (i := 0) (by omega) fun a ha => Rt.ok ⟨rfl, Fr.refl _ _⟩⟩
    · rintro _ w2 ⟨rfl, f⟩
      refine ⟨_, rfl, ?_, H.fr.then_ f⟩
      rw [Bool.not_eq_true', List.any_eq_false]
      intro r hr
      obtain ⟨i, hi, rfl⟩ := List.getElem_of_mem hr
      simp only [decide_eq_true_eq, ne_eq, Decidable.not_not]
      rw [hrw i hi, hrw 0 (by omega)]
  · simp only [decide_eq_false_iff_not] at h; omega
  · rintro _ w2 ⟨rfl, f⟩
    exact Rt.ok ⟨rfl, f⟩
end
end Go.Proofs.YtabifopphhpciaaGreatDoor

namespace Go.Proofs.YtabifopphhpciaaGreatDoor
open Go Go.Vc Go.Vc.Asn Go.Gf
section
variable {w0 w : World} {F : Asn} {s : Slc} {rs : Rws} {g n k q : Nat}
theorem row_c {d : Slc} {ds : Rws} {l i : Nat} (hC : RdCode w q g s rs n k) (hd : RdR w d ds) (hS : Shp (mt ds) k l) (hl : l ≤ 16777216) (hi : i < n) :
    Calls PP F_code_Code_Row #[.pointer (some (blk q)), d.v, .int .i64 (i : Int)] w (Rt fun v w' => ∃ o, v = .tuple #[o.v, .int .i64 0] ∧ Hp w w' (star (own Ty_uint8 1 o ((lin ((mt rs).getD i []) (mt ds) l).map u8v)) emp)) := by
  refine sim_code_Code_Row _ _ _ _ _ ?_
  unfold vc_code_Code_Row
  have hk := hC.hk
  have hkn := hC.hkn
  have hn := hC.hn
  have hrl := shpLen hC.gen.shp
  refine ⟨fun h => by simp at h, fun _ => ⟨false, fun _ => ⟨_, rfl, (n : Int), hC.box.cell (i := 1) rfl, (decide_eq_false (by omega)).symm⟩, fun h => ?_, fun h => by simp at h, fun _ => call (shaped_c hC hd hS) ?_⟩⟩
  · simp at h; omega
  rintro _ w1 ⟨rfl, f1⟩
  have hlt : i < rs.length := by omega
  refine ⟨true, rfl, fun h => by simp at h, fun _ => ⟨_, rfl, s, (hC.fr0 f1).box.cell (i := 3) rfl, (hC.fr0 f1).rows.cel.rdS hlt fun a ha => ?_⟩⟩
  refine call (sum_c (hC.fr0 f1) ((hC.fr0 f1).rows.at_ hlt) (hd.fr0 f1) hS hk (by omega) (by rw [shpRow hC.gen.shp hlt]; exact Nat.le_refl _) hl) ?_
  rintro _ w2 ⟨o, rfl, H⟩
  have e : (mt rs).getD i [] = rs[i].2 := by rw [List.getD_eq_getElem?_getD, List.getElem?_map, List.getElem?_eq_getElem hlt]; rfl
  rw [e]
  exact ⟨o, rfl, Rt.ok ⟨o, rfl, Hp.from f1 H⟩⟩
end
end Go.Proofs.YtabifopphhpciaaGreatDoor

namespace Go.Vc
open Go Go.Vc.Asn
structure Pt where
  ix : Int
  sl : Slc
  bs : List UInt8
def Pt.enc (p : Pt) : List Value := [.int .i64 p.ix, p.sl.v]
theorem enc_len (ps : List Pt) : (ps.flatMap Pt.enc).length = ps.length * 2 := by
  induction ps with
  | nil => rfl
  | cons p r ih => rw [List.flatMap_cons, List.length_append, ih, List.length_cons]; show 2 + _ = _; omega
theorem enc_get : ∀ (ps : List Pt) (i : Nat) (h : i < ps.length), (ps.flatMap Pt.enc)[i * 2]? = some (.int .i64 ps[i].ix) ∧ (ps.flatMap Pt.enc)[i * 2 + 1]? = some ps[i].sl.v
  | [], _, h => by simp at h
  | p :: r, 0, _ => ⟨rfl, rfl⟩
  | p :: r, i + 1, h => by
    have ih := enc_get r i (by simpa using h)
    rw [List.flatMap_cons, show (i + 1) * 2 = i * 2 + 2 by omega]
    exact ih
theorem enc_drop : ∀ (ps : List Pt) (l : Nat), (ps.flatMap Pt.enc).drop (l * 2) = (ps.drop l).flatMap Pt.enc
  | ps, 0 => by simp
  | [], l + 1 => by simp
  | p :: r, l + 1 => by
    rw [List.flatMap_cons, show (l + 1) * 2 = l * 2 + 2 by omega]
    exact enc_drop r l
theorem enc_take : ∀ (ps : List Pt) (l : Nat), (ps.flatMap Pt.enc).take (l * 2) = (ps.take l).flatMap Pt.enc
  | ps, 0 => by simp
  | [], l + 1 => by simp
  | p :: r, l + 1 => by
    rw [List.flatMap_cons, show (l + 1) * 2 = l * 2 + 2 by omega, List.take_succ_cons, List.flatMap_cons, ← enc_take r l]
    rfl
structure RdP (w : World) (s : Slc) (ps : List Pt) : Prop where
  cel : Cel w s 2 (ps.flatMap Pt.enc)
  byt : ∀ p ∈ ps, Byt w p.sl p.bs
section
variable {w w' : World} {s : Slc} {ps : List Pt}
theorem RdP.fr0 (h : RdP w s ps) (f : Fr [] w w') : RdP w' s ps := ⟨h.cel.fr0 f, fun p hp => (h.byt p hp).fr0 f⟩
theorem RdP.len (h : RdP w s ps) : s.l = ps.length := by have := h.cel.len; rw [enc_len] at this; omega
theorem RdP.at_ (h : RdP w s ps) {i : Nat} (hi : i < ps.length) : Byt w ps[i].sl ps[i].bs := h.byt _ (List.getElem_mem hi)
theorem RdP.rd (h : RdP w s ps) {i : Nat} (hi : i < ps.length) {Q : Addr → Int → Slc → Prop} (k : ∀ a, s.a = some a → Q a ps[i].ix ps[i].sl) :
    ∃ a : Addr, s.a = some a ∧ (0 : Int) ≤ (i : Int) ∧ ((i : Nat) : Int) < s.l ∧ ∃ I : Int, w.cell? ((a.add (Int.toNat (i : Int) * 2)).add 0) = some (.int .i64 I) ∧ ∃ D : Slc, w.cell? ((a.add (Int.toNat (i : Int) * 2)).add 1) = some D.v ∧ Q a I D := by
  obtain ⟨e1, e2⟩ := enc_get ps i hi
  obtain ⟨a, ha, h1⟩ := h.cel.at_ _ _ e1
  obtain ⟨a', ha', h2⟩ := h.cel.at_ _ _ e2
  rw [ha] at ha'
  injection ha' with ha'
  subst ha'
  refine ⟨a, ha, by omega, by rw [h.len]; omega, _, ?_, _, ?_, k a ha⟩
  · rw [Int.toNat_natCast, add_add]; exact h1
  · rw [Int.toNat_natCast, add_add]; exact h2
theorem RdP.rdD (h : RdP w s ps) {i : Nat} (hi : i < ps.length) {Q : Addr → Slc → Prop} (k : ∀ a, s.a = some a → Q a ps[i].sl) :
    ∃ a : Addr, s.a = some a ∧ (0 : Int) ≤ (i : Int) ∧ ((i : Nat) : Int) < s.l ∧ ∃ D : Slc, w.cell? ((a.add (Int.toNat (i : Int) * 2)).add 1) = some D.v ∧ Q a D := by
  obtain ⟨a, ha, h1, h2, I, _, D, h4, h5⟩ := h.rd hi (Q := fun a I D => D = ps[i].sl) fun _ _ => rfl
  exact ⟨a, ha, h1, h2, D, h4, h5 ▸ k a ha⟩
theorem RdP.cut (h : RdP w s ps) {l m : Nat} (hl : l ≤ m) (hm : m ≤ ps.length) : RdP w (s.cut 2 l m) ((ps.drop l).take (m - l)) := by
  refine ⟨?_, fun p hp => h.byt p (List.mem_of_mem_drop (List.mem_of_mem_take hp))⟩
  have := h.cel.cut (l := l) (k := m) hl (by rw [h.len]; exact hm)
  rwa [enc_drop, enc_take] at this
end
end Go.Vc
namespace Go.Proofs.YtabifopphhpciaaGreatDoor
open Go Go.Vc Go.Vc.Asn Go.Gf
def seenL (l : List Int) : List Value := (List.range 255).map fun i : Nat => .bool (l.contains (i : Int))
theorem seenL_len (l : List Int) : (seenL l).length = 255 := by unfold seenL; simp
theorem seenL_at (l : List Int) {i : Nat} (hi : i < 255) : (seenL l)[i]? = some (.bool (l.contains (i : Int))) := by
  unfold seenL; rw [List.getElem?_map, List.getElem?_range hi]; rfl
theorem seenL_set (l : List Int) {i : Nat} (hi : i < 255) : (seenL l).set i (.bool true) = seenL (l ++ [(i : Int)]) := by
  apply List.ext_getElem?
  intro j
  by_cases hj : j < 255
  · rw [seenL_at _ hj, List.getElem?_set]
    by_cases h : i = j
    · subst h
      rw [if_pos rfl, if_pos (by rw [seenL_len]; exact hi)]
      simp
    · rw [if_neg h, seenL_at _ hj]
      have : ¬ (j : Int) = (i : Int) := by omega
      simp [this]
  · rw [List.getElem?_eq_none (by rw [List.length_set, seenL_len]; omega), List.getElem?_eq_none (by rw [seenL_len]; omega)]
theorem sto_seen {w0 w : World} {F : Asn} {b : Nat} {t : TypeId} {cs : Array Value} {vs : List Value} {K : World → Prop} (H : Hp w0 w (star (bk b t cs) F)) (hv : vs = seenL []) (hs : cs.size = 255) (k : ∀ w', Hp w0 w' (star (bk b t (seenL []).toArray) F) → K w') : StoN (blk b) 0 vs w K := by
  subst hv
  exact H.stoAll (b := b) (by rw [seenL_len]; exact hs.symm) k
open Classical in
noncomputable def refusedV (n k : Nat) (ps : List Pt) : Int :=
  if ∃ p ∈ ps, p.ix < 0 ∨ (n : Int) ≤ p.ix then 22 else if ¬ (ps.map (·.ix)).Nodup then 21 else if ∃ p ∈ ps, p.bs.length ≠ (ps.headD ⟨0, Slc.nil, []⟩).bs.length then 23 else if ps.length < k then 20 else 0
section
variable {w0 w : World} {F : Asn} {s p : Slc} {rs : Rws} {g n k q : Nat} {ps : List Pt}
theorem indexP_c {fn : FuncId} {cap : Array Value} {f : Int → Slc → Bool} (hC : RdP w p ps) (hl : ps.length ≤ 1099511627776) (hb : bodyB PP fn = true)
    (hp : 0 < ps.length → ∀ w' (I : Int) (l : Slc), Fr [] w w' → Calls PP fn (#[.agg #[.int .i64 I, l.v]] ++ cap) w' (Rt fun v w'' => v = .bool (f I l) ∧ Fr [] w' w'')) :
    Calls PP F_slices_IndexFunc_api_Part_api_Part #[p.v, .func (.func fn) #[] cap] w (Rt fun v w' => ∃ i : Int, v = .int .i64 i ∧ decide (0 ≤ i) = ps.any (fun r => f r.ix r.sl) ∧ Fr [] w w') := by
  refine sim_slices_IndexFunc_api_Part_api_Part _ _ _ _ ?_
  unfold vc_slices_IndexFunc_api_Part_api_Part
  have hsl := hC.len
  refine ⟨fun i w' => ∃ j : Nat, i = (j : Int) ∧ j ≤ ps.length ∧ (∀ k (hk : k < ps.length), k < j → f ps[k].ix ps[k].sl = false) ∧ Fr [] w w', fun i _ => ps.length - i.toNat, ⟨0, rfl, Nat.zero_le _, fun k _ hk => by omega, Fr.refl _ _⟩, ?_⟩
  rintro _ w2 ⟨j, rfl, hj, hno, f2⟩
  refine ⟨fun h => ?_, fun h => ?_⟩
  · have hlt : j < ps.length := by simp only [decide_eq_true_eq] at h; omega
    refine (hC.fr0 f2).rd hlt fun a ha => ⟨fn, cap, rfl, hb, call (hp (by omega) w2 _ _ f2) ?_⟩
    rintro _ w3 ⟨rfl, f3⟩
    refine ⟨_, rfl, fun h => Rt.ok ⟨_, rfl, ?_, f2.then_ f3⟩, fun h => ?_⟩
    · rw [show decide (0 ≤ (j : Int)) = true by simp]
      symm
      exact List.any_eq_true.2 ⟨ps[j], List.getElem_mem hlt, h⟩
    · rw [ofW j (by omega)]
      refine ⟨⟨j + 1, rfl, by omega, fun k hk hkj => ?_, f2.then_ f3⟩, by dsimp only; omega⟩
      by_cases hkj2 : k = j
      · subst hkj2; exact h
      · exact hno k hk (by omega)
  · have hje : j = ps.length := by simp only [decide_eq_false_iff_not] at h; omega
    refine Rt.ok ⟨-1, rfl, ?_, f2⟩
    symm
    show ps.any _ = false
    rw [List.any_eq_false]
    intro r hr
    obtain ⟨k, hk, rfl⟩ := List.getElem_of_mem hr
    rw [hno k hk (by omega)]
    simp
theorem containsP_c {fn : FuncId} {cap : Array Value} {f : Int → Slc → Bool} (hC : RdP w p ps) (hl : ps.length ≤ 1099511627776) (hb : bodyB PP fn = true)
    (hp : 0 < ps.length → ∀ w' (I : Int) (l : Slc), Fr [] w w' → Calls PP fn (#[.agg #[.int .i64 I, l.v]] ++ cap) w' (Rt fun v w'' => v = .bool (f I l) ∧ Fr [] w' w'')) :
    Calls PP F_slices_ContainsFunc_api_Part_api_Part #[p.v, .func (.func fn) #[] cap] w (Rt fun v w' => v = .bool (ps.any fun r => f r.ix r.sl) ∧ Fr [] w w') := by
  refine sim_slices_ContainsFunc_api_Part_api_Part _ _ _ _ ?_
  unfold vc_slices_ContainsFunc_api_Part_api_Part
  refine call (indexP_c hC hl hb hp) ?_
  rintro _ w1 ⟨i, rfl, hi, f⟩
  exact ⟨i, rfl, Rt.ok ⟨by rw [hi], f⟩⟩
theorem nodup_snoc {l : List Int} {x : Int} : (l ++ [x]).Nodup ↔ l.Nodup ∧ ¬ l.contains x = true := by
  rw [List.nodup_append]
  simp
  intro _
  constructor
  · intro h hx; exact h x hx rfl
  · intro h a ha e; subst e; exact h ha
open Classical in
theorem refused_c (hC : RdCode w q g s rs n k) (hP : RdP w p ps) (hl : ps.length ≤ 1099511627776) :
    Calls PP F_code_Code_refused #[.pointer (some (blk q)), p.v] w (Rt fun v w' => v = .int .i64 (refusedV n k ps) ∧ Fr [] w w') := by
  refine sim_code_Code_refused _ _ _ _ ?_
  unfold vc_code_Code_refused
  have hpl := hP.len
  have hn := hC.hn
  refine (Hp.start w).new fun b4 w1 H => H.new fun b8 w2 H => ?_
  refine sto_seen H (by kernel_rfl) (by kernel_rfl) fun w3 H => ⟨p, H.cell (b := b4) (i := 0) rfl, ?_⟩
  refine ⟨fun t x w' => ∃ j : Nat, x = (j : Int) ∧ j ≤ ps.length ∧ (∀ r ∈ ps.take j, ¬ (r.ix < 0 ∨ (n : Int) ≤ r.ix)) ∧ t = decide (¬ ((ps.take j).map (·.ix)).Nodup) ∧ Hp w w' (star (bk b8 Ty_255_bool (seenL ((ps.take j).map (·.ix))).toArray) (star (bk b4 Ty_sl_api_Part #[p.v]) emp)), fun _ x _ => ps.length - x.toNat, ⟨0, rfl, Nat.zero_le _, fun r hr => by simp at hr, by simp, H⟩, ?_⟩
  rintro t _ w4 ⟨j, rfl, hj, hok, ht, H⟩
  refine ⟨fun h => ?_, fun h => ?_⟩
  · have hlt : j < ps.length := by simp only [decide_eq_true_eq] at h; omega
    refine (hP.fr0 H.fr).rd hlt fun a ha => H.new fun b35 w5 H => H.stoAll (b := b35) (by rfl) fun w6 H => ⟨_, H.cell (b := b35) (i := 0) rfl, decide (ps[j].ix < 0 ∨ (n : Int) ≤ ps[j].ix), fun h => ⟨_, H.cell (b := b35) (i := 0) rfl, _, rfl, (n : Int), (hC.fr0 H.fr).box.cell (i := 1) rfl, ?_⟩, fun h => ?_, fun k41 => ⟨fun h => Rt.ok ⟨?_, (H.drew k41).fr⟩, fun h => ?_⟩⟩
    · simp only [decide_eq_false_iff_not] at h
      simp [h]
    · simp only [decide_eq_true_eq] at h
      simp [h]
    · unfold refusedV
      rw [if_pos ⟨ps[j], List.getElem_mem hlt, by simpa using h⟩]
    · have hin : ¬ (ps[j].ix < 0 ∨ (n : Int) ≤ ps[j].ix) := by simpa using h
      obtain ⟨i, hi⟩ : ∃ i : Nat, ps[j].ix = (i : Int) := ⟨ps[j].ix.toNat, by omega⟩
      have hi2 : i < 255 := by omega
      have H := H.drew k41
      have et : (ps.take (j + 1)).map (·.ix) = (ps.take j).map (·.ix) ++ [(i : Int)] := by
        rw [List.take_add_one, List.getElem?_eq_getElem hlt, List.map_append]; simp [hi]
      have e8 : (w6.drewN k41).cell? ((blk b8).add (Int.toNat (i : Int) * 1)) = some (.bool (((ps.take j).map (·.ix)).contains (i : Int))) := by
        rw [Int.toNat_natCast, Nat.mul_one]
        exact H.cell (b := b8) (by rw [List.getElem?_toArray]; exact seenL_at _ hi2)
      refine ⟨t || ((ps.take j).map (·.ix)).contains (i : Int), fun h => ⟨_, H.cell (b := b35) (i := 0) rfl, by omega, by omega, _, by rw [hi]; exact e8, by rw [h, Bool.false_or]⟩, fun h => by rw [h, Bool.true_or], _, H.cell (b := b35) (i := 0) rfl, by omega, by omega, ?_⟩
      rw [hi, Int.toNat_natCast, Nat.mul_one]
      refine H.sto (b := b8) (i := i) (by rw [List.size_toArray, seenL_len]; exact hi2) fun w7 H => ?_
      rw [List.setIfInBounds_toArray, seenL_set _ hi2, ← et] at H
      rw [ofW j (by omega)]
      refine ⟨⟨j + 1, rfl, by omega, fun r hr => ?_, ?_, ?_⟩, by dsimp only; omega⟩
      · rw [List.take_add_one, List.getElem?_eq_getElem hlt] at hr
        rcases List.mem_append.1 hr with hr | hr
        · exact hok r hr
        · simp at hr; subst hr; exact hin
      · rw [et, ht]
        by_cases h1 : ((ps.take j).map (·.ix)).Nodup
        · by_cases h2 : ((ps.take j).map (·.ix)).contains (i : Int) = true
          · rw [h2, Bool.or_true]
            symm; rw [decide_eq_true_iff]; exact fun h3 => (nodup_snoc.1 h3).2 h2
          · rw [Bool.eq_false_iff.2 h2, Bool.or_false, decide_eq_false (fun h3 => h3 h1)]
            exact (decide_eq_false (fun h3 => h3 (nodup_snoc.2 ⟨h1, h2⟩))).symm
        · rw [decide_eq_true h1, Bool.true_or]
          symm; rw [decide_eq_true_iff]; exact fun h3 => h1 (nodup_snoc.1 h3).1
      · exact (H.blk b35).drop
  · have hje : j = ps.length := by simp only [decide_eq_false_iff_not] at h; omega
    subst hje
    rw [List.take_length] at hok ht
    have hno : ¬ ∃ p ∈ ps, p.ix < 0 ∨ (n : Int) ≤ p.ix := fun ⟨r, hr, h1⟩ => hok r hr h1
    refine ⟨fun h => Rt.ok ⟨?_, H.fr⟩, fun h => ⟨p, H.cell (b := b4) (i := 0) rfl, ?_⟩⟩
    · rw [h] at ht
      unfold refusedV
      rw [if_neg hno, if_pos (of_decide_eq_true ht.symm)]
    · rw [h] at ht
      have hnd := of_decide_eq_false ht.symm
      refine call (containsP_c (f := fun _ l => decide ((l.l : Int) ≠ ((ps.headD ⟨0, Slc.nil, []⟩).bs.length : Int))) (hP.fr0 H.fr) hl (by kernel_rfl) fun h0 w' I l f => ?_) ?_
      · refine sim_code_Code_refused_c1 _ _ _ _ _ ?_
        unfold vc_code_Code_refused_c1
        refine (Hp.start w').new fun b w6 H2 => ⟨p, ((H.fr0 f).fr0 H2.fr).cell (b := b4) (i := 0) rfl, (((hP.fr0 H.fr).fr0 f).fr0 H2.fr).rdD (i := 0) h0 fun a ha => fun k9 => Rt.ok ⟨?_, (H2.drew k9).fr⟩⟩
        have e0 : (ps.headD ⟨0, Slc.nil, []⟩) = ps[0] := by
          rw [List.headD_eq_head?_getD, List.head?_eq_getElem?, List.getElem?_eq_getElem h0]; rfl
        rw [e0, (hP.at_ h0).len]
      · rintro _ w5 ⟨rfl, f5⟩
        have H := H.fr0 f5
        have e1 : (ps.any fun r => decide ((r.sl.l : Int) ≠ ((ps.headD ⟨0, Slc.nil, []⟩).bs.length : Int))) = decide (∃ p ∈ ps, p.bs.length ≠ (ps.headD ⟨0, Slc.nil, []⟩).bs.length) := by
          rw [Bool.eq_iff_iff, List.any_eq_true, decide_eq_true_eq]
          constructor
          · rintro ⟨r, hr, h1⟩
            have := (hP.byt r hr).len
            exact ⟨r, hr, by simp only [decide_eq_true_eq] at h1; omega⟩
          · rintro ⟨r, hr, h1⟩
            have := (hP.byt r hr).len
            exact ⟨r, hr, by simp only [decide_eq_true_eq]; omega⟩
        refine ⟨_, rfl, fun h => Rt.ok ⟨?_, H.fr⟩, fun h => ⟨p, H.cell (b := b4) (i := 0) rfl, _, rfl, (k : Int), (hC.fr0 H.fr).box.cell (i := 2) rfl, fun k88 => ⟨fun h => Rt.ok ⟨?_, (H.drew k88).fr⟩, fun h => Rt.ok ⟨?_, (H.drew k88).fr⟩⟩⟩⟩
        · rw [e1] at h
          unfold refusedV
          rw [if_neg hno, if_neg hnd, if_pos (of_decide_eq_true h)]
        · rename_i h0
          rw [e1] at h0
          simp only [decide_eq_true_eq] at h
          unfold refusedV
          rw [if_neg hno, if_neg hnd, if_neg (of_decide_eq_false h0), if_pos (by omega)]
        · rename_i h0
          rw [e1] at h0
          simp only [decide_eq_false_iff_not] at h
          unfold refusedV
          rw [if_neg hno, if_neg hnd, if_neg (of_decide_eq_false h0), if_neg (by omega)]
end
end Go.Proofs.YtabifopphhpciaaGreatDoor
