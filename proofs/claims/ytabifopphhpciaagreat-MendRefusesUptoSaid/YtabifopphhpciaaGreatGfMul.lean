/-
  Contract of gf.AddMul.
-/
import Derived.Test.YtabifopphhpciaaGreatGfC
import Derived.Test.YtabifopphhpciaaGreatXor8
import Derived.Test.YtabifopphhpciaaGreatSep
namespace Go.Gf
open Go Go.Vc
/-- A row to which another is added. -/
def addR (c : UInt8) (bs xs : List UInt8) : List UInt8 := List.zipWith (fun b x => b ^^^ mul c x) bs xs
end Go.Gf
namespace Go.Proofs.YtabifopphhpciaaGreat
open Go Go.Vc Go.Vc.Asn Go.Gf
section
variable {p : Nat} {w0 w : World} {F : Asn}
/-- Bytes that can be read whatever else turns. -/
def RdB (w0 : World) (F : Asn) (d : Slc) (bs : List UInt8) : Prop := ∀ w' A, Hp w0 w' (star A F) → Byt w' d bs
def RdK (w0 : World) (F : Asn) (p : Nat) : Prop := ∀ w' A, Hp w0 w' (star A F) → Blk w' p Ty_gf_Field fieldL.toArray
theorem addMul_c {d s : Slc} {bs xs : List UInt8} (c : UInt8) (hK : RdK w0 F p) (hb : RdB w0 F s xs) (hlen : xs.length = bs.length) (hl : bs.length ≤ 1099511627776) (H : Hp w0 w (star (own Ty_uint8 1 d (bs.map u8v)) F)) :
    Calls PP F_gf_Field_AddMul #[.pointer (some (blk p)), d.v, u8v c, s.v] w (Rt fun v w' => v = .int .i64 0 ∧ Hp w0 w' (star (own Ty_uint8 1 d ((addR c bs xs).map u8v)) F)) := by
  have hdl : d.l = bs.length := by have := (H.cel (s := d)).len; simp at this; omega
  have hsl : s.l = xs.length := by have := (hb _ _ H).len; omega
  refine sim_gf_Field_AddMul _ _ _ _ _ _ ?_
  unfold vc_gf_Field_AddMul
  refine ⟨fun h => by simp at h, fun _ => ⟨fun h => ?_, fun _ => ?_⟩⟩
  · rw [hdl, hsl, hlen] at h; simp at h
  refine Hp.app (s := Slc.nil) slT_sl_uint8 (H.nilRow Ty_uint8 1) (hb _ _ H) (one_u8 _) (by unfold maxLen; simp only; omega) (by simp only; omega) fun s15 w1 H hs15 => ?_
  simp only at hs15
  rw [List.nil_append] at H
  refine ⟨fun i w' => ∃ (j : Nat) (cur : List UInt8), i = (j : Int) ∧ j ≤ bs.length ∧ cur.length = bs.length ∧ (∀ k, k < j → cur[k]? = (addR c bs xs)[k]?) ∧ (∀ k, j ≤ k → cur[k]? = bs[k]?) ∧ Hp w0 w' (star (own Ty_uint8 1 s15 (xs.map u8v)) (star (own Ty_uint8 1 d (cur.map u8v)) F)), fun i _ => bs.length - i.toNat, ⟨0, bs, rfl, Nat.zero_le _, rfl, (fun k hk => by omega), fun _ _ => rfl, H⟩, ?_⟩
  rintro _ w2 ⟨j, cur, rfl, hj, hcl, h1, h2, H⟩
  have hal : (addR c bs xs).length = bs.length := by unfold addR; rw [List.length_zipWith]; omega
  refine ⟨fun h => ?_, fun h => ?_⟩
  · have hlt : j < bs.length := by simp only [decide_eq_true_eq] at h; omega
    have ewr : wr .i64 ((j : Int) + 1) = ((j + 1 : Nat) : Int) := by rw [wr64 (by omega) (by omega)]; omega
    obtain ⟨a, ha, hc⟩ := (H.cel (s := s15)).at_ j (u8v (xs[j]'(by omega))) (by rw [List.getElem?_map, List.getElem?_eq_getElem (by omega)]; rfl)
    have hcj : cur[j]? = some (bs[j]'hlt) := by rw [h2 j (Nat.le_refl _), List.getElem?_eq_getElem hlt]
    have H := H.drew 1
    obtain ⟨a2, ha2, hc2⟩ := (H.cel (s := d)).at_ j (u8v (bs[j]'hlt)) (by rw [List.getElem?_map, hcj]; rfl)
    refine ⟨a, ha, by omega, by omega, _, by rw [Int.toNat_natCast, Nat.mul_one]; exact hc, a2, ha2, by omega, by omega, _, by rw [Int.toNat_natCast, Nat.mul_one]; exact hc2, ?_⟩
    refine call (mul_c c (xs[j]'(by omega)) (hK _ _ H.assoc')) ?_
    rintro _ w3 ⟨rfl, f⟩
    have H := H.fr0 f
    rw [Int.toNat_natCast, Nat.mul_one]
    obtain ⟨a3, ha3, hc3⟩ := (H.cel (s := d)).at_ j (u8v (bs[j]'hlt)) (by rw [List.getElem?_map, hcj]; rfl)
    rw [ha2] at ha3
    injection ha3 with ha3
    subst ha3
    refine ⟨_, rfl, hc3, a2, ha2, by omega, by omega, ?_⟩
    refine (H.own d).stoS (s := d) (i := j) (by rw [List.length_map]; omega) ha2 fun w4 H => ?_
    rw [xor8, ← List.map_set] at H
    refine ⟨⟨j + 1, cur.set j (bs[j]'hlt ^^^ mul c (xs[j]'(by omega))), by rw [ewr], by omega, by rw [List.length_set]; exact hcl, fun k hk => ?_, fun k hk => ?_, H.own s15⟩, by dsimp only; rw [ewr]; omega⟩
    · rw [List.getElem?_set]
      by_cases hkj : j = k
      · subst hkj
        rw [if_pos rfl, if_pos (by omega)]
        unfold addR
        rw [List.getElem?_zipWith, List.getElem?_eq_getElem hlt, List.getElem?_eq_getElem (by omega)]
      · rw [if_neg hkj]
        exact h1 k (by omega)
    · rw [List.getElem?_set, if_neg (by omega)]
      exact h2 k (by omega)
  · have hje : j = bs.length := by simp only [decide_eq_false_iff_not] at h; omega
    subst hje
    have e : cur = addR c bs xs := by
      apply List.ext_getElem?
      intro k
      by_cases hk : k < bs.length
      · exact h1 k hk
      · rw [List.getElem?_eq_none (by omega), List.getElem?_eq_none (by omega)]
    rw [e] at H
    exact Rt.ok ⟨rfl, H.drop⟩
end
end Go.Proofs.YtabifopphhpciaaGreat
