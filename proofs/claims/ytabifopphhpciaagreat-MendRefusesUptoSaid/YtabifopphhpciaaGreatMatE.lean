/-
  Contracts of the package matrix: the closures of eliminate, eliminate.
-/
import Derived.Test.YtabifopphhpciaaGreatMatR
import Derived.Test.YtabifopphhpciaaGreatElim
namespace Go.Proofs.YtabifopphhpciaaGreat
open Go Go.Vc Go.Vc.Asn Go.Gf
/-- A cell that can be read whatever else turns. -/
def RdC (w0 : World) (F : Asn) (a : Addr) (v : Value) : Prop := ∀ w' A, Hp w0 w' (star A F) → w'.cell? a = some v
def swp (rs : Rws) (i j : Nat) : Rws := (rs.set i (rs.getD j (Slc.nil, []))).set j (rs.getD i (Slc.nil, []))
theorem swp_at {rs : Rws} {i j : Nat} (hi : i < rs.length) (hj : j < rs.length) : swp rs i j = (rs.set i rs[j]).set j rs[i] := by
  unfold swp
  rw [List.getD_eq_getElem?_getD, List.getD_eq_getElem?_getD, List.getElem?_eq_getElem hi, List.getElem?_eq_getElem hj]; rfl
theorem swp_mt {rs : Rws} {i j : Nat} (hi : i < rs.length) (hj : j < rs.length) : mt (swp rs i j) = ((mt rs).set i ((mt rs)[j]'(by rw [mt_len]; exact hj))).set j ((mt rs)[i]'(by rw [mt_len]; exact hi)) := by
  rw [swp_at hi hj]
  simp only [mt, List.map_set, List.getElem_map]
theorem swp_ent {rs : Rws} {i j : Nat} (hi : i < rs.length) (hj : j < rs.length) : ent (mt (swp rs i j)) = fun r => if r = i then ent (mt rs) j else if r = j then ent (mt rs) i else ent (mt rs) r := by
  rw [swp_mt hi hj, ent_setF (by rw [List.length_set, mt_len]; exact hj), ent_setF (by rw [mt_len]; exact hi), ent_row, ent_row]
  funext r
  by_cases h1 : r = i
  · by_cases h2 : r = j
    · subst h1; subst h2; simp
    · simp [h1]
      intro h3; exact absurd (h1.trans h3) h2
  · by_cases h2 : r = j
    · simp [h2]
      intro h3; subst h3; rfl
    · simp [h1, h2]
section
variable {w0 w : World} {F : Asn} {s : Slc} {rs : Rws} {g i j : Nat} {b b5 : Addr}
abbrev OwR (s : Slc) (rs : Rws) (F : Asn) : Asn := star (own Ty_sl_uint8 1 s (rs.map fun r => r.1.v)) (star (all rwA rs) F)
theorem swap_c (hb : RdC w0 F b s.v) (H : Hp w0 w (OwR s rs F)) (hi : i < rs.length) (hj : j < rs.length) :
    Calls PP F_matrix_eliminate_c1 #[.int .i64 (i : Int), .int .i64 (j : Int), .pointer (some b)] w (Rt fun v w' => v = .tuple #[] ∧ Hp w0 w' (OwR s (swp rs i j) F)) := by
  refine sim_matrix_eliminate_c1 _ _ _ _ _ ?_
  unfold vc_matrix_eliminate_c1
  have H := H.drew 1
  have hC := (rdR H).cel
  have hB := hb _ _ H.drop
  refine ⟨s, hB, s, hB, s, hB, hC.rdS hj fun a ha => ⟨s, hB, hC.rdS hi fun a2 ha2 => Hp.wr (s := s) H (by simpa using hi) fun w1 H => ⟨hb _ _ H.drop, Hp.wr (s := s) H (by simpa using hj) fun w2 H => Rt.ok ⟨rfl, ?_⟩⟩⟩⟩
  have e : (swp rs i j).map (fun r => r.1.v) = ((rs.map fun r => r.1.v).set i rs[j].1.v).set j rs[i].1.v := by
    rw [swp_at hi hj, List.map_set, List.map_set]
  unfold OwR
  rw [e]
  refine H.ent (Ent.star (Ent.refl _) (Ent.star (all_perm ?_) (Ent.refl _)))
  rw [swp_at hi hj]
  exact (List.set_set_perm hi hj).symm
theorem scale_c {c : UInt8} (hK : Blk w0 g Ty_gf_Field fieldL.toArray) (hb : RdC w0 F b s.v) (hb5 : RdC w0 F b5 (.pointer (some (blk g)))) (H : Hp w0 w (OwR s rs F)) (hi : i < rs.length) (hl : rs[i].2.length ≤ 1099511627776) :
    Calls PP F_matrix_eliminate_c3 #[.int .i64 (i : Int), u8v c, .pointer (some b), .pointer (some b5)] w (Rt fun v w' => v = .tuple #[] ∧ Hp w0 w' (OwR s (upd rs i (mulR c rs[i].2)) F)) := by
  refine sim_matrix_eliminate_c3 _ _ _ _ _ _ ?_
  unfold vc_matrix_eliminate_c3
  have hrl := ((rdR H).at_ hi).len
  refine ⟨s, hb _ _ H.drop, (rdR H).cel.rdS hi fun a ha => ⟨fun x w' => ∃ (t : Nat) (cur : List UInt8), x = (t : Int) ∧ t ≤ rs[i].2.length ∧ cur.length = rs[i].2.length ∧ (∀ k, k < t → cur[k]? = (mulR c rs[i].2)[k]?) ∧ (∀ k, t ≤ k → cur[k]? = rs[i].2[k]?) ∧ Hp w0 w' (star (own Ty_uint8 1 rs[i].1 (cur.map u8v)) (star (all rwA (rs.take i ++ rs.drop (i + 1))) (star (own Ty_sl_uint8 1 s (rs.map fun r => r.1.v)) F))), fun x _ => rs[i].2.length - x.toNat, ⟨0, rs[i].2, rfl, Nat.zero_le _, rfl, fun k hk => by omega, fun _ _ => rfl, pickRow rs H hi⟩, ?_⟩⟩
  rintro _ w1 ⟨t, cur, rfl, ht, hcl, h1, h2, H⟩
  have hml : (mulR c rs[i].2).length = rs[i].2.length := by unfold mulR; rw [List.length_map]
  refine ⟨fun h => ?_, fun h => ?_⟩
  · have hlt : t < rs[i].2.length := by simp only [decide_eq_true_eq] at h; omega
    have hcu : t < cur.length := by omega
    refine Byt.rd (H.cel (s := rs[i].1)) hcu fun a2 ha2 => ?_
    have H := H.drew 1
    refine ⟨s, hb _ _ H.drop.drop, Cel.rdS (H.drop.drop.cel (s := s)) hi fun a3 ha3 => ⟨some (blk g), hb5 _ _ H.drop.drop, ?_⟩⟩
    refine call (mul_c (f := g) cur[t] c (hK.fr H.fr (by simp))) ?_
    rintro _ w2 ⟨rfl, f⟩
    have H := H.fr0 f
    refine ⟨_, rfl, hb _ _ H.drop.drop, Cel.at' (H.drop.drop.cel (s := s)) hi ha3, Hp.wr (s := rs[i].1) H (by simpa using hcu) fun w3 H => ?_⟩
    rw [← List.map_set] at H
    rw [ofW t (by omega)]
    refine ⟨⟨t + 1, cur.set t (mul cur[t] c), rfl, by omega, by rw [List.length_set]; exact hcl, fun k hk => ?_, fun k hk => ?_, H⟩, by dsimp only; omega⟩
    · rw [List.getElem?_set]
      by_cases hkt : t = k
      · subst hkt
        have e := h2 t (Nat.le_refl _)
        rw [List.getElem?_eq_getElem hcu, List.getElem?_eq_getElem hlt] at e
        injection e with e
        rw [if_pos rfl, if_pos hcu, e]
        unfold mulR
        rw [List.getElem?_map, List.getElem?_eq_getElem hlt]
        rfl
      · rw [if_neg hkt]; exact h1 k (by omega)
    · rw [List.getElem?_set, if_neg (by omega)]
      exact h2 k (by omega)
  · have hte : t = rs[i].2.length := by simp only [decide_eq_false_iff_not] at h; omega
    have e : cur = mulR c rs[i].2 := by
      apply List.ext_getElem?
      intro k
      by_cases hk : k < rs[i].2.length
      · exact h1 k (by omega)
      · rw [List.getElem?_eq_none (by omega), List.getElem?_eq_none (by omega)]
    rw [e] at H
    refine Rt.ok ⟨rfl, ?_⟩
    have H := putRow hi H
    unfold OwR
    rw [upd_sl]
    exact H.own s
theorem others {α : Type} {l : List α} {i j : Nat} (hi : i < l.length) (hj : j < l.length) (h : i ≠ j) : l[j] ∈ l.take i ++ l.drop (i + 1) := by
  rw [List.mem_append]
  by_cases h2 : j < i
  · left
    rw [List.mem_take_iff_getElem]
    exact ⟨j, by omega, rfl⟩
  · right
    rw [List.mem_drop_iff_getElem]
    exact ⟨j - (i + 1), by omega, by congr 1; omega⟩
theorem add_c {c : UInt8} (hK : Blk w0 g Ty_gf_Field fieldL.toArray) (hb : RdC w0 F b s.v) (hb5 : RdC w0 F b5 (.pointer (some (blk g)))) (H : Hp w0 w (OwR s rs F)) (hi : i < rs.length) (hj : j < rs.length) (hij : i ≠ j) (hl : rs[i].2.length ≤ 1099511627776) (hl2 : rs[j].2.length = rs[i].2.length) :
    Calls PP F_matrix_eliminate_c2 #[.int .i64 (i : Int), u8v c, .int .i64 (j : Int), .pointer (some b5), .pointer (some b)] w (Rt fun v w' => v = .tuple #[] ∧ Hp w0 w' (OwR s (upd rs i (addR c rs[i].2 rs[j].2)) F)) := by
  refine sim_matrix_eliminate_c2 _ _ _ _ _ _ _ ?_
  unfold vc_matrix_eliminate_c2
  have H := H.drew 1
  refine ⟨_, hb5 _ _ H.drop, s, hb _ _ H.drop, (rdR H).cel.rdS hi fun a ha => ⟨s, hb _ _ H.drop, (rdR H).cel.rdS hj fun a2 ha2 => ?_⟩⟩
  refine call (addMul_c (p := g) (bs := rs[i].2) (xs := rs[j].2) c (fun w' A X => hK.fr X.fr (by simp)) (fun w' A X => ?_) hl2 hl (pickRow rs H hi)) ?_
  · have X2 : Hp w0 w' (star (all rwA (rs.take i ++ rs.drop (i + 1))) _) := X.drop
    exact rowsOf (rs := rs.take i ++ rs.drop (i + 1)) X2 rs[j] (others hi hj hij)
  · rintro _ w1 ⟨rfl, H⟩
    have H := putRow hi H
    refine ⟨_, rfl, Rt.ok ⟨rfl, ?_⟩⟩
    unfold OwR
    rw [upd_sl]
    exact H.own s
end
end Go.Proofs.YtabifopphhpciaaGreat
