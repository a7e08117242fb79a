/-
  Contracts of the package code: New, sum, shaped, Encode, Row.
-/
import Derived.Test.YtabifopphhpciaaGreatGen
namespace Go.Proofs.YtabifopphhpciaaGreat
open Go Go.Vc Go.Vc.Asn Go.Gf
section
variable {w0 w : World} {F : Asn} {s : Slc} {rs : Rws} {g n k q : Nat}
theorem std_c : Calls PP F_gf_Std #[] w (Rt fun v w' => ∃ p, v = .pointer (some (blk p)) ∧ Hp w w' (star (fieldA p) emp)) := by
  refine sim_gf_Std _ _ ?_
  unfold vc_gf_Std
  refine call gfNew_c ?_
  rintro _ w1 ⟨p, rfl, H⟩
  exact ⟨_, _, rfl, Rt.ok ⟨p, rfl, H⟩⟩
theorem generator_c (hK : Blk w g Ty_gf_Field fieldL.toArray) (hk : 1 ≤ k) (hkn : k ≤ n) (hn : n ≤ 255) :
    Calls PP F_code_generator #[.pointer (some (blk g)), .int .i64 (n : Int), .int .i64 (k : Int)] w (Rt fun v w' => ∃ s rs, v = s.v ∧ Gen n k (mt rs) ∧ Hp w w' (star (rwsA s rs) emp)) := by
  refine sim_code_generator _ _ _ _ _ ?_
  unfold vc_code_generator
  refine Hp.make slT_sl_uint8 rfl (by omega) (by omega) (Hp.start w) fun b w1 H => ?_
  have e0 : List.replicate n (Value.int .u8 0) = ((List.range 0).map pt ++ List.replicate (n - 0) 0).map u8v := by rw [zcells]; rfl
  rw [e0] at H
  refine ⟨fun x w' => ∃ j : Nat, x = (j : Int) ∧ j ≤ n ∧ Hp w w' (star (own Ty_uint8 1 ⟨some (blk b), n, n⟩ (((List.range j).map pt ++ List.replicate (n - j) 0).map u8v)) emp), fun x _ => n - x.toNat, ⟨0, rfl, Nat.zero_le _, H⟩, ?_⟩
  rintro _ w2 ⟨j, rfl, hj, H⟩
  refine ⟨fun h => ?_, fun h => ?_⟩
  · have hlt : j < n := by simp only [decide_eq_true_eq] at h; omega
    have e1 : (Value.int .u8 (wr .u8 (j : Int))) = u8v (pt j) := by
      unfold u8v pt
      rw [wr8u (by omega) (by omega), UInt8.toNat_ofNat', Nat.mod_eq_of_lt (by omega)]
    rw [e1, ofW j (by omega)]
    refine Hp.wr (s := ⟨some (blk b), n, n⟩) H (by simp; omega) fun w3 H => ?_
    rw [← List.map_set, List.set_append_right _ _ (by simp), List.length_map, List.length_range, Nat.sub_self, show n - j = (n - (j + 1)) + 1 by omega, List.replicate_succ, List.set_cons_zero] at H
    refine ⟨⟨j + 1, rfl, by omega, ?_⟩, by dsimp only; omega⟩
    have e2 : (List.range (j + 1)).map pt ++ List.replicate (n - (j + 1)) 0 = (List.range j).map pt ++ pt j :: List.replicate (n - (j + 1)) 0 := by rw [List.range_succ, List.map_append, List.append_assoc]; rfl
    rw [e2]
    exact H
  · have hje : j = n := by simp only [decide_eq_false_iff_not] at h; omega
    subst hje
    rw [Nat.sub_self, List.replicate_zero, List.append_nil] at H
    have hP : Byt w2 ⟨some (blk b), j, j⟩ ((List.range j).map pt) := H.cel (s := ⟨some (blk b), j, j⟩)
    have hgP : ∀ i, i < j → ((List.range j).map pt).getD i 0 = pt i := fun i hi => by
      rw [List.getD_eq_getElem?_getD, List.getElem?_map, List.getElem?_range hi]; rfl
    refine call (vander_c (hK.fr H.fr (by simp)) hP (by simp; omega) (by simp; omega) hk (by omega)) ?_
    rintro _ w3 ⟨q1, s1, r1, rfl, hS1, he1, H1⟩
    rw [List.length_map, List.length_range] at hS1 he1
    have H2 := H.beside H1
    refine ⟨_, _, rfl, by omega, by omega, by show (k : Int) ≤ (j : Int); omega, ?_⟩
    have hcut : Byt w3 ((⟨some (blk b), j, j⟩ : Slc).cut 1 (Int.toNat 0) (Int.toNat (k : Int))) ((List.range k).map pt) := by
      have := Cel.cut (hP.fr0 H1.fr) (l := 0) (k := k) (by omega) (by show k ≤ j; omega)
      rw [Nat.mul_one, Nat.mul_one, List.drop_zero, ← List.map_take, ← List.map_take, List.take_range, Nat.sub_zero, Nat.min_eq_left hkn] at this
      exact this
    refine call (vander_c (hK.fr H2.fr (by simp)) hcut (by simp; omega) (by simp; omega) hk (by omega)) ?_
    rintro _ w4 ⟨q2, s2, r2, rfl, hS2, he2, H3⟩
    rw [List.length_map, List.length_range] at hS2 he2
    have H4 := H2.beside H3
    have hE : ∀ i c, i < k → c < k → ent (mt r2) i c = vm i c := fun i c hi hc => by
      rw [he2 i c hi hc, List.getD_eq_getElem?_getD, List.getElem?_map, List.getElem?_range hi]; rfl
    have hT : Triv (ent (mt r2)) k := by
      have hv := vander pt k fun i j hi hj e => pt_inj (by omega) (by omega) e
      intro v hk2
      refine hv v fun i hi => ?_
      rw [← hk2 i hi]
      exact dot_congr (fun c hc => (hE i c hi hc).symm) fun _ _ => rfl
    refine ⟨_, _, rfl, call (invert_c (hK.fr H4.fr (by simp)) (rdM H3) hS2 hk (by omega) hT) ?_⟩
    rintro _ w5 ⟨q3, s3, r3, rfl, hS3, hI, H5⟩
    have H6 := H4.beside H5
    refine ⟨_, _, rfl, call (mul_mat_c (m := j) (n := k) (l := k) (hK.fr H6.fr (by simp)) ((rdM H1).fr0 (H3.fr.then_ H5.fr)) (rdM H5) hS1 hS3 (by omega) (by omega) hk (by omega) (by omega)) ?_⟩
    rintro _ w6 ⟨q4, s4, r4, rfl, hS4, he4, H7⟩
    have H8 := H6.beside H7
    refine ⟨_, _, rfl, call (rows_c (rdM H7) (by rw [shpLen hS4]; omega) fun r hr => by
      obtain ⟨i, hi, rfl⟩ := List.getElem_of_mem hr
      rw [shpRow hS4 hi]; omega) ?_⟩
    rintro _ w7 ⟨s5, r5, rfl, hm5, H9⟩
    refine ⟨_, rfl, Rt.ok ⟨s5, r5, rfl, ?_, Hp.from H8.fr H9⟩⟩
    rw [hm5]
    refine ⟨hS4, ent (mt r3), ?_, fun i c hi hc => ?_⟩
    · refine ⟨fun x i hi => ?_, fun y i hi => ?_⟩
      · rw [← hI.1 x i hi]
        exact dot_congr (fun _ _ => rfl) fun c hc => dot_congr (fun c2 hc2 => (hE c c2 hc hc2).symm) fun _ _ => rfl
      · rw [← hI.2 y i hi]
        exact dot_congr (fun c hc => (hE i c hi hc).symm) fun _ _ => rfl
    · rw [he4 i c hi hc]
      refine dot_congr (fun x hx => ?_) fun _ _ => rfl
      rw [he1 i x hi hx, hgP i hi]; rfl
/-- A code, to be read. -/
structure RdCode (w : World) (q g : Nat) (s : Slc) (rs : Rws) (n k : Nat) : Prop where
  box : Blk w q Ty_code_Code #[.pointer (some (blk g)), .int .i64 (n : Int), .int .i64 (k : Int), s.v]
  field : Blk w g Ty_gf_Field fieldL.toArray
  rows : RdR w s rs
  gen : Gen n k (mt rs)
  hk : 1 ≤ k
  hkn : k ≤ n
  hn : n ≤ 255
theorem RdCode.fr0 {w w' : World} (h : RdCode w q g s rs n k) (f : Fr [] w w') : RdCode w' q g s rs n k := ⟨h.box.fr f (by simp), h.field.fr f (by simp), h.rows.fr0 f, h.gen, h.hk, h.hkn, h.hn⟩
theorem codeNew_c (hk : 1 ≤ k) (hkn : k ≤ n) (hn : n ≤ 255) :
    Calls PP F_code_New #[.int .i64 (n : Int), .int .i64 (k : Int)] w (Rt fun v w' => ∃ q g s rs, v = .tuple #[.pointer (some (blk q)), .int .i64 0] ∧ RdCode w' q g s rs n k ∧ Fr [] w w') := by
  refine sim_code_New _ _ _ _ ?_
  unfold vc_code_New
  refine ⟨fun h => ?_, fun _ => call std_c ?_⟩
  · simp at h; omega
  · rintro _ w1 ⟨g, rfl, H⟩
    refine ⟨_, rfl, call (generator_c (H.isBlk (b := g)) hk hkn hn) ?_⟩
    rintro _ w2 ⟨s, rs, rfl, hG, H2⟩
    have H3 := H.beside H2
    refine ⟨s, rfl, H3.new fun q w3 H => Rt.ok ⟨q, g, s, rs, rfl, ⟨H.isBlk (b := q), H.isBlk (b := g), ?_, hG, hk, hkn, hn⟩, H.fr⟩⟩
    exact rdR (H.drop.assoc.assoc)
theorem sum_c {fsl d : Slc} {fs : List UInt8} {ds : Rws} {m l : Nat} (hC : RdCode w q g s rs n k) (hf : Byt w fsl fs) (hd : RdR w d ds) (hS : Shp (mt ds) m l) (hm : 1 ≤ m) (hm2 : m ≤ 256) (hfm : m ≤ fs.length) (hl : l ≤ 16777216) :
    Calls PP F_code_Code_sum #[.pointer (some (blk q)), fsl.v, d.v] w (Rt fun v w' => ∃ o, v = o.v ∧ Hp w w' (star (own Ty_uint8 1 o ((lin fs (mt ds) l).map u8v)) emp)) := by
  refine sim_code_Code_sum _ _ _ _ _ ?_
  unfold vc_code_Code_sum
  have hdl := shpLen hS
  have hdsl := hd.cel.lenM
  have hrw : ∀ i (hi : i < ds.length), ds[i].1.l = l := fun i hi => by rw [(hd.at_ hi).len]; exact shpRow hS hi
  refine hd.cel.rdS (i := 0) (by omega) fun a ha => ?_
  rw [hrw 0 (by omega)]
  refine Hp.make slT_sl_uint8 rfl (by omega) hl (Hp.start w) fun b w1 H => ?_
  rw [zcells] at H
  refine ⟨fun x w' => ∃ (t : Nat) (cur : List UInt8), x = (t : Int) ∧ t ≤ m ∧ cur.length = l ∧ (∀ c, c < l → cur.getD c 0 = sumX t fun x => mul (fs.getD x 0) (ent (mt ds) x c)) ∧ Hp w w' (star (own Ty_uint8 1 ⟨some (blk b), l, l⟩ (cur.map u8v)) emp), fun x _ => m - x.toNat, ⟨0, List.replicate l 0, rfl, Nat.zero_le _, by simp, fun c hc => ?_, H⟩, ?_⟩
  · rw [List.getD_eq_getElem?_getD, List.getElem?_replicate, if_pos hc]; rfl
  rintro _ w2 ⟨t, cur, rfl, ht, hcl, hcur, H⟩
  refine ⟨fun h => ?_, fun h => ?_⟩
  · have hlt : t < m := by simp only [decide_eq_true_eq] at h; omega
    have htd : t < ds.length := by omega
    have hr := shpRow hS htd
    refine (hd.fr0 H.fr).cel.rdS htd fun a2 ha2 => ⟨_, rfl, ?_⟩
    have H := H.drew 1
    refine ⟨_, (hC.fr0 H.fr).box.cell (i := 0) rfl, (hf.fr0 H.fr).rd (i := t) (by omega) fun a3 ha3 => ?_⟩
    refine call (addMul_c (p := g) (bs := cur) (xs := ds[t].2) (fs[t]'(by omega)) (fun w' A X => hC.field.fr X.fr (by simp)) (fun w' A X => (hd.fr0 X.fr).at_ htd) (by omega) (by omega) H) ?_
    rintro _ w3 ⟨rfl, H⟩
    rw [ofW t (by omega)]
    refine ⟨_, rfl, ⟨t + 1, _, rfl, by omega, ?_, fun c hc => ?_, H⟩, by dsimp only; omega⟩
    · rw [addR_len (by omega)]; exact hcl
    · rw [addR_at (by omega), hcur c hc]
      show _ = sumX t _ ^^^ mul _ _
      congr 2
      · rw [List.getD_eq_getElem?_getD, List.getElem?_eq_getElem (by omega)]; rfl
      · rw [ent_at (by rw [mt_len]; omega), mt_at htd]
  · have hte : t = m := by simp only [decide_eq_false_iff_not] at h; omega
    subst hte
    have e : cur = lin fs (mt ds) l := list_ext (by rw [lin_len]; exact hcl) fun c hc => by
      rw [lin_at _ _ (by omega), hcur c (by omega), mt_len, hdl]; rfl
    rw [e] at H
    exact Rt.ok ⟨_, rfl, H⟩
theorem shaped_c {d : Slc} {ds : Rws} {l : Nat} (hC : RdCode w q g s rs n k) (hd : RdR w d ds) (hS : Shp (mt ds) k l) :
    Calls PP F_code_Code_shaped #[.pointer (some (blk q)), d.v] w (Rt fun v w' => v = .bool true ∧ Fr [] w w') := by
  refine sim_code_Code_shaped _ _ _ _ ?_
  unfold vc_code_Code_shaped
  have hdl := shpLen hS
  have hdsl := hd.cel.lenM
  have hk := hC.hk
  have hkn := hC.hkn
  have hn := hC.hn
  have hrw : ∀ i (hi : i < ds.length), ds[i].1.l = l := fun i hi => by rw [(hd.at_ hi).len]; exact shpRow hS hi
  refine (Hp.start w).new fun b w1 H => ?_
  have H := H.drew 1
  refine ⟨fun b w' => b = true ∧ Fr [] w w', ⟨d, H.cell (b := b) (i := 0) rfl, _, rfl, (k : Int), (hC.fr0 H.fr).box.cell (i := 2) rfl, fun _ => ⟨d, H.cell (b := b) (i := 0) rfl, ?_⟩, fun h => ?_⟩, ?_⟩
  · refine call (containsB_c (p := fun l => decide ((l.l : Int) ≠ (ds[0]'(by omega)).1.l)) (hd.fr0 H.fr).cel (by omega) (by kernel_rfl) fun w' l f => ?_) ?_
    · refine sim_code_Code_shaped_c1 _ _ _ _ ?_
      unfold vc_code_Code_shaped_c1
      exact ⟨d, (H.fr0 f).cell (b := b) (i := 0) rfl, ((hd.fr0 H.fr).fr0 f).cel.rdS (i := 0) (by omega) fun a ha => Rt.ok ⟨rfl, Fr.refl _ _⟩⟩
    · rintro _ w2 ⟨rfl, f⟩
      refine ⟨_, rfl, ?_, H.fr.then_ f⟩
      rw [Bool.not_eq_true', List.any_eq_false]
      intro r hr
      obtain ⟨i, hi, rfl⟩ := List.getElem_of_mem hr
      simp only [decide_eq_true_eq, ne_eq, Decidable.not_not]
      rw [hrw i hi, hrw 0 (by omega)]
  · simp only [decide_eq_false_iff_not] at h; omega
  · rintro _ w2 ⟨rfl, f⟩
    exact Rt.ok ⟨rfl, f⟩
theorem encode_c {d : Slc} {ds : Rws} {l : Nat} (hC : RdCode w q g s rs n k) (hd : RdR w d ds) (hS : Shp (mt ds) k l) (hl : l ≤ 16777216) :
    Calls PP F_code_Code_Encode #[.pointer (some (blk q)), d.v] w (Rt fun v w' => ∃ o os, v = .tuple #[o.v, .int .i64 0] ∧ mt os = (mt rs).map (fun fs => lin fs (mt ds) l) ∧ Hp w w' (star (rwsA o os) emp)) := by
  refine sim_code_Code_Encode _ _ _ _ ?_
  unfold vc_code_Code_Encode
  have hk := hC.hk
  have hkn := hC.hkn
  have hn := hC.hn
  have hrl := shpLen hC.gen.shp
  have hsl := hC.rows.cel.lenM
  refine ⟨fun h => by simp at h, fun _ => call (shaped_c hC hd hS) ?_⟩
  rintro _ w1 ⟨rfl, f1⟩
  refine ⟨true, rfl, fun h => by simp at h, fun _ => ⟨_, rfl, s, (hC.fr0 f1).box.cell (i := 3) rfl, fun o x w' => ∃ (j : Nat) (os : Rws), x = (j : Int) ∧ j ≤ n ∧ mt os = ((mt rs).map (fun fs => lin fs (mt ds) l)).take j ∧ Hp w w' (star (own Ty_sl_uint8 1 o (os.map fun r => r.1.v)) (star (all rwA os) emp)), fun _ x _ => n - x.toNat, ⟨0, [], rfl, Nat.zero_le _, rfl, (((Hp.start w).fr0 f1).nilRow Ty_sl_uint8 1).ent (Ent.star (Ent.refl _) emp_l)⟩, ?_⟩⟩
  rintro o _ w2 ⟨j, os, rfl, hj, hos, H⟩
  have hol : os.length = j := by have := congrArg List.length hos; simpa [hrl, Nat.min_eq_left hj] using this
  have hosl := (H.cel (s := o)).lenM
  refine ⟨fun h => ?_, fun h => ?_⟩
  · have hlt : j < rs.length := by simp only [decide_eq_true_eq] at h; omega
    refine (hC.fr0 H.fr).rows.cel.rdS hlt fun a ha => ?_
    refine call (sum_c (hC.fr0 H.fr) ((hC.fr0 H.fr).rows.at_ hlt) (hd.fr0 H.fr) hS hk (by omega) (by rw [shpRow hC.gen.shp hlt]; exact Nat.le_refl _) hl) ?_
    rintro _ w3 ⟨o2, rfl, H2⟩
    have H := H.beside H2
    refine ⟨o2, rfl, Hp.app1 (s := o) slT_sl_sl_uint8 H rfl (by unfold maxLen; omega) (by omega) fun o3 w4 H ho3 => ?_⟩
    rw [ofW j (by omega)]
    refine ⟨⟨j + 1, os ++ [(o2, lin rs[j].2 (mt ds) l)], rfl, by omega, ?_, ?_⟩, by dsimp only; omega⟩
    · show (os ++ [_]).map _ = _
      have hos : os.map (fun r => r.2) = ((mt rs).map (fun fs => lin fs (mt ds) l)).take j := hos
      rw [List.map_append, hos, List.take_add_one, List.getElem?_map, List.getElem?_map, List.getElem?_eq_getElem hlt]
      rfl
    · have H : Hp w w4 (star (own Ty_sl_uint8 1 o3 (os.map (fun r => r.1.v) ++ [o2.v])) (star (rwA (o2, lin rs[j].2 (mt ds) l)) (star emp (star (all rwA os) emp)))) := H
      rw [List.map_append]
      exact H.ent (Ent.star (Ent.refl _) ((Ent.star (Ent.refl _) emp_l').trans (Asn.assoc'.trans (Ent.star (all_snoc rwA _ os) (Ent.refl _)))))
  · have hje : j = n := by simp only [decide_eq_false_iff_not] at h; omega
    subst hje
    rw [List.take_of_length_le (by simp [hrl])] at hos
    exact Rt.ok ⟨o, os, rfl, hos, H.assoc'⟩
end
end Go.Proofs.YtabifopphhpciaaGreat
