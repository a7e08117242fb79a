/-
  Contracts of the package matrix: Rows, New; of slices: ContainsFunc over rows.
-/
import Derived.Test.YtabifopphhpciaaGreatMatM
namespace Go.Vc
open Go Go.Vc.Asn
section
variable {P : Program} {t ty e bytes : Nat} {z : Value} {s : Slc} {w0 w : World} {A F : Asn} {cs : List Value}
/-- append of one element. -/
theorem Hp.app1 (T : SlT P t e 1 bytes z) [h : TakeS s A e 1 cs F] (H : Hp w0 w A) {v : Value} (h1 : v.oneCell' = true) {K : Slc → World → Prop} (hm : s.l + 1 ≤ maxLen) (hb : (s.l + 1) * bytes ≤ 140737488355328)
    (k : ∀ s' w', Hp w0 w' (star (Asn.own e 1 s' (cs ++ [v])) F) → s'.l = s.l + 1 → K s' w') : New w #[v] e fun b w' => App P t t ty w' s.v (Slc.v (Slc.mk (some (Vc.blk b)) 1 1)) K := by
  refine (H.own s).new fun b w1 H => ?_
  have hC : Cel w1 (Slc.mk (some (Vc.blk b)) 1 1) 1 [v] := Cel.block (b := b) (e := e) (l := [v]) (H.isBlk (b := b)) rfl (Nat.le_refl _) (Nat.le_refl _)
  exact (H.drop).app (s := s) T hC (fun u hu => by simp at hu; subst hu; exact h1) hm hb fun s' w' H hl => k s' w' H hl
end
end Go.Vc
namespace Go.Proofs.YtabifopphhpciaaGreat
open Go Go.Vc Go.Vc.Asn Go.Gf
theorem mt_at {rs : Rws} {j : Nat} (hj : j < rs.length) : (mt rs)[j]'(by simpa [mt] using hj) = rs[j].2 := by simp [mt]
theorem mt_len (rs : Rws) : (mt rs).length = rs.length := by simp [mt]
section
variable {w0 w : World} {F : Asn} {q : Nat} {f : Option Addr} {s : Slc} {rs : Rws}
theorem rows_c (hM : RdM w q f s rs) (hl : rs.length ≤ 1048576) (hl2 : ∀ r ∈ rs, r.2.length ≤ 1073741824) :
    Calls PP F_matrix_Matrix_Rows #[.pointer (some (blk q))] w (Rt fun v w' => ∃ s' rs', v = s'.v ∧ mt rs' = mt rs ∧ Hp w w' (star (rwsA s' rs') emp)) := by
  refine sim_matrix_Matrix_Rows _ _ _ ?_
  unfold vc_matrix_Matrix_Rows
  have hsl := hM.rows.cel.lenM
  refine ⟨fun h => by simp at h, fun _ => ⟨_, rfl, s, hM.box.cell (i := 1) rfl, ?_⟩⟩
  refine Hp.makeCap (l := 0) slT_sl_sl_uint8 rfl (by omega) (by omega) (Nat.zero_le _) (Hp.start w) fun b w1 H => ?_
  refine ⟨s, (hM.fr0 H.fr).box.cell (i := 1) rfl, fun o i w' => ∃ (j : Nat) (rs' : Rws), i = (j : Int) ∧ j ≤ rs.length ∧ mt rs' = (mt rs).take j ∧ Hp w w' (star (own Ty_sl_uint8 1 o (rs'.map fun r => r.1.v)) (star (all rwA rs') emp)), fun _ i _ => rs.length - i.toNat, ⟨0, [], rfl, Nat.zero_le _, rfl, H.ent (Ent.star (Ent.refl _) emp_l)⟩, ?_⟩
  rintro o _ w2 ⟨j, rs', rfl, hj, hrs, H⟩
  have hrl : rs'.length = j := by have := congrArg List.length hrs; simpa [Nat.min_eq_left hj] using this
  have hol := (H.cel (s := o)).lenM
  refine ⟨fun h => ?_, fun h => ?_⟩
  · have hlt : j < rs.length := by simp only [decide_eq_true_eq] at h; omega
    refine (hM.fr0 H.fr).rows.cel.rdS hlt fun a ha => ?_
    have hB := (hM.fr0 H.fr).rows.at_ hlt
    have hBl := hB.len
    have hbl := hl2 _ (List.getElem_mem hlt)
    refine Hp.app (s := Slc.nil) slT_sl_uint8 (H.nilRow Ty_uint8 1) hB (one_u8 _) (by unfold maxLen; simp only; omega) (by simp only; omega) fun s34 w3 H hs => ?_
    rw [List.nil_append] at H
    refine Hp.app1 (s := o) slT_sl_sl_uint8 H rfl (by unfold maxLen; omega) (by omega) fun s40 w4 H hs2 => ?_
    rw [ofW j (by omega)]
    refine ⟨⟨j + 1, rs' ++ [(s34, rs[j].2)], rfl, by omega, ?_, ?_⟩, by dsimp only; omega⟩
    · show (rs' ++ [_]).map _ = _
      have hrs : rs'.map (fun r => r.2) = (rs.map fun r => r.2).take j := hrs
      rw [List.map_append, hrs, List.take_add_one, List.getElem?_map, List.getElem?_eq_getElem hlt]
      rfl
    · have H : Hp w w4 (star (own Ty_sl_uint8 1 s40 (rs'.map (fun r => r.1.v) ++ [s34.v])) (star (rwA (s34, rs[j].2)) (star (all rwA rs') emp))) := H
      rw [List.map_append]
      exact H.ent (Ent.star (Ent.refl _) (Asn.assoc'.trans (Ent.star (all_snoc rwA _ rs') (Ent.refl _))))
  · have hje : j = rs.length := by simp only [decide_eq_false_iff_not] at h; omega
    subst hje
    rw [List.take_of_length_le (by simp)] at hrs
    exact Rt.ok ⟨o, rs', rfl, hrs, H.assoc'⟩
theorem indexB_c {fn : FuncId} {cap : Array Value} {p : Slc → Bool} (hC : Cel w s 1 (rs.map fun r => r.1.v)) (hl : rs.length ≤ 1099511627776) (hb : bodyB PP fn = true)
    (hp : ∀ w' (l : Slc), Fr [] w w' → Calls PP fn (#[l.v] ++ cap) w' (Rt fun v w'' => v = .bool (p l) ∧ Fr [] w' w'')) :
    Calls PP F_slices_IndexFunc_byte_byte_79 #[s.v, .func (.func fn) #[] cap] w (Rt fun v w' => ∃ i : Int, v = .int .i64 i ∧ decide (0 ≤ i) = rs.any (fun r => p r.1) ∧ Fr [] w w') := by
  refine sim_slices_IndexFunc_byte_byte_79 _ _ _ _ ?_
  unfold vc_slices_IndexFunc_byte_byte_79
  have hsl := hC.lenM
  refine ⟨fun i w' => ∃ j : Nat, i = (j : Int) ∧ j ≤ rs.length ∧ (∀ k (hk : k < rs.length), k < j → p rs[k].1 = false) ∧ Fr [] w w', fun i _ => rs.length - i.toNat, ⟨0, rfl, Nat.zero_le _, fun k _ hk => by omega, Fr.refl _ _⟩, ?_⟩
  rintro _ w2 ⟨j, rfl, hj, hno, f2⟩
  refine ⟨fun h => ?_, fun h => ?_⟩
  · have hlt : j < rs.length := by simp only [decide_eq_true_eq] at h; omega
    refine (hC.fr0 f2).rdS hlt fun a ha => ⟨fn, cap, rfl, hb, call (hp w2 _ f2) ?_⟩
    rintro _ w3 ⟨rfl, f3⟩
    refine ⟨_, rfl, fun h => Rt.ok ⟨_, rfl, ?_, f2.then_ f3⟩, fun h => ?_⟩
    · rw [show decide (0 ≤ (j : Int)) = true by simp]
      symm
      exact List.any_eq_true.2 ⟨rs[j], List.getElem_mem hlt, h⟩
    · rw [ofW j (by omega)]
      refine ⟨⟨j + 1, rfl, by omega, fun k hk hkj => ?_, f2.then_ f3⟩, by dsimp only; omega⟩
      by_cases hkj2 : k = j
      · subst hkj2; exact h
      · exact hno k hk (by omega)
  · have hje : j = rs.length := by simp only [decide_eq_false_iff_not] at h; omega
    refine Rt.ok ⟨-1, rfl, ?_, f2⟩
    symm
    show rs.any _ = false
    rw [List.any_eq_false]
    intro r hr
    obtain ⟨k, hk, rfl⟩ := List.getElem_of_mem hr
    rw [hno k hk (by omega)]
    simp
theorem containsB_c {fn : FuncId} {cap : Array Value} {p : Slc → Bool} (hC : Cel w s 1 (rs.map fun r => r.1.v)) (hl : rs.length ≤ 1099511627776) (hb : bodyB PP fn = true)
    (hp : ∀ w' (l : Slc), Fr [] w w' → Calls PP fn (#[l.v] ++ cap) w' (Rt fun v w'' => v = .bool (p l) ∧ Fr [] w' w'')) :
    Calls PP F_slices_ContainsFunc_byte_byte_34 #[s.v, .func (.func fn) #[] cap] w (Rt fun v w' => v = .bool (rs.any fun r => p r.1) ∧ Fr [] w w') := by
  refine sim_slices_ContainsFunc_byte_byte_34 _ _ _ _ ?_
  unfold vc_slices_ContainsFunc_byte_byte_34
  refine call (indexB_c hC hl hb hp) ?_
  rintro _ w1 ⟨i, rfl, hi, f⟩
  exact ⟨i, rfl, Rt.ok ⟨by rw [hi], f⟩⟩
theorem cpy_all {α : Type} {k : Nat} {cs ys : List α} (h : cs.length = k) (h2 : ys.length = k) : cs.take 0 ++ ys.take k ++ cs.drop (0 + k) = ys := by
  rw [List.take_zero, List.nil_append, List.take_of_length_le (by omega), List.drop_eq_nil_of_le (by omega), List.append_nil]
theorem matNew_c {g m n : Nat} (hR : RdR w s rs) (hS : Shp (mt rs) m n) (hm : 1 ≤ m) (hm2 : m ≤ 256) (hn : 1 ≤ n) (hn2 : n ≤ 256) :
    Calls PP F_matrix_New #[.pointer (some (blk g)), s.v] w (Rt fun v w' => ∃ q s' rs', v = .tuple #[.pointer (some (blk q)), .int .i64 0] ∧ mt rs' = mt rs ∧ Hp w w' (star (matA q (some (blk g)) s' rs') emp)) := by
  refine sim_matrix_New _ _ _ _ ?_
  unfold vc_matrix_New
  have hsl := hR.cel.lenM
  have hrl : rs.length = m := by have := hS.len; simpa using this
  have hrn : ∀ i (hi : i < rs.length), rs[i].1.l = n := fun i hi => by rw [(hR.at_ hi).len]; exact hS.row _ (List.mem_map_of_mem (List.getElem_mem hi))
  refine (Hp.start w).new fun b w1 H => ⟨fun h => by simp at h, fun _ => ⟨false, fun h => ?_, fun h => ?_, fun b' w' => b' = false ∧ Hp w w' (star (bk b Ty_sl_sl_uint8 #[s.v]) emp), ⟨fun _ => ?_, fun h => by simp at h⟩, ?_⟩⟩
  · refine (hR.fr0 H.fr).cel.rdS (i := 0) (by omega) fun a ha => ?_
    rw [hrn 0 (by omega)]
    exact (decide_eq_false (by omega)).symm
  · simp at h; omega
  · refine call (containsB_c (p := fun l => decide ((l.l : Int) ≠ (rs[0]'(by omega)).1.l)) (hR.fr0 H.fr).cel (by omega) (by kernel_rfl) fun w' l f => ?_) ?_
    · refine sim_matrix_New_c1 _ _ _ _ ?_
      unfold vc_matrix_New_c1
      exact ⟨s, (H.fr0 f).cell (b := b) (i := 0) rfl, ((hR.fr0 H.fr).fr0 f).cel.rdS (i := 0) (by omega) fun a ha => Rt.ok ⟨rfl, Fr.refl _ _⟩⟩
    · rintro _ w2 ⟨rfl, f⟩
      refine ⟨_, rfl, ?_, H.fr0 f⟩
      rw [List.any_eq_false]
      intro r hr
      obtain ⟨k, hk, rfl⟩ := List.getElem_of_mem hr
      simp only [decide_eq_true_eq, ne_eq, Decidable.not_not]
      rw [hrn k hk, hrn 0 (by omega)]
  · rintro _ w2 ⟨rfl, H⟩
    refine ⟨fun h => by simp at h, fun _ => ⟨s, H.cell (b := b) (i := 0) rfl, false, fun _ => ⟨s, H.cell (b := b) (i := 0) rfl, (hR.fr0 H.fr).cel.rdS (i := 0) (by omega) fun a ha => ?_⟩, fun h => ?_, fun h => by simp at h, fun _ => ?_⟩⟩
    · rw [hrn 0 (by omega)]
      exact (decide_eq_false (by omega)).symm
    · simp at h; omega
    · have H := H.drew 1
      refine ⟨s, H.cell (b := b) (i := 0) rfl, s, H.cell (b := b) (i := 0) rfl, (hR.fr0 H.fr).cel.rdS (i := 0) (by omega) fun a ha => ?_⟩
      refine call (blank_c (m := s.l) (n := (rs[0]'(by omega)).1.l) (by omega) (by rw [hrn 0 (by omega)]; omega) H) ?_
      rintro _ w3 ⟨q, t, rs0, rfl, hrs0, H⟩
      rw [hrn 0 (by omega), hsl, hrl] at hrs0
      have hS0 : Shp (mt rs0) m n := by unfold mt; rw [hrs0]; exact Shp.blank _ _
      refine ⟨_, rfl, s, H.cell (b := b) (i := 0) rfl, fun i w' => ∃ (j : Nat) (rs' : Rws), i = (j : Int) ∧ j ≤ m ∧ Shp (mt rs') m n ∧ (∀ k, k < j → (mt rs')[k]? = (mt rs)[k]?) ∧ Hp w w' (star (bk q Ty_matrix_Matrix #[.pointer (some (blk g)), t.v]) (star (own Ty_sl_uint8 1 t (rs'.map fun r => r.1.v)) (star (all rwA rs') (star (bk b Ty_sl_sl_uint8 #[s.v]) emp)))), fun i _ => m - i.toNat, ⟨0, rs0, rfl, Nat.zero_le _, hS0, fun k hk => by omega, matOpen H⟩, ?_⟩
      rintro _ w4 ⟨j, rs', rfl, hj, hS', hk, H⟩
      have hrl' : rs'.length = m := by have := hS'.len; simpa using this
      refine ⟨fun h => ?_, fun h => ?_⟩
      · have hlt : j < m := by simp only [decide_eq_true_eq] at h; omega
        have hjr : j < rs'.length := by omega
        refine (hR.fr0 H.fr).cel.rdS (i := j) (by omega) fun a2 ha2 => ⟨_, rfl, t, H.cell (b := q) (i := 1) rfl, (rdR H.drop).cel.rdS hjr fun a3 ha3 => ?_⟩
        have hB := (hR.fr0 H.fr).at_ (i := j) (by omega)
        have hBl := hB.len
        have hB' := (rdR H.drop).at_ hjr
        have hBl' := hB'.len
        have hrow : rs'[j].2.length = n := hS'.row _ (List.mem_map_of_mem (List.getElem_mem hjr))
        have hrow0 : (rs[j]'(by omega)).2.length = n := hS.row _ (List.mem_map_of_mem (List.getElem_mem _))
        refine Hp.cpy (s := rs'[j].1) (d := rs'[j].1) (o := 0) slT_sl_uint8 (pickRow rs' H hjr) hB (one_u8 _) (fun _ p hp => by rw [hp]; rfl) (by rw [List.length_map]; omega) fun w5 H => ?_
        rw [show min (rs[j]'(by omega)).1.l rs'[j].1.l = n by omega, cpy_all (by rw [List.length_map]; omega) (by rw [List.length_map]; omega)] at H
        have H := putRow hjr H
        rw [ofW j (by omega)]
        refine ⟨⟨j + 1, _, rfl, by omega, ?_, ?_, by rw [upd_sl]; exact (H.own t).blk q⟩, by dsimp only; omega⟩
        · rw [upd_mt]; exact hS'.set hrow0
        · intro k hkj
          rw [upd_mt, List.getElem?_set]
          by_cases h2 : j = k
          · subst h2
            rw [if_pos rfl, if_pos (by rw [mt_len]; exact hjr), List.getElem?_eq_getElem (by rw [mt_len]; omega), mt_at (by omega)]
          · rw [if_neg h2]; exact hk k (by omega)
      · have hje : j = m := by simp only [decide_eq_false_iff_not] at h; omega
        subst hje
        refine Rt.ok ⟨q, t, rs', rfl, List.ext_getElem? fun k => ?_, matClose (H.blk b).drop⟩
        · by_cases hkj : k < j
          · exact hk k hkj
          · rw [List.getElem?_eq_none (by rw [mt_len]; omega), List.getElem?_eq_none (by rw [mt_len]; omega)]
end
end Go.Proofs.YtabifopphhpciaaGreat
