/-
  Contracts: slices.Clone, Grow, Concat; stripe.size, cut, Split, Cut.
-/
import Derived.Test.YteoeboeaanjehaaDoorDecode
import Derived.Test.YteoeboeaanjehaaDoorStrP
namespace Go.Proofs.YteoeboeaanjehaaDoor
open Go Go.Vc Go.Vc.Asn Go.Gf
section
variable {w0 w : World} {F : Asn} {s p : Slc} {rs : Rws} {g n k q : Nat} {bs : List UInt8}
theorem clone_c (hB : Byt w s bs) (hl : bs.length ≤ 1099511627776) : Calls PP F_slices_Clone #[s.v] w (Rt fun v w' => ∃ o, v = o.v ∧ Hp w w' (star (own Ty_uint8 1 o (bs.map u8v)) emp)) := by
  refine sim_slices_Clone _ _ _ ?_
  unfold vc_slices_Clone
  refine ⟨fun h => Rt.ok ⟨_, rfl, ?_⟩, fun h => ?_⟩
  · have : bs = [] := by
      cases bs with
      | nil => rfl
      | cons b r =>
        obtain ⟨p, hp, _⟩ := hB.get (i := 0) (by simp)
        rw [hp] at h; simp at h
    subst this
    exact (Hp.start w).nilRow Ty_uint8 1
  · refine (Hp.start w).newRow (n := 0) (size := 1) [] rfl rfl (by unfold maxLen; omega) fun b w1 H => ?_
    have hsl := hB.len
    refine Hp.app (s := ⟨some (blk b), 0, 0⟩) slT_sl_uint8 H (hB.fr0 H.fr) (one_u8 _) (by unfold maxLen; simp only; omega) (by simp only; omega) fun o w2 H _ => Rt.ok ⟨o, rfl, ?_⟩
    exact H
theorem grow_c (hn : n ≤ 1099511627776) : Calls PP F_slices_Grow #[Slc.nil.v, .int .i64 (n : Int)] w (Rt fun v w' => ∃ o, v = o.v ∧ Hp w w' (star (own Ty_uint8 1 o []) emp) ∧ o.l = 0) := by
  refine sim_slices_Grow _ _ _ _ ?_
  unfold vc_slices_Grow
  have e0 : wr .i64 ((Slc.nil.c : Int) - (Slc.nil.l : Int)) = 0 := by decide
  rw [e0, show wr .i64 ((n : Int) - 0) = (n : Int) by rw [wr64 (by omega) (by omega)]; omega]
  refine ⟨fun w' => w' = w, ⟨fun h => ?_, fun _ => rfl⟩, ?_⟩
  · simp at h; omega
  rintro w rfl
  refine ⟨fun o w' => Hp w w' (star (own Ty_uint8 1 o []) emp) ∧ o.l = 0, ⟨fun h => ⟨by omega, by omega, by omega, ?_⟩, fun _ => ⟨(Hp.start w).nilRow Ty_uint8 1, rfl⟩⟩, ?_⟩
  · simp only [decide_eq_true_eq] at h
    refine App.zeros slT_sl_uint8 und_int (by omega) (by omega) (by omega) fun b c cur w' h1 h2 h3 hB f hb => ?_
    refine ⟨by omega, by omega, by show (0 : Int) ≤ (c : Int); omega, ?_, rfl⟩
    have hO : Own Ty_uint8 1 w' ((⟨some (blk b), n, c⟩ : Slc).cut 1 0 0) [] := Own.cut0 hB h2 h3
    have hS : ((⟨some (blk b), n, c⟩ : Slc).cut 1 0 0).blks = [b] := by simp [Slc.blks, Slc.cut, Addr.add, blk]
    exact (Hp.start w).beside ⟨f, fun x => x = b, fun x hx => by rw [hx, hb]; exact Nat.le_refl _, fun x => by show x = b ↔ x ∈ ((⟨some (blk b), n, c⟩ : Slc).cut 1 0 0).blks; rw [hS]; simp, hO⟩
  · rintro o w1 ⟨H, ho⟩
    exact Rt.ok ⟨o, rfl, H, ho⟩
theorem flat_takes (l : List (List UInt8)) (k : Nat) (hk : k < l.length) : (l.take (k + 1)).flatten = (l.take k).flatten ++ l[k] := flat_step l k hk
theorem concat_c (hR : RdR w s rs) (hl : (mt rs).flatten.length ≤ 1099511627776) (hn : rs.length ≤ 1099511627776) :
    Calls PP F_slices_Concat #[s.v] w (Rt fun v w' => ∃ o, v = o.v ∧ Hp w w' (star (own Ty_uint8 1 o ((mt rs).flatten.map u8v)) emp)) := by
  refine sim_slices_Concat _ _ _ ?_
  unfold vc_slices_Concat
  have hsl := hR.cel.lenM
  refine ⟨fun x y w' => ∃ j : Nat, y = (j : Int) ∧ j ≤ rs.length ∧ x = (((mt rs).take j).flatten.length : Int) ∧ w' = w, fun _ y _ => rs.length - y.toNat, ⟨0, rfl, Nat.zero_le _, rfl, rfl⟩, ?_⟩
  rintro _ _ w ⟨j, rfl, hj, rfl, rfl⟩
  refine ⟨fun h => ?_, fun h => ?_⟩
  · have hlt : j < rs.length := by simp only [decide_eq_true_eq] at h; omega
    have hf := flat_takes (mt rs) j (by rw [mt_len]; exact hlt)
    have hle := flat_le (mt rs) (j + 1)
    have hrow := (hR.at_ hlt).len
    have hlen : ((mt rs).take (j + 1)).flatten.length = ((mt rs).take j).flatten.length + rs[j].1.l := by rw [hf, List.length_append, mt_at hlt, hrow]
    have ew : wr .i64 ((((mt rs).take j).flatten.length : Int) + (rs[j].1.l : Int)) = (((mt rs).take (j + 1)).flatten.length : Int) := by rw [wr64 (by omega) (by omega)]; omega
    refine ⟨fun x w' => x = (((mt rs).take (j + 1)).flatten.length : Int) ∧ w' = w, hR.cel.rdS hlt fun a ha => ⟨fun h => ?_, fun _ => ⟨ew, rfl⟩⟩, ?_⟩
    · rw [ew] at h; simp at h; omega
    · rintro _ w ⟨rfl, rfl⟩
      rw [ofW j (by omega)]
      exact ⟨⟨j + 1, rfl, by omega, rfl, rfl⟩, by dsimp only; omega⟩
  · have hje : j = rs.length := by simp only [decide_eq_false_iff_not] at h; omega
    have hfull : (mt rs).take j = mt rs := List.take_of_length_le (by rw [mt_len]; omega)
    rw [hfull]
    refine call (grow_c hl) ?_
    rintro _ w1 ⟨o, rfl, H, ho⟩
    refine ⟨o, rfl, fun o y w' => ∃ j : Nat, y = (j : Int) ∧ j ≤ rs.length ∧ Hp w w' (star (own Ty_uint8 1 o (((mt rs).take j).flatten.map u8v)) emp), fun _ y _ => rs.length - y.toNat, ⟨0, rfl, Nat.zero_le _, H⟩, ?_⟩
    rintro o2 _ w2 ⟨i, rfl, hi, H⟩
    refine ⟨fun h => ?_, fun h => ?_⟩
    · have hlt : i < rs.length := by simp only [decide_eq_true_eq] at h; omega
      have hf := flat_takes (mt rs) i (by rw [mt_len]; exact hlt)
      have hle := flat_le (mt rs) (i + 1)
      have hB := (hR.fr0 H.fr).at_ hlt
      have hrow := hB.len
      have ho2 := (H.cel (s := o2)).lenM
      have hlen : ((mt rs).take (i + 1)).flatten.length = ((mt rs).take i).flatten.length + rs[i].1.l := by rw [hf, List.length_append, mt_at hlt, hrow]
      refine (hR.fr0 H.fr).cel.rdS hlt fun a ha => Hp.app (s := o2) slT_sl_uint8 H hB (one_u8 _) (by unfold maxLen; omega) (by omega) fun o3 w3 H _ => ?_
      rw [ofW i (by omega)]
      refine ⟨⟨i + 1, rfl, by omega, ?_⟩, by dsimp only; omega⟩
      rw [← List.map_append] at H
      rw [hf, mt_at hlt]
      exact H
    · have hie : i = rs.length := by simp only [decide_eq_false_iff_not] at h; omega
      rw [List.take_of_length_le (by rw [mt_len]; omega)] at H
      exact Rt.ok ⟨o2, rfl, H⟩
theorem size_c (hk : 1 ≤ k) (hk2 : k ≤ 1048576) (hn : n ≤ 1099511627776) : Calls PP F_stripe_size #[.int .i64 (n : Int), .int .i64 (k : Int)] w (Rt fun v w' => v = .int .i64 (sizeN n k : Int) ∧ w' = w) := by
  refine sim_stripe_size _ _ _ _ ?_
  unfold vc_stripe_size
  refine ⟨by omega, Rt.ok ⟨?_, rfl⟩⟩
  have e1 : wr .i64 ((n : Int) + 4) = ((n + 4 : Nat) : Int) := by rw [wr64 (by omega) (by omega)]; omega
  have e2 : wr .i64 (((n + 4 : Nat) : Int) + (k : Int)) = ((n + 4 + k : Nat) : Int) := by rw [wr64 (by omega) (by omega)]; omega
  have e3 : wr .i64 (((n + 4 + k : Nat) : Int) - 1) = ((n + 4 + k - 1 : Nat) : Int) := by rw [wr64 (by omega) (by omega)]; omega
  rw [e1, e2, e3, ← Int.ofNat_tdiv]
  have hb := size_bound (n := n) hk
  unfold sizeN at hb ⊢
  generalize (n + 4 + k - 1) / k = d at hb ⊢
  rw [wr64 (by omega) (by omega)]
theorem le4_cells (n : Nat) : len4 n = [UInt8.ofNat n, UInt8.ofNat (n / 256), UInt8.ofNat (n / 65536), UInt8.ofNat (n / 16777216)] := rfl
theorem wr8_byte (n : Nat) : wr .u8 (n : Int) = ((UInt8.ofNat n).toNat : Int) := by rw [wr8_mod, UInt8.toNat_ofNat']; omega
theorem cut_c (hB : Byt w s bs) (hb : bs.length ≤ 65536) (hk : 1 ≤ k) (hk2 : k ≤ 255) :
    Calls PP F_stripe_cut #[s.v, .int .i64 (k : Int)] w (Rt fun v w' => ∃ o ds, v = o.v ∧ mt ds = cutV bs k ∧ RdR w' o ds ∧ Fr [] w w') := by
  refine sim_stripe_cut _ _ _ _ ?_
  unfold vc_stripe_cut
  have hsl := hB.len
  rw [hsl]
  refine call (size_c hk (by omega) (by omega)) ?_
  rintro _ w ⟨rfl, rfl⟩
  have h1 := size_le (n := bs.length) hk
  have h2 := size_lt (n := bs.length) hk
  have h3 := size_pos (n := bs.length) hk
  obtain ⟨S, hS⟩ : ∃ S, S = sizeN bs.length k := ⟨_, rfl⟩
  obtain ⟨T, hT⟩ : ∃ T, T = S * k := ⟨_, rfl⟩
  rw [← hS] at h1 h2 h3 ⊢
  rw [← hT] at h1 h2
  have e1 : wr .i64 ((S : Int) * (k : Int)) = (T : Int) := by rw [← Int.natCast_mul, ← hT, wr64 (by omega) (by omega)]
  refine ⟨_, rfl, ?_⟩
  rw [e1]
  refine Hp.make slT_sl_uint8 rfl (by omega) (by omega) (Hp.start w) fun b w1 H => ?_
  rw [zcells] at H
  have c1 : shrI .i64 (bs.length : Int) 8 = ((bs.length / 256 : Nat) : Int) := shr64 8 (by omega)
  have c2 : shrI .i64 (bs.length : Int) 16 = ((bs.length / 65536 : Nat) : Int) := shr64 16 (by omega)
  have c3 : shrI .i64 (bs.length : Int) 24 = ((bs.length / 16777216 : Nat) : Int) := shr64 24 (by omega)
  rw [c1, c2, c3, wr8_byte, wr8_byte, wr8_byte, wr8_byte]
  refine H.new fun b13 w2 H => ?_
  have hC : Byt w2 (Slc.mk (some (blk b13)) 4 4) (len4 bs.length) := Cel.block (b := b13) (e := Ty_uint8) (l := (len4 bs.length).map u8v) (H.isBlk (b := b13)) rfl (Nat.le_refl _) (Nat.le_refl _)
  refine Hp.cpy (s := ⟨some (blk b), T, T⟩) (d := ⟨some (blk b), T, T⟩) (o := 0) slT_sl_uint8 H hC (one_u8 _) (fun _ p hp => by rw [hp]; rfl) (by simp) fun w3 H => ?_
  have m4 : min (Slc.mk (some (blk b13)) 4 4).l (⟨some (blk b), T, T⟩ : Slc).l = 4 := by show min 4 T = 4; omega
  rw [m4] at H
  have E1 : ((List.replicate T (0 : UInt8)).map u8v).take 0 ++ ((len4 bs.length).map u8v).take 4 ++ ((List.replicate T (0 : UInt8)).map u8v).drop (0 + 4) = (len4 bs.length ++ List.replicate (T - 4) 0).map u8v := by
    rw [List.take_zero, List.nil_append, List.map_append, ← List.map_drop, List.drop_replicate]; rfl
  rw [E1] at H
  refine ⟨by omega, by show (4 : Int) ≤ (T : Int); omega, by show (T : Int) ≤ (T : Int); omega, ?_⟩
  have hB3 := hB.fr0 H.fr
  have dl : ((⟨some (blk b), T, T⟩ : Slc).cut 1 (Int.toNat 4) (Int.toNat ((⟨some (blk b), T, T⟩ : Slc).l : Int))).l = T - 4 := by show Int.toNat (T : Int) - 4 = T - 4; omega
  refine Hp.cpy (s := ⟨some (blk b), T, T⟩) (d := (⟨some (blk b), T, T⟩ : Slc).cut 1 (Int.toNat 4) (Int.toNat ((⟨some (blk b), T, T⟩ : Slc).l : Int))) (o := 4) slT_sl_uint8 H hB3 (one_u8 _) (fun h0 p hp => ?_) (by rw [dl]; simp [len4]; omega) fun w4 H => ?_
  · rw [dl] at h0
    show (if T = 4 then _ else _) = _
    rw [if_neg (by omega), hp]; rfl
  have m5 : min s.l ((⟨some (blk b), T, T⟩ : Slc).cut 1 (Int.toNat 4) (Int.toNat ((⟨some (blk b), T, T⟩ : Slc).l : Int))).l = bs.length := by rw [dl]; omega
  rw [m5] at H
  have E2 : ((len4 bs.length ++ List.replicate (T - 4) 0).map u8v).take 4 ++ (bs.map u8v).take bs.length ++ ((len4 bs.length ++ List.replicate (T - 4) 0).map u8v).drop (4 + bs.length) = (strp bs k).map u8v := by
    rw [← List.map_take, ← List.map_take, ← List.map_drop, List.take_length, ← List.drop_drop, ← List.map_append, ← List.map_append]
    congr 1
    unfold strp
    rw [← hS, ← hT]
    have : (len4 bs.length ++ List.replicate (T - 4) (0 : UInt8)).drop 4 = List.replicate (T - 4) 0 := rfl
    rw [this, List.drop_replicate]
    congr 2
    omega
  rw [E2] at H
  refine Hp.make slT_sl_sl_uint8 rfl (by omega) (by omega) H fun b2 w5 H => ?_
  have hstr : Byt w5 ⟨some (blk b), T, T⟩ (strp bs k) := H.cel (s := ⟨some (blk b), T, T⟩)
  have hsT : (strp bs k).length = T := by rw [strp_len _ hk, ← hS, ← hT]
  refine ⟨fun x w' => ∃ j : Nat, x = (j : Int) ∧ j ≤ k ∧ Hp w w' (star (own Ty_sl_uint8 1 ⟨some (blk b2), k, k⟩ ((List.range j).map (fun i => ((⟨some (blk b), T, T⟩ : Slc).cut 1 (i * S) ((i + 1) * S)).v) ++ List.replicate (k - j) (Slc.v Slc.nil))) (star (own Ty_uint8 1 ⟨some (blk b), T, T⟩ ((strp bs k).map u8v)) emp)), fun x _ => k - x.toNat, ⟨0, rfl, Nat.zero_le _, ?_⟩, ?_⟩
  · exact (H.blk b13).drop
  rintro _ w6 ⟨j, rfl, hj, H⟩
  have hTk : T = k * S := by rw [hT, Nat.mul_comm]
  refine ⟨fun h => ?_, fun h => ?_⟩
  · have hlt : j < k := by simp only [decide_eq_true_eq] at h; omega
    have hjS : (j + 1) * S ≤ k * S := Nat.mul_le_mul_right _ (by omega)
    have hjS2 : (j + 1) * S = j * S + S := Nat.succ_mul _ _
    have e2 : wr .i64 ((j : Int) * (S : Int)) = ((j * S : Nat) : Int) := by rw [← Int.natCast_mul, wr64 (by omega) (by omega)]
    have e3 : wr .i64 (((j + 1 : Nat) : Int) * (S : Int)) = (((j + 1) * S : Nat) : Int) := by rw [← Int.natCast_mul, wr64 (by omega) (by omega)]
    rw [ofW j (by omega), e2, e3]
    refine ⟨by omega, by omega, by show (((j + 1) * S : Nat) : Int) ≤ (T : Int); omega, ?_⟩
    rw [Int.toNat_natCast, Int.toNat_natCast]
    refine Hp.wr (s := ⟨some (blk b2), k, k⟩) H (by simp; omega) fun w7 H => ?_
    rw [List.set_append_right _ _ (by simp), List.length_map, List.length_range, Nat.sub_self, show k - j = (k - (j + 1)) + 1 by omega, List.replicate_succ, List.set_cons_zero] at H
    refine ⟨⟨j + 1, rfl, by omega, ?_⟩, by dsimp only; omega⟩
    rw [List.range_succ, List.map_append, List.append_assoc]
    exact H
  · have hje : j = k := by simp only [decide_eq_false_iff_not] at h; omega
    subst hje
    rw [Nat.sub_self, List.replicate_zero, List.append_nil] at H
    refine Rt.ok ⟨_, (List.range j).map fun i => ((⟨some (blk b), T, T⟩ : Slc).cut 1 (i * S) ((i + 1) * S), ((strp bs j).drop (i * S)).take S), rfl, ?_, ⟨?_, fun r hr => ?_⟩, H.fr⟩
    · unfold cutV rowsL mt
      rw [List.map_map, ← hS]; rfl
    · have := H.cel (s := ⟨some (blk b2), j, j⟩)
      rw [List.map_map]
      exact this
    · obtain ⟨i, hi, rfl⟩ := List.mem_map.1 hr
      rw [List.mem_range] at hi
      have hiS : (i + 1) * S ≤ j * S := Nat.mul_le_mul_right _ (by omega)
      have hiS2 : (i + 1) * S = i * S + S := Nat.succ_mul _ _
      have hst : Byt w6 ⟨some (blk b), T, T⟩ (strp bs j) := H.cel (s := ⟨some (blk b), T, T⟩)
      have := Cel.cut hst (l := i * S) (k := (i + 1) * S) (by omega) (by show (i + 1) * S ≤ T; omega)
      rw [Nat.mul_one, Nat.mul_one, ← List.map_drop, ← List.map_take, show (i + 1) * S - i * S = S by omega] at this
      exact this
theorem codeK_c (hC : RdCode w q g s rs n k) : Calls PP F_code_Code_K #[.pointer (some (blk q))] w (Rt fun v w' => v = .int .i64 (k : Int) ∧ w' = w) := by
  refine sim_code_Code_K _ _ _ ?_
  unfold vc_code_Code_K
  exact ⟨fun h => by simp at h, fun _ => ⟨_, rfl, _, hC.box.cell (i := 2) rfl, Rt.ok ⟨rfl, rfl⟩⟩⟩
theorem split_c {v : Slc} (hC : RdCode w q g s rs n k) (hB : Byt w v bs) (hb : bs.length ≤ 65536) :
    Calls PP F_stripe_Split #[.pointer (some (blk q)), v.v] w (Rt fun x w' => ∃ o os, x = .tuple #[o.v, .int .i64 0] ∧ mt os = (mt rs).map (fun fs => lin fs (cutV bs k) (sizeN bs.length k)) ∧ Hp w w' (star (rwsA o os) emp)) := by
  refine sim_stripe_Split _ _ _ _ ?_
  unfold vc_stripe_Split
  have hk := hC.hk
  have hkn := hC.hkn
  have hn := hC.hn
  have hvl := hB.len
  refine ⟨fun h => by simp at h, fun _ => ⟨fun h => ?_, fun _ => call (codeK_c hC) ?_⟩⟩
  · simp at h; omega
  rintro _ w1 ⟨rfl, rfl⟩
  refine ⟨_, rfl, call (cut_c hB hb hk (by omega)) ?_⟩
  rintro _ w2 ⟨o, ds, rfl, hds, hR, f⟩
  have hS := cutV_shp bs hk
  rw [← hds] at hS
  have hsz := size_bound (n := bs.length) hk
  refine ⟨o, rfl, call (encode_c (hC.fr0 f) hR hS (by omega)) ?_⟩
  rintro _ w3 ⟨o2, os, rfl, hos, H⟩
  rw [hds] at hos
  exact ⟨_, _, rfl, Rt.ok ⟨o2, os, rfl, hos, Hp.from f H⟩⟩
theorem cut1_c {v : Slc} {i : Nat} (hC : RdCode w q g s rs n k) (hB : Byt w v bs) (hb : bs.length ≤ 65536) (hi : i < n) :
    Calls PP F_stripe_Cut #[.pointer (some (blk q)), v.v, .int .i64 (i : Int)] w (Rt fun x w' => ∃ o, x = .tuple #[o.v, .int .i64 0] ∧ Hp w w' (star (own Ty_uint8 1 o ((lin ((mt rs).getD i []) (cutV bs k) (sizeN bs.length k)).map u8v)) emp)) := by
  refine sim_stripe_Cut _ _ _ _ _ ?_
  unfold vc_stripe_Cut
  have hk := hC.hk
  have hkn := hC.hkn
  have hn := hC.hn
  have hvl := hB.len
  refine ⟨fun h => by simp at h, fun _ => ⟨fun h => ?_, fun _ => call (codeK_c hC) ?_⟩⟩
  · simp at h; omega
  rintro _ w1 ⟨rfl, rfl⟩
  refine ⟨_, rfl, call (cut_c hB hb hk (by omega)) ?_⟩
  rintro _ w2 ⟨o, ds, rfl, hds, hR, f⟩
  have hS := cutV_shp bs hk
  rw [← hds] at hS
  have hsz := size_bound (n := bs.length) hk
  refine ⟨o, rfl, call (row_c (hC.fr0 f) hR hS (by omega) hi) ?_⟩
  rintro _ w3 ⟨o2, rfl, H⟩
  rw [hds] at H
  exact ⟨_, _, rfl, Rt.ok ⟨o2, rfl, Hp.from f H⟩⟩
theorem sizeX_c (hk : 1 ≤ k) (hk2 : k ≤ 255) (hn : n ≤ 65536) : Calls PP F_stripe_Size #[.int .i64 (n : Int), .int .i64 (k : Int)] w (Rt fun v w' => v = .tuple #[.int .i64 (sizeN n k : Int), .int .i64 0] ∧ w' = w) := by
  refine sim_stripe_Size _ _ _ _ ?_
  unfold vc_stripe_Size
  refine ⟨fun h => ?_, fun _ => ⟨fun h => ?_, fun _ => call (size_c hk (by omega) (by omega)) ?_⟩⟩
  · simp at h; omega
  · simp at h; omega
  · rintro _ w1 ⟨rfl, rfl⟩
    exact ⟨_, rfl, Rt.ok ⟨rfl, rfl⟩⟩
end
end Go.Proofs.YteoeboeaanjehaaDoor
