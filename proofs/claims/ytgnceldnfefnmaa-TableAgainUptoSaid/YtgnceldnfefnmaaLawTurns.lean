/-
  Contract of TableTurns: the same updates in another order, some twice, make the same table.
-/
import Derived.Test.YtgnceldnfefnmaaTableUpd
namespace Go.Vc
open Go Go.Vc.Asn
/-- Stores one behind the other, into a list. -/
def setL : List Value → Nat → List Value → List Value
  | cs, _, [] => cs
  | cs, p, v :: r => setL (cs.set p v) (p + 1) r
theorem setL_eq : ∀ (vs cs : List Value) (p : Nat), p + vs.length ≤ cs.length → setL cs p vs = cs.take p ++ vs ++ cs.drop (p + vs.length)
  | [], cs, p, _ => by simp [setL]
  | v :: r, cs, p, h => by
    simp only [List.length_cons] at h
    rw [setL, setL_eq r _ _ (by simp; omega)]
    have h1 : (cs.set p v).take (p + 1) = cs.take p ++ [v] := by
      rw [List.take_succ_eq_append_getElem (by simp; omega), List.take_set_of_le (Nat.le_refl _)]
      simp
    have h2 : (cs.set p v).drop (p + 1 + r.length) = cs.drop (p + (r.length + 1)) := by
      rw [List.drop_set_of_lt (by omega)]
      congr 1
      omega
    rw [h1, h2]
    simp
theorem Hp.stoNOwn {e size : Nat} {s : Slc} {w0 : World} {F : Asn} {p : Addr} (hp : s.a = some p) {K : World → Prop} : ∀ (vs : List Value) (i q : Nat) (cs : List Value) (w : World), i + q + vs.length ≤ cs.length → Hp w0 w (star (Asn.own e size s cs) F) →
    (∀ w', Hp w0 w' (star (Asn.own e size s (setL cs (i + q) vs)) F) → K w') → StoN (p.add i) q vs w K
  | [], i, q, cs, w, _, H, k => k w H
  | v :: r, i, q, cs, w, h, H, k => by
    simp only [List.length_cons] at h
    have hh : Sto w (p.add (i + q)) v (fun w' => StoN (p.add i) (q + 1) r w' K) := H.stoS (s := s) (i := i + q) (by omega) hp fun w' H => Hp.stoNOwn hp r i (q + 1) _ w' (by simp; omega) H k
    rw [← add_add] at hh
    exact hh
theorem flat_set {α : Type} {enc : α → List Value} {k : Nat} (hk : ∀ x, (enc x).length = k) {l : List α} {i : Nat} (hi : i < l.length) (x : α) : setL (l.flatMap enc) (i * k) (enc x) = (l.set i x).flatMap enc := by
  have hm : (i + 1) * k ≤ l.length * k := Nat.mul_le_mul_right _ hi
  rw [Nat.add_mul, Nat.one_mul] at hm
  rw [setL_eq _ _ _ (by rw [flat_len hk, hk]; omega), hk]
  have hl : l = l.take i ++ l[i] :: l.drop (i + 1) := by rw [List.getElem_cons_drop, List.take_append_drop]
  have h1 : (l.take i).flatMap enc = (l.flatMap enc).take (i * k) := by
    conv => rhs; rw [hl, List.flatMap_append]
    rw [List.take_left' (by rw [flat_len hk, List.length_take]; congr 1; omega)]
  have h2 : (l.drop (i + 1)).flatMap enc = (l.flatMap enc).drop (i * k + k) := by
    conv => rhs; rw [hl, List.flatMap_append, List.flatMap_cons, ← List.append_assoc]
    rw [List.drop_left' (by rw [List.length_append, flat_len hk, hk, List.length_take]; congr 2; omega)]
  rw [← h1, ← h2, List.set_eq_take_append_cons_drop, if_pos hi, List.flatMap_append, List.flatMap_cons, List.append_assoc]
end Go.Vc
namespace Go.Tab
open Go Go.Vc
/-- The same moves, however often. -/
theorem feS_same {ms os : List Mv} (h : ∀ m, m ∈ os ↔ m ∈ ms) (k : ByteArray) (t : Tg) : t ∈ feS os k ↔ t ∈ feS ms k := by
  rw [mem_feS, mem_feS]
  constructor
  · rintro ⟨m, hm, r⟩; exact ⟨m, (h m).1 hm, r⟩
  · rintro ⟨m, hm, r⟩; exact ⟨m, (h m).2 hm, r⟩
theorem heS_same {ms os : List Mv} (h : ∀ m, m ∈ os ↔ m ∈ ms) (k : ByteArray) (t : Tg) : t ∈ heS os k ↔ t ∈ heS ms k := by
  rw [mem_heS, mem_heS]
  constructor
  · rintro ⟨m, hm, r⟩; exact ⟨m, (h m).1 hm, r⟩
  · rintro ⟨m, hm, r⟩; exact ⟨m, (h m).2 hm, r⟩
theorem mem_swap {α : Type} {l : List α} {j k : Nat} (hj : j < l.length) (hk : k < l.length) (x : α) : x ∈ (l.set j l[k]).set k l[j] ↔ x ∈ l := by
  constructor
  · intro h
    rcases List.mem_or_eq_of_mem_set h with h | h
    · rcases List.mem_or_eq_of_mem_set h with h | h
      · exact h
      · rw [h]; exact List.getElem_mem _
    · rw [h]; exact List.getElem_mem _
  · intro h
    obtain ⟨i, hi, rfl⟩ := List.getElem_of_mem h
    by_cases h1 : i = j
    · subst h1
      exact List.mem_iff_getElem.2 ⟨k, by simpa using hk, by simp⟩
    · by_cases h2 : i = k
      · subst h2
        refine List.mem_iff_getElem.2 ⟨j, by simpa using hj, ?_⟩
        rw [List.getElem_set_ne h1, List.getElem_set_self]
      · refine List.mem_iff_getElem.2 ⟨i, by simpa using hi, ?_⟩
        rw [List.getElem_set_ne (Ne.symm h2), List.getElem_set_ne (Ne.symm h1)]
end Go.Tab
namespace Go.Proofs.Ytgnceldnfefnmaa
open Go Go.Vc Go.Vc.Asn Go.Tab Go.Sort
section
variable {w0 w : World} {F F' : Asn} {n : Nat}
theorem one_mv (es : List Mv) : ∀ u ∈ es.flatMap Mv.c, u.oneCell' = true := by
  intro u hu
  obtain ⟨t, _, h⟩ := List.mem_flatMap.1 hu
  simp [Mv.c] at h
  rcases h with rfl | rfl | rfl | rfl | rfl <;> rfl
theorem RdM.old {s : Slc} {ms : List Mv} (h : Cel w0 s 5 (ms.flatMap Mv.c)) : RdM w0 F s ms := fun _ _ H => h.fr0 H.fr
theorem RdM.own {s : Slc} {ms : List Mv} {e : Nat} [TakeS s F e 5 (ms.flatMap Mv.c) F'] : RdM w0 F s ms := fun _ _ H => H.cel (s := s) (size := 5)
theorem TabS.tellB {ms : List Mv} {T : Tc} (h : TabS n ms T) (hl : ms.length ≤ 1000000000) : (∀ k, (T.sh k).length ≤ 2000000000) ∧ T.keys.length ≤ 3 := by
  refine ⟨fun k => ?_, ?_⟩
  · have h1 := (h.sh k).len
    have h2 := feS_len ms k
    have h3 := heS_len ms k
    omega
  · have := key_le3 h.keys (TabS.key h)
    rwa [List.length_map] at this
set_option maxHeartbeats 1000000 in
theorem tableTurns_c {s r : Slc} {ms : List Mv} {sw : List Int} (d : Int) (hM : Cel w s 5 (ms.flatMap Mv.c)) (hS : Cel w r 1 (sw.map fun x => Value.int .i64 x)) (hl : ms.length ≤ 1048576) (hl2 : sw.length ≤ 1048576) :
    Calls PP F_sherdlaw15_TableTurns #[.int .i64 d, s.v, r.v] w (Rt fun v w' => v = .bool true ∧ Fr [] w w') := by
  have hsl := hM.flen mv_len (by decide)
  have hrl : r.l = sw.length := by have := hS.len; simp at this; omega
  have hn1 := modI_lo d (m := 5) (by decide)
  have hn2 := modI_hi d (m := 5) (by decide)
  obtain ⟨n, hn⟩ := Int.eq_ofNat_of_zero_le hn1
  refine sim_sherdlaw15_TableTurns _ _ _ _ _ ?_
  unfold vc_sherdlaw15_TableTurns
  refine call (small_c d) ?_
  rintro _ _ ⟨rfl, rfl⟩
  rw [hn]
  refine ⟨_, rfl, call (done_c (F := emp) (by omega) (RdM.old hM) (by omega) (Hp.start w)) ?_⟩
  rintro _ w1 ⟨p, T, rfl, hT, H⟩
  refine ⟨_, _, rfl, fun h => by simp at h, fun _ => ?_⟩
  refine Hp.app (s := Slc.nil) slT_sl_sherdlaw15_Move (H.nilRow Ty_sherdlaw15_Move 5) (hM.fr0 H.fr) (one_mv ms) (by unfold maxLen; simp only [Slc.nil]; omega) (by simp only [Slc.nil]; omega) fun o0 w2 H ho0 => ?_
  rw [List.nil_append] at H
  refine ⟨fun o w' => ∃ os : List Mv, (∀ m, m ∈ os ↔ m ∈ ms) ∧ os.length ≤ ms.length + sw.length ∧ Hp w w' (star (own Ty_sherdlaw15_Move 5 o (os.flatMap Mv.c)) (star (tabA p T) emp)), ?_, ?_⟩
  · refine ⟨fun o i w' => ∃ (q : Nat) (os : List Mv), i = (q : Int) ∧ q ≤ sw.length ∧ (∀ m, m ∈ os ↔ m ∈ ms) ∧ os.length = ms.length + q ∧ Hp w w' (star (own Ty_sherdlaw15_Move 5 o (os.flatMap Mv.c)) (star (tabA p T) emp)), fun _ i _ => sw.length - i.toNat, ⟨0, ms, rfl, Nat.zero_le _, fun _ => Iff.rfl, rfl, H⟩, ?_⟩
    rintro o _ w3 ⟨q, os, rfl, hq, hmem, hol, H⟩
    have hosl := Cel.flen (enc := Mv.c) (l := os) mv_len (H.cel (s := o)) (by decide)
    refine ⟨fun h => ?_, fun _ => ⟨os, hmem, by omega, H⟩⟩
    have hqlt : q < sw.length := by rw [hrl] at h; simp only [decide_eq_true_eq] at h; omega
    obtain ⟨a, ha, hc⟩ := (hS.fr0 H.fr).at_ q (.int .i64 sw[q]) (by simp [List.getElem?_eq_getElem hqlt])
    refine ⟨a, ha, by omega, by omega, _, by rw [Int.toNat_natCast, Nat.mul_one]; exact hc, fun _ => ⟨os, hmem, by omega, H⟩, fun h0 => ?_⟩
    have hm0 : 0 < ms.length := by simp only [decide_eq_false_iff_not] at h0; omega
    have hmi : (0 : Int) < (s.l : Int) := by omega
    have ewr : wr .i64 (sw[q].tmod (s.l : Int) + (s.l : Int)) = sw[q].tmod (s.l : Int) + (s.l : Int) := by
      have h1 := tmod_lo sw[q] hmi
      have h2 := Int.tmod_lt_of_pos sw[q] hmi
      rw [wr64 (by omega) (by omega)]
    rw [ewr]
    have hk1 : 0 ≤ (sw[q].tmod (s.l : Int) + (s.l : Int)).tmod (s.l : Int) := modI_lo sw[q] hmi
    have hk2 : (sw[q].tmod (s.l : Int) + (s.l : Int)).tmod (s.l : Int) < (s.l : Int) := modI_hi sw[q] hmi
    generalize (sw[q].tmod (s.l : Int) + (s.l : Int)).tmod (s.l : Int) = ki at *
    obtain ⟨k, rfl⟩ := Int.eq_ofNat_of_zero_le hk1
    have hj1 : 0 ≤ ((q : Int)).tmod (s.l : Int) := Int.tmod_nonneg _ (by omega)
    have hj2 : ((q : Int)).tmod (s.l : Int) < (s.l : Int) := Int.tmod_lt_of_pos _ hmi
    generalize ((q : Int)).tmod (s.l : Int) = ji at *
    obtain ⟨j, rfl⟩ := Int.eq_ofNat_of_zero_le hj1
    rw [Int.toNat_natCast, Int.toNat_natCast]
    have hk : k < ms.length := by omega
    have hj : j < ms.length := by omega
    have hxj : os[j]? = some (os[j]'(by omega)) := List.getElem?_eq_getElem (by omega)
    have hxk : os[k]? = some (os[k]'(by omega)) := List.getElem?_eq_getElem (by omega)
    have hxm : ms[k]? = some ms[k] := List.getElem?_eq_getElem hk
    have hsw := mem_swap (l := os) (j := j) (k := k) (by omega) (by omega)
    obtain ⟨aj, haj, hcj⟩ := Cel.elem (enc := Mv.c) mv_len (H.cel (s := o)) hxj (by decide)
    refine ⟨by omega, by omega, by omega, aj, haj, by omega, by omega, _, hcj 0 _ rfl, _, hcj 1 _ rfl, _, hcj 2 _ rfl, _, hcj 3 _ rfl, _, hcj 4 _ rfl, H.new fun b135 w4 H => H.stoAll (b := b135) (by rfl) fun w5 H => ?_⟩
    obtain ⟨ak, hak, hck⟩ := Cel.elem (enc := Mv.c) mv_len (H.cel (s := o)) hxk (by decide)
    have H := H.own o
    refine ⟨ak, hak, by omega, by omega, _, hck 0 _ rfl, _, hck 1 _ rfl, _, hck 2 _ rfl, _, hck 3 _ rfl, _, hck 4 _ rfl, aj, haj, by omega, by omega, ?_⟩
    refine Hp.stoNOwn haj (os[k]'(by omega)).c (j * 5) 0 _ _ (by rw [flat_len mv_len, mv_len]; omega) H fun w6 H => ?_
    rw [Nat.add_zero, flat_set mv_len (by omega)] at H
    refine ⟨_, H.cell (b := b135) (i := 0) rfl, _, H.cell (b := b135) (i := 1) rfl, _, H.cell (b := b135) (i := 2) rfl, _, H.cell (b := b135) (i := 3) rfl, _, H.cell (b := b135) (i := 4) rfl, ak, hak, by omega, by omega, ?_⟩
    refine Hp.stoNOwn hak (os[j]'(by omega)).c (k * 5) 0 _ _ (by rw [flat_len mv_len, mv_len, List.length_set]; omega) H fun w7 H => ?_
    rw [Nat.add_zero, flat_set mv_len (by rw [List.length_set]; omega)] at H
    obtain ⟨am, ham, hcm⟩ := (hM.fr0 H.fr).elem mv_len hxm (by decide)
    refine ⟨am, ham, by omega, by omega, _, hcm 0 _ rfl, _, hcm 1 _ rfl, _, hcm 2 _ rfl, _, hcm 3 _ rfl, _, hcm 4 _ rfl, H.newRow (e := Ty_sherdlaw15_Move) (n := 1) (size := 5) ms[k].c rfl rfl (by decide) fun b189 w8 H => ?_⟩
    refine H.app (s := o) slT_sl_sherdlaw15_Move (H.cel (s := ⟨some (blk b189), 1, 1⟩)) (fun u hu => one_mv [ms[k]] u (by simpa using hu)) (by unfold maxLen; simp only; omega) (by simp only; omega) fun o' w9 H _ => ?_
    have H := (((H.own ⟨some (blk b189), 1, 1⟩).drop.blk b135).drop).own o'
    have e1 : wr .i64 ((q : Int) + 1) = ((q + 1 : Nat) : Int) := by rw [wr64 (by omega) (by omega)]; omega
    refine ⟨⟨q + 1, (os.set j (os[k]'(by omega))).set k (os[j]'(by omega)) ++ [ms[k]], by rw [e1], by omega, fun m => ?_, ?_, ?_⟩, by dsimp only; rw [e1]; omega⟩
    · rw [List.mem_append, hsw, hmem, List.mem_singleton]
      exact ⟨fun h => h.elim id fun e => by rw [e]; exact List.getElem_mem _, .inl⟩
    · simp; omega
    · have eF : ∀ (l : List Mv) (m' : Mv), (l ++ [m']).flatMap Mv.c = l.flatMap Mv.c ++ m'.c := fun l m' => by simp
      rw [eF]
      exact H
  rintro o w3 ⟨os, hmem, hol, H⟩
  refine call (done_c (ms := os) (F := star (own Ty_sherdlaw15_Move 5 o (os.flatMap Mv.c)) (star (tabA p T) emp)) (by omega) RdM.own (by omega) H) ?_
  rintro _ w4 ⟨p2, T2, rfl, hT2, H⟩
  have hall : allS T = allS T2 := TbOk.all_ext hT hT2 (fun k t => (feS_same hmem k t).symm) (fun k t => (heS_same hmem k t).symm)
  have ht1 := TabS.tell hT (by omega)
  have ht2 := TabS.tell hT2 (by omega)
  refine ⟨_, _, rfl, fun b w' => b = true ∧ Hp w w' (star (tabA p T) (star (tabA p2 T2) emp)), ⟨fun _ => ?_, fun h => by simp at h⟩, ?_⟩
  · refine call (all_c ht1 (H.take (tabA p T))) ?_
    rintro _ w5 ⟨sa, xa, rfl, hab, H⟩
    refine ⟨_, rfl, call (all_c ht2 (H.take (tabA p2 T2))) ?_⟩
    rintro _ w6 ⟨sb, xb, rfl, hbb, H⟩
    obtain ⟨q1, q2⟩ := TabS.hds hT (by omega) hab
    refine ⟨_, rfl, call (sameAll_c (RdH.helds (hs := xa)) (RdH.helds (hs := xb)) q1 q2 H) ?_⟩
    rintro _ w7 ⟨rfl, H⟩
    refine ⟨_, rfl, by rw [hab, hbb, hall]; simp, ?_⟩
    have H := ((H.take (heldsA sb xb)).drop.take (heldsA sa xa)).drop.own o
    refine H.drop.ent ?_
    exact Ent.pick (P := tabA p T) (Ent.pick (P := tabA p2 T2) (Ent.refl _))
  rintro _ w5 ⟨rfl, H⟩
  obtain ⟨b1, b2⟩ := TabS.tellB hT (by omega)
  obtain ⟨b3, b4⟩ := TabS.tellB hT2 (by omega)
  refine ⟨fun b w' => b = true ∧ Fr [] w w', ⟨fun _ => ?_, fun h => by simp at h⟩, ?_⟩
  · refine call (updates_c (B := 2000000000) (C := 3) ht1 b1 b2 (by decide) H) ?_
    rintro _ w6 ⟨sa, xa, rfl, hab, hal, H⟩
    refine ⟨_, rfl, call (updates_c (B := 2000000000) (C := 3) ht2 b3 b4 (by decide) (H.take (tabA p2 T2))) ?_⟩
    rintro _ w7 ⟨sb, xb, rfl, hbb, hbl, H⟩
    refine ⟨_, rfl, call (sameUpdates_c (RdU.upds (us := xa)) (RdU.upds (us := xb)) (by omega) H) ?_⟩
    rintro _ w8 ⟨rfl, H⟩
    exact ⟨_, rfl, by rw [hab, hbb, hall]; simp, H.fr⟩
  rintro _ w6 ⟨rfl, f⟩
  refine ⟨fun b w' => b = true ∧ Fr [] w w', ⟨fun _ => call taken_c ?_, fun h => by simp at h⟩, fun b w' h => Rt.ok ⟨by rw [h.1], h.2⟩⟩
  rintro _ w7 ⟨rfl, f2⟩
  exact ⟨_, rfl, rfl, f.then_ f2⟩
end
end Go.Proofs.Ytgnceldnfefnmaa
