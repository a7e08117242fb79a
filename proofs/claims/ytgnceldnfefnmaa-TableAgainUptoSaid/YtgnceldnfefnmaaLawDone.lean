/-
  Contracts of what the table's statements share: all of two tables compared; a table to which moves were applied.
-/
import Derived.Test.YtgnceldnfefnmaaTableAll
import Derived.Test.YtgnceldnfefnmaaLawBounds
namespace Go.Tab
open Go Go.Vc Go.Vc.Asn
variable {n : Nat} {D : ByteArray → Tg → List UInt8} {FE HE FE' HE' : ByteArray → List Tg} {T T' : Tc}
theorem listC_ext {n : Nat} {D : Tg → List UInt8} {FE HE FE' HE' : List Tg} (h1 : FE.Nodup) (h2 : FE'.Nodup) (hf : ∀ t, t ∈ FE ↔ t ∈ FE') (hh : ∀ t, t ∈ HE ↔ t ∈ HE') : listC n D FE HE = listC n D FE' HE' := by
  have hp : FE.Perm FE' := (List.perm_ext_iff_of_nodup h1 h2).2 hf
  have ht : (tagsC n FE HE).Perm (tagsC n FE' HE') := (List.perm_ext_iff_of_nodup ((uni_nodup h1 HE).sublist List.filter_sublist) ((uni_nodup h2 HE').sublist List.filter_sublist)).2 fun t => by
    rw [List.mem_filter, List.mem_filter, mem_uni, mem_uni, hf, hh, fl_ext hp]
  unfold listC
  rw [sortU_ext ht]
  refine List.map_congr_left fun t _ => ?_
  unfold enC
  simp only [hf, hh]
namespace TbOk
theorem list (h : TbOk n D FE HE T) (k : ByteArray) : listS (T.sh k) = listC n (D k) (FE k) (HE k) := (h.sh k).list (h.fe k).1
theorem key_iff (h : TbOk n D FE HE T) (k : ByteArray) : k ∈ T.keys.map (·.1) ↔ T.sh k ≠ [] := by
  unfold Tc.sh
  cases hl : llook T.keys k with
  | none => simp only [ne_eq, not_true_eq_false, iff_false]; exact llook_none hl
  | some y =>
    have hm := llook_mem hl
    exact ⟨fun _ => h.ne _ hm, fun _ => List.mem_map_of_mem (f := (·.1)) hm⟩
theorem list_ne (_h : TbOk n D FE HE T) (k : ByteArray) : T.sh k ≠ [] ↔ listS (T.sh k) ≠ [] := by
  have : (listS (T.sh k)).length = (T.sh k).length := by unfold listS; rw [List.length_map, (sortU_perm _).length_eq, List.length_map]
  rw [← List.length_pos_iff, ← List.length_pos_iff, this]
theorem all_ext (h : TbOk n D FE HE T) (h' : TbOk n D FE' HE' T') (hf : ∀ k t, t ∈ FE k ↔ t ∈ FE' k) (hh : ∀ k t, t ∈ HE k ↔ t ∈ HE' k) : allS T = allS T' := by
  have e : ∀ k, listS (T.sh k) = listS (T'.sh k) := fun k => by rw [h.list, h'.list]; exact listC_ext (h.fe k).1 (h'.fe k).1 (hf k) (hh k)
  have hp : (T.keys.map (·.1)).Perm (T'.keys.map (·.1)) := (List.perm_ext_iff_of_nodup h.keys h'.keys).2 fun k => by
    rw [h.key_iff, h'.key_iff, h.list_ne, h'.list_ne, e]
  unfold allS
  rw [sortK_ext hp]
  exact List.map_congr_left fun k _ => by rw [e]
theorem all_get (h : TbOk n D FE HE T) {k : ByteArray} (hk : T.sh k ≠ []) : (k, listS (T.sh k)) ∈ allS T := by
  unfold allS
  exact List.mem_map.2 ⟨k, (sortK_perm _).mem_iff.2 ((h.key_iff k).2 hk), rfl⟩
theorem all_at {x : ByteArray × List En} (hx : x ∈ allS T) : x.2 = listS (T.sh x.1) := by
  obtain ⟨k, _, rfl⟩ := List.mem_map.1 hx
  rfl
/-- A tag newly finalized isn't below the new floor. -/
theorem fl_new {F : List Tg} {t : Tg} (hn : F.Nodup) (h0 : ltT (0, 0) t = true) (hlt : ltT t (fl n F) = false) (hf : t ∉ F) : ltT t (fl n (t :: F)) = false := by
  rcases fl_spec (n := n) (List.nodup_cons.2 ⟨hf, hn⟩) with ⟨_, e0⟩ | ⟨hm, hc⟩
  · rw [e0]; exact ltT_asymm h0
  · cases hx : ltT t (fl n (t :: F)) with
    | false => rfl
    | true =>
      exfalso
      have hmf : fl n (t :: F) ∈ F := (List.mem_cons.1 hm).resolve_left fun e => by rw [e, ltT_irrefl] at hx; cases hx
      rw [List.countP_cons, ltT_asymm hx] at hc
      have := fl_eq (n := n) hn hmf (by simpa using hc)
      rw [this, hx] at hlt
      cases hlt
/-- What changes, is told. -/
theorem differ {k : ByteArray} {t : Tg} {ends comes : Bool} (h : TbOk n D FE HE T) (h' : TbOk n D (upd FE k t ends) (upd HE k t comes) T') (h0 : ltT (0, 0) t = true)
    (hb : (!ltT t (fl n (FE k)) && ((comes && !decide (t ∈ HE k)) || (ends && !decide (t ∈ FE k)))) = true) : allS T' ≠ allS T := fun e => by
  simp only [Bool.and_eq_true, Bool.not_eq_true', Bool.or_eq_true, decide_eq_false_iff_not] at hb
  obtain ⟨hlt, hb⟩ := hb
  have hmf : ∀ x, x ∈ upd FE k t ends k ↔ (ends = true ∧ x = t) ∨ x ∈ FE k := fun x => by
    unfold upd
    cases ends with
    | true => rw [if_pos ⟨rfl, rfl⟩, mem_ins]; simp
    | false => simp
  have hmh : ∀ x, x ∈ upd HE k t comes k ↔ (comes = true ∧ x = t) ∨ x ∈ HE k := fun x => by
    unfold upd
    cases comes with
    | true => rw [if_pos ⟨rfl, rfl⟩, mem_ins]; simp
    | false => simp
  have hlt' : ltT t (fl n (upd FE k t ends k)) = false := by
    unfold upd
    split
    · unfold ins
      split
      · exact hlt
      · rename_i hf; exact fl_new (h.fe k).1 h0 hlt hf
    · exact hlt
  have hmem : enC (D k) (upd FE k t ends k) (upd HE k t comes k) t ∈ listS (T'.sh k) := by
    rw [h'.list]
    refine List.mem_map_of_mem ((sortU_perm _).mem_iff.2 (List.mem_filter.2 ⟨mem_uni.2 ?_, by rw [hlt']; rfl⟩))
    rcases hb with hb | hb
    · exact .inr ((hmh t).2 (.inl ⟨hb.1, rfl⟩))
    · exact .inl ((hmf t).2 (.inl ⟨hb.1, rfl⟩))
  have hne : T'.sh k ≠ [] := fun e0 => by
    have := (h'.list_ne k).1
    rw [e0] at hmem
    simp [listS, sortU] at hmem
  have h1 := h'.all_get hne
  rw [e] at h1
  have h2 := all_at h1
  simp only at h2
  rw [h2, h.list] at hmem
  obtain ⟨x, _, hx⟩ := List.mem_map.1 hmem
  have e1 : x = t := congrArg En.tag hx
  subst e1
  have e2 : decide (x ∈ FE k) = decide (x ∈ upd FE k x ends k) := congrArg En.fin hx
  have e3 : decide (x ∈ HE k) = decide (x ∈ upd HE k x comes k) := congrArg En.has hx
  rcases hb with hb | hb
  · rw [decide_eq_true ((hmh x).2 (.inl ⟨hb.1, rfl⟩))] at e3
    exact hb.2 (by simpa using e3)
  · rw [decide_eq_true ((hmf x).2 (.inl ⟨hb.1, rfl⟩))] at e2
    exact hb.2 (by simpa using e2)
end TbOk
theorem snocRec {α : Type} {P : List α → Prop} (h0 : P []) (h1 : ∀ l a, P l → P (l ++ [a])) (l : List α) : P l := by
  rw [← List.reverse_reverse l]
  induction l.reverse with
  | nil => exact h0
  | cons a r ih => rw [List.reverse_cons]; exact h1 _ _ ih
/-- The table's moves, each with what it tells. -/
theorem mem_feS {ms : List Mv} {k : ByteArray} {t : Tg} : t ∈ feS ms k ↔ ∃ m ∈ ms, m.fin = true ∧ keyB m.key = k ∧ m.tag = t := by
  revert t
  refine snocRec (P := fun ms => ∀ {t : Tg}, t ∈ feS ms k ↔ ∃ m ∈ ms, m.fin = true ∧ keyB m.key = k ∧ m.tag = t) (fun {t} => by simp [feS]) (fun l m ih {t} => ?_) ms
  · rw [feS_snoc]
    unfold stepF upd
    split
    · rename_i h
      rw [mem_ins, ih]
      simp only [List.mem_append, List.mem_singleton]
      constructor
      · rintro (rfl | ⟨m', hm, r⟩)
        · exact ⟨m, .inr rfl, h.1, h.2.symm, rfl⟩
        · exact ⟨m', .inl hm, r⟩
      · rintro ⟨m', hm | rfl, r⟩
        · exact .inr ⟨m', hm, r⟩
        · exact .inl r.2.2.symm
    · rename_i h
      rw [ih]
      simp only [List.mem_append, List.mem_singleton]
      constructor
      · rintro ⟨m', hm, r⟩; exact ⟨m', .inl hm, r⟩
      · rintro ⟨m', hm | rfl, r⟩
        · exact ⟨m', hm, r⟩
        · exact absurd ⟨r.1, r.2.1.symm⟩ h
theorem mem_heS {ms : List Mv} {k : ByteArray} {t : Tg} : t ∈ heS ms k ↔ ∃ m ∈ ms, (m.both || !m.fin) = true ∧ keyB m.key = k ∧ m.tag = t := by
  revert t
  refine snocRec (P := fun ms => ∀ {t : Tg}, t ∈ heS ms k ↔ ∃ m ∈ ms, (m.both || !m.fin) = true ∧ keyB m.key = k ∧ m.tag = t) (fun {t} => by simp [heS]) (fun l m ih {t} => ?_) ms
  · rw [heS_snoc]
    unfold stepH upd
    split
    · rename_i h
      rw [mem_ins, ih]
      simp only [List.mem_append, List.mem_singleton]
      constructor
      · rintro (rfl | ⟨m', hm, r⟩)
        · exact ⟨m, .inr rfl, h.1, h.2.symm, rfl⟩
        · exact ⟨m', .inl hm, r⟩
      · rintro ⟨m', hm | rfl, r⟩
        · exact .inr ⟨m', hm, r⟩
        · exact .inl r.2.2.symm
    · rename_i h
      rw [ih]
      simp only [List.mem_append, List.mem_singleton]
      constructor
      · rintro ⟨m', hm, r⟩; exact ⟨m', .inl hm, r⟩
      · rintro ⟨m', hm | rfl, r⟩
        · exact ⟨m', hm, r⟩
        · exact absurd ⟨r.1, r.2.1.symm⟩ h
theorem key_le3 {l : List ByteArray} (hn : l.Nodup) (h : ∀ k ∈ l, ∃ n, k = keyB n) : l.length ≤ 3 := by
  have := nodup_len (l2 := keyL) hn fun k hk => by
    obtain ⟨n, rfl⟩ := h k hk
    unfold keyB
    have h3 : (modI n 3).toNat < 3 := by have := modI_lo n (m := 3) (by decide); have := modI_hi n (m := 3) (by decide); omega
    have : keyL.getD (modI n 3).toNat ⟨#[]⟩ = keyL[(modI n 3).toNat]'h3 := by rw [List.getD_eq_getElem?_getD, List.getElem?_eq_getElem (show (modI n 3).toNat < keyL.length from h3)]; rfl
    rw [this]
    exact List.getElem_mem _
  exact this
end Go.Tab
namespace Go.Proofs.Ytgnceldnfefnmaa
open Go Go.Vc Go.Vc.Asn Go.Tab Go.Sort
section
variable {w0 w : World} {F F' : Asn} {n : Nat} {T : Tc} {p : Nat}
/-- All of a table, to be read whatever else turns. -/
def RdH (w0 : World) (F : Asn) (s : Slc) (hs : List Hd) : Prop := ∀ w' A, Hp w0 w' (star A F) → Cel w' s 2 (hs.flatMap Hd.c) ∧ ∀ h ∈ hs, Cel w' h.s 5 (h.es.flatMap Ec.c) ∧ ∀ e ∈ h.es, Byt w' e.s e.data
theorem held_at {hs : List Hd} {h : Hd} (hm : h ∈ hs) (H : Hp w0 w (star (all heldA hs) F)) : Cel w h.s 5 (h.es.flatMap Ec.c) ∧ ∀ e ∈ h.es, Byt w e.s e.data := by
  induction hs generalizing F with
  | nil => cases hm
  | cons x r ih =>
    have H : Hp w0 w (star (star (heldA x) (all heldA r)) F) := H
    rcases List.mem_cons.1 hm with rfl | hm
    · have H : Hp w0 w (star (own Ty_api_Entry 5 h.s (h.es.flatMap Ec.c)) (star (all entA h.es) (star (all heldA r) F))) := H.assoc.assoc
      exact ⟨H.cel (s := h.s), fun e he => ent_at he H.swap⟩
    · exact ih hm H.assoc.swap
theorem RdH.helds {s : Slc} {hs : List Hd} [Take (heldsA s hs) F F'] : RdH w0 F s hs := fun _ _ H => by
  have H := (H.take (heldsA s hs)).assoc
  exact ⟨H.cel (s := s), fun e he => held_at he H.swap⟩
theorem RdH.ent {s : Slc} {hs : List Hd} (h : RdH w0 F s hs) {x : Hd} (hx : x ∈ hs) : RdE w0 F x.s x.es := fun w' A H => (h w' A H).2 x hx
theorem sameAll_c {a b : Slc} {xa xb : List Hd} (ha : RdH w0 F a xa) (hb : RdH w0 F b xb) (hl : xa.length ≤ 1099511627776) (hle : ∀ x ∈ xa, x.es.length ≤ 1099511627776) (H : Hp w0 w F) :
    Calls PP F_sherdlaw15_sameAll #[a.v, b.v] w (Rt fun v w' => v = .bool (decide (xa.map Hd.abs = xb.map Hd.abs)) ∧ Hp w0 w' F) := by
  have hE : ∀ {w'}, Hp w0 w' F → Hp w0 w' (star emp F) := fun H => H.ent emp_l
  have h1 := (ha _ _ (hE H)).1.flen hd_len (by decide)
  have h2 := (hb _ _ (hE H)).1.flen hd_len (by decide)
  refine sim_sherdlaw15_sameAll _ _ _ _ ?_
  unfold vc_sherdlaw15_sameAll
  rw [h1, h2]
  refine ⟨fun h => Rt.ok ⟨?_, H⟩, fun h => ?_⟩
  · have h : xa.length ≠ xb.length := by simp at h; omega
    congr 1
    symm
    simp only [decide_eq_false_iff_not]
    intro e
    exact h (by simpa using congrArg List.length e)
  have hlen : xa.length = xb.length := by simp at h; omega
  refine ⟨fun i w' => (∃ m : Nat, i = (m : Int) ∧ m ≤ xa.length ∧ (xa.map Hd.abs).take m = (xb.map Hd.abs).take m) ∧ Hp w0 w' F, fun i _ => xa.length - i.toNat, ⟨⟨0, rfl, Nat.zero_le _, rfl⟩, H⟩, ?_⟩
  rintro _ w1 ⟨⟨m, rfl, hm, ht⟩, H⟩
  refine ⟨fun h => ?_, fun h => ?_⟩
  · have hlt : m < xa.length := by simp only [decide_eq_true_eq] at h; omega
    have H := H.drew 1
    obtain ⟨ra, rda⟩ := ha _ _ (hE H)
    obtain ⟨rb, rdb⟩ := hb _ _ (hE H)
    have hx : xa[m]? = some xa[m] := List.getElem?_eq_getElem hlt
    have hy : xb[m]? = some (xb[m]'(by omega)) := List.getElem?_eq_getElem (by omega)
    obtain ⟨p, hp, hc⟩ := ra.elem hd_len hx (by decide)
    obtain ⟨q, hq, hd⟩ := rb.elem hd_len hy (by decide)
    have e1 : wr .i64 ((m : Int) + 1) = ((m + 1 : Nat) : Int) := by rw [wr64 (by omega) (by omega)]; omega
    have hmx : xa[m] ∈ xa := List.getElem_mem _
    have hmy : (xb[m]'(by omega)) ∈ xb := List.getElem_mem _
    generalize hX : xa[m] = X at *
    generalize hY : (xb[m]'(by omega)) = Y at *
    have hkey : (X.key.toList = Y.key.toList) ↔ X.key = Y.key := by
      constructor
      · intro e
        rw [ByteArray.toList_eq, ByteArray.toList_eq] at e
        rw [← eta X.key, ← eta Y.key, e]
      · intro e; rw [e]
    refine ⟨fun b w' => b = !decide (X.abs = Y.abs) ∧ Hp w0 w' F, ⟨p, hp, by omega, by omega, _, hc 0 _ rfl, q, hq, by omega, by omega, _, hd 0 _ rfl, fun h => ⟨?_, H⟩, fun h => ⟨p, hp, by omega, by omega, _, hc 1 _ rfl, q, hq, by omega, by omega, _, hd 1 _ rfl, ?_⟩⟩, ?_⟩
    · have h : X.key ≠ Y.key := by simpa [hkey] using h
      symm
      simp only [Bool.not_eq_true', decide_eq_false_iff_not]
      exact fun e => h (congrArg Prod.fst e)
    · have hk : X.key = Y.key := by simpa [hkey] using h
      refine call (sameEntries_c (ha.ent hmx) (hb.ent hmy) (hle _ hmx) H) ?_
      rintro _ w2 ⟨rfl, H⟩
      refine ⟨_, rfl, ?_, H⟩
      congr 1
      rw [Bool.eq_iff_iff]
      simp only [decide_eq_true_eq, Hd.abs, Prod.mk.injEq, hk, true_and]
    · rintro b w2 ⟨rfl, H⟩
      refine ⟨fun h => Rt.ok ⟨?_, H⟩, fun h => ⟨⟨⟨m + 1, by rw [e1], by omega, ?_⟩, H⟩, by dsimp only; rw [e1]; omega⟩⟩
      · have h : X.abs ≠ Y.abs := by simpa using h
        congr 1
        symm
        simp only [decide_eq_false_iff_not]
        intro e
        have := congrArg (fun l => l[m]?) e
        simp only [List.getElem?_map, hx, hy, Option.map_some, Option.some.injEq] at this
        exact h this
      · have h : X.abs = Y.abs := by simpa using h
        rw [List.take_succ_eq_append_getElem (by simpa using hlt), List.take_succ_eq_append_getElem (by simp; omega), ht]
        simp only [List.getElem_map, hX, hY, h]
  · have hmm : m = xa.length := by simp only [decide_eq_false_iff_not] at h; omega
    refine Rt.ok ⟨?_, H⟩
    congr 1
    symm
    simp only [decide_eq_true_eq]
    rw [List.take_of_length_le (by simp; omega), List.take_of_length_le (by simp; omega)] at ht
    exact ht
theorem TbOk.would {D : ByteArray → Tg → List UInt8} {FE HE : ByteArray → List Tg} {u : Upt} (h : TbOk n D FE HE T) : wouldB T u = (!ltT u.tag (fl n (FE u.key)) && ((comesB u && !decide (u.tag ∈ HE u.key)) || (endsB u && !decide (u.tag ∈ FE u.key)))) := by
  unfold wouldB
  rw [h.floor]
  cases hl : ltT u.tag (fl n (FE u.key)) with
  | true => simp
  | false => rw [((h.sh u.key).look_abs hl).1, ((h.sh u.key).look_abs hl).2.1]
theorem TabS.key {ms : List Mv} (h : TabS n ms T) : ∀ k ∈ T.keys.map (·.1), ∃ z, k = keyB z := fun k hk => by
  have hne := (h.key_iff k).1 hk
  obtain ⟨x, r, hx⟩ := List.exists_cons_of_ne_nil hne
  have hm : x.1 ∈ (T.sh k).map (·.1) := by rw [hx]; simp
  rcases (((h.sh k).mem x.1).1 hm).2 with h1 | h1
  · obtain ⟨m, _, _, e, _⟩ := mem_feS.1 h1
    exact ⟨m.key, e.symm⟩
  · obtain ⟨m, _, _, e, _⟩ := mem_heS.1 h1
    exact ⟨m.key, e.symm⟩
theorem TabS.tell {ms : List Mv} (h : TabS n ms T) (hl : ms.length ≤ 137438953472) : Tell T := by
  refine ⟨?_, fun k => ?_, fun k => (h.sh k).tagOk, fun k => TbOk.dataLen h (fun k t => Nat.le_trans (DB_len k t) (by decide)) k⟩
  · have := key_le3 h.keys (TabS.key h)
    rw [List.length_map] at this
    omega
  · have h1 := (h.sh k).len
    have h2 := feS_len ms k
    have h3 := heS_len ms k
    omega
theorem TabS.hds {ms : List Mv} {hs : List Hd} (h : TabS n ms T) (hl : ms.length ≤ 137438953472) (he : hs.map Hd.abs = allS T) : hs.length ≤ 1099511627776 ∧ ∀ x ∈ hs, x.es.length ≤ 1099511627776 := by
  have ht := TabS.tell h hl
  refine ⟨?_, fun x hx => ?_⟩
  · have h1 := congrArg List.length he
    rw [List.length_map, allS_len] at h1
    have := ht.n
    omega
  · have h1 : x.abs ∈ allS T := he ▸ List.mem_map_of_mem hx
    have h2 := TbOk.all_at h1
    have h3 : x.es.length = (listS (T.sh x.key)).length := by
      have := congrArg List.length h2
      simpa [Hd.abs] using this
    have h4 : (listS (T.sh x.key)).length = (T.sh x.key).length := by unfold listS; rw [List.length_map, (sortU_perm _).length_eq, List.length_map]
    have := ht.len x.key
    omega
/-- Moves that can be read whatever else turns. -/
def RdM (w0 : World) (F : Asn) (s : Slc) (ms : List Mv) : Prop := ∀ w' A, Hp w0 w' (star A F) → Cel w' s 5 (ms.flatMap Mv.c)
set_option maxHeartbeats 1000000 in
theorem done_c {s : Slc} {ms : List Mv} (hn : (n : Int) ≤ 4611686018427387903) (hM : RdM w0 F s ms) (hl : ms.length ≤ 137438953472) (H : Hp w0 w F) :
    Calls PP F_sherdlaw15_done #[.int .i64 (n : Int), s.v] w (Rt fun v w' => ∃ p T, v = .tuple #[.pointer (some (blk p)), .bool true] ∧ TabS n ms T ∧ Hp w0 w' (star (tabA p T) F)) := by
  refine sim_sherdlaw15_done _ _ _ _ ?_
  unfold vc_sherdlaw15_done
  refine call (tnew_c (n : Int)) ?_
  rintro _ w1 (⟨h, _⟩ | ⟨_, p, g, rfl, K⟩)
  · exfalso; rcases h with h | h <;> omega
  have H := H.join K
  have h0 : TabS n [] ⟨n, g, []⟩ := TbOk.new n DB g
  have hsl := (hM _ _ H).flen mv_len (by decide)
  refine ⟨_, _, rfl, fun h => by simp at h, fun _ => ?_⟩
  refine ⟨fun i w' => ∃ m : Nat, i = (m : Int) ∧ m ≤ ms.length ∧ ∃ T, TabS n (ms.take m) T ∧ Hp w0 w' (star (tabA p T) F), fun i _ => ms.length - i.toNat, ⟨0, rfl, Nat.zero_le _, _, h0, H⟩, ?_⟩
  rintro _ w2 ⟨m, rfl, hm, T, hT, H⟩
  refine ⟨fun h => ?_, fun h => ?_⟩
  rotate_left
  · have hme : m = ms.length := by rw [hsl] at h; simp only [decide_eq_false_iff_not] at h; omega
    subst hme
    rw [List.take_length] at hT
    exact Rt.ok ⟨p, T, rfl, hT, H⟩
  have hlt : m < ms.length := by rw [hsl] at h; simp only [decide_eq_true_eq] at h; omega
  have hx : ms[m]? = some ms[m] := List.getElem?_eq_getElem hlt
  have htk : ms.take (m + 1) = ms.take m ++ [ms[m]] := by rw [List.take_succ_eq_append_getElem hlt]
  obtain ⟨a, ha, hc⟩ := (hM _ _ H).elem mv_len hx (by decide)
  have ewr : wr .i64 ((m : Int) + 1) = ((m + 1 : Nat) : Int) := by rw [wr64 (by omega) (by omega)]; omega
  have htl : (ms.take m).length ≤ 137438953472 := by rw [List.length_take]; omega
  have htl2 : (ms.take (m + 1)).length ≤ 137438953472 := by rw [List.length_take]; omega
  generalize ms[m] = mv at *
  refine ⟨a, ha, by omega, by omega, _, hc 0 _ rfl, _, hc 1 _ rfl, _, hc 2 _ rfl, _, hc 3 _ rfl, _, hc 4 _ rfl, H.new fun b39 w3 H => H.stoAll (b := b39) (by rfl) fun w4 H => ?_⟩
  refine call (all_c (TabS.tell hT htl) (H.take (tabA p T))) ?_
  rintro _ w5 ⟨sa, ha1, rfl, hab, H⟩
  obtain ⟨hal, hae⟩ := TabS.hds hT htl hab
  refine ⟨_, rfl, _, H.cell (b := b39) (i := 0) rfl, _, H.cell (b := b39) (i := 1) rfl, _, H.cell (b := b39) (i := 2) rfl, _, H.cell (b := b39) (i := 3) rfl, _, H.cell (b := b39) (i := 4) rfl, call (update_c mv) ?_⟩
  rintro _ w6 ⟨su, rfl, U⟩
  have H := (H.join U).take (tabA p T)
  have hf1 := feS_len (ms.take m) (keyB mv.key)
  have hf2 := heS_len (ms.take m) (keyB mv.key)
  have hf3 := (hT.sh (keyB mv.key)).len
  refine ⟨_, _, _, _, _, _, _, rfl, call (would_c (u := mv.upt su) (by rw [hT.delta]; omega) (by rw [mv.u_key]; omega) (Rdy.rdp (d := (mv.upt su).s) (bs := (mv.upt su).data)) H) ?_⟩
  rintro _ w7 ⟨rfl, H⟩
  rw [mv.may, TbOk.would hT, mv.u_key, mv.u_tag, mv.u_ends, mv.u_comes]
  have H := (H.take (rdp (mv.upt su).s (mv.upt su).data)).drop
  refine ⟨_, _, rfl, call (all_c (TabS.tell hT htl) (H.take (tabA p T))) ?_⟩
  rintro _ w8 ⟨sb, hb1, rfl, hbb, H⟩
  obtain ⟨hbl, hbe⟩ := TabS.hds hT htl hbb
  refine ⟨_, rfl, call (sameAll_c (RdH.helds (hs := hb1)) (RdH.helds (hs := ha1)) hbl hbe H) ?_⟩
  rintro _ w9 ⟨rfl, H⟩
  rw [hbb, hab]
  refine ⟨_, rfl, fun h => by simp at h, fun _ => ?_⟩
  have H := H.drop
  refine ⟨_, H.cell (b := b39) (i := 0) rfl, _, H.cell (b := b39) (i := 1) rfl, _, H.cell (b := b39) (i := 2) rfl, _, H.cell (b := b39) (i := 3) rfl, _, H.cell (b := b39) (i := 4) rfl, ?_⟩
  refine move_c (m := mv) hT htl (H.take (tabA p T)) fun T' w10 b hT' hb hs H => ⟨_, _, rfl, ?_⟩
  rw [← htk] at hT'
  have hdiff : b = true → allS T' ≠ allS T := fun hbt => by
    have h2 : TbOk n DB (upd (feS (ms.take m)) (keyB mv.key) mv.tag mv.fin) (upd (heS (ms.take m)) (keyB mv.key) mv.tag (mv.both || !mv.fin)) T' := by
      have h3 : TbOk n DB (feS (ms.take (m + 1))) (heS (ms.take (m + 1))) T' := hT'
      rw [htk, feS_snoc, heS_snoc] at h3
      exact h3
    exact TbOk.differ hT h2 mv.pos (hb ▸ hbt)
  refine ⟨fun x w' => x = false ∧ Hp w0 w' (star (tabA p T') F), ⟨fun _ => ?_, fun h => ?_⟩, ?_⟩
  · refine call (all_c (TabS.tell hT' htl2) (H.take (tabA p T'))) ?_
    rintro _ w11 ⟨sc, hc1, rfl, hcc, H⟩
    obtain ⟨hcl, hce⟩ := TabS.hds hT' htl2 hcc
    refine ⟨_, rfl, call (sameAll_c (RdH.helds (hs := hc1)) (RdH.helds (hs := ha1)) hcl hce H) ?_⟩
    rintro _ w12 ⟨rfl, H⟩
    rw [hcc, hab]
    refine ⟨_, rfl, ?_, ?_⟩
    · cases hbv : b with
      | false => rw [hs hbv]; simp
      | true => simp [hdiff hbv]
    · exact ((((H.take (heldsA sc hc1)).drop.take (heldsA sa ha1)).drop.blk b39).drop.take (tabA p T'))
  · exfalso
    rw [← hb] at h
    simp at h
  · rintro x w11 ⟨rfl, H⟩
    exact ⟨fun h => by simp at h, fun _ => ⟨⟨m + 1, by rw [ewr], by omega, T', hT', H⟩, by dsimp only; rw [ewr]; omega⟩⟩
end
end Go.Proofs.Ytgnceldnfefnmaa
