/-
  Contracts of what the table's statements share: all of two tables compared.
-/
import Derived.Test.YtgnceldnfefnmaaGreatTableAll
namespace Go.Tab
open Go Go.Vc Go.Vc.Asn
variable {n : Nat} {D : ByteArray → Tg → List UInt8} {FE HE FE' HE' : ByteArray → List Tg} {T T' : Tc}
theorem listC_ext {n : Nat} {D : Tg → List UInt8} {FE HE FE' HE' : List Tg} (h1 : FE.Nodup) (h2 : FE'.Nodup) (hf : ∀ t, t ∈ FE ↔ t ∈ FE') (hh : ∀ t, t ∈ HE ↔ t ∈ HE') : listC n D FE HE = listC n D FE' HE' := by
  have hp : FE.Perm FE' := (List.perm_ext_iff_of_nodup h1 h2).2 hf
  have ht : (tagsC n FE HE).Perm (tagsC n FE' HE') := (List.perm_ext_iff_of_nodup ((uni_nodup h1 HE).sublist List.filter_sublist) ((uni_nodup h2 HE').sublist List.filter_sublist)).2 fun t => by
    rw [List.mem_filter, List.mem_filter, mem_uni, mem_uni, hf, hh, fl_ext hp]
  unfold listC
  rw [sortU_ext ht]
  refine List.map_congr_left fun t _ => ?_
  unfold enC
  simp only [hf, hh]
namespace TbOk
theorem list (h : TbOk n D FE HE T) (k : ByteArray) : listS (T.sh k) = listC n (D k) (FE k) (HE k) := (h.sh k).list (h.fe k).1
theorem key_iff (h : TbOk n D FE HE T) (k : ByteArray) : k ∈ T.keys.map (·.1) ↔ T.sh k ≠ [] := by
  unfold Tc.sh
  cases hl : llook T.keys k with
  | none => simp only [ne_eq, not_true_eq_false, iff_false]; exact llook_none hl
  | some y =>
    have hm := llook_mem hl
    exact ⟨fun _ => h.ne _ hm, fun _ => List.mem_map_of_mem (f := (·.1)) hm⟩
theorem list_ne (_h : TbOk n D FE HE T) (k : ByteArray) : T.sh k ≠ [] ↔ listS (T.sh k) ≠ [] := by
  have : (listS (T.sh k)).length = (T.sh k).length := by unfold listS; rw [List.length_map, (sortU_perm _).length_eq, List.length_map]
  rw [← List.length_pos_iff, ← List.length_pos_iff, this]
theorem all_ext (h : TbOk n D FE HE T) (h' : TbOk n D FE' HE' T') (hf : ∀ k t, t ∈ FE k ↔ t ∈ FE' k) (hh : ∀ k t, t ∈ HE k ↔ t ∈ HE' k) : allS T = allS T' := by
  have e : ∀ k, listS (T.sh k) = listS (T'.sh k) := fun k => by rw [h.list, h'.list]; exact listC_ext (h.fe k).1 (h'.fe k).1 (hf k) (hh k)
  have hp : (T.keys.map (·.1)).Perm (T'.keys.map (·.1)) := (List.perm_ext_iff_of_nodup h.keys h'.keys).2 fun k => by
    rw [h.key_iff, h'.key_iff, h.list_ne, h'.list_ne, e]
  unfold allS
  rw [sortK_ext hp]
  exact List.map_congr_left fun k _ => by rw [e]
theorem all_at {x : ByteArray × List En} (hx : x ∈ allS T) : x.2 = listS (T.sh x.1) := by
  obtain ⟨k, _, rfl⟩ := List.mem_map.1 hx
  rfl
end TbOk
end Go.Tab
namespace Go.Proofs.YtgnceldnfefnmaaGreat
open Go Go.Vc Go.Vc.Asn Go.Tab Go.Sort
section
variable {w0 w : World} {F F' : Asn} {n : Nat} {T : Tc} {p : Nat}
def RdH (w0 : World) (F : Asn) (s : Slc) (hs : List Hd) : Prop := ∀ w' A, Hp w0 w' (star A F) → Cel w' s 2 (hs.flatMap Hd.c) ∧ ∀ h ∈ hs, Cel w' h.s 5 (h.es.flatMap Ec.c) ∧ ∀ e ∈ h.es, Byt w' e.s e.data
theorem held_at {hs : List Hd} {h : Hd} (hm : h ∈ hs) (H : Hp w0 w (star (all heldA hs) F)) : Cel w h.s 5 (h.es.flatMap Ec.c) ∧ ∀ e ∈ h.es, Byt w e.s e.data := by
  induction hs generalizing F with
  | nil => cases hm
  | cons x r ih =>
    have H : Hp w0 w (star (star (heldA x) (all heldA r)) F) := H
    rcases List.mem_cons.1 hm with rfl | hm
    · have H : Hp w0 w (star (own Ty_api_Entry 5 h.s (h.es.flatMap Ec.c)) (star (all entA h.es) (star (all heldA r) F))) := H.assoc.assoc
      exact ⟨H.cel (s := h.s), fun e he => ent_at he H.swap⟩
    · exact ih hm H.assoc.swap
theorem RdH.helds {s : Slc} {hs : List Hd} [Take (heldsA s hs) F F'] : RdH w0 F s hs := fun _ _ H => by
  have H := (H.take (heldsA s hs)).assoc
  exact ⟨H.cel (s := s), fun e he => held_at he H.swap⟩
theorem RdH.ent {s : Slc} {hs : List Hd} (h : RdH w0 F s hs) {x : Hd} (hx : x ∈ hs) : RdE w0 F x.s x.es := fun w' A H => (h w' A H).2 x hx
theorem sameAll_c {a b : Slc} {xa xb : List Hd} (ha : RdH w0 F a xa) (hb : RdH w0 F b xb) (hl : xa.length ≤ 1099511627776) (hle : ∀ x ∈ xa, x.es.length ≤ 1099511627776) (H : Hp w0 w F) :
    Calls PP F_sherdlaw15_sameAll #[a.v, b.v] w (Rt fun v w' => v = .bool (decide (xa.map Hd.abs = xb.map Hd.abs)) ∧ Hp w0 w' F) := by
  have hE : ∀ {w'}, Hp w0 w' F → Hp w0 w' (star emp F) := fun H => H.ent emp_l
  have h1 := (ha _ _ (hE H)).1.flen hd_len (by decide)
  have h2 := (hb _ _ (hE H)).1.flen hd_len (by decide)
  refine sim_sherdlaw15_sameAll _ _ _ _ ?_
  unfold vc_sherdlaw15_sameAll
  rw [h1, h2]
  refine ⟨fun h => Rt.ok ⟨?_, H⟩, fun h => ?_⟩
  · have h : xa.length ≠ xb.length := by simp at h; omega
    congr 1
    symm
    simp only [decide_eq_false_iff_not]
    intro e
    exact h (by simpa using congrArg List.length e)
  have hlen : xa.length = xb.length := by simp at h; omega
  refine ⟨fun i w' => (∃ m : Nat, i = (m : Int) ∧ m ≤ xa.length ∧ (xa.map Hd.abs).take m = (xb.map Hd.abs).take m) ∧ Hp w0 w' F, fun i _ => xa.length - i.toNat, ⟨⟨0, rfl, Nat.zero_le _, rfl⟩, H⟩, ?_⟩
  rintro _ w1 ⟨⟨m, rfl, hm, ht⟩, H⟩
  refine ⟨fun h => ?_, fun h => ?_⟩
  · have hlt : m < xa.length := by simp only [decide_eq_true_eq] at h; omega
    have H := H.drew 1
    obtain ⟨ra, rda⟩ := ha _ _ (hE H)
    obtain ⟨rb, rdb⟩ := hb _ _ (hE H)
    have hx : xa[m]? = some xa[m] := List.getElem?_eq_getElem hlt
    have hy : xb[m]? = some (xb[m]'(by omega)) := List.getElem?_eq_getElem (by omega)
    obtain ⟨p, hp, hc⟩ := ra.elem hd_len hx (by decide)
    obtain ⟨q, hq, hd⟩ := rb.elem hd_len hy (by decide)
    have e1 : wr .i64 ((m : Int) + 1) = ((m + 1 : Nat) : Int) := by rw [wr64 (by omega) (by omega)]; omega
    have hmx : xa[m] ∈ xa := List.getElem_mem _
    have hmy : (xb[m]'(by omega)) ∈ xb := List.getElem_mem _
    generalize hX : xa[m] = X at *
    generalize hY : (xb[m]'(by omega)) = Y at *
    have hkey : (X.key.toList = Y.key.toList) ↔ X.key = Y.key := by
      constructor
      · intro e
        rw [ByteArray.toList_eq, ByteArray.toList_eq] at e
        rw [← eta X.key, ← eta Y.key, e]
      · intro e; rw [e]
    refine ⟨fun b w' => b = !decide (X.abs = Y.abs) ∧ Hp w0 w' F, ⟨p, hp, by omega, by omega, _, hc 0 _ rfl, q, hq, by omega, by omega, _, hd 0 _ rfl, fun h => ⟨?_, H⟩, fun h => ⟨p, hp, by omega, by omega, _, hc 1 _ rfl, q, hq, by omega, by omega, _, hd 1 _ rfl, ?_⟩⟩, ?_⟩
    · have h : X.key ≠ Y.key := by simpa [hkey] using h
      symm
      simp only [Bool.not_eq_true', decide_eq_false_iff_not]
      exact fun e => h (congrArg Prod.fst e)
    · have hk : X.key = Y.key := by simpa [hkey] using h
      refine call (sameEntries_c (ha.ent hmx) (hb.ent hmy) (hle _ hmx) H) ?_
      rintro _ w2 ⟨rfl, H⟩
      refine ⟨_, rfl, ?_, H⟩
      congr 1
      rw [Bool.eq_iff_iff]
      simp only [decide_eq_true_eq, Hd.abs, Prod.mk.injEq, hk, true_and]
    · rintro b w2 ⟨rfl, H⟩
      refine ⟨fun h => Rt.ok ⟨?_, H⟩, fun h => ⟨⟨⟨m + 1, by rw [e1], by omega, ?_⟩, H⟩, by dsimp only; rw [e1]; omega⟩⟩
      · have h : X.abs ≠ Y.abs := by simpa using h
        congr 1
        symm
        simp only [decide_eq_false_iff_not]
        intro e
        have := congrArg (fun l => l[m]?) e
        simp only [List.getElem?_map, hx, hy, Option.map_some, Option.some.injEq] at this
        exact h this
      · have h : X.abs = Y.abs := by simpa using h
        rw [List.take_succ_eq_append_getElem (by simpa using hlt), List.take_succ_eq_append_getElem (by simp; omega), ht]
        simp only [List.getElem_map, hX, hY, h]
  · have hmm : m = xa.length := by simp only [decide_eq_false_iff_not] at h; omega
    refine Rt.ok ⟨?_, H⟩
    congr 1
    symm
    simp only [decide_eq_true_eq]
    rw [List.take_of_length_le (by simp; omega), List.take_of_length_le (by simp; omega)] at ht
    exact ht
theorem TbOk.would {D : ByteArray → Tg → List UInt8} {FE HE : ByteArray → List Tg} {u : Upt} (h : TbOk n D FE HE T) : wouldB T u = (!ltT u.tag (fl n (FE u.key)) && ((comesB u && !decide (u.tag ∈ HE u.key)) || (endsB u && !decide (u.tag ∈ FE u.key)))) := by
  unfold wouldB
  rw [h.floor]
  cases hl : ltT u.tag (fl n (FE u.key)) with
  | true => simp
  | false => rw [((h.sh u.key).look_abs hl).1, ((h.sh u.key).look_abs hl).2.1]
end
end Go.Proofs.YtgnceldnfefnmaaGreat
