/-
  Contracts: the entries as updates; updates compared.
-/
import Derived.Test.YtgnceldnfefnmaaGreatLawAll
namespace Go.Tab
open Go Go.Vc Go.Vc.Asn
structure Ua where
  kind : Int
  key : ByteArray
  en : En
deriving DecidableEq
def Upt.abs (u : Upt) : Ua := ⟨u.kind, u.key, u.tag, u.fin, u.has, u.data⟩
def uOf (k : ByteArray) (e : Ec) : Upt := ⟨3, k, e.tag, e.fin, e.has, e.s, e.data⟩
def updL (l : List (ByteArray × List En)) : List Ua := l.flatMap fun x => x.2.map fun e => ⟨3, x.1, e⟩
theorem updL_hs (hs : List Hd) : (hs.flatMap fun h => h.es.map (uOf h.key)).map Upt.abs = updL (hs.map Hd.abs) := by
  unfold updL
  rw [List.flatMap_map, List.map_flatMap]
  congr 1
  funext h
  simp only [List.map_map, Hd.abs]
  rfl
end Go.Tab
namespace Go.Proofs.YtgnceldnfefnmaaGreat
open Go Go.Vc Go.Vc.Asn Go.Tab Go.Sort
section
variable {p : Nat} {T : Tc} {w0 w : World} {F F' : Asn}
def updD (u : Upt) : Asn := own Ty_uint8 1 u.s (u.data.map u8v)
def updsA (s : Slc) (us : List Upt) : Asn := star (own Ty_api_Update 7 s (us.flatMap Upt.c)) (all updD us)
theorem ut_len (u : Upt) : u.c.length = 7 := rfl
theorem one_ut (es : List Upt) : ∀ u ∈ es.flatMap Upt.c, u.oneCell' = true := by
  intro u hu
  obtain ⟨t, _, h⟩ := List.mem_flatMap.1 hu
  simp [Upt.c] at h
  rcases h with rfl | rfl | rfl | rfl | rfl | rfl | rfl <;> rfl
theorem updates_n {N : Nat} (hT : Tell T) (hN : (updL (allS T)).length ≤ N) (hN2 : N ≤ 549755813888) (H : Hp w0 w (star (tabA p T) F)) :
    Calls PP F_table_Table_Updates #[.pointer (some (blk p))] w (Rt fun v w' => ∃ s us, v = Slc.v s ∧ us.map Upt.abs = updL (allS T) ∧ us.length ≤ N ∧ Hp w0 w' (star (updsA s us) (star (tabA p T) F))) := by
  refine sim_table_Table_Updates _ _ _ ?_
  unfold vc_table_Table_Updates
  refine call (all_c hT H) ?_
  rintro _ w1 ⟨sA, hs, rfl, hab, H⟩
  have hpre : ∀ k, ((hs.take k).flatMap fun h => h.es.map (uOf h.key)).length ≤ N := fun k => by
    have h1 : (hs.flatMap fun h => h.es.map (uOf h.key)).length ≤ N := by
      rw [← List.length_map (f := Upt.abs), updL_hs, hab]
      exact hN
    have h2 : (hs.flatMap fun h => h.es.map (uOf h.key)) = ((hs.take k).flatMap fun h => h.es.map (uOf h.key)) ++ ((hs.drop k).flatMap fun h => h.es.map (uOf h.key)) := by
      rw [← List.flatMap_append, List.take_append_drop]
    rw [h2, List.length_append] at h1
    omega
  have H := H.assoc
  have hAl : sA.l = hs.length := Cel.flen (enc := Hd.c) hd_len (H.cel (s := sA)) (by decide)
  have hCn := hT.n
  have hc1 : hs.length ≤ 1099511627776 := by
    have := congrArg List.length hab
    rw [List.length_map, allS_len] at this
    omega
  refine ⟨_, rfl, fun l i w' => ∃ (q : Nat) (us : List Upt), i = (q : Int) ∧ q ≤ hs.length ∧ us = ((hs.take q).flatMap fun h => h.es.map (uOf h.key)) ∧ Hp w0 w' (star (own Ty_api_Update 7 l (us.flatMap Upt.c)) (star (all updD us) (star (own Ty_api_Held 2 sA (hs.flatMap Hd.c)) (star (all heldA (hs.drop q)) (star (tabA p T) F))))), fun _ i _ => hs.length - i.toNat, ⟨0, [], rfl, Nat.zero_le _, rfl, ?_⟩, ?_⟩
  · exact (H.ent emp_l).nilRow _ _
  rintro l _ w2 ⟨q, us, rfl, hq, hus, H⟩
  refine ⟨fun h => ?_, fun h => ?_⟩
  · have hlt : q < hs.length := by rw [hAl] at h; simp only [decide_eq_true_eq] at h; omega
    have hx : hs[q]? = some hs[q] := List.getElem?_eq_getElem hlt
    have hmem : hs[q] ∈ hs := List.getElem_mem _
    have hdr : hs.drop q = hs[q] :: hs.drop (q + 1) := List.drop_eq_getElem_cons hlt
    have htk : hs.take (q + 1) = hs.take q ++ [hs[q]] := by rw [List.take_succ_eq_append_getElem hlt]
    obtain ⟨a, ha, hc⟩ := Cel.elem (enc := Hd.c) hd_len (H.cel (s := sA)) hx (by decide)
    have e1 : wr .i64 ((q : Int) + 1) = ((q + 1 : Nat) : Int) := by rw [wr64 (by omega) (by omega)]; omega
    have hXN : us.length + hs[q].es.length ≤ N := by
      have h1 := hpre (q + 1)
      rw [htk, List.flatMap_append, ← hus, List.length_append] at h1
      simpa using h1
    generalize hX : hs[q] = X at *
    rw [hdr] at H
    have H : Hp w0 w2 (star (own Ty_api_Update 7 l (us.flatMap Upt.c)) (star (all updD us) (star (own Ty_api_Held 2 sA (hs.flatMap Hd.c)) (star (star (star (own Ty_api_Entry 5 X.s (X.es.flatMap Ec.c)) (all entA X.es)) (all heldA (hs.drop (q + 1)))) (star (tabA p T) F))))) := H
    refine ⟨fun l w' => Hp w0 w' (star (own Ty_api_Update 7 l ((us ++ X.es.map (uOf X.key)).flatMap Upt.c)) (star (all updD (us ++ X.es.map (uOf X.key))) (star (own Ty_api_Held 2 sA (hs.flatMap Hd.c)) (star (all heldA (hs.drop (q + 1))) (star (tabA p T) F))))), ?_, ?_⟩
    · refine ⟨a, ha, by omega, by omega, _, hc 0 _ rfl, _, hc 1 _ rfl, H.new fun b30 w3 H => H.stoAll (b := b30) (by rfl) fun w4 H => ⟨_, H.cell (b := b30) (i := 1) rfl, ?_⟩⟩
      have H := H.own X.s
      have hEl := ents_l (s := X.s) (es := X.es) H
      refine ⟨fun l i w' => ∃ r : Nat, i = (r : Int) ∧ r ≤ X.es.length ∧ Hp w0 w' (star (own Ty_api_Update 7 l ((us ++ (X.es.take r).map (uOf X.key)).flatMap Upt.c)) (star (all updD (us ++ (X.es.take r).map (uOf X.key))) (star (own Ty_api_Entry 5 X.s (X.es.flatMap Ec.c)) (star (all entA (X.es.drop r)) (star (bk b30 Ty_api_Held #[.string X.key, X.s.v]) (star (own Ty_api_Held 2 sA (hs.flatMap Hd.c)) (star (all heldA (hs.drop (q + 1))) (star (tabA p T) F)))))))), fun _ i _ => X.es.length - i.toNat, ⟨0, rfl, Nat.zero_le _, ?_⟩, ?_⟩
      · rw [List.take_zero, List.map_nil, List.append_nil, List.drop_zero]
        refine H.ent ?_
        exact Ent.pick (P := own Ty_api_Update 7 l _) (Ent.pick (P := all updD us) (Ent.pick (P := own Ty_api_Entry 5 X.s _) (Ent.pick (P := all entA X.es) (Ent.pick (P := bk b30 Ty_api_Held _) (Ent.pick (P := own Ty_api_Held 2 sA _) (Ent.pick (P := all heldA _) (Ent.refl _)))))))
      rintro l2 _ w5 ⟨r, rfl, hr, H⟩
      refine ⟨fun h => ?_, fun h => ?_⟩
      · have hrlt : r < X.es.length := by rw [hEl] at h; simp only [decide_eq_true_eq] at h; omega
        have hxr : X.es[r]? = some X.es[r] := List.getElem?_eq_getElem hrlt
        have hdr2 : X.es.drop r = X.es[r] :: X.es.drop (r + 1) := List.drop_eq_getElem_cons hrlt
        have htk2 : X.es.take (r + 1) = X.es.take r ++ [X.es[r]] := by rw [List.take_succ_eq_append_getElem hrlt]
        obtain ⟨aE, haE, hcE⟩ := Cel.elem (enc := Ec.c) ent_len (H.cel (s := X.s)) hxr (by decide)
        have e2 : wr .i64 ((r : Int) + 1) = ((r + 1 : Nat) : Int) := by rw [wr64 (by omega) (by omega)]; omega
        have hl2 : l2.l = (us ++ (X.es.take r).map (uOf X.key)).length := Cel.flen (enc := Upt.c) ut_len (H.cel (s := l2)) (by decide)
        have hl3 : l2.l ≤ us.length + r := by rw [hl2, List.length_append, List.length_map, List.length_take]; omega
        generalize hE : X.es[r] = e at *
        refine ⟨aE, haE, by omega, by rw [hEl]; omega, _, hcE 0 _ rfl, _, hcE 1 _ rfl, _, hcE 2 _ rfl, _, hcE 3 _ rfl, _, hcE 4 _ rfl, H.new fun b61 w6 H => H.stoAll (b := b61) (by rfl) fun w7 H => ⟨_, H.cell (b := b30) (i := 0) rfl, _, H.cell (b := b61) (i := 0) rfl, _, H.cell (b := b61) (i := 1) rfl, _, H.cell (b := b61) (i := 2) rfl, _, H.cell (b := b61) (i := 3) rfl, _, H.cell (b := b61) (i := 4) rfl, ?_⟩⟩
        refine H.newRow (e := Ty_api_Update) (n := 1) (size := 7) (uOf X.key e).c rfl rfl (by decide) fun b77 w8 H => ?_
        refine H.app (s := l2) slT_sl_api_Update (H.cel (s := ⟨some (blk b77), 1, 1⟩)) (fun u hu => one_ut [uOf X.key e] u (by simpa using hu)) (by unfold maxLen; simp only; omega) (by simp only; omega) fun l3 w9 H _ => ?_
        have H := ((H.own ⟨some (blk b77), 1, 1⟩).drop.blk b61).drop
        have H := H.take (all entA (X.es.drop r))
        rw [hdr2] at H
        have H : Hp w0 w9 (star (star (updD (uOf X.key e)) (all entA (X.es.drop (r + 1)))) _) := H
        have H := ((H.assoc.swap.ent (Ent.star (Ent.refl _) (Ent.pick (P := all updD (us ++ (X.es.take r).map (uOf X.key))) (Ent.refl _)))))
        have H := H.take (updD (uOf X.key e))
        have H := ((H.ent (Ent.star (Ent.refl _) (Ent.pick (P := all updD (us ++ (X.es.take r).map (uOf X.key))) (Ent.refl _)))).assoc').ent (Ent.star (all_snoc updD (uOf X.key e) _) (Ent.refl _))
        refine ⟨⟨r + 1, by rw [e2], by omega, ?_⟩, by dsimp only; rw [e2]; omega⟩
        rw [htk2, List.map_append, List.map_cons, List.map_nil, ← List.append_assoc]
        rw [show (us ++ (X.es.take r).map (uOf X.key) ++ [uOf X.key e]).flatMap Upt.c = (us ++ (X.es.take r).map (uOf X.key)).flatMap Upt.c ++ (uOf X.key e).c by simp]
        refine H.ent ?_
        exact Ent.pick (P := own Ty_api_Update 7 l3 _) (Ent.pick (P := all updD _) (Ent.pick (P := own Ty_api_Entry 5 X.s _) (Ent.pick (P := all entA _) (Ent.pick (P := bk b30 Ty_api_Held _) (Ent.pick (P := own Ty_api_Held 2 sA _) (Ent.pick (P := all heldA _) (Ent.refl _)))))))
      · have hre : r = X.es.length := by rw [hEl] at h; simp only [decide_eq_false_iff_not] at h; omega
        subst hre
        rw [List.take_length] at H
        have H := (((H.own X.s).drop.take (all entA (X.es.drop X.es.length))).drop.blk b30).drop
        exact H
    · intro l2 w3 H
      refine ⟨⟨q + 1, us ++ X.es.map (uOf X.key), by rw [e1], by omega, ?_, H⟩, by dsimp only; rw [e1]; omega⟩
      rw [htk, List.flatMap_append, ← hus]; simp
  · have hqe : q = hs.length := by rw [hAl] at h; simp only [decide_eq_false_iff_not] at h; omega
    subst hqe
    have hul := hpre hs.length
    rw [← hus] at hul
    rw [List.take_length] at hus
    refine Rt.ok ⟨l, us, rfl, ?_, hul, ?_⟩
    · rw [hus, updL_hs, hab]
    · have H := ((H.own sA).drop.take (all heldA (hs.drop hs.length))).drop
      exact H.assoc'
def RdU (w0 : World) (F : Asn) (s : Slc) (us : List Upt) : Prop := ∀ w' A, Hp w0 w' (star A F) → Cel w' s 7 (us.flatMap Upt.c) ∧ ∀ u ∈ us, Byt w' u.s u.data
theorem upd_at {us : List Upt} {u : Upt} (hu : u ∈ us) (H : Hp w0 w (star (all updD us) F)) : Byt w u.s u.data := by
  induction us generalizing F with
  | nil => cases hu
  | cons x r ih =>
    have H : Hp w0 w (star (star (updD x) (all updD r)) F) := H
    rcases List.mem_cons.1 hu with rfl | h
    · have H : Hp w0 w (star (own Ty_uint8 1 u.s (u.data.map u8v)) (star (all updD r) F)) := H.assoc
      exact H.cel (s := u.s) (size := 1)
    · exact ih h H.assoc.swap
theorem RdU.upds {s : Slc} {us : List Upt} [Take (updsA s us) F F'] : RdU w0 F s us := fun _ _ H => by
  have H := (H.take (updsA s us)).assoc
  exact ⟨H.cel (s := s), fun e he => upd_at he H.swap⟩
theorem sameUpdates_c {a b : Slc} {xa xb : List Upt} (ha : RdU w0 F a xa) (hb : RdU w0 F b xb) (hl : xa.length ≤ 1099511627776) (H : Hp w0 w F) :
    Calls PP F_sherdlaw15_sameUpdates #[a.v, b.v] w (Rt fun v w' => v = .bool (decide (xa.map Upt.abs = xb.map Upt.abs)) ∧ Hp w0 w' F) := by
  have hE : ∀ {w'}, Hp w0 w' F → Hp w0 w' (star emp F) := fun H => H.ent emp_l
  have h1 := (ha _ _ (hE H)).1.flen ut_len (by decide)
  have h2 := (hb _ _ (hE H)).1.flen ut_len (by decide)
  refine sim_sherdlaw15_sameUpdates _ _ _ _ ?_
  unfold vc_sherdlaw15_sameUpdates
  rw [h1, h2]
  refine ⟨fun h => Rt.ok ⟨?_, H⟩, fun h => ?_⟩
  · have h : xa.length ≠ xb.length := by simp at h; omega
    congr 1
    symm
    simp only [decide_eq_false_iff_not]
    intro e
    exact h (by simpa using congrArg List.length e)
  have hlen : xa.length = xb.length := by simp at h; omega
  refine ⟨fun i w' => (∃ m : Nat, i = (m : Int) ∧ m ≤ xa.length ∧ (xa.map Upt.abs).take m = (xb.map Upt.abs).take m) ∧ Hp w0 w' F, fun i _ => xa.length - i.toNat, ⟨⟨0, rfl, Nat.zero_le _, rfl⟩, H⟩, ?_⟩
  rintro _ w1 ⟨⟨m, rfl, hm, ht⟩, H⟩
  refine ⟨fun h => ?_, fun h => ?_⟩
  · have hlt : m < xa.length := by simp only [decide_eq_true_eq] at h; omega
    have H := H.drew 1
    obtain ⟨ra, rda⟩ := ha _ _ (hE H)
    obtain ⟨rb, rdb⟩ := hb _ _ (hE H)
    have hx : xa[m]? = some xa[m] := List.getElem?_eq_getElem hlt
    have hy : xb[m]? = some (xb[m]'(by omega)) := List.getElem?_eq_getElem (by omega)
    obtain ⟨p, hp, hc⟩ := ra.elem ut_len hx (by decide)
    obtain ⟨q, hq, hd⟩ := rb.elem ut_len hy (by decide)
    have e1 : wr .i64 ((m : Int) + 1) = ((m + 1 : Nat) : Int) := by rw [wr64 (by omega) (by omega)]; omega
    have hdx := rda xa[m] (List.getElem_mem _)
    have hdy := rdb (xb[m]'(by omega)) (List.getElem_mem _)
    generalize hX : xa[m] = X at *
    generalize hY : (xb[m]'(by omega)) = Y at *
    have hkey : (X.key.toList = Y.key.toList) ↔ X.key = Y.key := by
      constructor
      · intro e
        rw [ByteArray.toList_eq, ByteArray.toList_eq] at e
        rw [← eta X.key, ← eta Y.key, e]
      · intro e; rw [e]
    have hz : ∀ (z : Addr) j, ((z.add (m * 7)).add 2).add j = (z.add (m * 7)).add (2 + j) := fun z j => add_add _ _ _
    refine ⟨fun b w' => b = !decide (X.abs = Y.abs) ∧ Hp w0 w' F, ⟨p, hp, by omega, by omega, _, hc 0 _ rfl, q, hq, by omega, by omega, _, hd 0 _ rfl, fun h => ⟨?_, H⟩, fun h => ⟨p, hp, by omega, by omega, _, hc 1 _ rfl, q, hq, by omega, by omega, _, hd 1 _ rfl, fun h2 => ⟨?_, H⟩, fun h2 => ⟨p, hp, by omega, by omega, _, by rw [Int.toNat_natCast, hz]; exact hc 2 _ rfl, _, by rw [Int.toNat_natCast, hz]; exact hc 3 _ rfl, _, by rw [Int.toNat_natCast, hz]; exact hc 4 _ rfl, _, by rw [Int.toNat_natCast, hz]; exact hc 5 _ rfl, _, by rw [Int.toNat_natCast, hz]; exact hc 6 _ rfl,
      q, hq, by omega, by omega, _, by rw [Int.toNat_natCast, hz]; exact hd 2 _ rfl, _, by rw [Int.toNat_natCast, hz]; exact hd 3 _ rfl, _, by rw [Int.toNat_natCast, hz]; exact hd 4 _ rfl, _, by rw [Int.toNat_natCast, hz]; exact hd 5 _ rfl, _, by rw [Int.toNat_natCast, hz]; exact hd 6 _ rfl, ?_⟩⟩⟩, ?_⟩
    · have h : X.kind ≠ Y.kind := by simpa using h
      symm
      simp only [Bool.not_eq_true', decide_eq_false_iff_not]
      exact fun e => h (congrArg Ua.kind e)
    · have h2 : X.key ≠ Y.key := by simpa [hkey] using h2
      symm
      simp only [Bool.not_eq_true', decide_eq_false_iff_not]
      exact fun e => h2 (congrArg Ua.key e)
    · have hk : X.kind = Y.kind := by simpa using h
      have hk2 : X.key = Y.key := by simpa [hkey] using h2
      refine call (sameEntry_c (a := ⟨X.tag, X.fin, X.has, X.s, X.data⟩) (b := ⟨Y.tag, Y.fin, Y.has, Y.s, Y.data⟩) hdx hdy) ?_
      rintro _ w2 ⟨rfl, f⟩
      refine ⟨_, rfl, ?_, H.fr0 f⟩
      congr 1
      rw [Bool.eq_iff_iff]
      simp only [decide_eq_true_eq, Upt.abs, Ec.abs, Ua.mk.injEq, hk, hk2, true_and]
      exact decide_eq_true_iff
    · rintro b w2 ⟨rfl, H⟩
      refine ⟨fun h => Rt.ok ⟨?_, H⟩, fun h => ⟨⟨⟨m + 1, by rw [e1], by omega, ?_⟩, H⟩, by dsimp only; rw [e1]; omega⟩⟩
      · have h : X.abs ≠ Y.abs := by simpa using h
        congr 1
        symm
        simp only [decide_eq_false_iff_not]
        intro e
        have := congrArg (fun l => l[m]?) e
        simp only [List.getElem?_map, hx, hy, Option.map_some, Option.some.injEq] at this
        exact h this
      · have h : X.abs = Y.abs := by simpa using h
        rw [List.take_succ_eq_append_getElem (by simpa using hlt), List.take_succ_eq_append_getElem (by simp; omega), ht]
        simp only [List.getElem_map, hX, hY, h]
  · have hmm : m = xa.length := by simp only [decide_eq_false_iff_not] at h; omega
    refine Rt.ok ⟨?_, H⟩
    congr 1
    symm
    simp only [decide_eq_true_eq]
    rw [List.take_of_length_le (by simp; omega), List.take_of_length_le (by simp; omega)] at ht
    exact ht
end
end Go.Proofs.YtgnceldnfefnmaaGreat
