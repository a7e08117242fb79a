/-
  Contracts of the package table: what turns it.
-/
import Derived.Test.YtgnceldnfefnmaaGreatTable
namespace Go.Tab
open Go Go.Vc Go.Vc.Asn
def preOk (T : Tc) (k : ByteArray) (t : Tg) : Bool := !((lookE (T.sh k) t).has || ltT t (floorI T.delta (T.sh k)))
def preT (T : Tc) (k : ByteArray) (t : Tg) (bs : List UInt8) (g : Nat) (s : Slc) : Tc := { T with keys := lput T.keys k (g, lput (T.sh k) t ⟨t, (lookE (T.sh k) t).fin, true, s, bs⟩) }
def finOk (T : Tc) (k : ByteArray) (t : Tg) : Bool := !((lookE (T.sh k) t).fin || ltT t (floorI T.delta (T.sh k)))
def finS (l : Sc) (t : Tg) : Sc := lput l t { lookE l t with tag := t, fin := true }
def cutS (d : Int) (l : Sc) : Sc := l.filter fun x => !ltT x.1 (floorI d l)
def finT (T : Tc) (k : ByteArray) (t : Tg) (g : Nat) : Tc := { T with keys := lput T.keys k (g, cutS T.delta (finS (T.sh k) t)) }
end Go.Tab
namespace Go.Proofs.YtgnceldnfefnmaaGreat
open Go Go.Vc Go.Vc.Asn Go.Tab Go.Sort
def Rdy (w0 : World) (F : Asn) (d : Slc) (bs : List UInt8) : Prop := ∀ w' A, Hp w0 w' (star A F) → Byt w' d bs
theorem Rdy.old {w0 : World} {F : Asn} {d : Slc} {bs : List UInt8} (h : Byt w0 d bs) : Rdy w0 F d bs := fun _ _ H => h.fr0 H.fr
theorem Rdy.own {w0 : World} {F F' : Asn} {d : Slc} {bs : List UInt8} {e : Nat} [TakeS d F e 1 (bs.map u8v) F'] : Rdy w0 F d bs := fun _ _ H => H.cel (s := d) (size := 1)
theorem Rdy.at {w0 w : World} {F A A' : Asn} {d : Slc} {bs : List UInt8} (h : Rdy w0 F d bs) (H : Hp w0 w A) [Take F A A'] : Byt w d bs := h _ _ ((H.take F).ent comm)
theorem clone_c {w : World} {s : Slc} {bs : List UInt8} (hb : Byt w s bs) (hl : bs.length ≤ 1099511627776) : Calls PP F_slices_Clone #[s.v] w (Rt fun v w' => ∃ s' : Slc, v = s'.v ∧ Hp w w' (star (own Ty_uint8 1 s' (bs.map u8v)) emp)) := by
  refine sim_slices_Clone _ _ _ ?_
  unfold vc_slices_Clone
  have hlen := hb.len
  refine ⟨fun h => ?_, fun _ => ?_⟩
  · have : bs = [] := by
      cases bs with
      | nil => rfl
      | cons x r =>
        obtain ⟨p, hp, _⟩ := hb.get (i := 0) (by simp)
        rw [hp] at h
        simp at h
    subst this
    exact Rt.ok ⟨_, rfl, (Hp.start w).nilRow _ _⟩
  · refine (Hp.start w).newRow (e := Ty_uint8) (n := 0) (size := 1) [] rfl rfl (by decide) fun b8 w1 H => ?_
    refine H.app (s := ⟨some (blk b8), 0, 0⟩) slT_sl_uint8 (hb.fr0 H.fr) (one_u8 _) (by unfold maxLen; simp only; omega) (by simp only; omega) fun s' w2 H _ => Rt.ok ⟨s', rfl, ?_⟩
    simpa using H
theorem copied_c {w : World} {e : Ec} (hb : Byt w e.s e.data) (hl : e.data.length ≤ 1099511627776) : Calls PP F_table_copied #[e.v] w (Rt fun v w' => ∃ s' : Slc, v = Ec.v { e with s := s' } ∧ Hp w w' (star (own Ty_uint8 1 s' (e.data.map u8v)) emp)) := by
  refine sim_table_copied _ _ _ _ _ _ _ ?_
  unfold vc_table_copied
  refine (Hp.start w).new fun b7 w1 H => H.new fun b10 w2 H => call (clone_c (hb.fr0 H.fr) hl) ?_
  rintro _ w3 ⟨s', rfl, K⟩
  have H := H.join K
  refine ⟨_, rfl, H.sto (b := b7) (i := 4) (lt_ rfl) fun w4 H => ⟨_, H.cell (b := b7) (i := 0) rfl, _, H.cell (b := b7) (i := 1) rfl, _, H.cell (b := b7) (i := 2) rfl, _, H.cell (b := b7) (i := 3) rfl, _, H.cell (b := b7) (i := 4) rfl, H.stoAll (b := b10) (by rfl) fun w5 H =>
    ⟨_, H.cell (b := b10) (i := 0) rfl, _, H.cell (b := b10) (i := 1) rfl, _, H.cell (b := b10) (i := 2) rfl, _, H.cell (b := b10) (i := 3) rfl, _, H.cell (b := b10) (i := 4) rfl, Rt.ok ⟨s', rfl, ?_⟩⟩⟩⟩
  have H := ((H.blk b10).drop.blk b7).drop
  exact H
section
variable {p : Nat} {T : Tc} {w0 w : World} {F : Asn}
theorem data_del {l : Sc} (hn : (l.map (·.1)).Nodup) (t : Tg) : Ent (star (all dataA l) F) (star (all dataA (ldel l t)) (star (match llook l t with | some e => dataA (t, e) | none => emp) F)) := by
  cases h : llook l t with
  | none => rw [ldel_notin (llook_none h)]; exact Ent.star (Ent.refl _) emp_l
  | some e => exact (Ent.star (all_perm (ldel_perm hn (llook_mem h))) (Ent.refl _)).trans (Asn.assoc.trans left)
theorem close_put {g : Nat} {k : ByteArray} {l' : Sc} (hn : (T.keys.map (·.1)).Nodup) (H : Hp w0 w (star (mpS g l') (star (tabB p T) (star (mpK T.gk (lput T.keys k (g, T.sh k))) (star (all dataA l') (star (all shelfA (ldel T.keys k)) F)))))) :
    Hp w0 w (star (tabA p { T with keys := lput T.keys k (g, l') }) F) := by
  have e : Ent (mpK T.gk (lput T.keys k (g, T.sh k))) (mpK T.gk (lput T.keys k (g, l'))) := mp_map (fun x => if x.1 = k then (g, l') else x.2) lput_turn fun x hx => by
    by_cases hk : x.1 = k
    · rw [if_pos hk, lput_at hn hx hk]
    · rw [if_neg hk]
  have H := H.ent (Ent.star (Ent.refl _) (Ent.star (Ent.refl _) (Ent.star e (Ent.refl _))))
  refine H.ent ?_
  unfold tabA
  have h2 : Ent (star (shelfA (k, g, l')) (all shelfA (ldel T.keys k))) (all shelfA (lput T.keys k (g, l'))) := all_perm (lput_perm hn k (g, l')).symm
  refine Ent.trans ?_ (Asn.assoc'.trans (Ent.refl _))
  refine Ent.pick (P := tabB p T) ?_
  refine Ent.trans ?_ Asn.assoc'
  refine Ent.pick (P := mpK T.gk (lput T.keys k (g, l'))) ?_
  refine Ent.trans ?_ (Ent.star h2 (Ent.refl _))
  refine Ent.trans ?_ Asn.assoc'
  exact Asn.assoc'
theorem pre_c {k : ByteArray} {t : Tg} {d : Slc} {bs : List UInt8} (hd : 0 ≤ T.delta) (hl : (T.sh k).length ≤ 1099511627776) (hr : Rdy w0 F d bs) (hbl : bs.length ≤ 1099511627776) (H : Hp w0 w (star (tabA p T) F)) :
    Calls PP F_table_Table_pre #[.pointer (some (blk p)), .string k, t.v, d.v] w (Rt fun v w' => v = .bool (preOk T k t) ∧ (preOk T k t = false → Hp w0 w' (star (tabA p T) F)) ∧ (preOk T k t = true → ∃ g s', Hp w0 w' (star (tabA p (preT T k t bs g s')) F))) := by
  have hn := tab_keys H
  refine sim_table_Table_pre _ _ _ _ _ _ _ ?_
  unfold vc_table_Table_pre
  have H := openT k H
  refine H.new fun b7 w1 H => ⟨_, rfl, _, H.cell (b := p) (i := 1) rfl, lkpK H ⟨_, rfl, lkpS (H.take (mpO (T.mo k) (T.sh k))) ⟨_, _, _, _, _, rfl, H.new fun b25 w2 H => H.stoAll (b := b25) (by rfl) fun w3 H => ?_⟩⟩⟩
  refine ⟨fun b w' => b = ((lookE (T.sh k) t).has || ltT t (floorI T.delta (T.sh k))) ∧ Hp w0 w' (star (bk b25 Ty_api_Entry (lookE (T.sh k) t).c.toArray) (star (bk b7 Ty_api_Tag t.c.toArray) (star (mpO (T.mo k) (T.sh k)) (openR p T k F)))), ?_, ?_⟩
  · have H := H.drew 1
    refine ⟨_, H.cell (b := b25) (i := 3) rfl, fun h => ⟨by rw [h]; rfl, H⟩, fun h => ⟨_, H.cell (b := b7) (i := 0) rfl, _, H.cell (b := b7) (i := 1) rfl, _, H.cell (b := p) (i := 0) rfl, call (floor_c _ hd (H.take (mpO (T.mo k) (T.sh k))) hl) ?_⟩⟩
    rintro _ w4 ⟨rfl, H⟩
    refine ⟨_, _, rfl, H.cell (b := b7) (i := 0) rfl, H.cell (b := b7) (i := 1) rfl, call (compare_c t _ _) ?_⟩
    rintro _ w5 ⟨rfl, f⟩
    have H := H.fr0 f
    refine ⟨_, rfl, ?_, ?_⟩
    · rw [h, cmpT_lt]; rfl
    · exact ((H.take (mpO (T.mo k) (T.sh k))).blk b7).blk b25
  rintro b w4 ⟨rfl, H⟩
  refine ⟨fun h => ?_, fun h => ?_⟩
  · have hb : preOk T k t = false := by unfold preOk; rw [h]; rfl
    refine Rt.ok ⟨by rw [hb], fun _ => ?_, (fun h2 => by rw [hb] at h2; cases h2)⟩
    exact closeT k hn H.drop.drop
  have hb : preOk T k t = true := by unfold preOk; rw [h]; rfl
  refine ⟨fun mo w' => ∃ g, mo = some g ∧ Hp w0 w' (star (mpS g (T.sh k)) (star (bk b25 Ty_api_Entry (lookE (T.sh k) t).c.toArray) (star (bk b7 Ty_api_Tag t.c.toArray) (star (tabB p T) (star (mpK T.gk (lput T.keys k (g, T.sh k))) (star (all dataA (T.sh k)) (star (all shelfA (ldel T.keys k)) F))))))), ⟨fun hm => ?_, fun hm => ?_⟩, ?_⟩
  · have hlk : llook T.keys k = none := by
      unfold Tc.mo at hm
      cases hx : llook T.keys k with
      | none => rfl
      | some y => rw [hx] at hm; simp at hm
    have hs : T.sh k = [] := by unfold Tc.sh; rw [hlk]
    refine H.newM Tg.v Ec.v fun g w5 H => ⟨_, H.cell (b := p) (i := 1) rfl, Hp.mup (ev := fun y : Nat × Sc => Value.map (some y.1)) (l := T.keys) (k := k) (v := (g, [])) H keyT_string und_keys fun w6 H => ⟨g, rfl, ?_⟩⟩
    have H := H.take (mpS g [])
    rw [hs] at H ⊢
    have H := (H.take (mpO (T.mo k) [])).drop
    refine H.ent ?_
    exact Ent.pick (P := mpS g []) (Ent.pick (P := bk b25 Ty_api_Entry _) (Ent.pick (P := bk b7 Ty_api_Tag _) (Ent.pick (P := tabB p T) (Ent.pick (P := mpK T.gk (lput T.keys k (g, []))) (Ent.refl _)))))
  · obtain ⟨y, hy⟩ : ∃ y, llook T.keys k = some y := by
      unfold Tc.mo at hm
      cases hx : llook T.keys k with
      | none => rw [hx] at hm; simp at hm
      | some y => exact ⟨y, rfl⟩
    have e1 : T.mo k = some y.1 := by unfold Tc.mo; rw [hy]; rfl
    have e2 : T.sh k = y.2 := by unfold Tc.sh; rw [hy]
    refine ⟨y.1, e1, ?_⟩
    have H := H.take (mpO (T.mo k) (T.sh k))
    rw [e1] at H
    have e3 : lput T.keys k (y.1, T.sh k) = T.keys := by rw [e2]; exact lput_same hn hy
    rw [e3]
    exact H
  rintro _ w5 ⟨g, rfl, H⟩
  have H := H.drew 1
  refine ⟨_, H.cell (b := b7) (i := 0) rfl, _, H.cell (b := b7) (i := 1) rfl, _, H.cell (b := b7) (i := 0) rfl, _, H.cell (b := b7) (i := 1) rfl, _, H.cell (b := b25) (i := 2) rfl, call (clone_c (hr.at H) hbl) ?_⟩
  rintro _ w6 ⟨s', rfl, K⟩
  have hns : ((T.sh k).map (·.1)).Nodup := Hp.mpKeys H
  have H := H.join K
  refine ⟨_, rfl, H.cell (b := b7) (i := 0) rfl, H.cell (b := b7) (i := 1) rfl, H.cell (b := b7) (i := 0) rfl, H.cell (b := b7) (i := 1) rfl, H.cell (b := b25) (i := 2) rfl, ?_⟩
  refine Hp.mup (ev := Ec.v) (l := T.sh k) (k := t) (v := ⟨t, (lookE (T.sh k) t).fin, true, s', bs⟩) H keyT_tag und_shelf fun w7 H => Rt.ok ⟨by rw [hb], (fun h2 => by rw [hb] at h2; cases h2), fun _ => ⟨g, s', ?_⟩⟩
  have H := ((H.blk b7).drop.blk b25).drop
  unfold preT
  refine close_put hn ?_
  have H := H.take (all dataA (T.sh k))
  have H := (H.ent (data_del hns t)).swap.drop
  have h2 : Ent (star (dataA (t, ⟨t, (lookE (T.sh k) t).fin, true, s', bs⟩)) (all dataA (ldel (T.sh k) t))) (all dataA (lput (T.sh k) t ⟨t, (lookE (T.sh k) t).fin, true, s', bs⟩)) := all_perm (lput_perm hns t _).symm
  have H := H.own s'
  have H := (H.ent Asn.assoc').ent (Ent.star h2 (Ent.refl _))
  refine H.ent ?_
  exact Ent.pick (P := mpS g _) (Ent.pick (P := tabB p T) (Ent.pick (P := mpK T.gk _) (Ent.pick (P := all dataA _) (Ent.pick (P := all shelfA _) (Ent.refl _)))))
theorem fin_c {k : ByteArray} {t : Tg} (hd : 0 ≤ T.delta) (hl : (T.sh k).length < 1099511627776) (H : Hp w0 w (star (tabA p T) F)) :
    Calls PP F_table_Table_fin #[.pointer (some (blk p)), .string k, t.v] w (Rt fun v w' => v = .bool (finOk T k t) ∧ (finOk T k t = false → Hp w0 w' (star (tabA p T) F)) ∧ (finOk T k t = true → ∃ g, Hp w0 w' (star (tabA p (finT T k t g)) F))) := by
  have hn := tab_keys H
  refine sim_table_Table_fin _ _ _ _ _ _ ?_
  unfold vc_table_Table_fin
  have H := openT k H
  refine H.new fun b6 w1 H => ⟨_, rfl, _, H.cell (b := p) (i := 1) rfl, lkpK H ⟨_, rfl, lkpS (H.take (mpO (T.mo k) (T.sh k))) ⟨_, _, _, _, _, rfl, H.new fun b24 w2 H => H.stoAll (b := b24) (by rfl) fun w3 H => ?_⟩⟩⟩
  refine ⟨fun b w' => b = ((lookE (T.sh k) t).fin || ltT t (floorI T.delta (T.sh k))) ∧ Hp w0 w' (star (bk b24 Ty_api_Entry (lookE (T.sh k) t).c.toArray) (star (bk b6 Ty_api_Tag t.c.toArray) (star (mpO (T.mo k) (T.sh k)) (openR p T k F)))), ?_, ?_⟩
  · have H := H.drew 1
    refine ⟨_, H.cell (b := b24) (i := 2) rfl, fun h => ⟨by rw [h]; rfl, H⟩, fun h => ⟨_, H.cell (b := b6) (i := 0) rfl, _, H.cell (b := b6) (i := 1) rfl, _, H.cell (b := p) (i := 0) rfl, call (floor_c _ hd (H.take (mpO (T.mo k) (T.sh k))) (by omega)) ?_⟩⟩
    rintro _ w4 ⟨rfl, H⟩
    refine ⟨_, _, rfl, H.cell (b := b6) (i := 0) rfl, H.cell (b := b6) (i := 1) rfl, call (compare_c t _ _) ?_⟩
    rintro _ w5 ⟨rfl, f⟩
    have H := H.fr0 f
    refine ⟨_, rfl, ?_, ?_⟩
    · rw [h, cmpT_lt]; rfl
    · exact ((H.take (mpO (T.mo k) (T.sh k))).blk b6).blk b24
  rintro b w4 ⟨rfl, H⟩
  refine ⟨fun h => ?_, fun h => ?_⟩
  · have hb : finOk T k t = false := by unfold finOk; rw [h]; rfl
    refine Rt.ok ⟨by rw [hb], fun _ => ?_, (fun h2 => by rw [hb] at h2; cases h2)⟩
    exact closeT k hn H.drop.drop
  have hb : finOk T k t = true := by unfold finOk; rw [h]; rfl
  refine ⟨fun mo w' => ∃ g, mo = some g ∧ Hp w0 w' (star (mpS g (T.sh k)) (star (bk b24 Ty_api_Entry (lookE (T.sh k) t).c.toArray) (star (bk b6 Ty_api_Tag t.c.toArray) (star (tabB p T) (star (mpK T.gk (lput T.keys k (g, T.sh k))) (star (all dataA (T.sh k)) (star (all shelfA (ldel T.keys k)) F))))))), ⟨fun hm => ?_, fun hm => ?_⟩, ?_⟩
  · have hlk : llook T.keys k = none := by
      unfold Tc.mo at hm
      cases hx : llook T.keys k with
      | none => rfl
      | some y => rw [hx] at hm; simp at hm
    have hs : T.sh k = [] := by unfold Tc.sh; rw [hlk]
    refine H.newM Tg.v Ec.v fun g w5 H => ⟨_, H.cell (b := p) (i := 1) rfl, Hp.mup (ev := fun y : Nat × Sc => Value.map (some y.1)) (l := T.keys) (k := k) (v := (g, [])) H keyT_string und_keys fun w6 H => ⟨g, rfl, ?_⟩⟩
    have H := H.take (mpS g [])
    rw [hs] at H ⊢
    have H := (H.take (mpO (T.mo k) [])).drop
    refine H.ent ?_
    exact Ent.pick (P := mpS g []) (Ent.pick (P := bk b24 Ty_api_Entry _) (Ent.pick (P := bk b6 Ty_api_Tag _) (Ent.pick (P := tabB p T) (Ent.pick (P := mpK T.gk (lput T.keys k (g, []))) (Ent.refl _)))))
  · obtain ⟨y, hy⟩ : ∃ y, llook T.keys k = some y := by
      unfold Tc.mo at hm
      cases hx : llook T.keys k with
      | none => rw [hx] at hm; simp at hm
      | some y => exact ⟨y, rfl⟩
    have e1 : T.mo k = some y.1 := by unfold Tc.mo; rw [hy]; rfl
    have e2 : T.sh k = y.2 := by unfold Tc.sh; rw [hy]
    refine ⟨y.1, e1, ?_⟩
    have H := H.take (mpO (T.mo k) (T.sh k))
    rw [e1] at H
    have e3 : lput T.keys k (y.1, T.sh k) = T.keys := by rw [e2]; exact lput_same hn hy
    rw [e3]
    exact H
  rintro _ w5 ⟨g, rfl, H⟩
  have hns : ((T.sh k).map (·.1)).Nodup := Hp.mpKeys H
  refine ⟨_, H.cell (b := b6) (i := 0) rfl, _, H.cell (b := b6) (i := 1) rfl, StoN.two (H.sto2 (b := b24) (i := 0) (j := 0) (lt_ rfl) fun w6 H => H.sto2 (b := b24) (i := 0) (j := 1) (lt_ rfl) fun w7 H => ?_)⟩
  refine H.sto (b := b24) (i := 2) (lt_ rfl) fun w8 H => ?_
  refine ⟨_, H.cell (b := b6) (i := 0) rfl, _, H.cell (b := b6) (i := 1) rfl, _, H.cell (b := b24) (i := 0) rfl, _, H.cell (b := b24) (i := 1) rfl, _, H.cell (b := b24) (i := 2) rfl, _, H.cell (b := b24) (i := 3) rfl, _, H.cell (b := b24) (i := 4) rfl, ?_⟩
  refine Hp.mup (ev := Ec.v) (l := T.sh k) (k := t) (v := { lookE (T.sh k) t with tag := t, fin := true }) H keyT_tag und_shelf fun w9 H => ?_
  have H : Hp w0 w9 (star (mpS g (finS (T.sh k) t)) _) := H
  have H := ((H.blk b6).drop.blk b24).drop
  have h1 : Ent (all dataA (T.sh k)) (all dataA (finS (T.sh k) t)) := by
    refine Ent.trans ?_ (all_perm (lput_perm hns t _).symm)
    cases hx : llook (T.sh k) t with
    | none =>
      rw [ldel_notin (llook_none hx)]
      refine emp_l.trans (Ent.star ?_ (Ent.refl _))
      have : lookE (T.sh k) t = zeroE := by unfold lookE; rw [hx]; rfl
      unfold dataA
      rw [this]
      rintro w S h
      exact ⟨fun x => by have := h x; simp [zeroE, Slc.blks, this], Own.nil _ _ _⟩
    | some e =>
      have : lookE (T.sh k) t = e := by unfold lookE; rw [hx]; rfl
      rw [this]
      refine (all_perm (ldel_perm hns (llook_mem hx))).trans ?_
      exact Ent.refl _
  have H := H.take (all dataA (T.sh k))
  have H := H.ent (Ent.star h1 (Ent.refl _))
  have H := H.take (mpS g (finS (T.sh k) t))
  have hnf : ((finS (T.sh k) t).map (·.1)).Nodup := Hp.mpKeys H
  have hlf : (finS (T.sh k) t).length ≤ 1099511627776 := by
    have := (lput_perm hns t { lookE (T.sh k) t with tag := t, fin := true }).length_eq
    unfold finS
    rw [this]
    have : (ldel (T.sh k) t).length ≤ (T.sh k).length := List.length_filter_le _ _
    simp
    omega
  refine ⟨_, H.cell (b := p) (i := 0) rfl, call (floor_c (mo := some g) _ hd H hlf) ?_⟩
  rintro _ w10 ⟨rfl, H⟩
  have H : Hp w0 w10 (star (mpS g (finS (T.sh k) t)) _) := H
  generalize hL : finS (T.sh k) t = L at *
  refine ⟨_, _, rfl, H.new fun b71 w11 H => H.stoAll (b := b71) (by rfl) fun w12 H => ?_⟩
  have H := H.take (mpS g L)
  refine Hp.rng und_shelf H fun it w13 H => ?_
  refine ⟨fun w' => ∃ (l' rest : Sc) (cur : Option (Tg × Ec)), (∀ x ∈ rest, x ∈ l') ∧ l' = (L.filter fun x => !ltT x.1 (floorI T.delta L) || rest.any fun y => decide (y.1 = x.1)) ∧ Hp w0 w' (star (mr Tg.v Ec.v it g l' rest cur) (star (bk b71 Ty_api_Tag #[.int .i64 (floorI T.delta L).1, .int .i64 (floorI T.delta L).2]) (star (tabB p T) (star (mpK T.gk (lput T.keys k (g, T.sh k))) (star (all dataA l') (star (all shelfA (ldel T.keys k)) F)))))), fun w' => mleft it g w', ⟨L, L, none, fun x h => h, ?_, ?_⟩, ?_⟩
  · symm
    refine List.filter_eq_self.2 fun x hx => ?_
    have : (L.any fun y => decide (y.1 = x.1)) = true := List.any_eq_true.2 ⟨x, hx, by simp⟩
    rw [this]; simp
  · refine H.ent ?_
    exact Ent.pick (P := mr Tg.v Ec.v it g L L none) (Ent.pick (P := bk b71 Ty_api_Tag _) (Ent.pick (P := tabB p T) (Ent.pick (P := mpK T.gk _) (Ent.pick (P := all dataA _) (Ent.pick (P := all shelfA _) (Ent.refl _))))))
  rintro w14 ⟨l', rest, cur, hsub, hl', H⟩
  have hm := H.left
  have hk := H.mrKeys
  refine H.nxt (fun hr => ⟨(fun h => nomatch h), fun _ => ?_⟩) fun x hx w15 H => ⟨fun _ => ?_, fun h => nomatch h⟩
  · subst hr
    refine Rt.ok ⟨by rw [hb], (fun h2 => by rw [hb] at h2; cases h2), fun _ => ⟨g, ?_⟩⟩
    have e : l' = cutS T.delta L := by rw [hl']; unfold cutS; refine List.filter_congr fun x _ => ?_; simp
    unfold finT
    rw [hL]
    subst e
    have H := H.mrEnd
    have H := (H.blk b71).drop
    exact close_put hn H
  · have hm2 := H.left
    have hlt := ldel_lt hx
    refine H.etr ⟨_, _, _, _, _, _, _, rfl, H.new fun b100 w16 H => H.stoAll (b := b100) (by rfl) fun w17 H => ⟨_, H.cell (b := b100) (i := 0) rfl, _, H.cell (b := b100) (i := 1) rfl, _, H.cell (b := b71) (i := 0) rfl, _, H.cell (b := b71) (i := 1) rfl, call (compare_c x.1 (floorI T.delta L) _) ?_⟩⟩
    rintro _ w18 ⟨rfl, f⟩
    have H := H.fr0 f
    refine ⟨_, rfl, ?_⟩
    rw [cmpT_lt]
    have hrest : ∀ y, (rest.any fun z => decide (z.1 = y)) = (((ldel rest x.1).any fun z => decide (z.1 = y)) || decide (x.1 = y)) := fun y => by
      have hp := ldel_perm hk.2 hx
      rw [Bool.eq_iff_iff]
      simp only [List.any_eq_true, Bool.or_eq_true, decide_eq_true_eq]
      constructor
      · rintro ⟨z, hz, rfl⟩
        rcases List.mem_cons.1 (hp.mem_iff.1 hz) with rfl | h
        · exact .inr rfl
        · exact .inl ⟨z, h, rfl⟩
      · rintro (⟨z, hz, rfl⟩ | rfl)
        · exact ⟨z, hp.mem_iff.2 (List.mem_cons_of_mem _ hz), rfl⟩
        · exact ⟨x, hx, rfl⟩
    refine ⟨fun hc => ⟨_, H.cell (b := b100) (i := 0) rfl, _, H.cell (b := b100) (i := 1) rfl, ?_⟩, fun hc => ?_⟩
    · have H := H.take (mr Tg.v Ec.v it g l' (ldel rest x.1) (some x))
      refine H.dltR keyT_tag und_shelf (k := x.1) fun w19 H => ?_
      have hdd : ldel (ldel rest x.1) x.1 = ldel rest x.1 := ldel_notin (ldel_keys hk.2 x.1).2
      rw [hdd] at H
      have H := (H.blk b100).drop
      have hmx := H.take (mr Tg.v Ec.v it g (ldel l' x.1) (ldel rest x.1) none) |>.left
      refine ⟨⟨ldel l' x.1, ldel rest x.1, none, fun y hy => ?_, ?_, ?_⟩, by dsimp only; omega⟩
      · have hy2 := List.mem_filter.1 hy
        exact List.mem_filter.2 ⟨hsub y hy2.1, hy2.2⟩
      · rw [hl']
        unfold ldel
        rw [List.filter_filter]
        refine List.filter_congr fun y _ => ?_
        have := hrest y.1
        unfold ldel at this
        rw [this]
        by_cases hyx : y.1 = x.1
        · rw [hyx, hc]; simp
        · have : ¬ x.1 = y.1 := fun e => hyx e.symm
          simp [hyx, this]
      · have H := H.take (all dataA l')
        have H := (H.ent (data_del hk.1 x.1)).swap.drop
        refine H.ent ?_
        exact Ent.pick (P := mr Tg.v Ec.v it g _ _ none) (Ent.pick (P := bk b71 Ty_api_Tag _) (Ent.pick (P := tabB p T) (Ent.pick (P := mpK T.gk _) (Ent.pick (P := all dataA _) (Ent.pick (P := all shelfA _) (Ent.refl _))))))
    · have H := (H.blk b100).drop
      have hmx := H.left
      refine ⟨⟨l', ldel rest x.1, some x, fun y hy => hsub y (List.mem_filter.1 hy).1, ?_, H⟩, by dsimp only; omega⟩
      rw [hl']
      refine List.filter_congr fun y _ => ?_
      rw [hrest y.1]
      by_cases hyx : x.1 = y.1
      · rw [← hyx, hc]; simp
      · simp [hyx]
end
end Go.Proofs.YtgnceldnfefnmaaGreat
