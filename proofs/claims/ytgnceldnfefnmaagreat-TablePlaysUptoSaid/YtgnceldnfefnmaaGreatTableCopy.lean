/-
  Contract of the package table: a copy.
-/
import Derived.Test.YtgnceldnfefnmaaGreatTabLaw
import Derived.Test.YtgnceldnfefnmaaGreatLawTaken
namespace Go.Tab
open Go Go.Vc Go.Vc.Asn
def Same (l l' : Sc) : Prop := (l'.map (·.1)).Perm (l.map (·.1)) ∧ ∀ z ∈ l', ∃ y ∈ l, y.1 = z.1 ∧ y.2.abs = z.2.abs
theorem ShOk.same {n : Nat} {D : Tg → List UInt8} {FE HE : List Tg} {l l' : Sc} (h : ShOk n D FE HE l) (hs : Same l l') : ShOk n D FE HE l' := by
  refine ⟨hs.1.nodup_iff.2 h.keys, fun t => by rw [hs.1.mem_iff]; exact h.mem t, fun z hz => ?_⟩
  obtain ⟨y, hy, h1, h2⟩ := hs.2 z hz
  rw [← h2, h.val y hy, h1]
structure SameT (T T' : Tc) : Prop where
  delta : T'.delta = T.delta
  keys : (T'.keys.map (·.1)).Perm (T.keys.map (·.1))
  sh : ∀ z ∈ T'.keys, ∃ y ∈ T.keys, y.1 = z.1 ∧ Same y.2.2 z.2.2
theorem sh_of {T : Tc} (hn : (T.keys.map (·.1)).Nodup) {y : ByteArray × Nat × Sc} (hy : y ∈ T.keys) : T.sh y.1 = y.2.2 := by
  unfold Tc.sh
  rw [llook_of hn (show (y.1, y.2) ∈ T.keys from hy)]
theorem sh_nil {T : Tc} {k : ByteArray} (hk : k ∉ T.keys.map (·.1)) : T.sh k = [] := by
  unfold Tc.sh
  cases h : llook T.keys k with
  | none => rfl
  | some y => exact absurd (List.mem_map_of_mem (f := (·.1)) (llook_mem h)) hk
theorem TbOk.same {n : Nat} {D : ByteArray → Tg → List UInt8} {FE HE : ByteArray → List Tg} {T T' : Tc} (h : TbOk n D FE HE T) (hs : SameT T T') : TbOk n D FE HE T' := by
  have hk : (T'.keys.map (·.1)).Nodup := hs.keys.nodup_iff.2 h.keys
  refine ⟨hs.delta.trans h.delta, fun k => ?_, h.fe, fun z hz => ?_, hk⟩
  · by_cases hm : k ∈ T'.keys.map (·.1)
    · obtain ⟨z, hz, rfl⟩ := List.mem_map.1 hm
      obtain ⟨y, hy, h1, h2⟩ := hs.sh z hz
      have h3 := h.sh z.1
      rw [← h1, sh_of h.keys hy] at h3
      rw [sh_of hk hz]
      rw [← h1]
      exact h3.same h2
    · have h3 := h.sh k
      rw [sh_nil (fun h => hm (hs.keys.mem_iff.2 h))] at h3
      rw [sh_nil hm]
      exact h3
  · obtain ⟨y, hy, h1, h2⟩ := hs.sh z hz
    intro e
    have h3 := h.ne y hy
    have h4 := h2.1.length_eq
    rw [e] at h4
    simp at h4
    exact h3 (List.length_eq_zero_iff.1 h4.symm)
end Go.Tab
namespace Go.Proofs.YtgnceldnfefnmaaGreat
open Go Go.Vc Go.Vc.Asn Go.Tab Go.Sort
section
variable {p : Nat} {T : Tc} {w0 w : World} {F : Asn}
theorem copy0_c : Calls PP F_table_Table_Copy #[.pointer none] w (Rt fun v w' => v = .pointer none ∧ w' = w) := by
  refine sim_table_Table_Copy _ _ _ ?_
  unfold vc_table_Table_Copy
  exact ⟨fun _ => Rt.ok ⟨rfl, rfl⟩, fun h => by simp at h⟩
abbrev mrK (it g : Nat) (l rest : List (ByteArray × Nat × Sc)) (cur : Option (ByteArray × Nat × Sc)) : Asn := mr (fun s : ByteArray => Value.string s) (fun y : Nat × Sc => Value.map (some y.1)) it g l rest cur
abbrev mrS (it g : Nat) (l rest : Sc) (cur : Option (Tg × Ec)) : Asn := mr Tg.v Ec.v it g l rest cur
abbrev cpA (p : Nat) (T : Tc) (it g11 b14 : Nat) (K' rest : List (ByteArray × Nat × Sc)) (k : ByteArray) (g : Nat) (sc : Sc) (it2 g42 : Nat) (lm l' rest2 : Sc) (cur2 : Option (Tg × Ec)) (F : Asn) : Asn := star (mrS it2 g sc rest2 cur2) (star (bk b14 Ty_table_Table #[.int .i64 T.delta, .map (some g11)]) (star (mpK g11 (K' ++ [(k, g42, [])])) (star (mpS g42 lm) (star (all dataA l') (star (all dataA sc) (star (all shelfA K') (star (all shelfA (ldel T.keys k)) (star (mrK it T.gk T.keys (ldel rest k) (some (k, g, sc))) (star (tabB p T) F)))))))))
abbrev cpB (p : Nat) (T : Tc) (it g11 b14 : Nat) (K' rest : List (ByteArray × Nat × Sc)) (k : ByteArray) (g : Nat) (sc : Sc) (it2 g42 : Nat) (l' rest2 : Sc) (cur2 : Option (Tg × Ec)) (F : Asn) : Asn := star (mrS it2 g sc rest2 cur2) (star (bk b14 Ty_table_Table #[.int .i64 T.delta, .map (some g11)]) (star (mpK g11 (K' ++ [(k, g42, [])])) (star (all dataA l') (star (all dataA sc) (star (all shelfA K') (star (all shelfA (ldel T.keys k)) (star (mrK it T.gk T.keys (ldel rest k) (some (k, g, sc))) (star (tabB p T) F))))))))
set_option maxHeartbeats 2000000 in
theorem copy_c (hdl : ∀ y ∈ T.keys, ∀ x ∈ y.2.2, x.2.data.length ≤ 1099511627776) (htg : ∀ y ∈ T.keys, TagOk y.2.2) (H : Hp w0 w (star (tabA p T) F)) :
    Calls PP F_table_Table_Copy #[.pointer (some (blk p))] w (Rt fun v w' => ∃ q T', v = .pointer (some (blk q)) ∧ SameT T T' ∧ Hp w0 w' (star (tabA q T') (star (tabA p T) F))) := by
  have hnT := tab_keys H
  refine sim_table_Table_Copy _ _ _ ?_
  unfold vc_table_Table_Copy
  have H : Hp w0 w (star (tabB p T) (star (mpK T.gk T.keys) (star (all shelfA T.keys) F))) := H.assoc.ent (Ent.star (Ent.refl _) Asn.assoc)
  refine ⟨fun h => by simp at h, fun _ => ⟨_, rfl, _, H.cell (b := p) (i := 0) rfl, H.newM (fun s : ByteArray => Value.string s) (fun y : Nat × Sc => Value.map (some y.1)) fun g11 w1 H => H.new fun b14 w2 H => ⟨_, H.cell (b := p) (i := 1) rfl, ?_⟩⟩⟩
  have H := H.take (mpK T.gk T.keys)
  refine Hp.rng und_keys H fun it w3 H => ?_
  refine ⟨fun w' => ∃ (rest : List (ByteArray × Nat × Sc)) (K' : List (ByteArray × Nat × Sc)) (cur : Option (ByteArray × Nat × Sc)), (K'.map (·.1) ++ rest.map (·.1)).Perm (T.keys.map (·.1)) ∧ (∀ z ∈ K', ∃ y ∈ T.keys, y.1 = z.1 ∧ Same y.2.2 z.2.2) ∧ (∀ x ∈ rest, x ∈ T.keys) ∧ Hp w0 w' (star (mrK it T.gk T.keys rest cur) (star (bk b14 Ty_table_Table #[.int .i64 T.delta, .map (some g11)]) (star (mpK g11 K') (star (all shelfA K') (star (all shelfA T.keys) (star (tabB p T) F)))))), fun w => mleft it T.gk w, ⟨T.keys, [], none, by simp, (fun z hz => nomatch hz), fun x h => h, ?_⟩, ?_⟩
  · refine H.ent ?_
    refine Ent.pick (P := mrK it T.gk T.keys T.keys none) (Ent.pick (P := bk b14 _ _) (Ent.pick (P := mpK g11 []) ?_))
    exact Ent.trans (Ent.pick (P := all shelfA T.keys) (Ent.pick (P := tabB p T) (Ent.refl _))) (emp_l)
  rintro w4 ⟨rest, K', cur, hp, hsm, hsub, H⟩
  have hm0 := H.left
  have hkr := H.mrKeys.2
  have hnK : (K'.map (·.1) ++ rest.map (·.1)).Nodup := hp.nodup_iff.2 hnT
  refine H.nxt (fun hr => ⟨(fun h => nomatch h), fun _ => ?_⟩) fun x hx w5 H => ⟨fun _ => ?_, fun h => nomatch h⟩
  · subst hr
    refine Rt.ok ⟨b14, ⟨T.delta, g11, K'⟩, rfl, ⟨rfl, by simpa using hp, hsm⟩, ?_⟩
    have H := H.mrEnd
    refine H.ent ?_
    unfold tabA
    refine Ent.trans ?_ Asn.assoc'
    refine Ent.pick (P := bk b14 _ _) ?_
    refine Ent.trans ?_ Asn.assoc'
    refine Ent.pick (P := mpK g11 K') (Ent.pick (P := all shelfA K') ?_)
    refine Ent.trans ?_ Asn.assoc'
    refine Ent.pick (P := tabB p T) ?_
    refine Ent.trans ?_ Asn.assoc'
    exact Ent.pick (P := mpK T.gk T.keys) (Ent.pick (P := all shelfA T.keys) (Ent.refl _))
  obtain ⟨k, g, sc⟩ := x
  have hlt := ldel_lt hx
  have hp2 := (ldel_perm hkr hx).map (·.1)
  have hxT := hsub _ hx
  have hkK : k ∉ K'.map (·.1) := fun h => (List.nodup_append.1 hnK).2.2 k h k (List.mem_map_of_mem (f := (·.1)) hx) rfl
  have hm1 := H.left
  have hdsc := hdl _ hxT
  have htsc := htg _ hxT
  simp only at hdsc htsc
  refine H.etr ⟨_, _, rfl, _, H.cell (b := b14) (i := 1) rfl, H.newM Tg.v Ec.v fun g42 w6 H => ?_⟩
  refine Hp.mup (g := g11) (ev := fun y : Nat × Sc => Value.map (some y.1)) (v := (g42, ([] : Sc))) H keyT_string und_keys fun w7 H => ?_
  have eput : lput K' k (g42, ([] : Sc)) = K' ++ [(k, g42, [])] := by unfold lput; rw [if_neg hkK]
  rw [eput] at H
  have H := H.take (all shelfA T.keys)
  have H := H.ent (Ent.star (all_perm (ldel_perm hnT hxT)) (Ent.refl _))
  have H : Hp w0 w7 (star (star (star (mpS g sc) (all dataA sc)) (all shelfA (ldel T.keys k))) _) := H
  have H := H.assoc.assoc
  refine Hp.rng (g := g) und_shelf H fun it2 w8 H => ?_
  refine ⟨fun w' => ∃ (rest2 l' : Sc) (cur2 : Option (Tg × Ec)), (l'.map (·.1) ++ rest2.map (·.1)).Perm (sc.map (·.1)) ∧ (∀ z ∈ l', ∃ y ∈ sc, y.1 = z.1 ∧ y.2.abs = z.2.abs) ∧ (∀ x ∈ rest2, x ∈ sc) ∧ Hp w0 w' (star (mrS it2 g sc rest2 cur2) (star (bk b14 Ty_table_Table #[.int .i64 T.delta, .map (some g11)]) (star (mpK g11 (K' ++ [(k, g42, [])])) (star (mpS g42 l') (star (all dataA l') (star (all dataA sc) (star (all shelfA K') (star (all shelfA (ldel T.keys k)) (star (mrK it T.gk T.keys (ldel rest k) (some (k, g, sc))) (star (tabB p T) F)))))))))), fun w => mleft it2 g w, ⟨sc, [], none, by simp, (fun z hz => nomatch hz), fun x h => h, ?_⟩, ?_⟩
  · refine H.ent ?_
    refine Ent.pick (P := mrS it2 g sc sc none) (Ent.pick (P := bk b14 _ _) (Ent.pick (P := mpK g11 _) (Ent.pick (P := mpS g42 []) ?_)))
    exact Ent.trans (Ent.pick (P := all dataA sc) (Ent.pick (P := all shelfA K') (Ent.pick (P := all shelfA (ldel T.keys k)) (Ent.pick (P := mrK it T.gk T.keys (ldel rest k) (some (k, g, sc))) (Ent.pick (P := tabB p T) (Ent.refl _)))))) emp_l
  rintro w9 ⟨rest2, l', cur2, hp3, hab, hsub2, H⟩
  have hm2 := H.left
  have hns := H.mrKeys.1
  have hkr2 := H.mrKeys.2
  have hnL : (l'.map (·.1) ++ rest2.map (·.1)).Nodup := hp3.nodup_iff.2 hns
  refine H.nxt (fun hr => ⟨(fun h => nomatch h), fun _ => ?_⟩) fun x hx w10 H => ⟨fun _ => ?_, fun h => nomatch h⟩
  · subst hr
    have hmr := (H.take (mrK it T.gk T.keys (ldel rest k) (some (k, g, sc)))).left
    have H := H.mrEnd
    refine ⟨⟨ldel rest k, K' ++ [(k, g42, l')], some (k, g, sc), ?_, ?_, fun y hy => hsub y (List.mem_filter.1 hy).1, ?_⟩, by dsimp only; rw [hmr, hm0]; exact hlt⟩
    · refine List.Perm.trans ?_ hp
      rw [List.map_append, List.append_assoc]
      exact List.Perm.append_left _ hp2.symm
    · intro z hz
      rcases List.mem_append.1 hz with hz | hz
      · exact hsm z hz
      · simp at hz
        subst hz
        exact ⟨_, hxT, rfl, by simpa using hp3, hab⟩
    · have hmk : Ent (mpK g11 (K' ++ [(k, g42, [])])) (mpK g11 (K' ++ [(k, g42, l')])) := mp_map (fun x => if x.1 = k then (g42, l') else x.2) (by
        rw [List.map_append]
        congr 1
        · conv => lhs; rw [← List.map_id K']
          refine List.map_congr_left fun y hy => ?_
          have : y.1 ≠ k := fun e => hkK (e ▸ List.mem_map_of_mem hy)
          simp [this]
        · simp) fun y hy => by
          rcases List.mem_append.1 hy with hy | hy
          · have : y.1 ≠ k := fun e => hkK (e ▸ List.mem_map_of_mem hy)
            simp [this]
          · simp at hy; subst hy; simp
      refine H.ent ?_
      refine Ent.pick (P := mrK it T.gk T.keys (ldel rest k) (some (k, g, sc))) (Ent.pick (P := bk b14 _ _) (Ent.trans (Ent.pick (P := mpK g11 (K' ++ [(k, g42, [])])) ?_) (Ent.star hmk (Ent.refl _))))
      refine Ent.trans ?_ (Ent.star (all_snoc shelfA (k, g42, l') K') (Ent.star (all_perm (ldel_perm hnT hxT).symm) (Ent.refl _)))
      show Ent _ (star (star (star (mpS g42 l') (all dataA l')) (all shelfA K')) (star (star (star (mpS g sc) (all dataA sc)) (all shelfA (ldel T.keys k))) (star (tabB p T) F)))
      refine Ent.trans ?_ Asn.assoc'
      refine Ent.trans ?_ Asn.assoc'
      refine Ent.pick (P := mpS g42 l') (Ent.pick (P := all dataA l') (Ent.pick (P := all shelfA K') ?_))
      refine Ent.trans ?_ Asn.assoc'
      refine Ent.trans ?_ Asn.assoc'
      exact Ent.pick (P := mpS g sc) (Ent.pick (P := all dataA sc) (Ent.pick (P := all shelfA (ldel T.keys k)) (Ent.pick (P := tabB p T) (Ent.refl _))))
  have hlt2 := ldel_lt hx
  have hp4 := (ldel_perm hkr2 hx).map (·.1)
  have hxs := hsub2 x hx
  have hxl : x.1 ∉ l'.map (·.1) := fun h => (List.nodup_append.1 hnL).2.2 x.1 h x.1 (List.mem_map_of_mem (f := (·.1)) hx) rfl
  have hlk : llook (K' ++ [(k, g42, ([] : Sc))]) k = some (g42, []) := by rw [← eput, llook_put, if_pos rfl]
  refine H.etr ⟨_, _, _, _, _, _, _, rfl, H.new fun b71 w11 H => H.new fun b74 w12 H => H.stoAll (b := b71) (by rfl) fun w13 H => H.stoAll (b := b74) (by rfl) fun w14 H => ?_⟩
  refine ⟨some g11, x.1.1, x.1.2, x.2.tag.1, x.2.tag.2, x.2.fin, x.2.has, x.2.s, fun a b c w' => (∀ m, a = some m → m = some g42) ∧ match b, c with
    | none, none => Hp w0 w' (star (bk b74 Ty_api_Entry x.2.c.toArray) (star (bk b71 Ty_api_Tag #[.int .i64 x.1.1, .int .i64 x.1.2]) (cpA p T it g11 b14 K' rest k g sc it2 g42 l' l' (ldel rest2 x.1) (some x) F)))
    | none, some _ => False
    | some q, none => ∃ s', q = (x.2.tag.1, x.2.tag.2, x.2.fin, x.2.has, s') ∧ Hp w0 w' (star (own Ty_uint8 1 s' (x.2.data.map u8v)) (star (bk b74 Ty_api_Entry x.2.c.toArray) (star (bk b71 Ty_api_Tag #[.int .i64 x.1.1, .int .i64 x.1.2]) (cpA p T it g11 b14 K' rest k g sc it2 g42 l' l' (ldel rest2 x.1) (some x) F))))
    | some q, some _ => ∃ s', q = (x.2.tag.1, x.2.tag.2, x.2.fin, x.2.has, s') ∧ Hp w0 w' (star (mpS g42 (l' ++ [(x.1, { x.2 with s := s' })])) (star (own Ty_uint8 1 s' (x.2.data.map u8v)) (star (bk b74 Ty_api_Entry x.2.c.toArray) (star (bk b71 Ty_api_Tag #[.int .i64 x.1.1, .int .i64 x.1.2]) (cpB p T it g11 b14 K' rest k g sc it2 g42 l' (ldel rest2 x.1) (some x) F)))))
    , ?_, ?_, ?_, ?_, ?_, ?_, ?_, ?_⟩
  · exact ⟨(fun m h => nomatch h), ((H.blk b71).blk b74).drew 1⟩
  · rintro o w15 ⟨_, h⟩
    cases o with
    | none => exact Hp.cell (b := b14) (i := 1) h rfl
    | some q => obtain ⟨s', _, H⟩ := h; exact H.cell (b := b14) (i := 1) rfl
  · rintro o1 o w15 ⟨_, h⟩
    cases o with
    | none => exact ⟨Hp.cell (b := b71) (i := 0) h rfl, Hp.cell (b := b71) (i := 1) h rfl⟩
    | some q => obtain ⟨s', _, H⟩ := h; exact ⟨H.cell (b := b71) (i := 0) rfl, H.cell (b := b71) (i := 1) rfl⟩
  · rintro o1 w15 ⟨_, H⟩
    have H : Hp w0 w15 (star (bk b74 Ty_api_Entry x.2.c.toArray) (star (bk b71 Ty_api_Tag #[.int .i64 x.1.1, .int .i64 x.1.2]) (cpA p T it g11 b14 K' rest k g sc it2 g42 l' l' (ldel rest2 x.1) (some x) F))) := H
    exact ⟨H.cell (b := b74) (i := 0) rfl, H.cell (b := b74) (i := 1) rfl, H.cell (b := b74) (i := 2) rfl, H.cell (b := b74) (i := 3) rfl, H.cell (b := b74) (i := 4) rfl⟩
  · rintro o w15 ⟨h1, h⟩
    cases o with
    | none =>
      have H : Hp w0 w15 (star (bk b74 Ty_api_Entry x.2.c.toArray) (star (bk b71 Ty_api_Tag #[.int .i64 x.1.1, .int .i64 x.1.2]) (cpA p T it g11 b14 K' rest k g sc it2 g42 l' l' (ldel rest2 x.1) (some x) F))) := h
      refine Hp.lkp (g := g11) (ev := fun y : Nat × Sc => Value.map (some y.1)) H keyT_string und_keys (zero_shelf _) ?_
      simp only [Bool.false_eq_true, if_false]
      rw [hlk]
      exact ⟨some g42, rfl, fun m h => by injection h with h; exact h.symm, H⟩
    | some q =>
      obtain ⟨s', hq, H⟩ := h
      refine Hp.lkp (g := g11) (ev := fun y : Nat × Sc => Value.map (some y.1)) H keyT_string und_keys (zero_shelf _) ?_
      simp only [Bool.false_eq_true, if_false]
      rw [hlk]
      exact ⟨some g42, rfl, fun m h => by injection h with h; exact h.symm, s', hq, H⟩
  · rintro o1 w15 ⟨h1, H⟩
    have H : Hp w0 w15 (star (bk b74 Ty_api_Entry x.2.c.toArray) (star (bk b71 Ty_api_Tag #[.int .i64 x.1.1, .int .i64 x.1.2]) (cpA p T it g11 b14 K' rest k g sc it2 g42 l' l' (ldel rest2 x.1) (some x) F))) := H
    refine call (copied_c (e := x.2) (data_at hns hxs (H.take (all dataA sc))) (hdsc x hxs)) ?_
    rintro _ w16 ⟨s', rfl, K⟩
    exact ⟨_, _, _, _, _, rfl, h1, s', rfl, H.join K⟩
  · rintro m C1 C2 F1 H1 D1 w15 ⟨h1, s', hq, H⟩
    simp only [Prod.mk.injEq] at hq
    obtain ⟨e1, e2, e3, e4, e5⟩ := hq
    rw [e1, e2, e3, e4, e5]
    clear e1 e2 e3 e4 e5
    have hm : m = some g42 := h1 m rfl
    subst hm
    refine Hp.mup (g := g42) (ev := Ec.v) (k := x.1) (v := { x.2 with s := s' }) H keyT_tag und_shelf fun w16 H => ⟨h1, s', rfl, ?_⟩
    have e1 : lput l' x.1 { x.2 with s := s' } = l' ++ [(x.1, { x.2 with s := s' })] := by unfold lput; rw [if_neg hxl]
    rw [e1] at H
    exact H
  · rintro m _ _ _ _ _ w15 ⟨_, s', _, H⟩
    have H := ((H.blk b74).drop.blk b71).drop
    have H : Hp w0 w15 (cpA p T it g11 b14 K' rest k g sc it2 g42 (l' ++ [(x.1, { x.2 with s := s' })]) (l' ++ [(x.1, { x.2 with s := s' })]) (ldel rest2 x.1) (some x) F) := by
      refine H.ent ?_
      refine Ent.pick (P := mrS it2 g sc (ldel rest2 x.1) (some x)) (Ent.pick (P := bk b14 _ _) (Ent.pick (P := mpK g11 _) (Ent.pick (P := mpS g42 _) ?_)))
      refine Ent.trans ?_ (Ent.star (all_snoc dataA (x.1, { x.2 with s := s' }) l') (Ent.refl _))
      refine Ent.trans ?_ Asn.assoc'
      exact (Ent.pick (P := own Ty_uint8 1 s' (x.2.data.map u8v)) (Ent.pick (P := all dataA l') (Ent.refl _)))
    have hm3 := H.left
    refine ⟨⟨ldel rest2 x.1, l' ++ [(x.1, { x.2 with s := s' })], some x, ?_, ?_, fun y hy => hsub2 y (List.mem_filter.1 hy).1, H⟩, by dsimp only; omega⟩
    · refine List.Perm.trans ?_ hp3
      rw [List.map_append, List.append_assoc]
      exact List.Perm.append_left _ hp4.symm
    · intro z hz
      rcases List.mem_append.1 hz with hz | hz
      · exact hab z hz
      · simp at hz
        subst hz
        exact ⟨x, hxs, rfl, rfl⟩
end
end Go.Proofs.YtgnceldnfefnmaaGreat
