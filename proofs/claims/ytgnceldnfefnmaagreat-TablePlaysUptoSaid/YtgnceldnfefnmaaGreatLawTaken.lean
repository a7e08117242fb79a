/-
  Contract of the statements' common test: a fragment, two finalized tags, Delta 0.
-/
import Derived.Test.YtgnceldnfefnmaaGreatLawSame
namespace Go.Tab
open Go Go.Vc Go.Vc.Asn
structure TbOk (n : Nat) (D : ByteArray → Tg → List UInt8) (FE HE : ByteArray → List Tg) (T : Tc) : Prop where
  delta : T.delta = n
  sh : ∀ k, ShOk n (D k) (FE k) (HE k) (T.sh k)
  fe : ∀ k, (FE k).Nodup ∧ Pos (FE k)
  ne : ∀ y ∈ T.keys, y.2.2 ≠ []
  keys : (T.keys.map (·.1)).Nodup
def upd (f : ByteArray → List Tg) (k : ByteArray) (t : Tg) (b : Bool) (k' : ByteArray) : List Tg := if b = true ∧ k' = k then ins t (f k') else f k'
namespace TbOk
variable {n : Nat} {D : ByteArray → Tg → List UInt8} {FE HE : ByteArray → List Tg} {T : Tc}
theorem new (n : Nat) (D : ByteArray → Tg → List UInt8) (g : Nat) : TbOk n D (fun _ => []) (fun _ => []) ⟨n, g, []⟩ :=
  ⟨rfl, fun _ => ShOk.nil, fun _ => ⟨List.nodup_nil, fun t h => nomatch h⟩, (fun y h => nomatch h), List.nodup_nil⟩
theorem floor (h : TbOk n D FE HE T) (k : ByteArray) : floorI T.delta (T.sh k) = fl n (FE k) := by rw [h.delta]; exact (h.sh k).floor (h.fe k).1
theorem topE (h : TbOk n D FE HE T) (k : ByteArray) : top (fins (T.sh k)) = top (FE k) := (h.sh k).top_eq (h.fe k).1 (h.fe k).2
theorem put_ne {g : Nat} {k : ByteArray} {l : Sc} (hne : ∀ y ∈ T.keys, y.2.2 ≠ []) (hk : (T.keys.map (·.1)).Nodup) (hl : l ≠ []) : ∀ y ∈ lput T.keys k (g, l), y.2.2 ≠ [] := fun y hy => by
  rcases List.mem_cons.1 ((lput_perm hk k (g, l)).mem_iff.1 hy) with rfl | h
  · exact hl
  · exact hne y (List.mem_filter.1 h).1
theorem lput_ne {l : Sc} {t : Tg} {e : Ec} : lput l t e ≠ [] := by
  unfold lput
  split
  · rename_i h
    intro h2
    have : l = [] := by simpa using h2
    rw [this] at h
    simp at h
  · simp
theorem pre {k : ByteArray} {t : Tg} {T' : Tc} {b : Bool} (h : TbOk n D FE HE T) (hr : preR T k t (D k t) T' b) : TbOk n D FE (upd HE k t true) T' ∧ b = (!(lookE (T.sh k) t).has && !ltT t (fl n (FE k))) := by
  obtain ⟨hb, h1, h2⟩ := hr
  have hb2 : b = (!(lookE (T.sh k) t).has && !ltT t (fl n (FE k))) := by
    rw [hb]; unfold preOk; rw [h.floor k]; simp
  refine ⟨?_, hb2⟩
  cases b with
  | false =>
    rw [h1 rfl]
    have hc : (lookE (T.sh k) t).has = true ∨ ltT t (fl n (FE k)) = true := by
      cases hx : (lookE (T.sh k) t).has with
      | true => exact .inl rfl
      | false => rw [hx] at hb2; simp at hb2; exact .inr hb2
    refine ⟨h.delta, fun k' => ?_, h.fe, h.ne, h.keys⟩
    unfold upd
    by_cases hk : k' = k
    · subst hk
      rw [if_pos ⟨rfl, rfl⟩]
      exact (h.sh k').pre_not hc
    · rw [if_neg (fun h => hk h.2)]
      exact h.sh k'
  | true =>
    obtain ⟨g, s, rfl⟩ := h2 rfl
    have hlt : ltT t (fl n (FE k)) = false := by
      cases hx : ltT t (fl n (FE k)) with
      | false => rfl
      | true => rw [hx] at hb2; simp at hb2
    refine ⟨h.delta, fun k' => ?_, h.fe, put_ne h.ne h.keys lput_ne, lput_keys _ h.keys _ _⟩
    unfold preT upd
    rw [Tc.sh_put]
    by_cases hk : k' = k
    · subst hk
      rw [if_pos rfl, if_pos ⟨rfl, rfl⟩]
      exact (h.sh k').pre hlt s
    · rw [if_neg hk, if_neg (fun h => hk h.2)]
      exact h.sh k'
theorem fin {k : ByteArray} {t : Tg} {T' : Tc} {b : Bool} (h : TbOk n D FE HE T) (h0 : ltT (0, 0) t = true) (hr : finR T k t T' b) : TbOk n D (upd FE k t true) HE T' ∧ b = (!(lookE (T.sh k) t).fin && !ltT t (fl n (FE k))) := by
  obtain ⟨hb, h1, h2⟩ := hr
  have hb2 : b = (!(lookE (T.sh k) t).fin && !ltT t (fl n (FE k))) := by
    rw [hb]; unfold finOk; rw [h.floor k]; simp
  have hfe : ∀ k', (upd FE k t true k').Nodup ∧ Pos (upd FE k t true k') := fun k' => by
    unfold upd
    split
    · exact ⟨ins_nodup (h.fe k').1, ins_pos (h.fe k').2 h0⟩
    · exact h.fe k'
  refine ⟨?_, hb2⟩
  cases b with
  | false =>
    rw [h1 rfl]
    have hc : (lookE (T.sh k) t).fin = true ∨ ltT t (fl n (FE k)) = true := by
      cases hx : (lookE (T.sh k) t).fin with
      | true => exact .inl rfl
      | false => rw [hx] at hb2; simp at hb2; exact .inr hb2
    refine ⟨h.delta, fun k' => ?_, hfe, h.ne, h.keys⟩
    unfold upd
    by_cases hk : k' = k
    · subst hk
      rw [if_pos ⟨rfl, rfl⟩]
      exact (h.sh k').fin_not (h.fe k').1 h0 hc
    · rw [if_neg (fun h => hk h.2)]
      exact h.sh k'
  | true =>
    obtain ⟨g, rfl⟩ := h2 rfl
    have hlt : ltT t (fl n (FE k)) = false := by
      cases hx : ltT t (fl n (FE k)) with
      | false => rfl
      | true => rw [hx] at hb2; simp at hb2
    have hnf : t ∉ FE k := fun hf => by
      have := ((h.sh k).look_abs hlt).1
      rw [this] at hb2
      simp [hf] at hb2
    have hsh := (h.sh k).fin (h.fe k).1 (h.fe k).2 h0 hlt hnf
    have hne : cutS T.delta (finS (T.sh k) t) ≠ [] := fun e => by
      have : t ∈ (cutS n (finS (T.sh k) t)).map (·.1) := (hsh.mem t).2 ⟨ltT_ntrans (by
        unfold ins; rw [if_neg hnf]
        rcases fl_spec (n := n) (List.nodup_cons.2 ⟨hnf, (h.fe k).1⟩) with ⟨_, e0⟩ | ⟨hm, hc⟩
        · rw [e0]; exact ltT_asymm h0
        · cases hx : ltT t (fl n (t :: FE k)) with
          | false => rfl
          | true =>
            exfalso
            have hmf : fl n (t :: FE k) ∈ FE k := (List.mem_cons.1 hm).resolve_left fun e => by rw [e, ltT_irrefl] at hx; cases hx
            rw [List.countP_cons, ltT_asymm hx] at hc
            have := fl_eq (n := n) (h.fe k).1 hmf (by simpa using hc)
            rw [this, hx] at hlt
            cases hlt) (ltT_irrefl _), .inl (mem_ins.2 (.inl rfl))⟩
      rw [h.delta] at e
      rw [e] at this
      simp at this
    refine ⟨h.delta, fun k' => ?_, hfe, put_ne h.ne h.keys hne, lput_keys _ h.keys _ _⟩
    unfold finT upd
    rw [Tc.sh_put]
    by_cases hk : k' = k
    · subst hk
      rw [if_pos rfl, if_pos ⟨rfl, rfl⟩, h.delta]
      exact hsh
    · rw [if_neg hk, if_neg (fun h => hk h.2)]
      exact h.sh k'
theorem ap {u : Upt} {T' : Tc} {b : Bool} {e : Int} (h : TbOk n D FE HE T) (hm : mayB u = true) (h0 : ltT (0, 0) u.tag = true) (hd : comesB u = true → u.data = D u.key u.tag) (hr : apR T u T' b e) :
    e = 0 ∧ TbOk n D (upd FE u.key u.tag (endsB u)) (upd HE u.key u.tag (comesB u)) T' ∧ b = (!ltT u.tag (fl n (FE u.key)) && ((comesB u && !decide (u.tag ∈ HE u.key)) || (endsB u && !decide (u.tag ∈ FE u.key)))) := by
  have hupd : ∀ (f : ByteArray → List Tg), upd f u.key u.tag false = f := fun f => by funext k'; unfold upd; simp
  rcases hr with ⟨h1, _⟩ | ⟨_, he, T1, b1, b2, h1, h2, hb⟩
  · rw [hm] at h1; cases h1
  have H1 : TbOk n D FE (upd HE u.key u.tag (comesB u)) T1 ∧ b1 = (comesB u && (!ltT u.tag (fl n (FE u.key)) && !decide (u.tag ∈ HE u.key))) := by
    cases hc : comesB u with
    | true =>
      rw [hc, hd hc] at h1
      obtain ⟨h3, h4⟩ := h.pre h1
      refine ⟨h3, ?_⟩
      rw [h4]
      cases hl : ltT u.tag (fl n (FE u.key)) with
      | true => simp
      | false => rw [((h.sh u.key).look_abs hl).2.1]; simp
    | false =>
      rw [hc] at h1
      simp only [Bool.false_eq_true, if_false] at h1
      rw [h1.1, hupd]
      exact ⟨h, by rw [h1.2]; rfl⟩
  have H2 : TbOk n D (upd FE u.key u.tag (endsB u)) (upd HE u.key u.tag (comesB u)) T' ∧ b2 = (endsB u && (!ltT u.tag (fl n (FE u.key)) && !decide (u.tag ∈ FE u.key))) := by
    cases hc : endsB u with
    | true =>
      rw [hc] at h2
      obtain ⟨h3, h4⟩ := H1.1.fin h0 h2
      refine ⟨h3, ?_⟩
      rw [h4]
      cases hl : ltT u.tag (fl n (FE u.key)) with
      | true => simp
      | false => rw [((H1.1.sh u.key).look_abs hl).1]; simp
    | false =>
      rw [hc] at h2
      simp only [Bool.false_eq_true, if_false] at h2
      rw [h2.1, hupd]
      exact ⟨H1.1, by rw [h2.2]; rfl⟩
  refine ⟨he, H2.1, ?_⟩
  rw [hb, H1.2, H2.2]
  cases comesB u <;> cases endsB u <;> cases ltT u.tag (fl n (FE u.key)) <;> simp
end TbOk
end Go.Tab
namespace Go.Tab
open Go Go.Vc
theorem upd_same (f : ByteArray → List Tg) (k : ByteArray) (t : Tg) : upd f k t true k = ins t (f k) := by unfold upd; rw [if_pos ⟨rfl, rfl⟩]
theorem upd_not (f : ByteArray → List Tg) (k : ByteArray) (t : Tg) : upd f k t false = f := by funext k'; unfold upd; simp
theorem fl0_1 : fl 0 [((1 : Int), (1 : Int))] = (1, 1) := fl_eq (by simp) (by simp) (by decide)
theorem fl0_2 : fl 0 [((2 : Int), (1 : Int)), (1, 1)] = (2, 1) := fl_eq (by decide) (by decide) (by decide)
theorem fl0_0 : fl 0 [] = (0, 0) := fl_zero (Nat.le_refl _)
theorem list0_1 (D : Tg → List UInt8) : listC 0 D [(1, 1)] [(1, 1)] = [⟨(1, 1), true, true, D (1, 1)⟩] := by
  have h : tagsC 0 [((1 : Int), (1 : Int))] [(1, 1)] = [(1, 1)] := by unfold tagsC; rw [fl0_1]; decide
  unfold listC
  rw [h]
  simp [sortU, enC]
theorem list0_2 (D : Tg → List UInt8) : listC 0 D [(2, 1), (1, 1)] [(1, 1)] = [⟨(2, 1), true, false, []⟩] := by
  have h : tagsC 0 [((2 : Int), (1 : Int)), (1, 1)] [(1, 1)] = [(2, 1)] := by unfold tagsC; rw [fl0_2]; decide
  unfold listC
  rw [h]
  simp [sortU, enC]
theorem apR_same {T T' : Tc} {u : Upt} {b : Bool} {e : Int} (h : apR T u T' b e) (hb : b = false) : T' = T := by
  subst hb
  rcases h with ⟨_, h, _⟩ | ⟨_, _, T1, b1, b2, h1, h2, h3⟩
  · exact h
  · have hb1 : b1 = false := by cases b1 <;> simp at h3 ⊢
    have hb2 : b2 = false := by cases b2 <;> cases b1 <;> simp at h3 ⊢
    subst hb1 hb2
    have e1 : T1 = T := by
      split at h1
      · exact h1.2.1 rfl
      · exact h1.1
    have e2 : T' = T1 := by
      split at h2
      · exact h2.2.1 rfl
      · exact h2.1
    rw [e2, e1]
def key0 : ByteArray := ⟨#[107]⟩
theorem key_ok {k : ByteArray} (h : k.size ≠ 0) : decide (k.toList = (ByteArray.mk #[]).toList) = false := by
  simp only [decide_eq_false_iff_not, ByteArray.toList_eq]
  intro e
  have := congrArg List.length e
  simp at this
  exact h (by simp [ByteArray.size, this])
theorem may1 (s : Slc) (t : Tg) (d : List UInt8) (hd : d.length ≤ 65540) (ht : properT t = true) (k : ByteArray) (h0 : k.size ≠ 0) (h1 : k.size ≤ 64) : mayB ⟨1, k, t, false, false, s, d⟩ = true := by
  unfold mayB
  rw [key_ok h0, ht]
  simp
  omega
theorem may2 (s : Slc) (t : Tg) (ht : properT t = true) (k : ByteArray) (h0 : k.size ≠ 0) (h1 : k.size ≤ 64) : mayB ⟨2, k, t, false, false, s, []⟩ = true := by
  unfold mayB
  rw [key_ok h0, ht]
  simp
  omega
end Go.Tab
namespace Go.Proofs.YtgnceldnfefnmaaGreat
open Go Go.Vc Go.Vc.Asn Go.Tab Go.Sort
section
variable {w0 w : World} {F : Asn} {n : Nat} {D : ByteArray → Tg → List UInt8} {FE HE : ByteArray → List Tg} {T : Tc} {p : Nat}
theorem TbOk.dataLen {b : Nat} (h : TbOk n D FE HE T) (hD : ∀ k t, (D k t).length ≤ b) (k : ByteArray) : ∀ x ∈ T.sh k, x.2.data.length ≤ b := fun x hx => by
  have := congrArg En.data ((h.sh k).val x hx)
  simp only [Ec.abs] at this
  rw [this]
  split
  · exact hD _ _
  · exact Nat.zero_le _
theorem apply_k {u : Upt} (h : TbOk n D FE HE T) (hm : mayB u = true) (h0 : ltT (0, 0) u.tag = true) (hd : comesB u = true → u.data = D u.key u.tag) (hl : (FE u.key).length + (HE u.key).length + 1 < 1099511627776) (hr : Rdy w0 F u.s u.data) (hbl : u.data.length ≤ 1099511627776) (H : Hp w0 w (star (tabA p T) F)) :
    Calls PP F_table_Table_Apply #[.pointer (some (blk p)), .agg u.c.toArray] w (Rt fun v w' => v = .tuple #[.bool (!ltT u.tag (fl n (FE u.key)) && ((comesB u && !decide (u.tag ∈ HE u.key)) || (endsB u && !decide (u.tag ∈ FE u.key)))), .int .i64 0] ∧ ∃ T', TbOk n D (upd FE u.key u.tag (endsB u)) (upd HE u.key u.tag (comesB u)) T' ∧ ((!ltT u.tag (fl n (FE u.key)) && ((comesB u && !decide (u.tag ∈ HE u.key)) || (endsB u && !decide (u.tag ∈ FE u.key)))) = false → T' = T) ∧ Hp w0 w' (star (tabA p T') F)) := by
  have h1 := (h.sh u.key).len
  refine Rt.mono (apply_c (by rw [h.delta]; omega) (by omega) hr hbl H) ?_
  rintro v w' ⟨T', b, e, rfl, ha, H⟩
  obtain ⟨rfl, h2, h3⟩ := h.ap hm h0 hd ha
  exact ⟨by rw [h3], T', h2, fun hb => apR_same ha (h3.trans hb), H⟩
theorem top_k (k : ByteArray) (h : TbOk n D FE HE T) (hl : (FE k).length + (HE k).length ≤ 1099511627776) (H : Hp w0 w (star (tabA p T) F)) :
    Calls PP F_table_Table_Top #[.pointer (some (blk p)), .string k] w (Rt fun v w' => v = (top (FE k)).v ∧ Hp w0 w' (star (tabA p T) F)) := by
  have := (h.sh k).len
  refine Rt.mono (ttop_c (by omega) H) ?_
  rintro v w' ⟨rfl, H⟩
  exact ⟨by rw [h.topE], H⟩
theorem floor_k (k : ByteArray) (h : TbOk n D FE HE T) (hl : (FE k).length + (HE k).length ≤ 1099511627776) (H : Hp w0 w (star (tabA p T) F)) :
    Calls PP F_table_Table_Floor #[.pointer (some (blk p)), .string k] w (Rt fun v w' => v = (fl n (FE k)).v ∧ Hp w0 w' (star (tabA p T) F)) := by
  have := (h.sh k).len
  refine Rt.mono (tfloor_c (by rw [h.delta]; omega) (by omega) H) ?_
  rintro v w' ⟨rfl, H⟩
  exact ⟨by rw [h.floor], H⟩
theorem entries_k (k : ByteArray) (h : TbOk n D FE HE T) (hD : ∀ k t, (D k t).length ≤ 1099511627776) (hl : (FE k).length + (HE k).length ≤ 1099511627776) (H : Hp w0 w (star (tabA p T) F)) :
    Calls PP F_table_Table_Entries #[.pointer (some (blk p)), .string k] w (Rt fun v w' => ∃ s es, v = Slc.v s ∧ es.map Ec.abs = listC n (D k) (FE k) (HE k) ∧ Hp w0 w' (star (entsA s es) (star (tabA p T) F))) := by
  have := (h.sh k).len
  refine Rt.mono (entries_c (by omega) (h.sh k).tagOk (TbOk.dataLen h hD k) H) ?_
  rintro v w' ⟨s, es, rfl, he, H⟩
  exact ⟨s, es, rfl, he.trans ((h.sh k).list (h.fe k).1), H⟩
theorem frag_k (k : ByteArray) (h : TbOk n D FE HE T) (hD : ∀ k t, (D k t).length ≤ 1099511627776) (hl : (FE k).length + (HE k).length ≤ 1099511627776) (H : Hp w0 w (star (tabA p T) F)) :
    Calls PP F_table_Table_Fragments #[.pointer (some (blk p)), .string k] w (Rt fun v w' => v = .int .i64 (((listC n (D k) (FE k) (HE k)).countP (·.has) : Nat) : Int) ∧ Hp w0 w' (star (tabA p T) F)) := by
  have := (h.sh k).len
  refine Rt.mono (frag_c (by omega) (h.sh k).tagOk (TbOk.dataLen h hD k) H) ?_
  rintro v w' ⟨rfl, H⟩
  exact ⟨by unfold fragS; rw [(h.sh k).list (h.fe k).1], H⟩
theorem one_nil {s : Slc} {t : Tg} {f h : Bool} (H : Hp w0 w (star (own Ty_api_Entry 5 s (Ec.c ⟨t, f, h, Slc.nil, []⟩)) F)) : Hp w0 w (star (entsA s [⟨t, f, h, Slc.nil, []⟩]) F) := by
  have H := (H.nilRow Ty_uint8 1).swap
  unfold entsA
  refine H.ent ?_
  refine Ent.trans ?_ Asn.assoc'
  exact Ent.star (fun w S h => by simpa using h) (Ent.star emp_r (Ent.refl _))
def D0 : ByteArray → Tg → List UInt8 := fun _ _ => [120]
theorem taken_c : Calls PP F_sherdlaw15_taken #[] w (Rt fun v w' => v = .bool true ∧ Fr [] w w') := by
  have hD : ∀ k t, (D0 k t).length ≤ 1099511627776 := fun _ _ => by simp [D0]
  refine sim_sherdlaw15_taken _ _ ?_
  unfold vc_sherdlaw15_taken
  refine call (tnew_c 0) ?_
  rintro _ w1 (⟨h, _⟩ | ⟨_, p, g, rfl, H⟩)
  · exfalso; rcases h with h | h <;> omega
  have h := TbOk.new 0 D0 g
  refine ⟨_, _, rfl, fun h => by simp at h, fun _ => H.new fun b13 w2 H => H.stoAll (b := b13) (by rfl) fun w3 H => H.new fun b18 w4 H => H.stoAll (b := b18) (by rfl) fun w5 H => ⟨_, H.cell (b := b13) (i := 0) rfl, _, H.cell (b := b13) (i := 1) rfl, ?_⟩⟩
  refine H.newRow (e := Ty_uint8) (n := 1) (size := 1) ([120].map u8v) rfl rfl (by decide) fun b27 w6 H => Hp.cvB slT_sl_uint8.ut und_uint8 (by simp) H fun w7 H => ?_
  have H := H.take (tabA p ⟨0, g, []⟩)
  refine call (apply_k (u := ⟨1, key0, (1, 1), false, false, ⟨some (blk b27), 1, 1⟩, [120]⟩) h (may1 _ _ _ (by decide) (by decide) _ (by decide) (by decide)) (show ltT (0, 0) (1, 1) = true by decide) (fun _ => rfl) (by simp) Rdy.rdp (by simp) H) ?_
  rintro _ w8 ⟨rfl, T1, h1, _, H⟩
  replace h1 : TbOk 0 D0 (upd (fun _ => []) key0 (1, 1) false) (upd (fun _ => []) key0 (1, 1) true) T1 := h1
  rw [upd_not] at h1
  have a1 : upd (fun _ => []) key0 (1, 1) true key0 = [((1 : Int), (1 : Int))] := by rw [upd_same]; rfl
  refine ⟨_, _, rfl, _, H.cell (b := b13) (i := 0) rfl, _, H.cell (b := b13) (i := 1) rfl, ?_⟩
  refine call (apply_k (u := ⟨2, key0, (1, 1), false, false, Slc.nil, []⟩) h1 (may2 _ _ (by decide) _ (by decide) (by decide)) (show ltT (0, 0) (1, 1) = true by decide) (fun h => by simp [comesB] at h) (by rw [a1]; simp) (fun _ _ _ => Cel.nil _ _) (by simp) (H.take (tabA p T1))) ?_
  rintro _ w9 ⟨rfl, T2, h2, _, H⟩
  replace h2 : TbOk 0 D0 (upd (fun _ => []) key0 (1, 1) true) (upd (upd (fun _ => []) key0 (1, 1) true) key0 (1, 1) false) T2 := h2
  rw [upd_not] at h2
  have H := (H.take (rdp ⟨some (blk b27), 1, 1⟩ [120])).drop
  refine ⟨_, _, rfl, fun b w' => b = false ∧ Hp w w' (star (tabA p T2) (star (bk b13 Ty_api_Tag #[.int .i64 1, .int .i64 1]) (star (bk b18 Ty_api_Tag #[.int .i64 2, .int .i64 1]) emp))), ⟨fun h => ?_, fun _ => ⟨fun h => ?_, fun _ => ⟨fun h => by simp at h, fun _ => ⟨fun h => by simp at h, fun _ => ?_⟩⟩⟩⟩, ?_⟩
  · simp [fl0_0, comesB, show ltT ((1 : Int), (1 : Int)) (0, 0) = false by decide] at h
  · simp [fl0_0, endsB, show ltT ((1 : Int), (1 : Int)) (0, 0) = false by decide] at h
  · have H := (H.drew 1)
    refine call (frag_k key0 h2 hD (by rw [a1]; simp) (H.take (tabA p T2))) ?_
    rintro _ w10 ⟨rfl, H⟩
    rw [a1, list0_1]
    refine ⟨_, rfl, fun h => by simp at h, fun _ => ⟨_, H.cell (b := b13) (i := 0) rfl, _, H.cell (b := b13) (i := 1) rfl, call (top_k key0 h2 (by rw [a1]; simp) (H.take (tabA p T2))) ?_⟩⟩
    rintro _ w11 ⟨rfl, H⟩
    rw [a1, top_fl, fl0_1]
    refine ⟨_, _, rfl, H.cell (b := b13) (i := 0) rfl, H.cell (b := b13) (i := 1) rfl, by simp, ?_⟩
    refine H.ent ?_
    exact Ent.star (Ent.refl _) (Ent.pick (P := bk b13 _ _) (Ent.refl _))
  rintro b w10 ⟨rfl, H⟩
  refine ⟨fun h => by simp at h, fun _ => ⟨_, H.cell (b := b18) (i := 0) rfl, _, H.cell (b := b18) (i := 1) rfl, ?_⟩⟩
  refine call (apply_k (u := ⟨2, key0, (2, 1), false, false, Slc.nil, []⟩) h2 (may2 _ _ (by decide) _ (by decide) (by decide)) (show ltT (0, 0) (2, 1) = true by decide) (fun h => by simp [comesB] at h) (by rw [a1]; simp) (fun _ _ _ => Cel.nil _ _) (by simp) H) ?_
  rintro _ w11 ⟨rfl, T3, h3, _, H⟩
  replace h3 : TbOk 0 D0 (upd (upd (fun _ => []) key0 (1, 1) true) key0 (2, 1) true) (upd (upd (fun _ => []) key0 (1, 1) true) key0 (2, 1) false) T3 := h3
  rw [upd_not] at h3
  have a2 : upd (upd (fun _ => []) key0 (1, 1) true) key0 (2, 1) true key0 = [((2 : Int), (1 : Int)), (1, 1)] := by rw [upd_same, a1]; rfl
  refine ⟨_, _, rfl, fun b w' => b = true ∧ Fr [] w w', ?_, fun b w' hh => Rt.ok ⟨by rw [hh.1], hh.2⟩⟩
  have H := H.drew 1
  refine call (frag_k key0 h3 hD (by rw [a1, a2]; simp) (H.take (tabA p T3))) ?_
  rintro _ w12 ⟨rfl, H⟩
  rw [a1, a2, list0_2]
  refine ⟨_, rfl, fun _ => ⟨_, H.cell (b := b18) (i := 0) rfl, _, H.cell (b := b18) (i := 1) rfl, call (floor_k key0 h3 (by rw [a1, a2]; simp) (H.take (tabA p T3))) ?_⟩, fun h => by simp at h⟩
  rintro _ w13 ⟨rfl, H⟩
  rw [a2, fl0_2]
  refine ⟨_, _, rfl, H.cell (b := b18) (i := 0) rfl, H.cell (b := b18) (i := 1) rfl, fun _ => ⟨_, H.cell (b := b18) (i := 0) rfl, _, H.cell (b := b18) (i := 1) rfl, ?_, ?_⟩, fun h => by simp at h⟩
  · refine call (entries_k key0 h3 hD (by rw [a1, a2]; simp) (H.take (tabA p T3))) ?_
    rintro _ w14 ⟨s, es, rfl, he, H⟩
    rw [a1, a2, list0_2] at he
    refine ⟨_, rfl, H.cell (b := b18) (i := 0) rfl, H.cell (b := b18) (i := 1) rfl, ?_⟩
    refine H.newRow (e := Ty_api_Entry) (n := 1) (size := 5) (Ec.c ⟨(2, 1), true, false, Slc.nil, []⟩) rfl rfl (by decide) fun b84 w15 H => ?_
    have H := one_nil (t := (2, 1)) (f := true) (h := false) H
    have H := H.take (entsA s es)
    refine call (sameEntries_c (F := star (entsA s es) (star (entsA ⟨some (blk b84), 1, 1⟩ [⟨(2, 1), true, false, Slc.nil, []⟩]) _)) (RdE.ents (es := es)) (RdE.ents (es := [⟨(2, 1), true, false, Slc.nil, []⟩])) (by rw [← List.length_map (f := Ec.abs), he]; simp) H) ?_
    rintro _ w16 ⟨rfl, H⟩
    exact ⟨_, rfl, by rw [he]; simp [Ec.abs], H.fr⟩
  · refine H.newRow (e := Ty_api_Entry) (n := 1) (size := 5) (Ec.c ⟨(2, 1), true, false, Slc.nil, []⟩) rfl rfl (by decide) fun b84 w15 H => ?_
    have H := one_nil (t := (2, 1)) (f := true) (h := false) H
    refine call (entries_k key0 h3 hD (by rw [a1, a2]; simp) (H.take (tabA p T3))) ?_
    rintro _ w14 ⟨s, es, rfl, he, H⟩
    rw [a1, a2, list0_2] at he
    refine ⟨_, rfl, ?_⟩
    have H := (H.take (entsA ⟨some (blk b84), 1, 1⟩ [⟨(2, 1), true, false, Slc.nil, []⟩])).swap
    refine call (sameEntries_c (F := star (entsA s es) (star (entsA ⟨some (blk b84), 1, 1⟩ [⟨(2, 1), true, false, Slc.nil, []⟩]) _)) (RdE.ents (es := es)) (RdE.ents (es := [⟨(2, 1), true, false, Slc.nil, []⟩])) (by rw [← List.length_map (f := Ec.abs), he]; simp) H) ?_
    rintro _ w16 ⟨rfl, H⟩
    exact ⟨_, rfl, by rw [he]; simp [Ec.abs], H.fr⟩
end
end Go.Proofs.YtgnceldnfefnmaaGreat
