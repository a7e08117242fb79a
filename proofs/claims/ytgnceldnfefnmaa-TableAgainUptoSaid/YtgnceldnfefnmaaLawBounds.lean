/-
  Contract of TableBounds: behind every update, of each key: at most Delta + 1 finalized entries, none below the floor; floor and top never fall.
-/
import Derived.Test.YtgnceldnfefnmaaLawTaken
namespace Go.Tab
open Go Go.Vc
/-- Which tags were ever finalized, which fragments ever came. -/
def stepF (f : ByteArray → List Tg) (m : Mv) : ByteArray → List Tg := upd f (keyB m.key) m.tag m.fin
def stepH (f : ByteArray → List Tg) (m : Mv) : ByteArray → List Tg := upd f (keyB m.key) m.tag (m.both || !m.fin)
def feS (ms : List Mv) : ByteArray → List Tg := ms.foldl stepF fun _ => []
def heS (ms : List Mv) : ByteArray → List Tg := ms.foldl stepH fun _ => []
theorem feS_snoc (ms : List Mv) (m : Mv) : feS (ms ++ [m]) = stepF (feS ms) m := by unfold feS; rw [List.foldl_append]; rfl
theorem heS_snoc (ms : List Mv) (m : Mv) : heS (ms ++ [m]) = stepH (heS ms) m := by unfold heS; rw [List.foldl_append]; rfl
theorem upd_len (f : ByteArray → List Tg) (k : ByteArray) (t : Tg) (b : Bool) (k' : ByteArray) : (upd f k t b k').length ≤ (f k').length + 1 := by
  unfold upd
  split
  · exact ins_len
  · omega
theorem feS_len (ms : List Mv) (k : ByteArray) : (feS ms k).length ≤ ms.length := by
  suffices ∀ (l : List Mv) (f : ByteArray → List Tg), (l.foldl stepF f k).length ≤ (f k).length + l.length by
    have := this ms fun _ => []
    simpa [feS] using this
  intro l
  induction l with
  | nil => intro f; simp
  | cons m r ih => intro f; have h1 := ih (stepF f m); have h2 := upd_len f (keyB m.key) m.tag m.fin k; simp only [List.foldl_cons, List.length_cons]; unfold stepF at *; omega
theorem heS_len (ms : List Mv) (k : ByteArray) : (heS ms k).length ≤ ms.length := by
  suffices ∀ (l : List Mv) (f : ByteArray → List Tg), (l.foldl stepH f k).length ≤ (f k).length + l.length by
    have := this ms fun _ => []
    simpa [heS] using this
  intro l
  induction l with
  | nil => intro f; simp
  | cons m r ih => intro f; have h1 := ih (stepH f m); have h2 := upd_len f (keyB m.key) m.tag (m.both || !m.fin) k; simp only [List.foldl_cons, List.length_cons]; unfold stepH at *; omega
theorem Mv.pos (m : Mv) : ltT (0, 0) m.tag = true := by
  have h1 := modI_lo m.count (m := 12) (by decide)
  unfold ltT Mv.tag
  simp
  omega
theorem Mv.proper (m : Mv) : properT m.tag = true := by
  have h1 := modI_lo m.count (m := 12) (by decide)
  have h2 := modI_hi m.count (m := 12) (by decide)
  have h3 := modI_lo m.client (m := 5) (by decide)
  have h4 := modI_hi m.client (m := 5) (by decide)
  unfold properT Mv.tag
  simp
  omega
theorem key_ne (n : Int) : (keyB n).size ≠ 0 ∧ (keyB n).size ≤ 64 := by
  unfold keyB keyL
  have h3 : (modI n 3).toNat < 3 := by have := modI_lo n (m := 3) (by decide); have := modI_hi n (m := 3) (by decide); omega
  generalize (modI n 3).toNat = i at *
  match i, h3 with
  | 0, _ => decide
  | 1, _ => decide
  | 2, _ => decide
theorem key_le (n : Int) : (keyB n).data.toList.length ≤ 64 := by
  have := (key_ne n).2
  rw [Array.length_toList]
  exact this
theorem dataB_len (n : Int) (t : Tg) : (dataB (keyB n) t).length ≤ 70 := by
  have := key_le n
  unfold dataB
  simp only [List.length_append, List.length_cons, List.length_nil]
  omega
theorem Mv.may (m : Mv) (s : Slc) : mayB (m.upt s) = true := by
  have hk := key_ne m.key
  have hd := dataB_len m.key m.tag
  unfold Mv.upt
  split
  · exact may3 _ _ _ _ (by omega) m.proper _ hk.1 hk.2
  · split
    · exact may2 _ _ m.proper _ hk.1 hk.2
    · exact may1 _ _ _ (by omega) m.proper _ hk.1 hk.2
theorem Mv.u_key (m : Mv) (s : Slc) : (m.upt s).key = keyB m.key := by unfold Mv.upt; split <;> (try split) <;> rfl
theorem Mv.u_tag (m : Mv) (s : Slc) : (m.upt s).tag = m.tag := by unfold Mv.upt; split <;> (try split) <;> rfl
theorem Mv.u_ends (m : Mv) (s : Slc) : endsB (m.upt s) = m.fin := by
  unfold Mv.upt endsB
  cases hb : m.both <;> cases hf : m.fin <;> simp
theorem Mv.u_comes (m : Mv) (s : Slc) : comesB (m.upt s) = (m.both || !m.fin) := by
  unfold Mv.upt comesB
  cases hb : m.both <;> cases hf : m.fin <;> simp
theorem Mv.u_data (m : Mv) (s : Slc) (h : comesB (m.upt s) = true) : (m.upt s).data = dataB (keyB m.key) m.tag := by
  rw [m.u_comes] at h
  unfold Mv.upt
  cases hb : m.both <;> cases hf : m.fin <;> simp_all
theorem Mv.u_dlen (m : Mv) (s : Slc) : (m.upt s).data.length ≤ 70 := by
  have hd := dataB_len m.key m.tag
  unfold Mv.upt
  split
  · exact hd
  · split
    · exact Nat.zero_le _
    · exact hd
/-- The data of a tag, cut where no key is so long. -/
def DB (k : ByteArray) (t : Tg) : List UInt8 := (dataB k t).take 70
theorem DB_len (k : ByteArray) (t : Tg) : (DB k t).length ≤ 70 := by unfold DB; rw [List.length_take]; omega
theorem DB_key (n : Int) (t : Tg) : DB (keyB n) t = dataB (keyB n) t := by unfold DB; exact List.take_of_length_le (dataB_len n t)
/-- The table after these moves. -/
abbrev TabS (n : Nat) (ms : List Mv) (T : Tc) : Prop := TbOk n DB (feS ms) (heS ms) T
theorem listC_len {n : Nat} {D : Tg → List UInt8} {FE HE : List Tg} : (listC n D FE HE).length ≤ FE.length + HE.length := by
  unfold listC
  rw [List.length_map, (sortU_perm _).length_eq]
  refine Nat.le_trans (List.length_filter_le _ _) ?_
  have : ∀ l : List Tg, (uni FE l).length ≤ FE.length + l.length := fun l => by
    induction l with
    | nil => simp [uni]
    | cons t r ih => have h : (uni FE (t :: r)).length ≤ (uni FE r).length + 1 := ins_len; simp only [List.length_cons]; omega
  exact this HE
/-- What the entries of a key are like. -/
structure GoodE (n : Nat) (FE : List Tg) (l : List En) : Prop where
  above : ∀ x ∈ l, ltT x.tag (fl n FE) = false
  some : ∀ x ∈ l, x.fin = true ∨ x.has = true
  rise : l.Pairwise fun x y => ltT x.tag y.tag = true
  fins : l.countP (·.fin) ≤ n + 1
theorem good {n : Nat} {D : Tg → List UInt8} {FE HE : List Tg} (hn : FE.Nodup) : GoodE n FE (listC n D FE HE) := by
  have hm : ∀ t, t ∈ sortU (tagsC n FE HE) ↔ (t ∈ FE ∨ t ∈ HE) ∧ ltT t (fl n FE) = false := fun t => by
    rw [(sortU_perm _).mem_iff]
    unfold tagsC
    rw [List.mem_filter, mem_uni, Bool.not_eq_true']
  have hnd : (tagsC n FE HE).Nodup := (uni_nodup hn HE).sublist List.filter_sublist
  refine ⟨fun x hx => ?_, fun x hx => ?_, ?_, ?_⟩
  · obtain ⟨t, ht, rfl⟩ := List.mem_map.1 hx
    exact ((hm t).1 ht).2
  · obtain ⟨t, ht, rfl⟩ := List.mem_map.1 hx
    simp only [enC, decide_eq_true_eq]
    exact ((hm t).1 ht).1
  · unfold listC
    exact List.pairwise_map.2 (sortU_st hnd)
  · unfold listC
    rw [List.countP_map, List.countP_eq_length_filter]
    refine Nat.le_trans (nodup_len (l2 := cut n FE) (((sortU_perm _).nodup_iff.2 hnd).sublist List.filter_sublist) fun t ht => ?_) (cut_len hn)
    obtain ⟨h1, h2⟩ := List.mem_filter.1 ht
    simp only [Function.comp, enC, decide_eq_true_eq] at h2
    exact List.mem_filter.2 ⟨h2, by rw [((hm t).1 h1).2]; rfl⟩
theorem upd_fl {n : Nat} {f : ByteArray → List Tg} (hf : ∀ k, (f k).Nodup ∧ Pos (f k)) {k : ByteArray} {t : Tg} (h0 : ltT (0, 0) t = true) (b : Bool) (k' : ByteArray) : ltT (fl n (upd f k t b k')) (fl n (f k')) = false := by
  unfold upd
  split
  · exact fl_ins (hf k').1 (hf k').2 h0
  · exact ltT_irrefl _
end Go.Tab
namespace Go.Proofs.Ytgnceldnfefnmaa
open Go Go.Vc Go.Vc.Asn Go.Tab Go.Sort
section
variable {w0 w : World} {F : Asn} {n : Nat} {T : Tc} {p : Nat}
theorem mv_len (m : Mv) : m.c.length = 5 := rfl
theorem Rdy.mono {X A' : Asn} {d : Slc} {bs : List UInt8} (h : Rdy w0 F d bs) [Take F X A'] : Rdy w0 X d bs := fun _ _ H => h.at H
/-- A move applied. -/
theorem move_c {ms : List Mv} {m : Mv} (h : TabS n ms T) (hl : ms.length ≤ 137438953472) (H : Hp w0 w (star (tabA p T) F)) {K : Value → World → Prop} {Kp Kp' : List PanicEntry → World → Prop}
    (k : ∀ T' w' b, TabS n (ms ++ [m]) T' → b = (!ltT m.tag (fl n (feS ms (keyB m.key))) && (((m.both || !m.fin) && !decide (m.tag ∈ heS ms (keyB m.key))) || (m.fin && !decide (m.tag ∈ feS ms (keyB m.key))))) → (b = false → T' = T) → Hp w0 w' (star (tabA p T') F) → K (.tuple #[.bool b, .int .i64 0]) w') :
    Calls PP F_sherdlaw15_update #[.agg m.c.toArray] w (CallK (fun v w' => ∃ K69 : Int, ∃ K70 : ByteArray, ∃ C71 : Int, ∃ C72 : Int, ∃ F73 : Bool, ∃ H74 : Bool, ∃ D75 : Slc, v = (.agg #[(.int .i64 K69), (.string K70), (.int .i64 C71), (.int .i64 C72), (.bool F73), (.bool H74), (Slc.v D75)]) ∧ Calls PP F_table_Table_Apply #[(.pointer (some (blk p))), (.agg #[(.int .i64 K69), (.string K70), (.int .i64 C71), (.int .i64 C72), (.bool F73), (.bool H74), (Slc.v D75)])] w' (CallK K Kp)) Kp') := by
  refine call (update_c m) ?_
  rintro _ w1 ⟨s, rfl, U⟩
  have H := (H.join U).swap
  refine ⟨_, _, _, _, _, _, _, rfl, ?_⟩
  have h1 := feS_len ms (keyB m.key)
  have h2 := heS_len ms (keyB m.key)
  have h3 := m.u_dlen s
  refine call (apply_k (u := m.upt s) h (m.may s) (by rw [m.u_tag]; exact m.pos) (fun hc => by rw [m.u_data s hc, m.u_key, m.u_tag, DB_key]) (by rw [m.u_key]; omega) (Rdy.rdp (d := (m.upt s).s) (bs := (m.upt s).data)) (by omega) H) ?_
  rintro _ w2 ⟨rfl, T', h', hs, H⟩
  rw [m.u_key, m.u_tag, m.u_ends, m.u_comes] at h' hs ⊢
  refine k T' w2 _ ?_ rfl hs (H.swap.drop)
  unfold TabS
  rw [feS_snoc, heS_snoc]
  exact h'
/-- Three tags in a row. -/
abbrev threeA (b : Nat) (x y z : Tg) : Asn := bk b Ty_3_api_Tag #[.int .i64 x.1, .int .i64 x.2, .int .i64 y.1, .int .i64 y.2, .int .i64 z.1, .int .i64 z.2]
/-- What the loop over the keys has written: of the first j keys what is now, of the others what was. -/
def sel (j : Nat) (f g : Nat → Tg) (i : Nat) : Tg := if i < j then f i else g i
theorem three_get {b : Nat} {f : Nat → Tg} (H : Hp w0 w (star (threeA b (f 0) (f 1) (f 2)) F)) {j : Nat} (hj : j < 3) : w.cell? (((blk b).add (j * 2)).add 0) = some (.int .i64 (f j).1) ∧ w.cell? (((blk b).add (j * 2)).add 1) = some (.int .i64 (f j).2) := by
  match j, hj with
  | 0, _ => exact ⟨H.cell2 (b := b) (i := 0) (j := 0) rfl, H.cell2 (b := b) (i := 0) (j := 1) rfl⟩
  | 1, _ => exact ⟨H.cell2 (b := b) (i := 2) (j := 0) rfl, H.cell2 (b := b) (i := 2) (j := 1) rfl⟩
  | 2, _ => exact ⟨H.cell2 (b := b) (i := 4) (j := 0) rfl, H.cell2 (b := b) (i := 4) (j := 1) rfl⟩
theorem three_set {b j : Nat} {f g : Nat → Tg} (H : Hp w0 w (star (threeA b (sel j f g 0) (sel j f g 1) (sel j f g 2)) F)) {K : World → Prop} (hj : j < 3)
    (k : ∀ w', Hp w0 w' (star (threeA b (sel (j + 1) f g 0) (sel (j + 1) f g 1) (sel (j + 1) f g 2)) F) → K w') : StoN ((blk b).add (j * 2)) 0 [.int .i64 (f j).1, .int .i64 (f j).2] w K := by
  match j, hj with
  | 0, _ => exact StoN.two (H.sto2 (b := b) (i := 0) (j := 0) (lt_ rfl) fun w1 H => H.sto2 (b := b) (i := 0) (j := 1) (lt_ rfl) fun w2 H => k w2 H)
  | 1, _ => exact StoN.two (H.sto2 (b := b) (i := 2) (j := 0) (lt_ rfl) fun w1 H => H.sto2 (b := b) (i := 2) (j := 1) (lt_ rfl) fun w2 H => k w2 H)
  | 2, _ => exact StoN.two (H.sto2 (b := b) (i := 4) (j := 0) (lt_ rfl) fun w1 H => H.sto2 (b := b) (i := 4) (j := 1) (lt_ rfl) fun w2 H => k w2 H)
def arrs (b c j : Nat) (f g f2 g2 : Nat → Tg) : Asn := star (threeA b (sel j f g 0) (sel j f g 1) (sel j f g 2)) (star (threeA c (sel j f2 g2 0) (sel j f2 g2 1) (sel j f2 g2 2)) emp)
theorem prev_c {b i : Nat} {sE : Slc} {es : List Ec} {e : Ec} {R : Bool → World → Prop} {Kp : List PanicEntry → World → Prop} (hl : es.length ≤ 1099511627776) (hi : es[i]? = some e) (hr : (es.map Ec.abs).Pairwise fun x y => ltT x.tag y.tag = true)
    (H : Hp w0 w (star (bk b Ty_api_Entry #[.int .i64 e.tag.1, .int .i64 e.tag.2, .bool e.fin, .bool e.has, e.s.v]) (star (own Ty_api_Entry 5 sE (es.flatMap Ec.c)) F)))
    (hR : ∀ w', Hp w0 w' (star (bk b Ty_api_Entry #[.int .i64 e.tag.1, .int .i64 e.tag.2, .bool e.fin, .bool e.has, e.s.v]) (star (own Ty_api_Entry 5 sE (es.flatMap Ec.c)) F)) → R false w') :
    ((decide (0 < (i : Int))) = true → ∃ a159 : Addr, sE.a = some a159 ∧ (0 : Int) ≤ wr .i64 ((i : Int) - 1) ∧ (wr .i64 ((i : Int) - 1) : Int) < sE.l ∧ ∃ C163 : Int, w.cell? (((a159.add (Int.toNat (wr .i64 ((i : Int) - 1)) * 5)).add 0).add 0) = some (.int .i64 C163) ∧ ∃ C165 : Int, w.cell? (((a159.add (Int.toNat (wr .i64 ((i : Int) - 1)) * 5)).add 0).add 1) = some (.int .i64 C165) ∧ ∃ C167 : Int, w.cell? (((blk b).add 0).add 0) = some (.int .i64 C167) ∧ ∃ C169 : Int, w.cell? (((blk b).add 0).add 1) = some (.int .i64 C169) ∧ Calls PP F_tag_Compare #[(.agg #[(.int .i64 C163), (.int .i64 C165)]), (.agg #[(.int .i64 C167), (.int .i64 C169)])] w (CallK (fun v173 w171 => ∃ C172 : Int, v173 = (.int .i64 C172) ∧ R (decide (0 ≤ C172)) w171) Kp)) ∧ ((decide (0 < (i : Int))) = false → R false w) := by
  refine ⟨fun h => ?_, fun _ => hR w H⟩
  have hi0 : 0 < i := by simp only [decide_eq_true_eq] at h; omega
  obtain ⟨m, rfl⟩ : ∃ m, i = m + 1 := ⟨i - 1, by omega⟩
  have hlt := (List.getElem?_eq_some_iff.1 hi).1
  have e1 : wr .i64 (((m + 1 : Nat) : Int) - 1) = (m : Int) := by rw [wr64 (by omega) (by omega)]; omega
  rw [e1, Int.toNat_natCast]
  have hx : es[m]? = some (es[m]'(by omega)) := List.getElem?_eq_getElem (by omega)
  obtain ⟨a, ha, hc⟩ := Cel.elem (enc := Ec.c) ent_len (H.cel (s := sE)) hx (by decide)
  have hEl := (Cel.flen (enc := Ec.c) (l := es) ent_len (H.cel (s := sE)) (by decide))
  have hz : ∀ j, ((a.add (m * 5)).add 0).add j = (a.add (m * 5)).add j := fun j => by rw [add_add (a.add (m * 5)), Nat.zero_add]
  refine ⟨a, ha, by omega, by rw [hEl]; omega, _, by rw [hz]; exact hc 0 _ rfl, _, by rw [hz]; exact hc 1 _ rfl, _, H.cell2 (b := b) (i := 0) (j := 0) rfl, _, H.cell2 (b := b) (i := 0) (j := 1) rfl, call (compare_c (es[m]'(by omega)).tag e.tag _) ?_⟩
  rintro _ w' ⟨rfl, f⟩
  have hr2 := List.pairwise_iff_getElem.1 hr m (m + 1) (by simp; omega) (by simpa using hlt) (by omega)
  simp only [List.getElem_map] at hr2
  have e2 : es[m + 1] = e := (List.getElem?_eq_some_iff.1 hi).2
  rw [e2] at hr2
  have hr2 : ltT (es[m]'(by omega)).tag e.tag = true := hr2
  refine ⟨_, rfl, ?_⟩
  have e3 : cmpT (es[m]'(by omega)).tag e.tag = -1 := by rw [cmpT_sgn, if_pos hr2]
  rw [e3]
  exact hR _ (H.fr0 f)
set_option maxHeartbeats 1000000 in
theorem tableBounds_c {s : Slc} {ms : List Mv} (d : Int) (hM : Cel w s 5 (ms.flatMap Mv.c)) (hl : ms.length ≤ 137438953472) :
    Calls PP F_sherdlaw15_TableBounds #[.int .i64 d, s.v] w (Rt fun v w' => v = .bool true ∧ Fr [] w w') := by
  have hsl := hM.flen mv_len (by decide)
  have hn1 := modI_lo d (m := 5) (by decide)
  have hn2 := modI_hi d (m := 5) (by decide)
  obtain ⟨n, hn⟩ := Int.eq_ofNat_of_zero_le hn1
  refine sim_sherdlaw15_TableBounds _ _ _ _ ?_
  unfold vc_sherdlaw15_TableBounds
  refine call (small_c d) ?_
  rintro _ _ ⟨rfl, rfl⟩
  rw [hn]
  refine ⟨_, rfl, call (tnew_c (n : Int)) ?_⟩
  rintro _ w1 (⟨h, _⟩ | ⟨_, p, g, rfl, H⟩)
  · exfalso; rcases h with h | h <;> omega
  have h0 : TabS n [] ⟨n, g, []⟩ := TbOk.new n DB g
  refine ⟨_, _, rfl, fun h => by simp at h, fun _ => H.new fun b18 w2 H => H.new fun b22 w3 H => ?_⟩
  refine ⟨fun i w' => (∃ m : Nat, i = (m : Int) ∧ m ≤ ms.length ∧ ∃ T, TabS n (ms.take m) T ∧ Hp w w' (star (tabA p T) (star (threeA b18 (fl n (feS (ms.take m) (keyB 0))) (fl n (feS (ms.take m) (keyB 1))) (fl n (feS (ms.take m) (keyB 2)))) (star (threeA b22 (top (feS (ms.take m) (keyB 0))) (top (feS (ms.take m) (keyB 1))) (top (feS (ms.take m) (keyB 2)))) emp)))), fun i _ => ms.length - i.toNat, ⟨0, rfl, Nat.zero_le _, _, h0, ?_⟩, ?_⟩
  · have e1 : fl n [] = (0, 0) := fl_zero (Nat.zero_le _)
    have e2 : top [] = (0, 0) := by rw [top_fl]; exact fl_zero (Nat.zero_le _)
    simp only [List.take_zero, feS, List.foldl_nil]
    rw [e1, e2]
    exact (H.blk b22).blk b18 |>.take (tabA p ⟨n, g, []⟩)
  rintro _ w4 ⟨m, rfl, hm, T, hT, H⟩
  refine ⟨fun h => ?_, fun h => ?_⟩
  rotate_left
  · refine call taken_c ?_
    rintro _ w5 ⟨rfl, f⟩
    exact ⟨_, rfl, Rt.ok ⟨rfl, H.fr.then_ f⟩⟩
  have hlt : m < ms.length := by rw [hsl] at h; simp only [decide_eq_true_eq] at h; omega
  have hx : ms[m]? = some ms[m] := List.getElem?_eq_getElem hlt
  have htk : ms.take (m + 1) = ms.take m ++ [ms[m]] := by rw [List.take_succ_eq_append_getElem hlt]
  obtain ⟨a, ha, hc⟩ := Cel.elem mv_len (hM.fr0 H.fr) hx (by decide)
  have ewr : wr .i64 ((m : Int) + 1) = ((m + 1 : Nat) : Int) := by rw [wr64 (by omega) (by omega)]; omega
  generalize hmv : ms[m] = mv at *
  refine ⟨fun w' => ∃ T', TbOk n DB (feS (ms.take (m + 1))) (heS (ms.take (m + 1))) T' ∧ Hp w w' (star (tabA p T') (star (threeA b18 (fl n (feS (ms.take (m + 1)) (keyB 0))) (fl n (feS (ms.take (m + 1)) (keyB 1))) (fl n (feS (ms.take (m + 1)) (keyB 2)))) (star (threeA b22 (top (feS (ms.take (m + 1)) (keyB 0))) (top (feS (ms.take (m + 1)) (keyB 1))) (top (feS (ms.take (m + 1)) (keyB 2)))) emp))), ?_, ?_⟩
  rotate_left
  · rintro w5 ⟨T', hT', H⟩
    exact ⟨⟨m + 1, by rw [ewr], by omega, T', hT', H⟩, by dsimp only; rw [ewr]; omega⟩
  refine ⟨a, ha, by omega, by omega, _, hc 0 _ rfl, _, hc 1 _ rfl, _, hc 2 _ rfl, _, hc 3 _ rfl, _, hc 4 _ rfl, H.new fun b53 w5 H => H.stoAll (b := b53) (by rfl) fun w6 H => ⟨_, H.cell (b := b53) (i := 0) rfl, _, H.cell (b := b53) (i := 1) rfl, _, H.cell (b := b53) (i := 2) rfl, _, H.cell (b := b53) (i := 3) rfl, _, H.cell (b := b53) (i := 4) rfl, ?_⟩⟩
  have htl : (ms.take m).length ≤ 137438953472 := by rw [List.length_take]; omega
  refine move_c (m := mv) hT htl (H.drop) fun T' w7 b hT' _ _ H => ⟨_, _, rfl, ?_⟩
  rw [← htk] at hT'
  have hT' : TbOk n DB (feS (ms.take (m + 1))) (heS (ms.take (m + 1))) T' := hT'
  have hfe : ∀ k, ltT (fl n (feS (ms.take (m + 1)) k)) (fl n (feS (ms.take m) k)) = false := fun k => by
    rw [htk, feS_snoc]; exact upd_fl hT.fe mv.pos _ k
  have htp : ∀ k, ltT (top (feS (ms.take (m + 1)) k)) (top (feS (ms.take m) k)) = false := fun k => by
    rw [htk, feS_snoc, top_fl, top_fl]; exact upd_fl hT.fe mv.pos _ k
  have htl2 : (ms.take (m + 1)).length ≤ 137438953472 := by rw [List.length_take]; omega
  have hb1 := fun k => feS_len (ms.take (m + 1)) k
  have hb2 := fun k => heS_len (ms.take (m + 1)) k
  have hb3 : ∀ k, (feS (ms.take (m + 1)) k).length + (heS (ms.take (m + 1)) k).length ≤ 1099511627776 := fun k => by have := hb1 k; have := hb2 k; omega
  generalize feS (ms.take (m + 1)) = FE at *
  generalize heS (ms.take (m + 1)) = HE at *
  generalize feS (ms.take m) = FE0 at *
  have hkz : ∀ j : Nat, keyB ((j : Nat) : Int) = keyB (j : Int) := fun _ => rfl
  refine ⟨fun i w' => (∃ j : Nat, i = (j : Int) ∧ j ≤ 3 ∧ Hp w w' (star (tabA p T') (arrs b18 b22 j (fun i => fl n (FE (keyB i))) (fun i => fl n (FE0 (keyB i))) (fun i => top (FE (keyB i))) (fun i => top (FE0 (keyB i)))))), fun i _ => 3 - i.toNat, ⟨0, rfl, by omega, H⟩, ?_⟩
  rintro _ w8 ⟨j, rfl, hj, H⟩
  refine ⟨fun h => ?_, fun h => ?_⟩
  rotate_left
  · have : j = 3 := by simp only [decide_eq_false_iff_not] at h; omega
    subst this
    exact ⟨T', hT', H⟩
  have hj3 : j < 3 := by simp only [decide_eq_true_eq] at h; omega
  have ewj : wr .i64 ((j : Int) + 1) = ((j + 1 : Nat) : Int) := by rw [wr64 (by omega) (by omega)]; omega
  refine ⟨fun w' => Hp w w' (star (tabA p T') (arrs b18 b22 (j + 1) (fun i => fl n (FE (keyB i))) (fun i => fl n (FE0 (keyB i))) (fun i => top (FE (keyB i))) (fun i => top (FE0 (keyB i))))), ?_, fun w9 H => ⟨⟨j + 1, by rw [ewj], by omega, H⟩, by dsimp only; rw [ewj]; omega⟩⟩
  refine call (keyOf_c (j : Int)) ?_
  rintro _ w9 ⟨rfl, f⟩
  have H := H.fr0 f
  refine ⟨_, rfl, call (entries_k (keyB j) hT' (fun k t => Nat.le_trans (DB_len k t) (by decide)) (hb3 _) H) ?_⟩
  rintro _ w10 ⟨sE, es, rfl, hes, H⟩
  have hG : GoodE n (FE (keyB j)) (listC n (DB (keyB j)) (FE (keyB j)) (HE (keyB j))) := good (hT'.fe _).1
  rw [← hes] at hG
  have hel : es.length ≤ 1099511627776 := by
    have h1 : es.length = (listC n (DB (keyB j)) (FE (keyB j)) (HE (keyB j))).length := by rw [← hes, List.length_map]
    have h2 := listC_len (n := n) (D := DB (keyB j)) (FE := FE (keyB j)) (HE := HE (keyB j))
    have := hb3 (keyB j)
    omega
  have H := H.assoc
  have hEl := ents_l (s := sE) (es := es) H
  refine ⟨_, rfl, fun c i w' => (∃ q : Nat, i = (q : Int) ∧ q ≤ es.length ∧ c = (((es.take q).countP (·.fin) : Nat) : Int)) ∧ Hp w w' (star (own Ty_api_Entry 5 sE (es.flatMap Ec.c)) (star (all entA es) (star (tabA p T') (arrs b18 b22 j (fun i => fl n (FE (keyB i))) (fun i => fl n (FE0 (keyB i))) (fun i => top (FE (keyB i))) (fun i => top (FE0 (keyB i))))))), fun _ i _ => es.length - i.toNat, ⟨⟨0, rfl, Nat.zero_le _, rfl⟩, H⟩, ?_⟩
  rintro _ _ w11 ⟨⟨q, rfl, hq, rfl⟩, H⟩
  refine ⟨fun h => ?_, fun h => ?_⟩
  · have hqlt : q < es.length := by rw [hEl] at h; simp only [decide_eq_true_eq] at h; omega
    have hxq : es[q]? = some es[q] := List.getElem?_eq_getElem hqlt
    have hmem : es[q].abs ∈ es.map Ec.abs := List.mem_map_of_mem (List.getElem_mem hqlt)
    obtain ⟨aE, haE, hcE⟩ := Cel.elem (enc := Ec.c) ent_len (H.cel (s := sE)) hxq (by decide)
    have hcl : (es.take q).countP (·.fin) ≤ q := Nat.le_trans List.countP_le_length (by simp; omega)
    have e1 : wr .i64 ((q : Int) + 1) = ((q + 1 : Nat) : Int) := by rw [wr64 (by omega) (by omega)]; omega
    have e2 : wr .i64 ((((es.take q).countP (·.fin) : Nat) : Int) + 1) = (((es.take q).countP (·.fin) + 1 : Nat) : Int) := by rw [wr64 (by omega) (by omega)]; omega
    have e3 : es.take (q + 1) = es.take q ++ [es[q]] := by rw [List.take_succ_eq_append_getElem hqlt]
    generalize hE : es[q] = e at *
    refine ⟨aE, haE, by omega, by rw [hEl]; omega, _, hcE 0 _ rfl, _, hcE 1 _ rfl, _, hcE 2 _ rfl, _, hcE 3 _ rfl, _, hcE 4 _ rfl, H.new fun b125 w12 H => H.stoAll (b := b125) (by rfl) fun w13 H => ?_⟩
    refine ⟨fun c w' => c = (((es.take (q + 1)).countP (·.fin) : Nat) : Int) ∧ Hp w w' (star (bk b125 Ty_api_Entry #[.int .i64 e.tag.1, .int .i64 e.tag.2, .bool e.fin, .bool e.has, e.s.v]) (star (own Ty_api_Entry 5 sE (es.flatMap Ec.c)) (star (all entA es) (star (tabA p T') (arrs b18 b22 j (fun i => fl n (FE (keyB i))) (fun i => fl n (FE0 (keyB i))) (fun i => top (FE (keyB i))) (fun i => top (FE0 (keyB i)))))))), ⟨_, H.cell (b := b125) (i := 2) rfl, fun h => ⟨?_, H⟩, fun h => ⟨?_, H⟩⟩, ?_⟩
    · rw [e2, e3, List.countP_append]; simp [h]
    · rw [e3, List.countP_append]; simp [h]
    rintro _ w14 ⟨rfl, H⟩
    obtain ⟨R, hR⟩ : ∃ R : Bool → World → Prop, R = (fun b w' => b = false ∧ Hp w w' (star (bk b125 Ty_api_Entry #[.int .i64 e.tag.1, .int .i64 e.tag.2, .bool e.fin, .bool e.has, e.s.v]) (star (own Ty_api_Entry 5 sE (es.flatMap Ec.c)) (star (all entA es) (star (tabA p T') (arrs b18 b22 j (fun i => fl n (FE (keyB i))) (fun i => fl n (FE0 (keyB i))) (fun i => top (FE (keyB i))) (fun i => top (FE0 (keyB i))))))))) := ⟨_, rfl⟩
    refine ⟨R, ?_, ?_⟩
    rotate_left
    · intro b w15 hb
      rw [hR] at hb
      obtain ⟨rfl, H⟩ := hb
      exact ⟨fun h => by simp at h, fun _ => ⟨⟨⟨q + 1, by rw [e1], by omega, rfl⟩, H.drop⟩, by dsimp only; rw [e1]; omega⟩⟩
    have H := H.drew 1
    refine ⟨_, H.cell2 (b := b125) (i := 0) (j := 0) rfl, _, H.cell2 (b := b125) (i := 0) (j := 1) rfl, call (floor_k (keyB j) hT' (hb3 _) (H.take (tabA p T'))) ?_⟩
    rintro _ w15 ⟨rfl, H⟩
    refine ⟨_, _, rfl, H.cell2 (b := b125) (i := 0) (j := 0) rfl, H.cell2 (b := b125) (i := 0) (j := 1) rfl, call (compare_c e.tag (fl n (FE (keyB j))) _) ?_⟩
    rintro _ w16 ⟨rfl, f⟩
    have H := (((H.fr0 f).take (all entA es)).own sE).blk b125
    refine ⟨_, rfl, ?_⟩
    have hab : ltT e.tag (fl n (FE (keyB j))) = false := hG.above _ hmem
    rw [cmpT_lt, hab]
    refine ⟨fun h => by simp at h, fun _ => ⟨_, H.cell (b := b125) (i := 2) rfl, fun h => ⟨_, H.cell (b := b125) (i := 3) rfl, fun h2 => ?_, fun _ => ?_⟩, fun _ => ?_⟩⟩
    · exfalso
      rcases hG.some _ hmem with h3 | h3
      · have h3 : e.fin = true := h3
        rw [h3] at h; simp at h
      · have h3 : e.has = true := h3
        rw [h3] at h2; simp at h2
    · exact prev_c (R := R) hel hxq hG.rise H fun w' H => by rw [hR]; exact ⟨rfl, H⟩
    · exact prev_c (R := R) hel hxq hG.rise H fun w' H => by rw [hR]; exact ⟨rfl, H⟩
  · have hqe : q = es.length := by rw [hEl] at h; simp only [decide_eq_false_iff_not] at h; omega
    subst hqe
    have H := H.drop.drop
    have hcnt : es.countP (·.fin) ≤ n + 1 := by
      have := hG.fins
      rw [List.countP_map] at this
      exact this
    rw [List.take_length]
    have ewn : wr .i64 ((n : Int) + 1) = (n : Int) + 1 := by rw [wr64 (by omega) (by omega)]
    refine ⟨fun b w' => b = false ∧ Hp w w' (star (tabA p T') (arrs b18 b22 j (fun i => fl n (FE (keyB i))) (fun i => fl n (FE0 (keyB i))) (fun i => top (FE (keyB i))) (fun i => top (FE0 (keyB i))))), ⟨fun h => ?_, fun _ => ⟨by omega, by omega, ?_⟩⟩, ?_⟩
    · rw [ewn] at h; simp only [decide_eq_true_eq] at h; omega
    · have H := H.drew 1
      obtain ⟨g1, g2⟩ := three_get (f := sel j (fun i => fl n (FE (keyB i))) (fun i => fl n (FE0 (keyB i)))) H.swap hj3
      have ej : sel j (fun i => fl n (FE (keyB i))) (fun i => fl n (FE0 (keyB i))) j = fl n (FE0 (keyB j)) := by unfold sel; rw [if_neg (Nat.lt_irrefl j)]
      rw [ej] at g1 g2
      rw [Int.toNat_natCast]
      refine ⟨_, g1, _, g2, call (floor_k (keyB j) hT' (hb3 _) H) ?_⟩
      rintro _ w12 ⟨rfl, H⟩
      obtain ⟨g1, g2⟩ := three_get (f := sel j (fun i => fl n (FE (keyB i))) (fun i => fl n (FE0 (keyB i)))) H.swap hj3
      rw [ej] at g1 g2
      refine ⟨_, _, rfl, g1, g2, call (compare_c (fl n (FE (keyB j))) (fl n (FE0 (keyB j))) _) ?_⟩
      rintro _ w13 ⟨rfl, f⟩
      have H := H.fr0 f
      refine ⟨_, rfl, ?_⟩
      rw [cmpT_lt, hfe]
      refine ⟨fun h => by simp at h, fun _ => ⟨by omega, by omega, ?_⟩⟩
      obtain ⟨g1, g2⟩ := three_get (f := sel j (fun i => top (FE (keyB i))) (fun i => top (FE0 (keyB i)))) H.swap.drop.swap hj3
      have ej : sel j (fun i => top (FE (keyB i))) (fun i => top (FE0 (keyB i))) j = top (FE0 (keyB j)) := by unfold sel; rw [if_neg (Nat.lt_irrefl j)]
      rw [ej] at g1 g2
      refine ⟨_, g1, _, g2, call (top_k (keyB j) hT' (hb3 _) H) ?_⟩
      rintro _ w14 ⟨rfl, H⟩
      obtain ⟨g1, g2⟩ := three_get (f := sel j (fun i => top (FE (keyB i))) (fun i => top (FE0 (keyB i)))) H.swap.drop.swap hj3
      rw [ej] at g1 g2
      refine ⟨_, _, rfl, g1, g2, call (compare_c (top (FE (keyB j))) (top (FE0 (keyB j))) _) ?_⟩
      rintro _ w15 ⟨rfl, f⟩
      refine ⟨_, rfl, ?_, H.fr0 f⟩
      rw [cmpT_lt, htp]
    · rintro b w12 ⟨rfl, H⟩
      refine ⟨fun h => by simp at h, fun _ => call (floor_k (keyB j) hT' (hb3 _) H) ?_⟩
      rintro _ w13 ⟨rfl, H⟩
      rw [Int.toNat_natCast]
      refine ⟨_, _, rfl, by omega, by omega, three_set (f := fun i => fl n (FE (keyB i))) H.swap hj3 fun w14 H => ?_⟩
      refine call (top_k (keyB j) hT' (hb3 _) H.swap) ?_
      rintro _ w15 ⟨rfl, H⟩
      refine ⟨_, _, rfl, by omega, by omega, three_set (f := fun i => top (FE (keyB i))) (H.swap.ent (Ent.star (Ent.refl _) left)).swap hj3 fun w16 H => ?_⟩
      exact (H.swap.ent (Ent.star (Ent.refl _) left)).swap
end
end Go.Proofs.Ytgnceldnfefnmaa
