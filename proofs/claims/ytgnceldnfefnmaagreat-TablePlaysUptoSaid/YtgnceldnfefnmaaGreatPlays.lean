/-
  Contract of TablePlays: every answer of every script over two tables is the document's.
-/
import Derived.Test.YtgnceldnfefnmaaGreatPlay
namespace Go.Tab
open Go Go.Vc
structure Opn where
  kind : Int
  t : Int
  u : Upt
  key : ByteArray
  tag : Tg
  n : Int
def Opn.c (o : Opn) : List Value := [.int .i64 o.kind, .int .i64 o.t, .int .i64 o.u.kind, .string o.u.key, .int .i64 o.u.tag.1, .int .i64 o.u.tag.2, .bool o.u.fin, .bool o.u.has, o.u.s.v, .string o.key, .int .i64 o.tag.1, .int .i64 o.tag.2, .int .i64 o.n]
end Go.Tab
namespace Go.Proofs.YtgnceldnfefnmaaGreat
open Go Go.Vc Go.Vc.Asn Go.Tab Go.Sort
section
variable {w0 w : World} {F F' : Asn} {m : Nat} {x : Option Sl}
theorem get0_c {k : ByteArray} {t : Tg} : Calls PP F_table_Table_Get #[.pointer none, .string k, t.v] w (Rt fun v w' => ∃ s' : Slc, v = .tuple #[Ec.v { zeroE with s := s' }, .bool false] ∧ Hp w w' (star (own Ty_uint8 1 s' []) emp)) := by
  refine sim_table_Table_Get _ _ _ _ _ _ ?_
  unfold vc_table_Table_Get
  refine (Hp.start w).new fun b6 w1 H => H.new fun b9 w2 H => ⟨fun _ => ?_, fun h => by simp at h⟩
  exact H.stoAll (b := b9) (by rfl) fun w4 H => ⟨_, H.cell (b := b9) (i := 0) rfl, _, H.cell (b := b9) (i := 1) rfl, _, H.cell (b := b9) (i := 2) rfl, _, H.cell (b := b9) (i := 3) rfl, _, H.cell (b := b9) (i := 4) rfl, Rt.ok ⟨Slc.nil, rfl, H.drop.drop.nilRow _ _⟩⟩
theorem look_at {l : Sc} {t : Tg} (hn : (l.map (·.1)).Nodup) (H : Hp w0 w (star (all dataA l) F)) : Byt w (lookE l t).s (lookE l t).data := by
  unfold lookE
  cases hl : llook l t with
  | none => exact ⟨rfl, by decide, fun i v hv => by simp [zeroE] at hv⟩
  | some e => exact data_at hn (llook_mem hl) H
theorem lkpS2 {mo : Option Nat} {l : Sc} (H : Hp w0 w (star (mpO mo l) F)) {t : Tg} {K : Value → Prop} (h : K (.tuple #[(lookE l t).v, .bool (llook l t).isSome])) : Lkp PP Ty_table_shelf true w (.map mo) t.v K := by
  cases mo with
  | none =>
    obtain ⟨rfl, _⟩ := H.lift
    exact lkp0 keyT_tag und_shelf (zero_entry w) h
  | some g =>
    have H : Hp w0 w (star (mpS g l) F) := H
    refine Hp.lkp (ev := Ec.v) (l := l) (F := F) H keyT_tag und_shelf (zero_entry w) ?_
    simp only [if_true]
    have e : ((llook l t).map Ec.v).getD zeroE.v = (lookE l t).v := by
      unfold lookE
      cases llook l t <;> rfl
    rw [e]
    exact h
set_option maxHeartbeats 1000000 in
theorem get_c {p : Nat} {T : Tc} {k : ByteArray} {t : Tg} (hn : ((T.sh k).map (·.1)).Nodup) (hdl : (lookE (T.sh k) t).data.length ≤ 1099511627776) (H : Hp w0 w (star (tabA p T) F)) :
    Calls PP F_table_Table_Get #[.pointer (some (blk p)), .string k, t.v] w (Rt fun v w' => ∃ s' : Slc, v = .tuple #[Ec.v { lookE (T.sh k) t with s := s' }, .bool (llook (T.sh k) t).isSome] ∧ Hp w0 w' (star (own Ty_uint8 1 s' ((lookE (T.sh k) t).data.map u8v)) (star (tabA p T) F))) := by
  have hnk := tab_keys H
  refine sim_table_Table_Get _ _ _ _ _ _ ?_
  unfold vc_table_Table_Get
  have H := openT k H
  refine H.new fun b6 w1 H => H.new fun b9 w2 H => ⟨fun h => by simp at h, fun _ => ⟨_, rfl, ?_⟩⟩
  generalize hE : lookE (T.sh k) t = E at *
  generalize hO : (llook (T.sh k) t).isSome = ok at *
  refine ⟨some T.gk, t.1, t.2, fun a b c d w' => (∀ m, a = some m → m = T.mo k) ∧ (∀ y, b = some y → y = (E.tag.1, E.tag.2, E.fin, E.has, E.s, ok)) ∧ match c, d with
    | none, none => Hp w0 w' (star (bk b9 Ty_api_Entry #[.int .i64 0, .int .i64 0, .bool false, .bool false, Slc.nil.v]) (star (bk b6 Ty_api_Tag #[.int .i64 t.1, .int .i64 t.2]) (star (mpO (T.mo k) (T.sh k)) (openR p T k F))))
    | some b51, none => Hp w0 w' (star (bk b51 Ty_api_Entry #[.int .i64 0, .int .i64 0, .bool false, .bool false, Slc.nil.v]) (star (bk b9 Ty_api_Entry #[.int .i64 0, .int .i64 0, .bool false, .bool false, Slc.nil.v]) (star (bk b6 Ty_api_Tag #[.int .i64 t.1, .int .i64 t.2]) (star (mpO (T.mo k) (T.sh k)) (openR p T k F)))))
    | some b51, some _ => Hp w0 w' (star (bk b51 Ty_api_Entry E.c.toArray) (star (bk b9 Ty_api_Entry #[.int .i64 0, .int .i64 0, .bool false, .bool false, Slc.nil.v]) (star (bk b6 Ty_api_Tag #[.int .i64 t.1, .int .i64 t.2]) (star (mpO (T.mo k) (T.sh k)) (openR p T k F)))))
    | none, some _ => False, ?_, ?_, ?_, ?_, ?_, ?_, ?_, ?_⟩
  · exact ⟨(fun m h => nomatch h), (fun y h => nomatch h), H.drew 1⟩
  · rintro o w3 ⟨_, _, h⟩
    cases o with
    | none => exact Hp.cell (b := p) (i := 1) h rfl
    | some b => exact Hp.cell (b := p) (i := 1) h rfl
  · rintro o1 o w3 ⟨_, _, h⟩
    cases o with
    | none => exact ⟨Hp.cell (b := b6) (i := 0) h rfl, Hp.cell (b := b6) (i := 1) h rfl⟩
    | some b => exact ⟨Hp.cell (b := b6) (i := 0) h rfl, Hp.cell (b := b6) (i := 1) h rfl⟩
  · rintro o w3 ⟨h1, h2, h⟩
    cases o with
    | none => exact lkpK (T := T) h ⟨_, rfl, (fun m h => by injection h with h; exact h.symm), h2, h⟩
    | some b => exact lkpK (T := T) h ⟨_, rfl, (fun m h => by injection h with h; exact h.symm), h2, h⟩
  · rintro mo o w3 ⟨h1, h2, h⟩
    obtain rfl := h1 mo rfl
    cases o with
    | none =>
      refine lkpS2 (t := t) (Hp.take (mpO (T.mo k) (T.sh k)) h) ?_
      rw [hE, hO]
      exact ⟨_, _, _, _, _, _, rfl, h1, (fun y h => by injection h with h; exact h.symm), h⟩
    | some b =>
      refine lkpS2 (t := t) (Hp.take (mpO (T.mo k) (T.sh k)) h) ?_
      rw [hE, hO]
      exact ⟨_, _, _, _, _, _, rfl, h1, (fun y h => by injection h with h; exact h.symm), h⟩
  · rintro o1 o2 w3 ⟨h1, h2, h⟩
    exact Hp.new h fun b51 w4 H => ⟨h1, h2, H⟩
  · rintro mo C1 C2 f1 f2 D1 o1 b51 w3 ⟨h1, h2, h⟩
    have e := h2 _ rfl
    simp only [Prod.mk.injEq] at e
    obtain ⟨e1, e2, e3, e4, e5, e6⟩ := e
    rw [e1, e2, e3, e4, e5]
    exact Hp.stoAll (b := b51) h (by rfl) fun w4 H => ⟨h1, (fun y hy => by injection hy with hy; rw [← hy, e6]), H⟩
  · rintro mo C1 C2 f1 f2 D1 o1 b51 w3 ⟨h1, h2, h⟩
    have e := h2 _ rfl
    simp only [Prod.mk.injEq] at e
    obtain ⟨e1, e2, e3, e4, e5, e6⟩ := e
    have H : Hp w0 w3 (star (bk b51 Ty_api_Entry E.c.toArray) (star (bk b9 Ty_api_Entry #[.int .i64 0, .int .i64 0, .bool false, .bool false, Slc.nil.v]) (star (bk b6 Ty_api_Tag #[.int .i64 t.1, .int .i64 t.2]) (star (mpO (T.mo k) (T.sh k)) (openR p T k F))))) := h
    refine ⟨_, H.cell (b := b51) (i := 0) rfl, _, H.cell (b := b51) (i := 1) rfl, _, H.cell (b := b51) (i := 2) rfl, _, H.cell (b := b51) (i := 3) rfl, _, H.cell (b := b51) (i := 4) rfl, ?_⟩
    have hb : Byt w3 E.s E.data := by rw [← hE]; exact look_at hn (H.take (all dataA (T.sh k)))
    refine call (copied_c (e := E) hb hdl) ?_
    rintro _ w4 ⟨s', rfl, K⟩
    have H := H.join K
    refine ⟨_, _, _, _, _, rfl, H.stoAll (b := b9) (by rfl) fun w5 H => ⟨_, H.cell (b := b9) (i := 0) rfl, _, H.cell (b := b9) (i := 1) rfl, _, H.cell (b := b9) (i := 2) rfl, _, H.cell (b := b9) (i := 3) rfl, _, H.cell (b := b9) (i := 4) rfl, Rt.ok ⟨s', by rw [e6]; rfl, ?_⟩⟩⟩
    have H := ((((H.blk b9).drop.blk b51).drop).blk b6).drop
    exact closeX k hnk H
theorem t_get {k : ByteArray} {t : Tg} (hx : Okm m x) (hm : m ≤ 1073741824) (H : Hp w0 w (star (slotA x) F)) : Calls PP F_table_Table_Get #[.pointer (tpv x), .string k, t.v] w (Rt fun v w' => ∃ e : Ec, v = .tuple #[e.v, .bool (getM x k t).2] ∧ e.abs = (getM x k t).1 ∧ Hp w0 w' (star (own Ty_uint8 1 e.s (e.data.map u8v)) (star (slotA x) F))) := by
  cases x with
  | none =>
    refine Rt.mono get0_c ?_
    rintro v w' ⟨s', rfl, K⟩
    exact ⟨{ zeroE with s := s' }, rfl, rfl, H.join K⟩
  | some x =>
    obtain ⟨h, hl⟩ := hx
    have ht := h.tell (by omega)
    have hd : (lookE (x.T.sh k) t).data.length ≤ 1099511627776 := by
      unfold lookE
      cases hh : llook (x.T.sh k) t with
      | none => exact Nat.zero_le _
      | some e => exact ht.data k _ (llook_mem hh)
    refine Rt.mono (get_c (h.t.sh k).keys hd H.assoc) ?_
    rintro v w' ⟨s', rfl, H⟩
    obtain ⟨g1, g2⟩ := h.t.look_eq h.f.r k t
    exact ⟨{ lookE (x.T.sh k) t with s := s' }, by rw [g2]; rfl, g1, H.ent (Ent.star (Ent.refl _) Asn.assoc')⟩
theorem r_get {k : ByteArray} {t : Tg} (hx : Okm m x) (hm : m ≤ 1073741824) (H : Hp w0 w (star (slotA x) F)) : Calls PP F_sherdref15_Table_Get #[.pointer (rpv x), .string k, t.v] w (Rt fun v w' => ∃ e : Ec, v = .tuple #[e.v, .bool (getM x k t).2] ∧ e.abs = (getM x k t).1 ∧ Hp w0 w' (star (own Ty_uint8 1 e.s (e.data.map u8v)) (star (slotA x) F))) := by
  cases x with
  | none =>
    refine Rt.mono rget0_r ?_
    rintro v w' ⟨s', rfl, K⟩
    exact ⟨{ zeroE with s := s' }, rfl, rfl, H.join K⟩
  | some x =>
    obtain ⟨h, hl⟩ := hx
    refine Rt.mono (rget_r (by omega) (by rw [← h.f.s.sh]; exact h.f.nd k) h.f.data H.assoc.swap) ?_
    rintro v w' ⟨s', rfl, H⟩
    exact ⟨{ lookE (rsh x.R.rows k) t with s := s' }, by rw [← h.f.s.sh]; rfl, by rw [← h.f.s.sh]; rfl, H.ent (Ent.star (Ent.refl _) (left.trans Asn.assoc'))⟩
theorem cutA (s : Slc) (k : Nat) : (s.cut 1 0 k).a = s.a := by
  cases s with
  | mk a l c =>
    unfold Slc.cut
    simp only
    split
    · rfl
    · cases a <;> simp [Addr.add]
theorem byt_cut {s : Slc} {bs : List UInt8} {y : UInt8} (h : Cel w s 1 ((bs ++ [y]).map u8v)) : Byt w (s.cut 1 0 bs.length) bs := by
  have hl := h.len
  have h2 := Cel.cut h (l := 0) (k := bs.length) (Nat.zero_le _) (by simp at hl; omega)
  have e : ((((bs ++ [y]).map u8v).drop (0 * 1)).take ((bs.length - 0) * 1)) = bs.map u8v := by simp
  rw [e] at h2
  exact h2
theorem roomy_c {u : Upt} (hb : Byt w u.s u.data) (hbl : u.data.length ≤ 549755813888) : Calls PP F_sherdlaw15_roomy #[.agg u.c.toArray] w (Rt fun v w' => ∃ s2 : Slc, v = .agg (Upt.c { u with s := s2.cut 1 0 u.data.length }).toArray ∧ Hp w w' (star (own Ty_uint8 1 s2 ((u.data ++ [90]).map u8v)) emp)) := by
  refine sim_sherdlaw15_roomy _ _ _ _ _ _ _ _ _ ?_
  unfold vc_sherdlaw15_roomy
  have hlen := hb.len
  refine (Hp.start w).new fun b9 w1 H => H.new fun b12 w2 H => ?_
  refine Hp.app (s := Slc.nil) slT_sl_uint8 (H.nilRow Ty_uint8 1) (hb.fr0 H.fr) (one_u8 _) (by unfold maxLen; simp only [Slc.nil]; omega) (by simp only [Slc.nil]; omega) fun s17 w3 H hs17 => ?_
  rw [List.nil_append] at H
  have H := H.drew 1
  refine ⟨_, H.cell2 (b := b9) (i := 2) (j := 4) rfl, H.newRow (e := Ty_uint8) (n := 1) (size := 1) [.int .u8 90] rfl rfl (by decide) fun b23 w4 H => ⟨H.cell2 (b := b9) (i := 2) (j := 4) rfl, ?_⟩⟩
  simp only [Slc.nil] at hs17
  refine H.app (s := s17) slT_sl_uint8 (H.cel (s := ⟨some (blk b23), 1, 1⟩)) (fun v hv => by simp at hv; subst hv; rfl) (by unfold maxLen; simp only; omega) (by simp only; omega) fun s27 w5 H hs27 => ?_
  simp only at hs27
  have hcap := (H.cel (s := s27)).cap
  rw [show u.s.l = u.data.length from hlen.trans (by simp)]
  refine ⟨H.cell2 (b := b9) (i := 2) (j := 4) rfl, by omega, by omega, by omega, ?_⟩
  rw [Int.toNat_natCast]
  refine H.sto2 (b := b9) (i := 2) (j := 4) (by show 6 < 7; decide) fun w6 H => ⟨_, H.cell (b := b9) (i := 0) rfl, _, H.cell (b := b9) (i := 1) rfl, _, H.cell (b := b9) (i := 2) rfl, _, H.cell (b := b9) (i := 3) rfl, _, H.cell (b := b9) (i := 4) rfl, _, H.cell (b := b9) (i := 5) rfl, _, H.cell (b := b9) (i := 6) rfl, H.stoAll (b := b12) (by rfl) fun w7 H =>
    ⟨_, H.cell (b := b12) (i := 0) rfl, _, H.cell (b := b12) (i := 1) rfl, _, H.cell (b := b12) (i := 2) rfl, _, H.cell (b := b12) (i := 3) rfl, _, H.cell (b := b12) (i := 4) rfl, _, H.cell (b := b12) (i := 5) rfl, _, H.cell (b := b12) (i := 6) rfl, Rt.ok ⟨s27, rfl, ?_⟩⟩⟩
  have H := (((H.blk b12).drop.blk b9).drop.own ⟨some (blk b23), 1, 1⟩).drop
  rw [List.map_append]
  exact H
theorem untouched_c {u : Upt} {s2 : Slc} (hb : Byt w u.s u.data) (hbl : u.data.length ≤ 549755813888) (h2 : Cel w s2 1 ((u.data ++ [90]).map u8v)) : Calls PP F_sherdlaw15_untouched #[.agg (Upt.c { u with s := s2.cut 1 0 u.data.length }).toArray, .agg u.c.toArray] w (Rt fun v w' => v = .bool true ∧ Fr [] w w') := by
  refine sim_sherdlaw15_untouched _ _ _ _ _ _ _ _ _ _ _ _ _ _ _ _ ?_
  unfold vc_sherdlaw15_untouched
  have hlen := hb.len
  have hl : u.s.l = u.data.length := by simpa using hlen
  refine (Hp.start w).new fun b16 w1 H => H.new fun _ w2 H => ?_
  refine ⟨fun b w' => b = true ∧ Hp w w' (star (bk b16 Ty_api_Update (Upt.c { u with s := s2.cut 1 0 u.data.length }).toArray) emp), ⟨fun _ => call (sameEntry_c (a := ⟨u.tag, u.fin, u.has, s2.cut 1 0 u.data.length, u.data⟩) (b := ⟨u.tag, u.fin, u.has, u.s, u.data⟩) (byt_cut (h2.fr0 H.fr)) (hb.fr0 H.fr)) ?_, fun h => by simp at h⟩, ?_⟩
  · rintro _ w3 ⟨rfl, f⟩
    exact ⟨_, rfl, by simp [Ec.abs], (H.fr0 f).blk b16 |>.ent (Ent.star (Ent.refl _) (fun w S h => by exact h)) |> fun H => H.swap.drop⟩
  rintro _ w3 ⟨rfl, H⟩
  have h3 := h2.fr0 H.fr
  have hl2 : s2.l = u.data.length + 1 := by have := h3.len; simp at this; omega
  have hcap := h3.cap
  obtain ⟨p, hp, hc⟩ := h3.at_ u.data.length (.int .u8 90) (by simp [u8v])
  have ewr : wr .i64 ((u.s.l : Int) + 1) = ((u.data.length + 1 : Nat) : Int) := by rw [hl, wr64 (by omega) (by omega)]; omega
  have hcc : (s2.cut 1 0 u.data.length).c = s2.c := rfl
  refine ⟨true, fun _ => ⟨_, H.cell2 (b := b16) (i := 2) (j := 4) rfl, by omega, by rw [ewr]; omega, by rw [ewr, hcc]; omega, p, by rw [ewr, Int.toNat_natCast]; show ((s2.cut 1 0 u.data.length).cut 1 0 _).a = _; rw [cutA, cutA]; exact hp, by omega, by rw [ewr, Int.toNat_natCast, hl]; show ((u.data.length : Nat) : Int) < ((u.data.length + 1 - 0 : Nat) : Int); omega, 90, by rw [hl, Int.toNat_natCast, Nat.mul_one]; exact hc, by simp⟩, fun h => (nomatch h), Rt.ok ⟨rfl, H.fr⟩⟩
theorem Rdy.cut {s2 : Slc} {bs : List UInt8} {y : UInt8} {e : Nat} [TakeS s2 F e 1 ((bs ++ [y]).map u8v) F'] : Rdy w0 F (s2.cut 1 0 bs.length) bs := fun _ _ H => byt_cut (y := y) (H.cel (s := s2) (size := 1))
set_option maxHeartbeats 2000000 in
theorem does_c {o : Opn} (hx : Okm m x) (hm : m ≤ 1073741824) (hb : Byt w0 o.u.s o.u.data) (hbl : o.u.data.length ≤ 549755813888) (H : Hp w0 w (star (slotA x) F)) :
    Calls PP F_sherdlaw15_does #[.pointer (tpv x), .pointer (rpv x), .agg o.c.toArray] w (Rt fun v w' => v = .bool true ∧ ∃ y, Okm (m + 1) y ∧ tpv y = tpv x ∧ rpv y = rpv x ∧ Hp w0 w' (star (slotA y) F)) := by
  refine sim_sherdlaw15_does _ _ _ _ _ _ _ _ _ _ _ _ _ _ _ _ _ ?_
  unfold vc_sherdlaw15_does
  refine H.new fun b17 w1 H => call (roomy_c (u := o.u) (hb.fr0 H.fr) hbl) ?_
  rintro _ w2 ⟨s2, rfl, K⟩
  have H := H.join K
  refine ⟨_, _, _, _, _, _, _, rfl, H.new fun b29 w3 H => H.stoAll (b := b29) (by rfl) fun w4 H => ⟨_, H.cell (b := b17) (i := 0) rfl, fun h1 => ?_, fun h1 => ?_⟩⟩
  · have hx1 : Okm (m + 1) x := by
      cases x with
      | none => trivial
      | some x => exact ⟨hx.1, by have := hx.2; omega⟩
    refine ⟨_, H.cell2 (b := b17) (i := 2) (j := 0) rfl, _, H.cell2 (b := b17) (i := 2) (j := 1) rfl, _, H.cell2 (b := b17) (i := 2) (j := 2) rfl, _, H.cell2 (b := b17) (i := 2) (j := 3) rfl, _, H.cell2 (b := b17) (i := 2) (j := 4) rfl, _, H.cell2 (b := b17) (i := 2) (j := 5) rfl, _, H.cell2 (b := b17) (i := 2) (j := 6) rfl, call (r_would (u := o.u) hx hm (Rdy.old hb) (by omega) (H.take (slotA x))) ?_⟩
    rintro _ w5 ⟨rfl, H⟩
    refine ⟨_, _, rfl, _, H.cell (b := b29) (i := 0) rfl, _, H.cell (b := b29) (i := 1) rfl, _, H.cell (b := b29) (i := 2) rfl, _, H.cell (b := b29) (i := 3) rfl, _, H.cell (b := b29) (i := 4) rfl, _, H.cell (b := b29) (i := 5) rfl, _, H.cell (b := b29) (i := 6) rfl, call (t_would (u := { o.u with s := s2.cut 1 0 o.u.data.length }) hx hm (Rdy.cut (s2 := s2) (y := 90)) H) ?_⟩
    rintro _ w6 ⟨rfl, H⟩
    have hout : outU x { o.u with s := s2.cut 1 0 o.u.data.length } = outU x o.u := by cases x <;> rfl
    rw [hout]
    refine ⟨_, _, rfl, fun b w' => b = true ∧ Hp w0 w' (star (slotA x) F), ⟨fun _ => ?_, fun h => ?_⟩, ?_⟩
    · refine ⟨_, H.cell (b := b29) (i := 0) rfl, _, H.cell (b := b29) (i := 1) rfl, _, H.cell (b := b29) (i := 2) rfl, _, H.cell (b := b29) (i := 3) rfl, _, H.cell (b := b29) (i := 4) rfl, _, H.cell (b := b29) (i := 5) rfl, _, H.cell (b := b29) (i := 6) rfl, _, H.cell2 (b := b17) (i := 2) (j := 0) rfl, _, H.cell2 (b := b17) (i := 2) (j := 1) rfl, _, H.cell2 (b := b17) (i := 2) (j := 2) rfl, _, H.cell2 (b := b17) (i := 2) (j := 3) rfl, _, H.cell2 (b := b17) (i := 2) (j := 4) rfl, _, H.cell2 (b := b17) (i := 2) (j := 5) rfl, _, H.cell2 (b := b17) (i := 2) (j := 6) rfl, call (untouched_c (u := o.u) (hb.fr0 H.fr) hbl (H.cel (s := s2))) ?_⟩
      rintro _ w7 ⟨rfl, f⟩
      have H := H.fr0 f
      exact ⟨_, rfl, rfl, (((((H.own s2).drop.blk b29).drop).blk b17).drop)⟩
    · simp at h
    · rintro _ w7 ⟨rfl, H⟩
      exact Rt.ok ⟨rfl, x, hx1, rfl, rfl, H⟩
  · refine ⟨_, H.cell2 (b := b17) (i := 2) (j := 0) rfl, _, H.cell2 (b := b17) (i := 2) (j := 1) rfl, _, H.cell2 (b := b17) (i := 2) (j := 2) rfl, _, H.cell2 (b := b17) (i := 2) (j := 3) rfl, _, H.cell2 (b := b17) (i := 2) (j := 4) rfl, _, H.cell2 (b := b17) (i := 2) (j := 5) rfl, _, H.cell2 (b := b17) (i := 2) (j := 6) rfl, call (r_apply (u := o.u) hx hm (Rdy.old hb) (by omega) (H.take (slotA x))) ?_⟩
    rintro _ w5 ⟨z, rfl, hz, ez1, ez2, H⟩
    rw [← ez1]
    refine ⟨_, _, rfl, _, H.cell (b := b29) (i := 0) rfl, _, H.cell (b := b29) (i := 1) rfl, _, H.cell (b := b29) (i := 2) rfl, _, H.cell (b := b29) (i := 3) rfl, _, H.cell (b := b29) (i := 4) rfl, _, H.cell (b := b29) (i := 5) rfl, _, H.cell (b := b29) (i := 6) rfl, call (t_apply (u := o.u) (s' := s2.cut 1 0 o.u.data.length) hz hm (Rdy.cut (s2 := s2) (y := 90)) (by omega) H) ?_⟩
    rintro _ w6 ⟨y, rfl, hy, ey1, ey2, H⟩
    refine ⟨_, _, rfl, fun b w' => b = true ∧ Hp w0 w' (star (bk b29 Ty_api_Update (Upt.c { o.u with s := s2.cut 1 0 o.u.data.length }).toArray) (star (own Ty_uint8 1 s2 ((o.u.data ++ [90]).map u8v)) (star (slotA y) F))), ⟨fun _ => ?_, fun h => ?_⟩, ?_⟩
    · refine ⟨_, H.cell (b := b29) (i := 0) rfl, _, H.cell (b := b29) (i := 1) rfl, _, H.cell (b := b29) (i := 2) rfl, _, H.cell (b := b29) (i := 3) rfl, _, H.cell (b := b29) (i := 4) rfl, _, H.cell (b := b29) (i := 5) rfl, _, H.cell (b := b29) (i := 6) rfl, _, H.cell2 (b := b17) (i := 2) (j := 0) rfl, _, H.cell2 (b := b17) (i := 2) (j := 1) rfl, _, H.cell2 (b := b17) (i := 2) (j := 2) rfl, _, H.cell2 (b := b17) (i := 2) (j := 3) rfl, _, H.cell2 (b := b17) (i := 2) (j := 4) rfl, _, H.cell2 (b := b17) (i := 2) (j := 5) rfl, _, H.cell2 (b := b17) (i := 2) (j := 6) rfl, call (untouched_c (u := o.u) (hb.fr0 H.fr) hbl (H.cel (s := s2))) ?_⟩
      rintro _ w7 ⟨rfl, f⟩
      have H := H.fr0 f
      exact ⟨_, rfl, rfl, (((H.blk b17).drop.own s2).blk b29)⟩
    · simp at h
    rintro _ w7 ⟨rfl, H⟩
    refine ⟨_, H.cell2 (b := b29) (i := 2) (j := 4) rfl, ?_⟩
    refine ⟨fun i w' => ∃ (j : Nat) (cs : List Value), i = (j : Int) ∧ j ≤ o.u.data.length ∧ cs.length = o.u.data.length + 1 ∧ Hp w0 w' (star (bk b29 Ty_api_Update (Upt.c { o.u with s := s2.cut 1 0 o.u.data.length }).toArray) (star (own Ty_uint8 1 s2 cs) (star (slotA y) F))), fun i _ => o.u.data.length - i.toNat, ⟨0, _, rfl, Nat.zero_le _, by simp, H⟩, ?_⟩
    rintro _ w8 ⟨j, cs, rfl, hj, hcs, H⟩
    have hcl : (s2.cut 1 0 o.u.data.length).l = o.u.data.length := rfl
    refine ⟨fun h => ?_, fun h => ?_⟩
    · have hlt : j < o.u.data.length := by rw [hcl] at h; simp only [decide_eq_true_eq] at h; omega
      obtain ⟨p, hp, _⟩ := (H.cel (s := s2)).get (i := 0) (by omega)
      have ewr : wr .i64 ((j : Int) + 1) = ((j + 1 : Nat) : Int) := by rw [wr64 (by omega) (by omega)]; omega
      refine ⟨_, H.cell2 (b := b29) (i := 2) (j := 4) rfl, p, by rw [cutA]; exact hp, by omega, by rw [hcl]; omega, ?_⟩
      rw [Int.toNat_natCast, Nat.mul_one]
      refine (H.own s2).stoS (s := s2) (i := j) (by omega) hp fun w9 H => ⟨⟨j + 1, _, by rw [ewr], by omega, ?_, H.blk b29⟩, by dsimp only; rw [ewr]; omega⟩
      rw [List.length_set]
      exact hcs
    · exact Rt.ok ⟨rfl, y, hy, ey1, ey2.trans ez2, H.drop.drop⟩
theorem sameKeys_c {a b : Slc} {xs : List ByteArray} (hl : xs.length ≤ 1099511627776) (H : Hp w0 w (star (strsA a xs) (star (strsA b xs) F))) :
    Calls PP F_sherdlaw15_sameKeys #[a.v, b.v] w (Rt fun v w' => v = .bool true ∧ Hp w0 w' F) := by
  refine sim_sherdlaw15_sameKeys _ _ _ _ ?_
  unfold vc_sherdlaw15_sameKeys
  have h1 : a.l = xs.length := by have := (H.cel (s := a)).len; simp at this; omega
  have h2 : b.l = xs.length := by have := (H.cel (s := b)).len; simp at this; omega
  rw [h1, h2]
  refine ⟨fun h => by simp at h, fun _ => ?_⟩
  refine ⟨fun i w' => ∃ j : Nat, i = (j : Int) ∧ j ≤ xs.length ∧ Hp w0 w' (star (strsA a xs) (star (strsA b xs) F)), fun i _ => xs.length - i.toNat, ⟨0, rfl, Nat.zero_le _, H⟩, ?_⟩
  rintro _ w1 ⟨j, rfl, hj, H⟩
  refine ⟨fun h => ?_, fun h => Rt.ok ⟨rfl, H.drop.drop⟩⟩
  have hlt : j < xs.length := by simp only [decide_eq_true_eq] at h; omega
  have ewr : wr .i64 ((j : Int) + 1) = ((j + 1 : Nat) : Int) := by rw [wr64 (by omega) (by omega)]; omega
  obtain ⟨p, hp, hc⟩ := (H.cel (s := a)).at_ j (.string xs[j]) (by simp [List.getElem?_eq_getElem hlt])
  obtain ⟨p2, hp2, hc2⟩ := (H.cel (s := b)).at_ j (.string xs[j]) (by simp [List.getElem?_eq_getElem hlt])
  rw [Int.toNat_natCast, Nat.mul_one]
  exact ⟨p, hp, by omega, by omega, _, hc, p2, hp2, by omega, by omega, _, hc2, fun k20 => ⟨fun h => by simp at h, fun _ => ⟨⟨j + 1, by rw [ewr], by omega, H.drew k20⟩, by dsimp only; rw [ewr]; omega⟩⟩⟩
set_option maxHeartbeats 1000000 in
theorem tells_c (hx : Okm m x) (hm : m ≤ 1073741824) (H : Hp w0 w (star (slotA x) F)) :
    Calls PP F_sherdlaw15_tells #[.pointer (tpv x), .pointer (rpv x)] w (Rt fun v w' => v = .bool true ∧ Hp w0 w' (star (slotA x) F)) := by
  refine sim_sherdlaw15_tells _ _ _ _ ?_
  unfold vc_sherdlaw15_tells
  refine call (t_keys hx hm H) ?_
  rintro _ w1 ⟨sa, rfl, hkl, H⟩
  refine ⟨_, rfl, call (r_keys hx hm (H.take (slotA x))) ?_⟩
  rintro _ w2 ⟨sb, rfl, H⟩
  refine ⟨_, rfl, call (sameKeys_c (xs := keysM x) hkl (H.ent (Ent.pick (P := strsA sa (keysM x)) (Ent.pick (P := strsA sb (keysM x)) (Ent.refl _))))) ?_⟩
  rintro _ w3 ⟨rfl, H⟩
  refine ⟨_, rfl, fun b w' => b = true ∧ Hp w0 w' (star (slotA x) F), ⟨fun _ => ?_, fun h => by simp at h⟩, ?_⟩
  · refine call (t_all hx hm (H.take (slotA x))) ?_
    rintro _ w4 ⟨sa, ha, rfl, hab, ⟨q1, q2⟩, H⟩
    refine ⟨_, rfl, call (r_all hx hm (H.take (slotA x))) ?_⟩
    rintro _ w5 ⟨sb, hb, rfl, hbb, H⟩
    refine ⟨_, rfl, call (sameAll_c (RdH.helds (hs := ha)) (RdH.helds (hs := hb)) q1 q2 H) ?_⟩
    rintro _ w6 ⟨rfl, H⟩
    exact ⟨_, rfl, by rw [hab, hbb]; simp, ((H.take (heldsA sb hb)).drop.take (slotA x)).ent (Ent.refl _) |> fun H => ((H.take (heldsA sa ha)).drop)⟩
  rintro _ w4 ⟨rfl, H⟩
  refine ⟨fun b w' => b = true ∧ Hp w0 w' (star (slotA x) F), ⟨fun _ => ?_, fun h => by simp at h⟩, ?_⟩
  · refine call (t_upds hx hm H) ?_
    rintro _ w5 ⟨sa, ua, rfl, hab, hal, H⟩
    refine ⟨_, rfl, call (r_upds hx hm (H.take (slotA x))) ?_⟩
    rintro _ w6 ⟨sb, ub, rfl, hbb, H⟩
    refine ⟨_, rfl, call (sameUpdates_c (RdU.upds (us := ua)) (RdU.upds (us := ub)) hal H) ?_⟩
    rintro _ w7 ⟨rfl, H⟩
    exact ⟨_, rfl, by rw [hab, hbb]; simp, (((H.take (updsA sb ub)).drop).take (slotA x)) |> fun H => ((H.take (updsA sa ua)).drop)⟩
  rintro _ w5 ⟨rfl, H⟩
  exact Rt.ok ⟨rfl, H⟩
end
end Go.Proofs.YtgnceldnfefnmaaGreat
