/-
  Contracts for TablePlays: what a table and the document's tell, side by side.
-/
import Derived.Test.YtgnceldnfefnmaaGreatPlayP
namespace Go.Tab
open Go Go.Vc
def topM (x : Option Sl) (k : ByteArray) : Tg := match x with | none => (0, 0) | some x => top (x.FE k)
def floorM (x : Option Sl) (k : ByteArray) : Tg := match x with | none => (0, 0) | some x => fl x.n (x.FE k)
def listM (x : Option Sl) (k : ByteArray) : List En := match x with | none => [] | some x => listC x.n (x.D k) (x.FE k) (x.HE k)
def keysM (x : Option Sl) : List ByteArray := match x with | none => [] | some x => sortK (x.TR.keys.map (·.1))
def allM (x : Option Sl) : List (ByteArray × List En) := match x with | none => [] | some x => allS x.TR
def getM (x : Option Sl) (k : ByteArray) (t : Tg) : En × Bool := match x with | none => (zeroE.abs, false) | some x => ((lookE (x.TR.sh k) t).abs, (llook (x.TR.sh k) t).isSome)
end Go.Tab
namespace Go.Proofs.YtgnceldnfefnmaaGreat
open Go Go.Vc Go.Vc.Asn Go.Tab Go.Sort
def slotA : Option Sl → Asn
  | none => emp
  | some x => star (tabA x.p x.T) (refA x.q x.R)
def tpv (x : Option Sl) : Option Addr := x.map fun x => blk x.p
def rpv (x : Option Sl) : Option Addr := x.map fun x => blk x.q
def Okm (m : Nat) : Option Sl → Prop
  | none => True
  | some x => x.Ok ∧ x.R.rows.length ≤ 2 * m
section
variable {w0 w : World} {F : Asn} {m : Nat} {x : Option Sl}
theorem nope (H : Hp w0 w F) : Hp w0 w (star (slotA none) F) := H.ent emp_l
theorem t_top {k : ByteArray} (hx : Okm m x) (hm : m ≤ 1073741824) (H : Hp w0 w (star (slotA x) F)) : Calls PP F_table_Table_Top #[.pointer (tpv x), .string k] w (Rt fun v w' => v = (topM x k).v ∧ Hp w0 w' (star (slotA x) F)) := by
  cases x with
  | none => exact Rt.mono ttop0_c fun v w' h => ⟨h.1, H.fr0 h.2⟩
  | some x =>
    obtain ⟨h, hl⟩ := hx
    have h1 := h.lenT k
    refine Rt.mono (ttop_c (by omega) H.assoc) ?_
    rintro v w' ⟨rfl, H⟩
    exact ⟨by rw [h.t.topE]; rfl, H.assoc'⟩
theorem r_top {k : ByteArray} (hx : Okm m x) (hm : m ≤ 1073741824) (H : Hp w0 w (star (slotA x) F)) : Calls PP F_sherdref15_Table_Top #[.pointer (rpv x), .string k] w (Rt fun v w' => v = (topM x k).v ∧ Hp w0 w' (star (slotA x) F)) := by
  cases x with
  | none => exact Rt.mono top0_r fun v w' h => ⟨h.1, H.fr0 h.2⟩
  | some x =>
    obtain ⟨h, hl⟩ := hx
    refine Rt.mono (top_r (by omega) H.assoc.swap) ?_
    rintro v w' ⟨rfl, H⟩
    exact ⟨by rw [← h.f.s.sh, h.f.r.topE]; rfl, H.swap.assoc'⟩
theorem t_floor {k : ByteArray} (hx : Okm m x) (hm : m ≤ 1073741824) (H : Hp w0 w (star (slotA x) F)) : Calls PP F_table_Table_Floor #[.pointer (tpv x), .string k] w (Rt fun v w' => v = (floorM x k).v ∧ Hp w0 w' (star (slotA x) F)) := by
  cases x with
  | none => exact Rt.mono tfloor0_c fun v w' h => ⟨h.1, H.fr0 h.2⟩
  | some x =>
    obtain ⟨h, hl⟩ := hx
    have h1 := h.lenT k
    refine Rt.mono (tfloor_c (by rw [h.t.delta]; omega) (by omega) H.assoc) ?_
    rintro v w' ⟨rfl, H⟩
    exact ⟨by rw [h.t.floor]; rfl, H.assoc'⟩
theorem r_floor {k : ByteArray} (hx : Okm m x) (hm : m ≤ 1073741824) (H : Hp w0 w (star (slotA x) F)) : Calls PP F_sherdref15_Table_Floor #[.pointer (rpv x), .string k] w (Rt fun v w' => v = (floorM x k).v ∧ Hp w0 w' (star (slotA x) F)) := by
  cases x with
  | none => exact Rt.mono floor0_r fun v w' h => ⟨h.1, H.fr0 h.2⟩
  | some x =>
    obtain ⟨h, hl⟩ := hx
    refine Rt.mono (floor_r (by rw [h.f.delta]; omega) (by omega) H.assoc.swap) ?_
    rintro v w' ⟨rfl, H⟩
    exact ⟨by rw [← h.f.s.sh, ← h.f.s.delta, h.f.r.floor]; rfl, H.swap.assoc'⟩
theorem t_frag {k : ByteArray} (hx : Okm m x) (hm : m ≤ 1073741824) (H : Hp w0 w (star (slotA x) F)) : Calls PP F_table_Table_Fragments #[.pointer (tpv x), .string k] w (Rt fun v w' => v = .int .i64 (((listM x k).countP (·.has) : Nat) : Int) ∧ Hp w0 w' (star (slotA x) F)) := by
  cases x with
  | none => exact Rt.mono frag0_c fun v w' h => ⟨h.1, H.fr0 h.2⟩
  | some x =>
    obtain ⟨h, hl⟩ := hx
    have h1 := h.lenT k
    have ht := h.tell (by omega)
    refine Rt.mono (frag_c (by omega) (ht.tag k) (ht.data k) H.assoc) ?_
    rintro v w' ⟨rfl, H⟩
    exact ⟨by unfold fragS; rw [h.t.list]; rfl, H.assoc'⟩
theorem r_frag {k : ByteArray} (hx : Okm m x) (hm : m ≤ 1073741824) (H : Hp w0 w (star (slotA x) F)) : Calls PP F_sherdref15_Table_Fragments #[.pointer (rpv x), .string k] w (Rt fun v w' => v = .int .i64 (((listM x k).countP (·.has) : Nat) : Int) ∧ Hp w0 w' (star (slotA x) F)) := by
  cases x with
  | none => exact Rt.mono rfrag0_r fun v w' h => ⟨h.1, H.fr0 h.2⟩
  | some x =>
    obtain ⟨h, hl⟩ := hx
    refine Rt.mono (rfrag_r (by omega) (by rw [← h.f.s.sh]; exact h.f.nd k) h.f.data H.assoc.swap) ?_
    rintro v w' ⟨rfl, H⟩
    exact ⟨by unfold fragS; rw [← h.f.s.sh, h.f.r.list]; rfl, H.swap.assoc'⟩
theorem t_entries {k : ByteArray} (hx : Okm m x) (hm : m ≤ 1073741824) (H : Hp w0 w (star (slotA x) F)) : Calls PP F_table_Table_Entries #[.pointer (tpv x), .string k] w (Rt fun v w' => ∃ s es, v = Slc.v s ∧ es.map Ec.abs = listM x k ∧ es.length ≤ 1099511627776 ∧ Hp w0 w' (star (entsA s es) (star (slotA x) F))) := by
  cases x with
  | none =>
    refine Rt.mono entries0_c ?_
    rintro v w' ⟨rfl, rfl⟩
    exact ⟨_, [], rfl, rfl, by decide, H.ent entsA_nil⟩
  | some x =>
    obtain ⟨h, hl⟩ := hx
    have h1 := h.lenT k
    have ht := h.tell (by omega)
    refine Rt.mono (entries_c (by omega) (ht.tag k) (ht.data k) H.assoc) ?_
    rintro v w' ⟨s, es, rfl, he, H⟩
    refine ⟨s, es, rfl, by rw [he, h.t.list]; rfl, ?_, H.ent (Ent.star (Ent.refl _) Asn.assoc')⟩
    have h2 := congrArg List.length he
    have h4 : (listS (x.T.sh k)).length = (x.T.sh k).length := by unfold listS; rw [List.length_map, (sortU_perm _).length_eq, List.length_map]
    rw [List.length_map] at h2
    omega
theorem r_entries {k : ByteArray} (hx : Okm m x) (hm : m ≤ 1073741824) (H : Hp w0 w (star (slotA x) F)) : Calls PP F_sherdref15_Table_Entries #[.pointer (rpv x), .string k] w (Rt fun v w' => ∃ s es, v = Slc.v s ∧ es.map Ec.abs = listM x k ∧ Hp w0 w' (star (entsA s es) (star (slotA x) F))) := by
  cases x with
  | none =>
    refine Rt.mono rentries0_r ?_
    rintro v w' ⟨rfl, rfl⟩
    exact ⟨_, [], rfl, rfl, H.ent entsA_nil⟩
  | some x =>
    obtain ⟨h, hl⟩ := hx
    refine Rt.mono (rentries_r (by omega) (by rw [← h.f.s.sh]; exact h.f.nd k) h.f.data H.assoc.swap) ?_
    rintro v w' ⟨s, es, rfl, he, H⟩
    exact ⟨s, es, rfl, by rw [he, ← h.f.s.sh, h.f.r.list]; rfl, H.ent (Ent.star (Ent.refl _) (left.trans Asn.assoc'))⟩
abbrev strsA (s : Slc) (l : List ByteArray) : Asn := own Ty_string 1 s (l.map Value.string)
theorem t_keys (hx : Okm m x) (hm : m ≤ 1073741824) (H : Hp w0 w (star (slotA x) F)) : Calls PP F_table_Table_Keys #[.pointer (tpv x)] w (Rt fun v w' => ∃ s, v = Slc.v s ∧ (keysM x).length ≤ 1099511627776 ∧ Hp w0 w' (star (strsA s (keysM x)) (star (slotA x) F))) := by
  cases x with
  | none =>
    refine Rt.mono keys0_c ?_
    rintro v w' ⟨rfl, rfl⟩
    exact ⟨_, rfl, by decide, H.nilRow Ty_string 1⟩
  | some x =>
    obtain ⟨h, hl⟩ := hx
    have ht := h.tell (by omega)
    refine Rt.mono (keys_c ht.n H.assoc) ?_
    rintro v w' ⟨s, rfl, H⟩
    rw [h.keyS] at H
    refine ⟨s, rfl, ?_, H.ent (Ent.star (Ent.refl _) Asn.assoc')⟩
    show (sortK (x.TR.keys.map (·.1))).length ≤ _
    rw [(sortK_perm _).length_eq, List.length_map, ← h.keysT]
    exact ht.n
theorem r_keys (hx : Okm m x) (hm : m ≤ 1073741824) (H : Hp w0 w (star (slotA x) F)) : Calls PP F_sherdref15_Table_Keys #[.pointer (rpv x)] w (Rt fun v w' => ∃ s, v = Slc.v s ∧ Hp w0 w' (star (strsA s (keysM x)) (star (slotA x) F))) := by
  cases x with
  | none =>
    refine Rt.mono rkeys0_r ?_
    rintro v w' ⟨rfl, rfl⟩
    exact ⟨_, rfl, H.nilRow Ty_string 1⟩
  | some x =>
    obtain ⟨h, hl⟩ := hx
    refine Rt.mono (rkeys_r h.f.s h.f.r.keys h.f.r.ne (by omega) H.assoc.swap) ?_
    rintro v w' ⟨s, rfl, H⟩
    exact ⟨s, rfl, H.ent (Ent.star (Ent.refl _) (left.trans Asn.assoc'))⟩
theorem t_all (hx : Okm m x) (hm : m ≤ 1073741824) (H : Hp w0 w (star (slotA x) F)) : Calls PP F_table_Table_All #[.pointer (tpv x)] w (Rt fun v w' => ∃ s hs, v = Slc.v s ∧ hs.map Hd.abs = allM x ∧ (hs.length ≤ 1099511627776 ∧ ∀ y ∈ hs, y.es.length ≤ 1099511627776) ∧ Hp w0 w' (star (heldsA s hs) (star (slotA x) F))) := by
  cases x with
  | none =>
    refine Rt.mono all0_c ?_
    rintro v w' ⟨rfl, rfl⟩
    exact ⟨_, [], rfl, rfl, ⟨by decide, fun y hy => nomatch hy⟩, H.ent heldsA_nil⟩
  | some x =>
    obtain ⟨h, hl⟩ := hx
    have ht := h.tell (by omega)
    refine Rt.mono (all_c ht H.assoc) ?_
    rintro v w' ⟨s, hs, rfl, he, H⟩
    exact ⟨s, hs, rfl, by rw [he, h.all]; rfl, h.hds (by omega) he, H.ent (Ent.star (Ent.refl _) Asn.assoc')⟩
theorem r_all (hx : Okm m x) (hm : m ≤ 1073741824) (H : Hp w0 w (star (slotA x) F)) : Calls PP F_sherdref15_Table_All #[.pointer (rpv x)] w (Rt fun v w' => ∃ s hs, v = Slc.v s ∧ hs.map Hd.abs = allM x ∧ Hp w0 w' (star (heldsA s hs) (star (slotA x) F))) := by
  cases x with
  | none =>
    refine Rt.mono rall0_r ?_
    rintro v w' ⟨rfl, rfl⟩
    exact ⟨_, [], rfl, rfl, H.ent heldsA_nil⟩
  | some x =>
    obtain ⟨h, hl⟩ := hx
    have hk := h.f.keys
    refine Rt.mono (rall_r h.f.s h.f.r.keys h.f.r.ne h.f.nd (by omega) (by omega) h.f.data H.assoc.swap) ?_
    rintro v w' ⟨s, hs, rfl, he, H⟩
    exact ⟨s, hs, rfl, he, H.ent (Ent.star (Ent.refl _) (left.trans Asn.assoc'))⟩
theorem upds0_c : Calls PP F_table_Table_Updates #[.pointer none] w (Rt fun v w' => v = Slc.nil.v ∧ w' = w) := by
  refine sim_table_Table_Updates _ _ _ ?_
  unfold vc_table_Table_Updates
  refine call all0_c ?_
  rintro _ w1 ⟨rfl, h⟩
  subst h
  refine ⟨_, rfl, fun s i w' => s = Slc.nil ∧ i = 0 ∧ w' = w1, fun _ _ _ => 0, ⟨rfl, rfl, rfl⟩, ?_⟩
  rintro _ _ _ ⟨rfl, rfl, rfl⟩
  exact ⟨fun h => by simp at h, fun _ => Rt.ok ⟨rfl, rfl⟩⟩
theorem rupds0_r : Calls PP F_sherdref15_Table_Updates #[.pointer none] w (Rt fun v w' => v = Slc.nil.v ∧ w' = w) := by
  refine sim_sherdref15_Table_Updates _ _ _ ?_
  unfold vc_sherdref15_Table_Updates
  refine call rall0_r ?_
  rintro _ w1 ⟨rfl, h⟩
  subst h
  refine ⟨_, rfl, fun s i w' => s = Slc.nil ∧ i = 0 ∧ w' = w1, fun _ _ _ => 0, ⟨rfl, rfl, rfl⟩, ?_⟩
  rintro _ _ _ ⟨rfl, rfl, rfl⟩
  exact ⟨fun h => by simp at h, fun _ => Rt.ok ⟨rfl, rfl⟩⟩
theorem updsA_nil : Ent F (star (updsA Slc.nil []) F) := by
  intro w S h
  refine ⟨fun _ => False, S, fun k => by simp, fun k h => h.elim, ⟨fun _ => False, fun _ => False, fun k => by simp, fun k h => h.elim, ⟨fun k => by simp [Slc.blks], Own.nil _ _ _⟩, fun k h => h⟩, h⟩
theorem t_upds (hx : Okm m x) (hm : m ≤ 1073741824) (H : Hp w0 w (star (slotA x) F)) : Calls PP F_table_Table_Updates #[.pointer (tpv x)] w (Rt fun v w' => ∃ s us, v = Slc.v s ∧ us.map Upt.abs = updL (allM x) ∧ us.length ≤ 1099511627776 ∧ Hp w0 w' (star (updsA s us) (star (slotA x) F))) := by
  cases x with
  | none =>
    refine Rt.mono upds0_c ?_
    rintro v w' ⟨rfl, rfl⟩
    exact ⟨_, [], rfl, rfl, by decide, H.ent updsA_nil⟩
  | some x =>
    obtain ⟨h, hl⟩ := hx
    have ht := h.tell (by omega)
    have h1 := h.f.tot
    refine Rt.mono (updates_n ht (N := x.R.rows.length) (by rw [h.all]; exact h1) (by omega) H.assoc) ?_
    rintro v w' ⟨s, us, rfl, he, hul, H⟩
    exact ⟨s, us, rfl, by rw [he, h.all]; rfl, by omega, H.ent (Ent.star (Ent.refl _) Asn.assoc')⟩
theorem r_upds (hx : Okm m x) (hm : m ≤ 1073741824) (H : Hp w0 w (star (slotA x) F)) : Calls PP F_sherdref15_Table_Updates #[.pointer (rpv x)] w (Rt fun v w' => ∃ s us, v = Slc.v s ∧ us.map Upt.abs = updL (allM x) ∧ Hp w0 w' (star (updsA s us) (star (slotA x) F))) := by
  cases x with
  | none =>
    refine Rt.mono rupds0_r ?_
    rintro v w' ⟨rfl, rfl⟩
    exact ⟨_, [], rfl, rfl, H.ent updsA_nil⟩
  | some x =>
    obtain ⟨h, hl⟩ := hx
    have hk := h.f.keys
    refine Rt.mono (rupdates_r (N := x.R.rows.length) h.f.s h.f.r.keys h.f.r.ne h.f.nd (by omega) (by omega) h.f.data h.f.tot (by omega) H.assoc.swap) ?_
    rintro v w' ⟨s, us, rfl, he, _, H⟩
    exact ⟨s, us, rfl, he, H.ent (Ent.star (Ent.refl _) (left.trans Asn.assoc'))⟩
theorem t_would {u : Upt} (hx : Okm m x) (hm : m ≤ 1073741824) (hr : Rdy w0 F u.s u.data) (H : Hp w0 w (star (slotA x) F)) : Calls PP F_table_Table_Would #[.pointer (tpv x), .agg u.c.toArray] w (Rt fun v w' => v = .tuple #[.bool (outU x u).1, .int .i64 (outU x u).2] ∧ Hp w0 w' (star (slotA x) F)) := by
  cases x with
  | none => exact Rt.mono would0_c fun v w' h => ⟨h.1, H.fr0 h.2⟩
  | some x =>
    obtain ⟨h, hl⟩ := hx
    have h1 := h.lenT u.key
    refine Rt.mono (would_c (by rw [h.t.delta]; omega) (by omega) (Rdy.under2 hr) H.assoc) ?_
    rintro v w' ⟨rfl, H⟩
    exact ⟨by rw [TbOk.would h.t]; rfl, H.assoc'⟩
theorem r_would {u : Upt} (hx : Okm m x) (hm : m ≤ 1073741824) (hr : Rdy w0 F u.s u.data) (hbl : u.data.length ≤ 1099511627776) (H : Hp w0 w (star (slotA x) F)) : Calls PP F_sherdref15_Table_Would #[.pointer (rpv x), .agg u.c.toArray] w (Rt fun v w' => v = .tuple #[.bool (outU x u).1, .int .i64 (outU x u).2] ∧ Hp w0 w' (star (slotA x) F)) := by
  cases x with
  | none => exact Rt.mono rwould0_r fun v w' h => ⟨h.1, H.fr0 h.2⟩
  | some x =>
    obtain ⟨h, hl⟩ := hx
    refine Rt.mono (rwould_r h.f.s h.f.r.keys (by rw [h.f.delta]; omega) (by omega) h.f.nd h.f.data (Rdy.under2 hr) hbl H.assoc.swap) ?_
    rintro v w' ⟨T1, T', b, e, rfl, hsame, ha, H⟩
    have h2 := (ap_out (h.f.r.same hsame) ha).1
    refine ⟨?_, H.swap.assoc'⟩
    rw [← h2]
def Half (m : Nat) (x : Option Sl) (u : Upt) : Option Sl → Prop
  | none => x = none
  | some z => ∃ y, x = some y ∧ y.Ok ∧ y.R.rows.length ≤ 2 * m ∧ z.R.rows.length ≤ 2 * (m + 1) ∧ z = updS y u z.R z.TR ∧ z.Ref
theorem r_apply {u : Upt} (hx : Okm m x) (hm : m ≤ 1073741824) (hr : Rdy w0 F u.s u.data) (hbl : u.data.length ≤ 1099511627776) (H : Hp w0 w (star (slotA x) F)) : Calls PP F_sherdref15_Table_Apply #[.pointer (rpv x), .agg u.c.toArray] w (Rt fun v w' => ∃ z, v = .tuple #[.bool (outU x u).1, .int .i64 (outU x u).2] ∧ Half m x u z ∧ tpv z = tpv x ∧ rpv z = rpv x ∧ Hp w0 w' (star (slotA z) F)) := by
  cases x with
  | none => exact Rt.mono rapply0_r fun v w' h => ⟨none, h.1, rfl, rfl, rfl, H.fr0 h.2⟩
  | some x =>
    obtain ⟨h, hl⟩ := hx
    refine Rt.mono (rapply_r h.f.s (by rw [h.f.delta]; omega) (by omega) h.f.nd (Rdy.under2 hr) hbl H.assoc.swap) ?_
    rintro v w' ⟨R', T', b, e, rfl, ha, hS', hl', H⟩
    obtain ⟨h2, h3⟩ := ap_out h.f.r ha
    obtain ⟨u1, u2, u3, u4, u5, u6⟩ := updS_same x u R' T'
    refine ⟨some (updS x u R' T'), by rw [← h2], ⟨x, rfl, h, hl, by rw [u3]; omega, by rw [u3, u4], ⟨by rw [u4]; exact h3 R' T', by rw [u3, u4]; exact hS', updS_d h.f.d, by rw [u6]; exact h.f.n⟩⟩, by unfold tpv; simp only [Option.map_some, u1], by unfold rpv; simp only [Option.map_some, u2], ?_⟩
    show Hp w0 w' (star (star (tabA (updS x u R' T').p (updS x u R' T').T) (refA (updS x u R' T').q (updS x u R' T').R)) F)
    rw [u1, u2, u3, u5]
    exact H.swap.assoc'
theorem t_apply {u : Upt} {z : Option Sl} {s' : Slc} (hz : Half m x u z) (hm : m ≤ 1073741824) (hr : Rdy w0 F s' u.data) (hbl : u.data.length ≤ 1099511627776) (H : Hp w0 w (star (slotA z) F)) : Calls PP F_table_Table_Apply #[.pointer (tpv z), .agg (Upt.c { u with s := s' }).toArray] w (Rt fun v w' => ∃ y, v = .tuple #[.bool (outU x u).1, .int .i64 (outU x u).2] ∧ Okm (m + 1) y ∧ tpv y = tpv z ∧ rpv y = rpv z ∧ Hp w0 w' (star (slotA y) F)) := by
  cases z with
  | none =>
    have hx : x = none := hz
    subst hx
    exact Rt.mono (apply0_c (u := { u with s := s' })) fun v w' h => ⟨none, h.1, trivial, rfl, rfl, H.fr0 h.2⟩
  | some z =>
    obtain ⟨y, rfl, h, hl, hl2, hzu, hzr⟩ := hz
    obtain ⟨u1, u2, u3, u4, u5, u6⟩ := updS_same y u z.R z.TR
    rw [← hzu] at u1 u2 u5 u6
    have h1 := h.lenT u.key
    have h1' : (z.T.sh u.key).length + 1 < 1099511627776 := by rw [u5]; omega
    refine Rt.mono (apply_c (u := { u with s := s' }) (T := z.T) (by rw [u5, h.t.delta]; omega) h1' (Rdy.under2 hr) hbl H.assoc) ?_
    rintro v w' ⟨T', b, e, rfl, ha, H⟩
    have ha : apR y.T u T' b e := by rw [← u5]; exact ha
    obtain ⟨h2, h3⟩ := ap_out h.t ha
    have h4 := h3 z.R z.TR
    rw [← hzu] at h4
    refine ⟨some { z with T := T' }, by rw [← h2], ⟨⟨h4, ⟨hzr.r, hzr.s, hzr.d, hzr.n⟩⟩, hl2⟩, rfl, rfl, H.assoc'⟩
end
end Go.Proofs.YtgnceldnfefnmaaGreat
