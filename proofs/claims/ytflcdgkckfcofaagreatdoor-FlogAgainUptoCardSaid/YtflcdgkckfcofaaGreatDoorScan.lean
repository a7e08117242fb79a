/-
  Contracts of record's reader: the next record.
-/
import Derived.Test.YtflcdgkckfcofaaGreatDoorReader
namespace Go.Proofs.YtflcdgkckfcofaaGreatDoor
open Go Go.Vc
def nextR (rest last : List UInt8) : Int × Up × Nat × List UInt8 :=
  let h := uintR ((rest.take (min rest.length 11)).drop 1) 66000 ⟨0, 0⟩
  let fr := 1 + h.2.at_
  let to := fr + h.1.toNat
  let own := le4 (crc (last ++ rest.take to))
  let b := (rest.take to).drop fr
  (if rest.head? ≠ some 82 then 32 else if h.2.err ≠ 0 then (if h.2.err = 30 then 30 else 31) else if rest.length < to + 4 then 30 else if own ≠ (rest.take (to + 4)).drop to then 34 else if okB b = false then 31 else 0,
   (readB b).1, to + 4, own)
structure SC (w0 w : World) (p q : Nat) (ds : Slc) (bs : List UInt8) (at_ : Nat) (us : List Upd) (ends : List Nat) (last : List UInt8) : Prop where
  fr : Fr [] w0 w
  dat : Byt w0 ds bs
  rw : RW w q last (us.length : Int)
  own : ∃ su se : Slc, Blk w p Ty_record_scanner #[ds.v, .int .i64 (at_ : Int), .pointer (some (blk q)), su.v, se.v] ∧ Own Ty_api_Update 7 w su (us.map Upd.cells).flatten ∧ Own Ty_int 1 w se (ends.map fun n => Value.int .i64 ((n : Nat) : Int)) ∧
    (∀ k ∈ su.blks, w0.heap.size ≤ k) ∧ (∀ k ∈ se.blks, w0.heap.size ≤ k)
  rows : ∀ u ∈ us, Row w0 w u.data u.ds
  pn : w0.heap.size ≤ p
  qn : w0.heap.size ≤ q
  lst : last.length = 4
  le : at_ ≤ bs.length
  cnt : us.length ≤ at_
  ecnt : ends.length = us.length + 1
  rwn : ∃ s : Slc, Blk w q Ty_record_Writer #[s.v, .int .i64 (us.length : Int)] ∧ Own Ty_uint8 1 w s (last.map u8v) ∧ (∀ k ∈ s.blks, w0.heap.size ≤ k) ∧ ∀ u ∈ us, ∀ k ∈ s.blks, k ∉ u.data.blks
  ap : us.Pairwise fun a b => ∀ k ∈ a.data.blks, k ∉ b.data.blks
def Up.upd (u : Up) (y : Slc) : Upd := ⟨u.kind, u.key, u.cnt, u.cli, u.fin, u.has, y, u.ds⟩
theorem one_upd (u : Upd) : ∀ x ∈ u.cells, x.oneCell' = true := by
  intro x hx
  simp [Upd.cells] at hx
  rcases hx with rfl | rfl | rfl | rfl | rfl | rfl | rfl <;> rfl
def KeepS (w w' : World) : Prop := ∀ b T cs, T ≠ Ty_record_scanner → T ≠ Ty_record_Writer → T ≠ Ty_api_Update → T ≠ Ty_int → Blk w b T cs → Blk w' b T cs
theorem KeepS.of {w w' : World} (f : Fr [] w w') : KeepS w w' := fun _ _ _ _ _ _ _ h => h.fr f (by simp)
theorem KeepS.trans {a b c : World} (h : KeepS a b) (k : KeepS b c) : KeepS a c := fun x T cs h1 h2 h3 h4 hb => k x T cs h1 h2 h3 h4 (h x T cs h1 h2 h3 h4 hb)
theorem next_c {w0 w : World} {p q : Nat} {ds : Slc} {bs : List UInt8} {at_ : Nat} {us : List Upd} {ends : List Nat} {last : List UInt8} (hG : GT w0) (_hg : G_sum_steps < w0.heap.size) (h : SC w0 w p q ds bs at_ us ends last) (hlt : at_ < bs.length) (hm : bs.length ≤ 1099511627776) :
    Calls PP F_record_scanner_next #[.pointer (some (blk p))] w (Ge (fun v w' => v = .tuple #[] ∧ (nextR (bs.drop at_) last).1 = 0 ∧ ∃ y : Slc, SC w0 w' p q ds bs (at_ + (nextR (bs.drop at_) last).2.2.1) (us ++ [(nextR (bs.drop at_) last).2.1.upd y]) (ends ++ [at_ + (nextR (bs.drop at_) last).2.2.1]) (nextR (bs.drop at_) last).2.2.2 ∧ KeepS w w')
      fun n w' => n = (nextR (bs.drop at_) last).1 ∧ n ≠ 0 ∧ SC w0 w' p q ds bs at_ us ends last ∧ KeepS w w') := by
  have h0 := h
  obtain ⟨hfr, hdat, hrw, ⟨su, se, hB, hSu, hSe, hsun, hsen⟩, hrows, hpn, hqn, hlst, hle, hcnt, hec, ⟨lv, hv1, hv2, hv3, hv4⟩, hap⟩ := h
  have hdl := hdat.len
  have hdc := hdat.cap
  refine sim_record_scanner_next _ _ _ ?_
  unfold vc_record_scanner_next
  refine ⟨_, rfl, ds, hB.cell rfl, _, hB.cell rfl, by omega, by omega, by omega, fun k3 => ?_⟩
  have e1 : ((at_ : Nat) : Int).toNat = at_ := by simp
  have e2 : ((ds.l : Nat) : Int).toNat = bs.length := by simp [hdl]
  rw [e1, e2]
  have hcut : ∀ w', Fr [] w0 w' → Byt w' (ds.cut 1 at_ bs.length) (bs.drop at_) := fun w' f => by
    refine cut_all (hdat.fr0 f) hle (Nat.le_refl _) ?_
    rw [List.take_of_length_le (by simp)]
  have hcl : (ds.cut 1 at_ bs.length).l = bs.length - at_ := rfl
  have hcc : (ds.cut 1 at_ bs.length).c = ds.c - at_ := rfl
  generalize hrs : ds.cut 1 at_ bs.length = rs at *
  generalize hrest : bs.drop at_ = rest at *
  have hrl : rest.length = bs.length - at_ := by rw [← hrest]; simp
  have f1 := hfr.drewN k3
  -- the state after what only reads
  have keep : ∀ w', Fr [] w w' → SC w0 w' p q ds bs at_ us ends last ∧ KeepS w w' := fun w' f =>
    ⟨⟨hfr.then_ f, hdat, hrw.fr f (by simp) fun _ _ _ => by simp, ⟨su, se, hB.fr f (by simp), hSu.fr0 f, hSe.fr0 f, hsun, hsen⟩, fun u hu => (hrows u hu).fr f fun k hk => absurd hk (by simp), hpn, hqn, hlst, hle, hcnt, hec, ⟨lv, hv1.fr f (by simp), hv2.fr0 f, hv3, hv4⟩, hap⟩, KeepS.of f⟩
  obtain ⟨a0, ha0, hc0⟩ := (hcut _ f1).get (i := 0) (by omega)
  refine ⟨a0, ha0, by omega, by omega, _, by simpa using hc0, ?_⟩
  have hN : nextR rest last = nextR rest last := rfl
  conv at hN => rhs; unfold nextR
  dsimp only at hN
  have hhd : rest.head? = some (rest[0]'(by omega)) := by
    rw [List.head?_eq_getElem?, List.getElem?_eq_getElem]
  refine callG (must_c _ _ _) ?_ ?_
  rotate_left
  · rintro n _ ⟨rfl, hk, rfl⟩
    refine Ge.no (n := 32) ⟨?_, by simp, keep _ (drewFr w k3)⟩
    rw [hN, hhd]
    simp only
    rw [if_pos]
    intro e
    simp at e hk
    rw [e] at hk
    exact hk rfl
  rintro _ _ ⟨rfl, hk0, rfl⟩
  have hh82 : ¬ rest.head? ≠ some 82 := by
    rw [hhd]
    simp at hk0 ⊢
    exact UInt8.toNat_inj.1 (by simpa using (by omega : (rest[0]'(by omega)).toNat = 82))
  rw [if_neg hh82] at hN
  have hmin : minI (rs.l : Int) 11 = ((min rest.length 11 : Nat) : Int) := by
    rw [hrl, hcl]; unfold minI; omega
  have e3 : ((min rest.length 11 : Nat) : Int).toNat = min rest.length 11 := by simp
  have e4 : (1 : Int).toNat = 1 := rfl
  rw [hmin, e3, e4]
  have hrsc : rest.length ≤ rs.c := by rw [hcc]; omega
  refine ⟨rfl, by omega, by omega, by omega, ?_⟩
  have f2 := drewFr w k3
  have hhb : Byt (w.drewN k3) (rs.cut 1 1 (min rest.length 11)) ((rest.take (min rest.length 11)).drop 1) := by
    refine cut_all (hcut _ (hfr.then_ f2)) (by omega) (Nat.min_le_left _ _) ?_
    rw [List.drop_take]
  refine call (nr_c hhb (by simp; omega)) ?_
  rintro _ w3 ⟨r, z, rfl, hR, f3, hrn, hzn⟩
  refine ⟨_, rfl, call (uint_c (s := ⟨0, 0⟩) hR) ?_⟩
  rintro _ w4 ⟨rfl, hR4, f4⟩
  have hrS : ∀ x, x ∈ [r] → x ∈ ([] : List Nat) ∨ w.heap.size ≤ x := fun x hx => .inr (by simp at hx; rw [hx]; exact Nat.le_trans f2.size hrn)
  have f04 : Fr [] w w4 := (f2.then_ f3).local_ f4 hrS
  have hub := rnum_ok 66000 (((rest.take (min rest.length 11)).drop 1).drop 0) 0 0 (by simp) (by omega)
  have hubad := rnum_bad 66000 (((rest.take (min rest.length 11)).drop 1).drop 0) 0 0
  generalize hh : uintR ((rest.take (min rest.length 11)).drop 1) 66000 ⟨0, 0⟩ = h at *
  have hh2 : h.1 = (rnum 66000 0 0 (((rest.take (min rest.length 11)).drop 1).drop 0)).1 ∧ h.2.at_ = (rnum 66000 0 0 (((rest.take (min rest.length 11)).drop 1).drop 0)).2.1 ∧ h.2.err = (rnum 66000 0 0 (((rest.take (min rest.length 11)).drop 1).drop 0)).2.2 := by
    rw [← hh, uintR, if_neg (by simp)]
    exact ⟨rfl, by simp, rfl⟩
  refine ⟨_, rfl, fun w' => h.2.err = 0 ∧ w4 = w', call (rerr_c hR4) ?_, ?_⟩
  · rintro _ _ ⟨rfl, rfl⟩
    refine ⟨_, rfl, fun he => ⟨by simpa using he, rfl⟩, fun he => ⟨fun h30 => ?_, fun h30 => ?_⟩⟩
    · simp only [decide_eq_true_eq, decide_eq_false_iff_not] at he h30
      refine Ge.no (n := 30) ⟨?_, by simp, keep _ f04⟩
      rw [hN]
      simp only
      rw [if_pos (by simpa using he), if_pos h30]
    · simp only [decide_eq_false_iff_not] at he h30
      refine Ge.no (n := 31) ⟨?_, by simp, keep _ f04⟩
      rw [hN]
      simp only
      rw [if_pos (by simpa using he), if_neg h30]
  rintro _ ⟨he, rfl⟩
  rw [if_neg (by simpa using he)] at hN
  obtain ⟨sz, s1, s2, s3, s4, s5, s6⟩ := hub (by rw [← hh2.2.2]; exact he)
  rw [← hh2.1] at s1
  rw [← hh2.2.1] at s4 s5 s6
  refine call (rat_c hR4) ?_
  rintro _ _ ⟨rfl, rfl⟩
  have e5 : wr .i64 (1 + ((h.2.at_ : Nat) : Int)) = ((1 + h.2.at_ : Nat) : Int) := by rw [wr64 (by omega) (by omega)]; omega
  have e6 : wr .i64 (((1 + h.2.at_ : Nat) : Int) + h.1) = ((1 + h.2.at_ + h.1.toNat : Nat) : Int) := by rw [s1, wr64 (by omega) (by omega)]; omega
  have e7 : wr .i64 (((1 + h.2.at_ + h.1.toNat : Nat) : Int) + 4) = ((1 + h.2.at_ + h.1.toNat + 4 : Nat) : Int) := by rw [s1, wr64 (by omega) (by omega)]; omega
  have e8 : ((1 + h.2.at_ + h.1.toNat : Nat) : Int).toNat = 1 + h.2.at_ + h.1.toNat := Int.toNat_natCast _
  have e9 : ((1 + h.2.at_ + h.1.toNat + 4 : Nat) : Int).toNat = 1 + h.2.at_ + h.1.toNat + 4 := Int.toNat_natCast _
  have e10 : ((1 + h.2.at_ : Nat) : Int).toNat = 1 + h.2.at_ := Int.toNat_natCast _
  refine ⟨_, rfl, ?_⟩
  rw [e5, e6, e7, e8, e9, e10]
  have htb : h.1.toNat ≤ 66000 := by omega
  generalize hto : 1 + h.2.at_ + h.1.toNat = to at *
  generalize hfrm : 1 + h.2.at_ = frm at *
  refine callG (must_c _ _ _) ?_ ?_
  rotate_left
  · rintro n _ ⟨rfl, hk, rfl⟩
    simp only [decide_eq_false_iff_not] at hk
    refine Ge.no (n := 30) ⟨?_, by simp, keep _ f04⟩
    rw [hN]
    simp only
    rw [if_pos (by rw [hcl] at hk; omega)]
  rintro _ _ ⟨rfl, hk, rfl⟩
  simp only [decide_eq_true_eq, hcl] at hk
  have hlen : to + 4 ≤ rest.length := by omega
  rw [if_neg (by omega)] at hN
  have K4 := keep _ f04
  obtain ⟨lw, hBw, hOw⟩ := K4.1.rw.own
  have hB4 := hB.fr f04 (by simp)
  have fd := drewFr w4 1
  have hB4d := hB4.fr fd (by simp)
  have hBwd := hBw.fr fd (by simp)
  have hOwd := hOw.fr0 fd
  refine ⟨rfl, _, hB4d.cell rfl, _, rfl, lw, hBwd.cell rfl, by omega, by omega, by omega, New.intro fun b w5 nb => ?_⟩
  have f5 := fd.then_ nb.fr
  have hpt : Byt (w4.drewN 1) (rs.cut 1 0 to) (rest.take to) := cut_all (hcut _ (hfr.then_ (f04.then_ fd))) (by omega) (by omega) (by simp)
  refine call (of_c ((hG.fr0 hfr).fr0 (f04.then_ f5)) (Parts.two (show Byt (w4.drewN 1) lw last from hOwd.cel) hpt nb) (by simp; omega) (by simp)) ?_
  rintro _ _ ⟨rfl, rfl⟩
  have ecrc : ([last, rest.take to] : List (List UInt8)).flatten = last ++ rest.take to := by simp
  rw [ecrc]
  refine ⟨_, rfl, call (four_c _ _) ?_⟩
  rintro _ w6 ⟨x, rfl, hX⟩
  have f06 := (f04.then_ f5).then_ hX.fr
  refine ⟨x, rfl, by omega, by omega, by omega, ?_⟩
  refine call (equal_c hX.byt (cut_all (cs := (rest.take (to + 4)).drop to) (hcut _ (hfr.then_ f06)) (by omega) hlen (by rw [List.drop_take])) (by rw [le4_len]; omega)) ?_
  rintro _ w7 ⟨rfl, f7⟩
  have f07 := f06.then_ f7
  refine ⟨_, rfl, callG (must_c _ _ _) ?_ ?_⟩
  rotate_left
  · rintro n _ ⟨rfl, hk2, rfl⟩
    simp only [decide_eq_false_iff_not] at hk2
    refine Ge.no (n := 34) ⟨?_, by simp, keep _ f07⟩
    rw [hN]
    simp only
    rw [if_pos hk2]
  rintro _ _ ⟨rfl, hk2, rfl⟩
  simp only [decide_eq_true_eq] at hk2
  rw [if_neg (by simpa using hk2)] at hN
  have fd7 := drewFr w7 1
  have f08 := f07.then_ fd7
  have hB8 := hB.fr f08 (by simp)
  refine ⟨rfl, su, hB8.cell rfl, by omega, by omega, by omega, ?_⟩
  refine callG (readBody_c (bs := (rest.take to).drop frm) (cut_all (hcut _ (hfr.then_ f08)) (by omega) (by omega) (by rw [List.drop_take])) (by simp; omega)) ?_ ?_
  rotate_left
  · rintro n w9 ⟨hob, rfl, f9⟩
    refine Ge.no (n := 31) ⟨?_, by simp, keep _ (f08.then_ f9)⟩
    rw [hN]
    simp only
    rw [if_pos hob]
  rintro _ w9 ⟨hob, y, rfl, hy, f9⟩
  rw [if_neg (by rw [hob]; simp)] at hN
  have f09 := f08.then_ f9
  have hB9 := hB.fr f09 (by simp)
  have hSu9 := hSu.fr0 f09
  have hSe9 := hSe.fr0 f09
  have hX9 : Own Ty_uint8 1 w9 x ((le4 (crc (last ++ rest.take to))).map u8v) := (hX.own.fr0 (f7.then_ fd7)).fr0 f9
  obtain ⟨lw9, hBw9, hOw9⟩ := hrw.fr f09 (by simp) fun _ _ _ => by simp
  have hul : su.l = us.length := by have := hSu.cel.len; rw [Upd.flat_len] at this; omega
  have hel : se.l = us.length + 1 := by have := hSe.cel.len; simp at this; omega
  refine ⟨_, _, _, _, _, _, y, rfl, hB9.cell rfl, New.intro fun b2 w10 nb2 => ⟨(hB9.fr nb2.fr (by simp)).cell rfl, ?_⟩⟩
  have hB10 := hB9.fr nb2.fr (by simp)
  have hSu10 := hSu9.fr0 nb2.fr
  have hSe10 := hSe9.fr0 nb2.fr
  have hBw10 := hBw9.fr nb2.fr (by simp)
  have hYc : Cel w10 (Slc.mk (some (blk b2)) 1 1) 7 ((readB ((rest.take to).drop frm)).1.upd y).cells := Cel.block (l := ((readB ((rest.take to).drop frm)).1.upd y).cells) nb2.blk rfl (by simp [Upd.cells]) (Nat.le_refl _)
  refine App.own slT_sl_api_Update hSu10 hYc (one_upd _) (by unfold maxLen; simp only; omega) (by simp only; omega) fun su2 w11 hSu11 hl11 fA hblk => ?_
  have hB11 := hB10.fr fA (hSu10.ne hB10 (by decide))
  have hBw11 := hBw10.fr fA (hSu10.ne hBw10 (by decide))
  have hSe11 := hSe10.fr fA (hSe10.apart hSu10 (by decide))
  refine hB11.sto (lt_ rfl) fun w12 hB12 f12 => ?_
  have hpq : p ≠ q := hB12.ne_ (hBw11.fr f12 (by simp; exact (hBw11.ne_ hB11 (by decide)))) (by decide)
  have hBw12 := hBw11.fr f12 (by simp; exact Ne.symm hpq)
  have hSu12 := hSu11.fr f12 fun k hk hx => by simp at hx; subst hx; exact hSu11.ne hB11 (by decide) hk
  have hSe12 := hSe11.fr f12 fun k hk hx => by simp at hx; subst hx; exact hSe11.ne hB11 (by decide) hk
  refine ⟨_, hB12.cell rfl, _, rfl, hBw12.sto (lt_ rfl) fun w13 hBw13 f13 => ?_⟩
  have hB13 := hB12.fr f13 (by simp; exact hpq)
  have hSu13 := hSu12.fr f13 fun k hk hx => by simp at hx; subst hx; exact hSu12.ne hBw12 (by decide) hk
  have hSe13 := hSe12.fr f13 fun k hk hx => by simp at hx; subst hx; exact hSe12.ne hBw12 (by decide) hk
  refine ⟨_, hB13.cell rfl, _, rfl, _, hBw13.cell rfl, ?_⟩
  have ec : wr .i64 ((us.length : Int) + 1) = ((us.length + 1 : Nat) : Int) := by rw [wr64 (by omega) (by omega)]; omega
  rw [ec]
  refine hBw13.sto (lt_ rfl) fun w14 hBw14 f14 => ?_
  have hB14 := hB13.fr f14 (by simp; exact hpq)
  have hSu14 := hSu13.fr f14 fun k hk hx => by simp at hx; subst hx; exact hSu13.ne hBw13 (by decide) hk
  have hSe14 := hSe13.fr f14 fun k hk hx => by simp at hx; subst hx; exact hSe13.ne hBw13 (by decide) hk
  refine ⟨_, hB14.cell rfl, ?_⟩
  have ea : wr .i64 ((at_ : Int) + ((to + 4 : Nat) : Int)) = ((at_ + (to + 4) : Nat) : Int) := by rw [wr64 (by omega) (by omega)]; omega
  rw [ea]
  refine hB14.sto (lt_ rfl) fun w15 hB15 f15 => ?_
  have hBw15 := hBw14.fr f15 (by simp; exact Ne.symm hpq)
  have hSu15 := hSu14.fr f15 fun k hk hx => by simp at hx; subst hx; exact hSu14.ne hB14 (by decide) hk
  have hSe15 := hSe14.fr f15 fun k hk hx => by simp at hx; subst hx; exact hSe14.ne hB14 (by decide) hk
  have hB15d := hB15.fr (drewFr w15 1) (by simp)
  refine ⟨se, hB15d.cell rfl, _, hB15d.cell rfl, New.intro fun b3 w16 nb3 => ⟨(hB15d.fr nb3.fr (by simp)).cell rfl, ?_⟩⟩
  have f56 := (drewFr w15 1).then_ nb3.fr
  have hB16 := hB15.fr f56 (by simp)
  have hBw16 := hBw15.fr f56 (by simp)
  have hSu16 := hSu15.fr0 f56
  have hSe16 := hSe15.fr0 f56
  have hYi : Cel w16 (Slc.mk (some (blk b3)) 1 1) 1 [.int .i64 ((at_ + (to + 4) : Nat) : Int)] := Cel.block (l := [.int .i64 ((at_ + (to + 4) : Nat) : Int)]) nb3.blk rfl (by simp) (Nat.le_refl _)
  refine App.own slT_sl_int hSe16 hYi (by intro v hv; simp at hv; subst hv; rfl) (by unfold maxLen; simp only; omega) (by simp only; omega) fun se2 w17 hSe17 hl17 fB hblk2 => ?_
  have hB17 := hB16.fr fB (hSe16.ne hB16 (by decide))
  have hBw17 := hBw16.fr fB (hSe16.ne hBw16 (by decide))
  have hSu17 := hSu16.fr fB (hSu16.apart hSe16 (by decide))
  refine hB17.sto (lt_ rfl) fun w18 hB18 f18 => ?_
  have hBw18 := hBw17.fr f18 (by simp; exact Ne.symm hpq)
  have hSu18 := hSu17.fr f18 fun k hk hx => by simp at hx; subst hx; exact hSu17.ne hB17 (by decide) hk
  have hSe18 := hSe17.fr f18 fun k hk hx => by simp at hx; subst hx; exact hSe17.ne hB17 (by decide) hk
  -- rows of bytes stay
  have U : ∀ {r : Slc} {cs : List Value}, Own Ty_uint8 1 w9 r cs → Own Ty_uint8 1 w18 r cs := fun h => by
    have h10 := h.fr0 nb2.fr
    have h11 := h10.fr fA (h10.apart hSu10 (by decide))
    have h12 := h11.fr f12 fun k hk hx => by simp at hx; subst hx; exact h11.ne hB11 (by decide) hk
    have h13 := h12.fr f13 fun k hk hx => by simp at hx; subst hx; exact h12.ne hBw12 (by decide) hk
    have h14 := h13.fr f14 fun k hk hx => by simp at hx; subst hx; exact h13.ne hBw13 (by decide) hk
    have h15 := h14.fr f15 fun k hk hx => by simp at hx; subst hx; exact h14.ne hB14 (by decide) hk
    have h16 := h15.fr0 f56
    have h17 := h16.fr fB (h16.apart hSe16 (by decide))
    exact h17.fr f18 fun k hk hx => by simp at hx; subst hx; exact h17.ne hB17 (by decide) hk
  have pS : ∀ x, x ∈ [p] → x ∈ ([] : List Nat) ∨ w0.heap.size ≤ x := fun x hx => .inr (by simp at hx; omega)
  have qS : ∀ x, x ∈ [q] → x ∈ ([] : List Nat) ∨ w0.heap.size ≤ x := fun x hx => .inr (by simp at hx; omega)
  have F9 : Fr [] w0 w9 := hfr.then_ f09
  have F10 := F9.then_ nb2.fr
  have F16 : Fr [] w0 w16 := (((((F10.local_ fA fun x hx => .inr (hsun x hx)).local_ f12 pS).local_ f13 qS).local_ f14 qS).local_ f15 pS).then_ f56
  have F18 : Fr [] w0 w18 := (F16.local_ fB fun x hx => .inr (hsen x hx)).local_ f18 pS
  have hnx : (nextR rest last) = (0, (readB ((rest.take to).drop frm)).1, to + 4, le4 (crc (last ++ rest.take to))) := hN
  refine Ge.ok ⟨rfl, by rw [hnx], y, ?_⟩
  rw [hnx]
  simp only
  refine ⟨⟨F18, hdat, ⟨x, by simpa using hBw18, U hX9⟩, ⟨su2, se2, by simpa using hB18, ?_, ?_, fun k hk => ?_, fun k hk => ?_⟩, fun u hu => ?_, hpn, hqn, le4_len _, Nat.add_le_of_le_sub' hle (hrl ▸ hlen), ?_, by simp [hec], ⟨x, by simpa using hBw18, U hX9, fun k hk => Nat.le_trans (hfr.then_ (f04.then_ f5)).size (hX.new k hk), fun u hu k hk hk' => ?_⟩, ?_⟩, fun b T cs n1 n2 n3 n4 hb => ?_⟩
  · rw [List.map_append, List.flatten_append]
    simpa using hSu18
  · rw [List.map_append]
    exact hSe18
  · rcases hblk k hk with h8 | h8
    · exact hsun k h8
    · rw [h8]; exact F10.size
  · rcases hblk2 k hk with h8 | h8
    · exact hsen k h8
    · rw [h8]; exact F16.size
  · rcases List.mem_append.1 hu with h8 | h8
    · have := hrows u h8
      exact ⟨U (this.own.fr0 f09), this.new⟩
    · simp at h8
      subst h8
      exact ⟨U hy.own, fun k hk => Nat.le_trans (hfr.then_ f08).size (hy.new k hk)⟩
  · rw [List.length_append]
    exact Nat.add_le_add hcnt (Nat.succ_le_of_lt (Nat.succ_pos _))
  · rcases List.mem_append.1 hu with h8 | h8
    · exact absurd ((hrows u h8).own.lt k hk') (Nat.not_lt.2 (Nat.le_trans (f04.then_ f5).size (hX.new k hk)))
    · simp at h8
      subst h8
      exact absurd (hX.own.lt k hk) (Nat.not_lt.2 (Nat.le_trans (f7.then_ fd7).size (hy.new k hk')))
  · refine List.pairwise_append.2 ⟨hap, List.pairwise_singleton _ _, fun a ha b hb k hk hk' => ?_⟩
    simp at hb
    subst hb
    exact absurd ((hrows a ha).own.lt k hk) (Nat.not_lt.2 (Nat.le_trans f08.size (hy.new k hk')))
  · have h9 := hb.fr f09 (by simp)
    have h10 := h9.fr nb2.fr (by simp)
    have h11 := h10.fr fA (hSu10.ne h10 (Ne.symm n3))
    have h12 := h11.fr f12 (by simp; exact h11.ne_ hB11 n1)
    have h13 := h12.fr f13 (by simp; exact h12.ne_ hBw12 n2)
    have h14 := h13.fr f14 (by simp; exact h13.ne_ hBw13 n2)
    have h15 := h14.fr f15 (by simp; exact h14.ne_ hB14 n1)
    have h16 := h15.fr f56 (by simp)
    have h17 := h16.fr fB (hSe16.ne h16 (Ne.symm n4))
    exact h17.fr f18 (by simp; exact h17.ne_ hB17 n1)
end Go.Proofs.YtflcdgkckfcofaaGreatDoor

/-
  Contracts of record.Scan.
-/
namespace Go.Proofs.YtflcdgkckfcofaaGreatDoor
open Go Go.Vc
def Vc_up (u : Upd) : Up := ⟨u.kind, u.key, u.cnt, u.cli, u.fin, u.has, u.ds⟩
def scanL (bs : List UInt8) : Nat → Nat → List UInt8 → List Up × List Nat × Int × Nat × List UInt8
  | 0, at_, last => ([], [], 0, at_, last)
  | f + 1, at_, last =>
    if bs.length ≤ at_ then ([], [], 0, at_, last)
    else if (nextR (bs.drop at_) last).1 ≠ 0 then ([], [], (nextR (bs.drop at_) last).1, at_, last)
    else ((nextR (bs.drop at_) last).2.1 :: (scanL bs f (at_ + (nextR (bs.drop at_) last).2.2.1) (nextR (bs.drop at_) last).2.2.2).1, (at_ + (nextR (bs.drop at_) last).2.2.1) :: (scanL bs f (at_ + (nextR (bs.drop at_) last).2.2.1) (nextR (bs.drop at_) last).2.2.2).2.1,
      (scanL bs f (at_ + (nextR (bs.drop at_) last).2.2.1) (nextR (bs.drop at_) last).2.2.2).2.2)
def muS (bs : List UInt8) (p : Nat) (w : World) : Nat := match w.cell? ((blk p).add 1) with | some (.int _ n) => bs.length - n.toNat | _ => 0
theorem muS_of {bs : List UInt8} {p : Nat} {w : World} {n : Nat} (h : w.cell? ((blk p).add 1) = some (.int .i64 (n : Int))) : muS bs p w = bs.length - n := by
  unfold muS; rw [h]; simp
theorem c2_c {w0 w : World} {p q b1 b2 : Nat} {ds : Slc} {bs : List UInt8} {at_ : Nat} {us : List Upd} {ends : List Nat} {last : List UInt8} (hG : GT w0) (hg : G_sum_steps < w0.heap.size) (h : SC w0 w p q ds bs at_ us ends last) (hm : bs.length ≤ 1099511627776)
    (h1 : Blk w b1 Ty_p_record_scanner #[.pointer (some (blk p))]) (h2 : Blk w b2 Ty_sl_uint8 #[ds.v]) :
    Calls PP F_record_Scan_c2 #[.pointer (some (blk b1)), .pointer (some (blk b2))] w (Ge (fun _v w' => (scanL bs (bs.length - at_) at_ last).2.2.1 = 0 ∧ ∃ X, X.map Vc_up = (scanL bs (bs.length - at_) at_ last).1 ∧ SC w0 w' p q ds bs (scanL bs (bs.length - at_) at_ last).2.2.2.1 (us ++ X) (ends ++ (scanL bs (bs.length - at_) at_ last).2.1) (scanL bs (bs.length - at_) at_ last).2.2.2.2 ∧ KeepS w w')
      fun n w' => n = (scanL bs (bs.length - at_) at_ last).2.2.1 ∧ n ≠ 0 ∧ ∃ X, X.map Vc_up = (scanL bs (bs.length - at_) at_ last).1 ∧ SC w0 w' p q ds bs (scanL bs (bs.length - at_) at_ last).2.2.2.1 (us ++ X) (ends ++ (scanL bs (bs.length - at_) at_ last).2.1) (scanL bs (bs.length - at_) at_ last).2.2.2.2 ∧ KeepS w w') := by
  refine sim_record_Scan_c2 _ _ _ _ ?_
  unfold vc_record_Scan_c2
  generalize hT : scanL bs (bs.length - at_) at_ last = T
  refine ⟨fun w' => ∃ f a X es l, bs.length - a ≤ f ∧ SC w0 w' p q ds bs a (us ++ X) (ends ++ es) l ∧ KeepS w w' ∧ T = (X.map Vc_up ++ (scanL bs f a l).1, es ++ (scanL bs f a l).2.1, (scanL bs f a l).2.2), muS bs p,
    ⟨bs.length - at_, at_, [], [], last, Nat.le_refl _, by simpa using h, KeepS.of (Fr.refl _ _), by rw [hT]; simp⟩, ?_⟩
  rintro w1 ⟨f, a, X, es, l, hf, hS, hK, hT2⟩
  obtain ⟨su, se, hB, _⟩ := hS.own
  have hb1 := hK _ _ _ (by decide) (by decide) (by decide) (by decide) h1
  have hb2 := hK _ _ _ (by decide) (by decide) (by decide) (by decide) h2
  have hdl := hS.dat.len
  refine ⟨_, hb1.cell (i := 0) rfl, _, rfl, _, hB.cell rfl, ds, hb2.cell (i := 0) rfl, fun k => ?_⟩
  have fk := drewFr w1 k
  have hSk : SC w0 (w1.drewN k) p q ds bs a (us ++ X) (ends ++ es) l := by
    obtain ⟨hfr, hdat, hrw, ⟨su, se, hB, hSu, hSe, hsun, hsen⟩, hrows, hpn, hqn, hlst, hle, hcnt, hec, ⟨lv, hv1, hv2, hv3, hv4⟩, hap⟩ := hS
    exact ⟨hfr.then_ fk, hdat, hrw.fr fk (by simp) fun _ _ _ => by simp, ⟨su, se, hB.fr fk (by simp), hSu.fr0 fk, hSe.fr0 fk, hsun, hsen⟩, fun u hu => (hrows u hu).fr fk fun k hk => absurd hk (by simp), hpn, hqn, hlst, hle, hcnt, hec, ⟨lv, hv1.fr fk (by simp), hv2.fr0 fk, hv3, hv4⟩, hap⟩
  have hKk := hK.trans (KeepS.of fk)
  refine ⟨fun hlt => ?_, fun hge => ?_⟩
  · simp only [decide_eq_true_eq, hdl] at hlt
    have hal : a < bs.length := by omega
    obtain ⟨f, rfl⟩ : ∃ g, f = g + 1 := ⟨f - 1, by omega⟩
    refine ⟨_, (hb1.fr fk (by simp)).cell (i := 0) rfl, callG (next_c hG hg hSk hal hm) ?_ ?_⟩
    · rintro _ w2 ⟨rfl, h0, y, hS2, hK2⟩
      have hle2 := hS2.le
      have hst : a < a + (nextR (bs.drop a) l).2.2.1 := by
        have : (nextR (bs.drop a) l).2.2.1 = 1 + (uintR (((bs.drop a).take (min (bs.drop a).length 11)).drop 1) 66000 ⟨0, 0⟩).2.at_ + (uintR (((bs.drop a).take (min (bs.drop a).length 11)).drop 1) 66000 ⟨0, 0⟩).1.toNat + 4 := rfl
        omega
      obtain ⟨su2, se2, hB2, _⟩ := hS2.own
      refine ⟨rfl, ⟨f, a + (nextR (bs.drop a) l).2.2.1, X ++ [(nextR (bs.drop a) l).2.1.upd y], es ++ [a + (nextR (bs.drop a) l).2.2.1], _, by omega, by simpa using hS2, hKk.trans hK2, ?_⟩, ?_⟩
      · rw [hT2, scanL, if_neg (by omega), if_neg (by simpa using h0)]
        simp [Vc_up, Up.upd]
      · rw [muS_of (hB2.cell rfl), muS_of (hB.cell rfl)]
        omega
    · rintro n w2 ⟨rfl, hn, hS2, hK2⟩
      rw [scanL, if_neg (by omega), if_pos hn] at hT2
      refine Ge.no ⟨by rw [hT2], hn, X, by rw [hT2]; simp, by rw [hT2]; simpa using hS2, hKk.trans hK2⟩
  · simp only [decide_eq_false_iff_not, hdl] at hge
    have hle2 := hSk.le
    have hT3 : T = (X.map Vc_up, es, 0, a, l) := by
      rw [hT2]
      cases f with
      | zero => simp [scanL]
      | succ f => rw [scanL, if_pos (by omega)]; simp
    refine Ge.ok ⟨by rw [hT3], X, by rw [hT3], by rw [hT3]; exact hSk, hKk⟩
end Go.Proofs.YtflcdgkckfcofaaGreatDoor

/-
  Contracts of record.Scan, continued: the head, and all of it.
-/
namespace Go.Proofs.YtflcdgkckfcofaaGreatDoor
open Go Go.Vc
theorem c1_c {w : World} {b1 b2 b3 : Nat} {ds : Slc} {bs : List UInt8} {h0 h1 h2 h3 x : Int} (hG : GT w) (h : Byt w ds bs) (hm : bs.length ≤ 140737488355000) (k1 : Blk w b1 Ty_sl_uint8 #[ds.v]) (k2 : Blk w b2 Ty_api_Head #[.int .i64 h0, .int .i64 h1, .int .i64 h2, .int .i64 h3]) (k3 : Blk w b3 Ty_int #[.int .i64 x]) :
    Calls PP F_record_Scan_c1 #[.pointer (some (blk b1)), .pointer (some (blk b2)), .pointer (some (blk b3))] w (Ge (fun _v w' => okH bs = true ∧ Blk w' b2 Ty_api_Head #[.int .i64 (readH bs).n, .int .i64 (readH bs).k, .int .i64 (readH bs).d, .int .i64 (readH bs).s] ∧ Blk w' b3 Ty_int #[.int .i64 ((readH bs).bs.length : Int)] ∧ Fr [b2, b3] w w')
      fun n w' => okH bs = false ∧ n = 63 ∧ Fr [] w w') := by
  refine sim_record_Scan_c1 _ _ _ _ _ ?_
  unfold vc_record_Scan_c1
  refine ⟨ds, k1.cell (i := 0) rfl, callG (readHead_c hG h hm) ?_ ?_⟩
  · rintro _ w1 ⟨hk, rfl, f1⟩
    have k2' := k2.fr f1 (by simp)
    have k3' := k3.fr f1 (by simp)
    refine ⟨_, _, _, _, _, rfl, k2'.stoAll rfl fun w2 h2 f2 => ?_⟩
    have k3'' := k3'.fr f2 (by simp; exact (k3'.ne_ k2' (by decide)))
    refine k3''.sto (i := 0) (lt_ rfl) fun w3 h3 f3 => Ge.ok ⟨hk, ?_, by simpa using h3, ?_⟩
    · exact Blk.fr (cs := #[.int .i64 (readH bs).n, .int .i64 (readH bs).k, .int .i64 (readH bs).d, .int .i64 (readH bs).s]) (by simpa using h2) f3 (by simp; exact (k2'.ne_ k3' (by decide)))
    · exact ((f1.sub (T := [b2, b3]) fun k hk => absurd hk (by simp)).local_ f2 fun y hy => .inl (by simp at hy ⊢; exact .inl hy)).local_ f3 fun y hy => .inl (by simp at hy ⊢; exact .inr hy)
  · rintro n w1 ⟨hk, rfl, f1⟩
    exact Ge.no ⟨hk, rfl, f1⟩
def headLast (bs : List UInt8) : List UInt8 := (bs.take (readH bs).bs.length).drop ((readH bs).bs.length - 4)
def scanT (bs : List UInt8) : List Up × List Nat × Int × Nat × List UInt8 := scanL bs (bs.length - (readH bs).bs.length) (readH bs).bs.length (headLast bs)
theorem okH_len {bs : List UInt8} (h : okH bs = true) : (readH bs).bs.length ≤ bs.length ∧ 4 ≤ (readH bs).bs.length ∧ bs.take (readH bs).bs.length = (readH bs).bs ∧ (readH bs).bs.length ≤ 1000 := by
  unfold okH at h
  rw [Bool.and_eq_true] at h
  obtain ⟨h1, h2⟩ := h
  unfold okH2 at h2
  unfold okH1 at h1
  simp only [Bool.and_eq_true, decide_eq_true_eq] at h1 h2
  obtain ⟨e1, e2, e3, e4, e5, e6, e7⟩ := mayHead_ok h1.2
  have hpl := headPre_len (n := (readH bs).n.toNat) (k := (readH bs).k.toNat) (d := (readH bs).d.toNat) (s := (readH bs).s.toNat) (by omega) (by omega) (by omega) (by omega)
  have hl : (readH bs).bs.length = (headPre (readH bs).n.toNat (readH bs).k.toNat (readH bs).d.toNat (readH bs).s.toNat).length + 4 := by simp [Hd.bs, headBs, le4_len]
  refine ⟨by omega, by omega, h2.2, by omega⟩
def RelS (wc : World) (ds : Slc) (hl : Nat) (last : List UInt8) (oC : Option Slc) (oW oE oS oV : Option Nat) (oX : Option Unit) (w : World) : Prop :=
  Fr [] wc w ∧ (∀ s, oC = some s → Row wc w s last) ∧ (∀ s b, oC = some s → oW = some b → Blk w b Ty_record_Writer #[s.v, .int .i64 0] ∧ wc.heap.size ≤ b) ∧
  (∀ b, oE = some b → Blk w b Ty_int #[.int .i64 (hl : Int)] ∧ wc.heap.size ≤ b) ∧
  (∀ b bw be, oS = some b → oW = some bw → oE = some be → Blk w b Ty_record_scanner #[ds.v, .int .i64 (hl : Int), .pointer (some (blk bw)), Slc.nil.v, (Slc.mk (some (blk be)) 1 1).v] ∧ wc.heap.size ≤ b) ∧
  (∀ b, oV = some b → oX = none → Blk w b Ty_p_record_scanner #[.pointer none] ∧ wc.heap.size ≤ b) ∧
  (∀ b bs, oV = some b → oS = some bs → oX = some () → Blk w b Ty_p_record_scanner #[.pointer (some (blk bs))] ∧ wc.heap.size ≤ b)
theorem RelS.fr0 {wc : World} {ds : Slc} {hl : Nat} {last : List UInt8} {oC : Option Slc} {oW oE oS oV : Option Nat} {oX : Option Unit} {w w' : World} (h : RelS wc ds hl last oC oW oE oS oV oX w) (f : Fr [] w w') : RelS wc ds hl last oC oW oE oS oV oX w' := by
  obtain ⟨h1, h2, h3, h4, h5, h6, h7⟩ := h
  have n : ∀ x, x ∉ ([] : List Nat) := by simp
  exact ⟨h1.then_ f, fun s e => (h2 s e).fr f fun k hk => absurd hk (n k), fun s b e1 e2 => ⟨(h3 s b e1 e2).1.fr f (n _), (h3 s b e1 e2).2⟩, fun b e => ⟨(h4 b e).1.fr f (n _), (h4 b e).2⟩,
    fun b bw be e1 e2 e3 => ⟨(h5 b bw be e1 e2 e3).1.fr f (n _), (h5 b bw be e1 e2 e3).2⟩, fun b e1 e2 => ⟨(h6 b e1 e2).1.fr f (n _), (h6 b e1 e2).2⟩, fun b bs e1 e2 e3 => ⟨(h7 b bs e1 e2 e3).1.fr f (n _), (h7 b bs e1 e2 e3).2⟩⟩
theorem SC.frS {S : List Nat} {w0 w w' : World} {p q : Nat} {ds : Slc} {bs : List UInt8} {at_ : Nat} {us : List Upd} {ends : List Nat} {last : List UInt8} (h : SC w0 w p q ds bs at_ us ends last) (f : Fr S w w') (hS : ∀ k ∈ S, w0.heap.size ≤ k)
    (hT : ∀ k ∈ S, ∃ T cs, Blk w k T cs ∧ T ≠ Ty_record_scanner ∧ T ≠ Ty_record_Writer ∧ T ≠ Ty_api_Update ∧ T ≠ Ty_int ∧ T ≠ Ty_uint8) : SC w0 w' p q ds bs at_ us ends last := by
  obtain ⟨hfr, hdat, ⟨lw, hBw, hOw⟩, ⟨su, se, hB, hSu, hSe, hsun, hsen⟩, hrows, hpn, hqn, hlst, hle, hcnt, hec, ⟨lv, hv1, hv2, hv3, hv4⟩, hap⟩ := h
  have hu : ∀ {r : Slc} {cs : List Value}, Own Ty_uint8 1 w r cs → Own Ty_uint8 1 w' r cs := fun h => h.fr f fun k hk hx => by
    obtain ⟨T, ds, h1, _, _, _, _, h6⟩ := hT k hx
    exact h.ne h1 (Ne.symm h6) hk
  refine ⟨hfr.local_ f fun x hx => .inr (hS x hx), hdat, ⟨lw, hBw.fr f fun hx => ?_, hu hOw⟩, ⟨su, se, hB.fr f fun hx => ?_, hSu.fr f fun k hk hx => ?_, hSe.fr f fun k hk hx => ?_, hsun, hsen⟩, fun u hu' => ⟨hu (hrows u hu').own, (hrows u hu').new⟩, hpn, hqn, hlst, hle, hcnt, hec, ⟨lv, hv1.fr f fun hx => ?_, hu hv2, hv3, hv4⟩, hap⟩
  · obtain ⟨T, ds, h1, _, h3, _⟩ := hT _ hx
    exact hBw.ne_ h1 (Ne.symm h3) rfl
  · obtain ⟨T, ds, h1, h2, _⟩ := hT _ hx
    exact hB.ne_ h1 (Ne.symm h2) rfl
  · obtain ⟨T, ds, h1, _, _, h4, _⟩ := hT k hx
    exact hSu.ne h1 (Ne.symm h4) hk
  · obtain ⟨T, ds, h1, _, _, _, h5, _⟩ := hT k hx
    exact hSe.ne h1 (Ne.symm h5) hk
  · obtain ⟨T, ds, h1, _, h3, _⟩ := hT _ hx
    exact hBw.ne_ h1 (Ne.symm h3) rfl
theorem scan_cs {w : World} {s : Slc} {bs : List UInt8} (hG : GT w) (h : Byt w s bs) (hm : bs.length ≤ 1099511627776) :
    Calls PP F_record_Scan #[s.v] w (Rt fun v w' => Fr [] w w' ∧
      ((okH bs = false ∧ v = .tuple #[.agg #[.int .i64 0, .int .i64 0, .int .i64 0, .int .i64 0], Slc.nil.v, Slc.nil.v, .int .i64 0, .pointer none, .int .i64 63]) ∨
       (okH bs = true ∧ ∃ (q : Nat) (us : List Upd) (su se : Slc), us.map Vc_up = (scanT bs).1 ∧ v = .tuple #[(readH bs).v, su.v, se.v, .int .i64 (scanT bs).2.2.1, .pointer (some (blk q)), .int .i64 0] ∧
         Own Ty_api_Update 7 w' su (us.map Upd.cells).flatten ∧ Own Ty_int 1 w' se (((readH bs).bs.length :: (scanT bs).2.1).map fun n => Value.int .i64 ((n : Nat) : Int)) ∧ (∀ u ∈ us, Row w w' u.data u.ds) ∧
         RW w' q (scanT bs).2.2.2.2 (us.length : Int) ∧ w.heap.size ≤ q ∧ (∀ k ∈ su.blks, w.heap.size ≤ k) ∧ (∀ k ∈ se.blks, w.heap.size ≤ k) ∧ (scanT bs).2.2.2.2.length = 4 ∧
         (∃ s : Slc, Blk w' q Ty_record_Writer #[s.v, .int .i64 (us.length : Int)] ∧ Own Ty_uint8 1 w' s ((scanT bs).2.2.2.2.map u8v) ∧ (∀ k ∈ s.blks, w.heap.size ≤ k) ∧ ∀ u ∈ us, ∀ k ∈ s.blks, k ∉ u.data.blks) ∧ us.Pairwise fun a b => ∀ k ∈ a.data.blks, k ∉ b.data.blks))) := by
  have hgp := hG.pos
  refine sim_record_Scan _ _ _ ?_
  unfold vc_record_Scan
  refine New.intro fun b3 w1 n3 => New.intro fun b6 w2 n6 => New.intro fun b10 w3 n10 => New.intro fun b14 w4 n14 => ?_
  have f4 := ((n3.fr.then_ n6.fr).then_ n10.fr).then_ n14.fr
  have k3 := ((n3.blk.fr n6.fr (by simp)).fr n10.fr (by simp)).fr n14.fr (by simp)
  have k6 := (n6.blk.fr n10.fr (by simp)).fr n14.fr (by simp)
  have k10 := n10.blk.fr n14.fr (by simp)
  have k14 := n14.blk
  have s3 : w.heap.size ≤ b3 := by rw [n3.at_]; exact Nat.le_refl _
  have s6 : w.heap.size ≤ b6 := by rw [n6.at_]; exact n3.fr.size
  have s10 : w.heap.size ≤ b10 := by rw [n10.at_]; exact (n3.fr.then_ n6.fr).size
  have s14 : w.heap.size ≤ b14 := by rw [n14.at_]; exact ((n3.fr.then_ n6.fr).then_ n10.fr).size
  have d610 : b6 ≠ b10 := by have := (n6.blk).lt; have := n10.at_; omega
  let Z : Array Value := #[.int .i64 0, .int .i64 0, .int .i64 0, .int .i64 0]
  let HH : Array Value := #[.int .i64 (readH bs).n, .int .i64 (readH bs).k, .int .i64 (readH bs).d, .int .i64 (readH bs).s]
  let R : Int → World → Prop := fun n w' => Fr [] w w' ∧ Blk w' b6 Ty_api_Head Z ∧ ((n = 63 ∧ okH bs = false) ∨ (n = 0 ∧ okH bs = true ∧ Blk w' b3 Ty_sl_uint8 #[s.v] ∧ Blk w' b10 Ty_api_Head HH ∧ Blk w' b14 Ty_int #[.int .i64 ((readH bs).bs.length : Int)]))
  refine call (caught_c (K := fun _ n w' => R n w' ∧ w4.heap.size ≤ w'.heap.size) (R := R) (by kernel_rfl) (fun b w5 nb => ?_) (fun b n w' w'' hb hK fB => ?_)) ?_
  · refine (c1_c (hG.fr0 (f4.then_ nb.fr)) (h.fr0 (f4.then_ nb.fr)) (by omega) (k3.fr nb.fr (by simp)) (k10.fr nb.fr (by simp)) (k14.fr nb.fr (by simp))).mono ?_
    have f45 := f4.then_ nb.fr
    have k6' := k6.fr nb.fr (by simp)
    have k3' := k3.fr nb.fr (by simp)
    rintro (v | c | _) w6 hx
    · obtain ⟨hk, hb10, hb14, f6⟩ := hx
      have hbe := nb.blk
      have g10 := k10.fr nb.fr (by simp)
      have g14 := k14.fr nb.fr (by simp)
      have F6 : Fr [] w w6 := f45.local_ f6 fun x hx => .inr (by simp at hx; rcases hx with rfl | rfl <;> assumption)
      refine ⟨hbe.fr f6 (by simp; exact ⟨hbe.ne_ g10 (by decide), hbe.ne_ g14 (by decide)⟩), ⟨F6, k6'.fr f6 (by simp; exact ⟨d610, k6'.ne_ g14 (by decide)⟩), .inr ⟨rfl, hk, k3'.fr f6 (by simp; exact ⟨k3'.ne_ g10 (by decide), k3'.ne_ g14 (by decide)⟩), hb10, hb14⟩⟩, Nat.le_trans nb.fr.size f6.size⟩
    · obtain ⟨n, rfl, hk, rfl, f6⟩ := hx
      exact ⟨63, rfl, nb.blk.fr f6 (by simp), ⟨f45.then_ f6, k6'.fr f6 (by simp), .inl ⟨rfl, hk⟩⟩, (nb.fr.then_ f6).size⟩
    · exact hx.elim
  · obtain ⟨⟨hF, hZ, hor⟩, hsz⟩ := hK
    have hlt : ∀ {g T cs}, Blk w4 g T cs → g ∉ [b] := fun hg hx => by have := hg.lt; simp at hx; omega
    refine ⟨hF.local_ fB fun x hx => .inr (by simp at hx; rw [hx]; exact Nat.le_trans f4.size hb), hZ.fr fB (hlt k6), ?_⟩
    rcases hor with ⟨e1, e2⟩ | ⟨e1, e2, e3, e4, e5⟩
    · exact .inl ⟨e1, e2⟩
    · exact .inr ⟨e1, e2, e3.fr fB (hlt k3), e4.fr fB (hlt k10), e5.fr fB (hlt k14)⟩
  rintro _ w7 ⟨n, rfl, hF, hZ, hor⟩
  rcases hor with ⟨rfl, hk⟩ | ⟨rfl, hk, k3, k10, k14⟩
  · refine ⟨63, rfl, fun _ => hZ.stoAll rfl fun w8 h8 f8 => ?_, fun h => by simp at h⟩
    refine ⟨_, h8.cell rfl, _, h8.cell rfl, _, h8.cell rfl, _, h8.cell rfl, Rt.ok ⟨hF.local_ f8 fun x hx => .inr (by simp at hx; rw [hx]; exact s6), .inl ⟨hk, rfl⟩⟩⟩
  obtain ⟨l1, l2, l3, l4⟩ := okH_len hk
  have hsl := h.len
  have hsc := h.cap
  refine ⟨0, rfl, fun h => by simp at h, fun _ => ?_⟩
  generalize hhl : (readH bs).bs.length = hl at *
  have ew : wr .i64 ((hl : Int) - 4) = ((hl - 4 : Nat) : Int) := by rw [wr64 (by omega) (by omega)]; omega
  refine ⟨s, (hl : Int), s, (hl : Int), (hl : Int), ?_⟩
  rw [ew]
  have K3 : ∀ {x : World}, Fr [] w7 x → x.cell? (blk b3) = some s.v := fun f => (k3.fr f (by simp)).cell (i := 0) rfl
  have K14 : ∀ {x : World}, Fr [] w7 x → x.cell? (blk b14) = some (.int .i64 (hl : Int)) := fun f => (k14.fr f (by simp)).cell (i := 0) rfl
  have hhL : headLast bs = (bs.drop (hl - 4)).take (hl - (hl - 4)) := by unfold headLast; rw [hhl, List.drop_take]
  have hL4 : (headLast bs).length = 4 := by rw [hhL]; simp only [List.length_take, List.length_drop]; omega
  have hwd : w.heap.size ≤ w7.heap.size := hF.size
  refine ⟨by omega, by omega, by omega, (hl : Int), RelS w7 s hl (headLast bs), ⟨drewFr w7 1, by simp, by simp, by simp, by simp, by simp, by simp⟩, fun _ _ _ _ _ r => K3 r.1, fun _ _ _ _ _ r => K14 r.1, fun _ _ _ r => K3 r.1, fun _ _ _ r => K14 r.1, fun _ _ _ r => K14 r.1, fun _ _ _ _ r => K14 r.1, ?_, ?_, ?_, ?_, ?_, ?_, ?_⟩
  · intro oE oV x r
    refine call (clone_c (bs := headLast bs) (cut_all (h.fr0 (hF.then_ r.1)) (by rw [Int.toNat_natCast, Int.toNat_natCast]; omega) (by rw [Int.toNat_natCast]; omega) (by rw [hhL, Int.toNat_natCast, Int.toNat_natCast])) (by omega)) ?_
    rintro _ x2 ⟨y, rfl, hM⟩
    obtain ⟨r1, r2, r3, r4, r5, r6, r7⟩ := r.fr0 hM.fr
    refine ⟨y, rfl, r1, fun s' e => ?_, by simp, r4, by simp, r6, by simp⟩
    simp at e
    subst e
    exact (hM.since r.1).row'
  · intro y oE oV x r
    refine New.intro fun b x2 nb => ?_
    obtain ⟨r1, r2, r3, r4, r5, r6, r7⟩ := r.fr0 nb.fr
    refine ⟨r1, r2, fun s' b' e1 e2 => ?_, r4, by simp, r6, by simp⟩
    simp at e1 e2
    subst e1 e2
    exact ⟨nb.blk, by rw [nb.at_]; exact r.1.size⟩
  · intro oC oW oV x r
    refine New.intro fun b x2 nb => ?_
    obtain ⟨r1, r2, r3, r4, r5, r6, r7⟩ := r.fr0 nb.fr
    refine ⟨r1, r2, r3, fun b' e => ?_, by simp, r6, by simp⟩
    simp at e
    subst e
    exact ⟨nb.blk, by rw [nb.at_]; exact r.1.size⟩
  · intro y bw be oV x r
    refine New.intro fun b x2 nb => ?_
    obtain ⟨r1, r2, r3, r4, r5, r6, r7⟩ := r.fr0 nb.fr
    refine ⟨r1, r2, r3, r4, fun b' bw' be' e1 e2 e3 => ?_, r6, by simp⟩
    simp at e1 e2 e3
    subst e1 e2 e3
    exact ⟨nb.blk, by rw [nb.at_]; exact r.1.size⟩
  · intro oC oW oE oS x r
    refine New.intro fun b x2 nb => ?_
    obtain ⟨r1, r2, r3, r4, r5, r6, r7⟩ := r.fr0 nb.fr
    refine ⟨r1, r2, r3, r4, r5, fun b' e _ => ?_, by simp⟩
    simp at e
    subst e
    exact ⟨nb.blk, by rw [nb.at_]; exact r.1.size⟩
  · intro y bw be b13 b72 x r
    obtain ⟨r1, r2, r3, r4, r5, r6, r7⟩ := r
    obtain ⟨hV, hVn⟩ := r6 b72 rfl rfl
    have n72 : ∀ x, x ∈ [b72] → x ∈ ([] : List Nat) ∨ w7.heap.size ≤ x := fun x hx => .inr (by simp at hx; omega)
    have hs0 : Sto x ((blk b72).add 0) (.pointer (some (blk b13))) fun w75 => RelS w7 s hl (headLast bs) (some y) (some bw) (some be) (some b13) (some b72) (some ()) w75 := hV.sto (lt_ rfl) fun x2 hV2 f2 => by
      refine ⟨r1.local_ f2 n72, fun s' e => ?_, fun s' b' e1 e2 => ?_, fun b' e => ?_, fun b' bw' be' e1 e2 e3 => ?_, by simp, fun b' bs' e1 e2 _ => ?_⟩
      · exact (r2 s' e).fr f2 fun k hk => by simp at hk; subst hk; exact .inr ⟨_, _, by decide, hV⟩
      · exact ⟨(r3 s' b' e1 e2).1.fr f2 (by simp; exact (r3 s' b' e1 e2).1.ne_ hV (by decide)), (r3 s' b' e1 e2).2⟩
      · exact ⟨(r4 b' e).1.fr f2 (by simp; exact (r4 b' e).1.ne_ hV (by decide)), (r4 b' e).2⟩
      · exact ⟨(r5 b' bw' be' e1 e2 e3).1.fr f2 (by simp; exact (r5 b' bw' be' e1 e2 e3).1.ne_ hV (by decide)), (r5 b' bw' be' e1 e2 e3).2⟩
      · simp at e1 e2
        subst e1 e2
        exact ⟨by simpa using hV2, hVn⟩
    exact hs0
  · intro y bw be b13 b72 x r
    obtain ⟨r1, r2, r3, r4, r5, r6, r7⟩ := r
    obtain ⟨hW, hWn⟩ := r3 y bw rfl rfl
    obtain ⟨hE, hEn⟩ := r4 be rfl
    obtain ⟨hS, hSn⟩ := r5 b13 bw be rfl rfl rfl
    obtain ⟨hV, hVn⟩ := r7 b72 b13 rfl rfl rfl
    have hy := r2 y rfl
    have Fx : Fr [] w x := hF.then_ r1
    have hSC : SC w x b13 bw s bs hl [] [hl] (headLast bs) := ⟨Fx, h, ⟨y, hW, hy.own⟩, ⟨Slc.nil, Slc.mk (some (blk be)) 1 1, hS, Own.nil _ _ _, Own.made hE rfl (by decide), fun k hk => by simp [Slc.blks] at hk, fun k hk => by simp [Slc.blks] at hk; omega⟩,
      fun u hu => by simp at hu, by omega, by omega, hL4, l1, Nat.zero_le _, rfl, ⟨y, hW, hy.own, fun k hk => Nat.le_trans hF.size (hy.new k hk), fun u hu => by simp at hu⟩, List.Pairwise.nil⟩
    have kx3 := k3.fr r1 (by simp)
    have kx10 := k10.fr r1 (by simp)
    have kx6 := hZ.fr r1 (by simp)
    have hTe : scanT bs = scanL bs (bs.length - hl) hl (headLast bs) := by unfold scanT; rw [hhl]
    let R2 : Int → World → Prop := fun n w' => n = (scanT bs).2.2.1 ∧ Blk w' b6 Ty_api_Head Z ∧ Blk w' b10 Ty_api_Head HH ∧ Blk w' b72 Ty_p_record_scanner #[.pointer (some (blk b13))] ∧ ∃ X : List Upd, X.map Vc_up = (scanT bs).1 ∧ SC w w' b13 bw s bs (scanT bs).2.2.2.1 X (hl :: (scanT bs).2.1) (scanT bs).2.2.2.2
    refine call (caught_c (K := fun b n w' => R2 n w' ∧ Blk w' b Ty_api_Errno #[.int .i64 0]) (R := R2) (by kernel_rfl) (fun b x1 nb => ?_) (fun b n w' w'' hb hK fB => ?_)) ?_
    · have hSC1 := hSC.frS nb.fr (by simp) (by simp)
      have hbe := nb.blk
      have keep6 : ∀ {w' : World}, KeepS x1 w' → Blk w' b6 Ty_api_Head Z ∧ Blk w' b10 Ty_api_Head HH ∧ Blk w' b72 Ty_p_record_scanner #[.pointer (some (blk b13))] ∧ Blk w' b Ty_api_Errno #[.int .i64 0] := fun hk2 =>
        ⟨hk2 _ _ _ (by decide) (by decide) (by decide) (by decide) (kx6.fr nb.fr (by simp)), hk2 _ _ _ (by decide) (by decide) (by decide) (by decide) (kx10.fr nb.fr (by simp)), hk2 _ _ _ (by decide) (by decide) (by decide) (by decide) (hV.fr nb.fr (by simp)), hk2 _ _ _ (by decide) (by decide) (by decide) (by decide) hbe⟩
      refine (c2_c hG hgp hSC1 hm (hV.fr nb.fr (by simp)) (kx3.fr nb.fr (by simp))).mono ?_
      rw [← hTe]
      rintro (v | c | _) w' hx
      · obtain ⟨h0, X, hX, hS2, hk2⟩ := hx
        obtain ⟨a1, a2, a3, a4⟩ := keep6 hk2
        exact ⟨a4, ⟨h0.symm, a1, a2, a3, X, hX, by simpa using hS2⟩, a4⟩
      · obtain ⟨n, rfl, rfl, h0, X, hX, hS2, hk2⟩ := hx
        obtain ⟨a1, a2, a3, a4⟩ := keep6 hk2
        exact ⟨_, rfl, a4, ⟨rfl, a1, a2, a3, X, hX, by simpa using hS2⟩, a4⟩
      · exact hx.elim
    · obtain ⟨⟨e1, a1, a2, a3, X, hX, hS2⟩, a4⟩ := hK
      refine ⟨e1, a1.fr fB (by simp; exact a1.ne_ a4 (by decide)), a2.fr fB (by simp; exact a2.ne_ a4 (by decide)), a3.fr fB (by simp; exact a3.ne_ a4 (by decide)), X, hX, hS2.frS fB (fun k hk => ?_) (fun k hk => ?_)⟩
      · simp at hk; rw [hk]; exact Nat.le_trans Fx.size hb
      · simp at hk; subst hk
        exact ⟨_, _, a4, by decide, by decide, by decide, by decide, by decide⟩
    rintro _ x2 ⟨n, rfl, e1, a1, a2, a3, X, hX, hS2⟩
    have hS3 := hS2.frS (drewFr x2 1) (by simp) (by simp)
    have c1 := a1.fr (drewFr x2 1) (by simp)
    have c2 := a2.fr (drewFr x2 1) (by simp)
    have c3 := a3.fr (drewFr x2 1) (by simp)
    obtain ⟨su, se, hB, hSu, hSe, hsun, hsen⟩ := hS3.own
    refine ⟨n, rfl, _, c2.cell rfl, _, c2.cell rfl, _, c2.cell rfl, _, c2.cell rfl, _, c3.cell (i := 0) rfl, _, rfl, su, hB.cell rfl, _, c3.cell (i := 0) rfl, _, rfl, se, hB.cell rfl, _, c3.cell (i := 0) rfl, _, rfl, _, hB.cell rfl, c1.stoAll rfl fun x3 h6 f6 => ?_⟩
    have d3 := c3.fr f6 (by simp; exact c3.ne_ c1 (by decide))
    have hS4 := hS3.frS f6 (fun k hk => by simp at hk; rw [hk]; exact s6) (fun k hk => by simp at hk; subst hk; exact ⟨_, _, c1, by decide, by decide, by decide, by decide, by decide⟩)
    have hB4 := hB.fr f6 (by simp; exact hB.ne_ c1 (by decide))
    have hSu4 := hSu.fr f6 fun k hk hx => by simp at hx; subst hx; exact hSu.ne c1 (by decide) hk
    have hSe4 := hSe.fr f6 fun k hk hx => by simp at hx; subst hx; exact hSe.ne c1 (by decide) hk
    refine ⟨d3.cell (i := 0) rfl, hB4.cell rfl, d3.cell (i := 0) rfl, hB4.cell rfl, d3.cell (i := 0) rfl, hB4.cell rfl, _, h6.cell rfl, _, h6.cell rfl, _, h6.cell rfl, _, h6.cell rfl, Rt.ok ⟨hS4.fr, .inr ⟨hk, bw, X, su, se, hX, ?_, hSu4, hSe4, hS4.rows, hS4.rw, hS4.qn, hsun, hsen, hS4.lst, hS4.rwn, hS4.ap⟩⟩⟩
    rw [e1]
    rfl
end Go.Proofs.YtflcdgkckfcofaaGreatDoor
