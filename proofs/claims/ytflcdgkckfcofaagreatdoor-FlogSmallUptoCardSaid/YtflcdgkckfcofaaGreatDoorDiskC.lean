/-
  Contracts of the package disk: what an act does.
-/
import Derived.Test.YtflcdgkckfcofaaGreatDoorDisk
namespace Go.Proofs.YtflcdgkckfcofaaGreatDoor
open Go Go.Vc Go.Vc.Asn Go.Disk
theorem callV {fv : Value} {args : Array Value} {w : World} {Post : Value → World → Prop} {K : Value → World → Prop} {Kp : List PanicEntry → World → Prop}
    (h : CallV PP fv args w (Rt Post)) (k : ∀ v w', Post v w' → K v w') : CallV PP fv args w (CallK K Kp) := by
  obtain ⟨f, cap, h1, h2, h3⟩ := h
  exact ⟨f, cap, h1, h2, call h3 k⟩
section
variable {w0 w : World} {F : Asn} {p i : Nat} {D : DiskM}
theorem cloneH_c {s : Slc} {bs : List UInt8} (hB : Byt w s bs) (hl : bs.length ≤ 1099511627776) : Calls PP F_slices_Clone #[s.v] w (Rt fun v w' => ∃ o, v = o.v ∧ Hp w w' (star (own Ty_uint8 1 o (bs.map u8v)) emp)) := by
  refine sim_slices_Clone _ _ _ ?_
  unfold vc_slices_Clone
  refine ⟨fun h => Rt.ok ⟨_, rfl, ?_⟩, fun h => ?_⟩
  · have : bs = [] := by
      cases bs with
      | nil => rfl
      | cons b r =>
        obtain ⟨p, hp, _⟩ := hB.get (i := 0) (by simp)
        rw [hp] at h; simp at h
    subst this
    exact (Hp.start w).nilRow Ty_uint8 1
  · refine (Hp.start w).newRow (n := 0) (size := 1) [] rfl rfl (by unfold maxLen; omega) fun b w1 H => ?_
    have hsl := hB.len
    exact Hp.app (s := ⟨some (blk b), 0, 0⟩) slT_sl_uint8 H (hB.fr0 H.fr) (one_u8 _) (by unfold maxLen; simp only; omega) (by simp only; omega) fun o w2 H _ => Rt.ok ⟨o, rfl, H⟩
theorem again_c {m : Nat × Slc} {a : DAct} {old : Slc} {obs : List UInt8} {n : Nat} (H : Hp w0 w (star (actA (m, a)) F)) (hB : Byt w old obs) (hn : n ≤ a.size ∨ a = .wipe) (hb : obs.length + n ≤ 1099511627776) :
    CallV PP (actF m a) #[old.v, .int .i64 (n : Int)] w (Rt fun v w' => ∃ o, v = Slc.v o ∧ Hp w0 w' (star (own Ty_uint8 1 o ((a.again obs n).map u8v)) (star (actA (m, a)) F))) := by
  cases a with
  | wipe =>
    refine ⟨_, _, rfl, by kernel_rfl, ?_⟩
    show Calls PP F_disk_wiping_c1 #[old.v, .int .i64 (n : Int)] w _
    refine sim_disk_wiping_c1 _ _ _ _ ?_
    unfold vc_disk_wiping_c1
    exact Rt.ok ⟨Slc.nil, rfl, H.nilRow Ty_uint8 1⟩
  | app bs =>
    have hn : n ≤ bs.length := by
      rcases hn with h | h
      · exact h
      · cases h
    refine ⟨_, _, rfl, by kernel_rfl, ?_⟩
    show Calls PP F_disk_appending_c1_c1 #[old.v, .int .i64 (n : Int), .pointer (some (blk m.1))] w _
    refine sim_disk_appending_c1_c1 _ _ _ _ _ ?_
    unfold vc_disk_appending_c1_c1
    have H : Hp w0 w (star (bk m.1 Ty_sl_uint8 #[m.2.v]) (star (own Ty_uint8 1 m.2 (bs.map u8v)) F)) := H.assoc
    have H := H.drew 1
    have hO : Byt _ m.2 bs := H.drop.cel (s := m.2)
    have hc := hO.cap
    have hl := hO.len
    refine ⟨m.2, H.cell (b := m.1) (i := 0) rfl, by omega, by omega, by omega, ?_⟩
    refine call (cloneH_c (hB.fr0 ((Hp.start w).drew 1).fr) (by omega)) ?_
    rintro _ w1 ⟨o, rfl, H1⟩
    have H := H.beside H1
    have hO : Byt _ m.2 bs := (H.own m.2).cel (s := m.2)
    have hcut : Byt w1 (m.2.cut 1 (Int.toNat 0) (Int.toNat (n : Int))) (bs.take n) := by
      have := Cel.cut hO (l := 0) (k := n) (by omega) (by omega)
      rw [Nat.mul_one, Nat.mul_one, List.drop_zero, ← List.map_take, Nat.sub_zero] at this
      rw [Int.toNat_natCast]
      exact this
    have hcl := hcut.len
    rw [List.length_take] at hcl
    have hol := ((H.own o).cel (s := o)).lenM
    refine ⟨o, rfl, H.cell (b := m.1) (i := 0) rfl, ?_⟩
    refine (H.own o).app (s := o) slT_sl_uint8 hcut (one_u8 _) (by unfold maxLen; omega) (by omega) fun o2 w2 H _ => Rt.ok ⟨o2, rfl, ?_⟩
    rw [← List.map_append] at H
    exact H.ent (Ent.star (Ent.refl _) (emp_l'.trans Asn.assoc'))
theorem do_c {m : Nat × Slc} {a : DAct} (hi : i < 2) (hb : (D.sl i).now.length + a.size ≤ 1099511627776) (ha : (D.sl i).acts.length ≤ 1048576) (H : Hp w0 w (star (diskA p D) (star (actA (m, a)) F))) :
    Calls PP F_disk_slot_do #[.pointer (some ((blk p).add (i * 3))), .agg #[actF m a, .int .i64 (a.size : Int)]] w (Rt fun v w' => v = .tuple #[] ∧ ∃ D', D'.p = D.p.put i ((D.p.sl i).do a) ∧ Hp w0 w' (star (diskA p D') F)) := by
  refine sim_disk_slot_do _ _ _ _ _ ?_
  unfold vc_disk_slot_do
  refine (diskOpen hi H).new fun b5 w1 H => ?_
  have H := H.drew 1
  refine ⟨actF m a, H.cell (b := b5) (i := 0) rfl, _, rfl, (D.sl i).no, H.cell2 (b := p) (i := i * 3) (j := 1) (diskC_no D hi), (a.size : Int), H.cell (b := b5) (i := 1) rfl, ?_⟩
  have hB : Byt (w1.drewN 1) (D.sl i).no (D.sl i).now := (H.own (D.sl i).no).cel (s := (D.sl i).no)
  refine callV (again_c (H.take (actA (m, a))) hB (.inl (Nat.le_refl _)) hb) ?_
  rintro _ w2 ⟨o, rfl, H⟩
  have hsz : (diskC D).toArray.size = 11 := rfl
  refine ⟨o, rfl, H.sto2 (b := p) (i := i * 3) (j := 1) (by rw [hsz]; omega) fun w3 H => ?_⟩
  have H := H.drew 1
  have hac : ((diskC D).toArray.setIfInBounds (i * 3 + 1) o.v)[i * 3 + 2]? = some (D.sl i).ac.v := by rw [Array.getElem?_setIfInBounds, if_neg (by omega)]; exact diskC_ac D hi
  refine ⟨(D.sl i).ac, H.cell2 (b := p) (i := i * 3) (j := 2) hac, actF m a, H.cell (b := b5) (i := 0) rfl, (a.size : Int), H.cell (b := b5) (i := 1) rfl, H.new fun b28 w4 H => ⟨H.cell2 (b := p) (i := i * 3) (j := 2) hac, ?_⟩⟩
  have hC2 : Cel w4 (Slc.mk (some (blk b28)) 1 1) 2 [actF m a, .int .i64 (a.size : Int)] := Cel.block (b := b28) (e := Ty_disk_loose) (l := [actF m a, .int .i64 (a.size : Int)]) (H.isBlk (b := b28)) rfl (Nat.le_refl _) (Nat.le_refl _)
  have hal : (D.sl i).ac.l = (D.sl i).acts.length := by
    have := ((H.own (D.sl i).ac).cel (s := (D.sl i).ac)).len
    have h2 : ∀ l : List ((Nat × Slc) × DAct), (l.flatMap actC).length = l.length * 2 := fun l => by
      induction l with
      | nil => rfl
      | cons x r ih => rw [List.flatMap_cons, List.length_append, ih]; show 2 + _ = (r.length + 1) * 2; omega
    rw [h2] at this
    omega
  refine (H.blk b28).drop.own (D.sl i).ac |>.app (s := (D.sl i).ac) slT_sl_disk_loose hC2 (fun u hu => by
    simp at hu
    rcases hu with rfl | rfl
    · cases a <;> rfl
    · rfl) (by unfold maxLen; simp only; omega) (by simp only; omega) fun s2 w5 H _ => ?_
  refine H.sto2 (b := p) (i := i * 3) (j := 2) (by rw [Array.size_setIfInBounds, hsz]; omega) fun w6 H => Rt.ok ⟨rfl, D.put i ⟨(D.sl i).la, o, s2, (D.sl i).lasts, a.again (D.sl i).now a.size, (D.sl i).acts ++ [(m, a)]⟩, ?_, ?_⟩
  · rw [put_p, ← sl_p]
    unfold SlP.do Sl.p
    simp only [List.map_append]; rfl
  · obtain ⟨e1, e2⟩ := put_sl D hi ⟨(D.sl i).la, o, s2, (D.sl i).lasts, a.again (D.sl i).now a.size, (D.sl i).acts ++ [(m, a)]⟩
    refine diskClose hi ?_
    unfold diskI
    rw [e1, e2, ← diskC_set D hi]
    have hla : (diskC D).toArray.setIfInBounds (i * 3) (D.sl i).la.v = (diskC D).toArray := by
      rcases (show i = 0 ∨ i = 1 by omega) with rfl | rfl <;> rfl
    simp only
    rw [hla]
    have H := (H.blk b5).drop
    have H := (H.own (D.sl i).no).drop
    have H := ((H.take (slA (D.sl (1 - i)))).take (all actA (D.sl i).acts)).take (actA (m, a))
    have H := H.assoc'.ent (Ent.star (all_snoc actA (m, a) (D.sl i).acts) (Ent.refl _))
    have H := ((H.own s2).own o).own (D.sl i).la
    have e3 : (D.sl i).acts.flatMap actC ++ [actF m a, .int .i64 (a.size : Int)] = ((D.sl i).acts ++ [(m, a)]).flatMap actC := by rw [List.flatMap_append]; rfl
    rw [e3] at H
    exact H.blk p
end
end Go.Proofs.YtflcdgkckfcofaaGreatDoor
