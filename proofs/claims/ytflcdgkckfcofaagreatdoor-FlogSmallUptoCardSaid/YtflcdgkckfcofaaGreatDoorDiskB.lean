/-
  Contracts of the package disk: the four acts, and what is told.
-/
import Derived.Test.YtflcdgkckfcofaaGreatDoorDiskA
namespace Go.Proofs.YtflcdgkckfcofaaGreatDoor
open Go Go.Vc Go.Vc.Asn Go.Disk
section
variable {w0 w : World} {F R : Asn} {p i : Nat} {D : DiskM}
theorem put_kept (D : DiskP) (i : Nat) (s : SlP) : (D.put i s).acts = D.acts ∧ (D.put i s).dead = D.dead ∧ (D.put i s).named = D.named ∧ (D.put i s).done = D.done := by unfold DiskP.put; split <;> exact ⟨rfl, rfl, rfl, rfl⟩
theorem sl_len {n : Nat} (hB : Bd D.p n) (hi : i < 2) : (D.sl i).now.length + n ≤ 1099511627776 ∧ (D.sl i).acts.length ≤ 1048576 := by
  have h1 := hB.now i hi
  have h2 := hB.acts i hi
  rw [← sl_p] at h1 h2
  unfold Sl.p at h1 h2
  simp only [List.length_map] at h1 h2
  exact ⟨h1, h2⟩
theorem eff_app (hi : i < 2) {b : Nat} {o : Slc} {bs : List UInt8} : EffOk p i bs.length (.func (.func F_disk_appending_c1) #[] #[.pointer (some (blk b))]) (actA ((b, o), .app bs)) (gApp i bs) := by
  refine ⟨fun w0 w D F hB H => ⟨_, _, rfl, by kernel_rfl, ?_⟩, fun D => ?_⟩
  · show Calls PP F_disk_appending_c1 #[.pointer (some ((blk p).add (i * 3))), .pointer (some (blk b))] w _
    refine sim_disk_appending_c1 _ _ _ _ ?_
    unfold vc_disk_appending_c1
    have H2 : Hp w0 w (star (diskA p D) (star (bk b Ty_sl_uint8 #[o.v]) (star (own Ty_uint8 1 o (bs.map u8v)) F))) := H.ent (Ent.star (Ent.refl _) Asn.assoc)
    have hO : Byt w o bs := (H2.own o).cel (s := o)
    have hl := hO.len
    obtain ⟨b1, b2⟩ := sl_len hB hi
    refine ⟨o, H2.cell (b := b) (i := 0) rfl, fun h => ⟨o, H2.cell (b := b) (i := 0) rfl, ?_⟩, fun h => Rt.ok ⟨rfl, D, ?_, skipR H⟩⟩
    · have hne : bs ≠ [] := fun e => by rw [e] at hl; simp at h; simp at hl; omega
      have e : (Value.agg #[.func (.func F_disk_appending_c1_c1) #[] #[.pointer (some (blk b))], .int .i64 (o.l : Int)]) = .agg #[actF (b, o) (.app bs), .int .i64 ((DAct.app bs).size : Int)] := by rw [hl]; rfl
      rw [e]
      refine call (do_c (m := (b, o)) (a := .app bs) hi b1 b2 H) ?_
      rintro _ w1 ⟨rfl, D', hD', H⟩
      refine ⟨rfl, Rt.ok ⟨rfl, D', ?_, H⟩⟩
      rw [hD']; unfold gApp; rw [if_neg hne]
    · have he : bs = [] := by
        simp at h
        exact List.eq_nil_of_length_eq_zero (by omega)
      unfold gApp; rw [if_pos he]
  · unfold gApp
    split
    · exact ⟨rfl, rfl, rfl, rfl⟩
    · exact put_kept _ _ _
theorem eff_wipe (hi : i < 2) : EffOk p i 0 (.func (.func F_disk_wiping) #[] #[]) emp (gWipe i) := by
  refine ⟨fun w0 w D F hB H => ⟨_, _, rfl, by kernel_rfl, ?_⟩, fun D => put_kept _ _ _⟩
  show Calls PP F_disk_wiping #[.pointer (some ((blk p).add (i * 3)))] w _
  refine sim_disk_wiping _ _ _ ?_
  unfold vc_disk_wiping
  obtain ⟨b1, b2⟩ := sl_len hB hi
  refine call (do_c (m := (0, Slc.nil)) (a := .wipe) hi b1 b2 H) ?_
  rintro _ w1 ⟨rfl, D', hD', H⟩
  exact ⟨rfl, Rt.ok ⟨rfl, D', hD', H⟩⟩
theorem eff_sync (hi : i < 2) : EffOk p i 0 (.func (.func F_disk_syncing) #[] #[]) emp (gSync i) := by
  refine ⟨fun w0 w D F hB H => ⟨_, _, rfl, by kernel_rfl, ?_⟩, fun D => put_kept _ _ _⟩
  show Calls PP F_disk_syncing #[.pointer (some ((blk p).add (i * 3)))] w _
  refine sim_disk_syncing _ _ _ ?_
  unfold vc_disk_syncing
  obtain ⟨b1, b2⟩ := sl_len hB hi
  have H := diskOpen hi H
  have hN : Byt w (D.sl i).no (D.sl i).now := (H.own (D.sl i).no).cel (s := (D.sl i).no)
  refine ⟨_, rfl, _, H.cell2 (b := p) (i := i * 3) (j := 1) (diskC_no D hi), call (cloneH_c hN (by omega)) ?_⟩
  rintro _ w1 ⟨o, rfl, H1⟩
  have H := H.beside H1
  have hsz : (diskC D).toArray.size = 11 := rfl
  refine ⟨o, rfl, H.sto2 (b := p) (i := i * 3) (j := 0) (by rw [hsz]; omega) fun w2 H => H.sto2 (b := p) (i := i * 3) (j := 2) (by rw [Array.size_setIfInBounds, hsz]; omega) fun w3 H => Rt.ok ⟨rfl, D.put i ⟨o, (D.sl i).no, Slc.nil, (D.sl i).now, (D.sl i).now, []⟩, ?_, ?_⟩⟩
  · rw [put_p]; unfold gSync; rw [← sl_p]; rfl
  · obtain ⟨e1, e2⟩ := put_sl D hi ⟨o, (D.sl i).no, Slc.nil, (D.sl i).now, (D.sl i).now, []⟩
    refine diskClose hi ?_
    unfold diskI
    rw [e1, e2]
    have hcs : ((diskC D).toArray.setIfInBounds (i * 3 + 0) o.v).setIfInBounds (i * 3 + 2) (Slc.v Slc.nil) = (diskC (D.put i ⟨o, (D.sl i).no, Slc.nil, (D.sl i).now, (D.sl i).now, []⟩)).toArray := by
      rcases (show i = 0 ∨ i = 1 by omega) with rfl | rfl <;> rfl
    rw [hcs] at H
    have H := (H.own (D.sl i).la).drop
    have H := (H.own (D.sl i).ac).drop
    have H := (H.take (all actA (D.sl i).acts)).drop
    have H := (H.take (slA (D.sl (1 - i))))
    have H : Hp w0 w3 (star (all actA []) _) := H.ent Asn.emp_l
    have H := ((H.nilRow Ty_disk_loose 2).own (D.sl i).no).own o
    have H := H.blk p
    refine H.ent (Ent.star (Ent.refl _) (Ent.star (Ent.refl _) (Ent.star (Ent.refl _) (Ent.star (Ent.refl _) (Ent.star (Ent.refl _) (Ent.star (Ent.refl _) (emp_l'.trans emp_l')))))))
theorem eff_switch (hi : i < 2) {b4 b7 : Nat} : EffOk p i 0 (.func (.func F_disk_Disk_Switch_c1) #[] #[.pointer (some (blk b7)), .pointer (some (blk b4))]) (star (bk b7 Ty_int #[.int .i64 (i : Int)]) (bk b4 Ty_p_disk_Disk #[.pointer (some (blk p))])) (gSwitch i) := by
  refine ⟨fun w0 w D F hB H => ⟨_, _, rfl, by kernel_rfl, ?_⟩, fun D => ⟨rfl, rfl, rfl, rfl⟩⟩
  show Calls PP F_disk_Disk_Switch_c1 #[.pointer (some ((blk p).add (i * 3))), .pointer (some (blk b7)), .pointer (some (blk b4))] w _
  refine sim_disk_Disk_Switch_c1 _ _ _ _ _ ?_
  unfold vc_disk_Disk_Switch_c1
  have H2 := H.ent (Ent.star (Ent.refl _) Asn.assoc)
  exact ⟨_, H2.cell (b := b4) (i := 0) rfl, (i : Int), H2.cell (b := b7) (i := 0) rfl, _, rfl, diskSto (D' := { D with cur := i }) H (by omega) rfl rfl rfl fun w1 H => Rt.ok ⟨rfl, { D with cur := i }, rfl, skipR H⟩⟩
/-! ## The four acts -/
theorem dAppend_c {data : Slc} {bs : List UInt8} (hi : i < 2) (hB : Bd D.p bs.length) (hD : Byt w data bs) (hl : bs.length ≤ 1099511627776) (H : Hp w0 w (star (diskA p D) F)) :
    Calls PP F_disk_Disk_Append #[.pointer (some (blk p)), .int .i64 (i : Int), data.v] w (Rt fun v w' => v = .int .i64 (actR D.p i false (gApp i bs)).2 ∧ ∃ D', D'.p = (actR D.p i false (gApp i bs)).1 ∧ Hp w0 w' (star (diskA p D') F)) := by
  refine sim_disk_Disk_Append _ _ _ _ _ ?_
  unfold vc_disk_Disk_Append
  have hap : Calls PP F_disk_appending #[data.v] w (Rt fun v w' => ∃ b o, v = .func (.func F_disk_appending_c1) #[] #[.pointer (some (blk b))] ∧ Hp w w' (star (actA ((b, o), .app bs)) emp)) := by
    refine sim_disk_appending _ _ _ ?_
    unfold vc_disk_appending
    refine call (cloneH_c hD hl) ?_
    rintro _ w1 ⟨o, rfl, H1⟩
    refine ⟨o, rfl, H1.new fun b w2 H2 => H2.sto (b := b) (i := 0) (by decide) fun w3 H3 => Rt.ok ⟨b, o, rfl, ?_⟩⟩
    exact H3.assoc'
  refine call hap ?_
  rintro _ w1 ⟨b, o, rfl, H1⟩
  have H := (H.beside (H1.ent emp_r')).swap
  refine ⟨_, rfl, call (act_c hi (eff_app hi) hB H) ?_⟩
  rintro _ w2 ⟨rfl, hx⟩
  exact ⟨_, rfl, Rt.ok ⟨rfl, hx⟩⟩
theorem dWipe_c (hi : i < 2) (hB : Bd D.p 0) (H : Hp w0 w (star (diskA p D) F)) :
    Calls PP F_disk_Disk_Wipe #[.pointer (some (blk p)), .int .i64 (i : Int)] w (Rt fun v w' => v = .int .i64 (actR D.p i true (gWipe i)).2 ∧ ∃ D', D'.p = (actR D.p i true (gWipe i)).1 ∧ Hp w0 w' (star (diskA p D') F)) := by
  refine sim_disk_Disk_Wipe _ _ _ _ ?_
  unfold vc_disk_Disk_Wipe
  refine call (act_c hi (eff_wipe hi) hB (H.ent (Ent.star (Ent.refl _) emp_l))) ?_
  rintro _ w2 ⟨rfl, hx⟩
  exact ⟨_, rfl, Rt.ok ⟨rfl, hx⟩⟩
theorem dSync_c (hi : i < 2) (hB : Bd D.p 0) (H : Hp w0 w (star (diskA p D) F)) :
    Calls PP F_disk_Disk_Sync #[.pointer (some (blk p)), .int .i64 (i : Int)] w (Rt fun v w' => v = .int .i64 (actR D.p i false (gSync i)).2 ∧ ∃ D', D'.p = (actR D.p i false (gSync i)).1 ∧ Hp w0 w' (star (diskA p D') F)) := by
  refine sim_disk_Disk_Sync _ _ _ _ ?_
  unfold vc_disk_Disk_Sync
  refine call (act_c hi (eff_sync hi) hB (H.ent (Ent.star (Ent.refl _) emp_l))) ?_
  rintro _ w2 ⟨rfl, hx⟩
  exact ⟨_, rfl, Rt.ok ⟨rfl, hx⟩⟩
theorem dSwitch_c (hi : i < 2) (hB : Bd D.p 0) (H : Hp w0 w (star (diskA p D) F)) :
    Calls PP F_disk_Disk_Switch #[.pointer (some (blk p)), .int .i64 (i : Int)] w (Rt fun v w' => v = .int .i64 (actR D.p i false (gSwitch i)).2 ∧ ∃ D', D'.p = (actR D.p i false (gSwitch i)).1 ∧ Hp w0 w' (star (diskA p D') F)) := by
  refine sim_disk_Disk_Switch _ _ _ _ ?_
  unfold vc_disk_Disk_Switch
  refine H.new fun b4 w1 H => H.new fun b7 w2 H => ?_
  have H := (H.take (diskA p D)).ent (Ent.star (Ent.refl _) Asn.assoc')
  refine call (act_c hi (eff_switch hi) hB H) ?_
  rintro _ w3 ⟨rfl, hx⟩
  exact ⟨_, rfl, Rt.ok ⟨rfl, hx⟩⟩
/-! ## What is told -/
theorem dNew_c : Calls PP F_disk_New #[] w (Rt fun v w' => ∃ p D, v = .pointer (some (blk p)) ∧ D.p = ⟨⟨[], [], []⟩, ⟨[], [], []⟩, 0, 0, 0, false, false⟩ ∧ Hp w w' (star (diskA p D) emp)) := by
  refine sim_disk_New _ _ ?_
  unfold vc_disk_New
  refine (Hp.start w).new fun b w1 H => Rt.ok ⟨b, ⟨⟨Slc.nil, Slc.nil, Slc.nil, [], [], []⟩, ⟨Slc.nil, Slc.nil, Slc.nil, [], [], []⟩, 0, 0, 0, false, false⟩, rfl, rfl, ?_⟩
  have add : ∀ {A : Asn}, Hp w w1 A → Hp w w1 (star (slA ⟨Slc.nil, Slc.nil, Slc.nil, [], [], []⟩) A) := fun H => by
    have H := (((H.ent Asn.emp_l).nilRow Ty_disk_loose 2).nilRow Ty_uint8 1).nilRow Ty_uint8 1
    exact ((H.ent (Ent.star (Ent.refl _) (Ent.star (Ent.refl _) Asn.assoc'))).ent (Ent.star (Ent.refl _) Asn.assoc')).assoc'
  have H := (add (add H)).blk b
  exact (H.ent (Ent.star (Ent.refl _) Asn.assoc')).assoc'
theorem dGone_c (H : Hp w0 w (star (diskA p D) F)) : Calls PP F_disk_Disk_gone #[.pointer (some (blk p))] w (Rt fun v w' => v = .bool D.dead ∧ w' = w) := by
  refine sim_disk_Disk_gone _ _ _ ?_
  unfold vc_disk_Disk_gone
  exact ⟨D.dead, fun _ => ⟨_, rfl, D.dead, diskCell H rfl, rfl⟩, fun h => by simp at h, Rt.ok ⟨rfl, rfl⟩⟩
theorem dCurrent_c (H : Hp w0 w (star (diskA p D) F)) : Calls PP F_disk_Disk_Current #[.pointer (some (blk p))] w (Rt fun v w' => v = .int .i64 (if D.dead = true then 0 else D.cur) ∧ w' = w) := by
  refine sim_disk_Disk_Current _ _ _ ?_
  unfold vc_disk_Disk_Current
  refine call (dGone_c H) ?_
  rintro _ w1 ⟨rfl, rfl⟩
  exact ⟨D.dead, rfl, fun h => Rt.ok ⟨by rw [if_pos h], rfl⟩, fun h => ⟨_, rfl, D.cur, diskCell H rfl, Rt.ok ⟨by rw [if_neg (by rw [h]; decide)], rfl⟩⟩⟩
theorem acN (H : Hp w0 w (star (diskA p D) F)) (hi : i < 2) : (D.sl i).ac.l = (D.sl i).acts.length := by
  have H := diskOpen hi H
  have := ((H.own (D.sl i).ac).cel (s := (D.sl i).ac)).len
  have h2 : ∀ l : List ((Nat × Slc) × DAct), (l.flatMap actC).length = l.length * 2 := fun l => by
    induction l with
    | nil => rfl
    | cons x r ih => rw [List.flatMap_cons, List.length_append, ih]; show 2 + _ = (r.length + 1) * 2; omega
  rw [h2] at this
  omega
theorem dPending_c (hB : Bd D.p 0) (H : Hp w0 w (star (diskA p D) F)) : Calls PP F_disk_Disk_Pending #[.pointer (some (blk p))] w (Rt fun v w' => v = .int .i64 ((D.s0.acts.length + D.s1.acts.length : Nat) : Int) ∧ Hp w0 w' (star (diskA p D) F)) := by
  refine sim_disk_Disk_Pending _ _ _ ?_
  unfold vc_disk_Disk_Pending
  have a0 : D.s0.ac.l = D.s0.acts.length := acN (i := 0) H (by omega)
  have a1 : D.s1.ac.l = D.s1.acts.length := acN (i := 1) H (by omega)
  have b0 : D.s0.acts.length ≤ 1048576 := (sl_len hB (i := 0) (by omega)).2
  have b1 : D.s1.acts.length ≤ 1048576 := (sl_len hB (i := 1) (by omega)).2
  refine ⟨fun h => by simp at h, fun _ => ⟨_, rfl, D.s0.ac, diskCell (k := 2) H rfl, D.s1.ac, ?_, fun k8 => Rt.ok ⟨?_, H.drew k8⟩⟩⟩
  · have := diskCell (k := 5) (v := D.s1.ac.v) H rfl
    rw [← this]
    congr 1
  · rw [a0, a1, wr64 (by omega) (by omega), Int.natCast_add]
theorem dRead_c (hi : i < 2) (hB : Bd D.p 0) (H : Hp w0 w (star (diskA p D) F)) : Calls PP F_disk_Disk_Read #[.pointer (some (blk p)), .int .i64 (i : Int)] w (Rt fun v w' =>
    (D.dead = true ∧ v = .tuple #[Slc.nil.v, .int .i64 60] ∧ w' = w) ∨ (D.dead = false ∧ ∃ o, v = .tuple #[Slc.v o, .int .i64 0] ∧ Hp w0 w' (star (own Ty_uint8 1 o ((D.sl i).now.map u8v)) (star (diskA p D) F)))) := by
  refine sim_disk_Disk_Read _ _ _ _ ?_
  unfold vc_disk_Disk_Read
  refine ⟨fun h => by simp at h, fun _ => ⟨_, rfl, D.dead, diskCell H rfl, fun h => Rt.ok (.inl ⟨h, rfl, rfl⟩), fun h => ⟨fun h2 => ?_, fun _ => ⟨by omega, by omega, (D.sl i).no, ?_, ?_⟩⟩⟩⟩
  · simp at h2; omega
  · have := diskCell (k := i * 3 + 1) H (diskC_no D hi)
    rw [← this, Int.toNat_natCast]
    congr 1
    show ((((blk p).add 0).add (i * 3)).add 1) = _
    rw [add_add, add_add, Nat.zero_add]
  · obtain ⟨b1, _⟩ := sl_len hB hi
    have hN : Byt w (D.sl i).no (D.sl i).now := ((diskOpen hi H).own (D.sl i).no).cel (s := (D.sl i).no)
    refine call (cloneH_c hN (by omega)) ?_
    rintro _ w1 ⟨o, rfl, H1⟩
    exact ⟨o, rfl, Rt.ok (.inr ⟨h, o, rfl, H.beside (H1.ent emp_r')⟩)⟩
end
end Go.Proofs.YtflcdgkckfcofaaGreatDoor
