/-
  Contracts of the package disk: the acts, their closures, what is told.
-/
import Derived.Test.YtflcdgkckfcofaaGreatDoorRecAll
import Derived.Test.YtflcdgkckfcofaaGreatDoorCpy
namespace Go.Disk
open Go.Vc
inductive DAct where
  | app (bs : List UInt8)
  | wipe
def DAct.size : DAct → Nat
  | .app bs => bs.length
  | .wipe => 0
def DAct.again : DAct → List UInt8 → Nat → List UInt8
  | .app bs, old, n => old ++ bs.take n
  | .wipe, _, _ => []
structure SlP where
  lasts : List UInt8
  now : List UInt8
  acts : List DAct
def SlP.do (s : SlP) (a : DAct) : SlP := ⟨s.lasts, a.again s.now a.size, s.acts ++ [a]⟩
def SlP.sync (s : SlP) : SlP := ⟨s.now, s.now, []⟩
structure DiskP where
  s0 : SlP
  s1 : SlP
  cur : Int
  acts : Int
  named : Int
  done : Bool
  dead : Bool
def DiskP.sl (D : DiskP) (i : Nat) : SlP := if i = 0 then D.s0 else D.s1
def DiskP.put (D : DiskP) (i : Nat) (s : SlP) : DiskP := if i = 0 then { D with s0 := s } else { D with s1 := s }
structure Sl where
  la : Slc
  no : Slc
  ac : Slc
  lasts : List UInt8
  now : List UInt8
  acts : List ((Nat × Slc) × DAct)
def Sl.p (s : Sl) : SlP := ⟨s.lasts, s.now, s.acts.map (·.2)⟩
structure DiskM where
  s0 : Sl
  s1 : Sl
  cur : Int
  acts : Int
  named : Int
  done : Bool
  dead : Bool
def DiskM.p (D : DiskM) : DiskP := ⟨D.s0.p, D.s1.p, D.cur, D.acts, D.named, D.done, D.dead⟩
def DiskM.sl (D : DiskM) (i : Nat) : Sl := if i = 0 then D.s0 else D.s1
def DiskM.put (D : DiskM) (i : Nat) (s : Sl) : DiskM := if i = 0 then { D with s0 := s } else { D with s1 := s }
theorem put_p (D : DiskM) (i : Nat) (s : Sl) : (D.put i s).p = D.p.put i s.p := by unfold DiskM.put DiskP.put; split <;> rfl
theorem sl_p (D : DiskM) (i : Nat) : (D.sl i).p = D.p.sl i := by unfold DiskM.sl DiskP.sl; split <;> rfl
end Go.Disk
namespace Go.Proofs.YtflcdgkckfcofaaGreatDoor
open Go Go.Vc Go.Vc.Asn Go.Disk
def actF (m : Nat × Slc) : DAct → Value
  | .app _ => .func (.func F_disk_appending_c1_c1) #[] #[.pointer (some (blk m.1))]
  | .wipe => .func (.func F_disk_wiping_c1) #[] #[]
def actC (x : (Nat × Slc) × DAct) : List Value := [actF x.1 x.2, .int .i64 (x.2.size : Int)]
def actA (x : (Nat × Slc) × DAct) : Asn := match x.2 with
  | .app bs => star (bk x.1.1 Ty_sl_uint8 #[x.1.2.v]) (own Ty_uint8 1 x.1.2 (bs.map u8v))
  | .wipe => emp
def slA (s : Sl) : Asn := star (own Ty_uint8 1 s.la (s.lasts.map u8v)) (star (own Ty_uint8 1 s.no (s.now.map u8v)) (star (own Ty_disk_loose 2 s.ac (s.acts.flatMap actC)) (all actA s.acts)))
def diskC (D : DiskM) : List Value := [D.s0.la.v, D.s0.no.v, D.s0.ac.v, D.s1.la.v, D.s1.no.v, D.s1.ac.v, .int .i64 D.cur, .int .i64 D.acts, .int .i64 D.named, .bool D.done, .bool D.dead]
def diskA (p : Nat) (D : DiskM) : Asn := star (bk p Ty_disk_Disk (diskC D).toArray) (star (slA D.s0) (slA D.s1))
abbrev diskI (p i : Nat) (D : DiskM) (F : Asn) : Asn := star (bk p Ty_disk_Disk (diskC D).toArray) (star (own Ty_uint8 1 (D.sl i).la ((D.sl i).lasts.map u8v)) (star (own Ty_uint8 1 (D.sl i).no ((D.sl i).now.map u8v)) (star (own Ty_disk_loose 2 (D.sl i).ac ((D.sl i).acts.flatMap actC)) (star (all actA (D.sl i).acts) (star (slA (D.sl (1 - i))) F)))))
section
variable {w0 w : World} {F : Asn} {p i : Nat} {D : DiskM}
theorem diskOpen (hi : i < 2) (H : Hp w0 w (star (diskA p D) F)) : Hp w0 w (diskI p i D F) := by
  have H : Hp w0 w (star (bk p Ty_disk_Disk (diskC D).toArray) (star (star (slA D.s0) (slA D.s1)) F)) := H.assoc
  have key : Ent (star (star (slA D.s0) (slA D.s1)) F) (star (slA (D.sl i)) (star (slA (D.sl (1 - i))) F)) := by
    rcases (show i = 0 ∨ i = 1 by omega) with rfl | rfl
    · exact Asn.assoc
    · exact Asn.assoc.trans left
  refine H.ent (Ent.star (Ent.refl _) (key.trans ?_))
  unfold slA
  exact Asn.assoc.trans (Ent.star (Ent.refl _) (Asn.assoc.trans (Ent.star (Ent.refl _) Asn.assoc)))
theorem diskClose (hi : i < 2) (H : Hp w0 w (diskI p i D F)) : Hp w0 w (star (diskA p D) F) := by
  have key : Ent (star (slA (D.sl i)) (star (slA (D.sl (1 - i))) F)) (star (star (slA D.s0) (slA D.s1)) F) := by
    rcases (show i = 0 ∨ i = 1 by omega) with rfl | rfl
    · exact Asn.assoc'
    · exact left.trans Asn.assoc'
  refine (H.ent (Ent.star (Ent.refl _) (Ent.trans ?_ key))).assoc'
  unfold slA
  exact (Ent.star (Ent.refl _) ((Ent.star (Ent.refl _) Asn.assoc').trans Asn.assoc')).trans Asn.assoc'
theorem diskC_la (D : DiskM) (hi : i < 2) : (diskC D).toArray[i * 3]? = some (D.sl i).la.v := by
  rcases (show i = 0 ∨ i = 1 by omega) with rfl | rfl <;> rfl
theorem diskC_no (D : DiskM) (hi : i < 2) : (diskC D).toArray[i * 3 + 1]? = some (D.sl i).no.v := by
  rcases (show i = 0 ∨ i = 1 by omega) with rfl | rfl <;> rfl
theorem diskC_ac (D : DiskM) (hi : i < 2) : (diskC D).toArray[i * 3 + 2]? = some (D.sl i).ac.v := by
  rcases (show i = 0 ∨ i = 1 by omega) with rfl | rfl <;> rfl
theorem put_sl (D : DiskM) (hi : i < 2) (s : Sl) : (D.put i s).sl i = s ∧ (D.put i s).sl (1 - i) = D.sl (1 - i) := by
  rcases (show i = 0 ∨ i = 1 by omega) with rfl | rfl <;> exact ⟨rfl, rfl⟩
theorem diskC_set (D : DiskM) (hi : i < 2) (s : Sl) : (((diskC D).toArray.setIfInBounds (i * 3) s.la.v).setIfInBounds (i * 3 + 1) s.no.v).setIfInBounds (i * 3 + 2) s.ac.v = (diskC (D.put i s)).toArray := by
  rcases (show i = 0 ∨ i = 1 by omega) with rfl | rfl <;> rfl
end
end Go.Proofs.YtflcdgkckfcofaaGreatDoor

/-
  Contracts of the package disk: what an act does.
-/
namespace Go.Proofs.YtflcdgkckfcofaaGreatDoor
open Go Go.Vc Go.Vc.Asn Go.Disk
theorem callV {fv : Value} {args : Array Value} {w : World} {Post : Value → World → Prop} {K : Value → World → Prop} {Kp : List PanicEntry → World → Prop}
    (h : CallV PP fv args w (Rt Post)) (k : ∀ v w', Post v w' → K v w') : CallV PP fv args w (CallK K Kp) := by
  obtain ⟨f, cap, h1, h2, h3⟩ := h
  exact ⟨f, cap, h1, h2, call h3 k⟩
section
variable {w0 w : World} {F : Asn} {p i : Nat} {D : DiskM}
theorem cloneH_c {s : Slc} {bs : List UInt8} (hB : Byt w s bs) (hl : bs.length ≤ 1099511627776) : Calls PP F_slices_Clone #[s.v] w (Rt fun v w' => ∃ o, v = o.v ∧ Hp w w' (star (own Ty_uint8 1 o (bs.map u8v)) emp)) := by
  refine sim_slices_Clone _ _ _ ?_
  unfold vc_slices_Clone
  refine ⟨fun h => Rt.ok ⟨_, rfl, ?_⟩, fun h => ?_⟩
  · have : bs = [] := by
      cases bs with
      | nil => rfl
      | cons b r =>
        obtain ⟨p, hp, _⟩ := hB.get (i := 0) (by simp)
        rw [hp] at h; simp at h
    subst this
    exact (Hp.start w).nilRow Ty_uint8 1
  · refine (Hp.start w).newRow (n := 0) (size := 1) [] rfl rfl (by unfold maxLen; omega) fun b w1 H => ?_
    have hsl := hB.len
    exact Hp.app (s := ⟨some (blk b), 0, 0⟩) slT_sl_uint8 H (hB.fr0 H.fr) (one_u8 _) (by unfold maxLen; simp only; omega) (by simp only; omega) fun o w2 H _ => Rt.ok ⟨o, rfl, H⟩
theorem again_c {m : Nat × Slc} {a : DAct} {old : Slc} {obs : List UInt8} {n : Nat} (H : Hp w0 w (star (actA (m, a)) F)) (hB : Byt w old obs) (hn : n ≤ a.size ∨ a = .wipe) (hb : obs.length + n ≤ 1099511627776) :
    CallV PP (actF m a) #[old.v, .int .i64 (n : Int)] w (Rt fun v w' => ∃ o, v = Slc.v o ∧ Hp w0 w' (star (own Ty_uint8 1 o ((a.again obs n).map u8v)) (star (actA (m, a)) F))) := by
  cases a with
  | wipe =>
    refine ⟨_, _, rfl, by kernel_rfl, ?_⟩
    show Calls PP F_disk_wiping_c1 #[old.v, .int .i64 (n : Int)] w _
    refine sim_disk_wiping_c1 _ _ _ _ ?_
    unfold vc_disk_wiping_c1
    exact Rt.ok ⟨Slc.nil, rfl, H.nilRow Ty_uint8 1⟩
  | app bs =>
    have hn : n ≤ bs.length := by
      rcases hn with h | h
      · exact h
      · cases h
    refine ⟨_, _, rfl, by kernel_rfl, ?_⟩
    show Calls PP F_disk_appending_c1_c1 #[old.v, .int .i64 (n : Int), .pointer (some (blk m.1))] w _
    refine sim_disk_appending_c1_c1 _ _ _ _ _ ?_
    unfold vc_disk_appending_c1_c1
    have H : Hp w0 w (star (bk m.1 Ty_sl_uint8 #[m.2.v]) (star (own Ty_uint8 1 m.2 (bs.map u8v)) F)) := H.assoc
    have H := H.drew 1
    have hO : Byt _ m.2 bs := H.drop.cel (s := m.2)
    have hc := hO.cap
    have hl := hO.len
    refine ⟨m.2, H.cell (b := m.1) (i := 0) rfl, by omega, by omega, by omega, ?_⟩
    refine call (cloneH_c (hB.fr0 ((Hp.start w).drew 1).fr) (by omega)) ?_
    rintro _ w1 ⟨o, rfl, H1⟩
    have H := H.beside H1
    have hO : Byt _ m.2 bs := (H.own m.2).cel (s := m.2)
    have hcut : Byt w1 (m.2.cut 1 (Int.toNat 0) (Int.toNat (n : Int))) (bs.take n) := by
      have := Cel.cut hO (l := 0) (k := n) (by omega) (by omega)
      rw [Nat.mul_one, Nat.mul_one, List.drop_zero, ← List.map_take, Nat.sub_zero] at this
      rw [Int.toNat_natCast]
      exact this
    have hcl := hcut.len
    rw [List.length_take] at hcl
    have hol := ((H.own o).cel (s := o)).lenM
    refine ⟨o, rfl, H.cell (b := m.1) (i := 0) rfl, ?_⟩
    refine (H.own o).app (s := o) slT_sl_uint8 hcut (one_u8 _) (by unfold maxLen; omega) (by omega) fun o2 w2 H _ => Rt.ok ⟨o2, rfl, ?_⟩
    rw [← List.map_append] at H
    exact H.ent (Ent.star (Ent.refl _) (emp_l'.trans Asn.assoc'))
theorem do_c {m : Nat × Slc} {a : DAct} (hi : i < 2) (hb : (D.sl i).now.length + a.size ≤ 1099511627776) (ha : (D.sl i).acts.length ≤ 1048576) (H : Hp w0 w (star (diskA p D) (star (actA (m, a)) F))) :
    Calls PP F_disk_slot_do #[.pointer (some ((blk p).add (i * 3))), .agg #[actF m a, .int .i64 (a.size : Int)]] w (Rt fun v w' => v = .tuple #[] ∧ ∃ D', D'.p = D.p.put i ((D.p.sl i).do a) ∧ Hp w0 w' (star (diskA p D') F)) := by
  refine sim_disk_slot_do _ _ _ _ _ ?_
  unfold vc_disk_slot_do
  refine (diskOpen hi H).new fun b5 w1 H => ?_
  have H := H.drew 1
  refine ⟨actF m a, H.cell (b := b5) (i := 0) rfl, _, rfl, (D.sl i).no, H.cell2 (b := p) (i := i * 3) (j := 1) (diskC_no D hi), (a.size : Int), H.cell (b := b5) (i := 1) rfl, ?_⟩
  have hB : Byt (w1.drewN 1) (D.sl i).no (D.sl i).now := (H.own (D.sl i).no).cel (s := (D.sl i).no)
  refine callV (again_c (H.take (actA (m, a))) hB (.inl (Nat.le_refl _)) hb) ?_
  rintro _ w2 ⟨o, rfl, H⟩
  have hsz : (diskC D).toArray.size = 11 := rfl
  refine ⟨o, rfl, H.sto2 (b := p) (i := i * 3) (j := 1) (by rw [hsz]; omega) fun w3 H => ?_⟩
  have H := H.drew 1
  have hac : ((diskC D).toArray.setIfInBounds (i * 3 + 1) o.v)[i * 3 + 2]? = some (D.sl i).ac.v := by rw [Array.getElem?_setIfInBounds, if_neg (by omega)]; exact diskC_ac D hi
  refine ⟨(D.sl i).ac, H.cell2 (b := p) (i := i * 3) (j := 2) hac, actF m a, H.cell (b := b5) (i := 0) rfl, (a.size : Int), H.cell (b := b5) (i := 1) rfl, H.new fun b28 w4 H => ⟨H.cell2 (b := p) (i := i * 3) (j := 2) hac, ?_⟩⟩
  have hC2 : Cel w4 (Slc.mk (some (blk b28)) 1 1) 2 [actF m a, .int .i64 (a.size : Int)] := Cel.block (b := b28) (e := Ty_disk_loose) (l := [actF m a, .int .i64 (a.size : Int)]) (H.isBlk (b := b28)) rfl (Nat.le_refl _) (Nat.le_refl _)
  have hal : (D.sl i).ac.l = (D.sl i).acts.length := by
    have := ((H.own (D.sl i).ac).cel (s := (D.sl i).ac)).len
    have h2 : ∀ l : List ((Nat × Slc) × DAct), (l.flatMap actC).length = l.length * 2 := fun l => by
      induction l with
      | nil => rfl
      | cons x r ih => rw [List.flatMap_cons, List.length_append, ih]; show 2 + _ = (r.length + 1) * 2; omega
    rw [h2] at this
    omega
  refine (H.blk b28).drop.own (D.sl i).ac |>.app (s := (D.sl i).ac) slT_sl_disk_loose hC2 (fun u hu => by
    simp at hu
    rcases hu with rfl | rfl
    · cases a <;> rfl
    · rfl) (by unfold maxLen; simp only; omega) (by simp only; omega) fun s2 w5 H _ => ?_
  refine H.sto2 (b := p) (i := i * 3) (j := 2) (by rw [Array.size_setIfInBounds, hsz]; omega) fun w6 H => Rt.ok ⟨rfl, D.put i ⟨(D.sl i).la, o, s2, (D.sl i).lasts, a.again (D.sl i).now a.size, (D.sl i).acts ++ [(m, a)]⟩, ?_, ?_⟩
  · rw [put_p, ← sl_p]
    unfold SlP.do Sl.p
    simp only [List.map_append]; rfl
  · obtain ⟨e1, e2⟩ := put_sl D hi ⟨(D.sl i).la, o, s2, (D.sl i).lasts, a.again (D.sl i).now a.size, (D.sl i).acts ++ [(m, a)]⟩
    refine diskClose hi ?_
    unfold diskI
    rw [e1, e2, ← diskC_set D hi]
    have hla : (diskC D).toArray.setIfInBounds (i * 3) (D.sl i).la.v = (diskC D).toArray := by
      rcases (show i = 0 ∨ i = 1 by omega) with rfl | rfl <;> rfl
    simp only
    rw [hla]
    have H := (H.blk b5).drop
    have H := (H.own (D.sl i).no).drop
    have H := ((H.take (slA (D.sl (1 - i)))).take (all actA (D.sl i).acts)).take (actA (m, a))
    have H := H.assoc'.ent (Ent.star (all_snoc actA (m, a) (D.sl i).acts) (Ent.refl _))
    have H := ((H.own s2).own o).own (D.sl i).la
    have e3 : (D.sl i).acts.flatMap actC ++ [actF m a, .int .i64 (a.size : Int)] = ((D.sl i).acts ++ [(m, a)]).flatMap actC := by rw [List.flatMap_append]; rfl
    rw [e3] at H
    exact H.blk p
end
end Go.Proofs.YtflcdgkckfcofaaGreatDoor

/-
  Contracts of the package disk: act, Append, Wipe, Sync, Switch, Read and what is told.
-/
namespace Go.Disk
def actR (D : DiskP) (i : Nat) (wipe : Bool) (g : DiskP → DiskP) : DiskP × Int :=
  if D.dead = true then (D, 60)
  else if wipe = true ∧ (i : Int) = D.cur then (D, 61)
  else if D.named = 1 then
    (if D.done = true then { g { D with dead := true, named := max 0 (D.named - 1) } with acts := (g { D with dead := true, named := max 0 (D.named - 1) }).acts + 1 } else { D with dead := true, named := max 0 (D.named - 1) }, 60)
  else ({ g { D with dead := false, named := max 0 (D.named - 1) } with acts := (g { D with dead := false, named := max 0 (D.named - 1) }).acts + 1 }, 0)
def gApp (i : Nat) (bs : List UInt8) (D : DiskP) : DiskP := if bs = [] then D else D.put i ((D.sl i).do (.app bs))
def gWipe (i : Nat) (D : DiskP) : DiskP := D.put i ((D.sl i).do .wipe)
def gSync (i : Nat) (D : DiskP) : DiskP := D.put i (D.sl i).sync
def gSwitch (i : Nat) (D : DiskP) : DiskP := { D with cur := i }
end Go.Disk
namespace Go.Proofs.YtflcdgkckfcofaaGreatDoor
open Go Go.Vc Go.Vc.Asn Go.Disk
structure Bd (D : DiskP) (n : Nat) : Prop where
  now : ∀ i, i < 2 → (D.sl i).now.length + n ≤ 1099511627776
  acts : ∀ i, i < 2 → (D.sl i).acts.length ≤ 1048576
  cnt : -1 ≤ D.acts ∧ D.acts ≤ 4611686018427387904
  nmd : -4611686018427387904 ≤ D.named ∧ D.named ≤ 9223372036854775807
section
variable {w0 w : World} {F R : Asn} {p i : Nat} {D : DiskM}
def EffOk (p i n : Nat) (dv : Value) (R : Asn) (g : DiskP → DiskP) : Prop :=
  (∀ (w0 w : World) (D : DiskM) (F : Asn), Bd D.p n → Hp w0 w (star (diskA p D) (star R F)) → CallV PP dv #[.pointer (some ((blk p).add (i * 3)))] w (Rt fun v w' => v = .tuple #[] ∧ ∃ D', D'.p = g D.p ∧ Hp w0 w' (star (diskA p D') F))) ∧
  (∀ D : DiskP, (g D).acts = D.acts ∧ (g D).dead = D.dead ∧ (g D).named = D.named ∧ (g D).done = D.done)
theorem diskCell (H : Hp w0 w (star (diskA p D) F)) {k : Nat} {v : Value} (h : (diskC D).toArray[k]? = some v) : w.cell? ((blk p).add k) = some v := by
  have H : Hp w0 w (star (bk p Ty_disk_Disk (diskC D).toArray) (star (star (slA D.s0) (slA D.s1)) F)) := H.assoc
  exact H.cell (b := p) h
theorem diskSto (H : Hp w0 w (star (diskA p D) F)) {k : Nat} {v : Value} {D' : DiskM} (hk : k < 11) (h : (diskC D).toArray.setIfInBounds k v = (diskC D').toArray) (h0 : D'.s0 = D.s0) (h1 : D'.s1 = D.s1) {K : World → Prop} (hK : ∀ w', Hp w0 w' (star (diskA p D') F) → K w') : Sto w ((blk p).add k) v K := by
  have H : Hp w0 w (star (bk p Ty_disk_Disk (diskC D).toArray) (star (star (slA D.s0) (slA D.s1)) F)) := H.assoc
  refine H.sto (b := p) (show k < (diskC D).toArray.size from hk) fun w' H => hK w' ?_
  rw [h] at H
  unfold diskA
  rw [h0, h1]
  exact H.assoc'
theorem skipR {X : Asn} (H : Hp w0 w (star X (star R F))) : Hp w0 w (star X F) := H.swap.drop
theorem act_c {n : Nat} {wipe : Bool} {dv : Value} {g : DiskP → DiskP} (hi : i < 2) (hE : EffOk p i n dv R g) (hB : Bd D.p n) (H : Hp w0 w (star (diskA p D) (star R F))) :
    Calls PP F_disk_Disk_act #[.pointer (some (blk p)), .int .i64 (i : Int), .bool wipe, dv] w (Rt fun v w' => v = .int .i64 (actR D.p i wipe g).2 ∧ ∃ D', D'.p = (actR D.p i wipe g).1 ∧ Hp w0 w' (star (diskA p D') F)) := by
  refine sim_disk_Disk_act _ _ _ _ _ _ ?_
  unfold vc_disk_Disk_act
  refine ⟨fun h => by simp at h, fun _ => ⟨_, rfl, D.dead, diskCell H rfl, fun h => ?_, fun hd => ?_⟩⟩
  · have e : actR D.p i wipe g = (D.p, 60) := by unfold actR; rw [if_pos (show D.p.dead = true from h)]
    rw [e]
    exact Rt.ok ⟨rfl, D, rfl, skipR H⟩
  have hd' : ¬ D.p.dead = true := by show ¬ D.dead = true; rw [hd]; decide
  refine ⟨wipe && decide ((i : Int) = D.cur), fun _ => ⟨wipe && decide ((i : Int) = D.cur), fun h => ⟨D.cur, diskCell H rfl, by rw [h, Bool.true_and]⟩, fun h => by rw [h, Bool.false_and], rfl⟩, fun h => ?_, fun h => ?_, fun hw => ?_⟩
  · simp at h; omega
  · have e : actR D.p i wipe g = (D.p, 61) := by
      have h2 : wipe = true ∧ (i : Int) = D.cur := by simpa using h
      unfold actR
      rw [if_neg hd', if_pos ⟨h2.1, h2.2⟩]
    rw [e]
    exact Rt.ok ⟨rfl, D, rfl, skipR H⟩
  have hw' : ¬ (wipe = true ∧ (i : Int) = D.p.cur) := by
    intro ⟨h1, h2⟩
    rw [h1, show D.cur = (i : Int) from h2.symm] at hw
    simp at hw
  have hnm := hB.nmd
  have hct := hB.cnt
  have hnm : -4611686018427387904 ≤ D.named ∧ D.named ≤ 9223372036854775807 := hnm
  have hct : -1 ≤ D.acts ∧ D.acts ≤ 4611686018427387904 := hct
  have ewr : wr .i64 (D.named - 1) = D.named - 1 := wr64 (by omega) (by omega)
  have emx : maxI 0 (wr .i64 (D.named - 1)) = max 0 (D.named - 1) := by rw [ewr]; unfold maxI; split <;> omega
  refine ⟨D.named, diskCell H rfl, diskSto (D' := { D with dead := decide (D.named = 1) }) H (by omega) rfl rfl rfl fun w1 H => ⟨D.named, diskCell H rfl, ?_⟩⟩
  rw [emx]
  refine diskSto (D' := { D with dead := decide (D.named = 1), named := max 0 (D.named - 1) }) H (by omega) rfl rfl rfl fun w2 H => ?_
  have hB2 : Bd ({ D with dead := decide (D.named = 1), named := max 0 (D.named - 1) } : DiskM).p n := ⟨hB.now, hB.acts, hct, by show _ ≤ max 0 (D.named - 1) ∧ max 0 (D.named - 1) ≤ _; omega⟩
  have haddr : ((blk p).add 0).add (Int.toNat (i : Int) * 3) = (blk p).add (i * 3) := by rw [Int.toNat_natCast]; rfl
  by_cases hn : D.named = 1
  · rw [decide_eq_true hn] at H hB2
    have e0 : actR D.p i wipe g = (if D.done = true then { g { D.p with dead := true, named := max 0 (D.named - 1) } with acts := (g { D.p with dead := true, named := max 0 (D.named - 1) }).acts + 1 } else { D.p with dead := true, named := max 0 (D.named - 1) }, 60) := by
      unfold actR
      rw [if_neg hd', if_neg hw', if_pos (show D.p.named = 1 from hn)]; rfl
    rw [e0]
    refine ⟨fun w' => ∃ D' : DiskM, D'.p = (if D.done = true then { g { D.p with dead := true, named := max 0 (D.named - 1) } with acts := (g { D.p with dead := true, named := max 0 (D.named - 1) }).acts + 1 } else { D.p with dead := true, named := max 0 (D.named - 1) }) ∧ Hp w0 w' (star (diskA p D') F), ⟨true, diskCell H rfl, D.done, fun _ => ⟨D.done, diskCell H rfl, rfl⟩, fun h => by simp at h, fun hdn => ⟨by omega, by omega, ?_⟩, fun hdn => ⟨_, ?_, skipR H⟩⟩, ?_⟩
    · rw [haddr]
      refine callV (hE.1 _ _ _ _ hB2 H) ?_
      rintro _ w3 ⟨rfl, D2, hD2, H⟩
      have ea : D2.acts = D.acts := by
        have := congrArg DiskP.acts hD2
        rw [(hE.2 _).1] at this
        exact this
      refine ⟨rfl, D2.acts, diskCell H rfl, ?_⟩
      rw [show wr .i64 (D2.acts + 1) = D2.acts + 1 from wr64 (by omega) (by omega)]
      refine diskSto (D' := { D2 with acts := D2.acts + 1 }) H (by omega) rfl rfl rfl fun w4 H => ⟨_, ?_, H⟩
      rw [if_pos hdn]
      show { D2.p with acts := D2.p.acts + 1 } = _
      rw [hD2]; rfl
    · rw [if_neg (by rw [hdn]; decide)]; rfl
    · rintro w3 ⟨D3, hD3, H⟩
      have hdd : D3.dead = true := by
        have h1 := congrArg DiskP.dead hD3
        by_cases hdn : D.done = true
        · rw [if_pos hdn] at h1
          exact h1.trans (hE.2 _).2.1
        · rw [if_neg hdn] at h1
          exact h1
      exact ⟨D3.dead, diskCell H rfl, fun _ => Rt.ok ⟨rfl, D3, hD3, H⟩, fun h => by rw [hdd] at h; simp at h⟩
  · rw [decide_eq_false hn] at H hB2
    have e0 : actR D.p i wipe g = ({ g { D.p with dead := false, named := max 0 (D.named - 1) } with acts := (g { D.p with dead := false, named := max 0 (D.named - 1) }).acts + 1 }, 0) := by
      unfold actR
      rw [if_neg hd', if_neg hw', if_neg (show ¬ D.p.named = 1 from hn)]; rfl
    rw [e0]
    refine ⟨fun w' => ∃ D' : DiskM, D'.p = { g { D.p with dead := false, named := max 0 (D.named - 1) } with acts := (g { D.p with dead := false, named := max 0 (D.named - 1) }).acts + 1 } ∧ Hp w0 w' (star (diskA p D') F), ⟨false, diskCell H rfl, true, fun h => by simp at h, fun _ => rfl, fun _ => ⟨by omega, by omega, ?_⟩, fun h => by simp at h⟩, ?_⟩
    · rw [haddr]
      refine callV (hE.1 _ _ _ _ hB2 H) ?_
      rintro _ w3 ⟨rfl, D2, hD2, H⟩
      have ea : D2.acts = D.acts := by
        have := congrArg DiskP.acts hD2
        rw [(hE.2 _).1] at this
        exact this
      refine ⟨rfl, D2.acts, diskCell H rfl, ?_⟩
      rw [show wr .i64 (D2.acts + 1) = D2.acts + 1 from wr64 (by omega) (by omega)]
      refine diskSto (D' := { D2 with acts := D2.acts + 1 }) H (by omega) rfl rfl rfl fun w4 H => ⟨_, ?_, H⟩
      show { D2.p with acts := D2.p.acts + 1 } = _
      rw [hD2]; rfl
    · rintro w3 ⟨D3, hD3, H⟩
      have hdd : D3.dead = false := by
        have h1 := congrArg DiskP.dead hD3
        exact h1.trans (hE.2 _).2.1
      exact ⟨D3.dead, diskCell H rfl, fun h => by rw [hdd] at h; simp at h, fun _ => Rt.ok ⟨rfl, D3, hD3, H⟩⟩
end
end Go.Proofs.YtflcdgkckfcofaaGreatDoor

/-
  Contracts of the package disk: the four acts, and what is told.
-/
namespace Go.Proofs.YtflcdgkckfcofaaGreatDoor
open Go Go.Vc Go.Vc.Asn Go.Disk
section
variable {w0 w : World} {F R : Asn} {p i : Nat} {D : DiskM}
theorem put_kept (D : DiskP) (i : Nat) (s : SlP) : (D.put i s).acts = D.acts ∧ (D.put i s).dead = D.dead ∧ (D.put i s).named = D.named ∧ (D.put i s).done = D.done := by unfold DiskP.put; split <;> exact ⟨rfl, rfl, rfl, rfl⟩
theorem sl_len {n : Nat} (hB : Bd D.p n) (hi : i < 2) : (D.sl i).now.length + n ≤ 1099511627776 ∧ (D.sl i).acts.length ≤ 1048576 := by
  have h1 := hB.now i hi
  have h2 := hB.acts i hi
  rw [← sl_p] at h1 h2
  unfold Sl.p at h1 h2
  simp only [List.length_map] at h1 h2
  exact ⟨h1, h2⟩
theorem eff_app (hi : i < 2) {b : Nat} {o : Slc} {bs : List UInt8} : EffOk p i bs.length (.func (.func F_disk_appending_c1) #[] #[.pointer (some (blk b))]) (actA ((b, o), .app bs)) (gApp i bs) := by
  refine ⟨fun w0 w D F hB H => ⟨_, _, rfl, by kernel_rfl, ?_⟩, fun D => ?_⟩
  · show Calls PP F_disk_appending_c1 #[.pointer (some ((blk p).add (i * 3))), .pointer (some (blk b))] w _
    refine sim_disk_appending_c1 _ _ _ _ ?_
    unfold vc_disk_appending_c1
    have H2 : Hp w0 w (star (diskA p D) (star (bk b Ty_sl_uint8 #[o.v]) (star (own Ty_uint8 1 o (bs.map u8v)) F))) := H.ent (Ent.star (Ent.refl _) Asn.assoc)
    have hO : Byt w o bs := (H2.own o).cel (s := o)
    have hl := hO.len
    obtain ⟨b1, b2⟩ := sl_len hB hi
    refine ⟨o, H2.cell (b := b) (i := 0) rfl, fun h => ⟨o, H2.cell (b := b) (i := 0) rfl, ?_⟩, fun h => Rt.ok ⟨rfl, D, ?_, skipR H⟩⟩
    · have hne : bs ≠ [] := fun e => by rw [e] at hl; simp at h; simp at hl; omega
      have e : (Value.agg #[.func (.func F_disk_appending_c1_c1) #[] #[.pointer (some (blk b))], .int .i64 (o.l : Int)]) = .agg #[actF (b, o) (.app bs), .int .i64 ((DAct.app bs).size : Int)] := by rw [hl]; rfl
      rw [e]
      refine call (do_c (m := (b, o)) (a := .app bs) hi b1 b2 H) ?_
      rintro _ w1 ⟨rfl, D', hD', H⟩
      refine ⟨rfl, Rt.ok ⟨rfl, D', ?_, H⟩⟩
      rw [hD']; unfold gApp; rw [if_neg hne]
    · have he : bs = [] := by
        simp at h
        exact List.eq_nil_of_length_eq_zero (by omega)
      unfold gApp; rw [if_pos he]
  · unfold gApp
    split
    · exact ⟨rfl, rfl, rfl, rfl⟩
    · exact put_kept _ _ _
theorem eff_wipe (hi : i < 2) : EffOk p i 0 (.func (.func F_disk_wiping) #[] #[]) emp (gWipe i) := by
  refine ⟨fun w0 w D F hB H => ⟨_, _, rfl, by kernel_rfl, ?_⟩, fun D => put_kept _ _ _⟩
  show Calls PP F_disk_wiping #[.pointer (some ((blk p).add (i * 3)))] w _
  refine sim_disk_wiping _ _ _ ?_
  unfold vc_disk_wiping
  obtain ⟨b1, b2⟩ := sl_len hB hi
  refine call (do_c (m := (0, Slc.nil)) (a := .wipe) hi b1 b2 H) ?_
  rintro _ w1 ⟨rfl, D', hD', H⟩
  exact ⟨rfl, Rt.ok ⟨rfl, D', hD', H⟩⟩
theorem eff_sync (hi : i < 2) : EffOk p i 0 (.func (.func F_disk_syncing) #[] #[]) emp (gSync i) := by
  refine ⟨fun w0 w D F hB H => ⟨_, _, rfl, by kernel_rfl, ?_⟩, fun D => put_kept _ _ _⟩
  show Calls PP F_disk_syncing #[.pointer (some ((blk p).add (i * 3)))] w _
  refine sim_disk_syncing _ _ _ ?_
  unfold vc_disk_syncing
  obtain ⟨b1, b2⟩ := sl_len hB hi
  have H := diskOpen hi H
  have hN : Byt w (D.sl i).no (D.sl i).now := (H.own (D.sl i).no).cel (s := (D.sl i).no)
  refine ⟨_, rfl, _, H.cell2 (b := p) (i := i * 3) (j := 1) (diskC_no D hi), call (cloneH_c hN (by omega)) ?_⟩
  rintro _ w1 ⟨o, rfl, H1⟩
  have H := H.beside H1
  have hsz : (diskC D).toArray.size = 11 := rfl
  refine ⟨o, rfl, H.sto2 (b := p) (i := i * 3) (j := 0) (by rw [hsz]; omega) fun w2 H => H.sto2 (b := p) (i := i * 3) (j := 2) (by rw [Array.size_setIfInBounds, hsz]; omega) fun w3 H => Rt.ok ⟨rfl, D.put i ⟨o, (D.sl i).no, Slc.nil, (D.sl i).now, (D.sl i).now, []⟩, ?_, ?_⟩⟩
  · rw [put_p]; unfold gSync; rw [← sl_p]; rfl
  · obtain ⟨e1, e2⟩ := put_sl D hi ⟨o, (D.sl i).no, Slc.nil, (D.sl i).now, (D.sl i).now, []⟩
    refine diskClose hi ?_
    unfold diskI
    rw [e1, e2]
    have hcs : ((diskC D).toArray.setIfInBounds (i * 3 + 0) o.v).setIfInBounds (i * 3 + 2) (Slc.v Slc.nil) = (diskC (D.put i ⟨o, (D.sl i).no, Slc.nil, (D.sl i).now, (D.sl i).now, []⟩)).toArray := by
      rcases (show i = 0 ∨ i = 1 by omega) with rfl | rfl <;> rfl
    rw [hcs] at H
    have H := (H.own (D.sl i).la).drop
    have H := (H.own (D.sl i).ac).drop
    have H := (H.take (all actA (D.sl i).acts)).drop
    have H := (H.take (slA (D.sl (1 - i))))
    have H : Hp w0 w3 (star (all actA []) _) := H.ent Asn.emp_l
    have H := ((H.nilRow Ty_disk_loose 2).own (D.sl i).no).own o
    have H := H.blk p
    refine H.ent (Ent.star (Ent.refl _) (Ent.star (Ent.refl _) (Ent.star (Ent.refl _) (Ent.star (Ent.refl _) (Ent.star (Ent.refl _) (Ent.star (Ent.refl _) (emp_l'.trans emp_l')))))))
theorem eff_switch (hi : i < 2) {b4 b7 : Nat} : EffOk p i 0 (.func (.func F_disk_Disk_Switch_c1) #[] #[.pointer (some (blk b7)), .pointer (some (blk b4))]) (star (bk b7 Ty_int #[.int .i64 (i : Int)]) (bk b4 Ty_p_disk_Disk #[.pointer (some (blk p))])) (gSwitch i) := by
  refine ⟨fun w0 w D F hB H => ⟨_, _, rfl, by kernel_rfl, ?_⟩, fun D => ⟨rfl, rfl, rfl, rfl⟩⟩
  show Calls PP F_disk_Disk_Switch_c1 #[.pointer (some ((blk p).add (i * 3))), .pointer (some (blk b7)), .pointer (some (blk b4))] w _
  refine sim_disk_Disk_Switch_c1 _ _ _ _ _ ?_
  unfold vc_disk_Disk_Switch_c1
  have H2 := H.ent (Ent.star (Ent.refl _) Asn.assoc)
  exact ⟨_, H2.cell (b := b4) (i := 0) rfl, (i : Int), H2.cell (b := b7) (i := 0) rfl, _, rfl, diskSto (D' := { D with cur := i }) H (by omega) rfl rfl rfl fun w1 H => Rt.ok ⟨rfl, { D with cur := i }, rfl, skipR H⟩⟩
/-! ## The four acts -/
theorem dAppend_c {data : Slc} {bs : List UInt8} (hi : i < 2) (hB : Bd D.p bs.length) (hD : Byt w data bs) (hl : bs.length ≤ 1099511627776) (H : Hp w0 w (star (diskA p D) F)) :
    Calls PP F_disk_Disk_Append #[.pointer (some (blk p)), .int .i64 (i : Int), data.v] w (Rt fun v w' => v = .int .i64 (actR D.p i false (gApp i bs)).2 ∧ ∃ D', D'.p = (actR D.p i false (gApp i bs)).1 ∧ Hp w0 w' (star (diskA p D') F)) := by
  refine sim_disk_Disk_Append _ _ _ _ _ ?_
  unfold vc_disk_Disk_Append
  have hap : Calls PP F_disk_appending #[data.v] w (Rt fun v w' => ∃ b o, v = .func (.func F_disk_appending_c1) #[] #[.pointer (some (blk b))] ∧ Hp w w' (star (actA ((b, o), .app bs)) emp)) := by
    refine sim_disk_appending _ _ _ ?_
    unfold vc_disk_appending
    refine call (cloneH_c hD hl) ?_
    rintro _ w1 ⟨o, rfl, H1⟩
    refine ⟨o, rfl, H1.new fun b w2 H2 => H2.sto (b := b) (i := 0) (by decide) fun w3 H3 => Rt.ok ⟨b, o, rfl, ?_⟩⟩
    exact H3.assoc'
  refine call hap ?_
  rintro _ w1 ⟨b, o, rfl, H1⟩
  have H := (H.beside (H1.ent emp_r')).swap
  refine ⟨_, rfl, call (act_c hi (eff_app hi) hB H) ?_⟩
  rintro _ w2 ⟨rfl, hx⟩
  exact ⟨_, rfl, Rt.ok ⟨rfl, hx⟩⟩
theorem dWipe_c (hi : i < 2) (hB : Bd D.p 0) (H : Hp w0 w (star (diskA p D) F)) :
    Calls PP F_disk_Disk_Wipe #[.pointer (some (blk p)), .int .i64 (i : Int)] w (Rt fun v w' => v = .int .i64 (actR D.p i true (gWipe i)).2 ∧ ∃ D', D'.p = (actR D.p i true (gWipe i)).1 ∧ Hp w0 w' (star (diskA p D') F)) := by
  refine sim_disk_Disk_Wipe _ _ _ _ ?_
  unfold vc_disk_Disk_Wipe
  refine call (act_c hi (eff_wipe hi) hB (H.ent (Ent.star (Ent.refl _) emp_l))) ?_
  rintro _ w2 ⟨rfl, hx⟩
  exact ⟨_, rfl, Rt.ok ⟨rfl, hx⟩⟩
theorem dSync_c (hi : i < 2) (hB : Bd D.p 0) (H : Hp w0 w (star (diskA p D) F)) :
    Calls PP F_disk_Disk_Sync #[.pointer (some (blk p)), .int .i64 (i : Int)] w (Rt fun v w' => v = .int .i64 (actR D.p i false (gSync i)).2 ∧ ∃ D', D'.p = (actR D.p i false (gSync i)).1 ∧ Hp w0 w' (star (diskA p D') F)) := by
  refine sim_disk_Disk_Sync _ _ _ _ ?_
  unfold vc_disk_Disk_Sync
  refine call (act_c hi (eff_sync hi) hB (H.ent (Ent.star (Ent.refl _) emp_l))) ?_
  rintro _ w2 ⟨rfl, hx⟩
  exact ⟨_, rfl, Rt.ok ⟨rfl, hx⟩⟩
theorem dSwitch_c (hi : i < 2) (hB : Bd D.p 0) (H : Hp w0 w (star (diskA p D) F)) :
    Calls PP F_disk_Disk_Switch #[.pointer (some (blk p)), .int .i64 (i : Int)] w (Rt fun v w' => v = .int .i64 (actR D.p i false (gSwitch i)).2 ∧ ∃ D', D'.p = (actR D.p i false (gSwitch i)).1 ∧ Hp w0 w' (star (diskA p D') F)) := by
  refine sim_disk_Disk_Switch _ _ _ _ ?_
  unfold vc_disk_Disk_Switch
  refine H.new fun b4 w1 H => H.new fun b7 w2 H => ?_
  have H := (H.take (diskA p D)).ent (Ent.star (Ent.refl _) Asn.assoc')
  refine call (act_c hi (eff_switch hi) hB H) ?_
  rintro _ w3 ⟨rfl, hx⟩
  exact ⟨_, rfl, Rt.ok ⟨rfl, hx⟩⟩
/-! ## What is told -/
theorem dNew_c : Calls PP F_disk_New #[] w (Rt fun v w' => ∃ p D, v = .pointer (some (blk p)) ∧ D.p = ⟨⟨[], [], []⟩, ⟨[], [], []⟩, 0, 0, 0, false, false⟩ ∧ Hp w w' (star (diskA p D) emp)) := by
  refine sim_disk_New _ _ ?_
  unfold vc_disk_New
  refine (Hp.start w).new fun b w1 H => Rt.ok ⟨b, ⟨⟨Slc.nil, Slc.nil, Slc.nil, [], [], []⟩, ⟨Slc.nil, Slc.nil, Slc.nil, [], [], []⟩, 0, 0, 0, false, false⟩, rfl, rfl, ?_⟩
  have add : ∀ {A : Asn}, Hp w w1 A → Hp w w1 (star (slA ⟨Slc.nil, Slc.nil, Slc.nil, [], [], []⟩) A) := fun H => by
    have H := (((H.ent Asn.emp_l).nilRow Ty_disk_loose 2).nilRow Ty_uint8 1).nilRow Ty_uint8 1
    exact ((H.ent (Ent.star (Ent.refl _) (Ent.star (Ent.refl _) Asn.assoc'))).ent (Ent.star (Ent.refl _) Asn.assoc')).assoc'
  have H := (add (add H)).blk b
  exact (H.ent (Ent.star (Ent.refl _) Asn.assoc')).assoc'
theorem dGone_c (H : Hp w0 w (star (diskA p D) F)) : Calls PP F_disk_Disk_gone #[.pointer (some (blk p))] w (Rt fun v w' => v = .bool D.dead ∧ w' = w) := by
  refine sim_disk_Disk_gone _ _ _ ?_
  unfold vc_disk_Disk_gone
  exact ⟨D.dead, fun _ => ⟨_, rfl, D.dead, diskCell H rfl, rfl⟩, fun h => by simp at h, Rt.ok ⟨rfl, rfl⟩⟩
theorem dCurrent_c (H : Hp w0 w (star (diskA p D) F)) : Calls PP F_disk_Disk_Current #[.pointer (some (blk p))] w (Rt fun v w' => v = .int .i64 (if D.dead = true then 0 else D.cur) ∧ w' = w) := by
  refine sim_disk_Disk_Current _ _ _ ?_
  unfold vc_disk_Disk_Current
  refine call (dGone_c H) ?_
  rintro _ w1 ⟨rfl, rfl⟩
  exact ⟨D.dead, rfl, fun h => Rt.ok ⟨by rw [if_pos h], rfl⟩, fun h => ⟨_, rfl, D.cur, diskCell H rfl, Rt.ok ⟨by rw [if_neg (by rw [h]; decide)], rfl⟩⟩⟩
theorem dActs_c (H : Hp w0 w (star (diskA p D) F)) : Calls PP F_disk_Disk_Acts #[.pointer (some (blk p))] w (Rt fun v w' => v = .int .i64 D.acts ∧ w' = w) := by
  refine sim_disk_Disk_Acts _ _ _ ?_
  unfold vc_disk_Disk_Acts
  exact ⟨fun h => by simp at h, fun _ => ⟨_, rfl, D.acts, diskCell H rfl, Rt.ok ⟨rfl, rfl⟩⟩⟩
theorem acN (H : Hp w0 w (star (diskA p D) F)) (hi : i < 2) : (D.sl i).ac.l = (D.sl i).acts.length := by
  have H := diskOpen hi H
  have := ((H.own (D.sl i).ac).cel (s := (D.sl i).ac)).len
  have h2 : ∀ l : List ((Nat × Slc) × DAct), (l.flatMap actC).length = l.length * 2 := fun l => by
    induction l with
    | nil => rfl
    | cons x r ih => rw [List.flatMap_cons, List.length_append, ih]; show 2 + _ = (r.length + 1) * 2; omega
  rw [h2] at this
  omega
theorem dPending_c (hB : Bd D.p 0) (H : Hp w0 w (star (diskA p D) F)) : Calls PP F_disk_Disk_Pending #[.pointer (some (blk p))] w (Rt fun v w' => v = .int .i64 ((D.s0.acts.length + D.s1.acts.length : Nat) : Int) ∧ Hp w0 w' (star (diskA p D) F)) := by
  refine sim_disk_Disk_Pending _ _ _ ?_
  unfold vc_disk_Disk_Pending
  have a0 : D.s0.ac.l = D.s0.acts.length := acN (i := 0) H (by omega)
  have a1 : D.s1.ac.l = D.s1.acts.length := acN (i := 1) H (by omega)
  have b0 : D.s0.acts.length ≤ 1048576 := (sl_len hB (i := 0) (by omega)).2
  have b1 : D.s1.acts.length ≤ 1048576 := (sl_len hB (i := 1) (by omega)).2
  refine ⟨fun h => by simp at h, fun _ => ⟨_, rfl, D.s0.ac, diskCell (k := 2) H rfl, D.s1.ac, ?_, fun k8 => Rt.ok ⟨?_, H.drew k8⟩⟩⟩
  · have := diskCell (k := 5) (v := D.s1.ac.v) H rfl
    rw [← this]
    congr 1
  · rw [a0, a1, wr64 (by omega) (by omega), Int.natCast_add]
theorem dStop_c {n : Int} {dn : Bool} (H : Hp w0 w (star (diskA p D) F)) : Calls PP F_disk_Disk_Stop #[.pointer (some (blk p)), .int .i64 n, .bool dn] w (Rt fun v w' =>
    v = .int .i64 (if D.dead = true then 60 else 0) ∧ ∃ D', D'.p = (if D.dead = true then D.p else { D.p with named := max 0 n, done := dn }) ∧ Hp w0 w' (star (diskA p D') F)) := by
  refine sim_disk_Disk_Stop _ _ _ _ _ ?_
  unfold vc_disk_Disk_Stop
  refine ⟨fun h => by simp at h, fun _ => ⟨_, rfl, D.dead, diskCell H rfl, fun h => Rt.ok ⟨by rw [if_pos h], D, by rw [if_pos h], H⟩, fun h => ?_⟩⟩
  have hn : ¬ D.dead = true := by rw [h]; decide
  have emx : maxI 0 n = max 0 n := by unfold maxI; split <;> omega
  rw [emx]
  refine diskSto (D' := { D with named := max 0 n }) H (by omega) rfl rfl rfl fun w1 H => diskSto (D' := { D with named := max 0 n, done := dn }) H (by omega) rfl rfl rfl fun w2 H => Rt.ok ⟨by rw [if_neg hn], _, by rw [if_neg hn]; rfl, H⟩
theorem dRead_c (hi : i < 2) (hB : Bd D.p 0) (H : Hp w0 w (star (diskA p D) F)) : Calls PP F_disk_Disk_Read #[.pointer (some (blk p)), .int .i64 (i : Int)] w (Rt fun v w' =>
    (D.dead = true ∧ v = .tuple #[Slc.nil.v, .int .i64 60] ∧ w' = w) ∨ (D.dead = false ∧ ∃ o, v = .tuple #[Slc.v o, .int .i64 0] ∧ Hp w0 w' (star (own Ty_uint8 1 o ((D.sl i).now.map u8v)) (star (diskA p D) F)))) := by
  refine sim_disk_Disk_Read _ _ _ _ ?_
  unfold vc_disk_Disk_Read
  refine ⟨fun h => by simp at h, fun _ => ⟨_, rfl, D.dead, diskCell H rfl, fun h => Rt.ok (.inl ⟨h, rfl, rfl⟩), fun h => ⟨fun h2 => ?_, fun _ => ⟨by omega, by omega, (D.sl i).no, ?_, ?_⟩⟩⟩⟩
  · simp at h2; omega
  · have := diskCell (k := i * 3 + 1) H (diskC_no D hi)
    rw [← this, Int.toNat_natCast]
    congr 1
    show ((((blk p).add 0).add (i * 3)).add 1) = _
    rw [add_add, add_add, Nat.zero_add]
  · obtain ⟨b1, _⟩ := sl_len hB hi
    have hN : Byt w (D.sl i).no (D.sl i).now := ((diskOpen hi H).own (D.sl i).no).cel (s := (D.sl i).no)
    refine call (cloneH_c hN (by omega)) ?_
    rintro _ w1 ⟨o, rfl, H1⟩
    exact ⟨o, rfl, Rt.ok (.inr ⟨h, o, rfl, H.beside (H1.ent emp_r')⟩)⟩
end
end Go.Proofs.YtflcdgkckfcofaaGreatDoor
