/-
  Contracts of the package disk: the acts, their closures, what is told.
-/
import Derived.Test.YtflcdgkckfcofaaGreatDoorRecAll
import Derived.Test.YtflcdgkckfcofaaGreatDoorCpy
namespace Go.Disk
open Go.Vc
inductive DAct where
  | app (bs : List UInt8)
  | wipe
def DAct.size : DAct → Nat
  | .app bs => bs.length
  | .wipe => 0
def DAct.again : DAct → List UInt8 → Nat → List UInt8
  | .app bs, old, n => old ++ bs.take n
  | .wipe, _, _ => []
structure SlP where
  lasts : List UInt8
  now : List UInt8
  acts : List DAct
def SlP.do (s : SlP) (a : DAct) : SlP := ⟨s.lasts, a.again s.now a.size, s.acts ++ [a]⟩
def SlP.sync (s : SlP) : SlP := ⟨s.now, s.now, []⟩
structure DiskP where
  s0 : SlP
  s1 : SlP
  cur : Int
  acts : Int
  named : Int
  done : Bool
  dead : Bool
def DiskP.sl (D : DiskP) (i : Nat) : SlP := if i = 0 then D.s0 else D.s1
def DiskP.put (D : DiskP) (i : Nat) (s : SlP) : DiskP := if i = 0 then { D with s0 := s } else { D with s1 := s }
structure Sl where
  la : Slc
  no : Slc
  ac : Slc
  lasts : List UInt8
  now : List UInt8
  acts : List ((Nat × Slc) × DAct)
def Sl.p (s : Sl) : SlP := ⟨s.lasts, s.now, s.acts.map (·.2)⟩
structure DiskM where
  s0 : Sl
  s1 : Sl
  cur : Int
  acts : Int
  named : Int
  done : Bool
  dead : Bool
def DiskM.p (D : DiskM) : DiskP := ⟨D.s0.p, D.s1.p, D.cur, D.acts, D.named, D.done, D.dead⟩
def DiskM.sl (D : DiskM) (i : Nat) : Sl := if i = 0 then D.s0 else D.s1
def DiskM.put (D : DiskM) (i : Nat) (s : Sl) : DiskM := if i = 0 then { D with s0 := s } else { D with s1 := s }
theorem put_p (D : DiskM) (i : Nat) (s : Sl) : (D.put i s).p = D.p.put i s.p := by unfold DiskM.put DiskP.put; split <;> rfl
theorem sl_p (D : DiskM) (i : Nat) : (D.sl i).p = D.p.sl i := by unfold DiskM.sl DiskP.sl; split <;> rfl
end Go.Disk
namespace Go.Proofs.YtflcdgkckfcofaaGreatDoor
open Go Go.Vc Go.Vc.Asn Go.Disk
def actF (m : Nat × Slc) : DAct → Value
  | .app _ => .func (.func F_disk_appending_c1_c1) #[] #[.pointer (some (blk m.1))]
  | .wipe => .func (.func F_disk_wiping_c1) #[] #[]
def actC (x : (Nat × Slc) × DAct) : List Value := [actF x.1 x.2, .int .i64 (x.2.size : Int)]
def actA (x : (Nat × Slc) × DAct) : Asn := match x.2 with
  | .app bs => star (bk x.1.1 Ty_sl_uint8 #[x.1.2.v]) (own Ty_uint8 1 x.1.2 (bs.map u8v))
  | .wipe => emp
def slA (s : Sl) : Asn := star (own Ty_uint8 1 s.la (s.lasts.map u8v)) (star (own Ty_uint8 1 s.no (s.now.map u8v)) (star (own Ty_disk_loose 2 s.ac (s.acts.flatMap actC)) (all actA s.acts)))
def diskC (D : DiskM) : List Value := [D.s0.la.v, D.s0.no.v, D.s0.ac.v, D.s1.la.v, D.s1.no.v, D.s1.ac.v, .int .i64 D.cur, .int .i64 D.acts, .int .i64 D.named, .bool D.done, .bool D.dead]
def diskA (p : Nat) (D : DiskM) : Asn := star (bk p Ty_disk_Disk (diskC D).toArray) (star (slA D.s0) (slA D.s1))
abbrev diskI (p i : Nat) (D : DiskM) (F : Asn) : Asn := star (bk p Ty_disk_Disk (diskC D).toArray) (star (own Ty_uint8 1 (D.sl i).la ((D.sl i).lasts.map u8v)) (star (own Ty_uint8 1 (D.sl i).no ((D.sl i).now.map u8v)) (star (own Ty_disk_loose 2 (D.sl i).ac ((D.sl i).acts.flatMap actC)) (star (all actA (D.sl i).acts) (star (slA (D.sl (1 - i))) F)))))
section
variable {w0 w : World} {F : Asn} {p i : Nat} {D : DiskM}
theorem diskOpen (hi : i < 2) (H : Hp w0 w (star (diskA p D) F)) : Hp w0 w (diskI p i D F) := by
  have H : Hp w0 w (star (bk p Ty_disk_Disk (diskC D).toArray) (star (star (slA D.s0) (slA D.s1)) F)) := H.assoc
  have key : Ent (star (star (slA D.s0) (slA D.s1)) F) (star (slA (D.sl i)) (star (slA (D.sl (1 - i))) F)) := by
    rcases (show i = 0 ∨ i = 1 by omega) with rfl | rfl
    · exact Asn.assoc
    · exact Asn.assoc.trans left
  refine H.ent (Ent.star (Ent.refl _) (key.trans ?_))
  unfold slA
  exact Asn.assoc.trans (Ent.star (Ent.refl _) (Asn.assoc.trans (Ent.star (Ent.refl _) Asn.assoc)))
theorem diskClose (hi : i < 2) (H : Hp w0 w (diskI p i D F)) : Hp w0 w (star (diskA p D) F) := by
  have key : Ent (star (slA (D.sl i)) (star (slA (D.sl (1 - i))) F)) (star (star (slA D.s0) (slA D.s1)) F) := by
    rcases (show i = 0 ∨ i = 1 by omega) with rfl | rfl
    · exact Asn.assoc'
    · exact left.trans Asn.assoc'
  refine (H.ent (Ent.star (Ent.refl _) (Ent.trans ?_ key))).assoc'
  unfold slA
  exact (Ent.star (Ent.refl _) ((Ent.star (Ent.refl _) Asn.assoc').trans Asn.assoc')).trans Asn.assoc'
theorem diskC_no (D : DiskM) (hi : i < 2) : (diskC D).toArray[i * 3 + 1]? = some (D.sl i).no.v := by
  rcases (show i = 0 ∨ i = 1 by omega) with rfl | rfl <;> rfl
theorem diskC_ac (D : DiskM) (hi : i < 2) : (diskC D).toArray[i * 3 + 2]? = some (D.sl i).ac.v := by
  rcases (show i = 0 ∨ i = 1 by omega) with rfl | rfl <;> rfl
theorem put_sl (D : DiskM) (hi : i < 2) (s : Sl) : (D.put i s).sl i = s ∧ (D.put i s).sl (1 - i) = D.sl (1 - i) := by
  rcases (show i = 0 ∨ i = 1 by omega) with rfl | rfl <;> exact ⟨rfl, rfl⟩
theorem diskC_set (D : DiskM) (hi : i < 2) (s : Sl) : (((diskC D).toArray.setIfInBounds (i * 3) s.la.v).setIfInBounds (i * 3 + 1) s.no.v).setIfInBounds (i * 3 + 2) s.ac.v = (diskC (D.put i s)).toArray := by
  rcases (show i = 0 ∨ i = 1 by omega) with rfl | rfl <;> rfl
end
end Go.Proofs.YtflcdgkckfcofaaGreatDoor
