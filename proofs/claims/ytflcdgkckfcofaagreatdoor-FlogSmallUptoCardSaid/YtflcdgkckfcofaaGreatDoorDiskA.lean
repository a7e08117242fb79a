/-
  Contracts of the package disk: act, Append, Wipe, Sync, Switch, Read and what is told.
-/
import Derived.Test.YtflcdgkckfcofaaGreatDoorDiskC
namespace Go.Disk
def actR (D : DiskP) (i : Nat) (wipe : Bool) (g : DiskP → DiskP) : DiskP × Int :=
  if D.dead = true then (D, 60)
  else if wipe = true ∧ (i : Int) = D.cur then (D, 61)
  else if D.named = 1 then
    (if D.done = true then { g { D with dead := true, named := max 0 (D.named - 1) } with acts := (g { D with dead := true, named := max 0 (D.named - 1) }).acts + 1 } else { D with dead := true, named := max 0 (D.named - 1) }, 60)
  else ({ g { D with dead := false, named := max 0 (D.named - 1) } with acts := (g { D with dead := false, named := max 0 (D.named - 1) }).acts + 1 }, 0)
def gApp (i : Nat) (bs : List UInt8) (D : DiskP) : DiskP := if bs = [] then D else D.put i ((D.sl i).do (.app bs))
def gWipe (i : Nat) (D : DiskP) : DiskP := D.put i ((D.sl i).do .wipe)
def gSync (i : Nat) (D : DiskP) : DiskP := D.put i (D.sl i).sync
def gSwitch (i : Nat) (D : DiskP) : DiskP := { D with cur := i }
end Go.Disk
namespace Go.Proofs.YtflcdgkckfcofaaGreatDoor
open Go Go.Vc Go.Vc.Asn Go.Disk
structure Bd (D : DiskP) (n : Nat) : Prop where
  now : ∀ i, i < 2 → (D.sl i).now.length + n ≤ 1099511627776
  acts : ∀ i, i < 2 → (D.sl i).acts.length ≤ 1048576
  cnt : -1 ≤ D.acts ∧ D.acts ≤ 4611686018427387904
  nmd : -4611686018427387904 ≤ D.named ∧ D.named ≤ 9223372036854775807
section
variable {w0 w : World} {F R : Asn} {p i : Nat} {D : DiskM}
def EffOk (p i n : Nat) (dv : Value) (R : Asn) (g : DiskP → DiskP) : Prop :=
  (∀ (w0 w : World) (D : DiskM) (F : Asn), Bd D.p n → Hp w0 w (star (diskA p D) (star R F)) → CallV PP dv #[.pointer (some ((blk p).add (i * 3)))] w (Rt fun v w' => v = .tuple #[] ∧ ∃ D', D'.p = g D.p ∧ Hp w0 w' (star (diskA p D') F))) ∧
  (∀ D : DiskP, (g D).acts = D.acts ∧ (g D).dead = D.dead ∧ (g D).named = D.named ∧ (g D).done = D.done)
theorem diskCell (H : Hp w0 w (star (diskA p D) F)) {k : Nat} {v : Value} (h : (diskC D).toArray[k]? = some v) : w.cell? ((blk p).add k) = some v := by
  have H : Hp w0 w (star (bk p Ty_disk_Disk (diskC D).toArray) (star (star (slA D.s0) (slA D.s1)) F)) := H.assoc
  exact H.cell (b := p) h
theorem diskSto (H : Hp w0 w (star (diskA p D) F)) {k : Nat} {v : Value} {D' : DiskM} (hk : k < 11) (h : (diskC D).toArray.setIfInBounds k v = (diskC D').toArray) (h0 : D'.s0 = D.s0) (h1 : D'.s1 = D.s1) {K : World → Prop} (hK : ∀ w', Hp w0 w' (star (diskA p D') F) → K w') : Sto w ((blk p).add k) v K := by
  have H : Hp w0 w (star (bk p Ty_disk_Disk (diskC D).toArray) (star (star (slA D.s0) (slA D.s1)) F)) := H.assoc
  refine H.sto (b := p) (show k < (diskC D).toArray.size from hk) fun w' H => hK w' ?_
  rw [h] at H
  unfold diskA
  rw [h0, h1]
  exact H.assoc'
theorem skipR {X : Asn} (H : Hp w0 w (star X (star R F))) : Hp w0 w (star X F) := H.swap.drop
theorem act_c {n : Nat} {wipe : Bool} {dv : Value} {g : DiskP → DiskP} (hi : i < 2) (hE : EffOk p i n dv R g) (hB : Bd D.p n) (H : Hp w0 w (star (diskA p D) (star R F))) :
    Calls PP F_disk_Disk_act #[.pointer (some (blk p)), .int .i64 (i : Int), .bool wipe, dv] w (Rt fun v w' => v = .int .i64 (actR D.p i wipe g).2 ∧ ∃ D', D'.p = (actR D.p i wipe g).1 ∧ Hp w0 w' (star (diskA p D') F)) := by
  refine sim_disk_Disk_act _ _ _ _ _ _ ?_
  unfold vc_disk_Disk_act
  refine ⟨fun h => by simp at h, fun _ => ⟨_, rfl, D.dead, diskCell H rfl, fun h => ?_, fun hd => ?_⟩⟩
  · have e : actR D.p i wipe g = (D.p, 60) := by unfold actR; rw [if_pos (show D.p.dead = true from h)]
    rw [e]
    exact Rt.ok ⟨rfl, D, rfl, skipR H⟩
  have hd' : ¬ D.p.dead = true := by show ¬ D.dead = true; rw [hd]; decide
  refine ⟨wipe && decide ((i : Int) = D.cur), fun _ => ⟨wipe && decide ((i : Int) = D.cur), fun h => ⟨D.cur, diskCell H rfl, by rw [h, Bool.true_and]⟩, fun h => by rw [h, Bool.false_and], rfl⟩, fun h => ?_, fun h => ?_, fun hw => ?_⟩
  · simp at h; omega
  · have e : actR D.p i wipe g = (D.p, 61) := by
      have h2 : wipe = true ∧ (i : Int) = D.cur := by simpa using h
      unfold actR
      rw [if_neg hd', if_pos ⟨h2.1, h2.2⟩]
    rw [e]
    exact Rt.ok ⟨rfl, D, rfl, skipR H⟩
  have hw' : ¬ (wipe = true ∧ (i : Int) = D.p.cur) := by
    intro ⟨h1, h2⟩
    rw [h1, show D.cur = (i : Int) from h2.symm] at hw
    simp at hw
  have hnm := hB.nmd
  have hct := hB.cnt
  have hnm : -4611686018427387904 ≤ D.named ∧ D.named ≤ 9223372036854775807 := hnm
  have hct : -1 ≤ D.acts ∧ D.acts ≤ 4611686018427387904 := hct
  have ewr : wr .i64 (D.named - 1) = D.named - 1 := wr64 (by omega) (by omega)
  have emx : maxI 0 (wr .i64 (D.named - 1)) = max 0 (D.named - 1) := by rw [ewr]; unfold maxI; split <;> omega
  refine ⟨D.named, diskCell H rfl, diskSto (D' := { D with dead := decide (D.named = 1) }) H (by omega) rfl rfl rfl fun w1 H => ⟨D.named, diskCell H rfl, ?_⟩⟩
  rw [emx]
  refine diskSto (D' := { D with dead := decide (D.named = 1), named := max 0 (D.named - 1) }) H (by omega) rfl rfl rfl fun w2 H => ?_
  have hB2 : Bd ({ D with dead := decide (D.named = 1), named := max 0 (D.named - 1) } : DiskM).p n := ⟨hB.now, hB.acts, hct, by show _ ≤ max 0 (D.named - 1) ∧ max 0 (D.named - 1) ≤ _; omega⟩
  have haddr : ((blk p).add 0).add (Int.toNat (i : Int) * 3) = (blk p).add (i * 3) := by rw [Int.toNat_natCast]; rfl
  by_cases hn : D.named = 1
  · rw [decide_eq_true hn] at H hB2
    have e0 : actR D.p i wipe g = (if D.done = true then { g { D.p with dead := true, named := max 0 (D.named - 1) } with acts := (g { D.p with dead := true, named := max 0 (D.named - 1) }).acts + 1 } else { D.p with dead := true, named := max 0 (D.named - 1) }, 60) := by
      unfold actR
      rw [if_neg hd', if_neg hw', if_pos (show D.p.named = 1 from hn)]; rfl
    rw [e0]
    refine ⟨fun w' => ∃ D' : DiskM, D'.p = (if D.done = true then { g { D.p with dead := true, named := max 0 (D.named - 1) } with acts := (g { D.p with dead := true, named := max 0 (D.named - 1) }).acts + 1 } else { D.p with dead := true, named := max 0 (D.named - 1) }) ∧ Hp w0 w' (star (diskA p D') F), ⟨true, diskCell H rfl, D.done, fun _ => ⟨D.done, diskCell H rfl, rfl⟩, fun h => by simp at h, fun hdn => ⟨by omega, by omega, ?_⟩, fun hdn => ⟨_, ?_, skipR H⟩⟩, ?_⟩
    · rw [haddr]
      refine callV (hE.1 _ _ _ _ hB2 H) ?_
      rintro _ w3 ⟨rfl, D2, hD2, H⟩
      have ea : D2.acts = D.acts := by
        have := congrArg DiskP.acts hD2
        rw [(hE.2 _).1] at this
        exact this
      refine ⟨rfl, D2.acts, diskCell H rfl, ?_⟩
      rw [show wr .i64 (D2.acts + 1) = D2.acts + 1 from wr64 (by omega) (by omega)]
      refine diskSto (D' := { D2 with acts := D2.acts + 1 }) H (by omega) rfl rfl rfl fun w4 H => ⟨_, ?_, H⟩
      rw [if_pos hdn]
      show { D2.p with acts := D2.p.acts + 1 } = _
      rw [hD2]; rfl
    · rw [if_neg (by rw [hdn]; decide)]; rfl
    · rintro w3 ⟨D3, hD3, H⟩
      have hdd : D3.dead = true := by
        have h1 := congrArg DiskP.dead hD3
        by_cases hdn : D.done = true
        · rw [if_pos hdn] at h1
          exact h1.trans (hE.2 _).2.1
        · rw [if_neg hdn] at h1
          exact h1
      exact ⟨D3.dead, diskCell H rfl, fun _ => Rt.ok ⟨rfl, D3, hD3, H⟩, fun h => by rw [hdd] at h; simp at h⟩
  · rw [decide_eq_false hn] at H hB2
    have e0 : actR D.p i wipe g = ({ g { D.p with dead := false, named := max 0 (D.named - 1) } with acts := (g { D.p with dead := false, named := max 0 (D.named - 1) }).acts + 1 }, 0) := by
      unfold actR
      rw [if_neg hd', if_neg hw', if_neg (show ¬ D.p.named = 1 from hn)]; rfl
    rw [e0]
    refine ⟨fun w' => ∃ D' : DiskM, D'.p = { g { D.p with dead := false, named := max 0 (D.named - 1) } with acts := (g { D.p with dead := false, named := max 0 (D.named - 1) }).acts + 1 } ∧ Hp w0 w' (star (diskA p D') F), ⟨false, diskCell H rfl, true, fun h => by simp at h, fun _ => rfl, fun _ => ⟨by omega, by omega, ?_⟩, fun h => by simp at h⟩, ?_⟩
    · rw [haddr]
      refine callV (hE.1 _ _ _ _ hB2 H) ?_
      rintro _ w3 ⟨rfl, D2, hD2, H⟩
      have ea : D2.acts = D.acts := by
        have := congrArg DiskP.acts hD2
        rw [(hE.2 _).1] at this
        exact this
      refine ⟨rfl, D2.acts, diskCell H rfl, ?_⟩
      rw [show wr .i64 (D2.acts + 1) = D2.acts + 1 from wr64 (by omega) (by omega)]
      refine diskSto (D' := { D2 with acts := D2.acts + 1 }) H (by omega) rfl rfl rfl fun w4 H => ⟨_, ?_, H⟩
      show { D2.p with acts := D2.p.acts + 1 } = _
      rw [hD2]; rfl
    · rintro w3 ⟨D3, hD3, H⟩
      have hdd : D3.dead = false := by
        have h1 := congrArg DiskP.dead hD3
        exact h1.trans (hE.2 _).2.1
      exact ⟨D3.dead, diskCell H rfl, fun h => by rw [hdd] at h; simp at h, fun _ => Rt.ok ⟨rfl, D3, hD3, H⟩⟩
end
end Go.Proofs.YtflcdgkckfcofaaGreatDoor
