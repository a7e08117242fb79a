/-
  Contracts of the package flog: where, number, failed, refused, Count, Bytes. How much a disk may hold.
-/
import Derived.Test.YtflcdgkckfcofaaGreatDoorDiskB
import Derived.Test.YtflcdgkckfcofaaGreatDoorErrFlog
import Derived.Test.YtflcdgkckfcofaaGreatDoorScanP
namespace Go.Disk
structure BdS (D : DiskP) (n m : Nat) : Prop where
  now : ∀ i, i < 2 → (D.sl i).now.length + n ≤ 1099511627776
  acts : ∀ i, i < 2 → (D.sl i).acts.length + m ≤ 1048576
  cnt : 0 ≤ D.acts ∧ D.acts + (m : Int) ≤ 4611686018427387904
  nmd : -4611686018427387904 ≤ D.named ∧ D.named ≤ 9223372036854775807
structure GS (g : DiskP → DiskP) (k : Nat) : Prop where
  now : ∀ D i, i < 2 → ((g D).sl i).now.length ≤ (D.sl i).now.length + k
  acts : ∀ D i, i < 2 → ((g D).sl i).acts.length ≤ (D.sl i).acts.length + 1
  cnt : ∀ D, (g D).acts = D.acts
  nmd : ∀ D, (g D).named = D.named
theorem sl_put (D : DiskP) {i j : Nat} (hi : i < 2) (hj : j < 2) (s : SlP) : (D.put i s).sl j = if j = i then s else D.sl j := by
  rcases (show i = 0 ∨ i = 1 by omega) with rfl | rfl <;> rcases (show j = 0 ∨ j = 1 by omega) with rfl | rfl <;> rfl
theorem put_acts (D : DiskP) (i : Nat) (s : SlP) : (D.put i s).acts = D.acts ∧ (D.put i s).named = D.named ∧ (D.put i s).dead = D.dead ∧ (D.put i s).done = D.done ∧ (D.put i s).cur = D.cur := by
  unfold DiskP.put; split <;> exact ⟨rfl, rfl, rfl, rfl, rfl⟩
theorem gs_put {i : Nat} (hi : i < 2) {f : SlP → SlP} {k : Nat} (h1 : ∀ s, (f s).now.length ≤ s.now.length + k) (h2 : ∀ s, (f s).acts.length ≤ s.acts.length + 1) : GS (fun D => D.put i (f (D.sl i))) k := by
  refine ⟨fun D j hj => ?_, fun D j hj => ?_, fun D => (put_acts D i _).1, fun D => (put_acts D i _).2.1⟩
  · rw [sl_put D hi hj]; split
    · rename_i h; rw [h]; exact h1 _
    · omega
  · rw [sl_put D hi hj]; split
    · rename_i h; rw [h]; exact h2 _
    · omega
theorem gs_app {i : Nat} (hi : i < 2) (bs : List UInt8) : GS (gApp i bs) bs.length := by
  by_cases hb : bs = []
  · refine ⟨fun D j hj => ?_, fun D j hj => ?_, fun D => ?_, fun D => ?_⟩ <;> unfold gApp <;> rw [if_pos hb] <;> omega
  · have := gs_put (k := bs.length) hi (f := fun s => s.do (.app bs)) (fun s => by simp [SlP.do, DAct.again, DAct.size]) (fun s => by simp [SlP.do])
    refine ⟨fun D j hj => ?_, fun D j hj => ?_, fun D => ?_, fun D => ?_⟩ <;> unfold gApp <;> rw [if_neg hb]
    · exact this.now D j hj
    · exact this.acts D j hj
    · exact this.cnt D
    · exact this.nmd D
theorem gs_wipe {i : Nat} (hi : i < 2) : GS (gWipe i) 0 := gs_put (k := 0) hi (f := fun s => s.do .wipe) (fun s => by simp [SlP.do, DAct.again]) (fun s => by simp [SlP.do])
theorem gs_sync {i : Nat} (hi : i < 2) : GS (gSync i) 0 := gs_put (k := 0) hi (f := fun s => s.sync) (fun s => by simp [SlP.sync]) (fun s => by simp [SlP.sync])
theorem BdS.le {D : DiskP} {n m n' m' : Nat} (h : BdS D n m) (h1 : n' ≤ n) (h2 : m' ≤ m) : BdS D n' m' :=
  ⟨fun i hi => by have := h.now i hi; omega, fun i hi => by have := h.acts i hi; omega, by have := h.cnt; omega, h.nmd⟩
theorem BdS.act {D : DiskP} {n m k i : Nat} {wipe : Bool} {g : DiskP → DiskP} (h : BdS D (n + k) (m + 1)) (hg : GS g k) : BdS (actR D i wipe g).1 n m := by
  have h3 := h.cnt
  have h4 := h.nmd
  have hb : BdS D n m := h.le (by omega) (by omega)
  unfold actR
  split
  · exact hb
  split
  · exact hb
  split
  · split
    · refine ⟨fun j hj => ?_, fun j hj => ?_, ?_, ?_⟩
      · have h1 := hg.now { D with dead := true, named := max 0 (D.named - 1) } j hj
        have h2 := h.now j hj
        exact Nat.le_trans (Nat.add_le_add_right h1 n) (by show (D.sl j).now.length + k + n ≤ _; omega)
      · have h1 := hg.acts { D with dead := true, named := max 0 (D.named - 1) } j hj
        have h2 := h.acts j hj
        exact Nat.le_trans (Nat.add_le_add_right h1 m) (by show (D.sl j).acts.length + 1 + m ≤ _; omega)
      · show 0 ≤ (g _).acts + 1 ∧ (g _).acts + 1 + (m : Int) ≤ _
        rw [hg.cnt]
        dsimp only
        omega
      · show _ ≤ (g _).named ∧ (g _).named ≤ _
        rw [hg.nmd]
        dsimp only
        omega
    · exact ⟨hb.now, hb.acts, hb.cnt, by dsimp only; omega⟩
  · refine ⟨fun j hj => ?_, fun j hj => ?_, ?_, ?_⟩
    · have h1 := hg.now { D with dead := false, named := max 0 (D.named - 1) } j hj
      have h2 := h.now j hj
      exact Nat.le_trans (Nat.add_le_add_right h1 n) (by show (D.sl j).now.length + k + n ≤ _; omega)
    · have h1 := hg.acts { D with dead := false, named := max 0 (D.named - 1) } j hj
      have h2 := h.acts j hj
      exact Nat.le_trans (Nat.add_le_add_right h1 m) (by show (D.sl j).acts.length + 1 + m ≤ _; omega)
    · show 0 ≤ (g _).acts + 1 ∧ (g _).acts + 1 + (m : Int) ≤ _
      rw [hg.cnt]
      dsimp only
      omega
    · show _ ≤ (g _).named ∧ (g _).named ≤ _
      rw [hg.nmd]
      dsimp only
      omega
def appR (D : DiskP) (i : Nat) (bs : List UInt8) : DiskP × Int :=
  if (actR D i false (gApp i bs)).2 ≠ 0 then actR D i false (gApp i bs) else actR (actR D i false (gApp i bs)).1 i false (gSync i)
def anewR (D : DiskP) (i : Nat) (bs : List UInt8) : DiskP × Int :=
  if (actR D i true (gWipe i)).2 ≠ 0 then actR D i true (gWipe i) else
  if (actR (actR D i true (gWipe i)).1 i false (gApp i bs)).2 ≠ 0 then actR (actR D i true (gWipe i)).1 i false (gApp i bs) else
  if (actR (actR (actR D i true (gWipe i)).1 i false (gApp i bs)).1 i false (gSync i)).2 ≠ 0 then actR (actR (actR D i true (gWipe i)).1 i false (gApp i bs)).1 i false (gSync i) else
  actR (actR (actR (actR D i true (gWipe i)).1 i false (gApp i bs)).1 i false (gSync i)).1 i false (gSwitch i)
end Go.Disk
namespace Go.Proofs.YtflcdgkckfcofaaGreatDoor
open Go Go.Vc Go.Vc.Asn Go.Disk
theorem _root_.Go.Disk.BdS.bd {D : DiskP} {n m k : Nat} (h : BdS D n m) (hk : k ≤ n) : Bd D k :=
  ⟨fun i hi => by have := h.now i hi; omega, fun i hi => by have := h.acts i hi; omega, by have := h.cnt; omega, h.nmd⟩
def ErrV (w : World) (v : Value) (e : Int) : Prop := (e = 0 ∧ v = .nilIface) ∨ (e ≠ 0 ∧ ∃ b : Nat, v = .iface 142 (.pointer (some ⟨b, 0, none⟩)) ∧ w.cell? ⟨b, 1, none⟩ = some (.int .i64 e))
theorem ErrV.fr0 {w w' : World} {v : Value} {e : Int} (h : ErrV w v e) (f : Fr [] w w') : ErrV w' v e := by
  rcases h with h | ⟨h0, b, h1, h2⟩
  · exact .inl h
  · exact .inr ⟨h0, b, h1, f.cell h2 (by simp)⟩
theorem ErrV.nilI {w : World} {v : Value} {e : Int} (h : ErrV w v e) : NilI v (decide (e = 0)) := by
  rcases h with ⟨rfl, rfl⟩ | ⟨h0, b, rfl, _⟩
  · exact .inl ⟨rfl, rfl⟩
  · exact .inr ⟨⟨_, _, rfl⟩, by simpa using h0⟩
theorem ErrG.fr0 {w w' : World} (h : ErrG w) (f : Fr [] w w') : ErrG w' := f.cell h (by simp)
section
variable {w0 w : World} {F : Asn} {s p : Slc}
theorem where_c {t : ByteArray} {e : Int} : Calls PP F_flog_where #[.string t, .int .i64 e] w (Rt fun v w' => ErrV w' v e ∧ Fr [] w w') := by
  refine sim_flog_where _ _ _ _ ?_
  unfold vc_flog_where
  refine ⟨fun h => Rt.ok ⟨.inl ⟨by simpa using h, rfl⟩, Fr.refl _ _⟩, fun h => ?_⟩
  refine (Hp.start w).new fun b w1 H => Rt.ok ⟨.inr ⟨by simpa using h, b, rfl, ?_⟩, H.fr⟩
  have := H.cell (b := b) (i := 1) rfl
  exact this
theorem lalloc_fr (w : World) (cs : Array Value) (t : TypeId) : Fr [] w (w.alloc (.cells cs t)) := NewBlk.fr (b := w.heap.size) (cs := cs) (e := t) ⟨rfl, rfl⟩
theorem lnumber_c {v : Value} {e : Int} (hG : ErrG w) (hE : ErrV w v e) : Calls PP F_flog_number #[v] w (Rt fun x w' => x = .int .i64 e ∧ Fr [] w w') := by
  refine sim_flog_number _ _ _ ?_
  unfold vc_flog_number
  refine (Hp.start w).new fun b w1 H => ?_
  rcases hE with ⟨rfl, rfl⟩ | ⟨h0, c, rfl, hc⟩
  · refine (as_nil _ w1).mono ?_
    rintro ev w2 ⟨rfl, rfl⟩
    exact ⟨false, rfl, fun h => by simp at h, fun _ => Rt.ok ⟨rfl, H.fr⟩⟩
  · have hB := H.isBlk (b := b)
    have hcell := hB.cell (i := 0) (v := .int .i64 0) rfl
    rw [blk_add] at hcell
    have hfz := hB.frz 0
    rw [blk_add] at hfz
    refine (as_wrap c ⟨b, 0, none⟩ e _ w1 (hG.fr0 H.fr) (H.fr.cell hc (by simp)) hcell hfz).mono ?_
    rintro ev w2 ⟨rfl, hw2⟩
    have f := (((lalloc_fr w1 #[.pointer (some ⟨b, 0, none⟩)] 131).then_ (lalloc_fr _ _ _ : Fr [] _ (World.alloc _ (tobj ⟨w1.heap.size, 0, none⟩)))).then_ (lalloc_fr _ _ _ : Fr [] _ (World.alloc _ (tobj ⟨w1.heap.size, 0, none⟩)))).then_ (lalloc_fr _ #[.int .i64 e] 40)
    have H := H.fr0 f
    have hB2 := H.isBlk (b := b)
    have hset := hB2.set 0 (.int .i64 e)
    have hfs := Fr.set ((((w1.alloc (.cells #[.pointer (some ⟨b, 0, none⟩)] 131)).alloc (tobj ⟨w1.heap.size, 0, none⟩)).alloc (tobj ⟨w1.heap.size, 0, none⟩)).alloc (.cells #[.int .i64 e] 40)) ((blk b).add 0) (.int .i64 e)
    rw [blk_add] at hset hfs
    rw [← hw2] at hset hfs
    have H := H.set (b := b) hset hfs
    refine ⟨true, rfl, fun _ => ⟨e, ?_, Rt.ok ⟨rfl, H.fr⟩⟩, fun h => by simp at h⟩
    exact H.cell (b := b) (i := 0) rfl
/-! ## A log -/
structure LogM where
  d : Nat
  n : Int
  k : Int
  dl : Int
  s : Int
  slot : Nat
  q : Option Nat
  bytes : Int
  broken : Int
def LogM.cells (L : LogM) : List Value := [.pointer (some (blk L.d)), .int .i64 L.n, .int .i64 L.k, .int .i64 L.dl, .int .i64 L.s, .int .i64 (L.slot : Int), .pointer (L.q.map blk), .int .i64 L.bytes, .int .i64 L.broken]
def logA (p : Nat) (L : LogM) : Asn := bk p Ty_flog_Log L.cells.toArray
def LogM.head (L : LogM) : Value := .agg #[.int .i64 L.n, .int .i64 L.k, .int .i64 L.dl, .int .i64 L.s]
theorem logCell {p : Nat} {L : LogM} (H : Hp w0 w (star (logA p L) F)) {k : Nat} {v : Value} (h : L.cells.toArray[k]? = some v) : w.cell? ((blk p).add k) = some v := by
  have H : Hp w0 w (star (bk p Ty_flog_Log L.cells.toArray) F) := H
  exact H.cell (b := p) h
theorem logSto {p : Nat} {L L' : LogM} (H : Hp w0 w (star (logA p L) F)) {k : Nat} {v : Value} (hk : k < 9) (h : L.cells.toArray.setIfInBounds k v = L'.cells.toArray) {K : World → Prop} (hK : ∀ w', Hp w0 w' (star (logA p L') F) → K w') : Sto w ((blk p).add k) v K := by
  have H : Hp w0 w (star (bk p Ty_flog_Log L.cells.toArray) F) := H
  refine H.sto (b := p) (i := k) (cs := L.cells.toArray) hk fun w' H => hK w' ?_
  rw [h] at H
  exact H
theorem lfailed_c {p : Nat} {L : LogM} {v : Value} {e : Int} (hG : ErrG w0) (hE : ErrV w v e) (H : Hp w0 w (star (logA p L) F)) :
    Calls PP F_flog_Log_failed #[.pointer (some (blk p)), v] w (Rt fun x w' => x = .int .i64 e ∧ Hp w0 w' (star (logA p { L with broken := e }) F)) := by
  refine sim_flog_Log_failed _ _ _ _ ?_
  unfold vc_flog_Log_failed
  refine call (lnumber_c (hG.fr0 H.fr) hE) ?_
  rintro _ w1 ⟨rfl, f⟩
  exact ⟨e, rfl, blk p, rfl, logSto (L' := { L with broken := e }) (H.fr0 f) (by omega) rfl fun w2 H => ⟨e, logCell H rfl, Rt.ok ⟨rfl, H⟩⟩⟩
theorem lbytes_c {p : Nat} {L : LogM} (H : Hp w0 w (star (logA p L) F)) : Calls PP F_flog_Log_Bytes #[.pointer (some (blk p))] w (Rt fun v w' => v = .int .i64 L.bytes ∧ w' = w) := by
  refine sim_flog_Log_Bytes _ _ _ ?_
  unfold vc_flog_Log_Bytes
  exact ⟨fun h => by simp at h, fun _ => ⟨_, rfl, L.bytes, logCell H rfl, Rt.ok ⟨rfl, rfl⟩⟩⟩
theorem lcount_c {p q : Nat} {L : LogM} {last : List UInt8} {n : Int} (hq : L.q = some q) (H : Hp w0 w (star (logA p L) (star (PW q (last, n)) F))) : Calls PP F_flog_Log_Count #[.pointer (some (blk p))] w (Rt fun v w' => v = .int .i64 n ∧ Fr [] w w') := by
  refine sim_flog_Log_Count _ _ _ ?_
  unfold vc_flog_Log_Count
  refine ⟨fun h => by simp at h, fun _ => ⟨_, rfl, some (blk q), logCell H (by show some (Value.pointer (L.q.map blk)) = _; rw [hq]; rfl), ?_⟩⟩
  refine call (count_c (rwOf H.swap).1) ?_
  rintro _ w1 ⟨rfl, rfl⟩
  exact ⟨_, rfl, Rt.ok ⟨rfl, Fr.refl _ _⟩⟩
theorem refused_c {kind cnt cli : Int} {key : ByteArray} {fin has : Bool} {data : Slc} {ds : List UInt8} (hG : GT w) (hd : Byt w data ds) :
    Calls PP F_flog_refused #[.agg #[.int .i64 kind, .string key, .int .i64 cnt, .int .i64 cli, .bool fin, .bool has, data.v]] w (Rt fun v w' => v = .int .i64 (mayV kind key.size cnt cli fin has ds.length) ∧ Fr [] w w') := by
  refine sim_flog_refused _ _ _ _ _ _ _ _ _ ?_
  unfold vc_flog_refused
  refine (Hp.start w).new fun b w1 H => ?_
  have hGp := hG.pos
  refine call (newH_c (hG.fr0 H.fr)) ?_
  rintro _ w2 (⟨h, _⟩ | ⟨_, q, z, rfl, H2⟩)
  · exact absurd h (by decide)
  have H := H.beside H2
  refine ⟨_, _, _, rfl, _, H.cell (b := b) (i := 0) rfl, _, H.cell (b := b) (i := 1) rfl, _, H.cell (b := b) (i := 2) rfl, _, H.cell (b := b) (i := 3) rfl, _, H.cell (b := b) (i := 4) rfl, _, H.cell (b := b) (i := 5) rfl, _, H.cell (b := b) (i := 6) rfl, ?_⟩
  have H := H.assoc
  refine call (putH_c (n := 0) hG hGp (le4_len _) (by omega) (hd.fr0 H.fr) H) ?_
  rintro _ w3 (⟨h0, rfl, H⟩ | ⟨h0, o, rfl, H⟩)
  · exact ⟨_, _, rfl, Rt.ok ⟨rfl, H.fr⟩⟩
  · exact ⟨_, _, rfl, Rt.ok ⟨by rw [h0], H.fr⟩⟩
end
end Go.Proofs.YtflcdgkckfcofaaGreatDoor
