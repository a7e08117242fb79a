/-
  Contracts of the package flog: where, number, failed, refused, Count, Bytes. How much a disk may hold.
-/
import Derived.Test.YtflcdgkckfcofaaGreatDoorDisk
import Derived.Test.YtflcdgkckfcofaaGreatDoorErrFlog
import Derived.Test.YtflcdgkckfcofaaGreatDoorScanP
namespace Go.Disk
structure BdS (D : DiskP) (n m : Nat) : Prop where
  now : ∀ i, i < 2 → (D.sl i).now.length + n ≤ 1099511627776
  acts : ∀ i, i < 2 → (D.sl i).acts.length + m ≤ 1048576
  cnt : 0 ≤ D.acts ∧ D.acts + (m : Int) ≤ 4611686018427387904
  nmd : -4611686018427387904 ≤ D.named ∧ D.named ≤ 9223372036854775807
structure GS (g : DiskP → DiskP) (k : Nat) : Prop where
  now : ∀ D i, i < 2 → ((g D).sl i).now.length ≤ (D.sl i).now.length + k
  acts : ∀ D i, i < 2 → ((g D).sl i).acts.length ≤ (D.sl i).acts.length + 1
  cnt : ∀ D, (g D).acts = D.acts
  nmd : ∀ D, (g D).named = D.named
theorem sl_put (D : DiskP) {i j : Nat} (hi : i < 2) (hj : j < 2) (s : SlP) : (D.put i s).sl j = if j = i then s else D.sl j := by
  rcases (show i = 0 ∨ i = 1 by omega) with rfl | rfl <;> rcases (show j = 0 ∨ j = 1 by omega) with rfl | rfl <;> rfl
theorem put_acts (D : DiskP) (i : Nat) (s : SlP) : (D.put i s).acts = D.acts ∧ (D.put i s).named = D.named ∧ (D.put i s).dead = D.dead ∧ (D.put i s).done = D.done ∧ (D.put i s).cur = D.cur := by
  unfold DiskP.put; split <;> exact ⟨rfl, rfl, rfl, rfl, rfl⟩
theorem gs_put {i : Nat} (hi : i < 2) {f : SlP → SlP} {k : Nat} (h1 : ∀ s, (f s).now.length ≤ s.now.length + k) (h2 : ∀ s, (f s).acts.length ≤ s.acts.length + 1) : GS (fun D => D.put i (f (D.sl i))) k := by
  refine ⟨fun D j hj => ?_, fun D j hj => ?_, fun D => (put_acts D i _).1, fun D => (put_acts D i _).2.1⟩
  · rw [sl_put D hi hj]; split
    · rename_i h; rw [h]; exact h1 _
    · omega
  · rw [sl_put D hi hj]; split
    · rename_i h; rw [h]; exact h2 _
    · omega
theorem gs_app {i : Nat} (hi : i < 2) (bs : List UInt8) : GS (gApp i bs) bs.length := by
  by_cases hb : bs = []
  · refine ⟨fun D j hj => ?_, fun D j hj => ?_, fun D => ?_, fun D => ?_⟩ <;> unfold gApp <;> rw [if_pos hb] <;> omega
  · have := gs_put (k := bs.length) hi (f := fun s => s.do (.app bs)) (fun s => by simp [SlP.do, DAct.again, DAct.size]) (fun s => by simp [SlP.do])
    refine ⟨fun D j hj => ?_, fun D j hj => ?_, fun D => ?_, fun D => ?_⟩ <;> unfold gApp <;> rw [if_neg hb]
    · exact this.now D j hj
    · exact this.acts D j hj
    · exact this.cnt D
    · exact this.nmd D
theorem gs_wipe {i : Nat} (hi : i < 2) : GS (gWipe i) 0 := gs_put (k := 0) hi (f := fun s => s.do .wipe) (fun s => by simp [SlP.do, DAct.again]) (fun s => by simp [SlP.do])
theorem gs_sync {i : Nat} (hi : i < 2) : GS (gSync i) 0 := gs_put (k := 0) hi (f := fun s => s.sync) (fun s => by simp [SlP.sync]) (fun s => by simp [SlP.sync])
theorem BdS.le {D : DiskP} {n m n' m' : Nat} (h : BdS D n m) (h1 : n' ≤ n) (h2 : m' ≤ m) : BdS D n' m' :=
  ⟨fun i hi => by have := h.now i hi; omega, fun i hi => by have := h.acts i hi; omega, by have := h.cnt; omega, h.nmd⟩
theorem BdS.act {D : DiskP} {n m k i : Nat} {wipe : Bool} {g : DiskP → DiskP} (h : BdS D (n + k) (m + 1)) (hg : GS g k) : BdS (actR D i wipe g).1 n m := by
  have h3 := h.cnt
  have h4 := h.nmd
  have hb : BdS D n m := h.le (by omega) (by omega)
  unfold actR
  split
  · exact hb
  split
  · exact hb
  split
  · split
    · refine ⟨fun j hj => ?_, fun j hj => ?_, ?_, ?_⟩
      · have h1 := hg.now { D with dead := true, named := max 0 (D.named - 1) } j hj
        have h2 := h.now j hj
        exact Nat.le_trans (Nat.add_le_add_right h1 n) (by show (D.sl j).now.length + k + n ≤ _; omega)
      · have h1 := hg.acts { D with dead := true, named := max 0 (D.named - 1) } j hj
        have h2 := h.acts j hj
        exact Nat.le_trans (Nat.add_le_add_right h1 m) (by show (D.sl j).acts.length + 1 + m ≤ _; omega)
      · show 0 ≤ (g _).acts + 1 ∧ (g _).acts + 1 + (m : Int) ≤ _
        rw [hg.cnt]
        dsimp only
        omega
      · show _ ≤ (g _).named ∧ (g _).named ≤ _
        rw [hg.nmd]
        dsimp only
        omega
    · exact ⟨hb.now, hb.acts, hb.cnt, by dsimp only; omega⟩
  · refine ⟨fun j hj => ?_, fun j hj => ?_, ?_, ?_⟩
    · have h1 := hg.now { D with dead := false, named := max 0 (D.named - 1) } j hj
      have h2 := h.now j hj
      exact Nat.le_trans (Nat.add_le_add_right h1 n) (by show (D.sl j).now.length + k + n ≤ _; omega)
    · have h1 := hg.acts { D with dead := false, named := max 0 (D.named - 1) } j hj
      have h2 := h.acts j hj
      exact Nat.le_trans (Nat.add_le_add_right h1 m) (by show (D.sl j).acts.length + 1 + m ≤ _; omega)
    · show 0 ≤ (g _).acts + 1 ∧ (g _).acts + 1 + (m : Int) ≤ _
      rw [hg.cnt]
      dsimp only
      omega
    · show _ ≤ (g _).named ∧ (g _).named ≤ _
      rw [hg.nmd]
      dsimp only
      omega
def appR (D : DiskP) (i : Nat) (bs : List UInt8) : DiskP × Int :=
  if (actR D i false (gApp i bs)).2 ≠ 0 then actR D i false (gApp i bs) else actR (actR D i false (gApp i bs)).1 i false (gSync i)
def anewR (D : DiskP) (i : Nat) (bs : List UInt8) : DiskP × Int :=
  if (actR D i true (gWipe i)).2 ≠ 0 then actR D i true (gWipe i) else
  if (actR (actR D i true (gWipe i)).1 i false (gApp i bs)).2 ≠ 0 then actR (actR D i true (gWipe i)).1 i false (gApp i bs) else
  if (actR (actR (actR D i true (gWipe i)).1 i false (gApp i bs)).1 i false (gSync i)).2 ≠ 0 then actR (actR (actR D i true (gWipe i)).1 i false (gApp i bs)).1 i false (gSync i) else
  actR (actR (actR (actR D i true (gWipe i)).1 i false (gApp i bs)).1 i false (gSync i)).1 i false (gSwitch i)
end Go.Disk
namespace Go.Proofs.YtflcdgkckfcofaaGreatDoor
open Go Go.Vc Go.Vc.Asn Go.Disk
theorem _root_.Go.Disk.BdS.bd {D : DiskP} {n m k : Nat} (h : BdS D n m) (hk : k ≤ n) : Bd D k :=
  ⟨fun i hi => by have := h.now i hi; omega, fun i hi => by have := h.acts i hi; omega, by have := h.cnt; omega, h.nmd⟩
def ErrV (w : World) (v : Value) (e : Int) : Prop := (e = 0 ∧ v = .nilIface) ∨ (e ≠ 0 ∧ ∃ b : Nat, v = .iface 142 (.pointer (some ⟨b, 0, none⟩)) ∧ w.cell? ⟨b, 1, none⟩ = some (.int .i64 e))
theorem ErrV.fr0 {w w' : World} {v : Value} {e : Int} (h : ErrV w v e) (f : Fr [] w w') : ErrV w' v e := by
  rcases h with h | ⟨h0, b, h1, h2⟩
  · exact .inl h
  · exact .inr ⟨h0, b, h1, f.cell h2 (by simp)⟩
theorem ErrV.nilI {w : World} {v : Value} {e : Int} (h : ErrV w v e) : NilI v (decide (e = 0)) := by
  rcases h with ⟨rfl, rfl⟩ | ⟨h0, b, rfl, _⟩
  · exact .inl ⟨rfl, rfl⟩
  · exact .inr ⟨⟨_, _, rfl⟩, by simpa using h0⟩
theorem ErrG.fr0 {w w' : World} (h : ErrG w) (f : Fr [] w w') : ErrG w' := f.cell h (by simp)
section
variable {w0 w : World} {F : Asn} {s p : Slc}
theorem where_c {t : ByteArray} {e : Int} : Calls PP F_flog_where #[.string t, .int .i64 e] w (Rt fun v w' => ErrV w' v e ∧ Fr [] w w') := by
  refine sim_flog_where _ _ _ _ ?_
  unfold vc_flog_where
  refine ⟨fun h => Rt.ok ⟨.inl ⟨by simpa using h, rfl⟩, Fr.refl _ _⟩, fun h => ?_⟩
  refine (Hp.start w).new fun b w1 H => Rt.ok ⟨.inr ⟨by simpa using h, b, rfl, ?_⟩, H.fr⟩
  have := H.cell (b := b) (i := 1) rfl
  exact this
theorem lalloc_fr (w : World) (cs : Array Value) (t : TypeId) : Fr [] w (w.alloc (.cells cs t)) := NewBlk.fr (b := w.heap.size) (cs := cs) (e := t) ⟨rfl, rfl⟩
theorem lnumber_c {v : Value} {e : Int} (hG : ErrG w) (hE : ErrV w v e) : Calls PP F_flog_number #[v] w (Rt fun x w' => x = .int .i64 e ∧ Fr [] w w') := by
  refine sim_flog_number _ _ _ ?_
  unfold vc_flog_number
  refine (Hp.start w).new fun b w1 H => ?_
  rcases hE with ⟨rfl, rfl⟩ | ⟨h0, c, rfl, hc⟩
  · refine (as_nil _ w1).mono ?_
    rintro ev w2 ⟨rfl, rfl⟩
    exact ⟨false, rfl, fun h => by simp at h, fun _ => Rt.ok ⟨rfl, H.fr⟩⟩
  · have hB := H.isBlk (b := b)
    have hcell := hB.cell (i := 0) (v := .int .i64 0) rfl
    rw [blk_add] at hcell
    have hfz := hB.frz 0
    rw [blk_add] at hfz
    refine (as_wrap c ⟨b, 0, none⟩ e _ w1 (hG.fr0 H.fr) (H.fr.cell hc (by simp)) hcell hfz).mono ?_
    rintro ev w2 ⟨rfl, hw2⟩
    have f := (((lalloc_fr w1 #[.pointer (some ⟨b, 0, none⟩)] 131).then_ (lalloc_fr _ _ _ : Fr [] _ (World.alloc _ (tobj ⟨w1.heap.size, 0, none⟩)))).then_ (lalloc_fr _ _ _ : Fr [] _ (World.alloc _ (tobj ⟨w1.heap.size, 0, none⟩)))).then_ (lalloc_fr _ #[.int .i64 e] 40)
    have H := H.fr0 f
    have hB2 := H.isBlk (b := b)
    have hset := hB2.set 0 (.int .i64 e)
    have hfs := Fr.set ((((w1.alloc (.cells #[.pointer (some ⟨b, 0, none⟩)] 131)).alloc (tobj ⟨w1.heap.size, 0, none⟩)).alloc (tobj ⟨w1.heap.size, 0, none⟩)).alloc (.cells #[.int .i64 e] 40)) ((blk b).add 0) (.int .i64 e)
    rw [blk_add] at hset hfs
    rw [← hw2] at hset hfs
    have H := H.set (b := b) hset hfs
    refine ⟨true, rfl, fun _ => ⟨e, ?_, Rt.ok ⟨rfl, H.fr⟩⟩, fun h => by simp at h⟩
    exact H.cell (b := b) (i := 0) rfl
/-! ## A log -/
structure LogM where
  d : Nat
  n : Int
  k : Int
  dl : Int
  s : Int
  slot : Nat
  q : Option Nat
  bytes : Int
  broken : Int
def LogM.cells (L : LogM) : List Value := [.pointer (some (blk L.d)), .int .i64 L.n, .int .i64 L.k, .int .i64 L.dl, .int .i64 L.s, .int .i64 (L.slot : Int), .pointer (L.q.map blk), .int .i64 L.bytes, .int .i64 L.broken]
def logA (p : Nat) (L : LogM) : Asn := bk p Ty_flog_Log L.cells.toArray
def LogM.head (L : LogM) : Value := .agg #[.int .i64 L.n, .int .i64 L.k, .int .i64 L.dl, .int .i64 L.s]
theorem logCell {p : Nat} {L : LogM} (H : Hp w0 w (star (logA p L) F)) {k : Nat} {v : Value} (h : L.cells.toArray[k]? = some v) : w.cell? ((blk p).add k) = some v := by
  have H : Hp w0 w (star (bk p Ty_flog_Log L.cells.toArray) F) := H
  exact H.cell (b := p) h
theorem logSto {p : Nat} {L L' : LogM} (H : Hp w0 w (star (logA p L) F)) {k : Nat} {v : Value} (hk : k < 9) (h : L.cells.toArray.setIfInBounds k v = L'.cells.toArray) {K : World → Prop} (hK : ∀ w', Hp w0 w' (star (logA p L') F) → K w') : Sto w ((blk p).add k) v K := by
  have H : Hp w0 w (star (bk p Ty_flog_Log L.cells.toArray) F) := H
  refine H.sto (b := p) (i := k) (cs := L.cells.toArray) hk fun w' H => hK w' ?_
  rw [h] at H
  exact H
theorem lfailed_c {p : Nat} {L : LogM} {v : Value} {e : Int} (hG : ErrG w0) (hE : ErrV w v e) (H : Hp w0 w (star (logA p L) F)) :
    Calls PP F_flog_Log_failed #[.pointer (some (blk p)), v] w (Rt fun x w' => x = .int .i64 e ∧ Hp w0 w' (star (logA p { L with broken := e }) F)) := by
  refine sim_flog_Log_failed _ _ _ _ ?_
  unfold vc_flog_Log_failed
  refine call (lnumber_c (hG.fr0 H.fr) hE) ?_
  rintro _ w1 ⟨rfl, f⟩
  exact ⟨e, rfl, blk p, rfl, logSto (L' := { L with broken := e }) (H.fr0 f) (by omega) rfl fun w2 H => ⟨e, logCell H rfl, Rt.ok ⟨rfl, H⟩⟩⟩
theorem lcount_c {p q : Nat} {L : LogM} {last : List UInt8} {n : Int} (hq : L.q = some q) (H : Hp w0 w (star (logA p L) (star (PW q (last, n)) F))) : Calls PP F_flog_Log_Count #[.pointer (some (blk p))] w (Rt fun v w' => v = .int .i64 n ∧ Fr [] w w') := by
  refine sim_flog_Log_Count _ _ _ ?_
  unfold vc_flog_Log_Count
  refine ⟨fun h => by simp at h, fun _ => ⟨_, rfl, some (blk q), logCell H (by show some (Value.pointer (L.q.map blk)) = _; rw [hq]; rfl), ?_⟩⟩
  refine call (count_c (rwOf H.swap).1) ?_
  rintro _ w1 ⟨rfl, rfl⟩
  exact ⟨_, rfl, Rt.ok ⟨rfl, Fr.refl _ _⟩⟩
theorem refused_c {kind cnt cli : Int} {key : ByteArray} {fin has : Bool} {data : Slc} {ds : List UInt8} (hG : GT w) (hd : Byt w data ds) :
    Calls PP F_flog_refused #[.agg #[.int .i64 kind, .string key, .int .i64 cnt, .int .i64 cli, .bool fin, .bool has, data.v]] w (Rt fun v w' => v = .int .i64 (mayV kind key.size cnt cli fin has ds.length) ∧ Fr [] w w') := by
  refine sim_flog_refused _ _ _ _ _ _ _ _ _ ?_
  unfold vc_flog_refused
  refine (Hp.start w).new fun b w1 H => ?_
  have hGp := hG.pos
  refine call (newH_c (hG.fr0 H.fr)) ?_
  rintro _ w2 (⟨h, _⟩ | ⟨_, q, z, rfl, H2⟩)
  · exact absurd h (by decide)
  have H := H.beside H2
  refine ⟨_, _, _, rfl, _, H.cell (b := b) (i := 0) rfl, _, H.cell (b := b) (i := 1) rfl, _, H.cell (b := b) (i := 2) rfl, _, H.cell (b := b) (i := 3) rfl, _, H.cell (b := b) (i := 4) rfl, _, H.cell (b := b) (i := 5) rfl, _, H.cell (b := b) (i := 6) rfl, ?_⟩
  have H := H.assoc
  refine call (putH_c (n := 0) hG hGp (le4_len _) (by omega) (hd.fr0 H.fr) H) ?_
  rintro _ w3 (⟨h0, rfl, H⟩ | ⟨h0, o, rfl, H⟩)
  · exact ⟨_, _, rfl, Rt.ok ⟨rfl, H.fr⟩⟩
  · exact ⟨_, _, rfl, Rt.ok ⟨by rw [h0], H.fr⟩⟩
end
end Go.Proofs.YtflcdgkckfcofaaGreatDoor

/-
  Plain laws of a log's bytes; the contract of flog.made.
-/
namespace Go.Proofs.YtflcdgkckfcofaaGreatDoor
open Go Go.Vc Go.Vc.Asn Go.Disk
theorem logB_snoc : ∀ (last : List UInt8) (us : List Up) (u : Up), logB last (us ++ [u]) = logB last us ++ (recPre u.body ++ recSum (logLast last us) u.body)
  | last, [], u => by simp [logB, logLast]
  | last, x :: r, u => by simp [logB, logLast, logB_snoc _ r u]
theorem logLast_snoc : ∀ (last : List UInt8) (us : List Up) (u : Up), logLast last (us ++ [u]) = recSum (logLast last us) u.body
  | last, [], u => by simp [logLast]
  | last, x :: r, u => by simp [logLast, logLast_snoc _ r u]
theorem logLast_len : ∀ (last : List UInt8) (us : List Up), last.length = 4 → (logLast last us).length = 4
  | last, [], h => h
  | last, x :: r, _ => by rw [logLast]; exact logLast_len _ r (recSum_len _ _)
theorem recPre_len {u : Up} (h : u.may = 0) : (recPre u.body).length ≤ 65800 ∧ 2 ≤ (recPre u.body).length := by
  have hb := body_len h
  have h9 := uv_len9 (n := u.body.length) (by omega)
  have h0 := uv_len_pos u.body.length
  simp [recPre]
  omega
theorem logB_len : ∀ (last : List UInt8) (us : List Up), (∀ u ∈ us, u.may = 0) → (logB last us).length ≤ us.length * 66000
  | last, [], h => by simp [logB]
  | last, x :: r, h => by
    have h1 := recPre_len (h x (by simp))
    have h2 := logB_len (recSum last x.body) r fun u hu => h u (by simp [hu])
    simp [logB, recSum_len]
    omega
theorem logB_append : ∀ (last : List UInt8) (a b : List Up), logB last (a ++ b) = logB last a ++ logB (logLast last a) b
  | last, [], b => by simp [logB, logLast]
  | last, x :: r, b => by simp [logB, logLast, logB_append _ r b]
def Upo (us : List Up) : Prop := ∀ u ∈ us, u.may = 0 ∧ u.ownF = u
theorem Upo.take {us : List Up} (h : Upo us) (i : Nat) : Upo (us.take i) := fun u hu => h u (List.mem_of_mem_take hu)
theorem Upo.map {us : List Up} (h : Upo us) : us.map Up.ownF = us := by
  conv => rhs; rw [← List.map_id us]
  exact List.map_congr_left fun u hu => (h u hu).2
theorem logLast_append : ∀ (last : List UInt8) (a b : List Up), logLast last (a ++ b) = logLast (logLast last a) b
  | last, [], b => by simp [logLast]
  | last, x :: r, b => by simp [logLast, logLast_append _ r b]
def hLast (n k d s : Int) : List UInt8 := le4 (crc (headPre n.toNat k.toNat d.toNat s.toNat))
def hBs (n k d s : Int) : List UInt8 := headBs n.toNat k.toNat d.toNat s.toNat
theorem hLast_len (n k d s : Int) : (hLast n k d s).length = 4 := le4_len _
theorem hBs_len {n k d s : Int} (h : mayHeadV n k d s = 0) : (hBs n k d s).length ≤ 41 := by
  obtain ⟨h1, h2, h3, h4, h5, h6, h7⟩ := mayHead_ok h
  have := headPre_len (n := n.toNat) (k := k.toNat) (d := d.toNat) (s := s.toNat) (by omega) (by omega) (by omega) (by omega)
  simp [hBs, headBs, le4_len]
  omega
def badU : List Upd → Int
  | [] => 0
  | u :: r => if (Vc_up u).may ≠ 0 then (Vc_up u).may else badU r
theorem badU_take : ∀ (l : List Upd) (j : Nat) (h : j < l.length), (∀ u ∈ l.take j, (Vc_up u).may = 0) → (Vc_up l[j]).may ≠ 0 → badU l = (Vc_up l[j]).may
  | u :: r, 0, _, _, h2 => by simp only [badU, List.getElem_cons_zero] at h2 ⊢; rw [if_pos h2]
  | u :: r, j + 1, h, h1, h2 => by
    have e := h1 u (by simp)
    simp only [badU, List.getElem_cons_succ] at h2 ⊢
    rw [if_neg (by simp [e])]
    exact badU_take r j (by simpa using h) (fun v hv => h1 v (by simp [hv])) h2
theorem badU_ok : ∀ (l : List Upd), (∀ u ∈ l, (Vc_up u).may = 0) → badU l = 0
  | [], _ => rfl
  | u :: r, h => by rw [badU, if_neg (by simp [h u (by simp)])]; exact badU_ok r fun v hv => h v (by simp [hv])
theorem badU_zero : ∀ (l : List Upd), badU l = 0 → ∀ u ∈ l, (Vc_up u).may = 0
  | u :: r, h, v, hv => by
    rw [badU] at h
    by_cases h0 : (Vc_up u).may ≠ 0
    · rw [if_pos h0] at h; exact absurd h h0
    · rw [if_neg h0] at h
      rcases List.mem_cons.1 hv with rfl | hv
      · simpa using h0
      · exact badU_zero r h v hv
def UpsA (w0 : World) (A : Asn) (us : Slc) (l : List Upd) : Prop := ∀ w S, Fr [] w0 w → A.p w S → Ups w us l
section
variable {w0 w : World} {A F B : Asn} {us : Slc} {l : List Upd}
theorem UpsA.at_ (hU : UpsA w0 A us l) [h : Take A B F] (H : Hp w0 w B) : Ups w us l := by
  obtain ⟨f, S, _, S1, S2, _, _, ha, _⟩ := H.take A
  exact hU w S1 f ha
theorem rdU {j : Nat} (hj : j < l.length) (hU : Ups w us l) {Q : Addr → Int → ByteArray → Int → Int → Bool → Bool → Slc → Prop}
    (h : ∀ a, us.a = some a → Q a l[j].kind l[j].key l[j].cnt l[j].cli l[j].fin l[j].has l[j].data) :
    ∃ a37 : Addr, us.a = some a37 ∧ (0 : Int) ≤ (j : Int) ∧ ((j : Int) : Int) < us.l ∧ ∃ K41 : Int, w.cell? ((a37.add (Int.toNat (j : Int) * 7)).add 0) = some (.int .i64 K41) ∧ ∃ K43 : ByteArray, w.cell? ((a37.add (Int.toNat (j : Int) * 7)).add 1) = some (.string K43) ∧ ∃ C45 : Int, w.cell? ((a37.add (Int.toNat (j : Int) * 7)).add 2) = some (.int .i64 C45) ∧ ∃ C47 : Int, w.cell? ((a37.add (Int.toNat (j : Int) * 7)).add 3) = some (.int .i64 C47) ∧ ∃ F49 : Bool, w.cell? ((a37.add (Int.toNat (j : Int) * 7)).add 4) = some (.bool F49) ∧ ∃ H51 : Bool, w.cell? ((a37.add (Int.toNat (j : Int) * 7)).add 5) = some (.bool H51) ∧ ∃ D53 : Slc, w.cell? ((a37.add (Int.toNat (j : Int) * 7)).add 6) = some (Slc.v D53) ∧ Q a37 K41 K43 C45 C47 F49 H51 D53 := by
  obtain ⟨p, hp, hc⟩ := hU.get hj
  exact ⟨p, hp, by omega, by rw [hU.len]; omega, _, hc 0 _ rfl, _, hc 1 _ rfl, _, hc 2 _ rfl, _, hc 3 _ rfl, _, hc 4 _ rfl, _, hc 5 _ rfl, _, hc 6 _ rfl, h p hp⟩
theorem putU {u : Upd} (H : Hp w0 w A) {cs : Array Value} (hcs : cs.size = 7) {Q : Nat → World → Int → ByteArray → Int → Int → Bool → Bool → Slc → Prop}
    (h : ∀ b w', Hp w0 w' (star (bk b Ty_api_Update u.cells.toArray) A) → Q b w' u.kind u.key u.cnt u.cli u.fin u.has u.data) :
    New w cs Ty_api_Update fun b55 w56 => StoN (blk b55) 0 u.cells w56 fun w58 => ∃ K60 : Int, w58.cell? ((blk b55).add 0) = some (.int .i64 K60) ∧ ∃ K62 : ByteArray, w58.cell? ((blk b55).add 1) = some (.string K62) ∧ ∃ C64 : Int, w58.cell? ((blk b55).add 2) = some (.int .i64 C64) ∧ ∃ C66 : Int, w58.cell? ((blk b55).add 3) = some (.int .i64 C66) ∧ ∃ F68 : Bool, w58.cell? ((blk b55).add 4) = some (.bool F68) ∧ ∃ H70 : Bool, w58.cell? ((blk b55).add 5) = some (.bool H70) ∧ ∃ D72 : Slc, w58.cell? ((blk b55).add 6) = some (Slc.v D72) ∧ Q b55 w58 K60 K62 C64 C66 F68 H70 D72 := by
  refine H.new fun b w1 H => H.stoAll (b := b) (by rw [hcs]; rfl) fun w2 H => ?_
  exact ⟨_, H.cell (b := b) (i := 0) rfl, _, H.cell (b := b) (i := 1) rfl, _, H.cell (b := b) (i := 2) rfl, _, H.cell (b := b) (i := 3) rfl, _, H.cell (b := b) (i := 4) rfl, _, H.cell (b := b) (i := 5) rfl, _, H.cell (b := b) (i := 6) rfl, h b w2 H⟩
theorem wrj {j : Nat} (h : j < 9223372036854775807) : wr .i64 ((j : Int) + 1) = ((j + 1 : Nat) : Int) := by rw [wr64 (by omega) (by omega)]; rfl
theorem take_snoc {α : Type} {l : List α} {j : Nat} (h : j < l.length) : l.take (j + 1) = l.take j ++ [l[j]] := List.take_succ_eq_append_getElem h
theorem made_c {n k d s : Int} (hG : GT w0) (hU : UpsA w0 A us l) (hl : l.length ≤ 1048576) (H : Hp w0 w (star A F)) :
    Calls PP F_flog_made #[.agg #[.int .i64 n, .int .i64 k, .int .i64 d, .int .i64 s], us.v] w (Rt fun v w' =>
      (∃ e ev, e ≠ 0 ∧ e = (if mayHeadV n k d s ≠ 0 then mayHeadV n k d s else badU l) ∧ v = .tuple #[Slc.nil.v, .pointer none, ev] ∧ ErrV w' ev e ∧ Hp w0 w' (star A F)) ∨
      (mayHeadV n k d s = 0 ∧ badU l = 0 ∧ ∃ q z, v = .tuple #[Slc.v z, .pointer (some (blk q)), .nilIface] ∧
        Hp w0 w' (star (own Ty_uint8 1 z ((hBs n k d s ++ logB (hLast n k d s) (l.map Vc_up)).map u8v)) (star (PW q (logLast (hLast n k d s) (l.map Vc_up), (l.length : Int))) (star A F))))) := by
  refine sim_flog_made _ _ _ _ _ _ _ ?_
  unfold vc_flog_made
  have hGp := hG.pos
  refine H.new fun b0 w1 H => ?_
  have H := H.drop
  refine call (newH_c (hG.fr0 H.fr)) ?_
  rintro _ w2 (⟨h, rfl, f⟩ | ⟨hm, q, z, rfl, H2⟩)
  · refine ⟨none, _, _, rfl, fun _ => call where_c ?_, fun h' => absurd (by simpa using h') h⟩
    rintro ev w3 ⟨hE, f3⟩
    exact ⟨ev, rfl, Rt.ok (.inl ⟨_, ev, h, by rw [if_pos h], rfl, hE, (H.fr0 f).fr0 f3⟩)⟩
  have H := H.beside (H2.ent (Ent.star (Ent.refl _) Asn.emp_r'))
  refine ⟨_, _, _, rfl, fun h => absurd h (by decide), fun _ => ?_⟩
  have hbl := hBs_len hm
  refine ⟨fun d' i w' => ∃ j : Nat, i = (j : Int) ∧ j ≤ l.length ∧ (∀ u ∈ l.take j, (Vc_up u).may = 0) ∧ Hp w0 w' (star (own Ty_uint8 1 d' ((hBs n k d s ++ logB (hLast n k d s) ((l.take j).map Vc_up)).map u8v)) (star (PW q (logLast (hLast n k d s) ((l.take j).map Vc_up), (j : Int))) (star A F))), fun _ i _ => l.length - i.toNat, ⟨0, rfl, Nat.zero_le _, fun u hu => by simp at hu, ?_⟩, ?_⟩
  · have H := H.assoc
    have H := H.swap
    simpa [logB, logLast, hBs, hLast] using H
  rintro d' _ w3 ⟨j, rfl, hj, hok, H⟩
  have hUw := hU.at_ (A := A) H
  refine ⟨fun h => ?_, fun h => ?_⟩
  · have hlt : j < l.length := by rw [hUw.len] at h; simp at h; omega
    refine rdU hlt hUw fun a ha => ?_
    refine putU (u := l[j]) H rfl fun b w4 H => ?_
    have hd := (hU.at_ (A := A) H).dat _ (List.getElem_mem hlt)
    have H := H.take (PW q (logLast (hLast n k d s) ((l.take j).map Vc_up), (j : Int)))
    have hd2 := hd.1
    refine call (putH_c hG (Nat.lt_of_lt_of_le hGp (Nat.le_refl _)) (logLast_len _ _ (hLast_len _ _ _ _)) (by omega) hd2 H) ?_
    rintro _ w5 (⟨h0, rfl, H⟩ | ⟨h0, y, rfl, H⟩)
    · refine ⟨_, _, rfl, fun _ => call where_c ?_, fun h' => absurd (by simpa using h') h0⟩
      rintro ev w6 ⟨hE, f6⟩
      refine ⟨ev, rfl, Rt.ok (.inl ⟨_, ev, h0, ?_, rfl, hE, ?_⟩)⟩
      · rw [if_neg (by simpa using hm), badU_take l j hlt hok h0]; rfl
      · exact (H.fr0 f6).drop.drop.drop
    · refine ⟨_, _, rfl, fun h' => absurd h' (by decide), fun _ => ?_⟩
      have hmay : (Vc_up l[j]).may = 0 := h0
      have hok2 : ∀ u ∈ l.take (j + 1), (Vc_up u).may = 0 := fun u hu => by
        rw [take_snoc hlt] at hu
        rcases List.mem_append.1 hu with hu | hu
        · exact hok u hu
        · rw [List.mem_singleton.1 hu]; exact hmay
      have hokU : ∀ u ∈ (l.take j).map Vc_up, u.may = 0 := fun u hu => by obtain ⟨v, hv, rfl⟩ := List.mem_map.1 hu; exact hok v hv
      have hlen := logB_len (hLast n k d s) ((l.take j).map Vc_up) hokU
      rw [List.length_map, List.length_take_of_le hj] at hlen
      have hrl := recPre_len hmay
      have H := H.assoc
      have hy := H.cel (s := y)
      have hyl := hy.lenM
      have hdl := (H.cel (s := d')).lenM
      rw [List.length_append] at hyl hdl
      have h4 : (recSum (logLast (hLast n k d s) ((l.take j).map Vc_up)) (bodyBs l[j].kind.toNat l[j].key l[j].cnt.toNat l[j].cli.toNat l[j].fin l[j].has l[j].ds)).length = 4 := le4_len _
      have h5 : (recPre (bodyBs l[j].kind.toNat l[j].key l[j].cnt.toNat l[j].cli.toNat l[j].fin l[j].has l[j].ds)).length ≤ 65800 := hrl.1
      have hjm : j * 66000 ≤ 1048576 * 66000 := Nat.mul_le_mul (by omega) (Nat.le_refl _)
      refine Hp.app slT_sl_uint8 (H.own d') hy (one_u8 _) (by unfold maxLen; omega) (by omega) fun d2 w6 H _ => ⟨⟨j + 1, wrj (j := j) (by omega), hlt, hok2, ?_⟩, ?_⟩
      · have H := (H.blk b).drop
        have H := (H.own y).drop
        have H := H.own d2
        have e1 : (l.take (j + 1)).map Vc_up = (l.take j).map Vc_up ++ [Vc_up l[j]] := by rw [take_snoc hlt, List.map_append]; rfl
        have e2 : ∀ X Y Z : List UInt8, (X ++ (Y ++ Z)).map u8v = (X ++ Y).map u8v ++ Z.map u8v := fun X Y Z => by simp
        rw [e1, logB_snoc, logLast_snoc, e2]
        exact H
      · rw [wrj (j := j) (by omega)]; dsimp only; omega
  · have hje : j = l.length := by rw [hUw.len] at h; simp at h; omega
    subst hje
    rw [List.take_length] at H hok
    exact Rt.ok (.inr ⟨hm, badU_ok l hok, q, d', rfl, H⟩)
end
end Go.Proofs.YtflcdgkckfcofaaGreatDoor

/-
  The contract of flog.Log.Append.
-/
namespace Go.Proofs.YtflcdgkckfcofaaGreatDoor
open Go Go.Vc Go.Vc.Asn Go.Disk
theorem putS_c {w0 : World} {F : Asn} {p : Nat} {t : Slc} {last : List UInt8} {n : Nat} {kind cnt cli : Int} {key : ByteArray} {fin has : Bool} {data : Slc} {ds : List UInt8} {w : World} (hG : GT w0) (hg : G_sum_steps < w0.heap.size) (hl : last.length = 4) (hn : n < 9223372036854775807) (hd : Byt w data ds)
    (hO : Own Ty_uint8 1 w t (last.map u8v)) (H : Hp w0 w (star (bk p Ty_record_Writer #[t.v, .int .i64 (n : Int)]) F)) :
    Calls PP F_record_Writer_Put #[.pointer (some (blk p)), .agg #[.int .i64 kind, .string key, .int .i64 cnt, .int .i64 cli, .bool fin, .bool has, data.v]] w (Rt fun v w' =>
      (mayV kind key.size cnt cli fin has ds.length ≠ 0 ∧ v = .tuple #[Slc.nil.v, .int .i64 (mayV kind key.size cnt cli fin has ds.length)] ∧ Hp w0 w' (star (bk p Ty_record_Writer #[t.v, .int .i64 (n : Int)]) F)) ∨
      (mayV kind key.size cnt cli fin has ds.length = 0 ∧ ∃ s, v = .tuple #[Slc.v s, .int .i64 0] ∧ Hp w0 w' (star (star (own Ty_uint8 1 s ((recPre (bodyBs kind.toNat key cnt.toNat cli.toNat fin has ds) ++ recSum last (bodyBs kind.toNat key cnt.toNat cli.toNat fin has ds)).map u8v)) (PW p (recSum last (bodyBs kind.toNat key cnt.toNat cli.toNat fin has ds), ((n + 1 : Nat) : Int)))) F))) := by
  have hR : RW w p last (n : Int) := ⟨t, H.isBlk, hO⟩
  have hp : w0.heap.size ≤ p := by
    obtain ⟨fr, S, h1, S1, S2, g1, g2, ⟨h5, h6⟩, hb⟩ := H
    exact h1 p ((g1 p).2 (.inl ((h5 p).2 rfl)))
  refine Rt.mono (put2_c (hG.fr0 H.fr) (by omega) hR hl hn hd) ?_
  rintro v w' (⟨h0, rfl, f⟩ | ⟨h0, s, body, rfl, rfl, hrow, f, x, hB, hO, hx, hap⟩)
  · exact .inl ⟨h0, rfl, H.fr0 f⟩
  · refine .inr ⟨h0, s, rfl, H.step fun S hS hP => ?_⟩
    obtain ⟨h5, h6⟩ := hP
    refine ⟨[p], fun k => k ∈ s.blks ∨ (k = p ∨ k ∈ x.blks), fun k hk => by simp at hk; rw [hk]; exact (h5 p).2 rfl, f, star_p ⟨fun _ => Iff.rfl, hrow.own⟩ ⟨x, star_p ⟨fun _ => Iff.rfl, hB⟩ ⟨fun _ => Iff.rfl, hO⟩ fun k hk hk' => ?_⟩ fun k hk hk' => ?_, fun k hk => ?_⟩
    · rw [hk] at hk'; exact hO.ne hB (by decide) hk'
    · rcases hk' with rfl | hk'
      · exact hrow.own.ne hB (by decide) hk
      · exact hap k hk hk'
    · rcases hk with hk | rfl | hk
      · exact .inr (hrow.new k hk)
      · exact .inl ((h5 k).2 rfl)
      · exact .inr (hx k hk)
section
variable {w0 w : World} {A F B : Asn} {us : Slc} {l : List Upd} {p q : Nat} {L : LogM} {D : DiskM} {last : List UInt8} {n : Nat}
abbrev logW (p q : Nat) (L : LogM) (x : List UInt8 × Int) (D : DiskM) (F : Asn) : Asn := star (logA p L) (star (PW q x) (star (diskA L.d D) F))
theorem lappend_c (hG : GT w0) (hE : ErrG w0) (hU : UpsA w0 A us l) (hl : l.length ≤ 1048576) (hq : L.q = some q) (hs : L.slot < 2) (hlast : last.length = 4) (hn : n ≤ 1152921504606846976) (hby : 0 ≤ L.bytes ∧ L.bytes ≤ 1152921504606846976)
    (hB : BdS D.p (l.length * 66000) 2) (H : Hp w0 w (logW p q L (last, (n : Int)) D (star A F))) :
    Calls PP F_flog_Log_Append #[.pointer (some (blk p)), us.v] w (Rt fun v w' =>
      ((L.broken ≠ 0 ∨ l = []) ∧ v = .int .i64 L.broken ∧ Hp w0 w' (logW p q L (last, (n : Int)) D (star A F))) ∨
      (L.broken = 0 ∧ badU l ≠ 0 ∧ v = .int .i64 (badU l) ∧ Hp w0 w' (logW p q L (last, (n : Int)) D (star A F))) ∨
      (L.broken = 0 ∧ l ≠ [] ∧ badU l = 0 ∧ v = .int .i64 (appR D.p L.slot (logB last (l.map Vc_up))).2 ∧ ∃ D', D'.p = (appR D.p L.slot (logB last (l.map Vc_up))).1 ∧
        (((appR D.p L.slot (logB last (l.map Vc_up))).2 = 0 ∧ ∃ q', Hp w0 w' (logW p q' { L with q := some q', bytes := L.bytes + ((logB last (l.map Vc_up)).length : Int) } (logLast last (l.map Vc_up), ((n + l.length : Nat) : Int)) D' (star A F))) ∨
         ((appR D.p L.slot (logB last (l.map Vc_up))).2 ≠ 0 ∧ Hp w0 w' (logW p q { L with broken := (appR D.p L.slot (logB last (l.map Vc_up))).2 } (last, (n : Int)) D' (star A F)))))) := by
  refine sim_flog_Log_Append _ _ _ _ ?_
  unfold vc_flog_Log_Append
  have hGp := hG.pos
  have hU0 := hU.at_ (A := A) H
  refine ⟨fun h => by simp at h, fun _ => ⟨_, rfl, L.broken, logCell H rfl, fun h => ⟨L.broken, logCell H rfl, Rt.ok (.inl ⟨?_, rfl, H⟩)⟩, fun h => ?_⟩⟩
  · rw [hU0.len] at h
    simp at h
    exact h
  have hbr : L.broken = 0 := by
    by_cases h0 : L.broken = 0
    · exact h0
    · simp [h0] at h
  have hne : l ≠ [] := by
    intro h0
    rw [hU0.len, h0] at h
    simp at h
  have hlp : 0 < l.length := List.length_pos_iff.2 hne
  refine ⟨fun i w' => ∃ j : Nat, i = (j : Int) ∧ j ≤ l.length ∧ (∀ u ∈ l.take j, (Vc_up u).may = 0) ∧ Hp w0 w' (logW p q L (last, (n : Int)) D (star A F)), fun i _ => l.length - i.toNat, ⟨0, rfl, Nat.zero_le _, fun u hu => by simp at hu, H⟩, ?_⟩
  clear H hU0
  rintro _ w1 ⟨j, rfl, hj, hok, H⟩
  have hUw := hU.at_ (A := A) H
  refine ⟨fun h => ?_, fun h => ?_⟩
  · have hlt : j < l.length := by rw [hUw.len] at h; simp at h; omega
    refine rdU hlt hUw fun a ha => ?_
    refine putU (u := l[j]) H rfl fun b w2 H => ?_
    have hd := ((hU.at_ (A := A) H).dat _ (List.getElem_mem hlt)).1
    refine call (refused_c (hG.fr0 H.fr) hd) ?_
    rintro _ w3 ⟨rfl, f3⟩
    have H := H.drop.fr0 f3
    refine ⟨_, rfl, fun h' => ?_, fun h' => ?_⟩
    · have hb : (Vc_up l[j]).may ≠ 0 := by simpa [Up.may, Vc_up] using h'
      refine Rt.ok (.inr (.inl ⟨hbr, ?_, ?_, H⟩))
      · rw [badU_take l j hlt hok hb]; exact hb
      · rw [badU_take l j hlt hok hb]; rfl
    · have hb : (Vc_up l[j]).may = 0 := by simpa [Up.may, Vc_up] using h'
      refine ⟨⟨j + 1, wrj (by omega), hlt, fun u hu => ?_, H⟩, by rw [wrj (j := j) (by omega)]; dsimp only; omega⟩
      rw [take_snoc hlt] at hu
      rcases List.mem_append.1 hu with hu | hu
      · exact hok u hu
      · rw [List.mem_singleton.1 hu]; exact hb
  have hje : j = l.length := by rw [hUw.len] at h; simp at h; omega
  subst hje
  rw [List.take_length] at hok
  clear hj h
  refine ⟨some (blk q), logCell H (by show some (Value.pointer (L.q.map blk)) = _; rw [hq]; rfl), blk q, rfl, ?_⟩
  have H2 : Hp w0 w1 (star (Asn.ex fun s : Slc => star (bk q Ty_record_Writer #[s.v, .int .i64 (n : Int)]) (own Ty_uint8 1 s (last.map u8v))) (star (logA p L) (star (diskA L.d D) (star A F)))) := H.take (PW q (last, (n : Int)))
  clear H
  obtain ⟨t, H⟩ := H2.ex
  refine ⟨t, H.cell (b := q) (i := 0) rfl, _, H.cell (b := q) (i := 1) rfl, ?_⟩
  refine H.new fun b w2 H => ?_
  refine H.stoAll (b := b) (vs := [t.v, .int .i64 (n : Int)]) (by rfl) fun w3 H => ?_
  have hREST : ∃ REST, REST = star (star (bk q Ty_record_Writer #[t.v, .int .i64 (n : Int)]) (own Ty_uint8 1 t (last.map u8v))) (star (logA p L) (star (diskA L.d D) (star A F))) := ⟨_, rfl⟩
  obtain ⟨REST, hREST⟩ := hREST
  have hT : ∀ {w'}, Hp w0 w' REST → Own Ty_uint8 1 w' t (last.map u8v) := fun H => by rw [hREST] at H; exact H.isOwn (s := t)
  have hUR : ∀ {w'}, Hp w0 w' REST → Ups w' us l := fun H => by rw [hREST] at H; exact hU.at_ (A := A) H
  rw [← hREST] at H
  refine ⟨fun d' i w' => ∃ j : Nat, i = (j : Int) ∧ j ≤ l.length ∧ ((j = 0 ∧ Hp w0 w' (star (own Ty_uint8 1 d' []) (star (bk b Ty_record_Writer #[t.v, .int .i64 (n : Int)]) REST))) ∨ (1 ≤ j ∧ Hp w0 w' (star (own Ty_uint8 1 d' ((logB last ((l.take j).map Vc_up)).map u8v)) (star (PW b (logLast last ((l.take j).map Vc_up), ((n + j : Nat) : Int))) REST)))), fun _ i _ => l.length - i.toNat, ⟨0, rfl, Nat.zero_le _, .inl ⟨rfl, H.nilRow Ty_uint8 1⟩⟩, ?_⟩
  clear H
  rintro d' _ w4 ⟨j, rfl, hj, H⟩
  have hR : Hp w0 w4 REST := by rcases H with ⟨_, H⟩ | ⟨_, H⟩ <;> exact H.drop.drop
  have hUw := hUR hR
  refine ⟨fun h => ?_, fun h => ?_⟩
  · have hlt : j < l.length := by rw [hUw.len] at h; simp at h; omega
    have hmay : (Vc_up l[j]).may = 0 := hok _ (List.getElem_mem hlt)
    refine rdU hlt hUw fun a ha => ?_
    have key : ∀ (Q : Value → World → Prop), (∀ y w6, Hp w0 w6 (star (own Ty_uint8 1 d' ((logB last ((l.take j).map Vc_up)).map u8v)) (star (own Ty_uint8 1 y ((recPre (Vc_up l[j]).body ++ recSum (logLast last ((l.take j).map Vc_up)) (Vc_up l[j]).body).map u8v)) (star (PW b (recSum (logLast last ((l.take j).map Vc_up)) (Vc_up l[j]).body, ((n + j + 1 : Nat) : Int))) REST))) → Q (.tuple #[Slc.v y, .int .i64 0]) w6) →
        ∀ w5, Fr [] w4 w5 → Calls PP F_record_Writer_Put #[.pointer (some (blk b)), .agg #[.int .i64 l[j].kind, .string l[j].key, .int .i64 l[j].cnt, .int .i64 l[j].cli, .bool l[j].fin, .bool l[j].has, l[j].data.v]] w5 (Rt Q) := by
      intro Q hQ w5 f5
      have hd := ((hUR hR).dat _ (List.getElem_mem hlt)).1.fr0 f5
      rcases H with ⟨rfl, H⟩ | ⟨hj1, H⟩
      · refine Rt.mono (putS_c hG hGp hlast (by omega) hd (hT (hR.fr0 f5)) (H.fr0 f5).swap) ?_
        rintro _ w6 (⟨h0, _⟩ | ⟨_, y, rfl, H⟩)
        · exact absurd hmay h0
        · refine hQ y w6 ?_
          have H := H.assoc.take (own Ty_uint8 1 d' [])
          exact H
      · refine Rt.mono (putH_c hG hGp (logLast_len _ _ hlast) (by omega) hd (H.fr0 f5).swap) ?_
        rintro _ w6 (⟨h0, _⟩ | ⟨_, y, rfl, H⟩)
        · exact absurd hmay h0
        · refine hQ y w6 ?_
          have H := H.assoc.own d'
          exact H
    refine putU (u := l[j]) (Hp.start w4) rfl fun b2 w5 H5 => ?_
    refine call (key (fun v w6 => ∃ y, v = .tuple #[Slc.v y, .int .i64 0] ∧ Hp w0 w6 (star (own Ty_uint8 1 d' ((logB last ((l.take j).map Vc_up)).map u8v)) (star (own Ty_uint8 1 y ((recPre (Vc_up l[j]).body ++ recSum (logLast last ((l.take j).map Vc_up)) (Vc_up l[j]).body).map u8v)) (star (PW b (recSum (logLast last ((l.take j).map Vc_up)) (Vc_up l[j]).body, ((n + j + 1 : Nat) : Int))) REST)))) (fun y w6 H => ⟨y, rfl, H⟩) w5 H5.fr) ?_
    rintro _ w6 ⟨y, rfl, H⟩
    refine ⟨y, 0, rfl, ?_⟩
    have hokU : ∀ u ∈ (l.take j).map Vc_up, u.may = 0 := fun u hu => by obtain ⟨v, hv, rfl⟩ := List.mem_map.1 hu; exact hok v (List.mem_of_mem_take hv)
    have hlen := logB_len last ((l.take j).map Vc_up) hokU
    rw [List.length_map, List.length_take_of_le hj] at hlen
    have hrl := (recPre_len hmay).1
    have hy := H.cel (s := y)
    have hyl := hy.lenM
    have hdl := (H.cel (s := d')).lenM
    rw [List.length_append, recSum_len] at hyl
    have hjm : j * 66000 ≤ 1048576 * 66000 := Nat.mul_le_mul (by omega) (Nat.le_refl _)
    refine Hp.app slT_sl_uint8 (H.own d') hy (one_u8 _) (by unfold maxLen; omega) (by omega) fun d2 w7 H _ => ⟨⟨j + 1, wrj (by omega), hlt, .inr ⟨by omega, ?_⟩⟩, ?_⟩
    · have H := (H.own y).drop
      have H := H.own d2
      have e1 : (l.take (j + 1)).map Vc_up = (l.take j).map Vc_up ++ [Vc_up l[j]] := by rw [take_snoc hlt, List.map_append]; rfl
      rw [e1, logB_snoc, logLast_snoc, List.map_append]
      exact H
    · rw [wrj (j := j) (by omega)]; dsimp only; omega
  · have hje : j = l.length := by rw [hUw.len] at h; simp at h; omega
    subst hje
    rcases H with ⟨h0, _⟩ | ⟨_, H⟩
    · omega
    rw [List.take_length] at H
    rw [hREST] at H
    clear hR hUw hj h hT hUR hREST
    have hokU : ∀ u ∈ l.map Vc_up, u.may = 0 := fun u hu => by obtain ⟨v, hv, rfl⟩ := List.mem_map.1 hu; exact hok v hv
    have hlen := logB_len last (l.map Vc_up) hokU
    rw [List.length_map] at hlen
    have hlm : l.length * 66000 ≤ 1048576 * 66000 := Nat.mul_le_mul (by omega) (Nat.le_refl _)
    have hbad := badU_ok l hok
    generalize hbs : logB last (l.map Vc_up) = bs at *
    have H := H.drew 1
    have H := H.take (logA p L)
    refine ⟨_, logCell H rfl, _, logCell H rfl, ?_⟩
    have hD : Byt (w4.drewN 1) d' bs := H.cel (s := d')
    have hdl := (H.cel (s := d')).lenM
    refine call (dAppend_c (i := L.slot) hs (hB.bd hlen) hD (by omega) (H.take (diskA L.d D))) ?_
    rintro _ w5 ⟨rfl, D1, hD1, H⟩
    refine ⟨_, rfl, call where_c ?_⟩
    rintro ev w6 ⟨hE1, f6⟩
    have H := H.fr0 f6
    refine ⟨ev, rfl, _, hE1.nilI, fun h1 => ?_, fun h1 => ?_⟩
    · have h1 : (actR D.p L.slot false (gApp L.slot bs)).2 ≠ 0 := by simpa using h1
      have er : appR D.p L.slot bs = actR D.p L.slot false (gApp L.slot bs) := by unfold appR; rw [if_pos h1]
      refine call (lfailed_c hE hE1 (H.take (logA p L))) ?_
      rintro _ w7 ⟨rfl, H⟩
      refine ⟨_, rfl, Rt.ok (.inr (.inr ⟨hbr, hne, hbad, by rw [er], D1, by rw [er]; exact hD1, .inr ⟨by rw [er]; exact h1, ?_⟩⟩))⟩
      rw [er]
      have H := (H.own d').drop
      have H := (H.take (PW b (logLast last (l.map Vc_up), ((n + l.length : Nat) : Int)))).drop
      have H := ((H.own t).blk q).assoc'
      have H : Hp w0 w7 (star (PW q (last, (n : Int))) _) := Hp.exI (f := fun s : Slc => star (bk q Ty_record_Writer #[s.v, .int .i64 (n : Int)]) (own Ty_uint8 1 s (last.map u8v))) t H
      exact H.take (logA p _)
    · have h0 : (actR D.p L.slot false (gApp L.slot bs)).2 = 0 := by simpa using h1
      have er : appR D.p L.slot bs = actR (actR D.p L.slot false (gApp L.slot bs)).1 L.slot false (gSync L.slot) := by unfold appR; rw [if_neg (by simp [h0])]
      have hB1 : BdS (actR D.p L.slot false (gApp L.slot bs)).1 0 1 := (hB.le (n' := 0 + bs.length) (m' := 1 + 1) (by omega) (by omega)).act (gs_app hs bs)
      have H := H.drew 1
      have H := H.take (logA p L)
      refine ⟨_, logCell H rfl, _, logCell H rfl, ?_⟩
      rw [← hD1] at hB1
      refine call (dSync_c (i := L.slot) hs (hB1.bd (Nat.le_refl _)) (H.take (diskA L.d D1))) ?_
      rintro _ w7 ⟨rfl, D2, hD2, H⟩
      rw [hD1] at hD2
      refine ⟨_, rfl, call where_c ?_⟩
      rintro ev2 w8 ⟨hE2, f8⟩
      have H := H.fr0 f8
      refine ⟨ev2, rfl, _, hE2.nilI, fun h2 => ?_, fun h2 => ?_⟩
      · have h2 : (actR D1.p L.slot false (gSync L.slot)).2 ≠ 0 := by simpa using h2
        rw [hD1, ← er] at h2 hE2
        refine call (lfailed_c hE hE2 (H.take (logA p L))) ?_
        rintro _ w9 ⟨rfl, H⟩
        refine ⟨_, rfl, Rt.ok (.inr (.inr ⟨hbr, hne, hbad, rfl, D2, by rw [er]; exact hD2, .inr ⟨h2, ?_⟩⟩))⟩
        have H := (H.own d').drop
        have H := (H.take (PW b (logLast last (l.map Vc_up), ((n + l.length : Nat) : Int)))).drop
        have H := ((H.own t).blk q).assoc'
        have H : Hp w0 w9 (star (PW q (last, (n : Int))) _) := Hp.exI (f := fun s : Slc => star (bk q Ty_record_Writer #[s.v, .int .i64 (n : Int)]) (own Ty_uint8 1 s (last.map u8v))) t H
        exact H.take (logA p _)
      · have h2 : (actR D1.p L.slot false (gSync L.slot)).2 = 0 := by simpa using h2
        rw [hD1, ← er] at h2
        refine logSto (L' := { L with q := some b }) (H.take (logA p L)) (by omega) rfl fun w9 H => ⟨_, logCell H rfl, ?_⟩
        have hw : wr .i64 (L.bytes + (d'.l : Int)) = L.bytes + (bs.length : Int) := by rw [hdl, wr64 (by omega) (by omega)]
        have hw' : wr .i64 ((({ L with q := some b } : LogM).bytes) + (d'.l : Int)) = L.bytes + (bs.length : Int) := hw
        rw [hw']
        refine logSto (L' := { L with q := some b, bytes := L.bytes + (bs.length : Int) }) H (by omega) rfl fun w10 H => Rt.ok (.inr (.inr ⟨hbr, hne, hbad, by rw [h2], D2, by rw [er]; exact hD2, .inl ⟨h2, b, ?_⟩⟩))
        have H := (H.own d').drop
        have H := (H.own t).drop
        have H := (H.blk q).drop
        have H := H.take (PW b (logLast last (l.map Vc_up), ((n + l.length : Nat) : Int)))
        exact H.take (logA p _)
end
end Go.Proofs.YtflcdgkckfcofaaGreatDoor
