/-
  The contract of record.Scan, by parts: what it answers owns what it made.
-/
import Derived.Test.YtflcdgkckfcofaaGreatDoorScan
import Derived.Test.YtflcdgkckfcofaaGreatDoorRecHp
import Derived.Test.YtflcdgkckfcofaaGreatDoorPlain
namespace Go.Proofs.YtflcdgkckfcofaaGreatDoor
open Go Go.Vc Go.Vc.Asn
def rowU (u : Upd) : Asn := own Ty_uint8 1 u.data (u.ds.map u8v)
def aprt (X : List Upd) : Prop := X.Pairwise fun a b => ∀ k ∈ a.data.blks, k ∉ b.data.blks
theorem all_rows {w : World} : ∀ X : List Upd, (∀ u ∈ X, Own Ty_uint8 1 w u.data (u.ds.map u8v)) → aprt X → (all rowU X).p w (fun k => ∃ u ∈ X, k ∈ u.data.blks)
  | [], _, _ => fun k => by simp
  | u :: X, h, hp => by
    have h2 := List.pairwise_cons.1 hp
    exact ⟨fun k => k ∈ u.data.blks, fun k => ∃ v ∈ X, k ∈ v.data.blks, fun k => by simp, fun k hk ⟨v, hv, hk'⟩ => h2.1 v hv k hk hk', ⟨fun _ => Iff.rfl, h u List.mem_cons_self⟩, all_rows X (fun v hv => h v (List.mem_cons_of_mem _ hv)) h2.2⟩
theorem rows_all {w : World} : ∀ (X : List Upd) (S : Nat → Prop), (all rowU X).p w S → (∀ u ∈ X, Own Ty_uint8 1 w u.data (u.ds.map u8v) ∧ ∀ k ∈ u.data.blks, S k) ∧ aprt X
  | [], _, _ => ⟨fun u hu => by simp at hu, List.Pairwise.nil⟩
  | u :: X, S, h => by
    obtain ⟨S1, S2, h1, h2, ⟨h3, h4⟩, hb⟩ := h
    obtain ⟨i1, i2⟩ := rows_all X S2 hb
    refine ⟨fun v hv => ?_, List.pairwise_cons.2 ⟨fun v hv k hk hk' => h2 k ((h3 k).2 hk) ((i1 v hv).2 k hk'), i2⟩⟩
    rcases List.mem_cons.1 hv with rfl | hv
    · exact ⟨h4, fun k hk => (h1 k).2 (.inl ((h3 k).2 hk))⟩
    · exact ⟨(i1 v hv).1, fun k hk => (h1 k).2 (.inr ((i1 v hv).2 k hk))⟩
/-! ## An answer of Scan -/
structure An where
  n : Int
  k : Int
  d : Int
  s : Int
  l : Slc
  X : List Upd
  m : Slc
  E : List Int
  why : Int
  pw : Option Nat
  e : Int
  last : List UInt8
def An.cells (a : An) : List Value := [.int .i64 a.n, .int .i64 a.k, .int .i64 a.d, .int .i64 a.s, a.l.v, a.m.v, .int .i64 a.why, .pointer (a.pw.map blk), .int .i64 a.e]
def anU (a : An) : Asn := star (own Ty_api_Update 7 a.l (a.X.map Upd.cells).flatten) (own Ty_int 1 a.m (a.E.map (Value.int .i64)))
def anW (a : An) : Asn := match a.pw with | some p => obj PW p (a.last, (a.X.length : Int)) | none => emp
structure An.of (a : An) (bs : List UInt8) : Prop where
  hd : a.n = (if okH bs then (readH bs).n else 0) ∧ a.k = (if okH bs then (readH bs).k else 0) ∧ a.d = (if okH bs then (readH bs).d else 0) ∧ a.s = if okH bs then (readH bs).s else 0
  X : a.X.map Vc_up = if okH bs then (scanT bs).1 else []
  E : a.E = if okH bs then ((readH bs).bs.length :: (scanT bs).2.1).map fun n => ((n : Nat) : Int) else []
  why : a.why = if okH bs then (scanT bs).2.2.1 else 0
  pw : a.pw.isNone = !okH bs
  e : a.e = if okH bs then 0 else 63
  last : okH bs = true → a.last = (scanT bs).2.2.2.2 ∧ a.last.length = 4
theorem scanL_cnt (bs : List UInt8) : ∀ (f at_ : Nat) (last : List UInt8), (scanL bs f at_ last).1.length ≤ f
  | 0, _, _ => by simp [scanL]
  | f + 1, at_, last => by
    unfold scanL
    split
    · simp
    · split
      · simp
      · simp only [List.length_cons]
        exact Nat.succ_le_succ (scanL_cnt bs f _ _)
theorem readB_ds {b : List UInt8} (h : okB b = true) : (readB b).1.ds.length ≤ 65540 := by
  obtain ⟨_, h2, h3⟩ := readB_inv h
  generalize (readB b).1 = u at h2 h3
  obtain ⟨_, _, _, _, _, h6⟩ := may_ok h3
  by_cases hn : u.ds = []
  · rw [hn]; simp
  · refine h6 ?_
    unfold usesV
    unfold Up.ownF at h2
    by_cases k3 : u.kind = 3
    · rw [if_pos k3] at h2
      have h4 := congrArg Up.ds h2
      simp only at h4
      cases hh : u.has with
      | true => simp [k3]
      | false => rw [hh] at h4; exact absurd h4.symm hn
    · rw [if_neg k3] at h2
      by_cases k1 : u.kind = 1
      · simp [k1]
      · rw [if_neg k1] at h2
        have h4 := congrArg Up.ds h2
        exact absurd h4.symm hn
theorem nextR_ds {rest last : List UInt8} (h : (nextR rest last).1 = 0) : (nextR rest last).2.1.ds.length ≤ 65540 := by
  unfold nextR at h ⊢
  simp only at h ⊢
  refine readB_ds ?_
  by_cases hb : okB ((rest.take (1 + (uintR ((rest.take (min rest.length 11)).drop 1) 66000 ⟨0, 0⟩).2.at_ + (uintR ((rest.take (min rest.length 11)).drop 1) 66000 ⟨0, 0⟩).1.toNat)).drop (1 + (uintR ((rest.take (min rest.length 11)).drop 1) 66000 ⟨0, 0⟩).2.at_)) = false
  · rw [if_pos hb] at h
    repeat' split at h
    all_goals omega
  · simpa using hb
theorem scanL_ds (bs : List UInt8) : ∀ (f at_ : Nat) (last : List UInt8), ∀ u ∈ (scanL bs f at_ last).1, u.ds.length ≤ 65540
  | 0, _, _ => by simp [scanL]
  | f + 1, at_, last => by
    unfold scanL
    split
    · simp
    · split
      · simp
      · rename_i h1 h2
        intro u hu
        rcases List.mem_cons.1 hu with rfl | hu
        · exact nextR_ds (by simpa using h2)
        · exact scanL_ds bs f _ _ u hu
theorem An.of.ds {a : An} {bs : List UInt8} (h : a.of bs) : (∀ u ∈ a.X, u.ds.length ≤ 65540) ∧ a.X.length ≤ bs.length := by
  have h1 := h.X
  have h2 : ∀ v ∈ a.X.map Vc_up, v.ds.length ≤ 65540 := by
    rw [h1]
    split
    · exact scanL_ds _ _ _ _
    · simp
  refine ⟨fun u hu => h2 _ (List.mem_map_of_mem hu), ?_⟩
  have h3 := congrArg List.length h1
  rw [List.length_map] at h3
  rw [h3]
  split
  · exact Nat.le_trans (scanL_cnt _ _ _ _) (Nat.sub_le _ _)
  · simp
theorem scan_h {w : World} {s : Slc} {bs : List UInt8} (hG : GT w) (h : Byt w s bs) (hm : bs.length ≤ 1099511627776) :
    Calls PP F_record_Scan #[s.v] w (Rt fun v w' => ∃ a : An, a.of bs ∧ v = .tuple #[.agg #[.int .i64 a.n, .int .i64 a.k, .int .i64 a.d, .int .i64 a.s], a.l.v, a.m.v, .int .i64 a.why, .pointer (a.pw.map blk), .int .i64 a.e] ∧
      Hp w w' (star (anU a) (star (all rowU a.X) (anW a)))) := by
  refine Rt.mono (scan_cs hG h hm) ?_
  rintro v w' ⟨f, ⟨ho, rfl⟩ | ⟨ho, q, us, su, se, hX, rfl, hSu, hSe, hR, _, hq, hsu, hse, h4, ⟨lw, hB, hO, hlw, hla⟩, hap⟩⟩
  · refine ⟨⟨0, 0, 0, 0, Slc.nil, [], Slc.nil, [], 0, none, 63, []⟩, ⟨by simp [ho], by simp [ho], by simp [ho], by simp [ho], by simp [ho], by simp [ho], fun h => by rw [ho] at h; simp at h⟩, rfl, ?_⟩
    exact ((((Hp.start w).fr0 f).ent Asn.emp_l).nilRow Ty_int 1).nilRow Ty_api_Update 7 |>.assoc'
  · refine ⟨⟨(readH bs).n, (readH bs).k, (readH bs).d, (readH bs).s, su, us, se, ((readH bs).bs.length :: (scanT bs).2.1).map fun n => ((n : Nat) : Int), (scanT bs).2.2.1, some q, 0, (scanT bs).2.2.2.2⟩, ⟨by simp [ho], by simp [ho, hX], by simp only [ho, if_true], by simp [ho], by simp [ho], by simp [ho], fun _ => ⟨rfl, h4⟩⟩, rfl, ⟨f, _, ?_, star_p (star_p (S := fun k => k ∈ su.blks) (T := fun k => k ∈ se.blks) ⟨fun _ => Iff.rfl, hSu⟩ ⟨fun _ => Iff.rfl, by rw [List.map_map]; exact hSe⟩ fun k hk => hSu.apart hSe (by decide) k hk) (star_p (all_rows us (fun u hu => (hR u hu).own) hap) (T := fun k => k = q ∨ k ∈ lw.blks) ⟨lw, star_p (S := fun k => k = q) (T := fun k => k ∈ lw.blks) ⟨fun _ => Iff.rfl, hB⟩ ⟨fun _ => Iff.rfl, hO⟩ fun k hk => ?_⟩ fun k hk => ?_) fun k hk => ?_⟩⟩
    · rintro k ((hk | hk) | ⟨u, hu, hk⟩ | rfl | hk)
      · exact hsu k hk
      · exact hse k hk
      · exact (hR u hu).new k hk
      · exact hq
      · exact hlw k hk
    · rw [hk]; exact hO.ne hB (by decide)
    · obtain ⟨u, hu, hk⟩ := hk
      rintro (rfl | hk')
      · exact (hR u hu).own.ne hB (by decide) hk
      · exact hla u hu k hk' hk
    · rintro (⟨u, hu, hk'⟩ | rfl | hk')
      · rcases hk with hk | hk
        · exact hSu.apart (hR u hu).own (by decide) k hk hk'
        · exact hSe.apart (hR u hu).own (by decide) k hk hk'
      · rcases hk with hk | hk
        · exact hSu.ne hB (by decide) hk
        · exact hSe.ne hB (by decide) hk
      · rcases hk with hk | hk
        · exact hSu.apart hO (by decide) k hk hk'
        · exact hSe.apart hO (by decide) k hk hk'
end Go.Proofs.YtflcdgkckfcofaaGreatDoor
