/-
  Contracts: stripe.why, number, whole, Join.
-/
import Derived.Test.YteoeboeaanjehaaDoorStrC
import Derived.Test.YteoeboeaanjehaaDoorErrsA
namespace Go.Proofs.YteoeboeaanjehaaDoor
open Go Go.Vc Go.Vc.Asn Go.Gf
/-- An error of the package: its number. -/
def ErrV (w : World) (v : Value) (e : Int) : Prop := (e = 0 ∧ v = .nilIface) ∨ (e ≠ 0 ∧ ∃ b : Nat, v = .iface 79 (.pointer (some ⟨b, 0, none⟩)) ∧ w.cell? ⟨b, 1, none⟩ = some (.int .i64 e))
theorem ErrV.fr0 {w w' : World} {v : Value} {e : Int} (h : ErrV w v e) (f : Fr [] w w') : ErrV w' v e := by
  rcases h with h | ⟨h0, b, h1, h2⟩
  · exact .inl h
  · exact .inr ⟨h0, b, h1, f.cell h2 (by simp)⟩
theorem ErrG.fr0 {w w' : World} (h : ErrG w) (f : Fr [] w w') : ErrG w' := f.cell h (by simp)
section
variable {w0 w : World} {F : Asn} {s p : Slc} {rs : Rws} {g n k q : Nat} {bs : List UInt8}
theorem why_c {t : ByteArray} {e : Int} : Calls PP F_stripe_why #[.string t, .int .i64 e] w (Rt fun v w' => ErrV w' v e ∧ Fr [] w w') := by
  refine sim_stripe_why _ _ _ _ ?_
  unfold vc_stripe_why
  refine ⟨fun h => Rt.ok ⟨.inl ⟨by simpa using h, rfl⟩, Fr.refl _ _⟩, fun h => ?_⟩
  refine (Hp.start w).new fun b w1 H => Rt.ok ⟨.inr ⟨by simpa using h, b, rfl, ?_⟩, H.fr⟩
  have := H.cell (b := b) (i := 1) rfl
  exact this
theorem alloc_fr (w : World) (cs : Array Value) (t : TypeId) : Fr [] w (w.alloc (.cells cs t)) := NewBlk.fr (b := w.heap.size) (cs := cs) (e := t) ⟨rfl, rfl⟩
theorem number_c {v : Value} {e : Int} (hG : ErrG w) (hE : ErrV w v e) : Calls PP F_stripe_number #[v] w (Rt fun x w' => x = .int .i64 e ∧ Fr [] w w') := by
  refine sim_stripe_number _ _ _ ?_
  unfold vc_stripe_number
  refine (Hp.start w).new fun b w1 H => ?_
  rcases hE with ⟨rfl, rfl⟩ | ⟨h0, c, rfl, hc⟩
  · refine (as_nil _ w1).mono ?_
    rintro ev w2 ⟨rfl, rfl⟩
    exact ⟨false, rfl, fun h => by simp at h, fun _ => Rt.ok ⟨rfl, H.fr⟩⟩
  · have hB := H.isBlk (b := b)
    have hcell := hB.cell (i := 0) (v := .int .i64 0) rfl
    rw [blk_add] at hcell
    have hfz := hB.frz 0
    rw [blk_add] at hfz
    refine (as_wrap c ⟨b, 0, none⟩ e _ w1 (hG.fr0 H.fr) (H.fr.cell hc (by simp)) hcell hfz).mono ?_
    rintro ev w2 ⟨rfl, hw2⟩
    have f := (((alloc_fr w1 #[.pointer (some ⟨b, 0, none⟩)] 87).then_ (alloc_fr _ #[.pointer (some ⟨1, 87, none⟩), .pointer (some ⟨w1.heap.size, 0, none⟩), .int .u64 150] 120)).then_ (alloc_fr _ #[.pointer (some ⟨1, 87, none⟩), .pointer (some ⟨w1.heap.size, 0, none⟩), .int .u64 150] 120)).then_ (alloc_fr _ #[.int .i64 e] 32)
    have H := H.fr0 f
    have hB2 := H.isBlk (b := b)
    have hset := hB2.set 0 (.int .i64 e)
    have hfs := Fr.set ((((w1.alloc (.cells #[.pointer (some ⟨b, 0, none⟩)] 87)).alloc (tobj ⟨w1.heap.size, 0, none⟩)).alloc (tobj ⟨w1.heap.size, 0, none⟩)).alloc (.cells #[.int .i64 e] 32)) ((blk b).add 0) (.int .i64 e)
    rw [blk_add] at hset hfs
    rw [← hw2] at hset hfs
    have H := H.set (b := b) hset hfs
    refine ⟨true, rfl, fun _ => ⟨e, ?_, Rt.ok ⟨rfl, H.fr⟩⟩, fun h => by simp at h⟩
    exact H.cell (b := b) (i := 0) rfl
theorem indexU_c {fn : FuncId} {cap : Array Value} {f : UInt8 → Bool} (hC : Byt w s bs) (hl : bs.length ≤ 1099511627776) (hb : bodyB PP fn = true)
    (hp : ∀ w' (x : UInt8), Fr [] w w' → Calls PP fn (#[u8v x] ++ cap) w' (Rt fun v w'' => v = .bool (f x) ∧ Fr [] w' w'')) :
    Calls PP F_slices_IndexFunc_byte_byte_56 #[s.v, .func (.func fn) #[] cap] w (Rt fun v w' => ∃ i : Int, v = .int .i64 i ∧ decide (0 ≤ i) = bs.any f ∧ Fr [] w w') := by
  refine sim_slices_IndexFunc_byte_byte_56 _ _ _ _ ?_
  unfold vc_slices_IndexFunc_byte_byte_56
  have hsl := hC.len
  refine ⟨fun i w' => ∃ j : Nat, i = (j : Int) ∧ j ≤ bs.length ∧ (∀ k (hk : k < bs.length), k < j → f bs[k] = false) ∧ Fr [] w w', fun i _ => bs.length - i.toNat, ⟨0, rfl, Nat.zero_le _, fun k _ hk => by omega, Fr.refl _ _⟩, ?_⟩
  rintro _ w2 ⟨j, rfl, hj, hno, f2⟩
  refine ⟨fun h => ?_, fun h => ?_⟩
  · have hlt : j < bs.length := by simp only [decide_eq_true_eq] at h; omega
    refine (hC.fr0 f2).rd hlt fun a ha => ⟨fn, cap, rfl, hb, call (hp w2 _ f2) ?_⟩
    rintro _ w3 ⟨rfl, f3⟩
    refine ⟨_, rfl, fun h => Rt.ok ⟨_, rfl, ?_, f2.then_ f3⟩, fun h => ?_⟩
    · rw [show decide (0 ≤ (j : Int)) = true by simp]
      symm
      exact List.any_eq_true.2 ⟨bs[j], List.getElem_mem hlt, h⟩
    · rw [ofW j (by omega)]
      refine ⟨⟨j + 1, rfl, by omega, fun k hk hkj => ?_, f2.then_ f3⟩, by dsimp only; omega⟩
      by_cases hkj2 : k = j
      · subst hkj2; exact h
      · exact hno k hk (by omega)
  · have hje : j = bs.length := by simp only [decide_eq_false_iff_not] at h; omega
    refine Rt.ok ⟨-1, rfl, ?_, f2⟩
    symm
    show bs.any _ = false
    rw [List.any_eq_false]
    intro r hr
    obtain ⟨k, hk, rfl⟩ := List.getElem_of_mem hr
    rw [hno k hk (by omega)]
    simp
theorem containsU_c {fn : FuncId} {cap : Array Value} {f : UInt8 → Bool} (hC : Byt w s bs) (hl : bs.length ≤ 1099511627776) (hb : bodyB PP fn = true)
    (hp : ∀ w' (x : UInt8), Fr [] w w' → Calls PP fn (#[u8v x] ++ cap) w' (Rt fun v w'' => v = .bool (f x) ∧ Fr [] w' w'')) :
    Calls PP F_slices_ContainsFunc_byte_byte_37 #[s.v, .func (.func fn) #[] cap] w (Rt fun v w' => v = .bool (bs.any f) ∧ Fr [] w w') := by
  refine sim_slices_ContainsFunc_byte_byte_37 _ _ _ _ ?_
  unfold vc_slices_ContainsFunc_byte_byte_37
  refine call (indexU_c hC hl hb hp) ?_
  rintro _ w1 ⟨i, rfl, hi, f⟩
  exact ⟨i, rfl, Rt.ok ⟨by rw [hi], f⟩⟩
theorem le_or (a b c d : UInt8) : orI .i64 (orI .i64 (orI .i64 (wr .i64 (a.toNat : Int)) (shlI .i64 (wr .i64 (b.toNat : Int)) 8)) (shlI .i64 (wr .i64 (c.toNat : Int)) 16)) (shlI .i64 (wr .i64 (d.toNat : Int)) 24) = ((a.toNat + b.toNat * 256 + c.toNat * 65536 + d.toNat * 16777216 : Nat) : Int) := by
  have h1 := a.toNat_lt
  have h2 := b.toNat_lt
  have h3 := c.toNat_lt
  have h4 := d.toNat_lt
  rw [wr64 (by omega) (by omega), wr64 (by omega) (by omega), wr64 (by omega) (by omega), wr64 (by omega) (by omega)]
  have e1 := or_shl2 (n := a.toNat) (x := b.toNat) (k := 8) (by omega) (by omega) h2
  have e2 := or_shl2 (n := a.toNat + b.toNat * 2 ^ 8) (x := c.toNat) (k := 16) (by omega) (by omega) h3
  have e3 := or_shl2 (n := a.toNat + b.toNat * 2 ^ 8 + c.toNat * 2 ^ 16) (x := d.toNat) (k := 24) (by omega) (by omega) h4
  rw [show ((8 : Nat) : Int) = 8 from rfl] at e1
  rw [show ((16 : Nat) : Int) = 16 from rfl] at e2
  rw [show ((24 : Nat) : Int) = 24 from rfl] at e3
  rw [e1, e2, e3]
theorem lenOf_at {A : List UInt8} (h : 4 ≤ A.length) : lenOf A = A[0].toNat + A[1].toNat * 256 + A[2].toNat * 65536 + A[3].toNat * 16777216 := by
  match A, h with
  | a :: b :: c :: d :: r, _ => rfl
/-- What whole answers. -/
def WholePost (D : List (List UInt8)) (k s : Nat) (w : World) (v : Value) (w' : World) : Prop :=
  ∃ o ev, v = .tuple #[Slc.v o, ev] ∧ match wholeV D k s with
    | .inl e => o = Slc.nil ∧ ErrV w' ev e ∧ e ≠ 0 ∧ Fr [] w w'
    | .inr x => ev = .nilIface ∧ Hp w w' (star (own Ty_uint8 1 o (x.map u8v)) emp)
theorem whole_c {l : Nat} (hR : RdR w s rs) (hS : Shp (mt rs) k l) (hk : 1 ≤ k) (hk2 : k ≤ 255) (hl : l ≤ 16777216) :
    Calls PP F_stripe_whole #[s.v] w (Rt (WholePost (mt rs) k l w)) := by
  refine sim_stripe_whole _ _ _ ?_
  unfold vc_stripe_whole
  have hsl : s.l = k := by rw [hR.cel.lenM]; exact shpLen hS
  have hrl := shpLen hS
  have h0 : rs[0].1.l = l := by rw [(hR.at_ (by omega)).len]; exact shpRow hS (by omega)
  have hlk : l * k ≤ 16777216 * 255 := Nat.mul_le_mul hl hk2
  have hfl := flat_len hS
  refine hR.cel.rdS (i := 0) (by omega) fun a ha => ?_
  rw [h0, hsl]
  have ew : wr .i64 ((l : Int) * (k : Int)) = ((l * k : Nat) : Int) := by rw [← Int.natCast_mul, wr64 (by omega) (by omega)]
  rw [ew]
  refine ⟨fun b w' => b = decide (l * k < 4 ∨ sizeN 65536 k < l) ∧ Fr [] w w', ⟨fun h => ?_, fun h => ⟨?_, Fr.refl _ _⟩⟩, ?_⟩
  · refine call (size_c (n := 65536) hk (by omega) (by omega)) ?_
    rintro _ w1 ⟨rfl, rfl⟩
    refine ⟨_, rfl, ?_, Fr.refl _ _⟩
    simp only [decide_eq_false_iff_not] at h
    rw [Bool.eq_iff_iff, decide_eq_true_iff, decide_eq_true_iff]
    omega
  · simp only [decide_eq_true_eq] at h
    symm
    rw [decide_eq_true_iff]
    omega
  rintro _ w1 ⟨rfl, f1⟩
  refine ⟨fun h => ?_, fun h => ?_⟩
  · simp only [decide_eq_true_eq] at h
    refine call why_c ?_
    rintro ev w2 ⟨hE, f2⟩
    refine ⟨_, rfl, Rt.ok ⟨Slc.nil, ev, rfl, ?_⟩⟩
    unfold wholeV
    rw [if_pos h]
    exact ⟨rfl, hE, by decide, f1.then_ f2⟩
  have hc1 : ¬ (l * k < 4 ∨ sizeN 65536 k < l) := by simpa using h
  refine call (concat_c (hR.fr0 f1) (by omega) (by omega)) ?_
  rintro _ w2 ⟨o, rfl, H⟩
  obtain ⟨A, hA⟩ : ∃ A, A = (mt rs).flatten := ⟨_, rfl⟩
  rw [← hA] at H hfl
  have hB : Byt w2 o A := H.cel (s := o)
  have hol := hB.len
  refine ⟨o, rfl, hB.rd (i := 0) (by omega) fun a0 _ => hB.rd (i := 1) (by omega) fun a1 _ => hB.rd (i := 2) (by omega) fun a2 _ => hB.rd (i := 3) (by omega) fun a3 _ => fun k36 => ?_⟩
  have f2 : Fr [] w w2 := f1.then_ H.fr
  have H := H.drew k36
  rw [le_or, ← lenOf_at (by omega)]
  have hlen4 : lenOf A < 4294967296 := by
    unfold lenOf
    have h1 := (A.getD 0 0).toNat_lt
    have h2 := (A.getD 1 0).toNat_lt
    have h3 := (A.getD 2 0).toNat_lt
    have h4 := (A.getD 3 0).toNat_lt
    omega
  obtain ⟨m, hm⟩ : ∃ m, m = lenOf A := ⟨_, rfl⟩
  rw [← hm] at hlen4 ⊢
  have hW : wholeV (mt rs) k l = if 65536 < m ∨ sizeN m k ≠ l then .inl 25 else if (A.drop (4 + m)).any (fun b => b ≠ 0) then .inl 24 else .inr ((A.drop 4).take m) := by
    unfold wholeV
    rw [if_neg hc1, ← hA, ← hm]
  refine ⟨fun b w' => b = decide (65536 < m ∨ sizeN m k ≠ l) ∧ Fr [] (w2.drewN k36) w', ⟨fun h => ?_, fun h => ⟨?_, Fr.refl _ _⟩⟩, ?_⟩
  · simp only [decide_eq_false_iff_not] at h
    refine call (size_c (n := m) hk (by omega) (by omega)) ?_
    rintro _ w3 ⟨rfl, rfl⟩
    refine ⟨_, rfl, ?_, Fr.refl _ _⟩
    rw [Bool.eq_iff_iff, decide_eq_true_iff, decide_eq_true_iff]
    omega
  · simp only [decide_eq_true_eq] at h
    symm
    rw [decide_eq_true_iff]
    omega
  rintro _ w3 ⟨rfl, f3⟩
  have f23 : Fr [] w2 w3 := (((Hp.start w2).drew k36).fr).then_ f3
  refine ⟨fun h => ?_, fun h => ?_⟩
  · simp only [decide_eq_true_eq] at h
    refine call why_c ?_
    rintro ev w4 ⟨hE, f4⟩
    refine ⟨_, rfl, Rt.ok ⟨Slc.nil, ev, rfl, ?_⟩⟩
    rw [hW, if_pos h]
    exact ⟨rfl, hE, by decide, f2.then_ (f23.then_ f4)⟩
  have hc2 : ¬ (65536 < m ∨ sizeN m k ≠ l) := by simpa using h
  have hm4 := size_le (n := m) hk
  rw [show sizeN m k = l by omega] at hm4
  have ew4 : wr .i64 (4 + (m : Int)) = ((4 + m : Nat) : Int) := by rw [wr64 (by omega) (by omega)]; omega
  rw [ew4]
  have hB3 := hB.fr0 f23
  have hcap := hB3.cap
  refine ⟨by omega, by omega, by omega, ?_⟩
  rw [Int.toNat_natCast, Int.toNat_natCast]
  have hcut : Byt w3 (o.cut 1 (4 + m) o.l) (A.drop (4 + m)) := by
    have := Cel.cut hB3 (l := 4 + m) (k := o.l) (by omega) (Nat.le_refl _)
    rw [Nat.mul_one, Nat.mul_one, List.take_of_length_le (by simp; omega), ← List.map_drop] at this
    exact this
  refine call (containsU_c (f := fun b => decide (b ≠ 0)) hcut (by rw [List.length_drop]; omega) rfl fun w' x f => ?_) ?_
  · refine sim_stripe_whole_c1 _ _ _ ?_
    unfold vc_stripe_whole_c1
    refine Rt.ok ⟨?_, Fr.refl _ _⟩
    congr 1
    rw [Bool.eq_iff_iff, decide_eq_true_iff, decide_eq_true_iff]
    constructor
    · intro h e; apply h; rw [e]; rfl
    · intro h e; apply h; exact UInt8.toNat_inj.1 (by show _ = 0; omega)
  rintro _ w4 ⟨rfl, f4⟩
  refine ⟨_, rfl, fun h => ?_, fun h => ?_⟩
  · refine call why_c ?_
    rintro ev w5 ⟨hE, f5⟩
    refine ⟨_, rfl, Rt.ok ⟨Slc.nil, ev, rfl, ?_⟩⟩
    rw [hW, if_neg hc2, if_pos h]
    exact ⟨rfl, hE, by decide, f2.then_ (f23.then_ (f4.then_ f5))⟩
  · refine ⟨by omega, by omega, by omega, ?_⟩
    have hcut2 : Byt w4 (o.cut 1 4 (4 + m)) ((A.drop 4).take m) := by
      have := Cel.cut (hB3.fr0 f4) (l := 4) (k := 4 + m) (by omega) (by omega)
      rw [Nat.mul_one, Nat.mul_one, ← List.map_drop, ← List.map_take, show 4 + m - 4 = m by omega] at this
      exact this
    refine call (clone_c hcut2 (by rw [List.length_take]; omega)) ?_
    rintro _ w5 ⟨o2, rfl, H5⟩
    refine ⟨o2, rfl, Rt.ok ⟨o2, _, rfl, ?_⟩⟩
    rw [hW, if_neg hc2, if_neg (by rw [h]; decide)]
    exact ⟨rfl, Hp.from (f2.then_ (f23.then_ f4)) H5⟩
end
end Go.Proofs.YteoeboeaanjehaaDoor
