/-
  Contracts of record's New and Put, by parts.
-/
import Derived.Test.YtflcdgkckfcofaaGreatDoorRecord
import Derived.Test.YtflcdgkckfcofaaGreatDoorSep
namespace Go.Proofs.YtflcdgkckfcofaaGreatDoor
open Go Go.Vc Go.Vc.Asn
theorem star_p {w : World} {A B : Asn} {S T : Nat → Prop} (ha : A.p w S) (hb : B.p w T) (h : ∀ k, S k → ¬ T k) : (star A B).p w (fun k => S k ∨ T k) := ⟨S, T, fun _ => Iff.rfl, h, ha, hb⟩
def PW (p : Nat) (x : List UInt8 × Int) : Asn := ex fun s : Slc => star (bk p Ty_record_Writer #[s.v, .int .i64 x.2]) (own Ty_uint8 1 s (x.1.map u8v))
theorem madeH {w0 w : World} {s : Slc} {bs : List UInt8} (h : Made w0 w s bs) : Hp w0 w (own Ty_uint8 1 s (bs.map u8v)) := ⟨h.fr, fun k => k ∈ s.blks, h.new, fun _ => Iff.rfl, h.own⟩
theorem newH_c {n k d s : Int} {w : World} (hG : GT w) :
    Calls PP F_record_New #[.agg #[.int .i64 n, .int .i64 k, .int .i64 d, .int .i64 s]] w (Rt fun v w' =>
      (mayHeadV n k d s ≠ 0 ∧ v = .tuple #[.pointer none, Slc.nil.v, .int .i64 (mayHeadV n k d s)] ∧ Fr [] w w') ∨
       (mayHeadV n k d s = 0 ∧ ∃ p z, v = .tuple #[.pointer (some (blk p)), Slc.v z, .int .i64 0] ∧ Hp w w' (star (PW p (le4 (crc (headPre n.toNat k.toNat d.toNat s.toNat)), 0)) (star (own Ty_uint8 1 z ((headBs n.toNat k.toNat d.toNat s.toNat).map u8v)) emp)))) := by
  refine sim_record_New _ _ _ _ _ _ ?_
  unfold vc_record_New
  refine New.intro fun b w1 nb => call (mayHead_c _ _ _ _ _) ?_
  rintro _ w2 ⟨rfl, f2⟩
  have hB := nb.blk.fr f2 (by simp)
  have f02 := nb.fr.then_ f2
  refine ⟨_, rfl, fun h => Rt.ok (.inl ⟨by simpa using h, rfl, f02⟩), fun h => ⟨_, hB.cell rfl, _, hB.cell rfl, _, hB.cell rfl, _, hB.cell rfl, ?_⟩⟩
  simp only [ne_eq, decide_not, Bool.not_eq_false', decide_eq_true_eq] at h
  obtain ⟨h1, h2, h3, h4, h5, h6, h7⟩ := mayHead_ok h
  obtain ⟨n, rfl⟩ := Int.eq_ofNat_of_zero_le (by omega : 0 ≤ n)
  obtain ⟨k, rfl⟩ := Int.eq_ofNat_of_zero_le (by omega : 0 ≤ k)
  obtain ⟨d, rfl⟩ := Int.eq_ofNat_of_zero_le (by omega : 0 ≤ d)
  obtain ⟨s, rfl⟩ := Int.eq_ofNat_of_zero_le (by omega : 0 ≤ s)
  have hpl := headPre_len (n := n) (k := k) (d := d) (s := s) (by omega) (by omega) (by omega) (by omega)
  have hbl : (headBs n k d s).length = (headPre n k d s).length + 4 := by simp [headBs, le4_len]
  refine call (headOf_c (by omega) (by omega) (by omega) (by omega) (hG.fr0 f02)) ?_
  rintro _ w3 ⟨z, rfl, hM⟩
  have hzl := hM.byt.len
  have hcap := hM.byt.cap
  refine ⟨z, rfl, ?_⟩
  rw [wr64 (by omega) (by omega)]
  refine ⟨by omega, by omega, by omega, ?_⟩
  have e1 : ((z.l : Int) - 4).toNat = (headPre n k d s).length := by omega
  have e2 : ((z.l : Int)).toNat = (headBs n k d s).length := by omega
  rw [e1, e2]
  have hcut : Byt w3 (z.cut 1 (headPre n k d s).length (headBs n k d s).length) (le4 (crc (headPre n k d s))) := by
    refine cut_all hM.byt (by omega) (by omega) ?_
    rw [hbl]
    simp [headBs]
    exact (List.take_of_length_le (by rw [le4_len]; omega)).symm
  refine call (clone_c hcut (by rw [le4_len]; omega)) ?_
  rintro _ w4 ⟨y, rfl, hM4⟩
  have H4 := ((Hp.start w).fr0 f02).beside (madeH hM) |>.beside (madeH hM4)
  refine ⟨y, rfl, H4.new fun q w5 H => Rt.ok (.inr ⟨h, q, z, rfl, ?_⟩)⟩
  simp only [Int.toNat_natCast]
  exact Hp.exI (f := fun t : Slc => star (bk q Ty_record_Writer #[t.v, .int .i64 0]) (own Ty_uint8 1 t ((le4 (crc (headPre n k d s))).map u8v))) y H.assoc'
theorem put2_c {p : Nat} {last : List UInt8} {n : Nat} {kind cnt cli : Int} {key : ByteArray} {fin has : Bool} {data : Slc} {ds : List UInt8} {w : World} (hG : GT w) (hg : G_sum_steps ≠ p) (hR : RW w p last (n : Int)) (hl : last.length = 4) (hn : n < 9223372036854775807) (hd : Byt w data ds) :
    Calls PP F_record_Writer_Put #[.pointer (some (blk p)), .agg #[.int .i64 kind, .string key, .int .i64 cnt, .int .i64 cli, .bool fin, .bool has, data.v]] w (Rt fun v w' =>
      (mayV kind key.size cnt cli fin has ds.length ≠ 0 ∧ v = .tuple #[Slc.nil.v, .int .i64 (mayV kind key.size cnt cli fin has ds.length)] ∧ Fr [] w w') ∨
      (mayV kind key.size cnt cli fin has ds.length = 0 ∧ ∃ s body, body = bodyBs kind.toNat key cnt.toNat cli.toNat fin has ds ∧ v = .tuple #[Slc.v s, .int .i64 0] ∧ Row w w' s (recPre body ++ recSum last body) ∧ Fr [p] w w' ∧ (∃ x : Slc, Blk w' p Ty_record_Writer #[x.v, .int .i64 ((n + 1 : Nat) : Int)] ∧ Own Ty_uint8 1 w' x ((recSum last body).map u8v) ∧ (∀ k ∈ x.blks, w.heap.size ≤ k) ∧ ∀ k ∈ s.blks, k ∉ x.blks))) := by
  have hdl := hd.len
  obtain ⟨ls, hBw, hOw⟩ := hR
  refine sim_record_Writer_Put _ _ _ _ _ _ _ _ _ _ ?_
  unfold vc_record_Writer_Put
  refine New.intro fun b w1 nb => ⟨by simp, fun _ => call (may_c _ _ _ _ _ _ _ _) ?_⟩
  rintro _ w2 ⟨rfl, f2⟩
  rw [hdl]
  have f02 := nb.fr.then_ f2
  refine ⟨_, rfl, fun h => Rt.ok (.inl ⟨by simpa using h, rfl, f02⟩), fun h => ?_⟩
  simp only [ne_eq, decide_not, Bool.not_eq_false', decide_eq_true_eq] at h
  obtain ⟨h1, h2, h3, h4, h5, h6⟩ := may_ok h
  obtain ⟨kind, rfl⟩ := Int.eq_ofNat_of_zero_le (by omega : 0 ≤ kind)
  obtain ⟨cnt, rfl⟩ := Int.eq_ofNat_of_zero_le (by omega : 0 ≤ cnt)
  obtain ⟨cli, rfl⟩ := Int.eq_ofNat_of_zero_le (by omega : 0 ≤ cli)
  have hbl := bodyBs_len h
  have hb9 := uv_len9 (n := (bodyBs kind key cnt cli fin has ds).length) (by omega)
  have hB := nb.blk.fr f2 (by simp)
  refine call (pw_new _) ?_
  rintro _ w3 ⟨q, rfl, hP⟩
  refine ⟨_, rfl, call (pw_byte (x := 82) hP (by simp)) ?_⟩
  rintro _ w4 ⟨rfl, hP⟩
  have hB4 := hB.fr hP.fr (by simp)
  have f04 := f02.then_ hP.fr
  refine ⟨rfl, _, hB4.cell rfl, _, hB4.cell rfl, _, hB4.cell rfl, _, hB4.cell rfl, _, hB4.cell rfl, _, hB4.cell rfl, _, hB4.cell rfl, ?_⟩
  refine call (body_c h (hd.fr0 f04)) ?_
  rintro _ w5 ⟨y, rfl, hY⟩
  refine ⟨y, rfl, call (pw_bytes2 hP hY.fr hY.byt hY.new (by simp; omega)) ?_⟩
  rintro _ w6 ⟨rfl, hP6⟩
  have e82 : [] ++ [82] ++ uv (bodyBs kind key cnt cli fin has ds).length ++ bodyBs kind key cnt cli fin has ds = recPre (bodyBs kind key cnt cli fin has ds) := by simp [recPre]
  rw [e82] at hP6
  have hrl : (recPre (bodyBs kind key cnt cli fin has ds)).length ≤ 65710 := by simp [recPre]; omega
  refine ⟨rfl, call (pw_data hP6 (by omega)) ?_⟩
  rintro _ w7 ⟨z, rfl, hZ⟩
  have f07 := (f02.then_ hP6.fr).then_ hZ.fr
  have hBw7 := hBw.fr f07 (by simp)
  have hOw7 := hOw.fr0 f07
  have hG7 := hG.fr0 f07
  refine ⟨z, rfl, blk p, rfl, ls, hBw7.cell rfl, New.intro fun b2 w8 nb2 => ?_⟩
  have hls : Byt w7 ls last := hOw7.cel
  refine call (of_c (hG7.fr0 nb2.fr) (Parts.two hls hZ.byt nb2) (by simp; omega) (by simp)) ?_
  rintro _ _ ⟨rfl, rfl⟩
  have ecrc : ([last, recPre (bodyBs kind key cnt cli fin has ds)] : List (List UInt8)).flatten = last ++ recPre (bodyBs kind key cnt cli fin has ds) := by simp
  rw [ecrc]
  refine ⟨_, rfl, call (four_c _ _) ?_⟩
  rintro _ w9 ⟨x, rfl, hX⟩
  have f79 := nb2.fr.then_ hX.fr
  have f09 := f07.then_ f79
  have hBw9 := hBw7.fr f79 (by simp)
  refine ⟨x, rfl, hBw9.sto (lt_ rfl) fun w10 hBa fa => ⟨_, hBa.cell rfl, ?_⟩⟩
  rw [wr64 (by omega) (by omega)]
  refine hBa.sto (lt_ rfl) fun w11 hBb fb => ⟨x, hBb.cell rfl, New.intro fun b3 w12 nb3 => ?_⟩
  have fab : Fr [p] w9 w11 := fa.local_ fb fun _ hx => .inl hx
  have hpx : ∀ k ∈ x.blks, k ∉ [p] := fun k hk hx => by
    simp at hx
    subst hx
    exact hX.own.ne hBw9 (by decide) hk
  have hpz : ∀ k ∈ z.blks, k ∉ [p] := fun k hk hx => by
    simp at hx
    subst hx
    exact (hZ.own.fr0 f79).ne hBw9 (by decide) hk
  have hX11 : Own Ty_uint8 1 w11 x ((recSum last (bodyBs kind key cnt cli fin has ds)).map u8v) := hX.own.fr fab hpx
  have hZ11 : Own Ty_uint8 1 w11 z ((recPre (bodyBs kind key cnt cli fin has ds)).map u8v) := (hZ.own.fr0 f79).fr fab hpz
  have hsl : (recSum last (bodyBs kind key cnt cli fin has ds)).length = 4 := le4_len _
  refine call (concat_c (Parts.two (bs := recPre (bodyBs kind key cnt cli fin has ds)) (cs := recSum last (bodyBs kind key cnt cli fin has ds)) hZ11.cel hX11.cel nb3) (by simp; omega) (by simp)) ?_
  rintro _ w13 ⟨u, rfl, hU⟩
  have f11 : Fr [] w11 w13 := nb3.fr.then_ hU.fr
  have fall : Fr [p] w w13 := ((f09.sub (T := [p]) fun k hk => absurd hk (by simp)).local_ fab fun _ hx => .inl hx).then_ f11
  refine ⟨u, rfl, Rt.ok (.inr ⟨h, u, _, rfl, rfl, ⟨?_, fun k hk => ?_⟩, fall, ⟨x, ?_, hX11.fr0 f11, fun k hk => Nat.le_trans f07.size (Nat.le_trans nb2.fr.size (hX.new k hk)), fun k hk hk' => ?_⟩⟩)⟩
  · have := hU.own
    simpa using this
  · exact Nat.le_trans (Nat.le_trans (Nat.le_trans f09.size fab.size) nb3.fr.size) (hU.new k hk)
  · have := hBb.fr f11 (by simp)
    simpa using this
  · have h1 := hU.new k hk
    have h2 := hX11.lt k hk'
    have h3 := nb3.fr.size
    omega
theorem rwOf {w0 w : World} {F : Asn} {p : Nat} {x : List UInt8 × Int} (H : Hp w0 w (star (PW p x) F)) : RW w p x.1 x.2 ∧ w0.heap.size ≤ p := by
  obtain ⟨fr, S, h1, S1, S2, g1, g2, ⟨s, S3, S4, g3, g4, ⟨h5, h6⟩, h7, h8⟩, hb⟩ := H
  exact ⟨⟨s, h6, h8⟩, h1 p ((g1 p).2 (.inl ((g3 p).2 (.inl ((h5 p).2 rfl)))))⟩
theorem putH_c {w0 : World} {F : Asn} {p : Nat} {last : List UInt8} {n : Nat} {kind cnt cli : Int} {key : ByteArray} {fin has : Bool} {data : Slc} {ds : List UInt8} {w : World} (hG : GT w0) (hg : G_sum_steps < w0.heap.size) (hl : last.length = 4) (hn : n < 9223372036854775807) (hd : Byt w data ds) (H : Hp w0 w (star (PW p (last, (n : Int))) F)) :
    Calls PP F_record_Writer_Put #[.pointer (some (blk p)), .agg #[.int .i64 kind, .string key, .int .i64 cnt, .int .i64 cli, .bool fin, .bool has, data.v]] w (Rt fun v w' =>
      (mayV kind key.size cnt cli fin has ds.length ≠ 0 ∧ v = .tuple #[Slc.nil.v, .int .i64 (mayV kind key.size cnt cli fin has ds.length)] ∧ Hp w0 w' (star (PW p (last, (n : Int))) F)) ∨
      (mayV kind key.size cnt cli fin has ds.length = 0 ∧ ∃ s, v = .tuple #[Slc.v s, .int .i64 0] ∧ Hp w0 w' (star (star (own Ty_uint8 1 s ((recPre (bodyBs kind.toNat key cnt.toNat cli.toNat fin has ds) ++ recSum last (bodyBs kind.toNat key cnt.toNat cli.toNat fin has ds)).map u8v)) (PW p (recSum last (bodyBs kind.toNat key cnt.toNat cli.toNat fin has ds), ((n + 1 : Nat) : Int)))) F))) := by
  obtain ⟨hR, hp⟩ := rwOf H
  refine Rt.mono (put2_c (hG.fr0 H.fr) (by omega) hR hl hn hd) ?_
  rintro v w' (⟨h0, rfl, f⟩ | ⟨h0, s, body, rfl, rfl, hrow, f, x, hB, hO, hx, hap⟩)
  · exact .inl ⟨h0, rfl, H.fr0 f⟩
  · refine .inr ⟨h0, s, rfl, H.step fun S hS hP => ?_⟩
    obtain ⟨s', S3, S4, g3, g4, ⟨h5, h6⟩, h7, h8⟩ := hP
    refine ⟨[p], fun k => k ∈ s.blks ∨ (k = p ∨ k ∈ x.blks), fun k hk => by simp at hk; rw [hk]; exact (g3 p).2 (.inl ((h5 p).2 rfl)), f, star_p ⟨fun _ => Iff.rfl, hrow.own⟩ ⟨x, star_p ⟨fun _ => Iff.rfl, hB⟩ ⟨fun _ => Iff.rfl, hO⟩ fun k hk hk' => ?_⟩ fun k hk hk' => ?_, fun k hk => ?_⟩
    · rw [hk] at hk'; exact hO.ne hB (by decide) hk'
    · rcases hk' with rfl | hk'
      · exact hrow.own.ne hB (by decide) hk
      · exact hap k hk hk'
    · rcases hk with hk | rfl | hk
      · exact .inr (hrow.new k hk)
      · exact .inl ((g3 k).2 (.inl ((h5 k).2 rfl)))
      · exact .inr (hx k hk)
end Go.Proofs.YtflcdgkckfcofaaGreatDoor
