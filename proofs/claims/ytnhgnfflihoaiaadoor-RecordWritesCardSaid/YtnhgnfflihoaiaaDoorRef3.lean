/-
  Contracts of the reference's writer: an update's check, its body, Put, Count.
-/
import Derived.Test.YtnhgnfflihoaiaaDoorRef2
namespace Go.Proofs.YtnhgnfflihoaiaaDoor
open Go Go.Vc

theorem rmay_c (kind : Int) (key : ByteArray) (cnt cli : Int) (fin has : Bool) (data : Slc) (w : World) :
    Calls PP F_sherdref11_CheckUpdate #[.agg #[.int .i64 kind, .string key, .int .i64 cnt, .int .i64 cli, .bool fin, .bool has, data.v]] w (Rt fun v w' => v = .int .i64 (mayV kind key.size cnt cli fin has data.l) ∧ Fr [] w w') := by
  refine sim_sherdref11_CheckUpdate _ _ _ _ _ _ _ _ _ ?_
  unfold vc_sherdref11_CheckUpdate
  refine New.intro fun b w1 nb => New.intro fun e w2 ne => ne.blk.stoAll rfl fun w3 hE fE => ?_
  have hB := nb.blk.fr (ne.frS fE) (by simp)
  have f3 := nb.fr.then_ (ne.frS fE)
  refine ⟨_, hB.cell rfl, decide (kind ≠ 1) && decide (kind ≠ 2), fun h => ⟨_, hB.cell rfl, by rw [h]; rfl⟩, fun h => by rw [h]; rfl, decide (kind ≠ 1) && decide (kind ≠ 2) && decide (kind ≠ 3), fun h => ⟨_, hB.cell rfl, by rw [h]; rfl⟩, fun h => by rw [h]; rfl, fun h => ?_, fun h1 => ?_⟩
  · exact Rt.ok ⟨by rw [mayV, if_pos (by simp at h; simp; omega)], f3⟩
  have n1 : ¬ (decide (kind < 1) || decide (3 < kind)) = true := by
    intro h; simp at h h1; omega
  refine ⟨_, hB.cell rfl, decide ((key.size : Int) < 1) || decide (64 < (key.size : Int)), fun h => ⟨_, hB.cell rfl, by rw [h]; rfl⟩, fun h => by rw [h]; rfl, fun h => Rt.ok ⟨by rw [mayV, if_neg n1, if_pos h], f3⟩, fun h2 => ?_⟩
  have n2 : ¬ (decide ((key.size : Int) < 1) || decide (64 < (key.size : Int))) = true := by rw [h2]; simp
  refine ⟨_, hE.cell2 rfl, _, hE.cell2 rfl, call (rvalid_c _ _ _) ?_⟩
  rintro _ w4 ⟨rfl, f4⟩
  have hB4 := hB.fr f4 (by simp)
  have hE4 := hE.fr f4 (by simp)
  have f04 := f3.then_ f4
  refine ⟨_, rfl, !validV cnt cli || (decide (cnt = 0) && decide (cli = 0)), fun h => ⟨_, hE4.cell2 rfl, _, hE4.cell2 rfl, by rw [h]; rfl⟩, fun h => by rw [h]; rfl, fun h => Rt.ok ⟨?_, f04⟩, fun h3 => ?_⟩
  · rw [mayV, if_neg n1, if_neg n2, if_pos (by rw [Bool.or_comm]; exact h)]
  have n3 : ¬ ((decide (cnt = 0) && decide (cli = 0)) || !validV cnt cli) = true := by rw [Bool.or_comm, h3]; simp
  refine ⟨_, hB4.cell rfl, decide (kind = 3) && !fin, fun h => ⟨_, hE4.cell rfl, by rw [h]; rfl⟩, fun h => by rw [h]; rfl, decide (kind = 3) && !fin && !has, fun h => ⟨_, hE4.cell rfl, by rw [h]; rfl⟩, fun h => by rw [h]; rfl, fun h => Rt.ok ⟨by rw [mayV, if_neg n1, if_neg n2, if_neg n3, if_pos h], f04⟩, fun h4 => ?_⟩
  have n4 : ¬ (decide (kind = 3) && !fin && !has) = true := by rw [h4]; simp
  refine ⟨_, hB4.cell rfl, decide (kind = 1) || (decide (kind = 3) && has), fun h => ⟨_, hB4.cell rfl, decide (kind = 3) && has, fun h' => ⟨_, hE4.cell rfl, by rw [h']; rfl⟩, fun h' => by rw [h']; rfl, by rw [h]; rfl⟩, fun h => by rw [h]; rfl, (decide (kind = 1) || (decide (kind = 3) && has)) && decide (65540 < (data.l : Int)), fun h => ⟨data, hE4.cell rfl, by rw [h]; rfl⟩, fun h => by rw [h]; rfl, fun h => Rt.ok ⟨?_, f04⟩, fun h => Rt.ok ⟨?_, f04⟩⟩
  · rw [mayV, if_neg n1, if_neg n2, if_neg n3, if_neg n4, if_pos h]
  · rw [mayV, if_neg n1, if_neg n2, if_neg n3, if_neg n4, if_neg (by rw [h]; simp)]

theorem rbody_c {kind cnt cli : Nat} {key : ByteArray} {fin has : Bool} {data : Slc} {ds : List UInt8} {w : World} (h : mayV kind key.size cnt cli fin has ds.length = 0) (hd : Byt w data ds) :
    Calls PP F_sherdref11_body #[.agg #[.int .i64 (kind : Int), .string key, .int .i64 (cnt : Int), .int .i64 (cli : Int), .bool fin, .bool has, data.v]] w (Rt fun v w' => ∃ s : Slc, v = s.v ∧ Made w w' s (bodyBs kind key cnt cli fin has ds)) := by
  obtain ⟨h1, h2, h3, h4, h5, h6⟩ := may_ok h
  have hlen := bodyBs_len h
  have a := uv_len9 (n := key.size) (by omega)
  have b := uv_len9 (n := cnt) (by omega)
  have c := uv_len9 (n := cli) (by omega)
  have hk : key.data.toList.length = key.size := by simp
  refine sim_sherdref11_body _ _ _ _ _ _ _ _ _ ?_
  unfold vc_sherdref11_body
  refine New.intro fun p w1 nb => New.intro fun e wE ne => ne.blk.stoAll rfl fun wS hE fE => call (qw_new _) ?_
  rintro _ w2 ⟨q, rfl, hP⟩
  have hB := nb.blk.fr (ne.frS fE) (by simp)
  have nbfr := nb.fr.then_ (ne.frS fE)
  have e0 : wr .u8 (kind : Int) = ((UInt8.ofNat kind).toNat : Int) := by rw [u8_ofNat (by omega), wr8u (by omega) (by omega)]
  refine ⟨_, rfl, _, (hB.fr hP.fr (by simp)).cell rfl, ?_⟩
  rw [e0]
  refine call (qw_byte hP (by simp)) ?_
  rintro _ w3 ⟨rfl, hP⟩
  refine ⟨rfl, _, (hB.fr hP.fr (by simp)).cell rfl, call (qw_text hP (by simp; omega)) ?_⟩
  rintro _ w4 ⟨rfl, hP⟩
  refine ⟨rfl, _, (hE.fr hP.fr (by simp)).cell2 rfl, call (qw_uint hP (by omega) (by simp; omega)) ?_⟩
  rintro _ w5 ⟨rfl, hP⟩
  refine ⟨rfl, _, (hE.fr hP.fr (by simp)).cell2 rfl, call (qw_uint hP (by omega) (by simp; omega)) ?_⟩
  rintro _ w6 ⟨rfl, hP⟩
  refine ⟨rfl, ?_⟩
  refine ⟨fun w' => QWL wS w' q ([UInt8.ofNat kind] ++ uv key.size ++ key.data.toList ++ uv cnt ++ uv cli ++ (if kind = 3 then [bit fin, bit has] else [])), ⟨_, (hB.fr hP.fr (by simp)).cell rfl, fun hk3 => ?_, fun hk3 => ?_⟩, ?_⟩
  · simp at hk3
    refine ⟨_, (hE.fr hP.fr (by simp)).cell rfl, call (qw_bool hP (by simp; omega)) ?_⟩
    rintro _ w7 ⟨rfl, hP⟩
    refine ⟨rfl, _, (hE.fr hP.fr (by simp)).cell rfl, call (qw_bool hP (by simp; omega)) ?_⟩
    rintro _ w8 ⟨rfl, hP⟩
    refine ⟨rfl, ?_⟩
    rw [if_pos (by omega)]
    simpa [bit] using hP
  · simp at hk3
    rw [if_neg (by omega)]
    simpa using hP
  · rintro w7 hP
    refine ⟨fun w' => QWL wS w' q (bodyBs kind key cnt cli fin has ds), ⟨_, (hB.fr hP.fr (by simp)).cell rfl, usesV kind has, fun h => ⟨_, (hB.fr hP.fr (by simp)).cell rfl, decide ((kind : Int) = 3) && has, fun h' => ⟨_, (hE.fr hP.fr (by simp)).cell rfl, by rw [h']; rfl⟩, fun h' => by rw [h']; rfl, by rw [usesV, h]; rfl⟩, fun h => by rw [usesV, h]; rfl, fun hu => ?_, fun hu => ?_⟩, ?_⟩
    · have h7 := h6 hu
      have hd9 := uv_len9 (n := ds.length) (by omega)
      refine ⟨_, (hE.fr hP.fr (by simp)).cell rfl, call (qw_bytes hP (hd.fr0 nbfr) ?_) ?_⟩
      · split <;> simp <;> omega
      · rintro _ w8 ⟨rfl, hP⟩
        refine ⟨rfl, ?_⟩
        unfold bodyBs
        rw [if_pos hu]
        simpa using hP
    · unfold bodyBs
      rw [if_neg (show ¬ usesV (kind : Int) has = true by rw [hu]; simp)]
      simpa using hP
    · intro w8 hP
      refine call (qw_data hP (by omega)) ?_
      rintro _ w9 ⟨s, rfl, hM⟩
      exact ⟨s, rfl, Rt.ok ⟨s, rfl, hM.since (nbfr.then_ hP.fr)⟩⟩

theorem QRW.fr {S : List Nat} {w w' : World} {p : Nat} {last : List UInt8} {n : Int} (h : QRW w p last n) (f : Fr S w w') (hp : p ∉ S) (hS : ∀ b cs, Blk w b Ty_uint8 cs → b ∉ S) : QRW w' p last n := by
  obtain ⟨ls, hB, hO⟩ := h
  refine ⟨ls, hB.fr f hp, hO.fr f fun k hk => ?_⟩
  rcases hO.2 with ⟨h1, _⟩ | ⟨g, cap, cur, h1, _, h3, _⟩
  · injection h1 with h4
    unfold Slc.blks at hk
    rw [h4] at hk
    simp at hk
  · injection h1 with h4
    unfold Slc.blks at hk
    rw [h4] at hk
    simp at hk
    subst hk
    exact hS _ _ h3
theorem rput_c {p : Nat} {last : List UInt8} {n : Nat} {kind cnt cli : Int} {key : ByteArray} {fin has : Bool} {data : Slc} {ds : List UInt8} {w : World} (hR : QRW w p last (n : Int)) (hl : last.length = 4) (hn : n < 9223372036854775807) (hd : Byt w data ds) :
    Calls PP F_sherdref11_Writer_Put #[.pointer (some (blk p)), .agg #[.int .i64 kind, .string key, .int .i64 cnt, .int .i64 cli, .bool fin, .bool has, data.v]] w (Rt fun v w' =>
      (mayV kind key.size cnt cli fin has ds.length ≠ 0 ∧ v = .tuple #[Slc.nil.v, .int .i64 (mayV kind key.size cnt cli fin has ds.length)] ∧ Fr [] w w') ∨
      (mayV kind key.size cnt cli fin has ds.length = 0 ∧ ∃ s body, body = bodyBs kind.toNat key cnt.toNat cli.toNat fin has ds ∧ v = .tuple #[Slc.v s, .int .i64 0] ∧ Row w w' s (recPre body ++ recSum last body) ∧ Fr [p] w w' ∧ QRW w' p (recSum last body) ((n + 1 : Nat) : Int))) := by
  have hdl := hd.len
  obtain ⟨ls, hBw, hOw⟩ := hR
  refine sim_sherdref11_Writer_Put _ _ _ _ _ _ _ _ _ _ ?_
  unfold vc_sherdref11_Writer_Put
  refine New.intro fun b w1 nb => call (rmay_c _ _ _ _ _ _ _ _) ?_
  rintro _ w2 ⟨rfl, f2⟩
  rw [hdl]
  have f02 := nb.fr.then_ f2
  refine ⟨_, rfl, fun h => Rt.ok (.inl ⟨by simpa using h, rfl, f02⟩), fun h => ?_⟩
  simp only [ne_eq, decide_not, Bool.not_eq_false', decide_eq_true_eq] at h
  obtain ⟨h1, h2, h3, h4, h5, h6⟩ := may_ok h
  obtain ⟨kind, rfl⟩ := Int.eq_ofNat_of_zero_le (by omega : 0 ≤ kind)
  obtain ⟨cnt, rfl⟩ := Int.eq_ofNat_of_zero_le (by omega : 0 ≤ cnt)
  obtain ⟨cli, rfl⟩ := Int.eq_ofNat_of_zero_le (by omega : 0 ≤ cli)
  have hbl := bodyBs_len h
  have hb9 := uv_len9 (n := (bodyBs kind key cnt cli fin has ds).length) (by omega)
  have hB := nb.blk.fr f2 (by simp)
  refine call (qw_new _) ?_
  rintro _ w3 ⟨q, rfl, hP⟩
  refine ⟨_, rfl, call (qw_byte (x := 82) hP (by simp)) ?_⟩
  rintro _ w4 ⟨rfl, hP⟩
  have hB4 := hB.fr hP.fr (by simp)
  have f04 := f02.then_ hP.fr
  refine ⟨rfl, _, hB4.cell rfl, _, hB4.cell rfl, _, hB4.cell rfl, _, hB4.cell rfl, _, hB4.cell rfl, _, hB4.cell rfl, _, hB4.cell rfl, ?_⟩
  refine call (rbody_c h (hd.fr0 f04)) ?_
  rintro _ w5 ⟨y, rfl, hY⟩
  refine ⟨y, rfl, call (qw_bytes2 hP hY.fr hY.byt hY.new (by simp; omega)) ?_⟩
  rintro _ w6 ⟨rfl, hP6⟩
  have e82 : [] ++ [82] ++ uv (bodyBs kind key cnt cli fin has ds).length ++ bodyBs kind key cnt cli fin has ds = recPre (bodyBs kind key cnt cli fin has ds) := by simp [recPre]
  rw [e82] at hP6
  have hrl : (recPre (bodyBs kind key cnt cli fin has ds)).length ≤ 65710 := by simp [recPre]; omega
  refine ⟨rfl, call (qw_data hP6 (by omega)) ?_⟩
  rintro _ w7 ⟨z, rfl, hZ⟩
  have f07 := (f02.then_ hP6.fr).then_ hZ.fr
  have hBw7 := hBw.fr f07 (by simp)
  have hOw7 := hOw.fr0 f07
  have hls : Byt w7 ls last := hOw7.cel
  refine ⟨z, rfl, blk p, rfl, ls, hBw7.cell rfl, call (summed_c hls hZ.byt (by omega)) ?_⟩
  rintro _ w9 ⟨x, rfl, hX⟩
  have f79 := hX.fr
  have f09 := f07.then_ f79
  have hBw9 := hBw7.fr f79 (by simp)
  refine ⟨x, rfl, hBw9.sto (lt_ rfl) fun w10 hBa fa => ⟨_, hBa.cell rfl, ?_⟩⟩
  rw [wr64 (by omega) (by omega)]
  refine hBa.sto (lt_ rfl) fun w11 hBb fb => ⟨x, hBb.cell rfl, ?_⟩
  have fab : Fr [p] w9 w11 := fa.local_ fb fun _ hx => .inl hx
  have hpx : ∀ k ∈ x.blks, k ∉ [p] := fun k hk hx => by
    simp at hx
    subst hx
    exact hX.own.ne hBw9 (by decide) hk
  have hpz : ∀ k ∈ z.blks, k ∉ [p] := fun k hk hx => by
    simp at hx
    subst hx
    exact (hZ.own.fr0 f79).ne hBw9 (by decide) hk
  have hX11 : Own Ty_uint8 1 w11 x ((recSum last (bodyBs kind key cnt cli fin has ds)).map u8v) := hX.own.fr fab hpx
  have hZ11 : Own Ty_uint8 1 w11 z ((recPre (bodyBs kind key cnt cli fin has ds)).map u8v) := (hZ.own.fr0 f79).fr fab hpz
  have hsl : (recSum last (bodyBs kind key cnt cli fin has ds)).length = 4 := le4_len _
  have hzl : z.l = (recPre (bodyBs kind key cnt cli fin has ds)).length := hZ.byt.len
  have hxl : x.l = 4 := by have := hX.byt.len; rw [this]; exact le4_len _
  have f9s := f09.size
  have fabs := fab.size
  refine App.own slT_sl_uint8 hZ11 hX11.cel (one_u8 _) (by unfold maxLen; omega) (by omega) fun u w12 hU hul fU hUb => ?_
  have hzn : ∀ k ∈ z.blks, w.heap.size ≤ k := fun k hk => Nat.le_trans (f02.then_ hP6.fr).size (hZ.new k hk)
  have fall : Fr [p] w w12 := ((f09.sub (T := [p]) fun k hk => absurd hk (by simp)).local_ fab fun _ hx => .inl hx).local_ fU fun k hk => .inr (hzn k hk)
  have hpn : p ∉ z.blks := fun hx => by have := hzn p hx; have := hBw.lt; omega
  refine Rt.ok (.inr ⟨h, u, _, rfl, rfl, ⟨?_, fun k hk => ?_⟩, fall, ⟨x, ?_, hX11.fr fU fun k hk hz => ?_⟩⟩)
  · simpa using hU
  · rcases hUb k hk with h8 | h8
    · exact hzn k h8
    · omega
  · have := hBb.fr fU hpn
    simpa using this
  · have h8 := hX.new k hk
    have h9 := hZ.own.lt k hz
    omega
theorem rcount_c {p : Nat} {last : List UInt8} {n : Int} {w : World} (hR : QRW w p last n) : Calls PP F_sherdref11_Writer_Count #[.pointer (some (blk p))] w (Rt fun v w' => v = .int .i64 n ∧ w = w') := by
  obtain ⟨ls, hB, _⟩ := hR
  refine sim_sherdref11_Writer_Count _ _ _ ?_
  unfold vc_sherdref11_Writer_Count
  exact ⟨_, rfl, n, hB.cell rfl, Rt.ok ⟨rfl, rfl⟩⟩
end Go.Proofs.YtnhgnfflihoaiaaDoor
