/-
  Contracts of package record's writer, continued: a record's body, Put, Count.
-/
import Derived.Test.YtnhgnfflihoaiaaDoorRecord
namespace Go.Proofs.YtnhgnfflihoaiaaDoor
open Go Go.Vc

/-- Does an update use its data? -/
def usesV (kind : Int) (has : Bool) : Bool := decide (kind = 1) || (decide (kind = 3) && has)
theorem may_ok {kind : Int} {kl : Nat} {cnt cli : Int} {fin has : Bool} {dl : Nat} (h : mayV kind kl cnt cli fin has dl = 0) :
    (1 ≤ kind ∧ kind ≤ 3) ∧ (1 ≤ kl ∧ kl ≤ 64) ∧ (1 ≤ cnt ∧ cnt ≤ 4611686018427387903) ∧ (1 ≤ cli ∧ cli ≤ 65535) ∧ (kind = 3 → fin = true ∨ has = true) ∧ (usesV kind has = true → dl ≤ 65540) := by
  unfold mayV at h
  split at h
  · cases h
  · rename_i h1
    split at h
    · cases h
    · rename_i h2
      split at h
      · cases h
      · rename_i h3
        split at h
        · cases h
        · rename_i h4
          split at h
          · cases h
          · rename_i h5
            simp [validV, properV] at h1 h2 h3 h4 h5
            have h6 := h3.2 (by by_cases hc : cnt = 0; exact .inr (h3.1 hc); exact .inl hc)
            refine ⟨by omega, by omega, by omega, by omega, ?_, ?_⟩
            · intro hk
              have := h4 hk
              cases fin <;> cases has <;> simp_all
            · intro hu
              simp [usesV] at hu
              have := h5 hu
              omega
def bit (b : Bool) : UInt8 := if b then 1 else 0
/-- A record's body. -/
def bodyBs (kind : Nat) (key : ByteArray) (cnt cli : Nat) (fin has : Bool) (ds : List UInt8) : List UInt8 :=
  [UInt8.ofNat kind] ++ uv key.size ++ key.data.toList ++ uv cnt ++ uv cli ++ (if kind = 3 then [bit fin, bit has] else []) ++ (if usesV kind has then uv ds.length ++ ds else [])
theorem bodyBs_len {kind : Nat} {key : ByteArray} {cnt cli : Nat} {fin has : Bool} {ds : List UInt8} (h : mayV kind key.size cnt cli fin has ds.length = 0) : (bodyBs kind key cnt cli fin has ds).length ≤ 65700 := by
  obtain ⟨h1, h2, h3, h4, h5, h6⟩ := may_ok h
  have a := uv_len9 (n := key.size) (by omega)
  have b := uv_len9 (n := cnt) (by omega)
  have c := uv_len9 (n := cli) (by omega)
  have hk : key.data.toList.length = key.size := by simp
  unfold bodyBs
  by_cases hu : usesV kind has = true
  · have := h6 hu
    have d := uv_len9 (n := ds.length) (by omega)
    rw [if_pos hu]
    split <;> simp <;> omega
  · rw [if_neg hu]
    split <;> simp <;> omega
theorem body_c {kind cnt cli : Nat} {key : ByteArray} {fin has : Bool} {data : Slc} {ds : List UInt8} {w : World} (h : mayV kind key.size cnt cli fin has ds.length = 0) (hd : Byt w data ds) :
    Calls PP F_record_body #[.agg #[.int .i64 (kind : Int), .string key, .int .i64 (cnt : Int), .int .i64 (cli : Int), .bool fin, .bool has, data.v]] w (Rt fun v w' => ∃ s : Slc, v = s.v ∧ Made w w' s (bodyBs kind key cnt cli fin has ds)) := by
  obtain ⟨h1, h2, h3, h4, h5, h6⟩ := may_ok h
  have hlen := bodyBs_len h
  have a := uv_len9 (n := key.size) (by omega)
  have b := uv_len9 (n := cnt) (by omega)
  have c := uv_len9 (n := cli) (by omega)
  have hk : key.data.toList.length = key.size := by simp
  refine sim_record_body _ _ _ _ _ _ _ _ _ ?_
  unfold vc_record_body
  refine New.intro fun p w1 nb => call (pw_new _) ?_
  rintro _ w2 ⟨q, rfl, hP⟩
  have hB := nb.blk
  have e0 : wr .u8 (kind : Int) = ((UInt8.ofNat kind).toNat : Int) := by rw [u8_ofNat (by omega), wr8u (by omega) (by omega)]
  refine ⟨_, rfl, _, (hB.fr hP.fr (by simp)).cell rfl, ?_⟩
  rw [e0]
  refine call (pw_byte hP (by simp)) ?_
  rintro _ w3 ⟨rfl, hP⟩
  refine ⟨rfl, _, (hB.fr hP.fr (by simp)).cell rfl, call (pw_text hP (by simp; omega)) ?_⟩
  rintro _ w4 ⟨rfl, hP⟩
  refine ⟨rfl, _, (hB.fr hP.fr (by simp)).cell3 rfl, call (pw_uint hP (by omega) (by simp; omega)) ?_⟩
  rintro _ w5 ⟨rfl, hP⟩
  refine ⟨rfl, _, (hB.fr hP.fr (by simp)).cell3 rfl, call (pw_uint hP (by omega) (by simp; omega)) ?_⟩
  rintro _ w6 ⟨rfl, hP⟩
  refine ⟨rfl, _, (hB.fr hP.fr (by simp)).cell rfl, ?_⟩
  refine ⟨fun x w' => x = usesV kind has ∧ PWL w1 w' q ([UInt8.ofNat kind] ++ uv key.size ++ key.data.toList ++ uv cnt ++ uv cli ++ (if kind = 3 then [bit fin, bit has] else [])), ⟨_, (hB.fr hP.fr (by simp)).cell rfl, fun hk3 => ?_, fun hk3 => ?_⟩, ?_⟩
  · simp at hk3
    refine ⟨_, (hB.fr hP.fr (by simp)).cell2 rfl, call (pw_bool hP (by simp; omega)) ?_⟩
    rintro _ w7 ⟨rfl, hP⟩
    refine ⟨rfl, _, (hB.fr hP.fr (by simp)).cell2 rfl, call (pw_bool hP (by simp; omega)) ?_⟩
    rintro _ w8 ⟨rfl, hP⟩
    refine ⟨rfl, _, (hB.fr hP.fr (by simp)).cell2 rfl, ?_, ?_⟩
    · have hk4 : kind = 3 := by omega
      subst hk4
      simp [usesV]
    · rw [if_pos (by omega)]
      simpa [bit] using hP
  · simp at hk3
    refine ⟨?_, ?_⟩
    · simp [usesV, hk3]
    · rw [if_neg (by omega)]
      simpa using hP
  · rintro _ w7 ⟨rfl, hP⟩
    refine ⟨fun w' => PWL w1 w' q (bodyBs kind key cnt cli fin has ds), ⟨fun hu => ?_, fun hu => ?_⟩, ?_⟩
    · have h7 := h6 hu
      have hd9 := uv_len9 (n := ds.length) (by omega)
      refine ⟨_, (hB.fr hP.fr (by simp)).cell2 rfl, call (pw_bytes hP (hd.fr0 nb.fr) ?_) ?_⟩
      · split <;> simp <;> omega
      · rintro _ w8 ⟨rfl, hP⟩
        refine ⟨rfl, ?_⟩
        unfold bodyBs
        rw [if_pos hu]
        simpa using hP
    · unfold bodyBs
      rw [if_neg (show ¬ usesV (kind : Int) has = true by rw [hu]; simp)]
      simpa using hP
    · intro w8 hP
      refine call (pw_data hP (by omega)) ?_
      rintro _ w9 ⟨s, rfl, hM⟩
      exact ⟨s, rfl, Rt.ok ⟨s, rfl, hM.since (nb.fr.then_ hP.fr)⟩⟩

/-- A record ahead of its sum; and its sum. -/
def recPre (body : List UInt8) : List UInt8 := [82] ++ uv body.length ++ body
def recSum (last body : List UInt8) : List UInt8 := le4 (crc (last ++ recPre body))
theorem put_c {p : Nat} {last : List UInt8} {n : Nat} {kind cnt cli : Int} {key : ByteArray} {fin has : Bool} {data : Slc} {ds : List UInt8} {w : World} (hG : GT w) (hg : G_sum_steps ≠ p) (hR : RW w p last (n : Int)) (hl : last.length = 4) (hn : n < 9223372036854775807) (hd : Byt w data ds) :
    Calls PP F_record_Writer_Put #[.pointer (some (blk p)), .agg #[.int .i64 kind, .string key, .int .i64 cnt, .int .i64 cli, .bool fin, .bool has, data.v]] w (Rt fun v w' =>
      (mayV kind key.size cnt cli fin has ds.length ≠ 0 ∧ v = .tuple #[Slc.nil.v, .int .i64 (mayV kind key.size cnt cli fin has ds.length)] ∧ Fr [] w w') ∨
      (mayV kind key.size cnt cli fin has ds.length = 0 ∧ ∃ s body, body = bodyBs kind.toNat key cnt.toNat cli.toNat fin has ds ∧ v = .tuple #[Slc.v s, .int .i64 0] ∧ Row w w' s (recPre body ++ recSum last body) ∧ Fr [p] w w' ∧ RW w' p (recSum last body) ((n + 1 : Nat) : Int))) := by
  have hdl := hd.len
  obtain ⟨ls, hBw, hOw⟩ := hR
  refine sim_record_Writer_Put _ _ _ _ _ _ _ _ _ _ ?_
  unfold vc_record_Writer_Put
  refine New.intro fun b w1 nb => ⟨by simp, fun _ => call (may_c _ _ _ _ _ _ _ _) ?_⟩
  rintro _ w2 ⟨rfl, f2⟩
  rw [hdl]
  have f02 := nb.fr.then_ f2
  refine ⟨_, rfl, fun h => Rt.ok (.inl ⟨by simpa using h, rfl, f02⟩), fun h => ?_⟩
  simp only [ne_eq, decide_not, Bool.not_eq_false', decide_eq_true_eq] at h
  obtain ⟨h1, h2, h3, h4, h5, h6⟩ := may_ok h
  obtain ⟨kind, rfl⟩ := Int.eq_ofNat_of_zero_le (by omega : 0 ≤ kind)
  obtain ⟨cnt, rfl⟩ := Int.eq_ofNat_of_zero_le (by omega : 0 ≤ cnt)
  obtain ⟨cli, rfl⟩ := Int.eq_ofNat_of_zero_le (by omega : 0 ≤ cli)
  have hbl := bodyBs_len h
  have hb9 := uv_len9 (n := (bodyBs kind key cnt cli fin has ds).length) (by omega)
  have hB := nb.blk.fr f2 (by simp)
  refine call (pw_new _) ?_
  rintro _ w3 ⟨q, rfl, hP⟩
  refine ⟨_, rfl, call (pw_byte (x := 82) hP (by simp)) ?_⟩
  rintro _ w4 ⟨rfl, hP⟩
  have hB4 := hB.fr hP.fr (by simp)
  have f04 := f02.then_ hP.fr
  refine ⟨rfl, _, hB4.cell rfl, _, hB4.cell rfl, _, hB4.cell rfl, _, hB4.cell rfl, _, hB4.cell rfl, _, hB4.cell rfl, _, hB4.cell rfl, ?_⟩
  refine call (body_c h (hd.fr0 f04)) ?_
  rintro _ w5 ⟨y, rfl, hY⟩
  refine ⟨y, rfl, call (pw_bytes2 hP hY.fr hY.byt hY.new (by simp; omega)) ?_⟩
  rintro _ w6 ⟨rfl, hP6⟩
  have e82 : [] ++ [82] ++ uv (bodyBs kind key cnt cli fin has ds).length ++ bodyBs kind key cnt cli fin has ds = recPre (bodyBs kind key cnt cli fin has ds) := by simp [recPre]
  rw [e82] at hP6
  have hrl : (recPre (bodyBs kind key cnt cli fin has ds)).length ≤ 65710 := by simp [recPre]; omega
  refine ⟨rfl, call (pw_data hP6 (by omega)) ?_⟩
  rintro _ w7 ⟨z, rfl, hZ⟩
  have f07 := (f02.then_ hP6.fr).then_ hZ.fr
  have hBw7 := hBw.fr f07 (by simp)
  have hOw7 := hOw.fr0 f07
  have hG7 := hG.fr0 f07
  refine ⟨z, rfl, blk p, rfl, ls, hBw7.cell rfl, New.intro fun b2 w8 nb2 => ?_⟩
  have hls : Byt w7 ls last := hOw7.cel
  refine call (of_c (hG7.fr0 nb2.fr) (Parts.two hls hZ.byt nb2) (by simp; omega) (by simp)) ?_
  rintro _ _ ⟨rfl, rfl⟩
  have ecrc : ([last, recPre (bodyBs kind key cnt cli fin has ds)] : List (List UInt8)).flatten = last ++ recPre (bodyBs kind key cnt cli fin has ds) := by simp
  rw [ecrc]
  refine ⟨_, rfl, call (four_c _ _) ?_⟩
  rintro _ w9 ⟨x, rfl, hX⟩
  have f79 := nb2.fr.then_ hX.fr
  have f09 := f07.then_ f79
  have hBw9 := hBw7.fr f79 (by simp)
  refine ⟨x, rfl, hBw9.sto (lt_ rfl) fun w10 hBa fa => ⟨_, hBa.cell rfl, ?_⟩⟩
  rw [wr64 (by omega) (by omega)]
  refine hBa.sto (lt_ rfl) fun w11 hBb fb => ⟨x, hBb.cell rfl, New.intro fun b3 w12 nb3 => ?_⟩
  have fab : Fr [p] w9 w11 := fa.local_ fb fun _ hx => .inl hx
  have hpx : ∀ k ∈ x.blks, k ∉ [p] := fun k hk hx => by
    simp at hx
    subst hx
    exact hX.own.ne hBw9 (by decide) hk
  have hpz : ∀ k ∈ z.blks, k ∉ [p] := fun k hk hx => by
    simp at hx
    subst hx
    exact (hZ.own.fr0 f79).ne hBw9 (by decide) hk
  have hX11 : Own Ty_uint8 1 w11 x ((recSum last (bodyBs kind key cnt cli fin has ds)).map u8v) := hX.own.fr fab hpx
  have hZ11 : Own Ty_uint8 1 w11 z ((recPre (bodyBs kind key cnt cli fin has ds)).map u8v) := (hZ.own.fr0 f79).fr fab hpz
  have hsl : (recSum last (bodyBs kind key cnt cli fin has ds)).length = 4 := le4_len _
  refine call (concat_c (Parts.two (bs := recPre (bodyBs kind key cnt cli fin has ds)) (cs := recSum last (bodyBs kind key cnt cli fin has ds)) hZ11.cel hX11.cel nb3) (by simp; omega) (by simp)) ?_
  rintro _ w13 ⟨u, rfl, hU⟩
  have f11 : Fr [] w11 w13 := nb3.fr.then_ hU.fr
  have fall : Fr [p] w w13 := ((f09.sub (T := [p]) fun k hk => absurd hk (by simp)).local_ fab fun _ hx => .inl hx).then_ f11
  refine ⟨u, rfl, Rt.ok (.inr ⟨h, u, _, rfl, rfl, ⟨?_, fun k hk => ?_⟩, fall, ⟨x, ?_, hX11.fr0 f11⟩⟩)⟩
  · have := hU.own
    simpa using this
  · exact Nat.le_trans (Nat.le_trans (Nat.le_trans f09.size fab.size) nb3.fr.size) (hU.new k hk)
  · have := hBb.fr f11 (by simp)
    simpa using this
theorem count_c {p : Nat} {last : List UInt8} {n : Int} {w : World} (hR : RW w p last n) : Calls PP F_record_Writer_Count #[.pointer (some (blk p))] w (Rt fun v w' => v = .int .i64 n ∧ w = w') := by
  obtain ⟨ls, hB, _⟩ := hR
  refine sim_record_Writer_Count _ _ _ ?_
  unfold vc_record_Writer_Count
  exact ⟨by simp, fun _ => ⟨_, rfl, n, hB.cell rfl, Rt.ok ⟨rfl, rfl⟩⟩⟩
theorem RW.fr {S : List Nat} {w w' : World} {p : Nat} {last : List UInt8} {n : Int} (h : RW w p last n) (f : Fr S w w') (hp : p ∉ S) (hS : ∀ b cs, Blk w b Ty_uint8 cs → b ∉ S) : RW w' p last n := by
  obtain ⟨ls, hB, hO⟩ := h
  refine ⟨ls, hB.fr f hp, hO.fr f fun k hk => ?_⟩
  rcases hO.2 with ⟨h1, _⟩ | ⟨g, cap, cur, h1, _, h3, _⟩
  · injection h1 with h4
    unfold Slc.blks at hk
    rw [h4] at hk
    simp at hk
  · injection h1 with h4
    unfold Slc.blks at hk
    rw [h4] at hk
    simp at hk
    subst hk
    exact hS _ _ h3
/-- A nil writer. -/
theorem put_nil (kind cnt cli : Int) (key : ByteArray) (fin has : Bool) (data : Slc) (w : World) : Calls PP F_record_Writer_Put #[.pointer none, .agg #[.int .i64 kind, .string key, .int .i64 cnt, .int .i64 cli, .bool fin, .bool has, data.v]] w (Rt fun v w' => v = .tuple #[Slc.nil.v, .int .i64 0] ∧ Fr [] w w') := by
  refine sim_record_Writer_Put _ _ _ _ _ _ _ _ _ _ ?_
  unfold vc_record_Writer_Put
  exact New.intro fun b w1 nb => ⟨fun _ => Rt.ok ⟨rfl, nb.fr⟩, by simp⟩
theorem count_nil (w : World) : Calls PP F_record_Writer_Count #[.pointer none] w (Rt fun v w' => v = .int .i64 0 ∧ w = w') := by
  refine sim_record_Writer_Count _ _ _ ?_
  unfold vc_record_Writer_Count
  exact ⟨fun _ => Rt.ok ⟨rfl, rfl⟩, by simp⟩
end Go.Proofs.YtnhgnfflihoaiaaDoor
