/-
  Contracts of package record's writer: the head, each record, the count.
-/
import Derived.Test.YtflcdgkckfcofaaGreatDoorSums
namespace Go.Proofs.YtflcdgkckfcofaaGreatDoor
open Go Go.Vc

theorem zero_c (a b : Int) (w : World) : Calls PP F_tag_Zero #[.agg #[.int .i64 a, .int .i64 b]] w (Rt fun v w' => v = .bool (decide (a = 0) && decide (b = 0)) ∧ Fr [] w w') := by
  refine sim_tag_Zero _ _ _ _ ?_
  unfold vc_tag_Zero
  exact New.intro fun _ _ nb => Rt.ok ⟨rfl, nb.fr⟩
def properV (a b : Int) : Bool := decide (1 ≤ a) && decide (a ≤ 4611686018427387903) && decide (1 ≤ b) && decide (b ≤ 65535)
theorem proper_c (a b : Int) (w : World) : Calls PP F_tag_proper #[.agg #[.int .i64 a, .int .i64 b]] w (Rt fun v w' => v = .bool (properV a b) ∧ Fr [] w w') := by
  refine sim_tag_proper _ _ _ _ ?_
  unfold vc_tag_proper
  exact New.intro fun _ _ nb => Rt.ok ⟨rfl, nb.fr⟩
def validV (a b : Int) : Bool := (decide (a = 0) && decide (b = 0)) || properV a b
theorem valid_c (a b : Int) (w : World) : Calls PP F_tag_Valid #[.agg #[.int .i64 a, .int .i64 b]] w (Rt fun v w' => v = .bool (validV a b) ∧ Fr [] w w') := by
  refine sim_tag_Valid _ _ _ _ ?_
  unfold vc_tag_Valid
  refine New.intro fun p w1 nb => call (zero_c _ _ _) ?_
  rintro _ w2 ⟨rfl, f2⟩
  have hB := nb.blk.fr f2 (by simp)
  refine ⟨_, rfl, fun x w' => x = validV a b ∧ Fr [] w w', ⟨fun h => ⟨_, hB.cell rfl, _, hB.cell rfl, call (proper_c _ _ _) ?_⟩, fun h => ⟨by simp [validV, h], nb.fr.then_ f2⟩⟩, ?_⟩
  · rintro _ w3 ⟨rfl, f3⟩
    exact ⟨_, rfl, by rw [validV, h]; rfl, (nb.fr.then_ f2).then_ f3⟩
  · rintro _ w3 ⟨rfl, f3⟩
    exact Rt.ok ⟨rfl, f3⟩
def checkV (n k d : Int) : Int := if decide (k < 1) || decide (n < k) || decide (255 < n) || decide (d < 0) || decide (4611686018427387903 < d) then 40 else 0
theorem check_c (n k d : Int) (w : World) : Calls PP F_quorum_Check #[.agg #[.int .i64 n, .int .i64 k, .int .i64 d]] w (Rt fun v w' => v = .int .i64 (checkV n k d) ∧ Fr [] w w') := by
  refine sim_quorum_Check _ _ _ _ _ ?_
  unfold vc_quorum_Check
  refine New.intro fun _ _ nb => ⟨fun h => Rt.ok ⟨?_, nb.fr⟩, fun h => Rt.ok ⟨?_, nb.fr⟩⟩
  · rw [checkV, if_pos h]
  · rw [checkV, if_neg (by rw [h]; simp)]
def mayHeadV (n k d s : Int) : Int := if checkV n k d ≠ 0 then checkV n k d else if decide (s < 0) || decide (n ≤ s) then 51 else 0
theorem mayHead_c (n k d s : Int) (w : World) : Calls PP F_record_mayHead #[.agg #[.int .i64 n, .int .i64 k, .int .i64 d, .int .i64 s]] w (Rt fun v w' => v = .int .i64 (mayHeadV n k d s) ∧ Fr [] w w') := by
  refine sim_record_mayHead _ _ _ _ _ _ ?_
  unfold vc_record_mayHead
  refine New.intro fun p w1 nb => call (check_c _ _ _ _) ?_
  rintro _ w2 ⟨rfl, f2⟩
  have hB := nb.blk.fr f2 (by simp)
  refine ⟨_, rfl, fun h => Rt.ok ⟨?_, nb.fr.then_ f2⟩, fun h => ⟨_, hB.cell rfl, decide (s < 0) || decide (n ≤ s), fun h1 => ⟨_, hB.cell rfl, _, hB.cell2 rfl, by rw [h1]; rfl⟩, fun h1 => by rw [h1]; rfl, fun h1 => Rt.ok ⟨?_, nb.fr.then_ f2⟩, fun h1 => Rt.ok ⟨?_, nb.fr.then_ f2⟩⟩⟩
  · rw [mayHeadV, if_pos (by simpa using h)]
  · rw [mayHeadV, if_neg (by simpa using h), if_pos h1]
  · rw [mayHeadV, if_neg (by simpa using h), if_neg (by rw [h1]; simp)]
theorem mayHead_ok {n k d s : Int} (h : mayHeadV n k d s = 0) : 1 ≤ k ∧ k ≤ n ∧ n ≤ 255 ∧ 0 ≤ d ∧ d ≤ 4611686018427387903 ∧ 0 ≤ s ∧ s < n := by
  unfold mayHeadV at h
  split at h
  · rename_i h1; exact absurd h h1
  · rename_i h1
    split at h
    · cases h
    · rename_i h2
      simp only [ne_eq, Decidable.not_not] at h1
      unfold checkV at h1
      split at h1
      · cases h1
      · rename_i h3
        simp at h2 h3
        omega

def headPre (n k d s : Nat) : List UInt8 := [72] ++ uv n ++ uv k ++ uv d ++ uv s
def headBs (n k d s : Nat) : List UInt8 := headPre n k d s ++ le4 (crc (headPre n k d s))
theorem headPre_len {n k d s : Nat} (h0 : n < 9223372036854775808) (h1 : k < 9223372036854775808) (h2 : d < 9223372036854775808) (h3 : s < 9223372036854775808) : (headPre n k d s).length ≤ 37 := by
  have a := uv_len9 h0; have b := uv_len9 h1; have c := uv_len9 h2; have e := uv_len9 h3
  simp [headPre]; omega
theorem headOf_c {n k d s : Nat} (h0 : n < 9223372036854775808) (h1 : k < 9223372036854775808) (h2 : d < 9223372036854775808) (h3 : s < 9223372036854775808) {w : World} (hG : GT w) :
    Calls PP F_record_headOf #[.agg #[.int .i64 (n : Int), .int .i64 (k : Int), .int .i64 (d : Int), .int .i64 (s : Int)]] w (Rt fun v w' => ∃ z : Slc, v = z.v ∧ Made w w' z (headBs n k d s)) := by
  have hpl := headPre_len h0 h1 h2 h3
  refine sim_record_headOf _ _ _ _ _ _ ?_
  unfold vc_record_headOf
  refine New.intro fun p w1 nb => call (pw_new _) ?_
  rintro _ w2 ⟨q, rfl, hP⟩
  refine ⟨_, rfl, call (pw_byte (x := 72) hP (by simp)) ?_⟩
  rintro _ w3 ⟨rfl, hP⟩
  have hB := nb.blk.fr hP.fr (by simp)
  refine ⟨rfl, _, hB.cell2 rfl, _, hB.cell2 rfl, _, hB.cell2 rfl, _, hB.cell rfl, ?_⟩
  have hG3 : GT w3 := (hG.fr0 nb.fr).fr0 hP.fr
  have f03 : Fr [] w w3 := nb.fr.then_ hP.fr
  have nb1 := nb
  clear hB nb
  refine New.intro fun b w4 nb => ?_
  have hP4 := hP.more nb.fr
  have hl : ∀ i, i < 4 → ([n, k, d, s] : List Nat)[i]? = some (([n, k, d, s] : List Nat).getD i 0) := fun i hi => by
    rcases i with _ | _ | _ | _ | i <;> first | rfl | omega
  have hlt : ∀ i, i < 4 → ([n, k, d, s] : List Nat).getD i 0 < 9223372036854775808 := fun i hi => by
    rcases i with _ | _ | _ | _ | i <;> first | assumption | omega
  refine ⟨fun i w' => ∃ j : Nat, i = (j : Int) ∧ j ≤ 4 ∧ Blk w' b Ty_int #[.int .i64 (n : Int), .int .i64 (k : Int), .int .i64 (d : Int), .int .i64 (s : Int)] ∧ PWL w1 w' q ([72] ++ ((([n, k, d, s] : List Nat).take j).map uv).flatten), fun i _ => 4 - i.toNat, ⟨0, rfl, by omega, nb.blk, by simpa using hP4⟩, ?_⟩
  rintro _ w5 ⟨j, rfl, hj, hB5, hP5⟩
  refine ⟨fun hlt4 => ?_, fun hge => ?_⟩
  · simp at hlt4
    have hj4 : j < 4 := by omega
    have hcell := hB5.cell (i := j) (v := .int .i64 ((([n, k, d, s] : List Nat).getD j 0 : Nat) : Int)) (by
      have h : j = 0 ∨ j = 1 ∨ j = 2 ∨ j = 3 := by omega
      rcases h with h | h | h | h <;> subst h <;> rfl)
    refine ⟨_, rfl, by omega, by simp; omega, _, by simpa using hcell, ?_⟩
    have hb : ([72] ++ ((([n, k, d, s] : List Nat).take j).map uv).flatten).length ≤ 37 := by
      have a := uv_len9 h0; have b := uv_len9 h1; have c := uv_len9 h2; have e := uv_len9 h3
      have h : j = 0 ∨ j = 1 ∨ j = 2 ∨ j = 3 := by omega
      rcases h with h | h | h | h <;> subst h <;> simp <;> omega
    refine call (pw_uintK hP5 (hlt j hj4) (by omega)) ?_
    rintro _ w6 ⟨rfl, hP6, hK⟩
    refine ⟨rfl, ?_⟩
    rw [wr64 (by omega) (by omega)]
    refine ⟨⟨j + 1, rfl, by omega, hK _ _ _ (by decide) (by decide) hB5, ?_⟩, by dsimp only; omega⟩
    have e : (([n, k, d, s] : List Nat).take (j + 1)).map uv = ((([n, k, d, s] : List Nat).take j).map uv) ++ [uv (([n, k, d, s] : List Nat).getD j 0)] := by
      have h : j = 0 ∨ j = 1 ∨ j = 2 ∨ j = 3 := by omega
      rcases h with h | h | h | h <;> subst h <;> rfl
    rw [e, List.flatten_append, ← List.append_assoc]
    simpa using hP6
  · simp at hge
    have : j = 4 := by omega
    subst this
    have hpre : [72] ++ ((([n, k, d, s] : List Nat).take 4).map uv).flatten = headPre n k d s := by simp [headPre]
    rw [hpre] at hP5
    refine call (pw_data hP5 (by omega)) ?_
    rintro _ w6 ⟨z, rfl, hM⟩
    have hM := hM.since (nb1.fr.then_ hP5.fr)
    refine ⟨z, rfl, New.intro fun b2 w7 nb2 => call (of_c ((hG.fr0 hM.fr).fr0 nb2.fr) (Parts.one hM.byt nb2) (by simp; omega) (by simp)) ?_⟩
    rintro _ _ ⟨rfl, rfl⟩
    have hM := hM.more nb2.fr
    refine ⟨_, rfl, call (four_c _ _) ?_⟩
    rintro _ w8 ⟨y, rfl, hM8⟩
    have hM := hM.more hM8.fr
    refine ⟨y, rfl, New.intro fun b3 w9 nb3 => call (concat_c (Parts.two hM.byt hM8.byt nb3) (by simp [le4_len]; omega) (by simp)) ?_⟩
    rintro _ w10 ⟨u, rfl, hM10⟩
    have hM10 := hM10.since (hM.fr.then_ nb3.fr)
    refine ⟨u, rfl, Rt.ok ⟨u, rfl, ?_⟩⟩
    simpa [headBs] using hM10

structure RW (w : World) (p : Nat) (last : List UInt8) (cnt : Int) : Prop where
  own : ∃ s : Slc, Blk w p Ty_record_Writer #[s.v, .int .i64 cnt] ∧ Own Ty_uint8 1 w s (last.map u8v)
structure Row (w0 w : World) (s : Slc) (bs : List UInt8) : Prop where
  own : Own Ty_uint8 1 w s (bs.map u8v)
  new : ∀ k ∈ s.blks, w0.heap.size ≤ k
theorem Row.byt {w0 w : World} {s : Slc} {bs : List UInt8} (h : Row w0 w s bs) : Byt w s bs := h.own.cel
theorem Made.row' {w0 w : World} {s : Slc} {bs : List UInt8} (h : Made w0 w s bs) : Row w0 w s bs := ⟨h.own, h.new⟩
theorem cut_all {w : World} {s : Slc} {bs cs : List UInt8} {l k : Nat} (h : Byt w s bs) (hl : l ≤ k) (hk : k ≤ bs.length) (hc : cs = (bs.drop l).take (k - l)) : Byt w (s.cut 1 l k) cs := by
  have h2 := Cel.cut h hl (by rw [h.len]; exact hk)
  subst hc
  unfold Byt
  rw [List.map_take, List.map_drop]
  simpa using h2
def mayV (kind : Int) (keyl : Nat) (cnt cli : Int) (fin has : Bool) (dl : Nat) : Int :=
  if decide (kind < 1) || decide (3 < kind) then 32
  else if decide ((keyl : Int) < 1) || decide (64 < (keyl : Int)) then 74
  else if (decide (cnt = 0) && decide (cli = 0)) || !validV cnt cli then 41
  else if decide (kind = 3) && !fin && !has then 31
  else if (decide (kind = 1) || (decide (kind = 3) && has)) && decide (65540 < (dl : Int)) then 75
  else 0
theorem may_c (kind : Int) (key : ByteArray) (cnt cli : Int) (fin has : Bool) (data : Slc) (w : World) :
    Calls PP F_record_may #[.agg #[.int .i64 kind, .string key, .int .i64 cnt, .int .i64 cli, .bool fin, .bool has, data.v]] w (Rt fun v w' => v = .int .i64 (mayV kind key.size cnt cli fin has data.l) ∧ Fr [] w w') := by
  refine sim_record_may _ _ _ _ _ _ _ _ _ ?_
  unfold vc_record_may
  refine New.intro fun b w1 nb => ⟨fun h => Rt.ok ⟨by rw [mayV, if_pos h], nb.fr⟩, fun h1 => ⟨fun h => Rt.ok ⟨by rw [mayV, if_neg (by rw [h1]; simp), if_pos h], nb.fr⟩, fun h2 => call (zero_c _ _ _) ?_⟩⟩
  rintro _ w2 ⟨rfl, f2⟩
  have hB := nb.blk.fr f2 (by simp)
  have f02 := nb.fr.then_ f2
  refine ⟨_, rfl, fun x w' => x = ((decide (cnt = 0) && decide (cli = 0)) || !validV cnt cli) ∧ Fr [] w2 w', ⟨fun h => ⟨_, hB.cell3 rfl, _, hB.cell3 rfl, call (valid_c _ _ _) ?_⟩, fun h => ⟨by rw [h]; rfl, Fr.refl _ _⟩⟩, ?_⟩
  · rintro _ w3 ⟨rfl, f3⟩
    exact ⟨_, rfl, by rw [h]; rfl, f3⟩
  · rintro _ w3 ⟨rfl, f3⟩
    have hB3 := hB.fr f3 (by simp)
    have f03 := f02.then_ f3
    have n1 : ¬ (decide (kind < 1) || decide (3 < kind)) = true := by rw [h1]; simp
    have n2 : ¬ (decide ((key.size : Int) < 1) || decide (64 < (key.size : Int))) = true := by rw [h2]; simp
    refine ⟨fun h => Rt.ok ⟨by rw [mayV, if_neg n1, if_neg n2, if_pos h], f03⟩, fun h3 => ⟨_, hB3.cell rfl, decide (kind = 3) && !fin, fun h => ⟨_, hB3.cell2 rfl, by rw [h]; rfl⟩, fun h => by rw [h]; rfl, decide (kind = 3) && !fin && !has, fun h => ⟨_, hB3.cell2 rfl, by rw [h]; rfl⟩, fun h => by rw [h]; rfl, ?_, ?_⟩⟩
    · exact fun h => Rt.ok ⟨by rw [mayV, if_neg n1, if_neg n2, if_neg (by rw [h3]; simp), if_pos h], f03⟩
    · intro h4
      have n3 : ¬ ((decide (cnt = 0) && decide (cli = 0)) || !validV cnt cli) = true := by rw [h3]; simp
      have n4 : ¬ (decide (kind = 3) && !fin && !has) = true := by rw [h4]; simp
      refine ⟨(decide (kind = 1) || (decide (kind = 3) && has)) && decide (65540 < (data.l : Int)), fun h => ⟨data, hB3.cell2 rfl, by rw [h]; rfl⟩, fun h => by rw [h]; rfl, fun h => Rt.ok ⟨?_, f03⟩, fun h => Rt.ok ⟨?_, f03⟩⟩
      · rw [mayV, if_neg n1, if_neg n2, if_neg n3, if_neg n4, if_pos h]
      · rw [mayV, if_neg n1, if_neg n2, if_neg n3, if_neg n4, if_neg (by rw [h]; simp)]
end Go.Proofs.YtflcdgkckfcofaaGreatDoor

/-
  Contracts of package record's writer, continued: a record's body, Put, Count.
-/
namespace Go.Proofs.YtflcdgkckfcofaaGreatDoor
open Go Go.Vc

def usesV (kind : Int) (has : Bool) : Bool := decide (kind = 1) || (decide (kind = 3) && has)
theorem may_ok {kind : Int} {kl : Nat} {cnt cli : Int} {fin has : Bool} {dl : Nat} (h : mayV kind kl cnt cli fin has dl = 0) :
    (1 ≤ kind ∧ kind ≤ 3) ∧ (1 ≤ kl ∧ kl ≤ 64) ∧ (1 ≤ cnt ∧ cnt ≤ 4611686018427387903) ∧ (1 ≤ cli ∧ cli ≤ 65535) ∧ (kind = 3 → fin = true ∨ has = true) ∧ (usesV kind has = true → dl ≤ 65540) := by
  unfold mayV at h
  split at h
  · cases h
  · rename_i h1
    split at h
    · cases h
    · rename_i h2
      split at h
      · cases h
      · rename_i h3
        split at h
        · cases h
        · rename_i h4
          split at h
          · cases h
          · rename_i h5
            simp [validV, properV] at h1 h2 h3 h4 h5
            have h6 := h3.2 (by by_cases hc : cnt = 0; exact .inr (h3.1 hc); exact .inl hc)
            refine ⟨by omega, by omega, by omega, by omega, ?_, ?_⟩
            · intro hk
              have := h4 hk
              cases fin <;> cases has <;> simp_all
            · intro hu
              simp [usesV] at hu
              have := h5 hu
              omega
def bit (b : Bool) : UInt8 := if b then 1 else 0
def bodyBs (kind : Nat) (key : ByteArray) (cnt cli : Nat) (fin has : Bool) (ds : List UInt8) : List UInt8 :=
  [UInt8.ofNat kind] ++ uv key.size ++ key.data.toList ++ uv cnt ++ uv cli ++ (if kind = 3 then [bit fin, bit has] else []) ++ (if usesV kind has then uv ds.length ++ ds else [])
theorem bodyBs_len {kind : Nat} {key : ByteArray} {cnt cli : Nat} {fin has : Bool} {ds : List UInt8} (h : mayV kind key.size cnt cli fin has ds.length = 0) : (bodyBs kind key cnt cli fin has ds).length ≤ 65700 := by
  obtain ⟨h1, h2, h3, h4, h5, h6⟩ := may_ok h
  have a := uv_len9 (n := key.size) (by omega)
  have b := uv_len9 (n := cnt) (by omega)
  have c := uv_len9 (n := cli) (by omega)
  have hk : key.data.toList.length = key.size := by simp
  unfold bodyBs
  by_cases hu : usesV kind has = true
  · have := h6 hu
    have d := uv_len9 (n := ds.length) (by omega)
    rw [if_pos hu]
    split <;> simp <;> omega
  · rw [if_neg hu]
    split <;> simp <;> omega
theorem body_c {kind cnt cli : Nat} {key : ByteArray} {fin has : Bool} {data : Slc} {ds : List UInt8} {w : World} (h : mayV kind key.size cnt cli fin has ds.length = 0) (hd : Byt w data ds) :
    Calls PP F_record_body #[.agg #[.int .i64 (kind : Int), .string key, .int .i64 (cnt : Int), .int .i64 (cli : Int), .bool fin, .bool has, data.v]] w (Rt fun v w' => ∃ s : Slc, v = s.v ∧ Made w w' s (bodyBs kind key cnt cli fin has ds)) := by
  obtain ⟨h1, h2, h3, h4, h5, h6⟩ := may_ok h
  have hlen := bodyBs_len h
  have a := uv_len9 (n := key.size) (by omega)
  have b := uv_len9 (n := cnt) (by omega)
  have c := uv_len9 (n := cli) (by omega)
  have hk : key.data.toList.length = key.size := by simp
  refine sim_record_body _ _ _ _ _ _ _ _ _ ?_
  unfold vc_record_body
  refine New.intro fun p w1 nb => call (pw_new _) ?_
  rintro _ w2 ⟨q, rfl, hP⟩
  have hB := nb.blk
  have e0 : wr .u8 (kind : Int) = ((UInt8.ofNat kind).toNat : Int) := by rw [u8_ofNat (by omega), wr8u (by omega) (by omega)]
  refine ⟨_, rfl, _, (hB.fr hP.fr (by simp)).cell rfl, ?_⟩
  rw [e0]
  refine call (pw_byte hP (by simp)) ?_
  rintro _ w3 ⟨rfl, hP⟩
  refine ⟨rfl, _, (hB.fr hP.fr (by simp)).cell rfl, call (pw_text hP (by simp; omega)) ?_⟩
  rintro _ w4 ⟨rfl, hP⟩
  refine ⟨rfl, _, (hB.fr hP.fr (by simp)).cell3 rfl, call (pw_uint hP (by omega) (by simp; omega)) ?_⟩
  rintro _ w5 ⟨rfl, hP⟩
  refine ⟨rfl, _, (hB.fr hP.fr (by simp)).cell3 rfl, call (pw_uint hP (by omega) (by simp; omega)) ?_⟩
  rintro _ w6 ⟨rfl, hP⟩
  refine ⟨rfl, _, (hB.fr hP.fr (by simp)).cell rfl, ?_⟩
  refine ⟨fun x w' => x = usesV kind has ∧ PWL w1 w' q ([UInt8.ofNat kind] ++ uv key.size ++ key.data.toList ++ uv cnt ++ uv cli ++ (if kind = 3 then [bit fin, bit has] else [])), ⟨_, (hB.fr hP.fr (by simp)).cell rfl, fun hk3 => ?_, fun hk3 => ?_⟩, ?_⟩
  · simp at hk3
    refine ⟨_, (hB.fr hP.fr (by simp)).cell2 rfl, call (pw_bool hP (by simp; omega)) ?_⟩
    rintro _ w7 ⟨rfl, hP⟩
    refine ⟨rfl, _, (hB.fr hP.fr (by simp)).cell2 rfl, call (pw_bool hP (by simp; omega)) ?_⟩
    rintro _ w8 ⟨rfl, hP⟩
    refine ⟨rfl, _, (hB.fr hP.fr (by simp)).cell2 rfl, ?_, ?_⟩
    · have hk4 : kind = 3 := by omega
      subst hk4
      simp [usesV]
    · rw [if_pos (by omega)]
      simpa [bit] using hP
  · simp at hk3
    refine ⟨?_, ?_⟩
    · simp [usesV, hk3]
    · rw [if_neg (by omega)]
      simpa using hP
  · rintro _ w7 ⟨rfl, hP⟩
    refine ⟨fun w' => PWL w1 w' q (bodyBs kind key cnt cli fin has ds), ⟨fun hu => ?_, fun hu => ?_⟩, ?_⟩
    · have h7 := h6 hu
      have hd9 := uv_len9 (n := ds.length) (by omega)
      refine ⟨_, (hB.fr hP.fr (by simp)).cell2 rfl, call (pw_bytes hP (hd.fr0 nb.fr) ?_) ?_⟩
      · split <;> simp <;> omega
      · rintro _ w8 ⟨rfl, hP⟩
        refine ⟨rfl, ?_⟩
        unfold bodyBs
        rw [if_pos hu]
        simpa using hP
    · unfold bodyBs
      rw [if_neg (show ¬ usesV (kind : Int) has = true by rw [hu]; simp)]
      simpa using hP
    · intro w8 hP
      refine call (pw_data hP (by omega)) ?_
      rintro _ w9 ⟨s, rfl, hM⟩
      exact ⟨s, rfl, Rt.ok ⟨s, rfl, hM.since (nb.fr.then_ hP.fr)⟩⟩

def recPre (body : List UInt8) : List UInt8 := [82] ++ uv body.length ++ body
def recSum (last body : List UInt8) : List UInt8 := le4 (crc (last ++ recPre body))
theorem count_c {p : Nat} {last : List UInt8} {n : Int} {w : World} (hR : RW w p last n) : Calls PP F_record_Writer_Count #[.pointer (some (blk p))] w (Rt fun v w' => v = .int .i64 n ∧ w = w') := by
  obtain ⟨ls, hB, _⟩ := hR
  refine sim_record_Writer_Count _ _ _ ?_
  unfold vc_record_Writer_Count
  exact ⟨by simp, fun _ => ⟨_, rfl, n, hB.cell rfl, Rt.ok ⟨rfl, rfl⟩⟩⟩
theorem RW.fr {S : List Nat} {w w' : World} {p : Nat} {last : List UInt8} {n : Int} (h : RW w p last n) (f : Fr S w w') (hp : p ∉ S) (hS : ∀ b cs, Blk w b Ty_uint8 cs → b ∉ S) : RW w' p last n := by
  obtain ⟨ls, hB, hO⟩ := h
  refine ⟨ls, hB.fr f hp, hO.fr f fun k hk => ?_⟩
  rcases hO.2 with ⟨h1, _⟩ | ⟨g, cap, cur, h1, _, h3, _⟩
  · injection h1 with h4
    unfold Slc.blks at hk
    rw [h4] at hk
    simp at hk
  · injection h1 with h4
    unfold Slc.blks at hk
    rw [h4] at hk
    simp at hk
    subst hk
    exact hS _ _ h3
end Go.Proofs.YtflcdgkckfcofaaGreatDoor
