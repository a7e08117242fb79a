/-
  Contracts of the document's table: what it tells.
-/
import Derived.Test.YtgnceldnfefnmaaGreatRef15Up
namespace Go.Tab
open Go Go.Vc Go.Sort
def ltK (a b : ByteArray) : Bool := Op.bytesLess a.toList b.toList
theorem ltK_eq (a b : ByteArray) : ltK a b = Sort.ltStr a.data.toList b.data.toList := by
  unfold ltK Sort.ltStr
  rw [Go.Proofs.bytesLess_eq, ByteArray.toList_eq, ByteArray.toList_eq]
theorem ltK_asymm {a b : ByteArray} (h : ltK a b = true) : ltK b a = false := by
  cases hb : ltK b a with
  | false => rfl
  | true =>
    rw [ltK_eq] at h hb
    have h1 := Go.Sort.swo_ltStr.trans _ _ _ h hb
    rw [Go.Sort.swo_ltStr.irrefl] at h1
    cases h1
theorem ltK_ntrans {a b c : ByteArray} (h : ltK a b = false) (k : ltK b c = false) : ltK a c = false := by
  rw [ltK_eq] at *
  exact Go.Sort.swo_ltStr.ntrans _ _ _ h k
theorem sortK_pw {S : List ByteArray} (h : S.Pairwise fun a b => ltK b a = false) : sortK S = S := by
  unfold sortK
  have h1 : (S.map (·.data.toList)).Pairwise fun a b => decide (a ≤ b) = true := by
    rw [List.pairwise_map]
    refine h.imp fun {a b} hab => ?_
    rw [ltK_eq] at hab
    unfold Sort.ltStr at hab
    simp only [decide_eq_false_iff_not, List.not_lt] at hab
    simpa using hab
  rw [List.mergeSort_of_pairwise h1]
  exact map_eta S
theorem sortK_of {S l : List ByteArray} (h : S.Pairwise fun a b => ltK b a = false) (hp : S.Perm l) : S = sortK l := by rw [← sortK_ext hp, sortK_pw h]
def hasK (S : List ByteArray) (k : ByteArray) : Bool := S.any fun x => decide (x = k)
theorem hasK_iff {S : List ByteArray} {k : ByteArray} : hasK S k = true ↔ k ∈ S := by
  unfold hasK
  rw [List.any_eq_true]
  constructor
  · rintro ⟨x, hx, e⟩
    have e : x = k := by simpa using e
    exact e ▸ hx
  · intro h; exact ⟨k, h, by simp⟩
theorem listS_of {S : List Ec} {l : Sc} (hn : (l.map (·.1)).Nodup) (ht : ∀ x ∈ l, x.2.tag = x.1) (hp : (S.map Ec.abs).Perm (l.map (·.2.abs))) (hs : S.Pairwise fun x y => ltT y.tag x.tag = false) : S.map Ec.abs = listS l := by
  have h1 : (S.map (·.tag)).Perm (l.map (·.1)) := by
    have h2 := hp.map En.tag
    rw [List.map_map, List.map_map] at h2
    have e1 : l.map (En.tag ∘ fun x => x.2.abs) = l.map (·.1) := List.map_congr_left fun x hx => ht x hx
    rw [e1] at h2
    exact h2
  have h2 : S.map (·.tag) = sortU (l.map (·.1)) := sorted_eq (R := fun x y => ltT y x = false) (fun x y h1 h2 => ltT_total h2 h1) (h1.trans (sortU_perm _).symm) (List.pairwise_map.2 hs) (sortU_pw _)
  unfold listS
  rw [← h2, List.map_map]
  refine List.map_congr_left fun e he => ?_
  obtain ⟨x, hx, hxe⟩ := List.mem_map.1 (hp.mem_iff.1 (List.mem_map_of_mem (f := Ec.abs) he))
  have h3 : x.1 = e.tag := by rw [← ht x hx]; exact congrArg En.tag hxe
  show e.abs = (lookE l e.tag).abs
  rw [← h3, lookE_of' hn hx]
  exact hxe.symm
end Go.Tab
namespace Go.Proofs.YtgnceldnfefnmaaGreat
open Go Go.Vc Go.Vc.Asn Go.Tab Go.Sort
section
variable {q p : Nat} {R : Rf} {T : Tc} {w0 w : World} {F : Asn}
theorem rget0_r {k : ByteArray} {t : Tg} : Calls PP F_sherdref15_Table_Get #[.pointer none, .string k, t.v] w (Rt fun v w' => ∃ s' : Slc, v = .tuple #[Ec.v { zeroE with s := s' }, .bool false] ∧ Hp w w' (star (own Ty_uint8 1 s' []) emp)) := by
  refine sim_sherdref15_Table_Get _ _ _ _ _ _ ?_
  unfold vc_sherdref15_Table_Get
  refine (Hp.start w).new fun b6 w1 H => H.new fun b9 w2 H => ⟨fun x w' => x = true ∧ Hp w w' (star (bk b9 Ty_api_Entry #[.int .i64 0, .int .i64 0, .bool false, .bool false, Slc.nil.v]) emp), ⟨fun h => by simp at h, fun _ => ⟨rfl, (H.blk b6).drop⟩⟩, ?_⟩
  rintro _ w3 ⟨rfl, H⟩
  exact ⟨fun _ => H.stoAll (b := b9) (by rfl) fun w4 H => ⟨_, H.cell (b := b9) (i := 0) rfl, _, H.cell (b := b9) (i := 1) rfl, _, H.cell (b := b9) (i := 2) rfl, _, H.cell (b := b9) (i := 3) rfl, _, H.cell (b := b9) (i := 4) rfl, Rt.ok ⟨Slc.nil, rfl, H.drop.nilRow _ _⟩⟩, fun h => by simp at h⟩
theorem llook_some {l : Sc} {t : Tg} (h : t ∈ l.map (·.1)) : (llook l t).isSome = true := by
  cases hl : llook l t with
  | some _ => rfl
  | none => exact absurd h (llook_none hl)
theorem llook_no {l : Sc} {t : Tg} (h : t ∉ l.map (·.1)) : (llook l t).isSome = false := by
  cases hl : llook l t with
  | none => rfl
  | some e => exact absurd (List.mem_map_of_mem (f := (·.1)) (llook_mem hl)) h
theorem rget_r {k : ByteArray} {t : Tg} (hl : R.rows.length ≤ 137438953472) (hn : ((rsh R.rows k).map (·.1)).Nodup) (hdl : ∀ r ∈ R.rows, r.e.data.length ≤ 1099511627776) (H : Hp w0 w (star (refA q R) F)) :
    Calls PP F_sherdref15_Table_Get #[.pointer (some (blk q)), .string k, t.v] w (Rt fun v w' => ∃ s' : Slc, v = .tuple #[Ec.v { lookE (rsh R.rows k) t with s := s' }, .bool (llook (rsh R.rows k) t).isSome] ∧ Hp w0 w' (star (own Ty_uint8 1 s' ((lookE (rsh R.rows k) t).data.map u8v)) (star (refA q R) F))) := by
  refine sim_sherdref15_Table_Get _ _ _ _ _ _ ?_
  unfold vc_sherdref15_Table_Get
  refine H.new fun b6 w1 H => H.new fun b9 w2 H => ⟨fun x w' => x = !(llook (rsh R.rows k) t).isSome ∧ Hp w0 w' (star (bk b9 Ty_api_Entry #[.int .i64 0, .int .i64 0, .bool false, .bool false, Slc.nil.v]) (star (bk b6 Ty_api_Tag #[.int .i64 t.1, .int .i64 t.2]) (star (refA q R) F))), ⟨fun _ => call (place_p (k := k) (t := t) (by omega) (H.take (refA q R))) ?_, fun h => by simp at h⟩, ?_⟩
  · rintro _ w3 ⟨pi, rfl, hp, H⟩
    refine ⟨_, rfl, ?_, (H.blk b6).blk b9⟩
    rcases hp with ⟨n, r, rfl, hx, hk, ht⟩ | ⟨rfl, hno⟩
    · have hm := rsh_mem (List.mem_of_getElem? hx)
      rw [hk, ht] at hm
      rw [llook_some (List.mem_map_of_mem (f := (·.1)) hm)]
      simp
    · rw [llook_no (not_place hno)]; rfl
  rintro _ w3 ⟨rfl, H⟩
  refine ⟨fun h => ?_, fun h => ?_⟩
  · have hs : (llook (rsh R.rows k) t).isSome = false := by simpa using h
    have hl0 : lookE (rsh R.rows k) t = zeroE := by
      unfold lookE
      cases hh : llook (rsh R.rows k) t with
      | none => rfl
      | some _ => rw [hh] at hs; cases hs
    rw [hs, hl0]
    refine H.stoAll (b := b9) (by rfl) fun w4 H => ⟨_, H.cell (b := b9) (i := 0) rfl, _, H.cell (b := b9) (i := 1) rfl, _, H.cell (b := b9) (i := 2) rfl, _, H.cell (b := b9) (i := 3) rfl, _, H.cell (b := b9) (i := 4) rfl, Rt.ok ⟨Slc.nil, rfl, ?_⟩⟩
    exact ((H.blk b9).drop.blk b6).drop.nilRow _ _
  · have hs : (llook (rsh R.rows k) t).isSome = true := by simpa using h
    rw [hs]
    have H := H.drew 1
    have H := ref_open (H.take (refA q R))
    refine ⟨_, rfl, _, H.cell (b := q) (i := 1) rfl, _, H.cell (b := b6) (i := 0) rfl, _, H.cell (b := b6) (i := 1) rfl, call (place_p (k := k) (t := t) (by omega) (ref_close H)) ?_⟩
    rintro _ w4 ⟨pi, rfl, hp, H⟩
    have H := ref_open H
    have hrl := rows_l (R := R) H
    rcases hp with ⟨n, r, rfl, hx, hk, ht⟩ | ⟨rfl, hno⟩
    · have hi := (List.getElem?_eq_some_iff.1 hx).1
      have hmem := List.mem_of_getElem? hx
      rw [look_place hn hx hk ht]
      obtain ⟨a, ha, hc⟩ := row_at (R := R) H hx
      have hz : ∀ (z : Addr) j, ((z.add (n * 6)).add 1).add j = (z.add (n * 6)).add (1 + j) := fun z j => add_add _ _ _
      refine ⟨_, rfl, H.cell (b := q) (i := 1) rfl, a, ha, by omega, by omega, _, by rw [Int.toNat_natCast, hz]; exact hc 1 _ rfl, _, by rw [Int.toNat_natCast, hz]; exact hc 2 _ rfl, _, by rw [Int.toNat_natCast, hz]; exact hc 3 _ rfl, _, by rw [Int.toNat_natCast, hz]; exact hc 4 _ rfl, _, by rw [Int.toNat_natCast, hz]; exact hc 5 _ rfl, call (copied_r (e := r.e) (row_data hmem (H.take (all rowA R.rows))) (hdl r hmem)) ?_⟩
      rintro _ w5 ⟨s', rfl, K⟩
      have H := H.join K
      refine ⟨_, _, _, _, _, rfl, H.stoAll (b := b9) (by rfl) fun w6 H => ⟨_, H.cell (b := b9) (i := 0) rfl, _, H.cell (b := b9) (i := 1) rfl, _, H.cell (b := b9) (i := 2) rfl, _, H.cell (b := b9) (i := 3) rfl, _, H.cell (b := b9) (i := 4) rfl, Rt.ok ⟨s', rfl, ?_⟩⟩⟩
      have H := (((H.blk b9).drop.blk b6).drop)
      exact H.ent (Ent.star (Ent.refl _) ((Ent.star (Ent.refl _) Asn.assoc').trans Asn.assoc'))
    · rw [llook_no (not_place hno)] at hs; cases hs
set_option maxHeartbeats 1000000 in
theorem rkeys_r (hS : Sim R T) (hk : (T.keys.map (·.1)).Nodup) (hne : ∀ y ∈ T.keys, y.2.2 ≠ []) (hl : R.rows.length ≤ 137438953472) (H : Hp w0 w (star (refA q R) F)) :
    Calls PP F_sherdref15_Table_Keys #[.pointer (some (blk q))] w (Rt fun v w' => ∃ s, v = Slc.v s ∧ Hp w0 w' (star (own Ty_string 1 s ((sortK (T.keys.map (·.1))).map Value.string)) (star (refA q R) F))) := by
  refine sim_sherdref15_Table_Keys _ _ _ ?_
  unfold vc_sherdref15_Table_Keys
  have H := ref_open H
  have hrl := rows_l (R := R) H
  refine ⟨fun h => by simp at h, fun _ => ⟨_, rfl, _, H.cell (b := q) (i := 1) rfl, ?_⟩⟩
  refine ⟨fun l i w' => ∃ (m : Nat) (S : List ByteArray), i = (m : Int) ∧ m ≤ R.rows.length ∧ S.length ≤ m ∧ S.Nodup ∧ (∀ k, k ∈ S ↔ ∃ r ∈ R.rows.take m, r.key = k) ∧ S.Pairwise (fun a b => ltK b a = false) ∧ Hp w0 w' (star (own Ty_string 1 l (S.map Value.string)) (star (refB q R) (star (refC R) (star (all rowA R.rows) F)))), fun _ i _ => R.rows.length - i.toNat, ⟨0, [], rfl, Nat.zero_le _, Nat.le_refl _, List.nodup_nil, (fun k => by simp), List.Pairwise.nil, H.nilRow Ty_string 1⟩, ?_⟩
  rintro l _ w2 ⟨m, S, rfl, hm, hSl, hnd, hmem, hs, H⟩
  have hll : l.l = S.length := by have := (H.cel (s := l)).len; simp at this; omega
  refine ⟨fun h => ?_, fun h => ?_⟩
  · have hlt : m < R.rows.length := by rw [hrl] at h; simp only [decide_eq_true_eq] at h; omega
    have hx : R.rows[m]? = some R.rows[m] := List.getElem?_eq_getElem hlt
    have htk : R.rows.take (m + 1) = R.rows.take m ++ [R.rows[m]] := by rw [List.take_succ_eq_append_getElem hlt]
    obtain ⟨a, ha, hc⟩ := row_at (R := R) H hx
    have ewr : wr .i64 ((m : Int) + 1) = ((m + 1 : Nat) : Int) := by rw [wr64 (by omega) (by omega)]; omega
    generalize R.rows[m] = r at *
    refine ⟨fun l w' => ∃ S : List ByteArray, S.length ≤ m + 1 ∧ S.Nodup ∧ (∀ k, k ∈ S ↔ ∃ r ∈ R.rows.take (m + 1), r.key = k) ∧ S.Pairwise (fun a b => ltK b a = false) ∧ Hp w0 w' (star (own Ty_string 1 l (S.map Value.string)) (star (refB q R) (star (refC R) (star (all rowA R.rows) F)))), ?_, fun l w3 ⟨S, h0, h1, h2, h3, H⟩ => ⟨⟨m + 1, S, by rw [ewr], by omega, h0, h1, h2, h3, H⟩, by dsimp only; rw [ewr]; omega⟩⟩
    have hmem2 : ∀ k, (∃ r' ∈ R.rows.take (m + 1), r'.key = k) ↔ k ∈ S ∨ k = r.key := fun k => by
      rw [htk, hmem]
      simp only [List.mem_append, List.mem_singleton]
      constructor
      · rintro ⟨r', h1 | rfl, h2⟩
        · exact .inl ⟨r', h1, h2⟩
        · exact .inr h2.symm
      · rintro (⟨r', h1, h2⟩ | h2)
        · exact ⟨r', .inl h1, h2⟩
        · exact ⟨r, .inr rfl, h2.symm⟩
    refine ⟨a, ha, by omega, by omega, _, hc 0 _ rfl, _, hc 1 _ rfl, _, hc 2 _ rfl, _, hc 3 _ rfl, _, hc 4 _ rfl, _, hc 5 _ rfl, H.new fun b43 w3 H => H.stoAll (b := b43) (by rfl) fun w4 H => ?_⟩
    refine ⟨fun b i w' => ∃ j : Nat, i = (j : Int) ∧ j ≤ S.length ∧ b = hasK (S.take j) r.key ∧ Hp w0 w' (star (bk b43 Ty_sherdref15_Row r.c.toArray) (star (own Ty_string 1 l (S.map Value.string)) (star (refB q R) (star (refC R) (star (all rowA R.rows) F))))), fun _ i _ => S.length - i.toNat, ⟨0, rfl, Nat.zero_le _, rfl, H⟩, ?_⟩
    rintro _ _ w5 ⟨j, rfl, hj, rfl, H⟩
    refine ⟨fun h2 => ?_, fun h2 => ?_⟩
    · have hjlt : j < S.length := by rw [hll] at h2; simp only [decide_eq_true_eq] at h2; omega
      have hjt : S.take (j + 1) = S.take j ++ [S[j]] := by rw [List.take_succ_eq_append_getElem hjlt]
      obtain ⟨aj, haj, hcj⟩ := (H.cel (s := l)).at_ j (.string S[j]) (by simp [List.getElem?_eq_getElem hjlt])
      have ejr : wr .i64 ((j : Int) + 1) = ((j + 1 : Nat) : Int) := by rw [wr64 (by omega) (by omega)]; omega
      refine ⟨aj, haj, by omega, by omega, _, by rw [Int.toNat_natCast, Nat.mul_one]; exact hcj, hasK (S.take (j + 1)) r.key, fun h3 => ⟨_, H.cell (b := b43) (i := 0) rfl, ?_⟩, fun h3 => ?_, ⟨j + 1, by rw [ejr], by omega, rfl, H⟩, by dsimp only; rw [ejr]; omega⟩
      · have h3 : r.key ∉ S.take j := fun hm => by rw [hasK_iff.2 hm] at h3; cases h3
        rw [hjt, Bool.eq_iff_iff]
        rw [hasK_iff]
        simp only [decide_eq_true_eq, List.mem_append, List.mem_singleton, h3, false_or, str_iff]
        exact eq_comm
      · have h3 : r.key ∈ S.take j := hasK_iff.1 h3
        exact hasK_iff.2 (by rw [hjt]; exact List.mem_append_left _ h3)
    · have hje : j = S.length := by rw [hll] at h2; simp only [decide_eq_false_iff_not] at h2; omega
      subst hje
      rw [List.take_length]
      refine ⟨fun h3 => ⟨S, by omega, hnd, fun k => ?_, hs, H.drop⟩, fun h3 => ?_⟩
      · have h3 : r.key ∈ S := hasK_iff.1 h3
        rw [hmem2]
        exact ⟨.inl, fun h => h.elim id fun e => e ▸ h3⟩
      · have h3 : r.key ∉ S := fun hm => by rw [hasK_iff.2 hm] at h3; cases h3
        obtain ⟨t, ht⟩ : ∃ t, r.key = t := ⟨_, rfl⟩
        rw [ht] at h3
        simp only [ht] at hmem2
        refine ⟨t, by rw [← ht]; exact H.cell (b := b43) (i := 0) rfl, H.newRow (e := Ty_string) (n := 1) (size := 1) [.string t] rfl rfl (by decide) fun b79 w6 H => ?_⟩
        refine H.app (s := l) slT_sl_string (H.cel (s := ⟨some (blk b79), 1, 1⟩)) (fun u hu => one_str [t] u (by simpa using hu)) (by unfold maxLen; simp only; omega) (by simp only; omega) fun s82 w7 H hs82 => ?_
        simp only at hs82
        have H := ((H.own ⟨some (blk b79), 1, 1⟩).drop.blk b43).drop.own s82
        have e0 : S.map Value.string ++ [.string t] = (insAt S t S.length).map Value.string := by rw [insAt_end]; simp
        rw [e0] at H
        refine ⟨fun i w' => ∃ n : Nat, i = (n : Int) ∧ n ≤ S.length ∧ (∀ j, n ≤ j → (hj : j < S.length) → ltK t S[j] = true) ∧ Hp w0 w' (star (own Ty_string 1 s82 ((insAt S t n).map Value.string)) (star (refB q R) (star (refC R) (star (all rowA R.rows) F)))), fun i _ => i.toNat, ⟨S.length, by rw [hs82, wr64 (by omega) (by omega)]; omega, Nat.le_refl _, (fun j h1 h2 => by omega), H⟩, ?_⟩
        rintro _ w8 ⟨n, rfl, hn, hge, H⟩
        have hat := insAt_at (x := t) hn
        obtain ⟨a2, ha2, hc2⟩ := (H.cel (s := s82)).at_ n (.string t) (by rw [List.getElem?_map, hat]; rfl)
        refine ⟨decide (0 < (n : Int)) && (match S[n - 1]? with | some y => ltK t y | none => false), fun h4 => ?_, fun h4 => by rw [h4]; rfl, fun k92 => ⟨fun h4 => ?_, fun h4 => ?_⟩⟩
        · simp only [decide_eq_true_eq] at h4
          obtain ⟨n', rfl⟩ : ∃ n', n = n' + 1 := ⟨n - 1, by omega⟩
          have hn' : n' < S.length := by omega
          have e1 : wr .i64 (((n' + 1 : Nat) : Int) - 1) = (n' : Int) := by rw [wr64 (by omega) (by omega)]; omega
          obtain ⟨a1, ha1, hc1⟩ := (H.cel (s := s82)).at_ n' (.string S[n']) (by rw [List.getElem?_map, insAt_pre hn']; rfl)
          rw [e1, Int.toNat_natCast, Int.toNat_natCast]
          refine ⟨a2, ha2, by omega, by omega, _, by rw [Nat.mul_one]; exact hc2, a1, ha1, by omega, by omega, _, by rw [Nat.mul_one]; exact hc1, ?_⟩
          rw [show n' + 1 - 1 = n' by omega, List.getElem?_eq_getElem hn']
          have : decide (0 < ((n' + 1 : Nat) : Int)) = true := by simp
          rw [this]
          rfl
        · simp only [Bool.and_eq_true, decide_eq_true_eq] at h4
          obtain ⟨n', rfl⟩ : ∃ n', n = n' + 1 := ⟨n - 1, by omega⟩
          have hn' : n' < S.length := by omega
          have h5 : ltK t S[n'] = true := by
            have := h4.2
            rw [show n' + 1 - 1 = n' by omega, List.getElem?_eq_getElem hn'] at this
            exact this
          have e1 : wr .i64 (((n' + 1 : Nat) : Int) - 1) = (n' : Int) := by rw [wr64 (by omega) (by omega)]; omega
          have H := H.drew k92
          obtain ⟨a1, ha1, hc1⟩ := (H.cel (s := s82)).at_ n' (.string S[n']) (by rw [List.getElem?_map, insAt_pre hn']; rfl)
          obtain ⟨a2, ha2, hc2⟩ := (H.cel (s := s82)).at_ (n' + 1) (.string t) (by rw [List.getElem?_map, hat]; rfl)
          rw [e1, Int.toNat_natCast, Int.toNat_natCast, Nat.mul_one, Nat.mul_one]
          refine ⟨a2, ha2, by omega, by omega, _, hc2, a1, ha1, by omega, by omega, _, hc1, a2, ha2, by omega, by omega, ?_⟩
          refine H.stoS (s := s82) (i := n' + 1) (by rw [List.length_map, insAt_len hn]; omega) ha2 fun w9 H => ⟨a1, ha1, by omega, by omega, ?_⟩
          refine H.stoS (s := s82) (i := n') (by rw [List.length_set, List.length_map, insAt_len hn]; omega) ha1 fun w10 H => ?_
          rw [← List.map_set, ← List.map_set, insAt_swap hn'] at H
          refine ⟨⟨n', rfl, by omega, fun j h1 h2 => ?_, H⟩, by dsimp only; omega⟩
          by_cases hj : j = n'
          · subst hj; exact h5
          · exact hge j (by omega) h2
        · have hlow : ∀ j, j + 1 = n → (hj : j < S.length) → ltK t S[j] = false := fun j hj hj2 => by
            subst hj
            rw [show j + 1 - 1 = j by omega, List.getElem?_eq_getElem hj2] at h4
            have : decide (0 < ((j + 1 : Nat) : Int)) = true := by simp
            rw [this] at h4
            exact h4
          refine ⟨insAt S t n, by rw [insAt_len hn]; omega, ?_, fun k => ?_, ?_, H.drew k92⟩
          · exact insAt_perm.nodup_iff.2 (List.nodup_cons.2 ⟨h3, hnd⟩)
          · rw [hmem2, insAt_perm.mem_iff, List.mem_cons]
            exact or_comm
          · exact insAt_pw (lt := ltK) (fun a b h => ltK_asymm h) (fun a b c h1 h2 => ltK_ntrans h1 h2) hs hn hge hlow
  · have hme : m = R.rows.length := by rw [hrl] at h; simp only [decide_eq_false_iff_not] at h; omega
    subst hme
    rw [List.take_length] at hmem
    have hp : S.Perm (T.keys.map (·.1)) := (List.perm_ext_iff_of_nodup hnd hk).2 fun k => by
      rw [hmem]
      constructor
      · rintro ⟨r, hr, rfl⟩
        have h1 := rsh_mem hr
        rw [← hS.sh] at h1
        cases hl : llook T.keys r.key with
        | some y => exact List.mem_map_of_mem (f := (·.1)) (llook_mem hl)
        | none => unfold Tc.sh at h1; rw [hl] at h1; cases h1
      · intro hm
        obtain ⟨y, hy, rfl⟩ := List.mem_map.1 hm
        have h1 := hne y hy
        rw [← sh_of hk hy, hS.sh] at h1
        obtain ⟨x, l', hx⟩ := List.exists_cons_of_ne_nil h1
        have h2 := rsh_tag (l := R.rows) (k := y.1) (x := x) (by rw [hx]; exact List.mem_cons_self)
        exact ⟨_, h2.2, rfl⟩
    rw [← sortK_of hs hp]
    exact Rt.ok ⟨l, rfl, H.ent (Ent.star (Ent.refl _) ((Ent.star (Ent.refl _) Asn.assoc').trans Asn.assoc'))⟩
theorem ent_flen {s : Slc} {S : List Ec} {A F' : Asn} (H : Hp w0 w A) [TakeS s A Ty_api_Entry 5 (S.flatMap Ec.c) F'] : s.l = S.length := Cel.flen (enc := Ec.c) ent_len (H.cel (s := s)) (by decide)
theorem ent_el {s : Slc} {S : List Ec} {A F' : Asn} {i : Nat} {e : Ec} (H : Hp w0 w A) [TakeS s A Ty_api_Entry 5 (S.flatMap Ec.c) F'] (hx : S[i]? = some e) : ∃ a, s.a = some a ∧ ∀ j v, e.c[j]? = some v → w.cell? ((a.add (i * 5)).add j) = some v := Cel.elem (enc := Ec.c) ent_len (H.cel (s := s)) hx (by decide)
theorem rentries0_r {k : ByteArray} : Calls PP F_sherdref15_Table_Entries #[.pointer none, .string k] w (Rt fun v w' => v = Slc.nil.v ∧ w' = w) := by
  refine sim_sherdref15_Table_Entries _ _ _ _ ?_
  unfold vc_sherdref15_Table_Entries
  exact ⟨fun _ => Rt.ok ⟨rfl, rfl⟩, fun h => by simp at h⟩
theorem rkeys0_r : Calls PP F_sherdref15_Table_Keys #[.pointer none] w (Rt fun v w' => v = Slc.nil.v ∧ w' = w) := by
  refine sim_sherdref15_Table_Keys _ _ _ ?_
  unfold vc_sherdref15_Table_Keys
  exact ⟨fun _ => Rt.ok ⟨rfl, rfl⟩, fun h => by simp at h⟩
set_option maxHeartbeats 2000000 in
theorem rentries_r {k : ByteArray} (hl : R.rows.length ≤ 137438953472) (hn : ((rsh R.rows k).map (·.1)).Nodup) (hdl : ∀ r ∈ R.rows, r.e.data.length ≤ 1099511627776) (H : Hp w0 w (star (refA q R) F)) :
    Calls PP F_sherdref15_Table_Entries #[.pointer (some (blk q)), .string k] w (Rt fun v w' => ∃ s es, v = Slc.v s ∧ es.map Ec.abs = listS (rsh R.rows k) ∧ Hp w0 w' (star (entsA s es) (star (refA q R) F))) := by
  refine sim_sherdref15_Table_Entries _ _ _ _ ?_
  unfold vc_sherdref15_Table_Entries
  have H := ref_open H
  have hrl := rows_l (R := R) H
  refine ⟨fun h => by simp at h, fun _ => ⟨_, rfl, _, H.cell (b := q) (i := 1) rfl, ?_⟩⟩
  refine ⟨fun l i w' => ∃ (m : Nat) (S : List Ec), i = (m : Int) ∧ m ≤ R.rows.length ∧ S.length ≤ m ∧ (S.map Ec.abs).Perm ((rsh (R.rows.take m) k).map (·.2.abs)) ∧ S.Pairwise (fun a b => ltT b.tag a.tag = false) ∧ Hp w0 w' (star (own Ty_api_Entry 5 l (S.flatMap Ec.c)) (star (all entA S) (star (refB q R) (star (refC R) (star (all rowA R.rows) F))))), fun _ i _ => R.rows.length - i.toNat, ⟨0, [], rfl, Nat.zero_le _, Nat.le_refl _, List.Perm.nil, List.Pairwise.nil, (H.ent emp_l).nilRow Ty_api_Entry 5⟩, ?_⟩
  rintro l _ w2 ⟨m, S, rfl, hm, hSl, hp, hs, H⟩
  have hll := ent_flen (s := l) H
  refine ⟨fun h => ?_, fun h => ?_⟩
  · have hlt : m < R.rows.length := by rw [hrl] at h; simp only [decide_eq_true_eq] at h; omega
    have hx : R.rows[m]? = some R.rows[m] := List.getElem?_eq_getElem hlt
    have hmem : R.rows[m] ∈ R.rows := List.getElem_mem _
    have htk : R.rows.take (m + 1) = R.rows.take m ++ [R.rows[m]] := by rw [List.take_succ_eq_append_getElem hlt]
    obtain ⟨a, ha, hc⟩ := row_at (R := R) H hx
    have ewr : wr .i64 ((m : Int) + 1) = ((m + 1 : Nat) : Int) := by rw [wr64 (by omega) (by omega)]; omega
    generalize R.rows[m] = r at *
    refine ⟨fun l w' => ∃ S : List Ec, S.length ≤ m + 1 ∧ (S.map Ec.abs).Perm ((rsh (R.rows.take (m + 1)) k).map (·.2.abs)) ∧ S.Pairwise (fun a b => ltT b.tag a.tag = false) ∧ Hp w0 w' (star (own Ty_api_Entry 5 l (S.flatMap Ec.c)) (star (all entA S) (star (refB q R) (star (refC R) (star (all rowA R.rows) F))))), ?_, fun l w3 ⟨S, h0, h1, h2, H⟩ => ⟨⟨m + 1, S, by rw [ewr], by omega, h0, h1, h2, H⟩, by dsimp only; rw [ewr]; omega⟩⟩
    rw [htk, rsh_append, List.map_append, rsh_one]
    refine ⟨a, ha, by omega, by omega, _, hc 0 _ rfl, _, hc 1 _ rfl, _, hc 2 _ rfl, _, hc 3 _ rfl, _, hc 4 _ rfl, _, hc 5 _ rfl, H.new fun b44 w3 H => H.stoAll (b := b44) (by rfl) fun w4 H => ?_⟩
    refine ⟨_, H.cell (b := b44) (i := 0) rfl, fun h1 => ?_, fun h1 => ?_⟩
    · have h1 : ¬ r.key = k := by simpa [str_iff] using h1
      rw [if_neg h1, List.map_nil, List.append_nil]
      exact ⟨S, by omega, hp, hs, H.drop⟩
    · have h1 : r.key = k := by simpa [str_iff] using h1
      rw [if_pos h1]
      refine ⟨_, H.cell2 (b := b44) (i := 1) (j := 0) rfl, _, H.cell2 (b := b44) (i := 1) (j := 1) rfl, _, H.cell2 (b := b44) (i := 1) (j := 2) rfl, _, H.cell2 (b := b44) (i := 1) (j := 3) rfl, _, H.cell2 (b := b44) (i := 1) (j := 4) rfl, call (copied_r (e := r.e) (row_data hmem (H.take (all rowA R.rows))) (hdl r hmem)) ?_⟩
      rintro _ w5 ⟨s', rfl, K⟩
      have H := H.join K
      obtain ⟨x, hx0⟩ : ∃ x : Ec, x = { r.e with s := s' } := ⟨_, rfl⟩
      have hxa : x.abs = r.e.abs := by rw [hx0]; rfl
      refine ⟨_, _, _, _, _, rfl, H.newRow (e := Ty_api_Entry) (n := 1) (size := 5) x.c (by rw [hx0]; rfl) rfl (by decide) fun b70 w6 H => ?_⟩
      refine H.app (s := l) slT_sl_api_Entry (H.cel (s := ⟨some (blk b70), 1, 1⟩)) (fun u hu => one_ent [x] u (by simpa using hu)) (by unfold maxLen; simp only; omega) (by simp only; omega) fun s73 w7 H hs73 => ?_
      simp only at hs73
      have H := ((H.own ⟨some (blk b70), 1, 1⟩).drop.blk b44).drop
      have H := ((H.own s').ent (Ent.star (Ent.refl _) (Ent.pick (P := all entA S) (Ent.refl _)))).assoc'
      have px : Ent (star (own Ty_uint8 1 s' (r.e.data.map u8v)) (all entA S)) (all entA (S ++ [x])) := by rw [hx0]; exact all_snoc entA { r.e with s := s' } S
      have H := (H.ent (Ent.star px (Ent.refl _))).own s73
      have e0 : S.flatMap Ec.c ++ x.c = (insAt S x S.length).flatMap Ec.c := by rw [insAt_end]; simp
      rw [e0] at H
      refine ⟨fun i w' => ∃ n : Nat, i = (n : Int) ∧ n ≤ S.length ∧ (∀ j, n ≤ j → (hj : j < S.length) → ltT x.tag S[j].tag = true) ∧ Hp w0 w' (star (own Ty_api_Entry 5 s73 ((insAt S x n).flatMap Ec.c)) (star (all entA (S ++ [x])) (star (refB q R) (star (refC R) (star (all rowA R.rows) F))))), fun i _ => i.toNat, ⟨S.length, by rw [hs73, wr64 (by omega) (by omega)]; omega, Nat.le_refl _, (fun j h1 h2 => by omega), H⟩, ?_⟩
      rintro _ w8 ⟨n, rfl, hn', hge, H⟩
      have hz : ∀ (z : Addr) (y : Nat) j, ((z.add (y * 5)).add 0).add j = (z.add (y * 5)).add j := fun z y j => by rw [add_add (z.add (y * 5)), Nat.zero_add]
      refine ⟨fun b w' => (b = true → ∃ n', n = n' + 1 ∧ (∃ hj : n' < S.length, ltT x.tag S[n'].tag = true)) ∧ (b = false → ∀ j, j + 1 = n → (hj : j < S.length) → ltT x.tag S[j].tag = false) ∧ Hp w0 w' (star (own Ty_api_Entry 5 s73 ((insAt S x n).flatMap Ec.c)) (star (all entA (S ++ [x])) (star (refB q R) (star (refC R) (star (all rowA R.rows) F))))), ⟨fun h2 => ?_, fun h2 => ?_⟩, ?_⟩
      · simp only [decide_eq_true_eq] at h2
        obtain ⟨n', rfl⟩ : ∃ n', n = n' + 1 := ⟨n - 1, by omega⟩
        have hn2 : n' < S.length := by omega
        have H := H.drew 1
        have e1 : wr .i64 (((n' + 1 : Nat) : Int) - 1) = (n' : Int) := by rw [wr64 (by omega) (by omega)]; omega
        rw [e1, Int.toNat_natCast, Int.toNat_natCast]
        obtain ⟨a1, ha1, hc1⟩ := ent_el (s := s73) H (insAt_pre (x := x) hn2)
        obtain ⟨a2, ha2, hc2⟩ := ent_el (s := s73) H (insAt_at (x := x) hn')
        refine ⟨a2, ha2, by omega, by omega, _, by rw [hz]; exact hc2 0 _ rfl, _, by rw [hz]; exact hc2 1 _ rfl, a1, ha1, by omega, by omega, _, by rw [hz]; exact hc1 0 _ rfl, _, by rw [hz]; exact hc1 1 _ rfl, call (below_r x.tag S[n'].tag _) ?_⟩
        rintro _ w9 ⟨rfl, f⟩
        exact ⟨_, rfl, fun hb => ⟨n', rfl, hn2, hb⟩, (fun hb j hj hj2 => (show j = n' by omega) ▸ hb), H.fr0 f⟩
      · simp only [decide_eq_false_iff_not] at h2
        exact ⟨(fun h => nomatch h), fun _ j hj _ => by omega, H.drew 1⟩
      · rintro b w9 ⟨hb1, hb2, H⟩
        refine ⟨fun hb => ?_, fun hb => ?_⟩
        · obtain ⟨n', rfl, hn2, hlt'⟩ := hb1 hb
          have e1 : wr .i64 (((n' + 1 : Nat) : Int) - 1) = (n' : Int) := by rw [wr64 (by omega) (by omega)]; omega
          rw [e1, Int.toNat_natCast, Int.toNat_natCast]
          obtain ⟨a2, ha2, hc2⟩ := ent_el (s := s73) H (insAt_at (x := x) hn')
          refine ⟨a2, ha2, by omega, by omega, _, hc2 0 _ rfl, _, hc2 1 _ rfl, _, hc2 2 _ rfl, _, hc2 3 _ rfl, _, hc2 4 _ rfl, H.new fun b103 w10 H => H.stoAll (b := b103) (by rfl) fun w11 H => ?_⟩
          obtain ⟨a1, ha1, hc1⟩ := ent_el (s := s73) H (insAt_pre (x := x) hn2)
          refine ⟨a1, ha1, by omega, by omega, _, hc1 0 _ rfl, _, hc1 1 _ rfl, _, hc1 2 _ rfl, _, hc1 3 _ rfl, _, hc1 4 _ rfl, a2, ha2, by omega, by omega, ?_⟩
          refine Hp.stoNOwn ha2 S[n'].c ((n' + 1) * 5) 0 _ _ (by rw [flat_len ent_len, ent_len, insAt_len hn']; omega) (H.own s73) fun w12 H => ?_
          rw [Nat.add_zero ((n' + 1) * 5), flat_set ent_len (by rw [insAt_len hn']; omega)] at H
          refine ⟨_, H.cell (b := b103) (i := 0) rfl, _, H.cell (b := b103) (i := 1) rfl, _, H.cell (b := b103) (i := 2) rfl, _, H.cell (b := b103) (i := 3) rfl, _, H.cell (b := b103) (i := 4) rfl, a1, ha1, by omega, by omega, ?_⟩
          refine Hp.stoNOwn ha1 x.c (n' * 5) 0 _ _ (by rw [flat_len ent_len, ent_len, List.length_set, insAt_len hn']; omega) H fun w13 H => ?_
          rw [Nat.add_zero (n' * 5), flat_set ent_len (by rw [List.length_set, insAt_len hn']; omega), insAt_swap hn2] at H
          refine ⟨⟨n', rfl, by omega, fun j h1 h2 => ?_, ((H.blk b103).drop)⟩, by dsimp only; omega⟩
          by_cases hj : j = n'
          · subst hj; exact hlt'
          · exact hge j (by omega) h2
        · refine ⟨insAt S x n, by rw [insAt_len hn']; omega, ?_, ?_, ?_⟩
          · have h2 := (insAt_perm (x := x) (l := S) (i := n)).map Ec.abs
            rw [List.map_cons, hxa] at h2
            exact h2.trans ((List.perm_append_singleton _ _).symm.trans (List.Perm.append_right _ hp))
          · exact insAt_pw (lt := fun a b : Ec => ltT a.tag b.tag) (fun a b h => ltT_asymm h) (fun a b c h1 h2 => ltT_ntrans h1 h2) hs hn' hge (hb2 hb)
          · have h2 : (S ++ [x]).Perm (insAt S x n) := (List.perm_append_singleton x S).trans insAt_perm.symm
            exact H.ent (Ent.star (Ent.refl _) (Ent.star (all_perm h2) (Ent.refl _)))
  · have hme : m = R.rows.length := by rw [hrl] at h; simp only [decide_eq_false_iff_not] at h; omega
    subst hme
    rw [List.take_length] at hp
    have hab := listS_of hn (fun x hx => (rsh_tag hx).1) hp hs
    refine Rt.ok ⟨l, S, rfl, hab, ?_⟩
    refine H.assoc'.ent (Ent.star (Ent.refl _) ((Ent.star (Ent.refl _) Asn.assoc').trans Asn.assoc'))
theorem rall0_r : Calls PP F_sherdref15_Table_All #[.pointer none] w (Rt fun v w' => v = Slc.nil.v ∧ w' = w) := by
  refine sim_sherdref15_Table_All _ _ _ ?_
  unfold vc_sherdref15_Table_All
  refine call rkeys0_r ?_
  rintro _ w1 ⟨rfl, h⟩
  subst h
  refine ⟨_, rfl, fun s i w' => s = Slc.nil ∧ i = 0 ∧ w' = w1, fun _ _ _ => 0, ⟨rfl, rfl, rfl⟩, ?_⟩
  rintro _ _ _ ⟨rfl, rfl, rfl⟩
  exact ⟨fun h => by simp at h, fun _ => Rt.ok ⟨rfl, rfl⟩⟩
theorem rall_r (hS : Sim R T) (hk : (T.keys.map (·.1)).Nodup) (hne : ∀ y ∈ T.keys, y.2.2 ≠ []) (hn : ∀ k, ((T.sh k).map (·.1)).Nodup) (hl : R.rows.length ≤ 137438953472) (hkl : T.keys.length ≤ 1099511627776) (hdl : ∀ r ∈ R.rows, r.e.data.length ≤ 1099511627776) (H : Hp w0 w (star (refA p R) F)) :
    Calls PP F_sherdref15_Table_All #[.pointer (some (blk p))] w (Rt fun v w' => ∃ s hs, v = Slc.v s ∧ hs.map Hd.abs = allS T ∧ Hp w0 w' (star (heldsA s hs) (star (refA p R) F))) := by
  refine sim_sherdref15_Table_All _ _ _ ?_
  unfold vc_sherdref15_Table_All
  refine call (rkeys_r hS hk hne hl H) ?_
  rintro _ w1 ⟨sk, rfl, H⟩
  have hkl : sk.l = (sortK (T.keys.map (·.1))).length := by
    have := (H.cel (s := sk)).len
    simp at this
    omega
  have hsz : (sortK (T.keys.map (·.1))).length = T.keys.length := by rw [(sortK_perm _).length_eq, List.length_map]
  have hn0 := hkl
  have hall : allS T = (sortK (T.keys.map (·.1))).map fun k => (k, listS (T.sh k)) := rfl
  generalize hK : sortK (T.keys.map (·.1)) = K at *
  refine ⟨_, rfl, fun s i w' => ∃ (q : Nat) (hs : List Hd), i = (q : Int) ∧ q ≤ K.length ∧ hs.map Hd.abs = (K.take q).map (fun k => (k, listS (T.sh k))) ∧ Hp w0 w' (star (heldsA s hs) (star (own Ty_string 1 sk (K.map Value.string)) (star (refA p R) F))), fun _ i _ => K.length - i.toNat, ⟨0, [], rfl, Nat.zero_le _, by simp, H.ent heldsA_nil⟩, ?_⟩
  rintro s _ w2 ⟨q, hs, rfl, hq, hab, H⟩
  have hlq : hs.length = q := by have := congrArg List.length hab; simpa [Nat.min_eq_left hq] using this
  have H := H.assoc
  have hsl : s.l = hs.length := Cel.flen (enc := Hd.c) hd_len (H.cel (s := s)) (by decide)
  refine ⟨fun h => ?_, fun h => ?_⟩
  · have hlt : q < K.length := by rw [hkl] at h; simp only [decide_eq_true_eq] at h; omega
    obtain ⟨a, ha, hc⟩ := (H.cel (s := sk)).at_ q (.string K[q]) (by simp [List.getElem?_eq_getElem hlt])
    have e1 : wr .i64 ((q : Int) + 1) = ((q + 1 : Nat) : Int) := by rw [wr64 (by omega) (by omega)]; omega
    refine ⟨a, ha, by omega, by omega, _, by rw [Int.toNat_natCast, Nat.mul_one]; exact hc, call (rentries_r hl (by rw [← hS.sh]; exact hn _) hdl (H.take (refA p R))) ?_⟩
    rintro _ w3 ⟨sE, es, rfl, hes, H⟩
    rw [← hS.sh] at hes
    refine ⟨_, rfl, H.newRow (e := Ty_api_Held) (n := 1) (size := 2) (Hd.c ⟨K[q], sE, es⟩) rfl rfl (by decide) fun b26 w4 H => ?_⟩
    refine H.app (s := s) slT_sl_api_Held (H.cel (s := ⟨some (blk b26), 1, 1⟩)) (fun u hu => one_hd [⟨K[q], sE, es⟩] u (by simpa using hu)) (by unfold maxLen; simp only; omega) (by simp only; omega) fun s' w5 H _ => ?_
    have H := (H.own ⟨some (blk b26), 1, 1⟩).drop
    have H := (((H.take (all heldA hs)).take (entsA sE es)).assoc').ent (Ent.star (all_snoc heldA ⟨K[q], sE, es⟩ hs) (Ent.refl _))
    have H := (H.own s').assoc'
    refine ⟨⟨q + 1, hs ++ [⟨K[q], sE, es⟩], by rw [e1], by omega, ?_, ?_⟩, by dsimp only; rw [e1]; omega⟩
    · rw [List.map_append, hab, List.take_succ_eq_append_getElem hlt, List.map_append]
      simp [Hd.abs, hes]
    · unfold heldsA
      have eF : ∀ h' : Hd, (hs ++ [h']).flatMap Hd.c = hs.flatMap Hd.c ++ h'.c := fun h' => by simp
      rw [eF]
      refine H.ent ?_
      exact Ent.star (Ent.refl _) (Ent.pick (P := own Ty_string 1 sk _) (Ent.pick (P := refA p R) (Ent.refl _)))
  · have hqe : q = K.length := by rw [hkl] at h; simp only [decide_eq_false_iff_not] at h; omega
    subst hqe
    refine Rt.ok ⟨s, hs, rfl, by rw [hab, List.take_length, hall], ?_⟩
    have H := (H.own sk).drop
    exact H.assoc'.ent (Ent.refl _)
theorem rfrag0_r {k : ByteArray} : Calls PP F_sherdref15_Table_Fragments #[.pointer none, .string k] w (Rt fun v w' => v = .int .i64 0 ∧ Fr [] w w') := by
  refine sim_sherdref15_Table_Fragments _ _ _ _ ?_
  unfold vc_sherdref15_Table_Fragments
  refine call rentries0_r ?_
  rintro _ w1 ⟨rfl, h⟩
  subst h
  refine ⟨_, rfl, fun n i w' => n = 0 ∧ i = 0 ∧ w' = w1, fun _ _ _ => 0, ⟨rfl, rfl, rfl⟩, ?_⟩
  rintro _ _ _ ⟨rfl, rfl, rfl⟩
  exact ⟨fun h => by simp at h, fun _ => Rt.ok ⟨rfl, Fr.refl _ _⟩⟩
theorem rfrag_r {k : ByteArray} (hl : R.rows.length ≤ 137438953472) (hn : ((rsh R.rows k).map (·.1)).Nodup) (hdl : ∀ r ∈ R.rows, r.e.data.length ≤ 1099511627776) (H : Hp w0 w (star (refA p R) F)) :
    Calls PP F_sherdref15_Table_Fragments #[.pointer (some (blk p)), .string k] w (Rt fun v w' => v = .int .i64 (fragS (rsh R.rows k) : Int) ∧ Hp w0 w' (star (refA p R) F)) := by
  refine sim_sherdref15_Table_Fragments _ _ _ _ ?_
  unfold vc_sherdref15_Table_Fragments
  refine call (rentries_r hl hn hdl H) ?_
  rintro _ w1 ⟨s, es, rfl, hes, H⟩
  have H := H.assoc
  have hsl := ents_l (s := s) (es := es) H
  have hl2 := rsh_len R.rows k
  have hlen : es.length = (rsh R.rows k).length := by
    have := congrArg List.length hes
    simpa [listS, (sortU_perm _).length_eq] using this
  have hcount : fragS (rsh R.rows k) = es.countP (·.has) := by
    unfold fragS
    rw [← hes, List.countP_map]
    rfl
  refine ⟨_, rfl, fun n i w' => (∃ m : Nat, i = (m : Int) ∧ m ≤ es.length ∧ n = (((es.take m).countP (·.has) : Nat) : Int)) ∧ Hp w0 w' (star (own Ty_api_Entry 5 s (es.flatMap Ec.c)) (star (all entA es) (star (refA p R) F))), fun _ i _ => es.length - i.toNat, ⟨⟨0, rfl, Nat.zero_le _, rfl⟩, H⟩, ?_⟩
  rintro _ _ w2 ⟨⟨m, rfl, hm, rfl⟩, H⟩
  refine ⟨fun h => ?_, fun h => ?_⟩
  · have hlt : m < es.length := by rw [hsl] at h; simp only [decide_eq_true_eq] at h; omega
    have hx : es[m]? = some es[m] := List.getElem?_eq_getElem hlt
    obtain ⟨a, ha, hc⟩ := ent_get (s := s) (es := es) H hx
    have hcl : (es.take m).countP (·.has) ≤ m := Nat.le_trans List.countP_le_length (by simp; omega)
    have e1 : wr .i64 ((m : Int) + 1) = ((m + 1 : Nat) : Int) := by rw [wr64 (by omega) (by omega)]; omega
    have e2 : wr .i64 ((((es.take m).countP (·.has) : Nat) : Int) + 1) = (((es.take m).countP (·.has) + 1 : Nat) : Int) := by rw [wr64 (by omega) (by omega)]; omega
    have e3 : es.take (m + 1) = es.take m ++ [es[m]] := by rw [List.take_succ_eq_append_getElem hlt]
    refine ⟨fun n w' => n = (((es.take (m + 1)).countP (·.has) : Nat) : Int) ∧ Hp w0 w' (star (own Ty_api_Entry 5 s (es.flatMap Ec.c)) (star (all entA es) (star (refA p R) F))), ?_, ?_⟩
    · refine ⟨a, ha, by omega, by omega, _, hc 0 _ rfl, _, hc 1 _ rfl, _, hc 2 _ rfl, _, hc 3 _ rfl, _, hc 4 _ rfl, H.new fun b37 w3 H => H.stoAll (b := b37) (by rfl) fun w4 H => ⟨_, H.cell (b := b37) (i := 3) rfl, fun h => ⟨?_, H.drop⟩, fun h => ⟨?_, H.drop⟩⟩⟩
      · rw [e2, e3, List.countP_append]; simp [h]
      · rw [e3, List.countP_append]; simp [h]
    · rintro n w3 ⟨rfl, H⟩
      exact ⟨⟨⟨m + 1, by rw [e1], by omega, rfl⟩, H⟩, by dsimp only; rw [e1]; omega⟩
  · have hmm : m = es.length := by rw [hsl] at h; simp only [decide_eq_false_iff_not] at h; omega
    subst hmm
    refine Rt.ok ⟨?_, H.drop.drop⟩
    rw [List.take_length, hcount]
theorem rupdates_r {N : Nat} (hS : Sim R T) (hk : (T.keys.map (·.1)).Nodup) (hne : ∀ y ∈ T.keys, y.2.2 ≠ []) (hn : ∀ k, ((T.sh k).map (·.1)).Nodup) (hl : R.rows.length ≤ 137438953472) (hkl : T.keys.length ≤ 1099511627776) (hdl : ∀ r ∈ R.rows, r.e.data.length ≤ 1099511627776) (hN : (updL (allS T)).length ≤ N) (hN2 : N ≤ 549755813888) (H : Hp w0 w (star (refA p R) F)) :
    Calls PP F_sherdref15_Table_Updates #[.pointer (some (blk p))] w (Rt fun v w' => ∃ s us, v = Slc.v s ∧ us.map Upt.abs = updL (allS T) ∧ us.length ≤ N ∧ Hp w0 w' (star (updsA s us) (star (refA p R) F))) := by
  refine sim_sherdref15_Table_Updates _ _ _ ?_
  unfold vc_sherdref15_Table_Updates
  refine call (rall_r hS hk hne hn hl hkl hdl H) ?_
  rintro _ w1 ⟨sA, hs, rfl, hab, H⟩
  have hpre : ∀ k, ((hs.take k).flatMap fun h => h.es.map (uOf h.key)).length ≤ N := fun k => by
    have h1 : (hs.flatMap fun h => h.es.map (uOf h.key)).length ≤ N := by
      rw [← List.length_map (f := Upt.abs), updL_hs, hab]
      exact hN
    have h2 : (hs.flatMap fun h => h.es.map (uOf h.key)) = ((hs.take k).flatMap fun h => h.es.map (uOf h.key)) ++ ((hs.drop k).flatMap fun h => h.es.map (uOf h.key)) := by
      rw [← List.flatMap_append, List.take_append_drop]
    rw [h2, List.length_append] at h1
    omega
  have H := H.assoc
  have hAl : sA.l = hs.length := Cel.flen (enc := Hd.c) hd_len (H.cel (s := sA)) (by decide)
  have hCn := hkl
  have hc1 : hs.length ≤ 1099511627776 := by
    have := congrArg List.length hab
    rw [List.length_map, allS_len] at this
    omega
  refine ⟨_, rfl, fun l i w' => ∃ (q : Nat) (us : List Upt), i = (q : Int) ∧ q ≤ hs.length ∧ us = ((hs.take q).flatMap fun h => h.es.map (uOf h.key)) ∧ Hp w0 w' (star (own Ty_api_Update 7 l (us.flatMap Upt.c)) (star (all updD us) (star (own Ty_api_Held 2 sA (hs.flatMap Hd.c)) (star (all heldA (hs.drop q)) (star (refA p R) F))))), fun _ i _ => hs.length - i.toNat, ⟨0, [], rfl, Nat.zero_le _, rfl, ?_⟩, ?_⟩
  · exact (H.ent emp_l).nilRow _ _
  rintro l _ w2 ⟨q, us, rfl, hq, hus, H⟩
  refine ⟨fun h => ?_, fun h => ?_⟩
  · have hlt : q < hs.length := by rw [hAl] at h; simp only [decide_eq_true_eq] at h; omega
    have hx : hs[q]? = some hs[q] := List.getElem?_eq_getElem hlt
    have hmem : hs[q] ∈ hs := List.getElem_mem _
    have hdr : hs.drop q = hs[q] :: hs.drop (q + 1) := List.drop_eq_getElem_cons hlt
    have htk : hs.take (q + 1) = hs.take q ++ [hs[q]] := by rw [List.take_succ_eq_append_getElem hlt]
    obtain ⟨a, ha, hc⟩ := Cel.elem (enc := Hd.c) hd_len (H.cel (s := sA)) hx (by decide)
    have e1 : wr .i64 ((q : Int) + 1) = ((q + 1 : Nat) : Int) := by rw [wr64 (by omega) (by omega)]; omega
    have hXN : us.length + hs[q].es.length ≤ N := by
      have h1 := hpre (q + 1)
      rw [htk, List.flatMap_append, ← hus, List.length_append] at h1
      simpa using h1
    generalize hX : hs[q] = X at *
    rw [hdr] at H
    have H : Hp w0 w2 (star (own Ty_api_Update 7 l (us.flatMap Upt.c)) (star (all updD us) (star (own Ty_api_Held 2 sA (hs.flatMap Hd.c)) (star (star (star (own Ty_api_Entry 5 X.s (X.es.flatMap Ec.c)) (all entA X.es)) (all heldA (hs.drop (q + 1)))) (star (refA p R) F))))) := H
    refine ⟨fun l w' => Hp w0 w' (star (own Ty_api_Update 7 l ((us ++ X.es.map (uOf X.key)).flatMap Upt.c)) (star (all updD (us ++ X.es.map (uOf X.key))) (star (own Ty_api_Held 2 sA (hs.flatMap Hd.c)) (star (all heldA (hs.drop (q + 1))) (star (refA p R) F))))), ?_, ?_⟩
    · refine ⟨a, ha, by omega, by omega, _, hc 0 _ rfl, _, hc 1 _ rfl, H.new fun b30 w3 H => H.stoAll (b := b30) (by rfl) fun w4 H => ⟨_, H.cell (b := b30) (i := 1) rfl, ?_⟩⟩
      have H := H.own X.s
      have hEl := ents_l (s := X.s) (es := X.es) H
      refine ⟨fun l i w' => ∃ r : Nat, i = (r : Int) ∧ r ≤ X.es.length ∧ Hp w0 w' (star (own Ty_api_Update 7 l ((us ++ (X.es.take r).map (uOf X.key)).flatMap Upt.c)) (star (all updD (us ++ (X.es.take r).map (uOf X.key))) (star (own Ty_api_Entry 5 X.s (X.es.flatMap Ec.c)) (star (all entA (X.es.drop r)) (star (bk b30 Ty_api_Held #[.string X.key, X.s.v]) (star (own Ty_api_Held 2 sA (hs.flatMap Hd.c)) (star (all heldA (hs.drop (q + 1))) (star (refA p R) F)))))))), fun _ i _ => X.es.length - i.toNat, ⟨0, rfl, Nat.zero_le _, ?_⟩, ?_⟩
      · rw [List.take_zero, List.map_nil, List.append_nil, List.drop_zero]
        refine H.ent ?_
        exact Ent.pick (P := own Ty_api_Update 7 l _) (Ent.pick (P := all updD us) (Ent.pick (P := own Ty_api_Entry 5 X.s _) (Ent.pick (P := all entA X.es) (Ent.pick (P := bk b30 Ty_api_Held _) (Ent.pick (P := own Ty_api_Held 2 sA _) (Ent.pick (P := all heldA _) (Ent.refl _)))))))
      rintro l2 _ w5 ⟨r, rfl, hr, H⟩
      refine ⟨fun h => ?_, fun h => ?_⟩
      · have hrlt : r < X.es.length := by rw [hEl] at h; simp only [decide_eq_true_eq] at h; omega
        have hxr : X.es[r]? = some X.es[r] := List.getElem?_eq_getElem hrlt
        have hdr2 : X.es.drop r = X.es[r] :: X.es.drop (r + 1) := List.drop_eq_getElem_cons hrlt
        have htk2 : X.es.take (r + 1) = X.es.take r ++ [X.es[r]] := by rw [List.take_succ_eq_append_getElem hrlt]
        obtain ⟨aE, haE, hcE⟩ := Cel.elem (enc := Ec.c) ent_len (H.cel (s := X.s)) hxr (by decide)
        have e2 : wr .i64 ((r : Int) + 1) = ((r + 1 : Nat) : Int) := by rw [wr64 (by omega) (by omega)]; omega
        have hl2 : l2.l = (us ++ (X.es.take r).map (uOf X.key)).length := Cel.flen (enc := Upt.c) ut_len (H.cel (s := l2)) (by decide)
        have hl3 : l2.l ≤ us.length + r := by rw [hl2, List.length_append, List.length_map, List.length_take]; omega
        generalize hE : X.es[r] = e at *
        refine ⟨aE, haE, by omega, by rw [hEl]; omega, _, hcE 0 _ rfl, _, hcE 1 _ rfl, _, hcE 2 _ rfl, _, hcE 3 _ rfl, _, hcE 4 _ rfl, H.new fun b61 w6 H => H.stoAll (b := b61) (by rfl) fun w7 H => ⟨_, H.cell (b := b30) (i := 0) rfl, _, H.cell (b := b61) (i := 0) rfl, _, H.cell (b := b61) (i := 1) rfl, _, H.cell (b := b61) (i := 2) rfl, _, H.cell (b := b61) (i := 3) rfl, _, H.cell (b := b61) (i := 4) rfl, ?_⟩⟩
        refine H.newRow (e := Ty_api_Update) (n := 1) (size := 7) (uOf X.key e).c rfl rfl (by decide) fun b77 w8 H => ?_
        refine H.app (s := l2) slT_sl_api_Update (H.cel (s := ⟨some (blk b77), 1, 1⟩)) (fun u hu => one_ut [uOf X.key e] u (by simpa using hu)) (by unfold maxLen; simp only; omega) (by simp only; omega) fun l3 w9 H _ => ?_
        have H := ((H.own ⟨some (blk b77), 1, 1⟩).drop.blk b61).drop
        have H := H.take (all entA (X.es.drop r))
        rw [hdr2] at H
        have H : Hp w0 w9 (star (star (updD (uOf X.key e)) (all entA (X.es.drop (r + 1)))) _) := H
        have H := ((H.assoc.swap.ent (Ent.star (Ent.refl _) (Ent.pick (P := all updD (us ++ (X.es.take r).map (uOf X.key))) (Ent.refl _)))))
        have H := H.take (updD (uOf X.key e))
        have H := ((H.ent (Ent.star (Ent.refl _) (Ent.pick (P := all updD (us ++ (X.es.take r).map (uOf X.key))) (Ent.refl _)))).assoc').ent (Ent.star (all_snoc updD (uOf X.key e) _) (Ent.refl _))
        refine ⟨⟨r + 1, by rw [e2], by omega, ?_⟩, by dsimp only; rw [e2]; omega⟩
        rw [htk2, List.map_append, List.map_cons, List.map_nil, ← List.append_assoc]
        rw [show (us ++ (X.es.take r).map (uOf X.key) ++ [uOf X.key e]).flatMap Upt.c = (us ++ (X.es.take r).map (uOf X.key)).flatMap Upt.c ++ (uOf X.key e).c by simp]
        refine H.ent ?_
        exact Ent.pick (P := own Ty_api_Update 7 l3 _) (Ent.pick (P := all updD _) (Ent.pick (P := own Ty_api_Entry 5 X.s _) (Ent.pick (P := all entA _) (Ent.pick (P := bk b30 Ty_api_Held _) (Ent.pick (P := own Ty_api_Held 2 sA _) (Ent.pick (P := all heldA _) (Ent.refl _)))))))
      · have hre : r = X.es.length := by rw [hEl] at h; simp only [decide_eq_false_iff_not] at h; omega
        subst hre
        rw [List.take_length] at H
        have H := (((H.own X.s).drop.take (all entA (X.es.drop X.es.length))).drop.blk b30).drop
        exact H
    · intro l2 w3 H
      refine ⟨⟨q + 1, us ++ X.es.map (uOf X.key), by rw [e1], by omega, ?_, H⟩, by dsimp only; rw [e1]; omega⟩
      rw [htk, List.flatMap_append, ← hus]; simp
  · have hqe : q = hs.length := by rw [hAl] at h; simp only [decide_eq_false_iff_not] at h; omega
    subst hqe
    have hul := hpre hs.length
    rw [← hus] at hul
    rw [List.take_length] at hus
    refine Rt.ok ⟨l, us, rfl, ?_, hul, ?_⟩
    · rw [hus, updL_hs, hab]
    · have H := ((H.own sA).drop.take (all heldA (hs.drop hs.length))).drop
      exact H.assoc'
end
end Go.Proofs.YtgnceldnfefnmaaGreat
