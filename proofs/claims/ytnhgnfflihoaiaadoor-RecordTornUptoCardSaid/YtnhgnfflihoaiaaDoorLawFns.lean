/-
  The laws' helpers: mod, ints, own, equal.
-/
import Derived.Test.YtnhgnfflihoaiaaDoorPlain
namespace Go.Proofs.YtnhgnfflihoaiaaDoor
open Go Go.Vc
theorem tmod_fix {k n : Int} (hn : 0 < n) : (if k.tmod n < 0 then k.tmod n + n else k.tmod n) = k % n := by
  have h1 := Int.emod_nonneg k (by omega : n ≠ 0)
  have h2 := Int.emod_lt_of_pos k hn
  have e := Int.tmod_eq_emod (a := k) (b := n)
  by_cases hc : 0 ≤ k ∨ n ∣ k
  · rw [if_pos hc] at e
    have e2 : k.tmod n = k % n := by rw [e]; simp
    rw [e2, if_neg (by omega)]
  · rw [if_neg hc] at e
    have e2 : k.tmod n = k % n - n := by rw [e]; omega
    rw [e2, if_pos (by omega)]
    omega
theorem mod_c {k n : Int} (w : World) (hn : 0 < n) (hn2 : n ≤ 4611686018427387904) : Calls PP F_sherdlaw11_mod #[.int .i64 k, .int .i64 n] w (Rt fun v w' => v = .int .i64 (k % n) ∧ w = w') := by
  have h1 := Int.emod_nonneg k (by omega : n ≠ 0)
  have h2 := Int.emod_lt_of_pos k hn
  have ht := tmod_fix (k := k) hn
  refine sim_sherdlaw11_mod _ _ _ _ ?_
  unfold vc_sherdlaw11_mod
  refine ⟨by omega, fun r w' => r = k % n ∧ w = w', ⟨fun h => ?_, fun h => ?_⟩, ?_⟩
  · simp only [decide_eq_true_eq] at h
    rw [if_pos h] at ht
    rw [ht, wr64 (by omega) (by omega)]
    exact ⟨rfl, rfl⟩
  · simp only [decide_eq_false_iff_not] at h
    rw [if_neg h] at ht
    exact ⟨ht, rfl⟩
  · rintro _ _ ⟨rfl, rfl⟩
    exact Rt.ok ⟨rfl, rfl⟩
theorem ints_c {w : World} {a b : Slc} {xs ys : List Int} (ha : Cel w a 1 (xs.map (Value.int .i64))) (hb : Cel w b 1 (ys.map (Value.int .i64))) (hm : xs.length ≤ 9223372036854775000) : Calls PP F_sherdlaw11_ints #[a.v, b.v] w (Rt fun v w' => v = .bool (decide (xs = ys)) ∧ Fr [] w w') := by
  have hal : a.l = xs.length := by have := ha.len; simp at this; omega
  have hbl : b.l = ys.length := by have := hb.len; simp at this; omega
  refine sim_sherdlaw11_ints _ _ _ _ ?_
  unfold vc_sherdlaw11_ints
  refine ⟨fun h => ?_, fun h => ?_⟩
  · simp only [decide_eq_true_eq] at h
    refine Rt.ok ⟨?_, Fr.refl _ _⟩
    rw [decide_eq_false]
    intro e; subst e; omega
  · simp only [decide_eq_false_iff_not, ne_eq, Decidable.not_not] at h
    have hl : xs.length = ys.length := by omega
    refine ⟨fun i w' => Fr [] w w' ∧ ∃ k : Nat, i = (k : Int) ∧ k ≤ xs.length ∧ xs.take k = ys.take k, fun i _ => xs.length - i.toNat, ⟨Fr.refl _ _, 0, rfl, by omega, by simp⟩, ?_⟩
    rintro _ w1 ⟨f1, k, rfl, hk, hp⟩
    refine ⟨fun hlt => ?_, fun hge => ?_⟩
    · simp only [decide_eq_true_eq, hal] at hlt
      have hk1 : k < xs.length := by omega
      have hk2 : k < ys.length := by omega
      obtain ⟨p, hp1, hc1⟩ := (ha.fr0 f1).get (i := k) (by simpa using hk1)
      obtain ⟨q, hq1, hc2⟩ := (hb.fr0 f1).get (i := k) (by simpa using hk2)
      refine ⟨p, hp1, by omega, by omega, xs[k], by simpa using hc1, q, hq1, by omega, by omega, ys[k], by simpa using hc2, fun k20 => ⟨fun hne => ?_, fun he => ?_⟩⟩
      · simp only [decide_eq_true_eq] at hne
        refine Rt.ok ⟨?_, f1.drewN _⟩
        rw [decide_eq_false]
        intro e; subst e; exact hne rfl
      · simp only [decide_eq_false_iff_not, ne_eq, Decidable.not_not] at he
        rw [wr64 (by omega) (by omega)]
        refine ⟨⟨f1.drewN _, k + 1, rfl, by omega, ?_⟩, by dsimp only; omega⟩
        rw [List.take_succ_eq_append_getElem hk1, List.take_succ_eq_append_getElem hk2, hp, he]
    · simp only [decide_eq_false_iff_not, hal] at hge
      have hkk : k = xs.length := by omega
      subst hkk
      rw [List.take_length, hl, List.take_length] at hp
      exact Rt.ok ⟨by simp [hp], f1⟩
end Go.Proofs.YtnhgnfflihoaiaaDoor

/-
  The laws' helpers: own, equal.
-/
namespace Go.Proofs.YtnhgnfflihoaiaaDoor
open Go Go.Vc
/-- An update in its own form, with its data's slice. -/
def Upd.ownD (u : Upd) : Upd :=
  if u.kind = 1 then { u with fin := false, has := false } else if u.kind = 2 then { u with fin := false, has := false, data := Slc.nil, ds := [] }
  else if u.kind = 3 ∧ u.has = false then { u with data := Slc.nil, ds := [] } else u
def Upd.v (u : Upd) : Value := .agg #[.int .i64 u.kind, .string u.key, .int .i64 u.cnt, .int .i64 u.cli, .bool u.fin, .bool u.has, u.data.v]
theorem own_c (u : Upd) (w : World) : Calls PP F_sherdlaw11_own #[u.v] w (Rt fun v w' => v = u.ownD.v ∧ Fr [] w w') := by
  obtain ⟨kind, key, cnt, cli, fin, has, data, ds⟩ := u
  refine sim_sherdlaw11_own _ _ _ _ _ _ _ _ _ ?_
  unfold vc_sherdlaw11_own
  refine New.intro fun b w1 nb => New.intro fun r w2 nr => ?_
  have hB := nb.blk.fr nr.fr (by simp)
  have f2 := nb.fr.then_ nr.fr
  have bS : ∀ x, x ∈ [b] → x ∈ ([] : List Nat) ∨ w.heap.size ≤ x := fun x hx => .inr (by simp at hx; rw [hx, nb.at_]; exact Nat.le_refl _)
  have rS : ∀ x, x ∈ [r] → x ∈ ([] : List Nat) ∨ w.heap.size ≤ x := fun x hx => .inr (by simp at hx; rw [hx, nr.at_]; exact nb.fr.size)
  have hrb : r ∉ [b] := by have h1 := nb.blk.lt; have h2 := nr.at_; simp; omega
  let P (u : Upd) (w' : World) : Prop := Blk w' b Ty_api_Update #[.int .i64 u.kind, .string u.key, .int .i64 u.cnt, .int .i64 u.cli, .bool u.fin, .bool u.has, u.data.v] ∧ Fr [] w w' ∧ Blk w' r Ty_api_Update #[.int .i64 0, .string ⟨#[]⟩, .int .i64 0, .int .i64 0, .bool false, .bool false, Slc.nil.v]
  let u1 : Upd := if kind = 1 then ⟨kind, key, cnt, cli, false, false, data, ds⟩ else if kind = 2 then ⟨kind, key, cnt, cli, false, false, Slc.nil, []⟩ else ⟨kind, key, cnt, cli, fin, has, data, ds⟩
  refine ⟨P u1, ⟨fun h1 => ?_, fun h1 => ⟨fun h2 => ?_, fun h2 => ?_⟩⟩, ?_⟩
  · simp only [decide_eq_true_eq] at h1
    refine hB.sto2 (lt_ rfl) fun w3 h3 f3 => h3.sto2 (lt_ rfl) fun w4 h4 f4 => ?_
    show P u1 w4
    simp only [u1, if_pos h1]
    exact ⟨by simpa using h4, (f2.local_ f3 bS).local_ f4 bS, (nr.blk.fr f3 hrb).fr f4 hrb⟩
  · simp only [decide_eq_true_eq, decide_eq_false_iff_not] at h1 h2
    refine hB.sto2 (lt_ rfl) fun w3 h3 f3 => h3.sto2 (lt_ rfl) fun w4 h4 f4 => h4.sto2 (lt_ rfl) fun w5 h5 f5 => ?_
    show P u1 w5
    simp only [u1, if_neg h1, if_pos h2]
    exact ⟨by simpa using h5, ((f2.local_ f3 bS).local_ f4 bS).local_ f5 bS, ((nr.blk.fr f3 hrb).fr f4 hrb).fr f5 hrb⟩
  · simp only [decide_eq_false_iff_not] at h1 h2
    show P u1 w2
    simp only [u1, if_neg h1, if_neg h2]
    exact ⟨hB, f2, nr.blk⟩
  rintro w6 ⟨hB6, f6, hr6⟩
  have hu1 : u1.kind = kind := by
    simp only [u1]
    by_cases h1 : kind = 1
    · rw [if_pos h1]
    · rw [if_neg h1]
      by_cases h2 : kind = 2
      · rw [if_pos h2]
      · rw [if_neg h2]
  have hown : Upd.ownD ⟨kind, key, cnt, cli, fin, has, data, ds⟩ = if u1.kind = 3 ∧ u1.has = false then { u1 with data := Slc.nil, ds := [] } else u1 := by
    rw [hu1]
    unfold Upd.ownD
    simp only [u1]
    by_cases h1 : kind = 1
    · simp [h1]
    · by_cases h2 : kind = 2
      · simp [h2]
      · simp [h1, h2]
  generalize u1 = x at *
  refine ⟨P (if x.kind = 3 ∧ x.has = false then { x with data := Slc.nil, ds := [] } else x), ⟨_, hB6.cell rfl, decide (x.kind = 3) && !x.has, fun h => ⟨_, hB6.cell2 rfl, by rw [h]; rfl⟩, fun h => by rw [h]; rfl, fun hx => ?_, fun hx => ?_⟩, ?_⟩
  · refine hB6.sto2 (lt_ rfl) fun w7 h7 f7 => ?_
    rw [if_pos (by simpa using hx)]
    exact ⟨by simpa using h7, f6.local_ f7 bS, hr6.fr f7 hrb⟩
  · rw [if_neg (by simpa using hx)]
    exact ⟨hB6, f6, hr6⟩
  rw [← hown]
  rintro w8 ⟨hB8, f8, hr8⟩
  generalize Upd.ownD ⟨kind, key, cnt, cli, fin, has, data, ds⟩ = y at *
  refine ⟨_, hB8.cell rfl, _, hB8.cell rfl, _, hB8.cell rfl, _, hB8.cell rfl, _, hB8.cell rfl, _, hB8.cell rfl, y.data, hB8.cell rfl, hr8.stoAll rfl fun w9 h9 f9 => ?_⟩
  exact ⟨_, h9.cell rfl, _, h9.cell rfl, _, h9.cell rfl, _, h9.cell rfl, _, h9.cell rfl, _, h9.cell rfl, y.data, h9.cell rfl, Rt.ok ⟨rfl, f8.local_ f9 rS⟩⟩
end Go.Proofs.YtnhgnfflihoaiaaDoor

/-
  The laws' helpers: equal.
-/
namespace Go.Proofs.YtnhgnfflihoaiaaDoor
open Go Go.Vc
theorem equal_u {u v : Upd} {w : World} (h : Vc_up u = Vc_up v) (hu : Byt w u.data u.ds) (hv : Byt w v.data v.ds) : Calls PP F_sherdlaw11_equal #[u.v, v.v] w (Rt fun x w' => x = .bool true ∧ Fr [] w w') := by
  obtain ⟨kind, key, cnt, cli, fin, has, data, ds⟩ := u
  obtain ⟨kind2, key2, cnt2, cli2, fin2, has2, data2, ds2⟩ := v
  simp [Vc_up] at h
  obtain ⟨rfl, rfl, rfl, rfl, rfl, rfl, rfl⟩ := h
  refine sim_sherdlaw11_equal _ _ _ _ _ _ _ _ _ _ _ _ _ _ _ _ ?_
  unfold vc_sherdlaw11_equal
  refine New.intro fun b w1 nb => New.intro fun c w2 nc => ?_
  have f := nb.fr.then_ nc.fr
  refine ⟨fun x w' => x = true ∧ Fr [] w w', ⟨fun _ => call (same_c (hu.fr0 f) (hv.fr0 f)) ?_, fun h => by simp at h⟩, ?_⟩
  · rintro _ _ ⟨rfl, rfl⟩
    exact ⟨_, rfl, rfl, f⟩
  · rintro _ w3 ⟨rfl, f3⟩
    exact Rt.ok ⟨rfl, f3⟩
theorem updates_u {a b : Slc} {la lb : List Upd} {w : World} (ha : Ups w a la) (hb : Ups w b lb) (h : la.map Vc_up = lb.map Vc_up) (hm : la.length ≤ 9223372036854775000) : Calls PP F_sherdlaw11_updates #[a.v, b.v] w (Rt fun x w' => x = .bool true ∧ Fr [] w w') := by
  have hal := ha.len
  have hbl := hb.len
  have hl : la.length = lb.length := by have := congrArg List.length h; simpa using this
  refine sim_sherdlaw11_updates _ _ _ _ ?_
  unfold vc_sherdlaw11_updates
  refine ⟨fun hx => by simp only [decide_eq_true_eq] at hx; omega, fun _ => ⟨fun i w' => Fr [] w w' ∧ ∃ k : Nat, i = (k : Int) ∧ k ≤ la.length, fun i _ => la.length - i.toNat, ⟨Fr.refl _ _, 0, rfl, by omega⟩, ?_⟩⟩
  rintro _ w1 ⟨f1, k, rfl, hk⟩
  refine ⟨fun hlt => ?_, fun hge => Rt.ok ⟨rfl, f1⟩⟩
  simp only [decide_eq_true_eq, hal] at hlt
  have hk1 : k < la.length := by omega
  have hk2 : k < lb.length := by omega
  have f2 := f1.then_ (drewFr w1 1)
  obtain ⟨p, hp, hc⟩ := (ha.fr0 f2).get hk1
  obtain ⟨q, hq, hd⟩ := (hb.fr0 f2).get hk2
  refine ⟨p, hp, by omega, by omega, _, hc 0 _ rfl, _, hc 1 _ rfl, _, hc 2 _ rfl, _, hc 3 _ rfl, _, hc 4 _ rfl, _, hc 5 _ rfl, la[k].data, hc 6 _ rfl, q, hq, by omega, by omega, _, hd 0 _ rfl, _, hd 1 _ rfl, _, hd 2 _ rfl, _, hd 3 _ rfl, _, hd 4 _ rfl, _, hd 5 _ rfl, lb[k].data, hd 6 _ rfl, ?_⟩
  have he : Vc_up la[k] = Vc_up lb[k] := by
    have := congrArg (·[k]?) h
    simpa [List.getElem?_eq_getElem hk1, List.getElem?_eq_getElem hk2] using this
  refine call (equal_u (u := la[k]) (v := lb[k]) he ((ha.fr0 f2).dat _ (List.getElem_mem _)).1 ((hb.fr0 f2).dat _ (List.getElem_mem _)).1) ?_
  rintro _ w2 ⟨rfl, f3⟩
  rw [wr64 (by omega) (by omega)]
  first
    | exact ⟨_, rfl, fun h => by simp at h, fun _ => ⟨⟨f2.then_ f3, k + 1, rfl, by omega⟩, by dsimp only; omega⟩⟩
    | exact ⟨_, rfl, fun k2 => ⟨fun h => by simp at h, fun _ => ⟨⟨(f2.then_ f3).drewN k2, k + 1, rfl, by omega⟩, by dsimp only; omega⟩⟩⟩
end Go.Proofs.YtnhgnfflihoaiaaDoor

/-
  The laws' logs: written. First what is plain.
-/
namespace Go.Proofs.YtnhgnfflihoaiaaDoor
open Go Go.Vc
theorem ownF_body {u : Up} (h : u.may = 0) : u.ownF.body = u.body := by
  obtain ⟨h1, h2, h3, h4, h5, h6⟩ := may_ok h
  obtain ⟨kind, key, cnt, cli, fin, has, ds⟩ := u
  simp only at h1 h2
  unfold Up.ownF Up.body
  simp only
  by_cases h3 : kind = 3
  · subst h3
    cases has <;> simp [bodyBs, usesV]
  · by_cases h1' : kind = 1
    · subst h1'
      simp [bodyBs, usesV]
    · have : kind = 2 := by omega
      subst this
      simp [bodyBs, usesV]
theorem ownF_idem (u : Up) : u.ownF.ownF = u.ownF := by
  obtain ⟨kind, key, cnt, cli, fin, has, ds⟩ := u
  unfold Up.ownF
  by_cases h3 : kind = 3
  · subst h3; cases has <;> simp
  · by_cases h1' : kind = 1
    · subst h1'; simp
    · simp [h3, h1']
/-- The updates of a log, in their own form. -/
def keptW (l : List Up) : List Up := (l.filter fun u => decide (u.may = 0)).map Up.ownF
theorem keptW_may {l : List Up} : ∀ u ∈ keptW l, u.may = 0 ∧ u.ownF = u := by
  intro u hu
  simp only [keptW, List.mem_map, List.mem_filter, decide_eq_true_eq] at hu
  obtain ⟨x, ⟨_, hx⟩, rfl⟩ := hu
  exact ⟨may_ownF hx, ownF_idem x⟩
theorem keptW_len (l : List Up) : (keptW l).length ≤ l.length := by
  simp only [keptW, List.length_map]
  exact List.length_filter_le _ _
theorem keptW_own (l : List Up) : (keptW l).map Up.ownF = keptW l := by
  conv => rhs; rw [← List.map_id (keptW l)]
  exact List.map_congr_left fun u hu => (keptW_may u hu).2
theorem keptW_snoc (l : List Up) (u : Up) : keptW (l ++ [u]) = if u.may = 0 then keptW l ++ [u.ownF] else keptW l := by
  unfold keptW
  by_cases h : u.may = 0 <;> simp [List.filter_append, h]
theorem logB_snoc : ∀ (last : List UInt8) (us : List Up) (u : Up), logB last (us ++ [u]) = logB last us ++ (recPre u.body ++ recSum (logLast last us) u.body)
  | last, [], u => by simp [logB, logLast]
  | last, x :: r, u => by simp [logB, logLast, logB_snoc _ r u]
theorem logLast_snoc : ∀ (last : List UInt8) (us : List Up) (u : Up), logLast last (us ++ [u]) = recSum (logLast last us) u.body
  | last, [], u => by simp [logLast]
  | last, x :: r, u => by simp [logLast, logLast_snoc _ r u]
theorem recSum_len (last body : List UInt8) : (recSum last body).length = 4 := le4_len _
theorem logMarks_snoc : ∀ (n : Nat) (last : List UInt8) (us : List Up) (u : Up), logMarks n (us ++ [u]) = logMarks n us ++ [n + (logB last (us ++ [u])).length]
  | n, last, [], u => by simp [logB, logMarks, recSum_len]; omega
  | n, last, x :: r, u => by
    have := logMarks_snoc (n + (recPre x.body).length + 4) (recSum last x.body) r u
    simp [logB, logMarks, this, recSum_len]; omega
theorem logMarks_len : ∀ (n : Nat) (us : List Up), (logMarks n us).length = us.length
  | n, [] => rfl
  | n, x :: r => by simp [logMarks, logMarks_len _ r]
theorem logLast_len : ∀ (last : List UInt8) (us : List Up), last.length = 4 → (logLast last us).length = 4
  | last, [], h => h
  | last, x :: r, _ => by rw [logLast]; exact logLast_len _ r (recSum_len _ _)
theorem recPre_len {u : Up} (h : u.may = 0) : (recPre u.body).length ≤ 65800 ∧ 2 ≤ (recPre u.body).length := by
  have hb := body_len h
  have h9 := uv_len9 (n := u.body.length) (by omega)
  have h0 := uv_len_pos u.body.length
  simp [recPre]
  omega
theorem logB_len : ∀ (last : List UInt8) (us : List Up), (∀ u ∈ us, u.may = 0) → (logB last us).length ≤ us.length * 66000
  | last, [], h => by simp [logB]
  | last, x :: r, h => by
    have h1 := recPre_len (h x (by simp))
    have h2 := logB_len (recSum last x.body) r fun u hu => h u (by simp [hu])
    simp [logB, recSum_len]
    omega
def Hd.last (h : Hd) : List UInt8 := le4 (crc (headPre h.n.toNat h.k.toNat h.d.toNat h.s.toNat))
/-- The head that is made of any numbers. -/
def wHd (n k d s : Int) : Hd := ⟨n % 255 + 1, k % (n % 255 + 1) + 1, (maxI 0 d).tmod 4611686018427387904, s % (n % 255 + 1)⟩
theorem checkV_ok {n k d : Int} (h1 : 1 ≤ k) (h2 : k ≤ n) (h3 : n ≤ 255) (h4 : 0 ≤ d) (h5 : d ≤ 4611686018427387903) : checkV n k d = 0 := by
  unfold checkV
  rw [if_neg (by simp; omega)]
theorem wHd_may (n k d s : Int) : mayHeadV (wHd n k d s).n (wHd n k d s).k (wHd n k d s).d (wHd n k d s).s = 0 := by
  have h1 := Int.emod_nonneg n (by omega : (255 : Int) ≠ 0)
  have h2 := Int.emod_lt_of_pos n (by omega : (0 : Int) < 255)
  have h7 : 0 ≤ maxI 0 d := by unfold maxI; split <;> omega
  unfold wHd
  simp only
  generalize hN : n % 255 + 1 = N
  have h3 := Int.emod_nonneg k (by omega : N ≠ 0)
  have h4 := Int.emod_lt_of_pos k (by omega : 0 < N)
  have h5 := Int.emod_nonneg s (by omega : N ≠ 0)
  have h6 := Int.emod_lt_of_pos s (by omega : 0 < N)
  generalize maxI 0 d = D at h7
  rw [Int.tmod_eq_emod_of_nonneg h7]
  have h8 := Int.emod_nonneg D (by omega : (4611686018427387904 : Int) ≠ 0)
  have h9 := Int.emod_lt_of_pos D (by omega : (0 : Int) < 4611686018427387904)
  unfold mayHeadV
  rw [checkV_ok (by omega) (by omega) (by omega) (by omega) (by omega), if_neg (by simp), if_neg (by simp; omega)]
theorem Hd_bs_len {h : Hd} (hm : mayHeadV h.n h.k h.d h.s = 0) : 9 ≤ h.bs.length ∧ h.bs.length ≤ 1000 := by
  obtain ⟨h1, h2, h3, h4, h5, h6, h7⟩ := mayHead_ok hm
  have hpl := headPre_len (n := h.n.toNat) (k := h.k.toNat) (d := h.d.toNat) (s := h.s.toNat) (by omega) (by omega) (by omega) (by omega)
  have p1 := uv_len_pos h.n.toNat
  have p2 := uv_len_pos h.k.toNat
  have p3 := uv_len_pos h.d.toNat
  have p4 := uv_len_pos h.s.toNat
  have e : (headPre h.n.toNat h.k.toNat h.d.toNat h.s.toNat).length = 1 + (uv h.n.toNat).length + (uv h.k.toNat).length + (uv h.d.toNat).length + (uv h.s.toNat).length := by simp [headPre]; omega
  have e2 : h.bs.length = (headPre h.n.toNat h.k.toNat h.d.toNat h.s.toNat).length + 4 := by simp [Hd.bs, headBs, le4_len]
  omega
end Go.Proofs.YtnhgnfflihoaiaaDoor
