/-
  Contracts of what the laws of the package stripe share: a shape's code, chosen indexes, parts, the example.
-/
import Derived.Test.YteoeboeaanjehaaDoorFrag
import Derived.Test.YteoeboeaanjehaaDoorRdp
namespace Go.Proofs.YteoeboeaanjehaaDoor
open Go Go.Vc Go.Vc.Asn Go.Gf
/-- A number brought below m. -/
theorem modN {m : Nat} (h1 : 1 ≤ m) (h2 : m ≤ 1099511627776) (x : Int) : ∃ j : Nat, j < m ∧ (wr .i64 ((x.tmod m) + m)).tmod m = (j : Int) := by
  have a1 := Int.tmod_lt_of_pos x (b := (m : Int)) (by omega)
  have a2 : -(m : Int) < x.tmod m := by
    have := Int.lt_tmod_of_pos x (b := (m : Int)) (by omega)
    exact this
  rw [wr64 (by omega) (by omega)]
  have b1 := Int.tmod_lt_of_pos (x.tmod m + m) (b := (m : Int)) (by omega)
  have b2 : 0 ≤ (x.tmod m + m).tmod m := Int.tmod_nonneg _ (by omega)
  exact ⟨((x.tmod m + m).tmod m).toNat, by omega, by omega⟩
theorem slT_sl_bool : SlT PP Ty_sl_bool Ty_bool 1 1 (.bool false) := ⟨by kernel_rfl, by kernel_rfl, rfl, by decide⟩
def iv (i : Nat) : Value := .int .i64 (i : Int)
def inB (n : Nat) (l : List Nat) : List Value := (List.range n).map fun i => .bool (l.contains i)
theorem inB_len (n : Nat) (l : List Nat) : (inB n l).length = n := by unfold inB; simp
theorem inB_at {n : Nat} (l : List Nat) {i : Nat} (hi : i < n) : (inB n l)[i]? = some (.bool (l.contains i)) := by
  unfold inB; rw [List.getElem?_map, List.getElem?_range hi]; rfl
theorem inB_set {n : Nat} (l : List Nat) {i : Nat} (hi : i < n) : (inB n l).set i (.bool true) = inB n (l ++ [i]) := by
  apply List.ext_getElem?
  intro j
  by_cases hj : j < n
  · rw [inB_at _ hj, List.getElem?_set]
    by_cases h : i = j
    · subst h
      rw [if_pos rfl, if_pos (by rw [inB_len]; exact hi)]
      simp
    · rw [if_neg h, inB_at _ hj]
      have : ¬ j = i := fun e => h e.symm
      simp [this]
  · rw [List.getElem?_eq_none (by rw [List.length_set, inB_len]; omega), List.getElem?_eq_none (by rw [inB_len]; omega)]
theorem inB_nil (n : Nat) : inB n [] = List.replicate n (.bool false) := by
  unfold inB
  apply List.ext_getElem?
  intro j
  rw [List.getElem?_map, List.getElem?_replicate]
  by_cases hj : j < n
  · rw [List.getElem?_range hj, if_pos hj]; rfl
  · rw [List.getElem?_eq_none (by simp; omega), if_neg hj]; rfl
section
variable {w0 w : World} {F : Asn} {s p : Slc} {rs : Rws} {g n k q : Nat} {ps : List Pt}
theorem shape_c (N K : Int) : Calls PP F_sherdlaw05_Shape_code #[.agg #[.int .i64 N, .int .i64 K]] w (Rt fun v w' => ∃ q g s rs n k, v = .tuple #[.pointer (some (blk q)), .int .i64 (n : Nat), .int .i64 (k : Nat)] ∧ n ≤ 12 ∧ RdCode w' q g s rs n k ∧ Fr [] w w') := by
  refine sim_sherdlaw05_Shape_code _ _ _ _ ?_
  unfold vc_sherdlaw05_Shape_code
  obtain ⟨j, hj, e1⟩ := modN (m := 12) (by omega) (by omega) N
  have e1 : (wr .i64 ((N.tmod 12) + 12)).tmod 12 = (j : Int) := e1
  obtain ⟨i, hi, e2⟩ := modN (m := j + 1) (by omega) (by omega) K
  rw [e1, ofW j (by omega)]
  rw [e2, ofW i (by omega)]
  refine (Hp.start w).new fun b w1 H => ⟨by omega, by omega, call (codeNew_c (by omega) (by omega) (by omega)) ?_⟩
  rintro _ w2 ⟨q, g, s, rs, rfl, hC, f⟩
  exact ⟨_, _, rfl, Rt.ok ⟨q, g, s, rs, j + 1, i + 1, rfl, by omega, hC, H.fr.then_ f⟩⟩
theorem chosen_c {least : Nat} {zs : List Int} (hn : 1 ≤ n) (hn2 : n ≤ 255) (hle : least ≤ n) (hP : Cel w p 1 (zs.map fun i => Value.int .i64 i)) (hl : zs.length ≤ 1099511627776) :
    Calls PP F_sherdlaw05_chosen #[.int .i64 (n : Int), .int .i64 (least : Int), p.v] w (Rt fun v w' => ∃ (o : Slc) (xs : List Nat), v = o.v ∧ xs.Nodup ∧ (∀ x ∈ xs, x < n) ∧ least ≤ xs.length ∧ Hp w w' (star (own Ty_int 1 o (xs.map iv)) emp)) := by
  refine sim_sherdlaw05_chosen _ _ _ _ _ ?_
  unfold vc_sherdlaw05_chosen
  have hpl := hP.lenM
  have room : ∀ xs : List Nat, xs.Nodup → (∀ x ∈ xs, x < n) → xs.length ≤ n := fun xs h1 h2 => by
    have := List.Nodup.length_le_of_subset h1 (fun x hx => List.mem_range.2 (h2 x hx))
    simpa using this
  refine Hp.make slT_sl_bool rfl (by omega) (by omega) (Hp.start w) fun b w1 H => ?_
  rw [← inB_nil] at H
  refine ⟨fun o x w' => ∃ (j : Nat) (xs : List Nat), x = (j : Int) ∧ j ≤ zs.length ∧ xs.Nodup ∧ (∀ x ∈ xs, x < n) ∧ Hp w w' (star (own Ty_int 1 o (xs.map iv)) (star (own Ty_bool 1 ⟨some (blk b), n, n⟩ (inB n xs)) emp)), fun _ x _ => zs.length - x.toNat, ⟨0, [], rfl, Nat.zero_le _, List.nodup_nil, fun x hx => by simp at hx, H.nilRow Ty_int 1⟩, ?_⟩
  rintro o _ w2 ⟨j, xs, rfl, hj, hnd, hlt, H⟩
  have hol := (H.cel (s := o)).lenM
  have hrm := room xs hnd hlt
  refine ⟨fun h => ?_, fun h => ?_⟩
  · have hjl : j < zs.length := by simp only [decide_eq_true_eq] at h; omega
    obtain ⟨i, hi, e⟩ := modN hn (by omega) zs[j]
    refine ⟨fun o w' => ∃ xs : List Nat, xs.Nodup ∧ (∀ x ∈ xs, x < n) ∧ Hp w w' (star (own Ty_int 1 o (xs.map iv)) (star (own Ty_bool 1 ⟨some (blk b), n, n⟩ (inB n xs)) emp)), ?_, ?_⟩
    · refine (hP.fr0 H.fr).rd hjl fun a ha hc => ⟨zs[j], hc, by omega, by omega, ?_⟩
      rw [e]
      have hB := H.drop.cel (s := ⟨some (blk b), n, n⟩)
      refine ⟨blk b, rfl, by omega, by show (i : Int) < (n : Int); omega, xs.contains i, ?_, fun h => ?_, fun h => ⟨xs, hnd, hlt, H⟩⟩
      · obtain ⟨a2, ha2, hc2⟩ := hB.at_ i _ (inB_at xs hi)
        injection ha2 with ha2
        subst ha2
        rw [Int.toNat_natCast, Nat.mul_one]
        exact hc2
      · have hni : i ∉ xs := by simpa using h
        refine Hp.wr (s := ⟨some (blk b), n, n⟩) H (by rw [inB_len]; exact hi) fun w3 H => ?_
        rw [inB_set _ hi] at H
        refine Hp.app1 (s := o) slT_sl_int H rfl (by unfold maxLen; omega) (by omega) fun o2 w4 H _ => ⟨xs ++ [i], ?_, ?_, ?_⟩
        · rw [List.nodup_append]
          exact ⟨hnd, List.pairwise_singleton _ _, fun a ha b hb e => hni (by simp at hb; rw [← hb, ← e]; exact ha)⟩
        · intro x hx
          rcases List.mem_append.1 hx with hx | hx
          · exact hlt x hx
          · simp at hx; omega
        · rw [List.map_append]; exact H
    · rintro o2 w3 ⟨xs2, h1, h2, H⟩
      rw [ofW j (by omega)]
      exact ⟨⟨j + 1, xs2, rfl, by omega, h1, h2, H⟩, by dsimp only; omega⟩
  · refine ⟨fun o x w' => ∃ (i : Nat) (xs : List Nat), x = (i : Int) ∧ i ≤ n ∧ xs.Nodup ∧ (∀ x ∈ xs, x < n) ∧ (∀ t, t < i → t ∈ xs) ∧ ∃ l : List Nat, (∀ t, i ≤ t → (t ∈ l ↔ t ∈ xs)) ∧ Hp w w' (star (own Ty_int 1 o (xs.map iv)) (star (own Ty_bool 1 ⟨some (blk b), n, n⟩ (inB n l)) emp)), fun _ x _ => n - x.toNat, ⟨0, xs, rfl, Nat.zero_le _, hnd, hlt, fun t ht => by omega, xs, fun _ _ => Iff.rfl, H⟩, ?_⟩
    rintro o2 _ w3 ⟨i, xs2, rfl, hi, hnd2, hlt2, hall, l, hl2, H⟩
    have hol2 := (H.cel (s := o2)).lenM
    have hrm2 := room xs2 hnd2 hlt2
    refine ⟨fun h => ?_, fun h => ?_⟩
    · have hin : i < n := by simp at h; omega
      refine ⟨fun o w' => ∃ xs : List Nat, xs.Nodup ∧ (∀ x ∈ xs, x < n) ∧ (∀ t, t < i + 1 → t ∈ xs) ∧ ∃ l : List Nat, (∀ t, i + 1 ≤ t → (t ∈ l ↔ t ∈ xs)) ∧ Hp w w' (star (own Ty_int 1 o (xs.map iv)) (star (own Ty_bool 1 ⟨some (blk b), n, n⟩ (inB n l)) emp)), ?_, ?_⟩
      · have hB := H.drop.cel (s := ⟨some (blk b), n, n⟩)
        refine ⟨blk b, rfl, by omega, by show (i : Int) < (n : Int); omega, l.contains i, ?_, fun h => ?_, fun h => ⟨xs2, hnd2, hlt2, fun t ht => ?_, l, fun t ht => hl2 t (by omega), H⟩⟩
        · obtain ⟨a2, ha2, hc2⟩ := hB.at_ i _ (inB_at l hin)
          injection ha2 with ha2
          subst ha2
          rw [Int.toNat_natCast, Nat.mul_one]
          exact hc2
        · have hni : i ∉ xs2 := fun hx => by
            have := (hl2 i (Nat.le_refl _)).2 hx
            simp at h
            exact h this
          refine Hp.app1 (s := o2) slT_sl_int H rfl (by unfold maxLen; omega) (by omega) fun o3 w4 H _ => ⟨xs2 ++ [i], ?_, ?_, ?_, l, ?_, ?_⟩
          · rw [List.nodup_append]
            exact ⟨hnd2, List.pairwise_singleton _ _, fun a ha b hb e => hni (by simp at hb; rw [← hb, ← e]; exact ha)⟩
          · intro x hx
            rcases List.mem_append.1 hx with hx | hx
            · exact hlt2 x hx
            · simp at hx; omega
          · intro t ht
            rw [List.mem_append]
            by_cases h2 : t = i
            · exact .inr (by simp [h2])
            · exact .inl (hall t (by omega))
          · intro t ht
            rw [hl2 t (by omega), List.mem_append]
            simp
            omega
          · rw [List.map_append]; exact H
        · by_cases h2 : t = i
          · subst h2
            simp at h
            exact (hl2 t (Nat.le_refl _)).1 h
          · exact hall t (by omega)
      · rintro o3 w4 ⟨xs3, h1, h2, h3, h4⟩
        rw [ofW i (by omega)]
        exact ⟨⟨i + 1, xs3, rfl, by omega, h1, h2, h3, h4⟩, by dsimp only; omega⟩
    · refine Rt.ok ⟨o2, xs2, rfl, hnd2, hlt2, ?_, ?_⟩
      · simp at h
        by_cases hin : i < n
        · have := h hin
          omega
        · have := nodup_len n xs2 fun t ht => hall t (by omega)
          omega
      · have H := H.take (own Ty_bool 1 ⟨some (blk b), n, n⟩ (inB n l))
        exact H.drop
/-- A part's own memory. -/
def partA (p : Pt) : Asn := own Ty_uint8 1 p.sl (p.bs.map u8v)
theorem partsHave {w : World} : ∀ {ps : List Pt} {S : Nat → Prop}, (all partA ps).p w S → ∀ r ∈ ps, Byt w r.sl r.bs
  | [], _, _ => fun r hr => nomatch hr
  | x :: l, S, h => fun r hr => by
    obtain ⟨S1, S2, _, _, h1, h2⟩ := h
    rcases List.mem_cons.1 hr with rfl | hr
    · exact Own.cel h1.2
    · exact partsHave (S := S2) h2 r hr
theorem partsOf {A : Asn} [h : Take (all partA ps) A F] (H : Hp w0 w A) : ∀ r ∈ ps, Byt w r.sl r.bs := by
  obtain ⟨_, S, _, S1, S2, _, _, h1, _⟩ := H.take (all partA ps)
  exact partsHave (S := S1) h1
theorem parts_c {xs : List Nat} (hR : RdR w s rs) (hX : Cel w p 1 (xs.map iv)) (hx : ∀ x ∈ xs, x < rs.length) (_hl : rs.length ≤ 255) (hxl : xs.length ≤ 255) (hb : ∀ r ∈ rs, r.2.length ≤ 16777216) :
    Calls PP F_sherdlaw05_parts #[s.v, p.v] w (Rt fun v w' => ∃ o ps, v = Slc.v o ∧ ps.map (fun p : Pt => (p.ix, p.bs)) = xs.map (fun x : Nat => ((x : Int), (mt rs).getD x [])) ∧ Hp w w' (star (own Ty_api_Part 2 o (ps.flatMap Pt.enc)) (star (all partA ps) emp))) := by
  refine sim_sherdlaw05_parts _ _ _ _ ?_
  unfold vc_sherdlaw05_parts
  have hsl := hR.cel.lenM
  have hpl := hX.lenM
  refine ⟨fun o x w' => ∃ (j : Nat) (ps : List Pt), x = (j : Int) ∧ j ≤ xs.length ∧ ps.map (fun p : Pt => (p.ix, p.bs)) = (xs.take j).map (fun x : Nat => ((x : Int), (mt rs).getD x [])) ∧ Hp w w' (star (own Ty_api_Part 2 o (ps.flatMap Pt.enc)) (star (all partA ps) emp)), fun _ x _ => xs.length - x.toNat, ⟨0, [], rfl, Nat.zero_le _, rfl, ((Hp.start w).nilRow Ty_api_Part 2).ent (Ent.star (Ent.refl _) emp_l)⟩, ?_⟩
  rintro o _ w2 ⟨j, ps, rfl, hj, hps, H⟩
  have hol := (H.cel (s := o)).len
  rw [enc_len] at hol
  have hpsl : ps.length = j := by have := congrArg List.length hps; simpa [Nat.min_eq_left hj] using this
  refine ⟨fun h => ?_, fun h => ?_⟩
  · have hlt : j < xs.length := by simp only [decide_eq_true_eq] at h; omega
    have hxr := hx _ (List.getElem_mem hlt)
    have et : xs.take (j + 1) = xs.take j ++ [xs[j]] := by rw [List.take_add_one, List.getElem?_eq_getElem hlt]; rfl
    have eg : (mt rs).getD xs[j] [] = rs[xs[j]].2 := by rw [List.getD_eq_getElem?_getD, List.getElem?_map, List.getElem?_eq_getElem hxr]; rfl
    refine ⟨fun o w' => ∃ ps : List Pt, ps.map (fun p : Pt => (p.ix, p.bs)) = (xs.take (j + 1)).map (fun x : Nat => ((x : Int), (mt rs).getD x [])) ∧ Hp w w' (star (own Ty_api_Part 2 o (ps.flatMap Pt.enc)) (star (all partA ps) emp)), ?_, ?_⟩
    · refine (hX.fr0 H.fr).rd hlt fun a ha hc => ⟨(xs[j] : Int), hc, fun _ => ?_, fun h => ?_⟩
      · refine H.newRow (n := 0) (size := 1) [] rfl rfl (by unfold maxLen; omega) fun b w3 H => ?_
        have hRr := (hR.fr0 H.fr).at_ hxr
        have hlen := hRr.len
        have hbl := hb _ (List.getElem_mem hxr)
        refine (hR.fr0 H.fr).cel.rdS hxr fun a2 ha2 => Hp.app (s := ⟨some (blk b), 0, 0⟩) slT_sl_uint8 H hRr (one_u8 _) (by unfold maxLen; simp only; omega) (by simp only; omega) fun s2 w4 H _ => ?_
        refine H.new fun b2 w5 H => ?_
        have hC2 : Cel w5 (Slc.mk (some (blk b2)) 1 1) 2 [.int .i64 (xs[j] : Int), s2.v] := Cel.block (b := b2) (e := Ty_api_Part) (l := [.int .i64 (xs[j] : Int), s2.v]) (H.isBlk (b := b2)) rfl (Nat.le_refl _) (Nat.le_refl _)
        refine (H.drop).app (s := o) slT_sl_api_Part hC2 (fun u hu => by simp at hu; rcases hu with rfl | rfl <;> rfl) (by unfold maxLen; simp only; omega) (by simp only; omega) fun o2 w6 H _ => ⟨ps ++ [⟨(xs[j] : Int), s2, rs[xs[j]].2⟩], ?_, ?_⟩
        · rw [et, List.map_append, hps, List.map_append, List.map_cons, List.map_nil, List.map_cons, List.map_nil, eg]
        · have H : Hp w w6 (star (own Ty_api_Part 2 o2 (ps.flatMap Pt.enc ++ [.int .i64 (xs[j] : Int), s2.v])) (star (partA ⟨(xs[j] : Int), s2, rs[xs[j]].2⟩) (star (all partA ps) emp))) := H
          rw [List.flatMap_append]
          exact H.ent (Ent.star (Ent.refl _) (Asn.assoc'.trans (Ent.star (all_snoc partA _ ps) (Ent.refl _))))
      · simp at h; omega
    · rintro o2 w3 ⟨ps2, h1, H⟩
      rw [ofW j (by omega)]
      exact ⟨⟨j + 1, ps2, rfl, by omega, h1, H⟩, by dsimp only; omega⟩
  · have hje : j = xs.length := by simp only [decide_eq_false_iff_not] at h; omega
    subst hje
    rw [List.take_length] at hps
    exact Rt.ok ⟨o, ps, rfl, hps, H⟩
/-- Parts that parts made of a value's fragments. -/
theorem frags_of {R : List (List UInt8)} {v : List UInt8} {xs : List Nat} {os : Rws} (hR : R.length = n) (hos : mt os = R.map fun fs => lin fs (cutV v k) (sizeN v.length k)) (hnd : xs.Nodup) (hlt : ∀ x ∈ xs, x < n) (h : ps.map (fun p : Pt => (p.ix, p.bs)) = xs.map (fun x : Nat => ((x : Int), (mt os).getD x []))) : Frags n k R v ps ∧ ps.length = xs.length := by
  have hl : ps.length = xs.length := by have := congrArg List.length h; simpa using this
  have hix : ps.map (·.ix) = xs.map fun x : Nat => (x : Int) := by
    have := congrArg (List.map Prod.fst) h
    rw [List.map_map, List.map_map] at this
    exact this
  have hat : ∀ p ∈ ps, ∃ x, x < n ∧ p.ix = (x : Int) ∧ p.bs = (mt os).getD x [] := fun p hp => by
    have : (p.ix, p.bs) ∈ xs.map (fun x : Nat => ((x : Int), (mt os).getD x [])) := by rw [← h]; exact List.mem_map_of_mem hp
    obtain ⟨x, hx, e⟩ := List.mem_map.1 this
    injection e with e1 e2
    exact ⟨x, hlt x hx, e1.symm, e2.symm⟩
  refine ⟨⟨⟨fun p hp => ?_, ?_⟩, fun p hp => ?_⟩, hl⟩
  · obtain ⟨x, h1, h2, _⟩ := hat p hp
    omega
  · rw [hix]
    exact List.Pairwise.map (R := (· ≠ ·)) _ (fun a b (hab : a ≠ b) (e : (a : Int) = (b : Int)) => hab (by omega)) hnd
  · obtain ⟨x, h1, h2, h3⟩ := hat p hp
    rw [h3, h2, Int.toNat_natCast, hos, List.getD_eq_getElem?_getD, List.getElem?_map, List.getD_eq_getElem?_getD, List.getElem?_eq_getElem (by omega)]; rfl
theorem os_at {os : Rws} {D : List (List UInt8)} {l i : Nat} (hos : mt os = (mt rs).map fun fs => lin fs D l) (hi : i < os.length) (hi' : i < rs.length) : os[i].2 = lin rs[i].2 D l := by
  have h := congrArg (fun x : List (List UInt8) => x[i]?) hos
  simp only [mt, List.getElem?_map, List.getElem?_eq_getElem hi, List.getElem?_eq_getElem hi', Option.map_some, Option.some.injEq] at h
  exact h
theorem hi_rows : cutV [104, 105, 33] 2 = [[3, 0, 0, 0], [104, 105, 33, 0]] := by decide +kernel
theorem taken_c (hG : ErrG w) : Calls PP F_sherdlaw05_taken #[] w (Rt fun v w' => v = .bool true ∧ Fr [] w w') := by
  refine sim_sherdlaw05_taken _ _ ?_
  unfold vc_sherdlaw05_taken
  refine call (codeNew_c (n := 3) (k := 2) (by omega) (by omega) (by omega)) ?_
  rintro _ w1 ⟨q, g, s, rs, rfl, hC, f1⟩
  refine ⟨_, _, rfl, (Hp.start w1).newRow (n := 3) (size := 1) (([104, 105, 33] : List UInt8).map u8v) rfl rfl (by unfold maxLen; omega) fun b w2 H => Hp.cvB slT_sl_uint8.ut und_uint8 (by simp) H fun w2 H => ?_⟩
  have hB : Byt w2 (Slc.mk (some (blk b)) 3 3) [104, 105, 33] := H.rdp
  have hC2 := hC.fr0 H.fr
  refine call (split_c hC2 hB (by decide)) ?_
  rintro _ w3 ⟨o, os, rfl, hos, H3⟩
  have hgl := hC.gen.shp.len
  rw [mt_len] at hgl
  have hol : os.length = 3 := by have := congrArg List.length hos; simpa [hgl] using this
  have hR := rdR H3.assoc
  have hosl := hR.cel.lenM
  have hD : Shp (cutV [104, 105, 33] 2) 2 (sizeN ([104, 105, 33] : List UInt8).length 2) := cutV_shp _ (by omega)
  have e0 : os[0].2 = [3, 0, 0, 0] := by
    have h1 := hC.gen.first (i := 0) (by omega) hD (by omega)
    rw [mt_at (by omega)] at h1
    rw [os_at hos (by omega) (by omega), h1]; simp [hi_rows]
  have e1 : os[1].2 = [104, 105, 33, 0] := by
    have h1 := hC.gen.first (i := 1) (by omega) hD (by omega)
    rw [mt_at (by omega)] at h1
    rw [os_at hos (by omega) (by omega), h1]; simp [hi_rows]
  refine ⟨o, 0, rfl, false, fun _ => hR.cel.rdS (i := 0) (by omega) fun a ha => ToStr.rule slT_sl_uint8.ut und_string und_uint8 (hR.at_ (i := 0) (by omega)) ?_, fun h => ?_, false, fun _ => hR.cel.rdS (i := 1) (by omega) fun a ha => ToStr.rule slT_sl_uint8.ut und_string und_uint8 (hR.at_ (i := 1) (by omega)) ?_, fun h => by simp at h, fun h => by simp at h, fun _ => ?_⟩
  · rw [e0]; simp
  · simp [hosl, hol] at h
  · rw [e1]; simp
  have H4 := H3.drew 1
  have hR4 := rdR H4.assoc
  refine hR4.cel.rdS (i := 2) (by omega) fun a ha => hR4.cel.rdS (i := 0) (by omega) fun a2 ha2 => H4.new fun b2 w5 H5 => ?_
  have hR5 := rdR H5.drop.assoc
  have hP : RdP w5 (Slc.mk (some (blk b2)) 2 2) [⟨2, os[2].1, os[2].2⟩, ⟨0, os[0].1, os[0].2⟩] := ⟨Cel.block (b := b2) (e := Ty_api_Part) (l := [.int .i64 2, os[2].1.v, .int .i64 0, os[0].1.v]) (H5.isBlk (b := b2)) rfl (Nat.le_refl _) (Nat.le_refl _), fun p hp => by
    simp at hp
    rcases hp with rfl | rfl
    · exact hR5.at_ (by omega)
    · exact hR5.at_ (by omega)⟩
  have hF := frags_of (n := 3) (k := 2) (ps := [⟨2, os[2].1, os[2].2⟩, ⟨0, os[0].1, os[0].2⟩]) (xs := [2, 0]) (R := mt rs) (v := [104, 105, 33]) (os := os) (by rw [mt_len]; exact hgl) hos (by decide) (by decide) (by
    simp only [List.map_cons, List.map_nil]
    have g2 : (mt os).getD 2 [] = os[2].2 := by rw [List.getD_eq_getElem?_getD, List.getElem?_map, List.getElem?_eq_getElem (by omega)]; rfl
    have g0 : (mt os).getD 0 [] = os[0].2 := by rw [List.getD_eq_getElem?_getD, List.getElem?_map, List.getElem?_eq_getElem (by omega)]; rfl
    rw [g2, g0]; rfl)
  have hlen := hF.1.len
  have f35 : Fr [] w w5 := f1.then_ (H.fr.then_ H5.fr)
  refine call (join_c (hG.fr0 f35) (hC2.fr0 H5.fr) hP (by show 2 ≤ _; omega) (fun r hr => by rw [hlen r hr]; decide)) ?_
  rintro v w6 hJ
  obtain ⟨o2, rfl, H6⟩ := join_all hC.gen (by omega) (by omega) (by omega) (by decide) hF.1 (by show 2 ≤ 2; omega) hJ
  have hB6 : Byt w6 o2 [104, 105, 33] := H6.cel (s := o2)
  exact ⟨o2, 0, rfl, true, fun _ => ToStr.rule slT_sl_uint8.ut und_string und_uint8 hB6 (by simp), fun h => by simp at h, Rt.ok ⟨rfl, f35.then_ H6.fr⟩⟩
end
end Go.Proofs.YteoeboeaanjehaaDoor
