/-
  The law's helpers: same, lent, silent, apart.
-/
import Derived.Test.YtnhgnfflihoaiaaGreatDoorRef
namespace Go.Proofs.YtnhgnfflihoaiaaGreatDoor
open Go Go.Vc

theorem same_c {w : World} {a b : Slc} {xs : List UInt8} (ha : Byt w a xs) (hb : Byt w b xs) : Calls PP F_sherdlaw11_same #[a.v, b.v] w (Rt fun v w' => v = .bool true ∧ w = w') := by
  refine sim_sherdlaw11_same _ _ _ _ ?_
  unfold vc_sherdlaw11_same
  refine ToStr.rule slT_sl_uint8.ut und_string und_uint8 ha (ToStr.rule slT_sl_uint8.ut und_string und_uint8 hb (Rt.ok ⟨?_, rfl⟩))
  simp
theorem lent_c {w : World} {a : Slc} {xs : List UInt8} (ha : Byt w a xs) (hm : xs.length ≤ 140737488355000) : Calls PP F_sherdlaw11_lent #[a.v] w (Rt fun v w' => ∃ s : Slc, v = s.v ∧ Made w w' s (xs ++ [77])) := by
  refine sim_sherdlaw11_lent _ _ _ ?_
  unfold vc_sherdlaw11_lent
  refine New.intro fun b w1 nb => ?_
  refine (Made.row (l := []) (Fr.refl _ _) nb rfl rfl (by decide)).app (ha.fr0 nb.fr) (by simp; omega) fun s1 w2 hM _ => New.intro fun c w3 nc => ?_
  refine (hM.more nc.fr).app (Made.one (x := 77) hM.fr nc).byt (by simp; omega) fun s2 w4 hM2 _ => Rt.ok ⟨s2, rfl, by simpa using hM2⟩
def mark (k : Nat) : UInt8 := UInt8.ofNat ((k * 3 + 1) % 256)
theorem mark_eq {k : Nat} (hk : k ≤ 4398046511104) : wr .u8 (wr .i64 (wr .i64 ((k : Int) * 3) + 1)) = ((mark k).toNat : Int) := by
  rw [wr64 (n := (k : Int) * 3) (by omega) (by omega), wr64 (by omega) (by omega)]
  have := wr8_byte (k * 3 + 1)
  rw [← mark] at this
  rw [← this]
  congr 1
def Marked (k : Nat) (w : World) (s : Slc) : Prop := ∃ bs : List UInt8, Own Ty_uint8 1 w s (bs.map u8v) ∧ ∀ b ∈ bs, b = mark k
theorem Marked.fr {k : Nat} {S : List Nat} {w w' : World} {s : Slc} (h : Marked k w s) (f : Fr S w w') (hS : ∀ x ∈ s.blks, x ∉ S) : Marked k w' s := by
  obtain ⟨bs, h1, h2⟩ := h
  exact ⟨bs, h1.fr f hS, h2⟩
theorem Marked.fr0 {k : Nat} {w w' : World} {s : Slc} (h : Marked k w s) (f : Fr [] w w') : Marked k w' s := h.fr f fun _ _ => by simp
theorem Marked.ahead {k : Nat} {w : World} {s s' : Slc} (h : Marked k w s) (ha : s'.a = s.a) (hc : s'.c = s.c) (hl : s'.l ≤ s.l) : Marked k w s' := by
  obtain ⟨bs, h1, h2⟩ := h
  refine ⟨bs.take s'.l, ?_, fun b hb => h2 b (List.mem_of_mem_take hb)⟩
  have := h1.ahead ha hc rfl hl
  rw [Nat.mul_one] at this
  rw [List.map_take]
  exact this
theorem Marked.get {k : Nat} {w : World} {s : Slc} (h : Marked k w s) {j : Nat} (hj : j < s.l) : ∃ p, s.a = some p ∧ w.cell? (p.add j) = some (u8v (mark k)) := by
  obtain ⟨bs, h1, h2⟩ := h
  have hB : Byt w s bs := h1.cel
  have hl := hB.len
  obtain ⟨p, hp, hc⟩ := hB.get (i := j) (by omega)
  exact ⟨p, hp, by rw [hc, h2 _ (List.getElem_mem _)]⟩
theorem Marked.lt {k : Nat} {w : World} {s : Slc} (h : Marked k w s) : ∀ x ∈ s.blks, x < w.heap.size := by
  obtain ⟨bs, h1, h2⟩ := h
  exact h1.lt
structure Rows (w : World) (ss : List Slc) (k : Nat) : Prop where
  own : ∀ t (h : t < ss.length), ∃ bs : List UInt8, Own Ty_uint8 1 w ss[t] (bs.map u8v) ∧ (t < k → ∀ b ∈ bs, b = mark t)
theorem Rows.fr0 {w w' : World} {ss : List Slc} {k : Nat} (h : Rows w ss k) (f : Fr [] w w') : Rows w' ss k := ⟨fun t ht => by
  obtain ⟨bs, h1, h2⟩ := h.own t ht
  exact ⟨bs, h1.fr0 f, h2⟩⟩
def Apt (ss : List Slc) : Prop := ∀ i j (hi : i < ss.length) (hj : j < ss.length), i ≠ j → ∀ k ∈ ss[i].blks, k ∉ ss[j].blks

theorem apart_cS {S : List Nat} {w0 w : World} {l : Slc} {ss : List Slc} (hL : Own Ty_sl_uint8 1 w l (ss.map Slc.v)) (hR : Rows w ss 0) (hD : Apt ss) (hN : ss.length ≤ 4398046511104) (hlen : ∀ s ∈ ss, s.l ≤ 4398046511104) (hF : Fr S w0 w) (hnew : ∀ s ∈ ss, ∀ x ∈ s.blks, x ∈ S ∨ w0.heap.size ≤ x) :
    Calls PP F_sherdlaw11_apart #[l.v] w (Rt fun v w' => v = .bool true ∧ Fr S w0 w') := by
  have hll : l.l = ss.length := by have := hL.cel.len; simp at this; omega
  refine sim_sherdlaw11_apart _ _ _ ?_
  unfold vc_sherdlaw11_apart
  refine ⟨fun i w' => ∃ k : Nat, i = (k : Int) ∧ k ≤ ss.length ∧ Own Ty_sl_uint8 1 w' l (ss.map Slc.v) ∧ Rows w' ss k ∧ Fr S w0 w', fun i _ => ss.length - i.toNat, ⟨0, rfl, by omega, hL, hR, hF⟩, ?_⟩
  rintro _ w1 ⟨k, rfl, hk, hL1, hR1, hF1⟩
  refine ⟨fun hlt => ?_, fun hge => ?_⟩
  · -- the writing of one row
    simp only [decide_eq_true_eq, hll] at hlt
    have hk' : k < ss.length := by omega
    refine ⟨fun w' => Own Ty_sl_uint8 1 w' l (ss.map Slc.v) ∧ Rows w' ss (k + 1) ∧ Fr S w0 w', ⟨fun j w' => ∃ i : Nat, j = (i : Int) ∧ i ≤ ss[k].l ∧ Fr S w0 w' ∧ Own Ty_sl_uint8 1 w' l (ss.map Slc.v) ∧ Rows w' ss k ∧ ∃ bs : List UInt8, Own Ty_uint8 1 w' ss[k] (bs.map u8v) ∧ ∀ x (h : x < bs.length), x < i → bs[x] = mark k, fun j _ => ss[k].l - j.toNat, ?_, ?_⟩, ?_⟩
    · obtain ⟨bs, h1, h2⟩ := hR1.own k hk'
      exact ⟨0, rfl, by omega, hF1, hL1, hR1, bs, h1, fun x _ hx => by omega⟩
    · rintro _ w2 ⟨i, rfl, hi, hF2, hL2, hR2, bs, hO, hbs⟩
      have hbl : ss[k].l = bs.length := (show Byt w2 ss[k] bs from hO.cel).len
      have hskl := hlen ss[k] (List.getElem_mem _)
      obtain ⟨p, hp, hc⟩ := hL2.cel.get (i := k) (by simpa using hk')
      have hc' : w2.cell? (p.add ((k : Int).toNat * 1)) = some (Slc.v ss[k]) := by simpa using hc
      refine ⟨p, hp, by omega, by omega, _, hc', fun hj => ?_, fun hj => ?_⟩
      · simp only [decide_eq_true_eq] at hj
        obtain ⟨q, hq, _⟩ := hO.cel.get (i := i) (by simp; omega)
        refine ⟨p, hp, by omega, by omega, _, hc', q, hq, by omega, by omega, ?_⟩
        rw [mark_eq (by omega), wr64 (by omega) (by omega)]
        have e : (i : Int).toNat * 1 = i := by simp
        rw [e]
        refine hO.sto (by simp; omega) hq fun w3 hO3 f3 => ⟨⟨i + 1, rfl, by omega, hF2.local_ f3 fun x hx => hnew _ (List.getElem_mem _) x hx, hL2.fr f3 (hL2.apart hO (by decide)), ⟨fun t ht => ?_⟩, bs.set i (mark k), by rw [List.map_set]; exact hO3, fun x hx hxi => ?_⟩, by dsimp only; omega⟩
        · by_cases htk : t = k
          · subst htk
            exact ⟨bs.set i (mark t), by rw [List.map_set]; exact hO3, fun h => by omega⟩
          · obtain ⟨cs, h1, h2⟩ := hR2.own t ht
            exact ⟨cs, h1.fr f3 (hD t k ht hk' htk), h2⟩
        · rw [List.getElem_set]
          split
          · rfl
          · exact hbs x (by simpa using hx) (by omega)
      · simp only [decide_eq_false_iff_not] at hj
        refine ⟨hL2, ⟨fun t ht => ?_⟩, hF2⟩
        by_cases htk : t = k
        · subst htk
          refine ⟨bs, hO, fun _ b hb => ?_⟩
          obtain ⟨x, hx, rfl⟩ := List.getElem_of_mem hb
          exact hbs x hx (by omega)
        · obtain ⟨cs, h1, h2⟩ := hR2.own t ht
          exact ⟨cs, h1, fun h => h2 (by omega)⟩
    · rintro w2 ⟨hL2, hR2, hF2⟩
      rw [wr64 (by omega) (by omega)]
      exact ⟨⟨k + 1, rfl, by omega, hL2, hR2, hF2⟩, by dsimp only; omega⟩
  · simp only [decide_eq_false_iff_not, hll] at hge
    have hkk : k = ss.length := by omega
    subst hkk
    -- the lengthening
    have hM1 : ∀ t (h : t < ss.length), Marked t w1 ss[t] := fun t ht => by
      obtain ⟨bs, h1, h2⟩ := hR1.own t ht
      exact ⟨bs, h1, h2 ht⟩
    refine ⟨fun more i w' => ∃ (k : Nat) (xs : List Slc), i = (k : Int) ∧ k ≤ ss.length ∧ xs.length = k ∧ Fr S w0 w' ∧ (∀ x ∈ more.blks, w0.heap.size ≤ x) ∧ Own Ty_sl_uint8 1 w' l (ss.map Slc.v) ∧ Own Ty_sl_uint8 1 w' more (xs.map Slc.v) ∧ (∀ x ∈ l.blks, x ∉ more.blks) ∧
      (∀ t (h : t < ss.length), Marked t w' ss[t]) ∧ (∀ t (h : t < xs.length), Marked t w' xs[t]) ∧ (∀ t u (h : t < xs.length) (h' : u < ss.length), t ≠ u → ∀ x ∈ xs[t].blks, x ∉ ss[u].blks), fun _ i _ => ss.length - i.toNat,
      ⟨0, [], rfl, by omega, rfl, hF1, fun x hx => by simp [Slc.blks] at hx, hL1, Own.nil _ _ _, fun x _ hx => by simp [Slc.blks] at hx, hM1, fun t ht => by simp at ht, fun t u ht => by simp at ht⟩, ?_⟩
    rintro more _ w2 ⟨k, xs, rfl, hk, hxk, hF2, hmn, hL2, hO2, hlm, hM2, hX2, hA2⟩
    have hml : more.l = k := by have := hO2.cel.len; simp at this; omega
    refine ⟨fun hlt => ?_, fun hge => ?_⟩
    · simp only [decide_eq_true_eq, hll] at hlt
      have hk' : k < ss.length := by omega
      obtain ⟨p, hp, hc⟩ := hL2.cel.get (i := k) (by simpa using hk')
      have hc' : w2.cell? (p.add ((k : Int).toNat * 1)) = some (Slc.v ss[k]) := by simpa using hc
      refine ⟨fun m w' => ∃ x : Slc, Fr S w0 w' ∧ (∀ y ∈ m.blks, w0.heap.size ≤ y) ∧ Own Ty_sl_uint8 1 w' l (ss.map Slc.v) ∧ Own Ty_sl_uint8 1 w' m ((xs ++ [x]).map Slc.v) ∧ (∀ x ∈ l.blks, x ∉ m.blks) ∧
          (∀ t (h : t < ss.length), Marked t w' ss[t]) ∧ (∀ t (h : t < xs.length), Marked t w' xs[t]) ∧ Marked k w' x ∧ (∀ u (h' : u < ss.length), k ≠ u → ∀ y ∈ x.blks, y ∉ ss[u].blks),
        ⟨p, hp, by omega, by omega, _, hc', fun x n w' => ∃ j : Nat, n = (j : Int) ∧ j ≤ 70 ∧ x.l = ss[k].l + j ∧ Fr S w0 w' ∧ (∀ y ∈ x.blks, y ∈ S ∨ w0.heap.size ≤ y) ∧ Own Ty_sl_uint8 1 w' l (ss.map Slc.v) ∧ Own Ty_sl_uint8 1 w' more (xs.map Slc.v) ∧
          (∀ t (h : t < ss.length), Marked t w' ss[t]) ∧ (∀ t (h : t < xs.length), Marked t w' xs[t]) ∧ Marked k w' x ∧ ((x.a = ss[k].a ∧ x.c = ss[k].c) ∨ ∀ y ∈ x.blks, y ∉ ss[k].blks) ∧
          (∀ u (h' : u < ss.length), k ≠ u → ∀ y ∈ x.blks, y ∉ ss[u].blks) ∧ (∀ t (h : t < xs.length), ∀ y ∈ x.blks, y ∉ xs[t].blks), fun _ n _ => 70 - n.toNat,
          ⟨0, rfl, by omega, by omega, hF2, hnew _ (List.getElem_mem _), hL2, hO2, hM2, hX2, hM2 k hk', .inl ⟨rfl, rfl⟩, fun u hu hne => hD k u hk' hu hne, fun t ht y hy hy' => hA2 t k ht hk' (by omega) y hy' hy⟩, ?_⟩, ?_⟩
      · rintro x _ w3 ⟨j, rfl, hj, hxl, hF3, hxn, hL3, hO3, hM3, hX3, ⟨bs, hx1, hx2⟩, hx3, hx4, hx5⟩
        refine ⟨fun hlt70 => ?_, fun hge70 => ?_⟩
        · simp only [decide_eq_true_eq] at hlt70
          rw [mark_eq (by omega), wr64 (by omega) (by omega)]
          refine New.intro fun b w4 nb => ?_
          have f4 := nb.fr
          have hB4 : Byt w4 (Slc.mk (some (blk b)) 1 1) [mark k] := (Made.one (Fr.refl _ _) nb).byt
          have hskl := hlen ss[k] (List.getElem_mem _)
          refine App.own2 slT_sl_uint8 (hx1.fr0 f4) hB4 (Nat.one_pos) (one_u8 _) (by unfold maxLen; simp only; omega) (by simp only; omega) fun x' w5 hO5 hl5 hcase => ?_
          have hxM : Marked k w5 x' := ⟨bs ++ [mark k], by simpa using hO5, fun b hb => by
            rcases List.mem_append.1 hb with h | h
            · exact hx2 b h
            · simpa using h⟩
          have hL4 := hL3.fr0 f4
          have hO4 := hO3.fr0 f4
          have hM4 : ∀ t (h : t < ss.length), Marked t w4 ss[t] := fun t ht => (hM3 t ht).fr0 f4
          have hX4 : ∀ t (h : t < xs.length), Marked t w4 xs[t] := fun t ht => (hX3 t ht).fr0 f4
          refine ⟨⟨j + 1, rfl, by omega, by rw [hl5]; simp only; omega, ?_⟩, by dsimp only; omega⟩
          rcases hcase with ⟨fF, ha, hcap⟩ | ⟨fF, hnew2⟩
          · have hbl := blks_a ha
            have hne : ∀ y ∈ x'.blks, ∀ t (h : t < xs.length), y ∉ xs[t].blks := fun y hy t ht => hx5 t ht y (by rw [← hbl]; exact hy)
            refine ⟨(hF3.then_ f4).local_ fF fun y hy => hxn y hy, by rw [hbl]; exact hxn, hL4.fr fF (hL4.apart (hx1.fr0 f4) (by decide)), hO4.fr fF (hO4.apart (hx1.fr0 f4) (by decide)), fun t ht => ?_, fun t ht => (hX4 t ht).fr fF fun y hy hy' => hx5 t ht y hy' hy, hxM, ?_, fun u hu hne => by rw [hbl]; exact hx4 u hu hne, fun t ht => by rw [hbl]; exact hx5 t ht⟩
            · by_cases htk : t = k
              · subst htk
                rcases hx3 with ⟨h1, h2⟩ | h1
                · exact hxM.ahead (by rw [ha, h1]) (by rw [hcap, h2]) (by rw [hl5]; simp only; omega)
                · exact (hM4 t ht).fr fF fun y hy hy' => h1 y hy' hy
              · exact (hM4 t ht).fr fF fun y hy hy' => hx4 t ht (Ne.symm htk) y hy' hy
            · rcases hx3 with ⟨h1, h2⟩ | h1
              · exact .inl ⟨by rw [ha, h1], by rw [hcap, h2]⟩
              · exact .inr (by rw [hbl]; exact h1)
          · have hnew' := hnew2
            have hnw : ∀ {s : Slc}, (∀ y ∈ s.blks, y < w4.heap.size) → ∀ y ∈ x'.blks, y ∉ s.blks := fun hs y hy hy' => by
              have := hs y hy'
              rw [hnew2] at hy
              simp at hy
              omega
            exact ⟨(hF3.then_ f4).then_ fF, fun y hy => .inr (by rw [hnew'] at hy; simp at hy; rw [hy]; exact (hF3.then_ f4).size), hL4.fr0 fF, hO4.fr0 fF, fun t ht => (hM4 t ht).fr0 fF, fun t ht => (hX4 t ht).fr0 fF, hxM, .inr (hnw (hM4 k hk').lt), fun u hu _ => hnw (hM4 u hu).lt, fun t ht => hnw (hX4 t ht).lt⟩
        · refine New.intro fun b w4 nb => ?_
          have f4 := nb.fr
          have hY : Cel w4 (Slc.mk (some (blk b)) 1 1) 1 [x.v] := Cel.block (l := [x.v]) nb.blk rfl (by simp) (Nat.le_refl _)
          have hO4 := hO3.fr0 f4
          refine App.own2 slT_sl_sl_uint8 hO4 hY Nat.one_pos (by intro u hu; simp at hu; subst hu; rfl) (by unfold maxLen; simp only; omega) (by simp only; omega) fun m w5 hO5 hl5 hcase => ?_
          have hL4 := hL3.fr0 f4
          have hxM : Marked k w4 x := ⟨bs, hx1.fr0 f4, hx2⟩
          have hap : ∀ {t : Nat} {s : Slc}, Marked t w4 s → ∀ y ∈ s.blks, y ∉ more.blks := fun h => by
            obtain ⟨cs, h1, _⟩ := h
            exact h1.apart hO4 (by decide)
          rcases hcase with ⟨fF, ha, hcap⟩ | ⟨fF, hnew2⟩
          · refine ⟨x, (hF3.then_ f4).local_ fF fun y hy => .inr (hmn y hy), by rw [blks_a ha]; exact hmn, hL4.fr fF hlm, by simpa using hO5, by rw [blks_a ha]; exact hlm, fun t ht => ((hM3 t ht).fr0 f4).fr fF (hap ((hM3 t ht).fr0 f4)), fun t ht => ((hX3 t ht).fr0 f4).fr fF (hap ((hX3 t ht).fr0 f4)), hxM.fr fF (hap hxM), hx4⟩
          · refine ⟨x, (hF3.then_ f4).then_ fF, fun y hy => by rw [hnew2] at hy; simp at hy; rw [hy]; exact (hF3.then_ f4).size, hL4.fr0 fF, by simpa using hO5, fun y hy hy' => ?_, fun t ht => ((hM3 t ht).fr0 f4).fr0 fF, fun t ht => ((hX3 t ht).fr0 f4).fr0 fF, hxM.fr0 fF, hx4⟩
            have := hL4.lt y hy
            rw [hnew2] at hy'
            simp at hy'
            omega
      · rintro m w3 ⟨x, hF3, hmn3, hL3, hO3, hlm3, hM3, hX3, hx, hx4⟩
        rw [wr64 (by omega) (by omega)]
        refine ⟨⟨k + 1, xs ++ [x], rfl, by omega, by simp [hxk], hF3, hmn3, hL3, hO3, hlm3, hM3, fun t ht => ?_, fun t u ht hu hne => ?_⟩, by dsimp only; omega⟩
        · by_cases h : t < xs.length
          · rw [List.getElem_append_left h]; exact hX3 t h
          · have : t = k := by simp at ht; omega
            subst this
            rw [List.getElem_append_right (by omega)]
            simpa using hx
        · by_cases h : t < xs.length
          · rw [List.getElem_append_left h]; exact hA2 t u h hu hne
          · have : t = k := by simp at ht; omega
            subst this
            rw [List.getElem_append_right (by omega)]
            simpa using hx4 u hu hne
    · -- the check
      simp only [decide_eq_false_iff_not, hll] at hge
      have hkk : k = ss.length := by omega
      refine ⟨fun i w' => w2 = w' ∧ ∃ k : Nat, i = (k : Int) ∧ k ≤ ss.length, fun i _ => ss.length - i.toNat, ⟨rfl, 0, rfl, by omega⟩, ?_⟩
      rintro _ _ ⟨rfl, u, rfl, hu⟩
      refine ⟨fun hlt => ?_, fun _ => Rt.ok ⟨rfl, hF2⟩⟩
      simp only [decide_eq_true_eq, hll] at hlt
      have hu' : u < ss.length := by omega
      have hux : u < xs.length := by omega
      refine ⟨fun w' => w2 = w', ⟨fun j w' => w2 = w' ∧ ∃ n : Nat, j = (n : Int) ∧ n ≤ xs[u].l, fun j _ => xs[u].l - j.toNat, ⟨rfl, 0, rfl, by omega⟩, ?_⟩, ?_⟩
      · rintro _ _ ⟨rfl, n, rfl, hn⟩
        obtain ⟨p, hp, hc⟩ := hO2.cel.get (i := u) (by simpa using hux)
        have hc' : w2.cell? (p.add ((u : Int).toNat * 1)) = some (Slc.v xs[u]) := by simpa using hc
        obtain ⟨p2, hp2, hc2⟩ := hL2.cel.get (i := u) (by simpa using hu')
        have hc2' : w2.cell? (p2.add ((u : Int).toNat * 1)) = some (Slc.v ss[u]) := by simpa using hc2
        have hxb : xs[u].l ≤ 9223372036854775807 := by
          obtain ⟨bs, h1, _⟩ := hX2 u hux
          rcases h1.2 with ⟨_, h5⟩ | ⟨g, cap, cur, h5, _, h6, h7, h8, _⟩
          · omega
          · unfold maxLen at h8; omega
        refine ⟨p, hp, by omega, by omega, _, hc', fun hlt => ?_, fun _ => rfl⟩
        simp only [decide_eq_true_eq] at hlt
        have hn' : n < xs[u].l := by omega
        obtain ⟨q, hq, hqc⟩ := (hX2 u hux).get hn'
        refine ⟨p, hp, by omega, by omega, _, hc', q, hq, by omega, by omega, _, by simpa using hqc, ?_⟩
        rw [mark_eq (by omega), wr64 (by omega) (by omega)]
        refine ⟨false, fun _ => ⟨p2, hp2, by omega, by omega, _, hc2', false, fun hlt2 => ?_, fun _ => rfl, rfl⟩, fun h => by simp at h, fun h => by simp at h, fun _ => ⟨⟨rfl, n + 1, rfl, by omega⟩, by dsimp only; omega⟩⟩
        simp only [decide_eq_true_eq] at hlt2
        obtain ⟨q2, hq2, hqc2⟩ := (hM2 u hu').get (j := n) (by omega)
        exact ⟨p2, hp2, by omega, by omega, _, hc2', q2, hq2, by omega, by omega, _, by simpa using hqc2, by simp⟩
      · rintro _ rfl
        rw [wr64 (by omega) (by omega)]
        exact ⟨⟨rfl, u + 1, rfl, by omega⟩, by dsimp only; omega⟩
end Go.Proofs.YtnhgnfflihoaiaaGreatDoor
