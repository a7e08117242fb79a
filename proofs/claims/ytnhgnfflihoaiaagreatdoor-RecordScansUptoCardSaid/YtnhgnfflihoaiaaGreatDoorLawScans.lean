/-
  The functions of the law of Scan: ask, right, bytes, marked.
-/
import Derived.Test.YtnhgnfflihoaiaaGreatDoorScanHp
import Derived.Test.YtnhgnfflihoaiaaGreatDoorPutting
namespace Go.Proofs.YtnhgnfflihoaiaaGreatDoor
open Go Go.Vc Go.Vc.Asn
section
variable {α : Type} {f : α → List Value} {n : Nat}
theorem flat_at (hn : ∀ x, (f x).length = n) : ∀ (l : List α) (k j : Nat) (h : k < l.length), j < n → (l.map f).flatten[k * n + j]? = (f l[k])[j]?
  | [], k, j, h, _ => by simp at h
  | x :: l, 0, j, _, hj => by
    simp only [List.map_cons, List.flatten_cons, List.getElem_cons_zero, Nat.zero_mul, Nat.zero_add]
    rw [List.getElem?_append_left (by rw [hn]; exact hj)]
  | x :: l, k + 1, j, h, hj => by
    simp only [List.map_cons, List.flatten_cons, List.getElem_cons_succ]
    have e : (k + 1) * n + j = n + (k * n + j) := by rw [Nat.add_mul]; omega
    rw [e, List.getElem?_append_right (by rw [hn]; omega), hn, Nat.add_sub_cancel_left]
    exact flat_at hn l k j (by simpa using h) hj
theorem flat_len (hn : ∀ x, (f x).length = n) : ∀ l : List α, (l.map f).flatten.length = l.length * n
  | [] => by simp
  | x :: l => by simp only [List.map_cons, List.flatten_cons, List.length_append, hn, flat_len hn l, List.length_cons, Nat.add_mul]; omega
theorem flat_set (hn : ∀ x, (f x).length = n) {y : α} {v : Value} {j : Nat} (hj : j < n) : ∀ (l : List α) (k : Nat) (h : k < l.length), f y = (f l[k]).set j v → (l.map f).flatten.set (k * n + j) v = ((l.set k y).map f).flatten
  | [], k, h, _ => by simp at h
  | x :: l, 0, _, hy => by
    simp only [List.map_cons, List.flatten_cons, Nat.zero_mul, Nat.zero_add, List.set_cons_zero]
    simp only [List.getElem_cons_zero] at hy
    rw [List.set_append_left _ _ (by rw [hn]; exact hj), hy]
  | x :: l, k + 1, h, hy => by
    simp only [List.map_cons, List.flatten_cons, List.set_cons_succ]
    simp only [List.getElem_cons_succ] at hy
    have e : (k + 1) * n + j = n + (k * n + j) := by rw [Nat.add_mul]; omega
    rw [List.set_append_right _ _ (by rw [hn]; omega), hn, e, Nat.add_sub_cancel_left, flat_set hn hj l k (by simpa using h) hy]
theorem Cel.row {w : World} {s : Slc} {l : List α} (hn : ∀ x, (f x).length = n) (hp : 0 < n) (h : Cel w s n (l.map f).flatten) {k : Nat} (hk : k < l.length) :
    ∃ p, s.a = some p ∧ ∀ (j : Nat) (v : Value), (f l[k])[j]? = some v → w.cell? ((p.add ((k : Int).toNat * n)).add j) = some v := by
  have hle : k * n + n ≤ l.length * n := by rw [← Nat.succ_mul]; exact Nat.mul_le_mul_right _ hk
  obtain ⟨p, hpa, _⟩ := h.get (i := k * n + 0) (by rw [flat_len hn]; omega)
  refine ⟨p, hpa, fun j v hv => ?_⟩
  have hj : j < n := by have := (List.getElem?_eq_some_iff.1 hv).1; rw [hn] at this; exact this
  rw [← flat_at hn l k j hk hj] at hv
  obtain ⟨q, hq, hc⟩ := h.at_ _ _ hv
  rw [hpa] at hq
  injection hq with hq
  subst hq
  rw [add_add, Int.toNat_natCast]
  exact hc
end
theorem all_at {α : Type} (f : α → Asn) : ∀ (l : List α) (k : Nat) (h : k < l.length), Ent (all f l) (star (f l[k]) (all f (l.take k ++ l.drop (k + 1))))
  | [], k, h => by simp at h
  | x :: l, 0, _ => Ent.refl _
  | x :: l, k + 1, h => (Ent.star (Ent.refl _) (all_at f l k (by simpa using h))).trans left
theorem all_put {α : Type} (f : α → Asn) (y : α) : ∀ (l : List α) (k : Nat), k < l.length → Ent (star (f y) (all f (l.take k ++ l.drop (k + 1)))) (all f (l.set k y))
  | [], k, h => by simp at h
  | x :: l, 0, _ => Ent.refl _
  | x :: l, k + 1, h => left.trans (Ent.star (Ent.refl _) (all_put f y l k (by simpa using h)))
theorem all_app {α : Type} (f : α → Asn) : ∀ (l m : List α), Ent (star (all f l) (all f m)) (all f (l ++ m))
  | [], m => Asn.emp_l'
  | x :: l, m => Asn.assoc.trans (Ent.star (Ent.refl _) (all_app f l m))
theorem Hp.appDrop {P : Program} {w0 w : World} {F : Asn} {t bytes e size : Nat} {z : Value} (T : SlT P t e size bytes z) {s y : Slc} {cs ys : List Value} {ty : Nat} {K : Slc → World → Prop} (H : Hp w0 w (star (Asn.own e size s cs) F)) (hy : Cel w y size ys) (hy0 : 0 < y.l)
    (h1 : ∀ u ∈ ys, u.oneCell' = true) (hm : s.l + y.l ≤ maxLen) (hb : (s.l + y.l) * bytes ≤ 140737488355328) (k : ∀ s' w', Hp w0 w' (star (Asn.own e size s cs) F) → K s' w') : App P t t ty w s.v y.v K := by
  have hO0 := H.isOwn (s := s)
  refine App.own2 T hO0 hy hy0 h1 hm hb fun s' w' hO hl hc => k s' w' (H.step fun S _ hp => ⟨s.blks, S, fun k hk => (hp.1 k).2 hk, ?_, ⟨hp.1, ?_⟩, fun k hk => .inl hk⟩)
  · rcases hc with ⟨f, _⟩ | ⟨f, _⟩
    · exact f
    · exact (Fr.refl s.blks w).then_ f
  · rcases hc with ⟨f, h2, h3⟩ | ⟨f, _⟩
    · have := hO.ahead (s' := s) (n := s.l) h2.symm h3.symm rfl (by omega)
      have hlen := hO0.1
      rw [List.take_append_of_le_length (by omega), List.take_of_length_le (by omega)] at this
      exact this
    · exact hO0.fr0 f
theorem An.nine (a : An) : a.cells.length = 9 := rfl
/-! ## The marks -/
def mk (k : Nat) : Int := -100 - (k : Int)
structure Mk (k : Nat) (a : An) : Prop where
  X : ∀ u ∈ a.X, u.kind = mk k
  E : ∀ e ∈ a.E, e = mk k
theorem up7 (u : Upd) : u.cells.length = 7 := rfl
theorem mk_eq {k : Nat} (h : k < 1000) : wr .i64 ((-100) - (k : Int)) = mk k := wr64 (by omega) (by omega)
theorem an_front {w0 w : World} {A : Asn} {bs : List An} {F : Asn} {k : Nat} (hk : k < bs.length) (H : Hp w0 w (star A (star (all anU bs) F))) :
    Hp w0 w (star (own Ty_int 1 bs[k].m (bs[k].E.map (Value.int .i64))) (star (own Ty_api_Update 7 bs[k].l (bs[k].X.map Upd.cells).flatten) (star A (star (all anU (bs.take k ++ bs.drop (k + 1))) F)))) :=
  (H.swap.ent (Ent.star (all_at anU bs k hk) (Ent.refl _))).ent (by
    unfold anU
    exact Asn.assoc.trans (Asn.assoc.trans (left.trans (Ent.star (Ent.refl _) (Ent.star (Ent.refl _) left)))))
theorem an_back {w0 w : World} {A : Asn} {bs : List An} {F : Asn} {k : Nat} (hk : k < bs.length) (b : An) (H : Hp w0 w (star (own Ty_api_Update 7 b.l (b.X.map Upd.cells).flatten) (star (own Ty_int 1 b.m (b.E.map (Value.int .i64))) (star A (star (all anU (bs.take k ++ bs.drop (k + 1))) F))))) :
    Hp w0 w (star A (star (all anU (bs.set k b)) F)) := by
  have H2 : Hp w0 w (star (star (anU b) (all anU (bs.take k ++ bs.drop (k + 1)))) (star A F)) := H.ent (by
    unfold anU
    exact (Asn.assoc'.trans (Ent.star (Ent.refl _) left)).trans Asn.assoc')
  exact (H2.ent (Ent.star (all_put anU b bs k hk) (Ent.refl _))).swap
theorem marked_h {w0 w : World} {xs : Slc} {al : List An} {F : Asn} (H : Hp w0 w (star (own Ty_sherdlaw11_answer 9 xs (al.map An.cells).flatten) (star (all anU al) F))) (hn : al.length < 1000) (hb : ∀ a ∈ al, a.X.length ≤ 1099511627776 ∧ a.E.length ≤ 1099511627777) :
    Calls PP F_sherdlaw11_marked #[xs.v] w (Rt fun v w' => v = .bool true ∧ Hp w0 w' (star (own Ty_sherdlaw11_answer 9 xs (al.map An.cells).flatten) F)) := by
  have hxl : xs.l = al.length := by have := H.cel (s := xs) |>.len; rw [flat_len An.nine] at this; omega
  refine sim_sherdlaw11_marked _ _ _ ?_
  unfold vc_sherdlaw11_marked
  let Inv : Nat → World → Prop := fun i w' => ∃ bs : List An, bs.length = al.length ∧ bs.map An.cells = al.map An.cells ∧ (∀ (j : Nat) (h : j < bs.length), (j < i → Mk j bs[j]) ∧ bs[j].X.length ≤ 1099511627776 ∧ bs[j].E.length ≤ 1099511627777) ∧ Hp w0 w' (star (own Ty_sherdlaw11_answer 9 xs (bs.map An.cells).flatten) (star (all anU bs) F))
  refine ⟨fun k w' => ∃ i : Nat, k = (i : Int) ∧ i ≤ al.length ∧ Inv i w', fun k _ => al.length - k.toNat, ⟨0, rfl, by omega, al, rfl, rfl, fun j h => ⟨fun h => by omega, hb _ (List.getElem_mem h)⟩, H⟩, ?_⟩
  rintro _ w1 ⟨k, rfl, hk, hI⟩
  refine ⟨fun hlt => ?_, fun hge => ?_⟩
  · simp only [decide_eq_true_eq, hxl] at hlt
    obtain ⟨bs, hbl, hbc, hbm, H⟩ := hI
    have hkb : k < bs.length := by omega
    have hkE := (hbm k hkb).2
    refine ⟨Inv (k + 1), ⟨fun j w' => ∃ (i : Nat) (E : List Int), j = (i : Int) ∧ i ≤ E.length ∧ E.length = bs[k].E.length ∧ (∀ x (h : x < E.length), x < i → E[x] = mk k) ∧
        Hp w0 w' (star (own Ty_int 1 bs[k].m (E.map (Value.int .i64))) (star (own Ty_api_Update 7 bs[k].l (bs[k].X.map Upd.cells).flatten) (star (own Ty_sherdlaw11_answer 9 xs (bs.map An.cells).flatten) (star (all anU (bs.take k ++ bs.drop (k + 1))) F)))), fun j _ => bs[k].E.length - j.toNat,
      ⟨0, bs[k].E, rfl, by omega, rfl, fun x _ h => by omega, ?_⟩, ?_⟩, ?_⟩
    · exact an_front hkb H
    · rintro _ w2 ⟨i, E, rfl, hi, hE, hEm, H⟩
      have hC : Cel w2 xs 9 (bs.map An.cells).flatten := H.cel (s := xs)
      obtain ⟨p, hp, hpc⟩ := Cel.row An.nine (by decide) hC hkb
      have hml : bs[k].m.l = E.length := by have := (H.cel (s := bs[k].m)).len; simp at this; omega
      refine ⟨p, hp, by omega, by omega, bs[k].m, hpc 5 _ rfl, fun hlt => ?_, fun hge => ?_⟩
      · simp only [decide_eq_true_eq, hml] at hlt
        obtain ⟨q, hq, _⟩ := (H.cel (s := bs[k].m)).get (i := i) (by simp; omega)
        refine ⟨p, hp, by omega, by omega, bs[k].m, hpc 5 _ rfl, q, hq, by omega, by omega, ?_⟩
        rw [mk_eq (by omega), wr64 (by omega) (by omega), Int.toNat_natCast, Nat.mul_one]
        refine H.stoS (s := bs[k].m) (by simp; omega) hq fun w3 H => ⟨⟨i + 1, E.set i (mk k), rfl, by simp; omega, by simp [hE], fun x hx hxi => ?_, by rw [List.map_set]; exact H⟩, by dsimp only; omega⟩
        rw [List.getElem_set]
        split
        · rfl
        · exact hEm x (by simpa using hx) (by omega)
      · simp only [decide_eq_false_iff_not, hml] at hge
        have hEall : ∀ e ∈ E, e = mk k := fun e he => by
          obtain ⟨x, hx, rfl⟩ := List.getElem_of_mem he
          exact hEm x hx (by omega)
        refine ⟨fun j w' => ∃ (i : Nat) (X : List Upd), j = (i : Int) ∧ i ≤ X.length ∧ X.length = bs[k].X.length ∧ (∀ x (h : x < X.length), x < i → X[x].kind = mk k) ∧
            Hp w0 w' (star (own Ty_api_Update 7 bs[k].l (X.map Upd.cells).flatten) (star (own Ty_int 1 bs[k].m (E.map (Value.int .i64))) (star (own Ty_sherdlaw11_answer 9 xs (bs.map An.cells).flatten) (star (all anU (bs.take k ++ bs.drop (k + 1))) F)))), fun j _ => bs[k].X.length - j.toNat,
          ⟨0, bs[k].X, rfl, by omega, rfl, fun x _ h => by omega, H.swap⟩, ?_⟩
        rintro _ w3 ⟨i, X, rfl, hi, hX, hXm, H⟩
        have hC : Cel w3 xs 9 (bs.map An.cells).flatten := H.cel (s := xs)
        obtain ⟨p, hp, hpc⟩ := Cel.row An.nine (by decide) hC hkb
        have hll : bs[k].l.l = X.length := by have := (H.cel (s := bs[k].l)).len; rw [flat_len up7] at this; omega
        refine ⟨p, hp, by omega, by omega, bs[k].l, hpc 4 _ rfl, fun hlt => ?_, fun hge => ?_⟩
        · simp only [decide_eq_true_eq, hll] at hlt
          obtain ⟨q, hq, _⟩ := (H.cel (s := bs[k].l)).get (i := i * 7) (by rw [flat_len up7]; omega)
          refine ⟨p, hp, by omega, by omega, bs[k].l, hpc 4 _ rfl, q, hq, by omega, by omega, ?_⟩
          have hiX : i < X.length := by omega
          rw [mk_eq (by omega), wr64 (by omega) (by omega), Int.toNat_natCast, add_add]
          refine H.stoS (s := bs[k].l) (by rw [flat_len up7]; omega) hq fun w4 H => ⟨⟨i + 1, X.set i { X[i] with kind := mk k }, rfl, by simp; omega, by simp [hX], fun x hx hxi => ?_, ?_⟩, by dsimp only; omega⟩
          · rw [List.getElem_set]
            split
            · rfl
            · exact hXm x (by simpa using hx) (by omega)
          · rw [← flat_set (f := Upd.cells) up7 (by decide) X i hiX (y := { X[i] with kind := mk k }) (v := .int .i64 (mk k)) (j := 0) rfl]
            exact H
        · simp only [decide_eq_false_iff_not, hll] at hge
          let b : An := { bs[k] with X := X, E := E }
          have hbc' : (bs.set k b).map An.cells = bs.map An.cells := by
            rw [List.map_set]
            have : b.cells = (bs.map An.cells)[k]'(by simpa using hkb) := by rw [List.getElem_map]; rfl
            rw [this, List.set_getElem_self]
          refine ⟨bs.set k b, by simpa using hbl, hbc'.trans hbc, fun j hj => ?_, ?_⟩
          · rw [List.getElem_set]
            split
            · rename_i hkj
              subst hkj
              exact ⟨fun _ => ⟨fun u hu => by
                obtain ⟨x, hx, rfl⟩ := List.getElem_of_mem hu
                have hx2 : x < X.length := hx
                exact hXm x hx (by omega), hEall⟩, by show X.length ≤ _; omega, by show E.length ≤ _; omega⟩
            · have hj' : j < bs.length := by simpa using hj
              exact ⟨fun h => (hbm j hj').1 (by omega), (hbm j hj').2⟩
          · rw [hbc']
            exact an_back hkb b H
    · rintro w2 hI
      rw [wr64 (by omega) (by omega)]
      exact ⟨⟨k + 1, rfl, by omega, hI⟩, by dsimp only; omega⟩
  · simp only [decide_eq_false_iff_not, hxl] at hge
    obtain ⟨bs, hbl, hbc, hbm, H⟩ := hI
    have hM : ∀ (j : Nat) (h : j < bs.length), Mk j bs[j] := fun j h => (hbm j h).1 (by omega)
    refine ⟨fun k w' => ∃ i : Nat, k = (i : Int) ∧ i ≤ al.length ∧ Hp w0 w' (star (own Ty_sherdlaw11_answer 9 xs (bs.map An.cells).flatten) (star (all anU bs) F)), fun k _ => al.length - k.toNat, ⟨0, rfl, by omega, H⟩, ?_⟩
    rintro _ w2 ⟨i, rfl, hi, H⟩
    refine ⟨fun hlt => ?_, fun hge => ?_⟩
    · simp only [decide_eq_true_eq, hxl] at hlt
      have hib : i < bs.length := by omega
      obtain ⟨p, hp, hpc⟩ := Cel.row An.nine (by decide) (H.cel (s := xs)) hib
      obtain ⟨_, hbX, hbE⟩ := hbm i hib
      refine ⟨p, hp, by omega, by omega, bs[i].m, hpc 5 _ rfl, ?_⟩
      have H1 := an_front hib H
      have hml : bs[i].m.l = bs[i].E.length := by have := (H1.cel (s := bs[i].m)).len; simp at this; omega
      have hll : bs[i].l.l = bs[i].X.length := by have := (H1.swap.cel (s := bs[i].l)).len; rw [flat_len up7] at this; omega
      refine H1.newRow (e := Ty_int) (n := 1) (size := 1) [.int .i64 (wr .i64 ((-100) - (i : Int)))] rfl rfl (by decide) fun b w3 H => ?_
      refine Hp.appDrop slT_sl_int H.swap (H.cel (s := ⟨some (blk b), 1, 1⟩)) Nat.one_pos (by intro v hv; simp at hv; subst hv; rfl) (by unfold maxLen; simp only; omega) (by simp only; omega) fun _ w4 H => ?_
      have H := (H.own ⟨some (blk b), 1, 1⟩).drop
      refine ⟨p, hp, by omega, by omega, bs[i].l, ?_, ?_⟩
      · obtain ⟨p', hp', hpc'⟩ := Cel.row An.nine (by decide) (H.cel (s := xs)) hib
        rw [hp] at hp'
        injection hp' with hp'
        subst hp'
        exact hpc' 4 _ rfl
      refine H.newRow (e := Ty_api_Update) (n := 1) (size := 7) [.int .i64 (wr .i64 ((-100) - (i : Int))), .string ⟨#[]⟩, .int .i64 0, .int .i64 0, .bool false, .bool false, Slc.nil.v] rfl rfl (by decide) fun b2 w5 H => ?_
      have H2 := H.own bs[i].l
      refine Hp.appDrop slT_sl_api_Update (H.own bs[i].l) ((H.own bs[i].l).cel (s := ⟨some (blk b2), 1, 1⟩)) Nat.one_pos (one_upd ⟨_, _, _, _, _, _, Slc.nil, []⟩) (by unfold maxLen; simp only; omega) (by simp only; omega) fun _ w6 H => ?_
      rw [wr64 (n := (i : Int) + 1) (by omega) (by omega)]
      refine ⟨⟨i + 1, rfl, by omega, ?_⟩, by dsimp only; omega⟩
      have H := (H.own ⟨some (blk b2), 1, 1⟩).drop
      have H := an_back hib bs[i] H
      rw [List.set_getElem_self] at H
      exact H
    · simp only [decide_eq_false_iff_not, hxl] at hge
      refine ⟨fun k w' => w2 = w' ∧ ∃ i : Nat, k = (i : Int) ∧ i ≤ al.length, fun k _ => al.length - k.toNat, ⟨rfl, 0, rfl, by omega⟩, ?_⟩
      rintro _ _ ⟨rfl, k, rfl, hk⟩
      refine ⟨fun hlt => ?_, fun _ => Rt.ok ⟨rfl, by rw [← hbc]; exact H.swap.drop⟩⟩
      · simp only [decide_eq_true_eq, hxl] at hlt
        have hkb : k < bs.length := by omega
        obtain ⟨p, hp, hpc⟩ := Cel.row An.nine (by decide) (H.cel (s := xs)) hkb
        have H1 := an_front hkb H
        have hCm := H1.cel (s := bs[k].m)
        have hCl := H1.swap.cel (s := bs[k].l)
        have hml : bs[k].m.l = bs[k].E.length := by have := hCm.len; simp at this; omega
        have hll : bs[k].l.l = bs[k].X.length := by have := hCl.len; rw [flat_len up7] at this; omega
        obtain ⟨hMX, hME⟩ := hM k hkb
        obtain ⟨_, hbX, hbE⟩ := hbm k hkb
        refine ⟨fun w' => w2 = w', ⟨fun j w' => w2 = w' ∧ ∃ i : Nat, j = (i : Int) ∧ i ≤ bs[k].E.length, fun j _ => bs[k].E.length - j.toNat, ⟨rfl, 0, rfl, by omega⟩, ?_⟩, ?_⟩
        · rintro _ _ ⟨rfl, i, rfl, hi⟩
          refine ⟨p, hp, by omega, by omega, bs[k].m, hpc 5 _ rfl, fun hlt => ?_, fun hge => ?_⟩
          · simp only [decide_eq_true_eq, hml] at hlt
            obtain ⟨q, hq, hqc⟩ := hCm.get (i := i) (by simp; omega)
            have hi' : i < bs[k].E.length := by omega
            refine ⟨p, hp, by omega, by omega, bs[k].m, hpc 5 _ rfl, q, hq, by omega, by omega, bs[k].E[i], by rw [Int.toNat_natCast, Nat.mul_one, hqc, List.getElem_map], fun h => ?_, fun _ => ?_⟩
            · rw [mk_eq (by omega), hME _ (List.getElem_mem hi')] at h
              simp at h
            · rw [wr64 (by omega) (by omega)]
              exact ⟨⟨rfl, i + 1, rfl, by omega⟩, by dsimp only; omega⟩
          · refine ⟨fun j w' => w2 = w' ∧ ∃ i : Nat, j = (i : Int) ∧ i ≤ bs[k].X.length, fun j _ => bs[k].X.length - j.toNat, ⟨rfl, 0, rfl, by omega⟩, ?_⟩
            rintro _ _ ⟨rfl, i, rfl, hi⟩
            refine ⟨p, hp, by omega, by omega, bs[k].l, hpc 4 _ rfl, fun hlt => ?_, fun hge => rfl⟩
            simp only [decide_eq_true_eq, hll] at hlt
            have hi' : i < bs[k].X.length := by omega
            obtain ⟨q, hq, hqc⟩ := Cel.row up7 (by decide) hCl hi'
            refine ⟨p, hp, by omega, by omega, bs[k].l, hpc 4 _ rfl, q, hq, by omega, by omega, bs[k].X[i].kind, hqc 0 _ rfl, fun h => ?_, fun _ => ?_⟩
            · rw [mk_eq (by omega), hMX _ (List.getElem_mem hi')] at h
              simp at h
            · rw [wr64 (by omega) (by omega)]
              exact ⟨⟨rfl, i + 1, rfl, by omega⟩, by dsimp only; omega⟩
        · rintro _ rfl
          rw [wr64 (by omega) (by omega)]
          exact ⟨⟨rfl, k + 1, rfl, by omega⟩, by dsimp only; omega⟩
/-! ## The answers -/
theorem StoN.cons {p : Addr} {i : Nat} {v : Value} {r : List Value} {w : World} {K : World → Prop} (h : Sto w (p.add i) v fun w' => StoN p (i + 1) r w' K) : StoN p i (v :: r) w K := h
theorem StoN.nil {p : Addr} {i : Nat} {w : World} {K : World → Prop} (h : K w) : StoN p i [] w K := h
def An.v (a : An) : Value := .agg a.cells.toArray
theorem ask_h {w : World} {s : Slc} {bs : List UInt8} (hG : GT w) (h : Byt w s bs) (hm : bs.length ≤ 1099511627776) :
    Calls PP F_sherdlaw11_ask #[s.v] w (Rt fun v w' => ∃ a : An, a.of bs ∧ v = a.v ∧ Hp w w' (star (anU a) (star (all rowU a.X) (anW a)))) := by
  refine sim_sherdlaw11_ask _ _ _ ?_
  unfold vc_sherdlaw11_ask
  refine (Hp.start w).new fun b3 w1 H => H.new fun b7 w2 H => call (scan_h (hG.fr0 H.fr) (h.fr0 H.fr) hm) ?_
  rintro _ w3 ⟨a, hof, rfl, K⟩
  have H := H.beside K
  refine ⟨_, _, _, _, a.l, a.m, _, _, _, rfl, ?_⟩
  refine StoN.cons (H.sto2 (b := b7) (lt_ rfl) fun w4 H => ?_)
  simp only [List.setIfInBounds_toArray, List.set_cons_zero, List.set_cons_succ, Nat.reduceAdd] at H
  refine StoN.cons (H.sto2 (b := b7) (lt_ rfl) fun w4 H => ?_)
  simp only [List.setIfInBounds_toArray, List.set_cons_zero, List.set_cons_succ, Nat.reduceAdd] at H
  refine StoN.cons (H.sto2 (b := b7) (lt_ rfl) fun w4 H => ?_)
  simp only [List.setIfInBounds_toArray, List.set_cons_zero, List.set_cons_succ, Nat.reduceAdd] at H
  refine StoN.cons (H.sto2 (b := b7) (lt_ rfl) fun w4 H => ?_)
  simp only [List.setIfInBounds_toArray, List.set_cons_zero, List.set_cons_succ, Nat.reduceAdd] at H
  refine StoN.nil ?_
  refine H.sto (b := b7) (lt_ rfl) fun w4 H => ?_
  simp only [List.setIfInBounds_toArray, List.set_cons_zero, List.set_cons_succ, Nat.reduceAdd] at H
  refine H.sto (b := b7) (lt_ rfl) fun w4 H => ?_
  simp only [List.setIfInBounds_toArray, List.set_cons_zero, List.set_cons_succ, Nat.reduceAdd] at H
  refine H.sto (b := b7) (lt_ rfl) fun w4 H => ?_
  simp only [List.setIfInBounds_toArray, List.set_cons_zero, List.set_cons_succ, Nat.reduceAdd] at H
  refine H.sto (b := b7) (lt_ rfl) fun w4 H => ?_
  simp only [List.setIfInBounds_toArray, List.set_cons_zero, List.set_cons_succ, Nat.reduceAdd] at H
  refine H.sto (b := b7) (lt_ rfl) fun w4 H => ?_
  simp only [List.setIfInBounds_toArray, List.set_cons_zero, List.set_cons_succ, Nat.reduceAdd] at H
  refine ⟨_, H.cell (b := b7) (i := 0) rfl, _, H.cell (b := b7) (i := 1) rfl, _, H.cell (b := b7) (i := 2) rfl, _, H.cell (b := b7) (i := 3) rfl, _, H.cell (b := b7) (i := 4) rfl, _, H.cell (b := b7) (i := 5) rfl, _, H.cell (b := b7) (i := 6) rfl, _, H.cell (b := b7) (i := 7) rfl, _, H.cell (b := b7) (i := 8) rfl, ?_⟩
  refine H.stoAll (b := b3) (by rfl) fun w6 H => ?_
  refine ⟨_, H.cell (b := b3) (i := 0) rfl, _, H.cell (b := b3) (i := 1) rfl, _, H.cell (b := b3) (i := 2) rfl, _, H.cell (b := b3) (i := 3) rfl, _, H.cell (b := b3) (i := 4) rfl, _, H.cell (b := b3) (i := 5) rfl, _, H.cell (b := b3) (i := 6) rfl, _, H.cell (b := b3) (i := 7) rfl, _, H.cell (b := b3) (i := 8) rfl, ?_⟩
  refine Rt.ok ⟨a, hof, rfl, ?_⟩
  exact (((H.blk b3).drop.blk b7).drop).ent (Ent.star (Ent.refl _) (Ent.star (Ent.refl _) Asn.emp_r'))
structure AnR (w : World) (a : An) : Prop where
  u : Ups w a.l a.X
  m : Cel w a.m 1 (a.E.map (Value.int .i64))
theorem AnR.fr0 {w w' : World} {a : An} (h : AnR w a) (f : Fr [] w w') : AnR w' a := ⟨h.u.fr0 f, h.m.fr0 f⟩
theorem Hp.anR {w0 w : World} {a : An} {F : Asn} {bs : List UInt8} (hof : a.of bs) (H : Hp w0 w (star (anU a) (star (all rowU a.X) F))) : AnR w a := by
  have H1 : Hp w0 w (star (own Ty_api_Update 7 a.l (a.X.map Upd.cells).flatten) (star (own Ty_int 1 a.m (a.E.map (Value.int .i64))) (star (all rowU a.X) F))) := Hp.assoc H
  refine ⟨⟨H1.cel (s := a.l), fun u hu => ?_⟩, H1.cel (s := a.m)⟩
  obtain ⟨fr, S, h1, S1, S2, g1, g2, _, S3, S4, g3, g4, hR, _⟩ := H
  have := (hof.ds).1 u hu
  exact ⟨((rows_all _ _ hR).1 u hu).1.cel, by omega⟩
theorem scanL_ends (bs : List UInt8) : ∀ (f at_ : Nat) (last : List UInt8), (scanL bs f at_ last).2.1.length = (scanL bs f at_ last).1.length
  | 0, _, _ => rfl
  | f + 1, at_, last => by
    unfold scanL
    split
    · rfl
    · split
      · rfl
      · simp only [List.length_cons]
        rw [scanL_ends bs f]
theorem An.of.ends {a : An} {bs : List UInt8} (h : a.of bs) : a.E.length ≤ bs.length + 1 := by
  have h1 := h.E
  have h2 := congrArg List.length h1
  rw [h2]
  split
  · simp only [List.length_map, List.length_cons]
    have := scanL_ends bs (bs.length - (readH bs).bs.length) (readH bs).bs.length (headLast bs)
    have := scanL_cnt bs (bs.length - (readH bs).bs.length) (readH bs).bs.length (headLast bs)
    unfold scanT
    omega
  · simp
theorem right_c {w : World} {a : An} {d : Slc} {bs : List UInt8} (hof : a.of bs) (ha : AnR w a) (hd : Byt w d bs) (hm : bs.length ≤ 1099511627776) : Calls PP F_sherdlaw11_right #[a.v, d.v] w (Rt fun v w' => v = .bool true ∧ Fr [] w w') := by
  refine sim_sherdlaw11_right _ _ _ _ _ _ _ _ _ _ _ _ ?_
  unfold vc_sherdlaw11_right
  have hEl := hof.ends
  obtain ⟨_, hXl⟩ := hof.ds
  refine (Hp.start w).new fun b12 w1 H => call (Rt.mono (rscan_c (hd.fr0 H.fr) hm) (Post' := fun v w' => Fr [] w1 w' ∧ ∃ (su se : Slc) (X : List Upd) (q : Option Nat), v = .tuple #[.agg #[.int .i64 a.n, .int .i64 a.k, .int .i64 a.d, .int .i64 a.s], su.v, se.v, .int .i64 a.why, .pointer (q.map blk), .int .i64 a.e] ∧ q.isNone = a.pw.isNone ∧
      Ups w' su X ∧ a.X.map Vc_up = X.map Vc_up ∧ Cel w' se 1 (a.E.map (Value.int .i64))) ?_) ?_
  · have hds := hof.ds.1
    obtain ⟨⟨hn, hk, hdd, hs⟩, hX, hE, hwhy, hpw, he, _⟩ := hof
    rintro _ w2 (⟨ho, f, rfl⟩ | ⟨ho, q, X, su, se, hX2, rfl, K⟩)
    · simp [ho] at hn hk hdd hs hX hE hwhy hpw he
      refine ⟨f, Slc.nil, Slc.nil, [], none, by rw [hn, hk, hdd, hs, hwhy, he]; rfl, by simp [hpw], ⟨Cel.nil _ _, fun u hu => by simp at hu⟩, by rw [hX], by rw [hE]; exact Cel.nil _ _⟩
    · simp only [ho, if_true, Bool.not_true] at hn hk hdd hs hX hE hwhy hpw he
      unfold scanOut at K
      have hR := K.drop.drop
      obtain ⟨_, _, _, S1, S2, _, _, hR, _⟩ := hR
      have hr := (rows_all _ _ hR).1
      refine ⟨K.fr, su, se, X, some q, by rw [hn, hk, hdd, hs, hwhy, he]; rfl, by simp [hpw], ⟨K.cel (s := su), fun u hu => ⟨(hr u hu).1.cel, ?_⟩⟩, hX.trans hX2.symm, by rw [hE, List.map_map]; exact K.cel (s := se)⟩
      have : Vc_up u ∈ a.X.map Vc_up := by rw [hX, ← hX2]; exact List.mem_map_of_mem hu
      obtain ⟨v, hv, hvu⟩ := List.mem_map.1 this
      have h1 := hds v hv
      have h2 := congrArg Up.ds hvu
      simp only [Vc_up] at h2
      rw [h2] at h1
      omega
  rintro _ w2 ⟨f, su, se, X, q, rfl, hq, hU2, hX, hE2⟩
  have H := H.fr0 f
  refine ⟨_, _, _, _, su, se, _, _, _, rfl, New.intro fun b26 w3 nb => nb.blk.stoAll (by rfl) fun w4 hB fB => ?_⟩
  have f4 : Fr [] w2 w4 := nb.frS fB
  have H := H.fr0 f4
  refine ⟨_, H.cell (b := b12) rfl, true, ⟨fun _ => ⟨_, H.cell2 (b := b12) rfl, _, H.cell2 (b := b12) rfl, _, H.cell2 (b := b12) rfl, _, H.cell2 (b := b12) rfl, _, hB.cell rfl, _, hB.cell rfl, _, hB.cell rfl, _, hB.cell rfl, by simp⟩, fun h => by simp at h, true, fun _ => ⟨_, H.cell (b := b12) rfl, by simp⟩, fun h => by simp at h, ?_⟩⟩
  refine ⟨fun b w' => b = true ∧ Fr [] w4 w', ⟨fun _ => ⟨a.l, H.cell (b := b12) rfl, ?_⟩, fun h => by simp at h⟩, ?_⟩
  · refine call (updates_u (ha.fr0 H.fr).u (hU2.fr0 f4) hX (by omega)) ?_
    rintro _ w5 ⟨rfl, f5⟩
    exact ⟨true, rfl, rfl, f5⟩
  rintro _ w5 ⟨rfl, f5⟩
  have H := H.fr0 f5
  refine ⟨fun b w' => b = true ∧ Fr [] w5 w', ⟨fun _ => ⟨a.m, H.cell (b := b12) rfl, ?_⟩, fun h => by simp at h⟩, ?_⟩
  · refine call (ints_c (ha.fr0 H.fr).m (hE2.fr0 (f4.then_ f5)) (by omega)) ?_
    rintro _ w6 ⟨rfl, f6⟩
    exact ⟨_, rfl, by simp, f6⟩
  rintro _ w6 ⟨rfl, f6⟩
  have H := H.fr0 f6
  exact ⟨true, fun _ => ⟨_, H.cell (b := b12) rfl, by cases hp : a.pw <;> cases q <;> simp_all⟩, fun h => by simp at h, Rt.ok ⟨rfl, H.fr⟩⟩
theorem bytes_h {w : World} {xs : Slc} {al : List An} (hx : Cel w xs 9 (al.map An.cells).flatten) (ha : ∀ a ∈ al, AnR w a) (hn : al.length ≤ 4) (hb : ∀ a ∈ al, a.X.length ≤ 1099511627776) :
    Calls PP F_sherdlaw11_bytes #[xs.v] w (Rt fun v w' => ∃ s : Slc, v = s.v ∧ Hp w w' (own Ty_sl_uint8 1 s ((al.map An.X).flatten.map fun u => u.data.v))) := by
  have hxl : xs.l = al.length := by have := hx.len; rw [flat_len An.nine] at this; omega
  have hT : ∀ k, k ≤ al.length → ((al.take k).map An.X).flatten.length ≤ k * 1099511627776 := by
    intro k
    induction k with
    | zero => simp
    | succ k ih =>
      intro hk
      have := ih (by omega)
      have := hb _ (List.getElem_mem (show k < al.length by omega))
      rw [List.take_succ_eq_append_getElem (by omega)]
      simp only [List.map_append, List.flatten_append, List.length_append, List.map_cons, List.map_nil, List.flatten_cons, List.flatten_nil, List.append_nil]
      omega
  refine sim_sherdlaw11_bytes _ _ _ ?_
  unfold vc_sherdlaw11_bytes
  let O : Slc → List Upd → Asn := fun s U => star (own Ty_sl_uint8 1 s (U.map fun u => u.data.v)) emp
  refine ⟨fun s k w' => ∃ i : Nat, k = (i : Int) ∧ i ≤ al.length ∧ Hp w w' (O s ((al.take i).map An.X).flatten), fun _ k _ => al.length - k.toNat, ⟨0, rfl, by omega, (Hp.start w).nilRow _ _⟩, ?_⟩
  rintro s _ w1 ⟨k, rfl, hk, H⟩
  refine ⟨fun hlt => ?_, fun hge => ?_⟩
  · simp only [decide_eq_true_eq, hxl] at hlt
    have hka : k < al.length := by omega
    have hbk := hb _ (List.getElem_mem hka)
    have hTk := hT k hk
    refine ⟨fun s w' => Hp w w' (O s ((al.take (k + 1)).map An.X).flatten), ⟨fun s j w' => ∃ i : Nat, j = (i : Int) ∧ i ≤ al[k].X.length ∧ Hp w w' (O s (((al.take k).map An.X).flatten ++ al[k].X.take i)), fun _ j _ => al[k].X.length - j.toNat, ⟨0, rfl, by omega, by simpa using H⟩, ?_⟩, ?_⟩
    · rintro s _ w2 ⟨i, rfl, hi, H⟩
      have hU := ((ha _ (List.getElem_mem hka)).u).fr0 H.fr
      have hul := hU.len
      obtain ⟨p, hp, hpc⟩ := Cel.row An.nine (by decide) (hx.fr0 H.fr) hka
      refine ⟨p, hp, by omega, by omega, al[k].l, hpc 4 _ rfl, fun hlt => ?_, fun hge => ?_⟩
      · simp only [decide_eq_true_eq, hul] at hlt
        have hi' : i < al[k].X.length := by omega
        obtain ⟨q, hq, hqc⟩ := Cel.row up7 (by decide) hU.cel hi'
        refine ⟨p, hp, by omega, by omega, al[k].l, hpc 4 _ rfl, q, hq, by omega, by omega, al[k].X[i].data, by rw [add_add]; simpa [add_add] using hqc 6 _ rfl, ?_⟩
        refine H.newRow (e := Ty_sl_uint8) (n := 1) (size := 1) [al[k].X[i].data.v] rfl rfl (by decide) fun b w3 H => ?_
        have hsl := (H.own s).isOwn (s := s) |>.1
        rw [List.length_map, List.length_append, List.length_take, Nat.min_eq_left hi] at hsl
        have h1000 : k * 1099511627776 ≤ 3 * 1099511627776 := Nat.mul_le_mul_right _ (by omega)
        have hY := H.cel (s := ⟨some (blk b), 1, 1⟩)
        refine Hp.app slT_sl_sl_uint8 (H.own s) hY (by intro u hu; simp at hu; subst hu; rfl) (by unfold maxLen; simp only; omega) (by simp only; omega) fun s' w4 H _ => ?_
        rw [wr64 (by omega) (by omega)]
        refine ⟨⟨i + 1, rfl, by omega, ?_⟩, by dsimp only; omega⟩
        have H := (H.own ⟨some (blk b), 1, 1⟩).drop
        rw [List.take_succ_eq_append_getElem hi', ← List.append_assoc]
        unfold O
        rw [List.map_append]
        exact H
      · simp only [decide_eq_false_iff_not, hul] at hge
        have : i = al[k].X.length := by omega
        subst this
        rw [List.take_length] at H
        have e : ((al.take (k + 1)).map An.X).flatten = ((al.take k).map An.X).flatten ++ al[k].X := by rw [List.take_succ_eq_append_getElem hka, List.map_append, List.flatten_append]; simp
        show Hp w w2 _
        rw [e]
        exact H
    · rintro s w2 H
      rw [wr64 (by omega) (by omega)]
      exact ⟨⟨k + 1, rfl, by omega, H⟩, by dsimp only; omega⟩
  · simp only [decide_eq_false_iff_not, hxl] at hge
    have : k = al.length := by omega
    subst this
    rw [List.take_length] at H
    exact Rt.ok ⟨s, rfl, H.ent Asn.emp_r'⟩
end Go.Proofs.YtnhgnfflihoaiaaGreatDoor
