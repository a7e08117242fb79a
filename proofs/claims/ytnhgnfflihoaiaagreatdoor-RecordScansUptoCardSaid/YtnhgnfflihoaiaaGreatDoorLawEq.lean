/-
  The laws' helpers: ints, equal, updates.
-/
import Derived.Test.YtnhgnfflihoaiaaGreatDoorPlain
namespace Go.Proofs.YtnhgnfflihoaiaaGreatDoor
open Go Go.Vc
def Upd.v (u : Upd) : Value := .agg #[.int .i64 u.kind, .string u.key, .int .i64 u.cnt, .int .i64 u.cli, .bool u.fin, .bool u.has, u.data.v]
theorem ints_c {w : World} {a b : Slc} {xs ys : List Int} (ha : Cel w a 1 (xs.map (Value.int .i64))) (hb : Cel w b 1 (ys.map (Value.int .i64))) (hm : xs.length ≤ 9223372036854775000) : Calls PP F_sherdlaw11_ints #[a.v, b.v] w (Rt fun v w' => v = .bool (decide (xs = ys)) ∧ Fr [] w w') := by
  have hal : a.l = xs.length := by have := ha.len; simp at this; omega
  have hbl : b.l = ys.length := by have := hb.len; simp at this; omega
  refine sim_sherdlaw11_ints _ _ _ _ ?_
  unfold vc_sherdlaw11_ints
  refine ⟨fun h => ?_, fun h => ?_⟩
  · simp only [decide_eq_true_eq] at h
    refine Rt.ok ⟨?_, Fr.refl _ _⟩
    rw [decide_eq_false]
    intro e; subst e; omega
  · simp only [decide_eq_false_iff_not, ne_eq, Decidable.not_not] at h
    have hl : xs.length = ys.length := by omega
    refine ⟨fun i w' => Fr [] w w' ∧ ∃ k : Nat, i = (k : Int) ∧ k ≤ xs.length ∧ xs.take k = ys.take k, fun i _ => xs.length - i.toNat, ⟨Fr.refl _ _, 0, rfl, by omega, by simp⟩, ?_⟩
    rintro _ w1 ⟨f1, k, rfl, hk, hp⟩
    refine ⟨fun hlt => ?_, fun hge => ?_⟩
    · simp only [decide_eq_true_eq, hal] at hlt
      have hk1 : k < xs.length := by omega
      have hk2 : k < ys.length := by omega
      obtain ⟨p, hp1, hc1⟩ := (ha.fr0 f1).get (i := k) (by simpa using hk1)
      obtain ⟨q, hq1, hc2⟩ := (hb.fr0 f1).get (i := k) (by simpa using hk2)
      refine ⟨p, hp1, by omega, by omega, xs[k], by simpa using hc1, q, hq1, by omega, by omega, ys[k], by simpa using hc2, fun k20 => ⟨fun hne => ?_, fun he => ?_⟩⟩
      · simp only [decide_eq_true_eq] at hne
        refine Rt.ok ⟨?_, f1.drewN _⟩
        rw [decide_eq_false]
        intro e; subst e; exact hne rfl
      · simp only [decide_eq_false_iff_not, ne_eq, Decidable.not_not] at he
        rw [wr64 (by omega) (by omega)]
        refine ⟨⟨f1.drewN _, k + 1, rfl, by omega, ?_⟩, by dsimp only; omega⟩
        rw [List.take_succ_eq_append_getElem hk1, List.take_succ_eq_append_getElem hk2, hp, he]
    · simp only [decide_eq_false_iff_not, hal] at hge
      have hkk : k = xs.length := by omega
      subst hkk
      rw [List.take_length, hl, List.take_length] at hp
      exact Rt.ok ⟨by simp [hp], f1⟩
theorem equal_u {u v : Upd} {w : World} (h : Vc_up u = Vc_up v) (hu : Byt w u.data u.ds) (hv : Byt w v.data v.ds) : Calls PP F_sherdlaw11_equal #[u.v, v.v] w (Rt fun x w' => x = .bool true ∧ Fr [] w w') := by
  obtain ⟨kind, key, cnt, cli, fin, has, data, ds⟩ := u
  obtain ⟨kind2, key2, cnt2, cli2, fin2, has2, data2, ds2⟩ := v
  simp [Vc_up] at h
  obtain ⟨rfl, rfl, rfl, rfl, rfl, rfl, rfl⟩ := h
  refine sim_sherdlaw11_equal _ _ _ _ _ _ _ _ _ _ _ _ _ _ _ _ ?_
  unfold vc_sherdlaw11_equal
  refine New.intro fun b w1 nb => New.intro fun c w2 nc => ?_
  have f := nb.fr.then_ nc.fr
  refine ⟨fun x w' => x = true ∧ Fr [] w w', ⟨fun _ => call (same_c (hu.fr0 f) (hv.fr0 f)) ?_, fun h => by simp at h⟩, ?_⟩
  · rintro _ _ ⟨rfl, rfl⟩
    exact ⟨_, rfl, rfl, f⟩
  · rintro _ w3 ⟨rfl, f3⟩
    exact Rt.ok ⟨rfl, f3⟩
theorem updates_u {a b : Slc} {la lb : List Upd} {w : World} (ha : Ups w a la) (hb : Ups w b lb) (h : la.map Vc_up = lb.map Vc_up) (hm : la.length ≤ 9223372036854775000) : Calls PP F_sherdlaw11_updates #[a.v, b.v] w (Rt fun x w' => x = .bool true ∧ Fr [] w w') := by
  have hal := ha.len
  have hbl := hb.len
  have hl : la.length = lb.length := by have := congrArg List.length h; simpa using this
  refine sim_sherdlaw11_updates _ _ _ _ ?_
  unfold vc_sherdlaw11_updates
  refine ⟨fun hx => by simp only [decide_eq_true_eq] at hx; omega, fun _ => ⟨fun i w' => Fr [] w w' ∧ ∃ k : Nat, i = (k : Int) ∧ k ≤ la.length, fun i _ => la.length - i.toNat, ⟨Fr.refl _ _, 0, rfl, by omega⟩, ?_⟩⟩
  rintro _ w1 ⟨f1, k, rfl, hk⟩
  refine ⟨fun hlt => ?_, fun hge => Rt.ok ⟨rfl, f1⟩⟩
  simp only [decide_eq_true_eq, hal] at hlt
  have hk1 : k < la.length := by omega
  have hk2 : k < lb.length := by omega
  have f2 := f1.then_ (drewFr w1 1)
  obtain ⟨p, hp, hc⟩ := (ha.fr0 f2).get hk1
  obtain ⟨q, hq, hd⟩ := (hb.fr0 f2).get hk2
  refine ⟨p, hp, by omega, by omega, _, hc 0 _ rfl, _, hc 1 _ rfl, _, hc 2 _ rfl, _, hc 3 _ rfl, _, hc 4 _ rfl, _, hc 5 _ rfl, la[k].data, hc 6 _ rfl, q, hq, by omega, by omega, _, hd 0 _ rfl, _, hd 1 _ rfl, _, hd 2 _ rfl, _, hd 3 _ rfl, _, hd 4 _ rfl, _, hd 5 _ rfl, lb[k].data, hd 6 _ rfl, ?_⟩
  have he : Vc_up la[k] = Vc_up lb[k] := by
    have := congrArg (·[k]?) h
    simpa [List.getElem?_eq_getElem hk1, List.getElem?_eq_getElem hk2] using this
  refine call (equal_u (u := la[k]) (v := lb[k]) he ((ha.fr0 f2).dat _ (List.getElem_mem _)).1 ((hb.fr0 f2).dat _ (List.getElem_mem _)).1) ?_
  rintro _ w2 ⟨rfl, f3⟩
  rw [wr64 (by omega) (by omega)]
  first
    | exact ⟨_, rfl, fun h => by simp at h, fun _ => ⟨⟨f2.then_ f3, k + 1, rfl, by omega⟩, by dsimp only; omega⟩⟩
    | exact ⟨_, rfl, fun k2 => ⟨fun h => by simp at h, fun _ => ⟨⟨(f2.then_ f3).drewN k2, k + 1, rfl, by omega⟩, by dsimp only; omega⟩⟩⟩
end Go.Proofs.YtnhgnfflihoaiaaGreatDoor
