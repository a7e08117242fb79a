/-
  Contracts of the package tag.
-/
import Derived.Test.YtgnceldnfefnmaaGreatRecAll
import Derived.Test.YtgnceldnfefnmaaGreatMapRange
import Derived.Test.YtgnceldnfefnmaaGreatSortHp
import Derived.Test.YtgnceldnfefnmaaGreatTabPlain
namespace Go.Tab
open Go
def Tg.c (t : Tg) : List Value := [.int .i64 t.1, .int .i64 t.2]
def Tg.v (t : Tg) : Value := .agg #[.int .i64 t.1, .int .i64 t.2]
def zeroT (t : Tg) : Bool := decide (t.1 = 0) && decide (t.2 = 0)
def properT (t : Tg) : Bool := ((decide (1 ≤ t.1) && decide (t.1 ≤ 4611686018427387903)) && decide (1 ≤ t.2)) && decide (t.2 ≤ 65535)
end Go.Tab
namespace Go.Proofs.YtgnceldnfefnmaaGreat
open Go Go.Vc Go.Vc.Asn Go.Tab
theorem nan64_c (x : Int) (w : World) : Calls PP F_cmp_isNaN_int64 #[.int .i64 x] w (Rt fun v w' => v = .bool false ∧ w = w') := by
  refine sim_cmp_isNaN_int64 _ _ _ ?_
  unfold vc_cmp_isNaN_int64
  exact Rt.ok ⟨by simp, rfl⟩
theorem nan_c (x : Int) (w : World) : Calls PP F_cmp_isNaN_int #[.int .i64 x] w (Rt fun v w' => v = .bool false ∧ w = w') := by
  refine sim_cmp_isNaN_int _ _ _ ?_
  unfold vc_cmp_isNaN_int
  exact Rt.ok ⟨by simp, rfl⟩
theorem cmp64_c (x y : Int) (w : World) : Calls PP F_cmp_Compare_int64 #[.int .i64 x, .int .i64 y] w (Rt fun v w' => v = .int .i64 (cmpI x y) ∧ w = w') := by
  refine sim_cmp_Compare_int64 _ _ _ _ ?_
  unfold vc_cmp_Compare_int64
  refine call (nan64_c x w) ?_
  rintro _ _ ⟨rfl, rfl⟩
  refine ⟨false, rfl, call (nan64_c y w) ?_⟩
  rintro _ _ ⟨rfl, rfl⟩
  refine ⟨false, rfl, fun h => by simp at h, fun _ => ⟨fun h => by simp at h, fun _ => ⟨fun h => Rt.ok ⟨?_, rfl⟩, fun h => ⟨fun h2 => Rt.ok ⟨?_, rfl⟩, fun h2 => Rt.ok ⟨?_, rfl⟩⟩⟩⟩⟩
  all_goals simp at h; unfold cmpI
  · rw [if_pos h]
  · simp at h2; rw [if_neg (by omega), if_pos h2]
  · simp at h2; rw [if_neg (by omega), if_neg (by omega)]
theorem cmp_c (x y : Int) (w : World) : Calls PP F_cmp_Compare_int #[.int .i64 x, .int .i64 y] w (Rt fun v w' => v = .int .i64 (cmpI x y) ∧ w = w') := by
  refine sim_cmp_Compare_int _ _ _ _ ?_
  unfold vc_cmp_Compare_int
  refine call (nan_c x w) ?_
  rintro _ _ ⟨rfl, rfl⟩
  refine ⟨false, rfl, call (nan_c y w) ?_⟩
  rintro _ _ ⟨rfl, rfl⟩
  refine ⟨false, rfl, fun h => by simp at h, fun _ => ⟨fun h => by simp at h, fun _ => ⟨fun h => Rt.ok ⟨?_, rfl⟩, fun h => ⟨fun h2 => Rt.ok ⟨?_, rfl⟩, fun h2 => Rt.ok ⟨?_, rfl⟩⟩⟩⟩⟩
  all_goals simp at h; unfold cmpI
  · rw [if_pos h]
  · simp at h2; rw [if_neg (by omega), if_pos h2]
  · simp at h2; rw [if_neg (by omega), if_neg (by omega)]
theorem compare_g (a b : Tg) (w : World) : Calls PP F_tag_Compare #[a.v, b.v] w (Rt fun v w' => v = .int .i64 (cmpT a b) ∧ Gr w w') := by
  refine sim_tag_Compare _ _ _ _ _ _ ?_
  unfold vc_tag_Compare
  refine New.gr fun b6 w1 n1 g1 => New.gr fun b9 w2 n2 g2 => call (cmp64_c _ _ _) ?_
  rintro _ _ ⟨rfl, rfl⟩
  have B1 : Blk w2 b6 _ _ := n1.blk.fr n2.fr (by simp)
  refine ⟨_, rfl, fun h => Rt.ok ⟨?_, g1.trans g2⟩, fun h => ⟨_, B1.cell (i := 1) rfl, _, n2.blk.cell (i := 1) rfl, call (cmp_c _ _ _) ?_⟩⟩
  · simp only [decide_eq_true_eq] at h
    unfold cmpT
    rw [if_pos h]
  · rintro _ _ ⟨rfl, rfl⟩
    simp only [ne_eq, decide_not, Bool.not_eq_false', decide_eq_true_eq] at h
    refine ⟨_, rfl, Rt.ok ⟨?_, g1.trans g2⟩⟩
    unfold cmpT
    rw [if_neg (by simpa using h)]
theorem compare_c (a b : Tg) (w : World) : Calls PP F_tag_Compare #[a.v, b.v] w (Rt fun v w' => v = .int .i64 (cmpT a b) ∧ Fr [] w w') := Rt.mono (compare_g a b w) fun _ _ h => ⟨h.1, h.2.fr⟩
theorem zero_c (t : Tg) (w : World) : Calls PP F_tag_Zero #[t.v] w (Rt fun v w' => v = .bool (zeroT t) ∧ Fr [] w w') := by
  refine sim_tag_Zero _ _ _ _ ?_
  unfold vc_tag_Zero
  exact (Hp.start w).new fun b w1 H => Rt.ok ⟨rfl, H.fr⟩
theorem proper_c (t : Tg) (w : World) : Calls PP F_tag_proper #[t.v] w (Rt fun v w' => v = .bool (properT t) ∧ Fr [] w w') := by
  refine sim_tag_proper _ _ _ _ ?_
  unfold vc_tag_proper
  exact (Hp.start w).new fun b w1 H => Rt.ok ⟨rfl, H.fr⟩
theorem valid_c (t : Tg) (w : World) : Calls PP F_tag_Valid #[t.v] w (Rt fun v w' => v = .bool (zeroT t || properT t) ∧ Fr [] w w') := by
  refine sim_tag_Valid _ _ _ _ ?_
  unfold vc_tag_Valid
  refine (Hp.start w).new fun b w1 H => call (zero_c t w1) ?_
  rintro _ w2 ⟨rfl, f⟩
  have H := H.fr0 f
  refine ⟨_, rfl, fun b w' => b = (zeroT t || properT t) ∧ Fr [] w w', ⟨fun h => ⟨_, H.cell (b := b) (i := 0) rfl, _, H.cell (b := b) (i := 1) rfl, call (proper_c t w2) ?_⟩, fun h => ⟨by rw [h]; rfl, H.fr⟩⟩, ?_⟩
  · rintro _ w3 ⟨rfl, f3⟩
    exact ⟨_, rfl, by rw [h]; rfl, H.fr.then_ f3⟩
  · rintro _ w3 ⟨rfl, f3⟩
    exact Rt.ok ⟨rfl, f3⟩
end Go.Proofs.YtgnceldnfefnmaaGreat
