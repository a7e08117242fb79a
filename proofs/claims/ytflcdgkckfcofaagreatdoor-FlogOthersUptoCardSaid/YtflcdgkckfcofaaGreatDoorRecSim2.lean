/-
  The conditions give the machine's calls; printed by vcgen.py.
-/
import Derived.Test.YtflcdgkckfcofaaGreatDoorRecVc
namespace Go.Proofs.YtflcdgkckfcofaaGreatDoor
open Go Go.Vc
set_option maxRecDepth 100000
set_option maxHeartbeats 4000000
theorem sim_sherdlaw14_same (a1 b2 : Slc) (w : World) (Q : Ending → World → Prop) (h : vc_sherdlaw14_same a1 b2 w Q) : Calls PP F_sherdlaw14_same #[a1.v, b2.v] w Q := by
 unfold vc_sherdlaw14_same at h
 refine enter (n := 10) Tryz.func23 rfl rfl (Nat.le_of_ble_eq_true rfl) fun a H => c_seq fun K3 hK3 => c_reg <| s_assign H rfl rfl (lt_ rfl) fun a H => c_nil <| hK3 _ _ <| c_seq fun K4 hK4 => c_reg <| s_move H rfl rfl (lt_ rfl) fun a H => ?_
 obtain ⟨s5, h6, h⟩ := h
 refine s_cv H rfl rfl h6 (lt_ rfl) ?_
 clear H a h6
 intro a H
 refine s_move H rfl rfl (lt_ rfl) fun a H => ?_
 obtain ⟨s7, h8, h⟩ := h
 refine s_cv H rfl rfl h8 (lt_ rfl) ?_
 clear H a h8
 intro a H
 refine s_bin H rfl rfl rfl r_eqlS (lt_ rfl) fun a H => s_assign H rfl rfl (lt_ rfl) fun a H => c_nil <| hK4 _ _ <| c_ret ?_
 exact e_ret1 H rfl rfl h

end Go.Proofs.YtflcdgkckfcofaaGreatDoor
