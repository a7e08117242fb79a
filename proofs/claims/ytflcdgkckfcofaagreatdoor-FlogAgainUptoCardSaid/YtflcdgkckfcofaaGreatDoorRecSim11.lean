/-
  The conditions give the machine's calls; printed by vcgen.py.
-/
import Derived.Test.YtflcdgkckfcofaaGreatDoorRecVc
namespace Go.Proofs.YtflcdgkckfcofaaGreatDoor
open Go Go.Vc
set_option maxRecDepth 100000
set_option maxHeartbeats 4000000
theorem sim_flog_fault_Unwrap (f1 : Option Addr) (w : World) (Q : Ending → World → Prop) (h : vc_flog_fault_Unwrap f1 w Q) : Calls PP F_flog_fault_Unwrap #[(.pointer f1)] w Q := by
 unfold vc_flog_fault_Unwrap at h
 refine enter (n := 8) Tryz.func202 rfl rfl (Nat.le_of_ble_eq_true rfl) fun a H => c_seq fun K2 hK2 => c_reg <| s_assign H rfl rfl (lt_ rfl) fun a H => c_nil <| hK2 _ _ <| c_seq fun K3 hK3 => c_reg <| s_move H rfl rfl (lt_ rfl) fun a H => ?_
 obtain ⟨a4, h7, h⟩ := h
 revert H
 subst h7
 intro H
 refine s_nil H rfl rfl (lt_ rfl) fun a H => s_fld H rfl rfl fld_144_1 (lt_ rfl) fun a H => ?_
 obtain ⟨l5, hc6, h⟩ := h
 refine s_load (v := (.i l5)) H rfl rfl one_40 hc6 (lt_ rfl) fun a H => s_iface H rfl rfl ni_40 (lt_ rfl) fun a H => s_assign H rfl rfl (lt_ rfl) fun a H => c_nil <| hK3 _ _ <| c_ret ?_
 exact e_ret1 H rfl rfl h
end Go.Proofs.YtflcdgkckfcofaaGreatDoor
