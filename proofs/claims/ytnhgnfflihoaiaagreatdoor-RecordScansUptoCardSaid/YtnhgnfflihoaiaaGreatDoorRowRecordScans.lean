/-
  RecordScans, where what is read is of small bulk: the law answers true and leaves its arguments as they were. The row, and its card.
  Conditions: those that the card names.
-/
import Derived.Test.YtnhgnfflihoaiaaGreatDoorLawScans2
import Derived.Test.YtnhgnfflihoaiaaGreatDoorGivenUp
namespace Go.Proofs.YtnhgnfflihoaiaaGreatDoor.recordScans
open Go Go.Vc Go.ChangeShapes Go.WideShapes Go.RowKit Go.Proofs.YtnhgnfflihoaiaaGreatDoor

noncomputable abbrev fn : Func := Tryz.f3
theorem paramsA : fn.params = #[Ty_sl_uint8, Ty_api_Update] := Tryz.params3
theorem params : fn.params.toList = [Ty_sl_uint8, Ty_api_Update] := by rw [paramsA]
theorem readable : ∀ t ∈ fn.params.toList, PP.readableRec t = true ∧ t < PP.types.size := by
  rw [params]
  intro t ht
  simp only [List.mem_cons, List.not_mem_nil, or_false] at ht
  rcases ht with rfl | rfl
  · exact ⟨by kernel_rfl, of_decide_eq_true (by kernel_rfl)⟩
  · exact ⟨by kernel_rfl, of_decide_eq_true (by kernel_rfl)⟩
set_option maxRecDepth 100000 in
theorem contract (H : Type) (enc : TypeId × Value → H) (W : World) (base : Nat) (args : Array Value) (ds gs : List (DataW H)) (before : List MemPlace)
    (hval : ∀ (j : Nat) t v, fn.params[j]? = some t → args[j]? = some v → Value.okWide Tryz.prog W .any base t v)
    (hW : DataW.Whole enc PP fn.params.toList Rows.recordScansSpec.vars false W args.toList ds gs before) (hc : Rows.uptoSmall H (ds ++ gs) = true)
    (hz : (DataW.weightsEach PP (fn.params.toList ++ Rows.recordScansSpec.plain.varTypes PP) (ds ++ gs)).all (· ≤ reachBytes) = true)
    (hL : laidMetH PP Rows.recordScansUptoRow.laid W) :
    Calls PP 3 args W fun e W' => ∃ v, e = .returned v ∧ Rows.recordScansSpec.post enc PP fn false true false false W args v W' := by
  have hp0 : fn.params[0]? = some Ty_sl_uint8 := by rw [paramsA]; rfl
  obtain ⟨es0, hes0⟩ : ∃ e, PP.underlying Ty_sl_uint8 = some (.slice e) := ⟨_, Tryz.underlying22⟩
  have g0 : ∀ v, args[0]? = some v → ∃ s : Slc, v = s.v := fun v h => arg_slice hval hes0 hp0 h
  have hp1 : fn.params[1]? = some Ty_api_Update := by rw [paramsA]; rfl
  obtain ⟨fs1, hfs1⟩ : ∃ fs, PP.underlying Ty_api_Update = some (.struct fs) := ⟨_, Tryz.underlying28⟩
  have g1 : ∀ v, args[1]? = some v → ∃ cs, v = .agg cs := fun v h => arg_struct hval hfs1 hp1 h
  clear hval
  have hW0 := hW
  obtain ⟨p, q, hA, hV, rfl, _, _⟩ := hW
  obtain ⟨rfl, rfl⟩ := trodVars_none hV
  rw [List.append_nil] at hz hc
  have hbk : Rows.uptoBulkAll ds ≤ 1048576 := of_decide_eq_true hc
  have hz2 : ∀ n ∈ DataW.weightsEach PP fn.params.toList ds, n ≤ reachBytes := by
    have h := List.all_eq_true.1 hz
    intro n hn
    have h2 := h n (by rw [show Rows.recordScansSpec.plain.varTypes PP = [] from rfl, List.append_nil]; exact hn)
    simpa using h2
  rw [params] at hA hz2
  obtain ⟨v0, e0, r0⟩ := ru_all hA hz2 hbk 0 _ rfl
  obtain ⟨v1, e1, r1⟩ := ru_all hA hz2 hbk 1 _ rfl
  obtain ⟨u0, u1, rfl⟩ := args2 (trodAll_len hA)
  obtain ⟨d0, d1, rfl⟩ := list2 (trodAll_dlen hA)
  simp at e0 e1
  subst e0 e1
  obtain ⟨ds, bs, q0, hD, hDl⟩ := r0.bytes slT_sl_uint8.ut und_uint8 cells_uint8 bytes_uint8
  have z0 := val_of_slc (g0 _ rfl) q0
  obtain ⟨mo, q1, hM, hMl⟩ := ru_update r1
  have z1 := val_of (g1 _ rfl) q1
  subst z0
  subst z1
  refine (recordScans_c (given hL) hD hDl hM hMl).mono ?_
  rintro (v | c | _) W' h
  · obtain ⟨rfl, hf⟩ := h
    exact ⟨_, rfl, post_true laidOut readable rfl hW0 hf (show fn.resultTypes = #[Ty_bool] by kernel_rfl) und_bool rfl⟩
  · exact h.elim
  · exact h.elim

noncomputable abbrev wit : Array Value := #[.slice none 0 0, .agg #[.int .i64 0, .string ⟨#[]⟩, .int .i64 0, .int .i64 0, .bool false, .bool false, .slice none 0 0]]
theorem laid_met (os : Os) : laidMet PP Rows.recordScansUptoRow.laid ((laidWorld os).forCall (fun _ _ => 0) ⟨#[], wit, []⟩).memory :=
  laidMet_of_run' 8 (by kernel_rfl) (by kernel_rfl)
theorem reads (os : Os) {H : Type} (enc : TypeId × Value → H) : ∃ places, DataW.whole enc PP ((laidWorld os).forCall (fun _ _ => 0) ⟨#[], wit, []⟩).memory fn.params.toList Rows.recordScansSpec.vars false wit.toList 8 = some ([.nil, .agg [.lit (.int .i64 0), .lit (.string []), .agg [.agg [.lit (.int .i64 0), .lit (.int .i64 0)], .lit (.bool false), .lit (.bool false), .nil]]], [], places) :=
  ⟨[], by kernel_rfl⟩

set_option maxRecDepth 100000 in
theorem lifted (os : Os) (started : os.Started) (H : Type) (enc : TypeId × Value → H) (F : Stop.Interp) :
    ReturnsInHanded {} Tryz.checked os 3 .any ((Rows.OpenSpec.upto Rows.recordScansSpec).preRow enc PP fn Rows.recordScansUptoRow.domain false Rows.recordScansUptoRow.laid) (((Rows.OpenSpec.upto Rows.recordScansSpec).at F).post enc PP fn false true false false) := by
  obtain ⟨places, hx⟩ := reads os enc
  refine returnsInHanded_of_row (C := Tryz.checked) (s := Rows.OpenSpec.upto Rows.recordScansSpec) own started (by kernel_rfl) Tryz.func3
    (witness_row_at (enc := enc) (C := Tryz.checked) false (laidWorld os) wit rfl (by kernel_rfl) (by kernel_rfl) (by kernel_rfl)
      (OpenSpec.preRow_of_cond 8 hx (by kernel_rfl) (fun k hk => by cases hk; kernel_rfl) (by kernel_rfl) (laid_met os))) ?_
  intro W base args ds gs before hval hW _ hcond hz hL _ _
  exact contract H enc W base args ds gs before hval hW (hcond _ rfl) hz hL
theorem said : Rows.RecordScansUptoSaid :=
  OpenClaim.holds_of_cond 3 fn rfl rfl rfl rfl rfl rfl rfl ⟨rfl, rfl, rfl, rfl, rfl⟩ rfl rfl rfl rfl rfl (by kernel_rfl) Tryz.func3 (by kernel_rfl)
    (of_decide_eq_true (by kernel_rfl)) (by unfold Func.isWrapper; first | (rw [if_pos (by decide +kernel)]; kernel_rfl) | (rw [if_neg (by decide +kernel)]; exact ⟨rfl, rfl⟩))
    (fun os started H enc _ F => by rw [OpenClaim.pre_eq_preRow]; exact lifted os started H enc F)
theorem plain (f : FuncId) (g : Func) (hf : Tryz.pinned.checked.prog.funcNamed "sherd/sherdlaw11.RecordScans" = some f) (hfn : Tryz.pinned.checked.prog.funcs[f]? = some g) :
    true = Tryz.pinned.checked.prog.looks [] ∧ ∀ (j : Nat) t, g.params[j]? = some t → Tryz.pinned.checked.prog.wantsStandIn t = false := by
  obtain rfl : f = 3 := Option.some.inj ((show PP.funcNamed "sherd/sherdlaw11.RecordScans" = some 3 by kernel_rfl).symm.trans hf) |>.symm
  obtain rfl : g = fn := (Option.some.inj (Tryz.func3.symm.trans hfn)).symm
  refine ⟨by kernel_rfl, fun j t ht => ?_⟩
  rw [paramsA] at ht
  have : t = Ty_sl_uint8 ∨ t = Ty_api_Update := by simpa using Array.mem_of_getElem? ht
  rcases this with rfl | rfl
  · exact (show PP.wantsStandIn Ty_sl_uint8 = false by kernel_rfl)
  · exact (show PP.wantsStandIn Ty_api_Update = false by kernel_rfl)
end Go.Proofs.YtnhgnfflihoaiaaGreatDoor.recordScans
namespace Go.Proofs.YtnhgnfflihoaiaaGreatDoor
theorem recordScansUpto_card : Rows.RecordScansUptoCardSaid :=
  Claim7.holds_tied_plain_at .later [] _ _ _ _ recordScans.said (fun _ h => by cases h) (by kernel_rfl) (fun _ h => by cases h) recordScansUpto_row_tie rfl ⟨rfl, rfl⟩ (by kernel_rfl) rfl recordScans.plain (by kernel_rfl)
end Go.Proofs.YtnhgnfflihoaiaaGreatDoor
