/-
  ClientDeaf, where what is read is of small bulk: the law answers true and leaves its arguments as they were. The row, and its card.
  Conditions: those that the card names.
-/
import Derived.Test.YtabifopphhpciaaGreatDoorM9
namespace Go.Proofs.YtabifopphhpciaaGreatDoor.clientDeaf
open Go Go.Vc Go.ChangeShapes Go.WideShapes Go.RowKit Go.Proofs.YtabifopphhpciaaGreatDoor

noncomputable abbrev fn : Func := Tryz.f5
theorem paramsA : fn.params = #[Ty_sherdlaw18_Tale, Ty_sl_api_Message, Ty_bool] := Tryz.params5
theorem params : fn.params.toList = [Ty_sherdlaw18_Tale, Ty_sl_api_Message, Ty_bool] := by rw [paramsA]
theorem readable : ∀ t ∈ fn.params.toList, PP.readableRec t = true ∧ t < PP.types.size := by
  rw [params]
  intro t ht
  simp only [List.mem_cons, List.not_mem_nil, or_false] at ht
  rcases ht with rfl | rfl | rfl
  · exact ⟨by kernel_rfl, of_decide_eq_true (by kernel_rfl)⟩
  · exact ⟨by kernel_rfl, of_decide_eq_true (by kernel_rfl)⟩
  · exact ⟨by kernel_rfl, of_decide_eq_true (by kernel_rfl)⟩
set_option maxRecDepth 100000 in
theorem contract (H : Type) (enc : TypeId × Value → H) (W : World) (base : Nat) (args : Array Value) (ds gs : List (DataW H)) (before : List MemPlace)
    (hval : ∀ (j : Nat) t v, fn.params[j]? = some t → args[j]? = some v → Value.okWide Tryz.prog W .any base t v)
    (hW : DataW.Whole enc PP fn.params.toList Rows.clientDeafSpec.vars false W args.toList ds gs before) (hc : Rows.uptoSmall H (ds ++ gs) = true)
    (hz : (DataW.weightsEach PP (fn.params.toList ++ Rows.clientDeafSpec.plain.varTypes PP) (ds ++ gs)).all (· ≤ reachBytes) = true)
    (hL : laidMetH PP Rows.clientDeafUptoRow.laid W) :
    Calls PP 5 args W fun e W' => ∃ v, e = .returned v ∧ Rows.clientDeafSpec.post enc PP fn false true false false W args v W' := by
  have hp0 : fn.params[0]? = some Ty_sherdlaw18_Tale := by rw [paramsA]; rfl
  obtain ⟨fs0, hfs0⟩ : ∃ fs, PP.underlying Ty_sherdlaw18_Tale = some (.struct fs) := ⟨_, Tryz.underlying25⟩
  have g0 : ∀ v, args[0]? = some v → ∃ cs, v = .agg cs := fun v h => arg_struct hval hfs0 hp0 h
  have hp1 : fn.params[1]? = some Ty_sl_api_Message := by rw [paramsA]; rfl
  obtain ⟨es1, hes1⟩ : ∃ e, PP.underlying Ty_sl_api_Message = some (.slice e) := ⟨_, Tryz.underlying46⟩
  have g1 : ∀ v, args[1]? = some v → ∃ s : Slc, v = s.v := fun v h => arg_slice hval hes1 hp1 h
  have hp2 : fn.params[2]? = some Ty_bool := by rw [paramsA]; rfl
  have g2 : ∀ v, args[2]? = some v → ∃ s, v = .bool s := fun v h => arg_bool hval (by kernel_rfl) hp2 h
  clear hval
  have hW0 := hW
  obtain ⟨p, q, hA, hV, rfl, _, _⟩ := hW
  obtain ⟨rfl, rfl⟩ := trodVars_none hV
  rw [List.append_nil] at hz hc
  have hbk : Rows.uptoBulkAll ds ≤ 1048576 := of_decide_eq_true hc
  have hz2 : ∀ n ∈ DataW.weightsEach PP fn.params.toList ds, n ≤ reachBytes := by
    have h := List.all_eq_true.1 hz
    intro n hn
    have h2 := h n (by rw [show Rows.clientDeafSpec.plain.varTypes PP = [] from rfl, List.append_nil]; exact hn)
    simpa using h2
  rw [params] at hA hz2
  obtain ⟨v0, e0, r0⟩ := ru_all hA hz2 hbk 0 _ rfl
  obtain ⟨v1, e1, r1⟩ := ru_all hA hz2 hbk 1 _ rfl
  obtain ⟨v2, e2, r2⟩ := ru_all hA hz2 hbk 2 _ rfl
  obtain ⟨u0, u1, u2, rfl⟩ := args3 (trodAll_len hA)
  obtain ⟨d0, d1, d2, rfl⟩ := list3 (trodAll_dlen hA)
  simp at e0 e1 e2
  subst e0 e1 e2
  obtain ⟨N, K, V, I, P, vs, is, ps, q0, _, _, _, hI, _, _, _⟩ := ru_tale r0
  have z0 := val_of (g0 _ rfl) q0
  obtain ⟨nzs, nz, q1, hnz, hnl⟩ := ru_msgs r1
  have z1 := val_of_slc (g1 _ rfl) q1
  obtain ⟨put, q2⟩ := ru_bool r2
  have z2 := val_of_bool (g2 _ rfl) q2
  subst z0
  subst z1
  subst z2
  refine (clientDeaf_c hI hnz (by omega)).mono ?_
  rintro (v | c | _) W' h
  · obtain ⟨rfl, hf⟩ := h
    exact ⟨_, rfl, post_true laidOut readable rfl hW0 hf (show fn.resultTypes = #[Ty_bool] by kernel_rfl) und_bool rfl⟩
  · exact h.elim
  · exact h.elim

noncomputable abbrev wit : Array Value := #[.agg #[.int .i64 0, .int .i64 0, .slice none 0 0, .slice none 0 0, .slice none 0 0], .slice none 0 0, .bool false]
theorem laid_met (os : Os) : laidMetH PP Rows.clientDeafUptoRow.laid ((laidWorld os).forCall (fun _ _ => 0) ⟨#[], wit, []⟩).memory :=
  laidMetH_of_parts (laidMet_nil _ _) (by kernel_rfl)
theorem reads (os : Os) {H : Type} (enc : TypeId × Value → H) : ∃ places, DataW.whole enc PP ((laidWorld os).forCall (fun _ _ => 0) ⟨#[], wit, []⟩).memory fn.params.toList Rows.clientDeafSpec.vars false wit.toList 8 = some ([.agg [.lit (.int .i64 0), .lit (.int .i64 0), .nil, .nil, .nil], .nil, .lit (.bool false)], [], places) :=
  ⟨[], by kernel_rfl⟩

set_option maxRecDepth 100000 in
theorem lifted (os : Os) (started : os.Started) (H : Type) (enc : TypeId × Value → H) (F : Stop.Interp) :
    ReturnsInHanded {} Tryz.checked os 5 .any ((Rows.OpenSpec.upto Rows.clientDeafSpec).preRow enc PP fn Rows.clientDeafUptoRow.domain false Rows.clientDeafUptoRow.laid) (((Rows.OpenSpec.upto Rows.clientDeafSpec).at F).post enc PP fn false true false false) := by
  obtain ⟨places, hx⟩ := reads os enc
  refine returnsInHanded_of_row (C := Tryz.checked) (s := Rows.OpenSpec.upto Rows.clientDeafSpec) own started (by kernel_rfl) Tryz.func5
    (witness_row_at (enc := enc) (C := Tryz.checked) false (laidWorld os) wit rfl (by kernel_rfl) (by kernel_rfl) (by kernel_rfl)
      (OpenSpec.preRow_of_cond 8 hx (by kernel_rfl) (fun k hk => by cases hk; kernel_rfl) (by kernel_rfl) (laid_met os))) ?_
  intro W base args ds gs before hval hW _ hcond hz hL _ _
  exact contract H enc W base args ds gs before hval hW (hcond _ rfl) hz hL
theorem said : Rows.ClientDeafUptoSaid :=
  OpenClaim.holds_of_cond 5 fn rfl rfl rfl rfl rfl rfl rfl ⟨rfl, rfl, rfl, rfl, rfl⟩ rfl rfl rfl rfl rfl (by kernel_rfl) Tryz.func5 (by kernel_rfl)
    (of_decide_eq_true (by kernel_rfl)) (by unfold Func.isWrapper; first | (rw [if_pos (by decide +kernel)]; kernel_rfl) | (rw [if_neg (by decide +kernel)]; exact ⟨rfl, rfl⟩))
    (fun os started H enc _ F => by rw [OpenClaim.pre_eq_preRow]; exact lifted os started H enc F)
theorem plain (f : FuncId) (g : Func) (hf : Tryz.pinned.checked.prog.funcNamed "sherd/sherdlaw18.ClientDeaf" = some f) (hfn : Tryz.pinned.checked.prog.funcs[f]? = some g) :
    true = Tryz.pinned.checked.prog.looks [] ∧ ∀ (j : Nat) t, g.params[j]? = some t → Tryz.pinned.checked.prog.wantsStandIn t = false := by
  obtain rfl : f = 5 := Option.some.inj ((show PP.funcNamed "sherd/sherdlaw18.ClientDeaf" = some 5 by kernel_rfl).symm.trans hf) |>.symm
  obtain rfl : g = fn := (Option.some.inj (Tryz.func5.symm.trans hfn)).symm
  refine ⟨by kernel_rfl, fun j t ht => ?_⟩
  rw [paramsA] at ht
  have : t = Ty_sherdlaw18_Tale ∨ t = Ty_sl_api_Message ∨ t = Ty_bool := by simpa using Array.mem_of_getElem? ht
  rcases this with rfl | rfl | rfl
  · exact (show PP.wantsStandIn Ty_sherdlaw18_Tale = false by kernel_rfl)
  · exact (show PP.wantsStandIn Ty_sl_api_Message = false by kernel_rfl)
  · exact (show PP.wantsStandIn Ty_bool = false by kernel_rfl)
end Go.Proofs.YtabifopphhpciaaGreatDoor.clientDeaf
namespace Go.Proofs.YtabifopphhpciaaGreatDoor
theorem clientDeafUpto_card : Rows.ClientDeafUptoCardSaid :=
  Claim7.holds_tied_plain_at .later [] _ _ _ _ clientDeaf.said (fun _ h => by cases h) (by kernel_rfl) (fun _ h => by cases h) clientDeafUpto_row_tie rfl ⟨rfl, rfl⟩ (by kernel_rfl) rfl clientDeaf.plain (by kernel_rfl)
end Go.Proofs.YtabifopphhpciaaGreatDoor
