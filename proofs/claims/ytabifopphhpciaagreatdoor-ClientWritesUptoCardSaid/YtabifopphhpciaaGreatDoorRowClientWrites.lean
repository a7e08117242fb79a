/-
  ClientWrites, where what is read is of small bulk: the law answers true and leaves its arguments as they were. The row, and its card.
  Conditions: those that the card names.
-/
import Derived.Test.YtabifopphhpciaaGreatDoorM11
namespace Go.Proofs.YtabifopphhpciaaGreatDoor.clientWrites
open Go Go.Vc Go.ChangeShapes Go.WideShapes Go.RowKit Go.Proofs.YtabifopphhpciaaGreatDoor

noncomputable abbrev fn : Func := Tryz.f4
theorem paramsA : fn.params = #[Ty_sherdlaw18_Tale] := Tryz.params4
theorem params : fn.params.toList = [Ty_sherdlaw18_Tale] := by rw [paramsA]
theorem readable : ∀ t ∈ fn.params.toList, PP.readableRec t = true ∧ t < PP.types.size := by
  rw [params]
  intro t ht
  simp only [List.mem_cons, List.not_mem_nil, or_false] at ht
  subst ht
  exact ⟨by kernel_rfl, of_decide_eq_true (by kernel_rfl)⟩
set_option maxRecDepth 100000 in
theorem contract (H : Type) (enc : TypeId × Value → H) (W : World) (base : Nat) (args : Array Value) (ds gs : List (DataW H)) (before : List MemPlace)
    (hval : ∀ (j : Nat) t v, fn.params[j]? = some t → args[j]? = some v → Value.okWide Tryz.prog W .any base t v)
    (hW : DataW.Whole enc PP fn.params.toList Rows.clientWritesSpec.vars false W args.toList ds gs before) (hc : Rows.uptoSmall H (ds ++ gs) = true)
    (hz : (DataW.weightsEach PP (fn.params.toList ++ Rows.clientWritesSpec.plain.varTypes PP) (ds ++ gs)).all (· ≤ reachBytes) = true)
    (hL : laidMetH PP Rows.clientWritesUptoRow.laid W) :
    Calls PP 4 args W fun e W' => ∃ v, e = .returned v ∧ Rows.clientWritesSpec.post enc PP fn false true false false W args v W' := by
  have hp0 : fn.params[0]? = some Ty_sherdlaw18_Tale := by rw [paramsA]; rfl
  obtain ⟨fs0, hfs0⟩ : ∃ fs, PP.underlying Ty_sherdlaw18_Tale = some (.struct fs) := ⟨_, Tryz.underlying25⟩
  have g0 : ∀ v, args[0]? = some v → ∃ cs, v = .agg cs := fun v h => arg_struct hval hfs0 hp0 h
  clear hval
  have hW0 := hW
  obtain ⟨p, q, hA, hV, rfl, _, _⟩ := hW
  obtain ⟨rfl, rfl⟩ := trodVars_none hV
  rw [List.append_nil] at hz hc
  have hbk : Rows.uptoBulkAll ds ≤ 1048576 := of_decide_eq_true hc
  have hz2 : ∀ n ∈ DataW.weightsEach PP fn.params.toList ds, n ≤ reachBytes := by
    have h := List.all_eq_true.1 hz
    intro n hn
    have h2 := h n (by rw [show Rows.clientWritesSpec.plain.varTypes PP = [] from rfl, List.append_nil]; exact hn)
    simpa using h2
  rw [params] at hA hz2
  obtain ⟨v0, e0, r0⟩ := ru_all hA hz2 hbk 0 _ rfl
  obtain ⟨u0, rfl⟩ := args1 (trodAll_len hA)
  obtain ⟨d0, rfl⟩ := list1 (trodAll_dlen hA)
  simp at e0
  subst e0
  obtain ⟨N, K, V, I, P, vs, is, ps, q0, hV, _, hvl, hI, _, hP, _⟩ := ru_tale r0
  have z0 := val_of (g0 _ rfl) q0
  subst z0
  refine (clientWrites_c (given hL) hV (fun r hr => by have := hvl r hr; omega) hI hP).mono ?_
  rintro (v | c | _) W' h
  · obtain ⟨rfl, hf⟩ := h
    exact ⟨_, rfl, post_true laidOut readable rfl hW0 hf (show fn.resultTypes = #[Ty_bool] by kernel_rfl) und_bool rfl⟩
  · exact h.elim
  · exact h.elim

noncomputable abbrev wit : Array Value := #[.agg #[.int .i64 0, .int .i64 0, .slice none 0 0, .slice none 0 0, .slice none 0 0]]
theorem laid_met (os : Os) : laidMetH PP Rows.clientWritesUptoRow.laid ((laidWorld os).forCall (fun _ _ => 0) ⟨#[], wit, []⟩).memory :=
  laidMetH_of_parts (laidMet_nil _ _) (by kernel_rfl)
theorem reads (os : Os) {H : Type} (enc : TypeId × Value → H) : ∃ places, DataW.whole enc PP ((laidWorld os).forCall (fun _ _ => 0) ⟨#[], wit, []⟩).memory fn.params.toList Rows.clientWritesSpec.vars false wit.toList 8 = some ([.agg [.lit (.int .i64 0), .lit (.int .i64 0), .nil, .nil, .nil]], [], places) :=
  ⟨[], by kernel_rfl⟩

set_option maxRecDepth 100000 in
theorem lifted (os : Os) (started : os.Started) (H : Type) (enc : TypeId × Value → H) (F : Stop.Interp) :
    ReturnsInHanded {} Tryz.checked os 4 .any ((Rows.OpenSpec.upto Rows.clientWritesSpec).preRow enc PP fn Rows.clientWritesUptoRow.domain false Rows.clientWritesUptoRow.laid) (((Rows.OpenSpec.upto Rows.clientWritesSpec).at F).post enc PP fn false true false false) := by
  obtain ⟨places, hx⟩ := reads os enc
  refine returnsInHanded_of_row (C := Tryz.checked) (s := Rows.OpenSpec.upto Rows.clientWritesSpec) own started (by kernel_rfl) Tryz.func4
    (witness_row_at (enc := enc) (C := Tryz.checked) false (laidWorld os) wit rfl (by kernel_rfl) (by kernel_rfl) (by kernel_rfl)
      (OpenSpec.preRow_of_cond 8 hx (by kernel_rfl) (fun k hk => by cases hk; kernel_rfl) (by kernel_rfl) (laid_met os))) ?_
  intro W base args ds gs before hval hW _ hcond hz hL _ _
  exact contract H enc W base args ds gs before hval hW (hcond _ rfl) hz hL
theorem said : Rows.ClientWritesUptoSaid :=
  OpenClaim.holds_of_cond 4 fn rfl rfl rfl rfl rfl rfl rfl ⟨rfl, rfl, rfl, rfl, rfl⟩ rfl rfl rfl rfl rfl (by kernel_rfl) Tryz.func4 (by kernel_rfl)
    (of_decide_eq_true (by kernel_rfl)) (by unfold Func.isWrapper; first | (rw [if_pos (by decide +kernel)]; kernel_rfl) | (rw [if_neg (by decide +kernel)]; exact ⟨rfl, rfl⟩))
    (fun os started H enc _ F => by rw [OpenClaim.pre_eq_preRow]; exact lifted os started H enc F)
theorem plain (f : FuncId) (g : Func) (hf : Tryz.pinned.checked.prog.funcNamed "sherd/sherdlaw18.ClientWrites" = some f) (hfn : Tryz.pinned.checked.prog.funcs[f]? = some g) :
    true = Tryz.pinned.checked.prog.looks [] ∧ ∀ (j : Nat) t, g.params[j]? = some t → Tryz.pinned.checked.prog.wantsStandIn t = false := by
  obtain rfl : f = 4 := Option.some.inj ((show PP.funcNamed "sherd/sherdlaw18.ClientWrites" = some 4 by kernel_rfl).symm.trans hf) |>.symm
  obtain rfl : g = fn := (Option.some.inj (Tryz.func4.symm.trans hfn)).symm
  refine ⟨by kernel_rfl, fun j t ht => ?_⟩
  rw [paramsA] at ht
  obtain rfl : t = Ty_sherdlaw18_Tale := by simpa using Array.mem_of_getElem? ht
  exact (show PP.wantsStandIn Ty_sherdlaw18_Tale = false by kernel_rfl)
end Go.Proofs.YtabifopphhpciaaGreatDoor.clientWrites
namespace Go.Proofs.YtabifopphhpciaaGreatDoor
theorem clientWritesUpto_card : Rows.ClientWritesUptoCardSaid :=
  Claim7.holds_tied_plain_at .later [] _ _ _ _ clientWrites.said (fun _ h => by cases h) (by kernel_rfl) (fun _ h => by cases h) clientWritesUpto_row_tie rfl ⟨rfl, rfl⟩ (by kernel_rfl) rfl clientWrites.plain (by kernel_rfl)
end Go.Proofs.YtabifopphhpciaaGreatDoor
