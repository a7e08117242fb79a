/-
  RecordWrites: the row, and its card.
-/
import Derived.Test.YtnhgnfflihoaiaaDoorGiven
namespace Go.Proofs.YtnhgnfflihoaiaaDoor.recordWrites
open Go Go.Vc Go.ChangeShapes Go.WideShapes Go.RowKit Go.Proofs.YtnhgnfflihoaiaaDoor

noncomputable abbrev fn : Func := Tryd.f3
theorem params : fn.params.toList = [Ty_api_Head, Ty_sl_api_Update] := by rw [show fn.params = #[Ty_api_Head, Ty_sl_api_Update] from Tryd.params3]
theorem readable : ∀ t ∈ fn.params.toList, PP.readableRec t = true ∧ t < PP.types.size := by
  rw [params]
  intro t ht
  simp only [List.mem_cons, List.not_mem_nil, or_false] at ht
  rcases ht with rfl | rfl
  · exact ⟨by kernel_rfl, of_decide_eq_true (by kernel_rfl)⟩
  · exact ⟨by kernel_rfl, of_decide_eq_true (by kernel_rfl)⟩
theorem undHead : ∃ fs, PP.underlying Ty_api_Head = some (.struct fs) := ⟨_, Tryd.underlying25⟩
set_option maxRecDepth 100000 in
theorem contract (H : Type) (enc : TypeId × Value → H) (W : World) (base : Nat) (args : Array Value) (ds gs : List (DataW H)) (before : List MemPlace)
    (hval : ∀ (j : Nat) t v, fn.params[j]? = some t → args[j]? = some v → Value.okWide Tryd.prog W .any base t v)
    (hW : DataW.Whole enc PP fn.params.toList Rows.recordWritesSpec.vars false W args.toList ds gs before) (hz : (DataW.weightsEach PP (fn.params.toList ++ Rows.recordWritesSpec.plain.varTypes PP) (ds ++ gs)).all (· ≤ reachBytes) = true)
    (hL : laidMetH PP Rows.recordWritesRow.laid W) :
    Calls PP 3 args W fun e W' => ∃ v, e = .returned v ∧ Rows.recordWritesSpec.post enc PP fn false true false false W args v W' := by
  have hp0 : fn.params[0]? = some Ty_api_Head := by rw [show fn.params = #[Ty_api_Head, Ty_sl_api_Update] from Tryd.params3]; rfl
  have hp1 : fn.params[1]? = some Ty_sl_api_Update := by rw [show fn.params = #[Ty_api_Head, Ty_sl_api_Update] from Tryd.params3]; rfl
  obtain ⟨fs, hfs⟩ := undHead
  have g0 : ∀ v, args[0]? = some v → ∃ cs, v = .agg cs := fun v h => arg_struct hval hfs hp0 h
  have g1 : ∀ v, args[1]? = some v → ∃ s : Slc, v = s.v := fun v h => arg_slice hval slT_sl_api_Update.ut hp1 h
  clear hval
  have hW0 := hW
  obtain ⟨p, q, hA, hV, rfl, _, _⟩ := hW
  obtain ⟨rfl, rfl⟩ := trodVars_none hV
  rw [List.append_nil] at hz
  have hz2 : ∀ n ∈ DataW.weightsEach PP fn.params.toList ds, n ≤ reachBytes := by
    have h := List.all_eq_true.1 hz
    intro n hn
    have h2 := h n (by rw [show Rows.recordWritesSpec.plain.varTypes PP = [] from rfl, List.append_nil]; exact hn)
    simpa using h2
  rw [params] at hA hz2
  obtain ⟨v0, e0, r0⟩ := rd_all hA hz2 0 _ rfl
  obtain ⟨v1, e1, r1⟩ := rd_all hA hz2 1 _ rfl
  obtain ⟨u0, u1, d0, d1, _, _, rfl, rfl, _, _, _⟩ := trodAll_two hA
  simp at e0 e1
  subst e0 e1
  obtain ⟨cs, rfl⟩ := g0 _ rfl
  obtain ⟨s', rfl⟩ := g1 _ rfl
  obtain ⟨x0, x1, x2, x3, hx⟩ := open_head r0
  obtain ⟨s, l, hs, hU, hl⟩ := open_updates r1
  obtain rfl := agg_of hx
  obtain rfl := slc_of hs
  refine (recordWrites_c (given hL) hU (by unfold reachBytes at hl; omega)).mono ?_
  rintro (v | c | _) W' h
  · obtain ⟨rfl, hf⟩ := h
    exact ⟨_, rfl, post_true laidOut readable rfl hW0 hf (show fn.resultTypes = #[Ty_bool] by kernel_rfl) und_bool rfl⟩
  · exact h.elim
  · exact h.elim

/-- The witness. -/
noncomputable abbrev wit : Array Value := #[.agg #[.int .i64 0, .int .i64 0, .int .i64 0, .int .i64 0], .slice none 0 0]
theorem laid_met (os : Os) : laidMet PP Rows.recordWritesRow.laid ((laidWorld os).forCall (fun _ _ => 0) ⟨#[], wit, []⟩).memory :=
  laidMet_of_run' 8 (by kernel_rfl) (by kernel_rfl)
theorem reads (os : Os) {H : Type} (enc : TypeId × Value → H) : ∃ places, DataW.whole enc PP ((laidWorld os).forCall (fun _ _ => 0) ⟨#[], wit, []⟩).memory fn.params.toList Rows.recordWritesSpec.vars false wit.toList 8 = some ([.agg [.agg [.lit (.int .i64 0), .lit (.int .i64 0), .lit (.int .i64 0)], .lit (.int .i64 0)], .nil], [], places) :=
  ⟨[], by kernel_rfl⟩

set_option maxRecDepth 100000 in
theorem lifted (os : Os) (started : os.Started) (H : Type) (enc : TypeId × Value → H) (F : Stop.Interp) :
    ReturnsInHanded {} Tryd.checked os 3 .any ((OpenSpec.ofChange Rows.recordWritesSpec).preRow enc PP fn Rows.recordWritesRow.domain false Rows.recordWritesRow.laid) (((OpenSpec.ofChange Rows.recordWritesSpec).at F).post enc PP fn false true false false) := by
  obtain ⟨places, hx⟩ := reads os enc
  refine returnsInHanded_of_row (C := Tryd.checked) (s := OpenSpec.ofChange Rows.recordWritesSpec) own started (by kernel_rfl) Tryd.func3
    (witness_row_at (enc := enc) (C := Tryd.checked) false (laidWorld os) wit rfl (by kernel_rfl) (by kernel_rfl) (by kernel_rfl)
      (OpenSpec.preRow_of_cond 8 hx (by kernel_rfl) (fun k hk => by cases hk) (by kernel_rfl) (laid_met os))) ?_
  intro W base args ds gs before hval hW _ _ hz hL _ _
  exact contract H enc W base args ds gs before hval hW hz hL
theorem said : Rows.RecordWritesSaid :=
  OpenClaim.holds_of_cond 3 fn rfl rfl rfl rfl rfl rfl rfl ⟨rfl, rfl, rfl, rfl, rfl⟩ rfl rfl rfl rfl rfl (by kernel_rfl) Tryd.func3 (by kernel_rfl)
    (of_decide_eq_true (by kernel_rfl)) (by unfold Func.isWrapper; first | (rw [if_pos (by decide +kernel)]; kernel_rfl) | (rw [if_neg (by decide +kernel)]; exact ⟨rfl, rfl⟩))
    (fun os started H enc _ F => by rw [OpenClaim.pre_eq_preRow]; exact lifted os started H enc F)
theorem plain (f : FuncId) (g : Func) (hf : Tryd.pinned.checked.prog.funcNamed "sherd/sherdlaw11.RecordWrites" = some f) (hfn : Tryd.pinned.checked.prog.funcs[f]? = some g) :
    true = Tryd.pinned.checked.prog.looks [] ∧ ∀ (j : Nat) t, g.params[j]? = some t → Tryd.pinned.checked.prog.wantsStandIn t = false := by
  obtain rfl : f = 3 := Option.some.inj ((show PP.funcNamed "sherd/sherdlaw11.RecordWrites" = some 3 by kernel_rfl).symm.trans hf) |>.symm
  obtain rfl : g = fn := (Option.some.inj (Tryd.func3.symm.trans hfn)).symm
  refine ⟨by kernel_rfl, fun j t ht => ?_⟩
  rw [show fn.params = #[Ty_api_Head, Ty_sl_api_Update] from Tryd.params3] at ht
  have : t = Ty_api_Head ∨ t = Ty_sl_api_Update := by simpa using Array.mem_of_getElem? ht
  rcases this with rfl | rfl
  · exact (show PP.wantsStandIn Ty_api_Head = false by kernel_rfl)
  · exact (show PP.wantsStandIn Ty_sl_api_Update = false by kernel_rfl)
end Go.Proofs.YtnhgnfflihoaiaaDoor.recordWrites
namespace Go.Proofs.YtnhgnfflihoaiaaDoor
theorem recordWrites_card : Rows.RecordWritesCardSaid :=
  Claim7.holds_tied_plain_at .later [] _ _ _ _ recordWrites.said (fun _ h => by cases h) (by kernel_rfl) (fun _ h => by cases h) recordWrites_row_tie rfl ⟨rfl, rfl⟩ (by kernel_rfl) rfl recordWrites.plain (by kernel_rfl)
end Go.Proofs.YtnhgnfflihoaiaaDoor
