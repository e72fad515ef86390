/- For every input the law DrawingDepends answers true and leaves its arguments as they were; conditions: none but the row's own. -/
import Derived.Test.YtpfhfokfambdaaaGreatDoorDcDat
import Derived.Test.YtpfhfokfambdaaaGreatDoorDcRwW
import Derived.Test.YtpfhfokfambdaaaGreatDoorDcFxDepends
import Derived.Test.YtpfhfokfambdaaaGreatDoorDcK22
import Derived.Test.YtpfhfokfambdaaaGreatDoorDcRunA
set_option linter.unusedVariables false
set_option linter.unusedVariables false
set_option linter.unusedSimpArgs false
namespace Go.Proofs.YtpfhfokfambdaaaGreatDoor
open Ev
open Go.ChangeShapes Go.WideShapes Go.ChangeAt Go.RowKit
set_option maxRecDepth 100000 in
theorem depends_contract (H : Type) (enc : TypeId × Value → H) (W : World) (base : Nat) (args : Array Value) (ds gs : List (DataW H)) (before : List MemPlace)
    (hval : ∀ (j : Nat) t v, Tryz.f5.params[j]? = some t → args[j]? = some v → Value.okWide Tryz.prog W .any base t v)
    (hW : DataW.Whole enc Tryz.prog Tryz.f5.params.toList Rows.drawingDependsSpec.vars false W args.toList ds gs before)
    (hsz : (DataW.weightsEach Tryz.prog (Tryz.f5.params.toList ++ (OpenSpec.ofChange Rows.drawingDependsSpec).bare.plain.varTypes Tryz.prog) (ds ++ gs)).all (· ≤ reachBytes) = true) (hS : W.ShapedOpen Tryz.prog) :
    Calls Tryz.prog 5 args W fun e W' => ∃ v, e = .returned v ∧ Rows.drawingDependsSpec.post enc Tryz.prog Tryz.f5 false true false false W args v W' := by
  have hW' := hW
  obtain ⟨p, q, hA0, hV, rfl, hfz, hnd⟩ := hW
  have hA : DataW.TrodAll enc Tryz.prog W 0 (fun _ => true) true Tryz.f5.params.toList args.toList ds p := hA0
  rw [Tryz.params5] at hA hval hsz
  obtain ⟨v0, vs0, d0, ds0, p0, q0, hargs0, rfl, rfl, h0, r0⟩ := trodAll_cons hA
  obtain ⟨rfl, rfl, rfl⟩ := trodAll_nil r0
  obtain rfl : args = #[v0] := by cases args; simp_all
  obtain ⟨dd0, hty0, hrv0⟩ := arg_agg (τ := drawT) (t := 25) (by kernel_rfl) rfl ⟨_, .inl Tryz.underlying25⟩ (hval 0 _ v0 rfl rfl) h0 (sized_at (j := 0) hsz rfl rfl)
  obtain ⟨x0, rfl, hx0⟩ := drawing_of hty0
  refine ((s_law_Depends gw_stable x0 hx0 (s_awake gw_stable fun _ h => h)).2 (fun b => b < W.heap.size) W [v0] rfl (fun i x v hx hv => ?_) (fun b h => h) (gw_of_shape hS)).mono ?_
  · match i with
    | 0 => cases hx; cases hv; exact hrv0
    | i + 1 => simp at hx
  · rintro e W' ⟨v, rfl, hb, hr⟩
    cases hr
    exact ⟨_, rfl, law_post laidOut hW' rfl rfl (by kernel_rfl) Tryz.underlying4 (by rw [Tryz.params5]; intro t ht; rw [List.mem_singleton.1 ht]; exact ⟨by kernel_rfl, of_decide_eq_true (by kernel_rfl)⟩) hb⟩
abbrev dependsArgs : Array Value := #[.agg #[.string ⟨#[]⟩, .slice none 0 0, .slice none 0 0]]
theorem depends_reads (os : Os) {H : Type} (enc : TypeId × Value → H) : ∃ places, DataW.whole enc Tryz.prog (wit os dependsArgs).memory Tryz.f5.params.toList Rows.drawingDependsSpec.vars false dependsArgs.toList 8 = some ([.agg [.lit (.string []), .nil, .nil]], [], places) :=
  ⟨[], by kernel_rfl⟩
theorem depends_ok (os : Os) : Input.okWideB Tryz.prog (wit os dependsArgs) 5 ⟨#[], dependsArgs, []⟩ = true := by kernel_rfl
theorem depends_sized (os : Os) {H : Type} (enc : TypeId × Value → H) : (OpenSpec.ofChange Rows.drawingDependsSpec).bare.sizedB enc Tryz.prog Tryz.f5 false (wit os dependsArgs).memory dependsArgs 8 = true := by kernel_rfl
set_option maxRecDepth 100000 in
theorem depends_lifted (os : Os) (started : os.Started) (H : Type) (enc : TypeId × Value → H) (F : Stop.Interp) :
    ReturnsInHanded {} Tryz.checked os 5 .any ((OpenSpec.ofChange Rows.drawingDependsSpec).preRow enc Tryz.prog Tryz.f5 Rows.drawingDependsRow.domain false Rows.drawingDependsRow.laid) (((OpenSpec.ofChange Rows.drawingDependsSpec).at F).post enc Tryz.prog Tryz.f5 false true false false) := by
  obtain ⟨places, hx⟩ := depends_reads os enc
  refine returnsInHanded_of_row (C := Tryz.checked) (s := OpenSpec.ofChange Rows.drawingDependsSpec) own started (by kernel_rfl) Tryz.func5
    (witness_row_atRef (enc := enc) (C := Tryz.checked) false (laidWorld os) dependsArgs rfl (wit_vars os dependsArgs) (wit_rest os dependsArgs) (depends_ok os)
      (OpenSpec.preRow_of_cond 8 hx (by kernel_rfl) (fun k hk => by cases hk) (depends_sized os enc) (wit_met os dependsArgs))) ?_
  intro W base args ds gs before hval hW _ _ hsz _ hS _
  exact depends_contract H enc W base args ds gs before hval hW hsz hS
theorem depends_said : Rows.DrawingDependsSaid :=
  OpenClaim.holds_of_cond 5 Tryz.f5 rfl rfl rfl rfl rfl rfl rfl ⟨rfl, rfl, rfl, rfl, rfl⟩ rfl rfl rfl rfl rfl (by kernel_rfl) Tryz.func5 depends_facts
    (of_decide_eq_true (by kernel_rfl)) (by unfold Func.isWrapper; first | (rw [if_pos (by decide +kernel)]; kernel_rfl) | (rw [if_neg (by decide +kernel)]; exact ⟨rfl, rfl⟩))
    (fun os started H enc _ F => by rw [OpenClaim.pre_eq_preRow]; exact depends_lifted os started H enc F)
theorem depends_plain (f : FuncId) (fn : Func) (hf : Tryz.pinned.checked.prog.funcNamed "metrolab/metrolablaw20.DrawingDepends" = some f) (hfn : Tryz.pinned.checked.prog.funcs[f]? = some fn) :
    true = Tryz.pinned.checked.prog.looks [] ∧ ∀ (j : Nat) t, fn.params[j]? = some t → Tryz.pinned.checked.prog.wantsStandIn t = false := by
  obtain rfl : f = 5 := Option.some.inj ((show Tryz.prog.funcNamed "metrolab/metrolablaw20.DrawingDepends" = some 5 by kernel_rfl).symm.trans hf) |>.symm
  obtain rfl : fn = Tryz.f5 := (Option.some.inj (Tryz.func5.symm.trans hfn)).symm
  refine ⟨by kernel_rfl, fun j t ht => ?_⟩
  rw [Tryz.params5] at ht
  obtain rfl : t = 25 := by simpa using Array.mem_of_getElem? ht
  exact (show Tryz.prog.wantsStandIn 25 = false by kernel_rfl)
theorem depends_card : Rows.DrawingDependsCardSaid :=
  Claim7.holds_tied_plain_at .later [] _ _ _ _ depends_said (fun _ h => by cases h) (by kernel_rfl) (fun _ h => by cases h) drawingDepends_row_tie rfl ⟨rfl, rfl⟩ (by kernel_rfl) rfl depends_plain (by kernel_rfl)
#print axioms depends_card
end Go.Proofs.YtpfhfokfambdaaaGreatDoor
