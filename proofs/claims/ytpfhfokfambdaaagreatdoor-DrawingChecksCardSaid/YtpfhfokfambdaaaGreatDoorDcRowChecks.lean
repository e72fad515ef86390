/- For every drawing the law DrawingChecks answers true and leaves its argument as it was; condition: none but the row's own. -/
import Derived.Test.YtpfhfokfambdaaaGreatDoorDcDat
import Derived.Test.YtpfhfokfambdaaaGreatDoorDcRwW
import Derived.Test.YtpfhfokfambdaaaGreatDoorDcFxChecks
import Derived.Test.YtpfhfokfambdaaaGreatDoorDcK20
import Derived.Test.YtpfhfokfambdaaaGreatDoorDcRunA
set_option linter.unusedVariables false
set_option linter.unusedVariables false
set_option linter.unusedSimpArgs false
namespace Go.Proofs.YtpfhfokfambdaaaGreatDoor
open Ev
open Go.ChangeShapes Go.WideShapes Go.ChangeAt Go.RowKit
set_option maxRecDepth 100000 in
theorem checks_contract (H : Type) (enc : TypeId × Value → H) (W : World) (base : Nat) (args : Array Value) (ds gs : List (DataW H)) (before : List MemPlace)
    (hval : ∀ (j : Nat) t v, Tryz.f3.params[j]? = some t → args[j]? = some v → Value.okWide Tryz.prog W .any base t v)
    (hW : DataW.Whole enc Tryz.prog Tryz.f3.params.toList Rows.drawingChecksSpec.vars false W args.toList ds gs before)
    (hsz : (DataW.weightsEach Tryz.prog (Tryz.f3.params.toList ++ (OpenSpec.ofChange Rows.drawingChecksSpec).bare.plain.varTypes Tryz.prog) (ds ++ gs)).all (· ≤ reachBytes) = true) (hS : W.ShapedOpen Tryz.prog) :
    Calls Tryz.prog 3 args W fun e W' => ∃ v, e = .returned v ∧ Rows.drawingChecksSpec.post enc Tryz.prog Tryz.f3 false true false false W args v W' := by
  have hW' := hW
  obtain ⟨p, q, hA0, hV, rfl, hfz, hnd⟩ := hW
  have hA : DataW.TrodAll enc Tryz.prog W 0 (fun _ => true) true Tryz.f3.params.toList args.toList ds p := hA0
  rw [Tryz.params3] at hA hval hsz
  obtain ⟨v0, vs0, d0, ds0, p0, q0, hargs, rfl, rfl, h0, r0⟩ := trodAll_cons hA
  obtain ⟨rfl, rfl, rfl⟩ := trodAll_nil r0
  obtain rfl : args = #[v0] := by cases args; simp_all
  obtain ⟨dd, hty, hrv⟩ := arg_agg (τ := drawT) (t := 25) (by kernel_rfl) rfl ⟨_, .inl Tryz.underlying25⟩ (hval 0 _ v0 rfl rfl) h0 (sized_at (j := 0) hsz rfl rfl)
  obtain ⟨d, rfl, hd⟩ := drawing_of hty
  refine ((s_law_Checks gw_stable d hd (s_awake gw_stable fun _ h => h)).2 (fun b => b < W.heap.size) W [v0] rfl (fun i x v hx hv => ?_) (fun b h => h) (gw_of_shape hS)).mono ?_
  · match i with
    | 0 => cases hx; cases hv; exact hrv
    | i + 1 => simp at hx
  · rintro e W' ⟨v, rfl, hb, hr⟩
    cases hr
    exact ⟨_, rfl, law_post laidOut hW' rfl rfl (by kernel_rfl) Tryz.underlying4 (by rw [Tryz.params3]; intro t ht; rw [List.mem_singleton.1 ht]; exact ⟨by kernel_rfl, of_decide_eq_true (by kernel_rfl)⟩) hb⟩
abbrev checksArgs : Array Value := #[.agg #[.string ⟨#[]⟩, .slice none 0 0, .slice none 0 0]]
theorem checks_reads (os : Os) {H : Type} (enc : TypeId × Value → H) : ∃ places, DataW.whole enc Tryz.prog (wit os checksArgs).memory Tryz.f3.params.toList Rows.drawingChecksSpec.vars false checksArgs.toList 8 = some ([.agg [.lit (.string []), .nil, .nil]], [], places) :=
  ⟨[], by kernel_rfl⟩
theorem checks_ok (os : Os) : Input.okWideB Tryz.prog (wit os checksArgs) 3 ⟨#[], checksArgs, []⟩ = true := by kernel_rfl
theorem checks_sized (os : Os) {H : Type} (enc : TypeId × Value → H) : (OpenSpec.ofChange Rows.drawingChecksSpec).bare.sizedB enc Tryz.prog Tryz.f3 false (wit os checksArgs).memory checksArgs 8 = true := by kernel_rfl
set_option maxRecDepth 100000 in
theorem checks_lifted (os : Os) (started : os.Started) (H : Type) (enc : TypeId × Value → H) (F : Stop.Interp) :
    ReturnsInHanded {} Tryz.checked os 3 .any ((OpenSpec.ofChange Rows.drawingChecksSpec).preRow enc Tryz.prog Tryz.f3 Rows.drawingChecksRow.domain false Rows.drawingChecksRow.laid) (((OpenSpec.ofChange Rows.drawingChecksSpec).at F).post enc Tryz.prog Tryz.f3 false true false false) := by
  obtain ⟨places, hx⟩ := checks_reads os enc
  refine returnsInHanded_of_row (C := Tryz.checked) (s := OpenSpec.ofChange Rows.drawingChecksSpec) own started (by kernel_rfl) Tryz.func3
    (witness_row_atRef (enc := enc) (C := Tryz.checked) false (laidWorld os) checksArgs rfl (wit_vars os checksArgs) (wit_rest os checksArgs) (checks_ok os)
      (OpenSpec.preRow_of_cond 8 hx (by kernel_rfl) (fun k hk => by cases hk) (checks_sized os enc) (wit_met os checksArgs))) ?_
  intro W base args ds gs before hval hW _ _ hsz _ hS _
  exact checks_contract H enc W base args ds gs before hval hW hsz hS
theorem checks_said : Rows.DrawingChecksSaid :=
  OpenClaim.holds_of_cond 3 Tryz.f3 rfl rfl rfl rfl rfl rfl rfl ⟨rfl, rfl, rfl, rfl, rfl⟩ rfl rfl rfl rfl rfl (by kernel_rfl) Tryz.func3 checks_facts
    (of_decide_eq_true (by kernel_rfl)) (by unfold Func.isWrapper; first | (rw [if_pos (by decide +kernel)]; kernel_rfl) | (rw [if_neg (by decide +kernel)]; exact ⟨rfl, rfl⟩))
    (fun os started H enc _ F => by rw [OpenClaim.pre_eq_preRow]; exact checks_lifted os started H enc F)
theorem checks_plain (f : FuncId) (fn : Func) (hf : Tryz.pinned.checked.prog.funcNamed "metrolab/metrolablaw20.DrawingChecks" = some f) (hfn : Tryz.pinned.checked.prog.funcs[f]? = some fn) :
    true = Tryz.pinned.checked.prog.looks [] ∧ ∀ (j : Nat) t, fn.params[j]? = some t → Tryz.pinned.checked.prog.wantsStandIn t = false := by
  obtain rfl : f = 3 := Option.some.inj ((show Tryz.prog.funcNamed "metrolab/metrolablaw20.DrawingChecks" = some 3 by kernel_rfl).symm.trans hf) |>.symm
  obtain rfl : fn = Tryz.f3 := (Option.some.inj (Tryz.func3.symm.trans hfn)).symm
  refine ⟨by kernel_rfl, fun j t ht => ?_⟩
  rw [Tryz.params3] at ht
  obtain rfl : t = 25 := by simpa using Array.mem_of_getElem? ht
  exact (show Tryz.prog.wantsStandIn 25 = false by kernel_rfl)
theorem checks_card : Rows.DrawingChecksCardSaid :=
  Claim7.holds_tied_plain_at .later [] _ _ _ _ checks_said (fun _ h => by cases h) (by kernel_rfl) (fun _ h => by cases h) drawingChecks_row_tie rfl ⟨rfl, rfl⟩ (by kernel_rfl) rfl checks_plain (by kernel_rfl)
#print axioms checks_card
end Go.Proofs.YtpfhfokfambdaaaGreatDoor
