/- For every input the law DrawingFinds answers true and leaves its arguments as they were; conditions: none but the row's own. -/
import Derived.Test.YtpfhfokfambdaaaGreatDoorDcDat
import Derived.Test.YtpfhfokfambdaaaGreatDoorDcRwW
import Derived.Test.YtpfhfokfambdaaaGreatDoorDcFxFinds
import Derived.Test.YtpfhfokfambdaaaGreatDoorDcK21
import Derived.Test.YtpfhfokfambdaaaGreatDoorDcRunA
import Derived.Test.YtpfhfokfambdaaaGreatDoorDcDatB
set_option linter.unusedVariables false
set_option linter.unusedVariables false
set_option linter.unusedSimpArgs false
namespace Go.Proofs.YtpfhfokfambdaaaGreatDoor
open Ev
open Go.ChangeShapes Go.WideShapes Go.ChangeAt Go.RowKit
set_option maxRecDepth 100000 in
theorem finds_contract (H : Type) (enc : TypeId × Value → H) (W : World) (base : Nat) (args : Array Value) (ds gs : List (DataW H)) (before : List MemPlace)
    (hval : ∀ (j : Nat) t v, Tryz.f7.params[j]? = some t → args[j]? = some v → Value.okWide Tryz.prog W .any base t v)
    (hW : DataW.Whole enc Tryz.prog Tryz.f7.params.toList Rows.drawingFindsSpec.vars false W args.toList ds gs before)
    (hsz : (DataW.weightsEach Tryz.prog (Tryz.f7.params.toList ++ (OpenSpec.ofChange Rows.drawingFindsSpec).bare.plain.varTypes Tryz.prog) (ds ++ gs)).all (· ≤ reachBytes) = true) (hS : W.ShapedOpen Tryz.prog) :
    Calls Tryz.prog 7 args W fun e W' => ∃ v, e = .returned v ∧ Rows.drawingFindsSpec.post enc Tryz.prog Tryz.f7 false true false false W args v W' := by
  have hW' := hW
  obtain ⟨p, q, hA0, hV, rfl, hfz, hnd⟩ := hW
  have hA : DataW.TrodAll enc Tryz.prog W 0 (fun _ => true) true Tryz.f7.params.toList args.toList ds p := hA0
  rw [Tryz.params7] at hA hval hsz
  obtain ⟨v0, vs0, d0, ds0, p0, q0, hargs0, rfl, rfl, h0, r0⟩ := trodAll_cons hA
  obtain ⟨v1, vs1, d1, ds1, p1, q1, hargs1, rfl, rfl, h1, r1⟩ := trodAll_cons r0
  obtain ⟨v2, vs2, d2, ds2, p2, q2, hargs2, rfl, rfl, h2, r2⟩ := trodAll_cons r1
  obtain ⟨rfl, rfl, rfl⟩ := trodAll_nil r2
  subst hargs2
  subst hargs1
  obtain rfl : args = #[v0, v1, v2] := by cases args; simp_all
  obtain ⟨dd0, hty0, hrv0⟩ := arg_agg (τ := drawT) (t := 25) (by kernel_rfl) rfl ⟨_, .inl Tryz.underlying25⟩ (hval 0 _ v0 rfl rfl) h0 (sized_at (j := 0) hsz rfl rfl)
  obtain ⟨x0, rfl, hx0⟩ := drawing_of hty0
  obtain ⟨dd1, hty1, hrv1⟩ := arg_agg (τ := .arr 2 .str) (t := 60) (by kernel_rfl) rfl ⟨#[], .inr ⟨_, _, Tryz.underlying60⟩⟩ (hval 1 _ v1 rfl rfl) h1 (sized_at (j := 1) hsz rfl rfl)
  obtain ⟨x1, y1, rfl, hx1, hy1⟩ := names_of hty1
  obtain ⟨x2, hx2, hrv2⟩ := arg_int Tryz.underlying3 (hval 2 _ v2 rfl rfl) h2
  refine ((s_law_Finds gw_stable x0 x1 y1 x2 hx0 (reach_le hx1) (reach_le hy1) (s_awake gw_stable fun _ h => h)).2 (fun b => b < W.heap.size) W [v0, v1, v2] rfl (fun i x v hx hv => ?_) (fun b h => h) (gw_of_shape hS)).mono ?_
  · match i with
    | 0 => cases hx; cases hv; exact hrv0
    | 1 => cases hx; cases hv; exact hrv1
    | 2 => cases hx; cases hv; exact hrv2
    | i + 3 => simp at hx
  · rintro e W' ⟨v, rfl, hb, hr⟩
    cases hr
    exact ⟨_, rfl, law_post laidOut hW' rfl rfl (by kernel_rfl) Tryz.underlying4 (by rw [Tryz.params7]; intro t ht; rcases List.mem_cons.1 ht with rfl | ht; exact ⟨by kernel_rfl, of_decide_eq_true (by kernel_rfl)⟩; rcases List.mem_cons.1 ht with rfl | ht; exact ⟨by kernel_rfl, of_decide_eq_true (by kernel_rfl)⟩; rw [List.mem_singleton.1 ht]; exact ⟨by kernel_rfl, of_decide_eq_true (by kernel_rfl)⟩) hb⟩
abbrev findsArgs : Array Value := #[.agg #[.string ⟨#[]⟩, .slice none 0 0, .slice none 0 0], .agg #[.string ⟨#[]⟩, .string ⟨#[]⟩], .int .i64 0]
theorem finds_reads (os : Os) {H : Type} (enc : TypeId × Value → H) : ∃ places, DataW.whole enc Tryz.prog (wit os findsArgs).memory Tryz.f7.params.toList Rows.drawingFindsSpec.vars false findsArgs.toList 8 = some ([.agg [.lit (.string []), .nil, .nil], .agg [.lit (.string []), .lit (.string [])], .lit (.int .i64 0)], [], places) :=
  ⟨[], by kernel_rfl⟩
theorem finds_ok (os : Os) : Input.okWideB Tryz.prog (wit os findsArgs) 7 ⟨#[], findsArgs, []⟩ = true := by kernel_rfl
theorem finds_sized (os : Os) {H : Type} (enc : TypeId × Value → H) : (OpenSpec.ofChange Rows.drawingFindsSpec).bare.sizedB enc Tryz.prog Tryz.f7 false (wit os findsArgs).memory findsArgs 8 = true := by kernel_rfl
set_option maxRecDepth 100000 in
theorem finds_lifted (os : Os) (started : os.Started) (H : Type) (enc : TypeId × Value → H) (F : Stop.Interp) :
    ReturnsInHanded {} Tryz.checked os 7 .any ((OpenSpec.ofChange Rows.drawingFindsSpec).preRow enc Tryz.prog Tryz.f7 Rows.drawingFindsRow.domain false Rows.drawingFindsRow.laid) (((OpenSpec.ofChange Rows.drawingFindsSpec).at F).post enc Tryz.prog Tryz.f7 false true false false) := by
  obtain ⟨places, hx⟩ := finds_reads os enc
  refine returnsInHanded_of_row (C := Tryz.checked) (s := OpenSpec.ofChange Rows.drawingFindsSpec) own started (by kernel_rfl) Tryz.func7
    (witness_row_atRef (enc := enc) (C := Tryz.checked) false (laidWorld os) findsArgs rfl (wit_vars os findsArgs) (wit_rest os findsArgs) (finds_ok os)
      (OpenSpec.preRow_of_cond 8 hx (by kernel_rfl) (fun k hk => by cases hk) (finds_sized os enc) (wit_met os findsArgs))) ?_
  intro W base args ds gs before hval hW _ _ hsz _ hS _
  exact finds_contract H enc W base args ds gs before hval hW hsz hS
theorem finds_said : Rows.DrawingFindsSaid :=
  OpenClaim.holds_of_cond 7 Tryz.f7 rfl rfl rfl rfl rfl rfl rfl ⟨rfl, rfl, rfl, rfl, rfl⟩ rfl rfl rfl rfl rfl (by kernel_rfl) Tryz.func7 finds_facts
    (of_decide_eq_true (by kernel_rfl)) (by unfold Func.isWrapper; first | (rw [if_pos (by decide +kernel)]; kernel_rfl) | (rw [if_neg (by decide +kernel)]; exact ⟨rfl, rfl⟩))
    (fun os started H enc _ F => by rw [OpenClaim.pre_eq_preRow]; exact finds_lifted os started H enc F)
theorem finds_plain (f : FuncId) (fn : Func) (hf : Tryz.pinned.checked.prog.funcNamed "metrolab/metrolablaw20.DrawingFinds" = some f) (hfn : Tryz.pinned.checked.prog.funcs[f]? = some fn) :
    true = Tryz.pinned.checked.prog.looks [] ∧ ∀ (j : Nat) t, fn.params[j]? = some t → Tryz.pinned.checked.prog.wantsStandIn t = false := by
  obtain rfl : f = 7 := Option.some.inj ((show Tryz.prog.funcNamed "metrolab/metrolablaw20.DrawingFinds" = some 7 by kernel_rfl).symm.trans hf) |>.symm
  obtain rfl : fn = Tryz.f7 := (Option.some.inj (Tryz.func7.symm.trans hfn)).symm
  refine ⟨by kernel_rfl, fun j t ht => ?_⟩
  rw [Tryz.params7] at ht
  have hm : t ∈ [25, 60, 3] := by simpa using Array.mem_of_getElem? ht
  have hall : ([25, 60, 3].all fun u => !Tryz.prog.wantsStandIn u) = true := by kernel_rfl
  exact (show Tryz.prog.wantsStandIn t = false by simpa using List.all_eq_true.1 hall t hm)
theorem finds_card : Rows.DrawingFindsCardSaid :=
  Claim7.holds_tied_plain_at .later [] _ _ _ _ finds_said (fun _ h => by cases h) (by kernel_rfl) (fun _ h => by cases h) drawingFinds_row_tie rfl ⟨rfl, rfl⟩ (by kernel_rfl) rfl finds_plain (by kernel_rfl)
#print axioms finds_card
end Go.Proofs.YtpfhfokfambdaaaGreatDoor
