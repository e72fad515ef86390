/- A part of the proof of a law of this seat: FxFinds; no conditions. -/
import Derived.Test.YtpfhfokfambdaaaGreatDoorDcRw
/-! The closed facts of the row of DrawingFinds. -/
namespace Go.Proofs.YtpfhfokfambdaaaGreatDoor
open Ev
set_option maxHeartbeats 40000000 in
theorem finds_facts : joinedFacts Tryz.pinned.checked.prog 7 Tryz.f7 (OpenSpec.ofChange Rows.drawingFindsSpec).bare Rows.drawingFindsRow = true := by
  unfold joinedFacts
  simp only [Bool.and_eq_true]
  refine ⟨⟨⟨⟨⟨⟨⟨⟨⟨⟨⟨⟨⟨⟨⟨⟨⟨⟨⟨⟨⟨⟨⟨⟨⟨⟨⟨⟨⟨⟨⟨?_, ?_⟩, ?_⟩, ?_⟩, ?_⟩, ?_⟩, ?_⟩, ?_⟩, ?_⟩, ?_⟩, ?_⟩, ?_⟩, ?_⟩, ?_⟩, ?_⟩, ?_⟩, ?_⟩, ?_⟩, ?_⟩, ?_⟩, ?_⟩, ?_⟩, ?_⟩, ?_⟩, ?_⟩, ?_⟩, ?_⟩, ?_⟩, ?_⟩, ?_⟩, ?_⟩, ?_⟩ <;> as_aux_lemma => kernel_rfl
end Go.Proofs.YtpfhfokfambdaaaGreatDoor
