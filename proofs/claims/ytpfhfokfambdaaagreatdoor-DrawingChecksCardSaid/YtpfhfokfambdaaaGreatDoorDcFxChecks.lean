/- A part of the proof of a law of this seat: FxChecks; no conditions. -/
import Derived.Test.YtpfhfokfambdaaaGreatDoorDcRw
/-! The closed facts of the row of DrawingChecks. -/
namespace Go.Proofs.YtpfhfokfambdaaaGreatDoor
open Ev
set_option maxHeartbeats 40000000 in
theorem checks_facts : joinedFacts Tryz.pinned.checked.prog 3 Tryz.f3 (OpenSpec.ofChange Rows.drawingChecksSpec).bare Rows.drawingChecksRow = true := by
  unfold joinedFacts
  simp only [Bool.and_eq_true]
  refine ⟨⟨⟨⟨⟨⟨⟨⟨⟨⟨⟨⟨⟨⟨⟨⟨⟨⟨⟨⟨⟨⟨⟨⟨⟨⟨⟨⟨⟨⟨⟨?_, ?_⟩, ?_⟩, ?_⟩, ?_⟩, ?_⟩, ?_⟩, ?_⟩, ?_⟩, ?_⟩, ?_⟩, ?_⟩, ?_⟩, ?_⟩, ?_⟩, ?_⟩, ?_⟩, ?_⟩, ?_⟩, ?_⟩, ?_⟩, ?_⟩, ?_⟩, ?_⟩, ?_⟩, ?_⟩, ?_⟩, ?_⟩, ?_⟩, ?_⟩, ?_⟩, ?_⟩ <;> as_aux_lemma => kernel_rfl
end Go.Proofs.YtpfhfokfambdaaaGreatDoor
