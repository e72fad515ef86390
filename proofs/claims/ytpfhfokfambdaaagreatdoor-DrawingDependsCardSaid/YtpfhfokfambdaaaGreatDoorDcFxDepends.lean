/- A part of the proof of a law of this seat: FxDepends; no conditions. -/
import Derived.Test.YtpfhfokfambdaaaGreatDoorDcRw
/-! The closed facts of the row of DrawingDepends. -/
namespace Go.Proofs.YtpfhfokfambdaaaGreatDoor
open Ev
set_option maxHeartbeats 40000000 in
theorem depends_facts : joinedFacts Tryz.pinned.checked.prog 5 Tryz.f5 (OpenSpec.ofChange Rows.drawingDependsSpec).bare Rows.drawingDependsRow = true := by
  unfold joinedFacts
  simp only [Bool.and_eq_true]
  refine ⟨⟨⟨⟨⟨⟨⟨⟨⟨⟨⟨⟨⟨⟨⟨⟨⟨⟨⟨⟨⟨⟨⟨⟨⟨⟨⟨⟨⟨⟨⟨?_, ?_⟩, ?_⟩, ?_⟩, ?_⟩, ?_⟩, ?_⟩, ?_⟩, ?_⟩, ?_⟩, ?_⟩, ?_⟩, ?_⟩, ?_⟩, ?_⟩, ?_⟩, ?_⟩, ?_⟩, ?_⟩, ?_⟩, ?_⟩, ?_⟩, ?_⟩, ?_⟩, ?_⟩, ?_⟩, ?_⟩, ?_⟩, ?_⟩, ?_⟩, ?_⟩, ?_⟩ <;> as_aux_lemma => kernel_rfl
end Go.Proofs.YtpfhfokfambdaaaGreatDoor
