/- A part of the proof of a law of this seat: RunA; no conditions. -/
import Derived.Test.YtpfhfokfambdaaaGreatDoorDcTabAwake
/-! The examples of the chapter: the law's 'awake' runs to true. -/
namespace Go.Proofs.YtpfhfokfambdaaaGreatDoor
open Ev
open Go.RowKit (Below)
theorem run_awake : runF (orc awakeTab base 40) ⟨0, [(0, none)], c_metrolablaw20_awake⟩ [] = some (.bool true) := by kernel_rfl
theorem s_awake {G : World → Prop} (hG : ∀ w w', G w → Below w.heap.size w w' → G w') (hgw : ∀ w, G w → Gw w) : Sat G Tryz.prog 10 [] (.bool true) :=
  runF_sound hG (orc_ok hG awakeTab_ok (base_ok hG hgw) 40) (d := ⟨0, [(0, none)], c_metrolablaw20_awake⟩) ⟨_, Tryz.func10, k_metrolablaw20_awake⟩ run_awake
end Go.Proofs.YtpfhfokfambdaaaGreatDoor
