/- A part of the proof of a law of this seat: KI; no conditions. -/
import Derived.Test.YtpfhfokfambdaaaGreatDoorDcKH
/-! Contracts: binary search. -/
set_option linter.unusedSimpArgs false
namespace Go.Proofs.YtpfhfokfambdaaaGreatDoor
open Ev
open Go.RowKit (Below)
attribute [-simp] ite_self
section
variable {G : World → Prop} (hG : ∀ w w', G w → Below w.heap.size w w' → G w')
include hG
end
end Go.Proofs.YtpfhfokfambdaaaGreatDoor
