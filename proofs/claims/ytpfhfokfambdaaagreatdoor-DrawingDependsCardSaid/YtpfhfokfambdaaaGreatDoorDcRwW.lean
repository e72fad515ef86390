/- A part of the proof of a law of this seat: RwW; no conditions. -/
import Derived.Test.YtpfhfokfambdaaaGreatDoorDcRw
/-! The witness's world: what is alike in all laws of the seat. -/
namespace Go.Proofs.YtpfhfokfambdaaaGreatDoor
open Ev
open Go.ChangeShapes Go.WideShapes Go.ChangeAt Go.RowKit
noncomputable abbrev wit (os : Os) (args : Array Value) : World := (laidWorld os).forCall (fun _ _ => 0) ⟨#[], args, []⟩
theorem wit_run (os : Os) (args : Array Value) : (DataW.laidRun Tryz.prog (wit os args).memory 8 (Rows.drawingChecksRow.laid.map (·.1))).map (·.1) = some Rows.drawingChecksRow.laid := by kernel_rfl
theorem wit_vars (os : Os) (args : Array Value) : (wit os args).variablesRefB Tryz.prog = true := by kernel_rfl
theorem wit_rest (os : Os) (args : Array Value) : ((wit os args).heap.toList.drop Tryz.prog.globals.size).take ((begin Tryz.prog (fun _ _ => 0) default).world.heap.size - Tryz.prog.globals.size) =
    (begin Tryz.prog (fun _ _ => 0) default).world.heap.toList.drop Tryz.prog.globals.size := by kernel_rfl
theorem wit_places (os : Os) (args : Array Value) : (DataW.laidRun Tryz.prog (wit os args).memory 8 (Rows.drawingChecksRow.laid.map (·.1))).map (fun x => decide x.2.Nodup && laidRowsB Tryz.prog (wit os args).memory x.2) = some true := by kernel_rfl
theorem wit_met (os : Os) (args : Array Value) : laidMetH Tryz.prog Rows.drawingChecksRow.laid (wit os args).memory := by
  rw [MakeChecks.laidMetH_plain _ _ _ (by kernel_rfl)]
  exact laidMet_of_run' 8 (wit_run os args) (wit_places os args)
end Go.Proofs.YtpfhfokfambdaaaGreatDoor
