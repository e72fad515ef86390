/- A part of the proof of a law of this seat: DatB; no conditions. -/
import Derived.Test.YtpfhfokfambdaaaGreatDoorDcDat
/-! Further data that are read: whole numbers, pairs of names. -/
namespace Go.Proofs.YtpfhfokfambdaaaGreatDoor
open Ev
open Go.ChangeShapes Go.WideShapes Go.ChangeAt Go.RowKit
theorem arg_int {H : Type} {enc : TypeId × Value → H} {P : Program} {w : World} {base : Nat} {sp : Nat → Bool} {held : Bool} {t : TypeId} {k : IntKind} (ht : P.underlying t = some (.int k)) {v : Value} {d : DataW H} {p : List MemPlace} (hval : Value.okWide P w .any base t v)
    (h : DataW.Trod enc P w 0 sp held t v d p) : ∃ n, (Lit.int k n).wf = true ∧ Rv (fun b => b < w.heap.size) w (.int k n) v := by
  obtain ⟨n, rfl, _, _, hw⟩ := open_int ht hval h
  exact ⟨n, hw, .int k n⟩
theorem names_of {ds : List D} (h : HasTy (.arr 2 .str) ds) : ∃ a b : Str, ds = [.str a, .str b] ∧ a.length ≤ reachBytes ∧ b.length ≤ reachBytes := by
  obtain ⟨rows, hl, rfl, hr⟩ := h
  match rows, hl with
  | [r, s], _ =>
    obtain ⟨a, rfl, ha⟩ := hr r List.mem_cons_self
    obtain ⟨b, rfl, hb⟩ := hr s (List.mem_cons_of_mem _ List.mem_cons_self)
    exact ⟨a, b, rfl, ha, hb⟩
end Go.Proofs.YtpfhfokfambdaaaGreatDoor
