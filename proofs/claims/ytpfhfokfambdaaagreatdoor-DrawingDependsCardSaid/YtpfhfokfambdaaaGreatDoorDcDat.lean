/- A part of the proof of a law of this seat: Dat; no conditions. -/
import Derived.Test.YtpfhfokfambdaaaGreatDoorDcRw
import Derived.Test.YtpfhfokfambdaaaGreatDoorDcK10
/-! The data of drawings, as they are read. -/
namespace Go.Proofs.YtpfhfokfambdaaaGreatDoor
open Ev
abbrev i64T : Ty := .int .i64
abbrev datumT : Ty := .st (.cons .str (.cons i64T .nil))
abbrev frameT : Ty := .st (.cons i64T (.cons .bool (.cons i64T (.cons i64T (.cons (.slice datumT) .nil)))))
abbrev spotT : Ty := .st (.cons i64T (.cons i64T (.cons i64T .nil)))
abbrev limT : Ty := .st (.cons i64T (.cons i64T .nil))
abbrev featT : Ty := .st (.cons .str (.cons i64T (.cons i64T (.cons spotT (.cons limT (.cons (.slice frameT) .nil))))))
abbrev dimT : Ty := .st (.cons .str (.cons .str (.cons i64T (.cons limT .nil))))
abbrev drawT : Ty := .st (.cons .str (.cons (.slice featT) (.cons (.slice dimT) .nil)))
theorem reach_le {n : Nat} (h : n ≤ reachBytes) : n ≤ 4611686018427387904 := Nat.le_trans h (by decide)
theorem datum_of {ds : List D} (h : HasTy datumT ds) : ∃ d : Datum, ds = d.row ∧ d.name.length ≤ 4611686018427387904 := by
  obtain ⟨_, _, rfl, ⟨s, rfl, hs⟩, _, _, rfl, ⟨n, rfl, _⟩, rfl⟩ := h
  exact ⟨⟨s, n⟩, rfl, reach_le hs⟩
theorem frame_of {ds : List D} (h : HasTy frameT ds) : ∃ d : Frame, ds = d.row ∧ d.fits := by
  obtain ⟨_, _, rfl, ⟨k, rfl, _⟩, _, _, rfl, ⟨b, rfl⟩, _, _, rfl, ⟨n, rfl, _⟩, _, _, rfl, ⟨m, rfl, _⟩, _, _, rfl, ⟨rows, rfl, hl, hr⟩, rfl⟩ := h
  obtain ⟨l, rfl, hq⟩ := rows_of (f := Datum.row) fun r hr' => datum_of (hr r hr')
  rw [List.length_map] at hl
  exact ⟨⟨k, b, n, m, l⟩, rfl, reach_le hl, hq⟩
theorem feat_of {ds : List D} (h : HasTy featT ds) : ∃ d : Feature, ds = d.row ∧ d.fits := by
  obtain ⟨_, _, rfl, ⟨s, rfl, hs⟩, _, _, rfl, ⟨k, rfl, _⟩, _, _, rfl, ⟨a, rfl, _⟩, _, _, rfl, ⟨_, _, rfl, ⟨x, rfl, _⟩, _, _, rfl, ⟨y, rfl, _⟩, _, _, rfl, ⟨z, rfl, _⟩, rfl⟩, _, _, rfl, ⟨_, _, rfl, ⟨lo, rfl, _⟩, _, _, rfl, ⟨hi, rfl, _⟩, rfl⟩, _, _, rfl, ⟨rows, rfl, hl, hr⟩, rfl⟩ := h
  obtain ⟨l, rfl, hq⟩ := rows_of (f := Frame.row) fun r hr' => frame_of (hr r hr')
  rw [List.length_map] at hl
  exact ⟨⟨s, k, a, x, y, z, lo, hi, l⟩, rfl, reach_le hs, reach_le hl, hq⟩
theorem dim_of {ds : List D} (h : HasTy dimT ds) : ∃ d : Dim, ds = d.row ∧ d.fits := by
  obtain ⟨_, _, rfl, ⟨s, rfl, hs⟩, _, _, rfl, ⟨t, rfl, ht⟩, _, _, rfl, ⟨k, rfl, _⟩, _, _, rfl, ⟨_, _, rfl, ⟨lo, rfl, _⟩, _, _, rfl, ⟨hi, rfl, _⟩, rfl⟩, rfl⟩ := h
  exact ⟨⟨s, t, k, lo, hi⟩, rfl, reach_le hs, reach_le ht⟩
theorem drawing_of {ds : List D} (h : HasTy drawT ds) : ∃ d : Drawing, ds = d.row ∧ d.fits := by
  obtain ⟨_, _, rfl, ⟨s, rfl, hs⟩, _, _, rfl, ⟨rows, rfl, hl, hr⟩, _, _, rfl, ⟨rows2, rfl, hl2, hr2⟩, rfl⟩ := h
  obtain ⟨l, rfl, hq⟩ := rows_of (f := Feature.row) fun r hr' => feat_of (hr r hr')
  obtain ⟨l2, rfl, hq2⟩ := rows_of (f := Dim.row) fun r hr' => dim_of (hr2 r hr')
  rw [List.length_map] at hl hl2
  exact ⟨⟨s, l, l2⟩, rfl, reach_le hs, reach_le hl, hq, reach_le hl2, hq2⟩
theorem sized_at {H : Type} {P : Program} {ts : List TypeId} {ds : List (DataW H)} (h : (DataW.weightsEach P ts ds).all (· ≤ reachBytes) = true) {j : Nat} {t : TypeId} {d : DataW H} (ht : ts[j]? = some t) (hd : ds[j]? = some d) : ∀ n ∈ d.weights P t, n ≤ reachBytes := fun n hn => by
  have := List.all_eq_true.1 h n (DataW.weights_mem_each ht hd n hn)
  simpa using this
end Go.Proofs.YtpfhfokfambdaaaGreatDoor
