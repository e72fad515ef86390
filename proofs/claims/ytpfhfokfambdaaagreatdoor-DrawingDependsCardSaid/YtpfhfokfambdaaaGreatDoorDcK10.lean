/- A part of the proof of a law of this seat: K10; no conditions. -/
import Derived.Test.YtpfhfokfambdaaaGreatDoorDcK9
import Derived.Test.YtpfhfokfambdaaaGreatDoorDcd
import Derived.Test.YtpfhfokfambdaaaGreatDoorDce
/-! Contracts: drawings: places, order, coordinates. -/
set_option linter.unusedSimpArgs false
namespace Go.Proofs.YtpfhfokfambdaaaGreatDoor
open Ev
open Go.RowKit (Below)
def Dim.fits (d : Dim) : Prop := d.src.length ≤ 4611686018427387904 ∧ d.dst.length ≤ 4611686018427387904
def Drawing.fits (d : Drawing) : Prop := d.name.length ≤ 4611686018427387904 ∧ d.features.length ≤ 4611686018427387904 ∧ (∀ f ∈ d.features, f.fits) ∧ d.dims.length ≤ 4611686018427387904 ∧ ∀ x ∈ d.dims, x.fits
def place (d : Drawing) (s : Str) : Int := idxI (fun f : Feature => decide (f.name = s)) d.features
def cmpD (a b : Dim) : Int := firstI [cmpS a.src b.src, cmpS a.dst b.dst, cmpI a.axis b.axis, cmpI a.low b.low, cmpI a.high b.high]
def beforeD (a b : Dim) : Bool := if ¬ a.src = b.src then Op.bytesLess a.src b.src else if ¬ a.dst = b.dst then Op.bytesLess a.dst b.dst else if ¬ a.axis = b.axis then decide (a.axis < b.axis) else if ¬ a.low = b.low then decide (a.low < b.low) else decide (a.high < b.high)
theorem cmpS_eq (a b : Str) (h : a = b) (hi : Op.bytesLess b b = false) : cmpS a b = 0 := by subst h; simp [cmpS, hi]
attribute [-simp] ite_self
section
variable {G : World → Prop} (hG : ∀ w w', G w → Below w.heap.size w w' → G w')
include hG
theorem s_draw_index_1 (f : Feature) (s : Str) (r : List D) : Sat G Tryz.prog 117 [.agg f.row, .ref (.str s :: r)] (.bool (decide (f.name = s))) := by
  refine sat_of hG Tryz.func117 k_drawing_index_1 ?_
  simp [c_drawing_index_1]
  rw [Bool.eq_iff_iff]; simp
theorem s_draw_index (d : Drawing) (s : Str) (hd : d.features.length ≤ 4611686018427387904) : Sat G Tryz.prog 62 [.agg d.row, .str s] (.i (place d s)) := by
  refine sat_of hG Tryz.func62 k_drawing_index ?_
  simp [c_drawing_index]
  refine ⟨_, s_idxF_Feature hG d.features hd (fun f _ => s_draw_index_1 hG f s _), ?_⟩
  simp [place]
theorem s_draw_coordinate (x y z n : Int) (h0 : 0 ≤ n) (h1 : n < 3) : Sat G Tryz.prog 127 [.agg [.i x, .i y, .i z], .i n] (.i (if n = 0 then x else if n = 1 then y else z)) := by
  refine sat_of hG Tryz.func127 k_drawing_coordinate ?_
  have : n = 0 ∨ n = 1 ∨ n = 2 := by omega
  rcases this with e | e | e <;> simp [c_drawing_coordinate, e]
theorem s_draw_order (a b : Dim) : Sat G Tryz.prog 96 [.agg a.row, .agg b.row] (.i (cmpD a b)) := by
  refine sat_of hG Tryz.func96 k_drawing_order ?_
  simp [c_drawing_order]
  refine ⟨_, s_cmpS hG _ _, ?_⟩
  simp
  refine ⟨_, s_cmpS hG _ _, ?_⟩
  simp
  refine ⟨_, s_cmpI hG _ _, ?_⟩
  simp
  refine ⟨_, s_cmpI hG _ _, ?_⟩
  simp
  refine ⟨_, s_cmpI hG _ _, ?_⟩
  simp [List.range, List.range.loop]
  refine ⟨_, s_cmpOr hG [cmpS a.src b.src, cmpS a.dst b.dst, cmpI a.axis b.axis, cmpI a.low b.low, cmpI a.high b.high] (by simp), ?_⟩
  simp [cmpD]
theorem s_r20_Index (d : Drawing) (s : Str) (hd : d.features.length ≤ 4611686018427387904) : Sat G Tryz.prog 74 [.agg d.row, .str s] (.i (place d s)) := by
  refine sat_of hG Tryz.func74 k_metrolabref20_Index ?_
  simp [c_metrolabref20_Index]
  refine w_loopP (fun k : Nat => ⟨[(1, .s s), (2, .at (.loc 2 0)), (5, .n k)], [(2, .var (d.row.map A.d))]⟩) (fun k => k ≤ d.features.length ∧ (d.features.take k).any (fun f => decide (f.name = s)) = false) (fun k => d.features.length - k) 0 (by simp) ⟨Nat.zero_le _, by simp⟩ ?_
  rintro k ⟨hk, he⟩
  by_cases hlt : k < d.features.length
  · have ht := any_take (p := fun f : Feature => decide (f.name = s)) hlt
    by_cases h1 : d.features[k].name = s
    · have := (idxI_at (p := fun f : Feature => decide (f.name = s)) hlt (by simp [h1]) he).symm
      simp [hlt, h1, place]
      exact this
    · rw [he, decide_eq_false h1] at ht
      simp [hlt, h1]
      exact ⟨k + 1, wrap_succ hlt (by omega), ⟨hlt, by simpa using ht⟩, by omega⟩
  · have : k = d.features.length := by omega
    subst this
    rw [List.take_length] at he
    simp [place, idxI_none he]
theorem s_r20_Has (l : List Str) (s : Str) (hl : l.length ≤ 4611686018427387904) : Sat G Tryz.prog 50 [strs l, .str s] (.bool (decide (s ∈ l))) := by
  refine sat_of hG Tryz.func50 k_metrolabref20_Has ?_
  simp [c_metrolabref20_Has]
  refine w_loopP (fun k : Nat => ⟨[(0, .sl (l.map fun s => [D.str s])), (1, .s s), (5, .n k)], []⟩) (fun k => k ≤ l.length ∧ s ∉ l.take k) (fun k => l.length - k) 0 rfl ⟨Nat.zero_le _, by simp⟩ ?_
  rintro k ⟨hk, he⟩
  by_cases hlt : k < l.length
  · by_cases h1 : l[k] = s
    · have : s ∈ l := h1 ▸ List.getElem_mem hlt
      simp [hlt, h1, this]
    · simp [hlt, h1]
      refine ⟨k + 1, wrap_succ hlt (by omega), ⟨hlt, ?_⟩, by omega⟩
      rw [List.take_succ_eq_append_getElem hlt, List.mem_append, List.mem_singleton]
      rintro (h | h)
      · exact he h
      · exact h1 h.symm
  · have : k = l.length := by omega
    subst this
    rw [List.take_length] at he
    simp [he]
theorem s_r20_Before (a b : Dim) : Sat G Tryz.prog 100 [.agg a.row, .agg b.row] (.bool (beforeD a b)) := by
  refine sat_of hG Tryz.func100 k_metrolabref20_Before ?_
  by_cases h1 : a.src = b.src
  case neg => simp [c_metrolabref20_Before, h1, beforeD]
  by_cases h2 : a.dst = b.dst
  case neg => simp [c_metrolabref20_Before, h1, h2, beforeD]
  by_cases h3 : a.axis = b.axis
  case neg => simp [c_metrolabref20_Before, h1, h2, h3, beforeD]
  by_cases h4 : a.low = b.low
  case neg => simp [c_metrolabref20_Before, h1, h2, h3, h4, beforeD]
  simp [c_metrolabref20_Before, h1, h2, h3, h4, beforeD]
end
end Go.Proofs.YtpfhfokfambdaaaGreatDoor
