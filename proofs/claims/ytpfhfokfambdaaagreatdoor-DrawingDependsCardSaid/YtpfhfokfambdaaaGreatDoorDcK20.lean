/- A part of the proof of a law of this seat: K20; no conditions. -/
import Derived.Test.YtpfhfokfambdaaaGreatDoorDcK18
import Derived.Test.YtpfhfokfambdaaaGreatDoorDcK19
import Derived.Test.YtpfhfokfambdaaaGreatDoorDcPub
/-! Contracts: the check of drawings; datums, what depends, nominal distances. -/
set_option linter.unusedVariables false
set_option linter.unusedSimpArgs false
namespace Go.Proofs.YtpfhfokfambdaaaGreatDoor
open Ev
open Go.RowKit (Below)
theorem check_ok {d : Drawing} (h : checkErr d = 0) : nameErr d.name = 0 ∧ featuresErr d = 0 ∧ conflictErr d = 0 ∧ d.dims.length ≤ 256 ∧ dimsErr d 0 = 0 := by
  unfold checkErr at h
  split at h
  · rename_i h1
    split at h
    · rename_i h2
      split at h
      · rename_i h3
        split at h
        · cases h
        · exact ⟨h1, h2, h3, by omega, h⟩
      · rename_i h3; exact absurd h h3
    · rename_i h2; exact absurd h h2
  · rename_i h1; exact absurd h h1
theorem used_len {d : Drawing} (hc : d.closed) : (usedR d).length ≤ d.features.length :=
  goodR.len ⟨asc_usedR d, fun x hx => by
    unfold usedR at hx
    rw [mem_puts _ List.Pairwise.nil] at hx
    rcases hx with hx | hx
    · cases hx
    · obtain ⟨f, hf, hx⟩ := List.mem_flatMap.1 hx
      exact hc f hf x ((mem_namedR f x).1 hx)⟩
attribute [-simp] ite_self Prod.exists
section
variable {G : World → Prop} (hG : ∀ w w', G w → Below w.heap.size w w' → G w')
include hG
set_option maxRecDepth 8192 in
set_option maxHeartbeats 4000000 in
theorem s_draw_Check (d : Drawing) (hd : d.fits) : Sat G Tryz.prog 13 [.agg d.row] (.i (checkErr d)) := by
  refine sat_of hG Tryz.func13 k_drawing_Check ?_
  simp [c_drawing_Check]
  refine ⟨_, s_dim_Name hG d.name, ?_⟩
  by_cases h1 : nameErr d.name = 0
  case neg => simp [h1, checkErr]
  simp [h1]
  refine ⟨_, s_draw_features hG d hd, ?_⟩
  by_cases h3 : featuresErr d = 0
  case neg => simp [h3, checkErr, h1]
  simp [h3]
  obtain ⟨f1, _, f3, f4, _⟩ := features_ok h3
  refine w_loopP (fun k : Nat => ⟨[(1, .at (.loc 1 0)), (19, .sl (d.features.map Feature.row)), (20, .n d.features.length), (21, .n k)], [(1, .var (d.row.map A.d))]⟩) (fun k => k ≤ d.features.length ∧ (d.features.take k).any (fun f => decide (f.name ∈ needsR d f.name)) = false) (fun k => d.features.length - k) 0 (by simp) ⟨Nat.zero_le _, by simp⟩ ?_
  rintro k ⟨hk, he⟩
  by_cases hlt : k < d.features.length
  · have ht := any_take (p := fun f : Feature => decide (f.name ∈ needsR d f.name)) hlt
    have hp := place_self (d := d) (List.getElem_mem hlt)
    simp [hlt]
    refine ⟨_, s_draw_needs hG d _ hd (by omega) (fun f hf => by have := named_len (f3 f hf); omega) f4 hp, ?_⟩
    simp [hlt]
    have hnl : (needsR d d.features[k].name).length ≤ d.features.length := (iter_good f4 (featN_good f4 _) _).len
    refine ⟨_, s_containsS hG _ _ (by omega), ?_⟩
    by_cases hm : d.features[k].name ∈ needsR d d.features[k].name
    · have : conflictErr d = 16 := by
        unfold conflictErr
        rw [if_pos (List.any_eq_true.2 ⟨_, List.getElem_mem hlt, decide_eq_true hm⟩)]
      simp [hm, checkErr, h1, h3, this]
    · simp [hm]
      refine ⟨k + 1, wrap_succ hlt (by omega), ⟨hlt, ?_⟩, by omega⟩
      rw [he, decide_eq_false hm] at ht
      simpa using ht
  · have : k = d.features.length := by omega
    subst this
    rw [List.take_length] at he
    have hcf : conflictErr d = 0 := by
      unfold conflictErr
      rw [he]; rfl
    simp
    refine ⟨_, s_draw_dimensions hG d hd (fun f hf => (all_ok (f3 f hf)).1), ?_⟩
    simp [checkErr, h1, h3, hcf]
/-- Its datums, where it is right. -/
theorem s_draw_Datums (d : Drawing) (hd : d.fits) : Sat G Tryz.prog 11 [.agg d.row] (.tup [strs (if checkErr d = 0 then usedR d else []), .i (checkErr d)]) := by
  refine sat_of hG Tryz.func11 k_drawing_Datums ?_
  simp [c_drawing_Datums]
  refine ⟨_, s_draw_Check hG d hd, ?_⟩
  by_cases h1 : checkErr d = 0
  case neg => simp [h1]
  obtain ⟨f1, _, f3, f4, _⟩ := features_ok (check_ok h1).2.1
  simp [h1]
  refine ⟨_, s_draw_used hG d hd (by omega) (fun f hf => by have := named_len (f3 f hf); omega), ?_⟩
  simp
/-- What a feature depends on. -/
def depErr (d : Drawing) (s : Str) : Int := if checkErr d = 0 then if place d s < 0 then 6 else 0 else checkErr d
theorem s_draw_Depends (d : Drawing) (s : Str) (hd : d.fits) : Sat G Tryz.prog 21 [.agg d.row, .str s] (.tup [strs (if depErr d s = 0 then needsR d s else []), .i (depErr d s)]) := by
  refine sat_of hG Tryz.func21 k_drawing_Depends ?_
  simp [c_drawing_Depends]
  refine ⟨_, s_draw_Check hG d hd, ?_⟩
  by_cases h1 : checkErr d = 0
  case neg => simp [h1, depErr]
  obtain ⟨f1, _, f3, f4, _⟩ := features_ok (check_ok h1).2.1
  simp [h1]
  refine ⟨_, s_draw_index hG d s hd.2.1, ?_⟩
  by_cases h2 : place d s < 0
  case pos => simp [h2, depErr, h1]
  simp [h2]
  refine ⟨_, s_draw_needs hG d s hd (by omega) (fun f hf => by have := named_len (f3 f hf); omega) f4 (by omega), ?_⟩
  simp [depErr, h1, h2]
theorem s_r20_Depends (d : Drawing) (s : Str) (hd : d.fits) : Sat G Tryz.prog 32 [.agg d.row, .str s] (.tup [strs (if depErr d s = 0 then needsR d s else []), .i (depErr d s)]) := by
  refine sat_of hG Tryz.func32 k_metrolabref20_Depends ?_
  simp [c_metrolabref20_Depends]
  refine ⟨_, s_r20_Check hG d hd, ?_⟩
  by_cases h1 : checkErr d = 0
  case neg => simp [h1, depErr]
  obtain ⟨f1, _, f3, f4, _⟩ := features_ok (check_ok h1).2.1
  simp [h1]
  refine ⟨_, s_r20_Index hG d s hd.2.1, ?_⟩
  by_cases h2 : place d s < 0
  case pos => simp [h2, depErr, h1]
  simp [h2]
  refine ⟨_, s_r20_Needs hG d s hd (by omega) (fun f hf => by have := named_len (f3 f hf); omega) f4 (by omega), ?_⟩
  simp [depErr, h1, h2]
end
end Go.Proofs.YtpfhfokfambdaaaGreatDoor
