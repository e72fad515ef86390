/- A part of the proof of a law of this seat: K22; no conditions. -/
import Derived.Test.YtpfhfokfambdaaaGreatDoorDcK21
/-! The law DrawingDepends, on data. -/
set_option linter.unusedVariables false
set_option linter.unusedSimpArgs false
namespace Go.Proofs.YtpfhfokfambdaaaGreatDoor
open Ev
open Go.RowKit (Below)
theorem Reach.trans {d : Drawing} {s t x : Str} (h : Reach d s t) (hx : Reach d t x) : Reach d s x := by
  induction hx with
  | base h1 => exact .step h h1
  | step _ h1 ih => exact .step ih h1
theorem Reach.named {d : Drawing} {s x : Str} (h : Reach d s x) : ∃ t, x ∈ namedAt d t := by
  cases h with
  | base h => exact ⟨_, h⟩
  | step _ h => exact ⟨_, h⟩
theorem asc_sorted {l : List Str} (h : asc l) : sortedS l := fun i hi => less_asymm (List.pairwise_iff_getElem.1 h i (i + 1) (by omega) hi (by omega))
theorem mem_used {d : Drawing} {s x : Str} (h : x ∈ namedAt d s) : x ∈ usedR d := by
  unfold usedR
  rw [mem_puts _ List.Pairwise.nil]
  right
  unfold namedAt at h
  split at h
  · rename_i f hf
    exact List.mem_flatMap.2 ⟨f, List.mem_of_getElem? hf, (mem_namedR f x).2 h⟩
  · cases h
theorem no_self {d : Drawing} (h : conflictErr d = 0) {f : Feature} (hf : f ∈ d.features) : f.name ∉ needsR d f.name := by
  unfold conflictErr at h
  split at h
  · cases h
  · rename_i h1
    intro hm
    exact h1 (List.any_eq_true.2 ⟨f, hf, decide_eq_true hm⟩)
attribute [-simp] ite_self Prod.exists
section
variable {G : World → Prop} (hG : ∀ w w', G w → Below w.heap.size w w' → G w')
include hG
theorem s_law_right (d : Drawing) (hd : d.fits) : Sat G Tryz.prog 20 [.agg d.row] (.bool (fewD d && decide (checkErr d = 0))) := by
  refine sat_of hG Tryz.func20 k_metrolablaw20_right ?_
  simp [c_metrolablaw20_right]
  refine ⟨_, s_r20_Few hG d hd, ?_⟩
  cases hf : fewD d
  · simp
  simp
  refine ⟨_, s_r20_Check hG d hd, ?_⟩
  by_cases h1 : checkErr d = 0
  · simp [h1]
  · simp [h1]
set_option maxRecDepth 8192 in
set_option maxHeartbeats 4000000 in
theorem s_law_Depends (d : Drawing) (hd : d.fits) (haw : Sat G Tryz.prog 10 [] (.bool true)) : Sat G Tryz.prog 5 [.agg d.row] (.bool true) := by
  refine sat_of hG Tryz.func5 k_metrolablaw20_DrawingDepends ?_
  simp [c_metrolablaw20_DrawingDepends]
  refine ⟨_, s_law_right hG d hd, ?_⟩
  cases hf : fewD d && decide (checkErr d = 0)
  · simp
    exact ⟨_, haw, by simp⟩
  simp only [Bool.and_eq_true, decide_eq_true_eq] at hf
  obtain ⟨_, h1⟩ := hf
  obtain ⟨f1, _, f3, f4, _⟩ := features_ok (check_ok h1).2.1
  have hcf := (check_ok h1).2.2.1
  have hul := used_len f4
  have hnl : ∀ s, (needsR d s).length ≤ d.features.length := fun s => (iter_good f4 (featN_good f4 s) d.features.length).len
  have hna : ∀ s, asc (needsR d s) := fun s => (iter_good f4 (featN_good f4 s) d.features.length).1
  have hnp : ∀ s, ∀ x ∈ needsR d s, 0 ≤ place d x := fun s => (iter_good f4 (featN_good f4 s) d.features.length).2
  have hde : ∀ s, 0 ≤ place d s → depErr d s = 0 := fun s hs => by
    unfold depErr
    rw [if_pos h1, if_neg (by omega)]
  simp
  refine ⟨_, s_draw_Datums hG d hd, ?_⟩
  simp [h1]
  refine w_loopP (fun k : Nat => ⟨[(1, .at (.loc 1 0)), (3, .sl ((usedR d).map fun s => [D.str s])), (27, .sl (d.features.map Feature.row)), (28, .n d.features.length), (29, .n k)], [(1, .var (d.row.map A.d))]⟩) (fun k => k ≤ d.features.length) (fun k => d.features.length - k) 0 (by simp) (Nat.zero_le _) ?_
  intro k hk
  by_cases hlt : k < d.features.length
  case neg =>
    have : k = d.features.length := by omega
    subst this
    simp
    exact ⟨_, haw, by simp⟩
  have hfm := List.getElem_mem hlt
  have hns := no_self hcf hfm
  have hps := place_self (d := d) hfm
  have hnl0 := hnl d.features[k].name
  simp [hlt]
  refine ⟨_, s_draw_Depends hG d d.features[k].name hd, ?_⟩
  simp [hde _ hps]
  refine ⟨_, s_containsS hG _ _ (by omega), ?_⟩
  simp [hns]
  refine ⟨_, s_isSorted hG _ (by omega), ?_⟩
  simp [asc_sorted (hna d.features[k].name)]
  refine w_loopP (fun i : Nat => ⟨[(1, .at (.loc 1 0)), (3, .sl ((usedR d).map fun s => [D.str s])), (7, .sl ((needsR d d.features[k].name).map fun s => [D.str s])), (27, .sl (d.features.map Feature.row)), (28, .n d.features.length), (29, .n k), (53, .sl ((needsR d d.features[k].name).map fun s => [D.str s])), (54, .n (needsR d d.features[k].name).length), (55, .n i)], [(1, .var (d.row.map A.d))]⟩)
    (fun i => i ≤ (needsR d d.features[k].name).length) (fun i => (needsR d d.features[k].name).length - i) 0 (by simp) (Nat.zero_le _) ?_
  intro i hi
  by_cases hil : i < (needsR d d.features[k].name).length
  case neg =>
    have : i = (needsR d d.features[k].name).length := by omega
    subst this
    simp
    exact ⟨k + 1, wrap_succ hlt (by omega), hlt, by omega⟩
  have hm := List.getElem_mem hil
  have hr := (mem_needsR f4 _ _).1 hm
  have hu : (needsR d d.features[k].name)[i] ∈ usedR d := by
    obtain ⟨t, ht⟩ := hr.named
    exact mem_used ht
  have hpp := hnp _ _ hm
  have hsub : ∀ x ∈ needsR d (needsR d d.features[k].name)[i], x ∈ needsR d d.features[k].name := fun x hx => (mem_needsR f4 _ _).2 (hr.trans ((mem_needsR f4 _ _).1 hx))
  have hnl1 := hnl (needsR d d.features[k].name)[i]
  simp [hil]
  refine ⟨_, s_draw_Depends hG d (needsR d d.features[k].name)[i] hd, ?_⟩
  simp [hde _ hpp]
  refine ⟨_, s_containsS hG _ _ (by omega), ?_⟩
  simp [hu]
  refine w_loopP (fun j : Nat => ⟨[(1, .at (.loc 1 0)), (3, .sl ((usedR d).map fun s => [D.str s])), (7, .sl ((needsR d d.features[k].name).map fun s => [D.str s])), (27, .sl (d.features.map Feature.row)), (28, .n d.features.length), (29, .n k), (53, .sl ((needsR d d.features[k].name).map fun s => [D.str s])), (54, .n (needsR d d.features[k].name).length), (55, .n i),
      (73, .sl ((needsR d (needsR d d.features[k].name)[i]).map fun s => [D.str s])), (74, .n (needsR d (needsR d d.features[k].name)[i]).length), (75, .n j)], [(1, .var (d.row.map A.d))]⟩)
    (fun j => j ≤ (needsR d (needsR d d.features[k].name)[i]).length) (fun j => (needsR d (needsR d d.features[k].name)[i]).length - j) 0 (by simp) (Nat.zero_le _) ?_
  intro j hj
  by_cases hjl : j < (needsR d (needsR d d.features[k].name)[i]).length
  case neg =>
    have : j = (needsR d (needsR d d.features[k].name)[i]).length := by omega
    subst this
    simp
    exact ⟨i + 1, wrap_succ hil (by omega), hil, by omega⟩
  have hx := hsub _ (List.getElem_mem hjl)
  simp [hjl]
  refine ⟨_, s_containsS hG _ _ (by omega), ?_⟩
  simp [hx]
  exact ⟨j + 1, wrap_succ hjl (by omega), hjl, by omega⟩
end
end Go.Proofs.YtpfhfokfambdaaaGreatDoor
