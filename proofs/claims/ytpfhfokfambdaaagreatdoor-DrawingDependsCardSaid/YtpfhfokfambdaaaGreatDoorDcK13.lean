/- A part of the proof of a law of this seat: K13; no conditions. -/
import Derived.Test.YtpfhfokfambdaaaGreatDoorDcK12
/-! Contracts: the reference's dimensions, few, same. -/
set_option linter.unusedSimpArgs false
namespace Go.Proofs.YtpfhfokfambdaaaGreatDoor
open Ev
open Go.RowKit (Below)
def fewD (d : Drawing) : Bool := if 100 < d.name.length ∨ (8 < d.features.length ∧ d.features.length ≤ 32) ∨ 64 < d.features.length then false else d.features.all fewFeat && fewDims d.dims
attribute [-simp] ite_self
section
variable {G : World → Prop} (hG : ∀ w w', G w → Below w.heap.size w w' → G w')
include hG
set_option maxRecDepth 8192 in
theorem s_r20_dimensions (d : Drawing) (hd : d.fits) (hf : ∀ f ∈ d.features, featErr f = 0) : Sat G Tryz.prog 52 [.agg d.row] (.i (if 256 < d.dims.length then 5 else dimsErr d 0)) := by
  refine sat_of hG Tryz.func52 k_metrolabref20_dimensions ?_
  by_cases h0 : 256 < d.dims.length
  · have h0' : (256 : Int) < d.dims.length := by omega
    simp [c_metrolabref20_dimensions, h0', h0]
  have h0' : ¬ (256 : Int) < d.dims.length := by omega
  rw [if_neg h0]
  simp [c_metrolabref20_dimensions, eq_false h0', -Int.not_lt, -Int.not_le]
  refine w_loopP (fun k : Nat => ⟨[(1, .at (.loc 1 0)), (3, .n k)], [(1, .var (d.row.map A.d))]⟩) (fun k => k ≤ d.dims.length ∧ dimsErr d 0 = dimsErr d k) (fun k => d.dims.length - k) 0 (by simp) ⟨Nat.zero_le _, rfl⟩ ?_
  rintro k ⟨hk, he⟩
  by_cases hlt : k < d.dims.length
  · rw [dimsErr.eq_def _ k, dif_pos hlt] at he
    have hx := hd.2.2.2.2 _ (List.getElem_mem hlt)
    simp [hlt]
    refine ⟨_, s_r17_Valid hG _ hx.1 hx.2, ?_⟩
    by_cases g1 : dimErr d.dims[k] = 0
    case neg =>
      rw [if_neg g1] at he
      simp [g1, he]
    rw [if_pos g1] at he
    obtain ⟨_, _, a0, a1, _⟩ := dim_ok g1
    have hdist := s_r20_distance hG d d.dims[k].src d.dims[k].dst d.dims[k].axis hd.2.1 hf a0 a1
    by_cases hk0 : 0 < k
    · have hkI : (0 : Int) < k := by omega
      have hw := wrap_pred hk0 (by omega)
      have hk1 : k - 1 < d.dims.length := by omega
      rw [List.getElem?_eq_getElem hk1] at he
      simp only at he
      simp [g1, hkI, hk0, hw, hk1]
      refine ⟨_, s_r20_Before hG _ _, ?_⟩
      cases g2 : beforeD d.dims[k - 1] d.dims[k]
      · rw [if_pos ⟨hk0, g2⟩] at he
        simp [he]
      · rw [if_neg (fun h => by rw [g2] at h; cases h.2)] at he
        simp
        refine ⟨_, hdist, ?_⟩
        generalize distI d _ _ _ = dd at he ⊢
        by_cases g3 : dd.2 = 0
        case neg =>
          rw [if_neg g3] at he
          simp [g3, he]
        rw [if_pos g3] at he
        simp [g3]
        refine ⟨_, s_r17_Has hG _ _ _, ?_⟩
        by_cases g4 : dd.1 < d.dims[k].low
        · rw [if_pos (.inl g4)] at he
          have g4' := Int.not_le.2 g4
          simp [eq_false g4', he, -Int.not_le, -Int.not_lt]
        have g4' := Int.not_lt.1 g4
        by_cases g5 : d.dims[k].high < dd.1
        · rw [if_pos (.inr g5)] at he
          have g5' := Int.not_le.2 g5
          simp [g4', eq_false g5', he, -Int.not_le, -Int.not_lt]
        have g5' := Int.not_lt.1 g5
        rw [if_neg (by omega)] at he
        simp [g4', g5']
        exact ⟨_, wrap_succ hlt (by omega), ⟨hlt, he⟩, by omega⟩
    · rw [if_neg (fun h => hk0 h.1)] at he
      have hk00 : k = 0 := by omega
      subst hk00
      simp [g1]
      refine ⟨_, hdist, ?_⟩
      generalize distI d _ _ _ = dd at he ⊢
      by_cases g3 : dd.2 = 0
      case neg =>
        rw [if_neg g3] at he
        simp [g3, he]
      rw [if_pos g3] at he
      simp [g3]
      refine ⟨_, s_r17_Has hG _ _ _, ?_⟩
      by_cases g4 : dd.1 < d.dims[0].low
      · rw [if_pos (.inl g4)] at he
        have g4' := Int.not_le.2 g4
        simp [eq_false g4', he, -Int.not_le, -Int.not_lt]
      have g4' := Int.not_lt.1 g4
      by_cases g5 : d.dims[0].high < dd.1
      · rw [if_pos (.inr g5)] at he
        have g5' := Int.not_le.2 g5
        simp [g4', eq_false g5', he, -Int.not_le, -Int.not_lt]
      have g5' := Int.not_lt.1 g5
      rw [if_neg (by omega)] at he
      simp [g4', g5']
      exact ⟨_, wrap_succ hlt (by omega), ⟨hlt, he⟩, by omega⟩
  · have : k = d.dims.length := by omega
    subst this
    rw [dimsErr.eq_def _ d.dims.length, dif_neg (by omega)] at he
    simp [he]
set_option maxRecDepth 8192 in
theorem s_r20_Few (d : Drawing) (hd : d.fits) : Sat G Tryz.prog 9 [.agg d.row] (.bool (fewD d)) := by
  refine sat_of hG Tryz.func9 k_metrolabref20_Few ?_
  by_cases h1 : 100 < d.name.length
  · have h1' : (100 : Int) < d.name.length := by omega
    simp [c_metrolabref20_Few, h1', fewD, h1]
  have h1' : ¬ (100 : Int) < d.name.length := by omega
  by_cases h2 : (8 < d.features.length ∧ d.features.length ≤ 32) ∨ 64 < d.features.length
  · have hf : fewD d = false := by unfold fewD; rw [if_pos (.inr h2)]
    by_cases h3 : 8 < d.features.length
    · have h3' : (8 : Int) < d.features.length := by omega
      by_cases h4 : d.features.length ≤ 32
      · have h4' : (d.features.length : Int) ≤ 32 := by omega
        simp [c_metrolabref20_Few, eq_false h1', h3', h4', hf, -Int.not_lt, -Int.not_le]
      · have h4' : ¬ (d.features.length : Int) ≤ 32 := by omega
        have h5' : (64 : Int) < d.features.length := by omega
        simp [c_metrolabref20_Few, eq_false h1', h3', eq_false h4', h5', hf, -Int.not_lt, -Int.not_le]
    · omega
  have hf : fewD d = (d.features.all fewFeat && fewDims d.dims) := by unfold fewD; rw [if_neg (by omega)]
  have hc : (((8 : Int) < d.features.length) ∧ ¬ (d.features.length : Int) ≤ 32 ∧ ¬ (64 : Int) < d.features.length) ∨ (¬ ((8 : Int) < d.features.length) ∧ ¬ (64 : Int) < d.features.length) := by omega
  rcases hc with ⟨g1, g2, g3⟩ | ⟨g1, g3⟩
  all_goals
    first
      | simp [c_metrolabref20_Few, eq_false h1', g1, eq_false g2, eq_false g3, -Int.not_lt, -Int.not_le]
      | simp [c_metrolabref20_Few, eq_false h1', eq_false g1, eq_false g3, -Int.not_lt, -Int.not_le]
    refine w_loopP (fun k : Nat => ⟨[(1, .at (.loc 1 0)), (3, .n k)], [(1, .var (d.row.map A.d))]⟩) (fun k => k ≤ d.features.length ∧ (d.features.take k).all fewFeat = true) (fun k => d.features.length - k) 0 (by simp) ⟨Nat.zero_le _, by simp⟩ ?_
    rintro k ⟨hk, he⟩
    by_cases hlt : k < d.features.length
    · have ht := all_take (p := fewFeat) hlt
      simp [hlt]
      refine ⟨_, s_r18_Few hG _, ?_⟩
      cases q1 : fewFeat d.features[k]
      · simp
        rw [hf, all_false hlt q1]; rfl
      · simp
        exact ⟨k + 1, wrap_succ hlt (by omega), ⟨hlt, by simpa [he, q1] using ht⟩, by omega⟩
    · have : k = d.features.length := by omega
      subst this
      rw [List.take_length] at he
      simp
      refine ⟨_, s_r17_Few hG _ hd.2.2.2.1, ?_⟩
      simp [hf, he]
end
end Go.Proofs.YtpfhfokfambdaaaGreatDoor
