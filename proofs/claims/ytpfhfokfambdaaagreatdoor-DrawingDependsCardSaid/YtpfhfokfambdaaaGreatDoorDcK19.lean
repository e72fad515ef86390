/- A part of the proof of a law of this seat: K19; no conditions. -/
import Derived.Test.YtpfhfokfambdaaaGreatDoorDcK16
/-! Contracts: the reference's check of drawings. -/
set_option linter.unusedSimpArgs false
namespace Go.Proofs.YtpfhfokfambdaaaGreatDoor
open Ev
open Go.RowKit (Below)
def conflictErr (d : Drawing) : Int := if d.features.any (fun f => decide (f.name ∈ needsR d f.name)) then 16 else 0
def checkErr (d : Drawing) : Int :=
  if nameErr d.name = 0 then if featuresErr d = 0 then if conflictErr d = 0 then if 256 < d.dims.length then 5 else dimsErr d 0 else conflictErr d else featuresErr d else nameErr d.name
theorem feats_ok {fs : List Feature} : ∀ {n k : Nat}, fs.length - k = n → featsErr fs k = 0 → ∀ (j : Nat) (h : j < fs.length), k ≤ j → allErr fs[j] = 0 ∧ (0 < j → leS fs[j].name (nameAt fs (j - 1)) = false)
  | 0, k, hn, _, j, h, hk => by omega
  | n + 1, k, hn, he, j, h, hk => by
    have hlt : k < fs.length := by omega
    rw [featsErr, dif_pos hlt] at he
    split at he
    · rename_i h1
      split at he
      · cases he
      · rename_i h2
        rcases Nat.lt_or_ge k j with hj | hj
        · exact feats_ok (n := n) (by omega) he j h (by omega)
        · have : j = k := by omega
          subst this
          refine ⟨h1, fun hp => ?_⟩
          cases hl : leS fs[j].name (nameAt fs (j - 1)) with
          | false => rfl
          | true => exact absurd ⟨hp, hl⟩ h2
    · rename_i h1; exact absurd he h1
theorem frs_ok {f : Feature} : ∀ {l pre : List Frame}, frsErr f pre l = 0 → ∀ x ∈ l, frameErr f x = 0
  | [], _, _, x, hx => by cases hx
  | y :: r, pre, h, x, hx => by
    rw [frsErr] at h
    split at h
    · rename_i h1
      split at h
      · cases h
      · rcases List.mem_cons.1 hx with rfl | hx
        · exact h1
        · exact frs_ok h x hx
    · rename_i h1; exact absurd h h1
theorem all_ok {f : Feature} (h : allErr f = 0) : featErr f = 0 ∧ f.frames.length ≤ 8 ∧ ∀ x ∈ f.frames, frameErr f x = 0 := by
  unfold allErr at h
  split at h
  · rename_i h1
    split at h
    · cases h
    · exact ⟨h1, by omega, frs_ok h⟩
  · rename_i h1; exact absurd h h1
theorem named_len {f : Feature} (h : allErr f = 0) : (namedL f).length ≤ 24 := by
  obtain ⟨_, h2, h3⟩ := all_ok h
  have key : ∀ l : List Frame, (∀ x ∈ l, x.datums.length ≤ 3) → (l.flatMap fun x => x.datums).length ≤ 3 * l.length := by
    intro l
    induction l with
    | nil => intro _; simp
    | cons x r ih =>
      intro hx
      have h1 := ih fun y hy => hx y (List.mem_cons_of_mem _ hy)
      have h2 := hx x List.mem_cons_self
      simp only [List.flatMap_cons, List.length_append, List.length_cons]
      omega
  have := key f.frames fun x hx => (plain_ok (frame_ok (h3 x hx)).2).2.2.2.2.2.1
  simp only [namedL, List.length_map]
  omega
theorem first_ok : ∀ {l : List Int}, firstI l = 0 → ∀ e ∈ l, e = 0
  | [], _, e, h => by cases h
  | a :: r, h, e, he => by
    rw [firstI_cons] at h
    split at h
    · rename_i h1
      rcases List.mem_cons.1 he with rfl | he
      · exact h1
      · exact first_ok h e he
    · rename_i h1; exact absurd h h1
theorem mem_namedL {d : Drawing} {f : Feature} (hf : f ∈ d.features) {s : Str} (h : s ∈ namedL f) : ∃ y ∈ allDatums d.features, y.name = s := by
  obtain ⟨y, hy, e⟩ := List.mem_map.1 h
  exact ⟨y, List.mem_flatMap.2 ⟨f, hf, hy⟩, e⟩
theorem features_ok {d : Drawing} (h : featuresErr d = 0) : d.features.length ≤ 32 ∧ featsErr d.features 0 = 0 ∧ (∀ f ∈ d.features, allErr f = 0) ∧ d.closed ∧ ∀ y ∈ allDatums d.features, datumErr d y = 0 := by
  unfold featuresErr at h
  split at h
  · cases h
  · split at h
    · rename_i h1 h2
      have hdt : ∀ y ∈ allDatums d.features, datumErr d y = 0 := fun y hy => first_ok h _ (List.mem_map.2 ⟨y, hy, rfl⟩)
      refine ⟨by omega, h2, fun f hf => ?_, fun f hf s hs => ?_, hdt⟩
      · obtain ⟨j, hj, rfl⟩ := List.mem_iff_getElem.1 hf
        exact (feats_ok rfl h2 j hj (Nat.zero_le _)).1
      · obtain ⟨y, hy, rfl⟩ := mem_namedL hf hs
        have := hdt y hy
        unfold datumErr at this
        split at this
        · cases this
        · omega
    · rename_i h2; exact absurd h h2
theorem place_self {d : Drawing} {f : Feature} (h : f ∈ d.features) : 0 ≤ place d f.name := by
  rcases idxI_range (fun g : Feature => decide (g.name = f.name)) d.features with ⟨_, h2⟩ | ⟨k, _, h1, _, _⟩
  · rw [List.any_eq_false] at h2
    exact absurd (decide_eq_true rfl) (h2 f h)
  · show 0 ≤ idxI _ _
    rw [h1]
    omega
attribute [-simp] ite_self Prod.exists
section
variable {G : World → Prop} (hG : ∀ w w', G w → Below w.heap.size w w' → G w')
include hG
set_option maxRecDepth 8192 in
set_option maxHeartbeats 4000000 in
theorem s_r20_Check (d : Drawing) (hd : d.fits) : Sat G Tryz.prog 14 [.agg d.row] (.i (checkErr d)) := by
  refine sat_of hG Tryz.func14 k_metrolabref20_Check ?_
  simp [c_metrolabref20_Check]
  refine ⟨_, s_r17_Name hG d.name hd.1, ?_⟩
  by_cases h1 : nameErr d.name = 0
  case neg => simp [h1, checkErr]
  simp [h1]
  refine ⟨_, s_r20_features hG d hd, ?_⟩
  by_cases h2 : (if 32 < d.features.length then (5 : Int) else featsErr d.features 0) = 0
  case neg =>
    have : featuresErr d = if 32 < d.features.length then 5 else featsErr d.features 0 := by
      unfold featuresErr
      by_cases h3 : 32 < d.features.length
      · simp [h3]
      · simp [h3] at h2 ⊢
        simp [h2]
    simp [h2, checkErr, h1, this]
  have hle : ¬ 32 < d.features.length := by
    intro h; rw [if_pos h] at h2; cases h2
  have hfe : featuresErr d = firstI ((allDatums d.features).map (datumErr d)) := by
    unfold featuresErr
    rw [if_neg hle] at h2 ⊢
    rw [if_pos h2]
  simp [h2]
  refine ⟨_, s_r20_datums hG d hd, ?_⟩
  rw [← hfe]
  by_cases h3 : featuresErr d = 0
  case neg => simp [h3, checkErr, h1]
  simp [h3]
  obtain ⟨f1, _, f3, f4, _⟩ := features_ok h3
  refine w_loopP (fun k : Nat => ⟨[(1, .at (.loc 1 0)), (6, .n k)], [(1, .var (d.row.map A.d))]⟩) (fun k => k ≤ d.features.length ∧ (d.features.take k).any (fun f => decide (f.name ∈ needsR d f.name)) = false) (fun k => d.features.length - k) 0 (by simp) ⟨Nat.zero_le _, by simp⟩ ?_
  rintro k ⟨hk, he⟩
  by_cases hlt : k < d.features.length
  · have ht := any_take (p := fun f : Feature => decide (f.name ∈ needsR d f.name)) hlt
    have hp := place_self (d := d) (List.getElem_mem hlt)
    simp [hlt]
    refine ⟨_, s_r20_Needs hG d _ hd (by omega) (fun f hf => by have := named_len (f3 f hf); omega) f4 hp, ?_⟩
    simp [hlt]
    have hnl : (needsR d d.features[k].name).length ≤ d.features.length := (iter_good f4 (featN_good f4 _) _).len
    refine ⟨_, s_r20_Has hG _ _ (by omega), ?_⟩
    by_cases hm : d.features[k].name ∈ needsR d d.features[k].name
    · have : conflictErr d = 16 := by
        unfold conflictErr
        rw [if_pos (List.any_eq_true.2 ⟨_, List.getElem_mem hlt, decide_eq_true hm⟩)]
      simp [hm, checkErr, h1, h3, this]
    · simp [hm]
      refine ⟨k + 1, wrap_succ hlt (by omega), ⟨hlt, ?_⟩, by omega⟩
      rw [he, decide_eq_false hm] at ht
      simpa using ht
  · have : k = d.features.length := by omega
    subst this
    rw [List.take_length] at he
    have hcf : conflictErr d = 0 := by
      unfold conflictErr
      rw [he]; rfl
    simp
    refine ⟨_, s_r20_dimensions hG d hd (fun f hf => (all_ok (f3 f hf)).1), ?_⟩
    simp [checkErr, h1, h3, hcf]
end
end Go.Proofs.YtpfhfokfambdaaaGreatDoor
