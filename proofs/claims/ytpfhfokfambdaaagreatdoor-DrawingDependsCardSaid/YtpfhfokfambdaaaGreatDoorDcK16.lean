/- A part of the proof of a law of this seat: K16; no conditions. -/
import Derived.Test.YtpfhfokfambdaaaGreatDoorDcK15
/-! Contracts: the reference's used and needed names. -/
set_option linter.unusedSimpArgs false
namespace Go.Proofs.YtpfhfokfambdaaaGreatDoor
open Ev
open Go.RowKit (Below)
attribute [-simp] ite_self Prod.exists
section
variable {G : World → Prop} (hG : ∀ w w', G w → Below w.heap.size w w' → G w')
include hG
set_option maxRecDepth 8192 in
theorem s_r20_Needs (d : Drawing) (s : Str) (hd : d.fits) (hn : d.features.length ≤ 1000) (hl : ∀ f ∈ d.features, (namedL f).length ≤ 100000) (hc : d.closed) (hs : 0 ≤ place d s) : Sat G Tryz.prog 51 [.agg d.row, .str s] (strs (needsR d s)) := by
  refine sat_of hG Tryz.func51 k_metrolabref20_Needs ?_
  have hfl := hd.2.1
  have feat : ∀ x, 0 ≤ place d x → ∃ (k : Nat) (hk : k < d.features.length), place d x = k ∧ featN d x = namedR d.features[k] := by
    intro x hx
    obtain ⟨k, hk, h1, _⟩ := place_mem hx
    exact ⟨k, hk, h1, by simp [featN, h1, hk]⟩
  have hrf : ∀ (k : Nat) (hk : k < d.features.length), (namedR d.features[k]).length ≤ 100000 := by
    intro k hk
    have := puts_length (namedL d.features[k]) []
    have h2 := hl _ (List.getElem_mem hk)
    simp only [namedR]
    simp at this
    omega
  simp [c_metrolabref20_Needs]
  refine ⟨_, s_r20_Index hG d s hfl, ?_⟩
  obtain ⟨q, hq, hp, hfn⟩ := feat s hs
  simp [hp, hq]
  refine ⟨_, s_r19_Named hG _ (hd.2.2.1 _ (List.getElem_mem hq)) (by have := hl _ (List.getElem_mem hq); omega), ?_⟩
  simp
  refine w_loopP (fun p : Nat × List Str => ⟨[(2, .at (.loc 2 0)), (5, .sl (p.2.map fun s => [D.str s])), (6, .n p.1)], [(2, .var (d.row.map A.d))]⟩) (fun p => p.1 ≤ d.features.length ∧ p.2 = iterN (roundR d) p.1 (featN d s)) (fun p => d.features.length - p.1) (0, namedR d.features[q]) (by simp) ⟨Nat.zero_le _, by simp [iterN, hfn]⟩ ?_
  rintro ⟨r, R⟩ ⟨hr, hR⟩
  simp only at hr hR
  have hgR : goodR d R := by rw [hR]; exact iter_good hc (featN_good hc s) r
  have hRl := hgR.len
  by_cases hlt : r < d.features.length
  · simp [hlt]
    refine w_loopP (fun p : Nat × List Str => ⟨[(2, .at (.loc 2 0)), (5, .sl (p.2.map fun s => [D.str s])), (6, .n r), (7, .sl (R.map fun s => [D.str s])), (8, .n p.1)], [(2, .var (d.row.map A.d))]⟩) (fun p => p.1 ≤ R.length ∧ p.2 = (R.take p.1).foldl (fun out x => (featN d x).foldl putS out) R) (fun p => R.length - p.1) (0, R) (by simp) ⟨Nat.zero_le _, by simp⟩ ?_
    rintro ⟨i, out⟩ ⟨hi, ho⟩
    simp only at hi ho
    have hgo : goodR d out := by rw [ho]; exact fold_good hc _ hgR
    have hol := hgo.len
    by_cases hil : i < R.length
    · have hti := List.take_succ_eq_append_getElem hil
      obtain ⟨m, hm, hpm, hfm⟩ := feat R[i] (hgR.2 _ (List.getElem_mem hil))
      simp [hil]
      refine ⟨_, s_r20_Index hG d _ hfl, ?_⟩
      simp [hpm, hm]
      refine ⟨_, s_r19_Named hG _ (hd.2.2.1 _ (List.getElem_mem hm)) (by have := hl _ (List.getElem_mem hm); omega), ?_⟩
      simp
      have hml := hrf m hm
      refine w_loopP (fun p : Nat × List Str => ⟨[(2, .at (.loc 2 0)), (5, .sl (p.2.map fun s => [D.str s])), (6, .n r), (7, .sl (R.map fun s => [D.str s])), (8, .n i), (9, .sl ((namedR d.features[m]).map fun s => [D.str s])), (10, .n p.1)], [(2, .var (d.row.map A.d))]⟩) (fun p => p.1 ≤ (namedR d.features[m]).length ∧ p.2 = ((namedR d.features[m]).take p.1).foldl putS out) (fun p => (namedR d.features[m]).length - p.1) (0, out) (by simp) ⟨Nat.zero_le _, by simp⟩ ?_
      rintro ⟨j, o2⟩ ⟨hj, ho2⟩
      simp only at hj ho2
      have hol2 : o2.length ≤ out.length + j := by
        have := puts_length ((namedR d.features[m]).take j) out
        rw [← ho2, List.length_take] at this
        omega
      by_cases hjl : j < (namedR d.features[m]).length
      · have htj := List.take_succ_eq_append_getElem hjl
        simp [hjl]
        refine ⟨_, s_r19_Put hG o2 _ (by omega), ?_⟩
        simp
        refine ⟨(j + 1, putS o2 (namedR d.features[m])[j]), by simp [wrap_succ hjl (by omega)], ⟨hjl, ?_⟩, show _ - (j + 1) < _ by omega⟩
        show putS o2 (namedR d.features[m])[j] = _
        rw [htj, List.foldl_append, ← ho2]
        simp
      · have : j = (namedR d.features[m]).length := by omega
        subst this
        rw [List.take_length] at ho2
        simp
        refine ⟨(i + 1, o2), by simp [wrap_succ hil (by omega)], ⟨hil, ?_⟩, show _ - (i + 1) < _ by omega⟩
        show o2 = _
        rw [hti, List.foldl_append, ← ho, ho2, ← hfm]
        simp
    · have : i = R.length := by omega
      subst this
      rw [List.take_length] at ho
      simp
      refine ⟨(r + 1, out), by simp [wrap_succ hlt hfl], ⟨hlt, ?_⟩, show _ - (r + 1) < _ by omega⟩
      show out = roundR d (iterN (roundR d) r (featN d s))
      rw [← hR, ho]
      rfl
  · have : r = d.features.length := by omega
    subst this
    simp
    rw [hR]
    rfl
end
end Go.Proofs.YtpfhfokfambdaaaGreatDoor
