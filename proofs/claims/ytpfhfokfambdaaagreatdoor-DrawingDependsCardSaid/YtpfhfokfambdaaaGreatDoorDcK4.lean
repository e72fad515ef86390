/- A part of the proof of a law of this seat: K4; no conditions. -/
import Derived.Test.YtpfhfokfambdaaaGreatDoorDcK3
/-! Contracts: how far features reach. -/
set_option linter.unusedSimpArgs false
namespace Go.Proofs.YtpfhfokfambdaaaGreatDoor
open Ev
open Go.RowKit (Below)

def alongErr (f : Feature) (n : Int) : Int := if featErr f = 0 then (if n < 0 ∨ 3 ≤ n then 1 else 0) else featErr f
def coordI (f : Feature) (n : Int) : Int := if n = 0 then f.x else if n = 1 then f.y else f.z
def reachI (f : Feature) (n : Int) : Int × Int × Int :=
  if alongErr f n = 0 then
    if boundedI f.kind f.axis n then
      if inCoord (coordI f n - (f.high + 1).tdiv 2) && inCoord (coordI f n + (f.high + 1).tdiv 2) then (coordI f n - (f.high + 1).tdiv 2, coordI f n + (f.high + 1).tdiv 2, 0) else (0, 0, 2)
    else (0, 0, 14)
  else (0, 0, alongErr f n)
theorem inCoord_iff {n : Int} : inCoord n = true ↔ -100000 ≤ n ∧ n ≤ 100000 := by simp [inCoord]
/-- What a right feature is like. -/
theorem feat_ok {f : Feature} (h : featErr f = 0) : nameErr f.name = 0 ∧ 0 ≤ f.kind ∧ f.kind < 5 ∧ 0 ≤ f.axis ∧ f.axis < 3 ∧ (f.kind = 4 → f.axis = 0) ∧ inCoord f.x = true ∧ inCoord f.y = true ∧ inCoord f.z = true ∧ sizeErr f = 0 := by
  unfold featErr at h
  split at h
  · rename_i h1
    split at h
    · cases h
    · rename_i h2
      split at h
      · cases h
      · rename_i h3
        split at h
        · rename_i h4
          simp only [Bool.and_eq_true] at h4
          refine ⟨h1, by omega, by omega, by omega, by omega, fun e => ?_, h4.1.1, h4.1.2, h4.2, h⟩
          by_cases e' : f.axis = 0
          · exact e'
          · exact absurd ⟨e, e'⟩ h3
        · cases h
  · rename_i h1
    exact absurd h h1
theorem size_ok {f : Feature} (h : sizeErr f = 0) : (f.kind = 0 ∧ f.low = 0 ∧ f.high = 0) ∨ (¬ f.kind = 0 ∧ 1 ≤ f.low ∧ f.low ≤ f.high ∧ f.high ≤ 100000) := by
  unfold sizeErr at h
  split at h
  · rename_i hk
    split at h
    · rename_i h2; exact .inl ⟨hk, h2⟩
    · cases h
  · rename_i hk
    split at h
    · rename_i h1
      split at h
      · cases h
      · rename_i h2
        unfold limErr at h1
        split at h1
        · cases h1
        · rename_i h3
          split at h1
          · cases h1
          · simp only [Bool.or_eq_true, Bool.not_eq_true', not_or, Bool.not_eq_false] at h3
            have := inCoord_iff.1 h3.2
            exact .inr ⟨hk, by omega, by omega, by omega⟩
    · rename_i h1; exact absurd h h1

attribute [-simp] ite_self
section
variable {G : World → Prop} (hG : ∀ w w', G w → Below w.heap.size w w' → G w')
include hG
theorem s_feat_along (f : Feature) (n : Int) : Sat G Tryz.prog 184 [.agg f.row, .i n] (.i (alongErr f n)) := by
  refine sat_of hG Tryz.func184 k_feature_along ?_
  simp [c_feature_along]
  refine ⟨_, s_feat_Check hG _, ?_⟩
  by_cases e : featErr f = 0
  · by_cases h1 : n < 0
    · simp [e, alongErr, h1]
    · have h1' := Int.not_lt.1 h1
      by_cases h2 : 3 ≤ n <;> simp [e, alongErr, eq_false h1, h1', h2]
  · simp [e, alongErr]
theorem s_feat_reach (f : Feature) (n : Int) (h : featErr f = 0) (n0 : 0 ≤ n) (n1 : n < 3) : Sat G Tryz.prog 186 [.agg f.row, .i n] (.agg [.i (coordI f n - (f.high + 1).tdiv 2), .i (coordI f n + (f.high + 1).tdiv 2)]) := by
  refine sat_of hG Tryz.func186 k_feature_reach ?_
  obtain ⟨_, _, _, _, _, _, g1, g2, g3, g4⟩ := feat_ok h
  have g1 := inCoord_iff.1 g1
  have g2 := inCoord_iff.1 g2
  have g3 := inCoord_iff.1 g3
  have g4 := size_ok g4
  have hh : 0 ≤ f.high ∧ f.high ≤ 100000 := by omega
  have hd : (f.high + 1).tdiv 2 = (f.high + 1) / 2 := Int.tdiv_eq_ediv_of_nonneg (by omega)
  have hc : -100000 ≤ coordI f n ∧ coordI f n ≤ 100000 := by
    unfold coordI; split <;> (try split) <;> omega
  have w1 : IntKind.i64.wrap (f.high + 1) = f.high + 1 := wrap_id (by omega) (by omega)
  have hq : 0 ≤ (f.high + 1).tdiv 2 ∧ (f.high + 1).tdiv 2 ≤ 100000 := by omega
  clear hd
  generalize hqe : (f.high + 1).tdiv 2 = q at hq ⊢
  have w2 : IntKind.i64.wrap q = q := wrap_id (by omega) (by omega)
  have key : ∀ c : Int, -100000 ≤ c ∧ c ≤ 100000 → IntKind.i64.wrap (c - q) = c - q ∧ IntKind.i64.wrap (c + q) = c + q := fun c hc => ⟨wrap_id (by omega) (by omega), wrap_id (by omega) (by omega)⟩
  have hn : n = 0 ∨ n = 1 ∨ n = 2 := by omega
  rcases hn with e | e | e
  · subst e
    simp [c_feature_reach, coordI]
    refine ⟨_, s_feat_coordinates hG _ _ _, ?_⟩
    simp [w1, hqe, w2, key _ g1]
  · subst e
    simp [c_feature_reach, coordI]
    refine ⟨_, s_feat_coordinates hG _ _ _, ?_⟩
    simp [w1, hqe, w2, key _ g2]
  · subst e
    simp [c_feature_reach, coordI]
    refine ⟨_, s_feat_coordinates hG _ _ _, ?_⟩
    simp [w1, hqe, w2, key _ g3]
theorem s_feat_Reach (f : Feature) (n : Int) : Sat G Tryz.prog 126 [.agg f.row, .i n] (.tup [.agg [.i (reachI f n).1, .i (reachI f n).2.1], .i (reachI f n).2.2]) := by
  refine sat_of hG Tryz.func126 k_feature_Reach ?_
  simp [c_feature_Reach]
  refine ⟨_, s_feat_along hG _ _, ?_⟩
  by_cases e : alongErr f n = 0
  · have e1 : featErr f = 0 := by
      unfold alongErr at e
      split at e
      · assumption
      · rename_i h; exact absurd e h
    have e2 : 0 ≤ n ∧ n < 3 := by
      unfold alongErr at e
      rw [if_pos e1] at e
      split at e
      · cases e
      · omega
    obtain ⟨_, g1, g2, g3, g4, g5, _⟩ := feat_ok e1
    simp [e]
    refine ⟨_, s_feat_bounded hG f n g1 g2 g3 g4 e2.1 e2.2 g5, ?_⟩
    cases hb : boundedI f.kind f.axis n
    · simp [reachI, e, hb]
    · simp
      refine ⟨_, s_feat_reach hG f n e1 e2.1 e2.2, ?_⟩
      simp
      refine ⟨_, s_feat_in hG _, ?_⟩
      cases h1 : inCoord (coordI f n - (f.high + 1).tdiv 2)
      · simp [reachI, e, hb, h1]
      · simp
        refine ⟨_, s_feat_in hG _, ?_⟩
        cases h2 : inCoord (coordI f n + (f.high + 1).tdiv 2) <;> simp [reachI, e, hb, h1, h2]
  · simp [e, reachI]
end
end Go.Proofs.YtpfhfokfambdaaaGreatDoor
