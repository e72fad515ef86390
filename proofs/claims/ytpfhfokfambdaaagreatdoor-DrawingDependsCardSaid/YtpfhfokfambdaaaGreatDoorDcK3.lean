/- A part of the proof of a law of this seat: K3; no conditions. -/
import Derived.Test.YtpfhfokfambdaaaGreatDoorDcK2
/-! Contracts: features; the reference's. -/
set_option linter.unusedSimpArgs false
namespace Go.Proofs.YtpfhfokfambdaaaGreatDoor
open Ev
open Go.RowKit (Below)

def sizeErr (f : Feature) : Int := if f.kind = 0 then (if f.low = 0 ∧ f.high = 0 then 0 else 3) else if limErr f.low f.high = 0 then (if f.low < 1 then 2 else 0) else limErr f.low f.high
def featErr (f : Feature) : Int :=
  if nameErr f.name = 0 then
    if f.kind < 0 ∨ 5 ≤ f.kind ∨ f.axis < 0 ∨ 3 ≤ f.axis then 1
    else if f.kind = 4 ∧ ¬ f.axis = 0 then 3
    else if inCoord f.x && inCoord f.y && inCoord f.z then sizeErr f
    else 2
  else nameErr f.name
/-- What a feature is bounded along. -/
def boundedI (kind axis at_ : Int) : Bool := if kind = 4 then true else if kind = 1 ∨ kind = 2 then at_ != axis else at_ == axis

theorem featErr_eq {f : Feature} (e1 : nameErr f.name = 0) (h : ¬ (f.kind < 0 ∨ 5 ≤ f.kind ∨ f.axis < 0 ∨ 3 ≤ f.axis)) (c5 : ¬ (f.kind = 4 ∧ ¬ f.axis = 0)) : featErr f = if inCoord f.x && inCoord f.y && inCoord f.z then sizeErr f else 2 := by
  unfold featErr
  rw [if_pos e1, if_neg h, if_neg c5]
attribute [-simp] ite_self
section
variable {G : World → Prop} (hG : ∀ w w', G w → Below w.heap.size w w' → G w')
include hG
theorem s_feat_in (n : Int) : Sat G Tryz.prog 187 [.i n] (.bool (inCoord n)) := by
  refine sat_of hG Tryz.func187 k_feature_in ?_
  simp +contextual [c_feature_in, inCoord, -Int.not_le, -Int.not_lt]
theorem s_feat_ranged (x y z : Int) : Sat G Tryz.prog 156 [.agg [.i x, .i y, .i z]] (.bool (inCoord x && inCoord y && inCoord z)) := by
  refine sat_of hG Tryz.func156 k_feature_ranged ?_
  simp [c_feature_ranged]
  refine ⟨_, s_feat_in hG _, ?_⟩
  cases h1 : inCoord x
  · simp
  · simp
    refine ⟨_, s_feat_in hG _, ?_⟩
    cases h2 : inCoord y
    · simp
    · simp
      refine ⟨_, s_feat_in hG _, ?_⟩
      simp
theorem s_feat_Check (f : Feature) : Sat G Tryz.prog 105 [.agg f.row] (.i (featErr f)) := by
  refine sat_of hG Tryz.func105 k_feature_Check ?_
  simp [c_feature_Check]
  refine ⟨_, s_dim_Name hG _, ?_⟩
  by_cases e1 : nameErr f.name = 0
  · by_cases c1 : f.kind < 0
    · simp [e1, c1, featErr]
    have c1' := Int.not_lt.1 c1
    by_cases c2 : 5 ≤ f.kind
    · simp [e1, eq_false c1, c1', c2, featErr]
    have c2' := Int.not_le.1 c2
    by_cases c3 : f.axis < 0
    · simp [e1, eq_false c1, c1', eq_false c2, c2', c3, featErr]
    have c3' := Int.not_lt.1 c3
    by_cases c4 : 3 ≤ f.axis
    · simp [e1, eq_false c1, c1', eq_false c2, c2', eq_false c3, c3', c4, featErr]
    have c4' := Int.not_le.1 c4
    by_cases c5 : f.kind = 4 ∧ ¬ f.axis = 0
    · simp [e1, eq_false c1, c1', eq_false c2, c2', eq_false c3, c3', eq_false c4, c4', c5, featErr]
    have hst : ∀ Q : Int → Prop, (Q (if inCoord f.x && inCoord f.y && inCoord f.z then sizeErr f else 2)) → Q (featErr f) := by
      intro Q h
      have : featErr f = if inCoord f.x && inCoord f.y && inCoord f.z then sizeErr f else 2 := by
        unfold featErr
        rw [if_pos e1, if_neg (by omega), if_neg c5]
      rw [this]; exact h
    by_cases c6 : f.kind = 4
    · have c7 : f.axis = 0 := by
        by_cases h : f.axis = 0
        · exact h
        · exact absurd ⟨c6, h⟩ c5
      simp [e1, c6, c7]
      refine ⟨_, s_feat_ranged hG _ _ _, ?_⟩
      cases h1 : (inCoord f.x && inCoord f.y && inCoord f.z)
      · simp [hst, h1]
      · simp
        refine ⟨_, s_dim_Check hG _ _, ?_⟩
        have hk : ¬ f.kind = 0 := by omega
        by_cases h2 : limErr f.low f.high = 0
        · by_cases h3 : f.low < 1
          · simp [h2, h3, hst, h1, sizeErr, hk]
          · simp [h2, eq_false h3, hst, h1, sizeErr, hk]
        · simp [h2, hst, h1, sizeErr, hk]
    · simp [e1, eq_false c1, c1', eq_false c2, c2', eq_false c3, c3', eq_false c4, c4', c6]
      refine ⟨_, s_feat_ranged hG _ _ _, ?_⟩
      by_cases c8 : f.kind = 0
      · cases h1 : (inCoord f.x && inCoord f.y && inCoord f.z)
        · simp [hst, h1]
        · by_cases h2 : f.low = 0 <;> by_cases h3 : f.high = 0 <;> simp [hst, h1, c8, sizeErr, h2, h3]
      cases h1 : (inCoord f.x && inCoord f.y && inCoord f.z)
      · simp [hst, h1]
      · simp [c8]
        refine ⟨_, s_dim_Check hG _ _, ?_⟩
        by_cases h2 : limErr f.low f.high = 0
        · by_cases h3 : f.low < 1
          · simp [h2, h3, hst, h1, sizeErr, c8]
          · simp [h2, eq_false h3, hst, h1, sizeErr, c8]
        · simp [h2, hst, h1, sizeErr, c8]
  · simp [featErr, e1]
theorem s_r18_Check (f : Feature) (hn : f.name.length ≤ 4611686018427387904) : Sat G Tryz.prog 150 [.agg f.row] (.i (featErr f)) := by
  refine sat_of hG Tryz.func150 k_metrolabref18_Check ?_
  simp [c_metrolabref18_Check]
  refine ⟨_, s_r17_Name hG _ hn, ?_⟩
  by_cases e1 : nameErr f.name = 0
  · by_cases c1 : f.kind < 0
    · simp [e1, c1, featErr]
    have c1' := Int.not_lt.1 c1
    by_cases c2 : 5 ≤ f.kind
    · simp [e1, eq_false c1, c1', c2, featErr]
    have c2' := Int.not_le.1 c2
    by_cases c3 : f.axis < 0
    · simp [e1, eq_false c1, c1', eq_false c2, c2', c3, featErr]
    have c3' := Int.not_lt.1 c3
    by_cases c4 : 3 ≤ f.axis
    · simp [e1, eq_false c1, c1', eq_false c2, c2', eq_false c3, c3', c4, featErr]
    have c4' := Int.not_le.1 c4
    by_cases c5 : f.kind = 4 ∧ ¬ f.axis = 0
    · simp [e1, eq_false c1, c1', eq_false c2, c2', eq_false c3, c3', eq_false c4, c4', c5, featErr]
    have hst := featErr_eq (f := f) e1 (by omega) c5
    by_cases c6 : f.kind = 4
    · have c7 : f.axis = 0 := by
        by_cases h : f.axis = 0
        · exact h
        · exact absurd ⟨c6, h⟩ c5
      have hk : ¬ f.kind = 0 := by omega
      simp [e1, c6, c7]
      refine ⟨_, s_r17_In hG _, ?_⟩
      cases h1 : inCoord f.x
      · simp [hst, h1]
      simp
      refine ⟨_, s_r17_In hG _, ?_⟩
      cases h2 : inCoord f.y
      · simp [hst, h1, h2]
      simp
      refine ⟨_, s_r17_In hG _, ?_⟩
      cases h3 : inCoord f.z
      · simp [hst, h1, h2, h3]
      simp
      refine ⟨_, s_r17_Check hG _ _, ?_⟩
      by_cases h4 : limErr f.low f.high = 0
      · by_cases h5 : f.low < 1
        · simp [h4, h5, hst, h1, h2, h3, sizeErr, hk]
        · simp [h4, eq_false h5, hst, h1, h2, h3, sizeErr, hk]
      · simp [h4, hst, h1, h2, h3, sizeErr, hk]
    · simp [e1, eq_false c1, c1', eq_false c2, c2', eq_false c3, c3', eq_false c4, c4', c6]
      refine ⟨_, s_r17_In hG _, ?_⟩
      cases h1 : inCoord f.x
      · simp [hst, h1]
      simp
      refine ⟨_, s_r17_In hG _, ?_⟩
      cases h2 : inCoord f.y
      · simp [hst, h1, h2]
      simp
      refine ⟨_, s_r17_In hG _, ?_⟩
      cases h3 : inCoord f.z
      · simp [hst, h1, h2, h3]
      by_cases c8 : f.kind = 0
      · by_cases h4 : f.low = 0 <;> by_cases h5 : f.high = 0 <;> simp [hst, h1, h2, h3, c8, sizeErr, h4, h5]
      simp [c8]
      refine ⟨_, s_r17_Check hG _ _, ?_⟩
      by_cases h4 : limErr f.low f.high = 0
      · by_cases h5 : f.low < 1
        · simp [h4, h5, hst, h1, h2, h3, sizeErr, c8]
        · simp [h4, eq_false h5, hst, h1, h2, h3, sizeErr, c8]
      · simp [h4, hst, h1, h2, h3, sizeErr, c8]
  · simp [featErr, e1]
theorem s_r18_Axis (n : Int) : Sat G Tryz.prog 76 [.i n] (.i (if n < 0 ∨ 3 ≤ n then 1 else 0)) := by
  refine sat_of hG Tryz.func76 k_metrolabref18_Axis ?_
  by_cases h1 : n < 0
  · simp [c_metrolabref18_Axis, h1]
  · have h1' := Int.not_lt.1 h1
    by_cases h2 : 3 ≤ n <;> simp [c_metrolabref18_Axis, eq_false h1, h1', h2]
theorem s_r18_Coordinates (x y z : Int) : Sat G Tryz.prog 129 [.agg [.i x, .i y, .i z]] (.agg [.i x, .i y, .i z]) := by
  refine sat_of hG Tryz.func129 k_metrolabref18_Coordinates ?_
  simp [c_metrolabref18_Coordinates]
theorem s_feat_coordinates (x y z : Int) : Sat G Tryz.prog 221 [.agg [.i x, .i y, .i z]] (.agg [.i x, .i y, .i z]) := by
  refine sat_of hG Tryz.func221 k_feature_coordinates ?_
  simp [c_feature_coordinates]
theorem s_r18_Bounded (f : Feature) (n : Int) : Sat G Tryz.prog 128 [.agg f.row, .i n] (.bool (boundedI f.kind f.axis n)) := by
  refine sat_of hG Tryz.func128 k_metrolabref18_Bounded ?_
  by_cases h1 : f.kind = 4
  · simp [c_metrolabref18_Bounded, boundedI, h1]
  · by_cases h2 : f.kind = 1
    · simp [c_metrolabref18_Bounded, boundedI, h2]
    · by_cases h3 : f.kind = 2 <;> simp [c_metrolabref18_Bounded, boundedI, h1, h2, h3]
theorem s_feat_bounds : Sat G Tryz.prog 220 [] (.agg ([true, false, false, false, true, true, false, true, true, true, false, false, true, true, true].map D.bool)) := by
  refine sat_of hG Tryz.func220 k_feature_bounds ?_
  simp [c_feature_bounds]
set_option maxHeartbeats 1000000 in
theorem s_feat_bounded (f : Feature) (n : Int) (k0 : 0 ≤ f.kind) (k1 : f.kind < 5) (a0 : 0 ≤ f.axis) (a1 : f.axis < 3) (n0 : 0 ≤ n) (n1 : n < 3) (hb : f.kind = 4 → f.axis = 0) : Sat G Tryz.prog 185 [.agg f.row, .i n] (.bool (boundedI f.kind f.axis n)) := by
  refine sat_of hG Tryz.func185 k_feature_bounded ?_
  simp [c_feature_bounded]
  refine ⟨_, s_feat_bounds hG, ?_⟩
  have w1 : IntKind.i64.wrap (n - f.axis) = n - f.axis := wrap_id (by omega) (by omega)
  have w2 : IntKind.i64.wrap (n - f.axis + 3) = n - f.axis + 3 := wrap_id (by omega) (by omega)
  simp [Nat.testBit_eq_decide_div_mod_eq, w1, w2, k0, k1]
  have hk : f.kind = 0 ∨ f.kind = 1 ∨ f.kind = 2 ∨ f.kind = 3 ∨ f.kind = 4 := by omega
  have ha : f.axis = 0 ∨ f.axis = 1 ∨ f.axis = 2 := by omega
  have hn : n = 0 ∨ n = 1 ∨ n = 2 := by omega
  rcases hk with e1 | e1 | e1 | e1 | e1 <;> rcases ha with e2 | e2 | e2 <;> rcases hn with e3 | e3 | e3 <;> first
    | (exfalso; have := hb e1; omega)
    | (simp [e1, e2, e3, boundedI])
end
end Go.Proofs.YtpfhfokfambdaaaGreatDoor
