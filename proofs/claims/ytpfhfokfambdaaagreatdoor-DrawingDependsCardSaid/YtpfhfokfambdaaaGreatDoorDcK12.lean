/- A part of the proof of a law of this seat: K12; no conditions. -/
import Derived.Sort.Walk0
import Derived.Test.YtpfhfokfambdaaaGreatDoorDcK11
/-! Contracts: distances. -/
set_option linter.unusedSimpArgs false
namespace Go.Proofs.YtpfhfokfambdaaaGreatDoor
open Ev
open Go.RowKit (Below)
def featAt (d : Drawing) (n : Int) : Option Feature := d.features[n.toNat]?
def distI (d : Drawing) (a b : Str) (n : Int) : Int × Int :=
  if place d a < 0 ∨ place d b < 0 then (0, 6) else match featAt d (place d a), featAt d (place d b) with
    | some f, some g => if boundedI f.kind f.axis n = true ∧ boundedI g.kind g.axis n = true then (coordI g n - coordI f n, 0) else (0, 14)
    | _, _ => (0, 0)
theorem reach_err {f : Feature} {n : Int} (h : featErr f = 0) (h0 : 0 ≤ n) (h1 : n < 3) : decide ((reachI f n).2.2 = 14) = !boundedI f.kind f.axis n := by
  have ha : alongErr f n = 0 := by
    unfold alongErr
    rw [if_pos h, if_neg (by omega)]
  unfold reachI
  rw [if_pos ha]
  cases boundedI f.kind f.axis n
  · simp
  · simp only [if_true]
    split <;> simp
theorem coord_range {f : Feature} {n : Int} (h : featErr f = 0) : -100000 ≤ coordI f n ∧ coordI f n ≤ 100000 := by
  obtain ⟨_, _, _, _, _, _, g1, g2, g3, _⟩ := feat_ok h
  have g1 := inCoord_iff.1 g1
  have g2 := inCoord_iff.1 g2
  have g3 := inCoord_iff.1 g3
  unfold coordI
  split
  · exact g1
  · split
    · exact g2
    · exact g3
theorem less_irr (a : Str) : Op.bytesLess a a = false := by
  rw [bytesLess_eq]; simp
theorem cmpD_before (a b : Dim) : 0 ≤ cmpD a b ↔ beforeD a b = false := by
  have hS : ∀ x y : Str, (x = y → cmpS x y = 0) ∧ (¬ x = y → ¬ cmpS x y = 0 ∧ (0 ≤ cmpS x y ↔ Op.bytesLess x y = false)) := by
    intro x y
    refine ⟨fun h => by subst h; simp [cmpS, less_irr], fun h => ?_⟩
    cases hl : Op.bytesLess x y <;> simp [cmpS, hl, h]
  have hI : ∀ x y : Int, (x = y → cmpI x y = 0) ∧ (¬ x = y → ¬ cmpI x y = 0 ∧ (0 ≤ cmpI x y ↔ decide (x < y) = false)) := by
    intro x y
    refine ⟨fun h => by subst h; simp [cmpI], fun h => ?_⟩
    by_cases h1 : x < y
    · simp [cmpI, h1]
    · have h2 : y < x := by omega
      simp [cmpI, h1, h2]
  have zS : ∀ y : Str, cmpS y y = 0 := fun y => (hS y y).1 rfl
  have zI : ∀ y : Int, cmpI y y = 0 := fun y => (hI y y).1 rfl
  by_cases h1 : a.src = b.src
  case neg =>
    obtain ⟨g1, g2⟩ := (hS _ _).2 h1
    simp [cmpD, beforeD, firstI, h1, g1, g2]
  by_cases h2 : a.dst = b.dst
  case neg =>
    obtain ⟨g1, g2⟩ := (hS _ _).2 h2
    simp only [cmpD, beforeD, firstI, zS, h1, h2, g1, if_true, if_false, not_true, not_false_eq_true]
    exact g2
  by_cases h3 : a.axis = b.axis
  case neg =>
    obtain ⟨g1, g2⟩ := (hI _ _).2 h3
    simp only [cmpD, beforeD, firstI, zS, zI, h1, h2, h3, g1, if_true, if_false, not_true, not_false_eq_true]
    exact g2
  by_cases h4 : a.low = b.low
  case neg =>
    obtain ⟨g1, g2⟩ := (hI _ _).2 h4
    simp only [cmpD, beforeD, firstI, zS, zI, h1, h2, h3, h4, g1, if_true, if_false, not_true, not_false_eq_true]
    exact g2
  by_cases h5 : a.high = b.high
  · simp only [cmpD, beforeD, firstI, zS, zI, h1, h2, h3, h4, h5, if_true, not_true, if_false]
    simp
  · obtain ⟨g1, g2⟩ := (hI _ _).2 h5
    simp only [cmpD, beforeD, firstI, zS, zI, h1, h2, h3, h4, g1, if_true, not_true, if_false]
    exact g2
theorem dim_ok {x : Dim} (h : dimErr x = 0) : nameErr x.src = 0 ∧ nameErr x.dst = 0 ∧ 0 ≤ x.axis ∧ x.axis < 3 ∧ limErr x.low x.high = 0 := by
  simp only [dimErr, firstI] at h
  by_cases h1 : nameErr x.src = 0
  case neg => rw [if_neg h1] at h; exact absurd h h1
  rw [if_pos h1] at h
  by_cases h2 : nameErr x.dst = 0
  case neg => rw [if_neg h2] at h; exact absurd h h2
  rw [if_pos h2] at h
  by_cases h3 : x.src = x.dst
  · simp [h3] at h
  by_cases h4 : x.axis < 0 ∨ 3 ≤ x.axis
  · simp [h3, h4] at h
  simp only [h3, h4, if_false, if_true] at h
  by_cases h5 : limErr x.low x.high = 0
  · exact ⟨h1, h2, by omega, by omega, h5⟩
  · rw [if_neg h5] at h; exact absurd h h5
/-- The error of the dimensions from one on. -/
def dimsErr (d : Drawing) (k : Nat) : Int :=
  if h : k < d.dims.length then if dimErr d.dims[k] = 0 then if 0 < k ∧ (match d.dims[k - 1]? with | some y => beforeD y d.dims[k] | none => true) = false then 9
    else if (distI d d.dims[k].src d.dims[k].dst d.dims[k].axis).2 = 0 then
      if (distI d d.dims[k].src d.dims[k].dst d.dims[k].axis).1 < d.dims[k].low ∨ d.dims[k].high < (distI d d.dims[k].src d.dims[k].dst d.dims[k].axis).1 then 16 else dimsErr d (k + 1)
    else (distI d d.dims[k].src d.dims[k].dst d.dims[k].axis).2 else dimErr d.dims[k] else 0
termination_by d.dims.length - k
attribute [-simp] ite_self
section
variable {G : World → Prop} (hG : ∀ w w', G w → Below w.heap.size w w' → G w')
include hG
set_option maxRecDepth 8192 in
theorem s_draw_distance (d : Drawing) (a b : Str) (n : Int) (hd : d.features.length ≤ 4611686018427387904) (hf : ∀ f ∈ d.features, featErr f = 0) (h0 : 0 ≤ n) (h1 : n < 3) : Sat G Tryz.prog 75 [.agg d.row, .str a, .str b, .i n] (.tup [.i (distI d a b n).1, .i (distI d a b n).2]) := by
  refine sat_of hG Tryz.func75 k_drawing_distance ?_
  simp [c_drawing_distance]
  refine ⟨_, s_draw_index hG d a hd, ?_⟩
  simp
  refine ⟨_, s_draw_index hG d b hd, ?_⟩
  rcases place_range d a with ha | ⟨p, hp, ha, _⟩
  · simp [ha, distI]
  have hp0 : ¬ (p : Int) < 0 := by omega
  rcases place_range d b with hb | ⟨q, hq, hb, _⟩
  · simp [ha, hb, distI, eq_false hp0]
  have hq0 : ¬ (q : Int) < 0 := by omega
  have hfp := hf _ (List.getElem_mem hp)
  have hfq := hf _ (List.getElem_mem hq)
  have hdist : distI d a b n = if boundedI d.features[p].kind d.features[p].axis n = true ∧ boundedI d.features[q].kind d.features[q].axis n = true then (coordI d.features[q] n - coordI d.features[p] n, 0) else (0, 14) := by
    simp [distI, ha, hb, featAt, hp, hq, eq_false hp0, eq_false hq0]
  have ep := reach_err hfp h0 h1
  have eq := reach_err hfq h0 h1
  have cp := coord_range (n := n) hfp
  have cq := coord_range (n := n) hfq
  have hw : IntKind.i64.wrap (coordI d.features[q] n - coordI d.features[p] n) = coordI d.features[q] n - coordI d.features[p] n := wrap_id (by omega) (by omega)
  simp [ha, hb, eq_false hp0, eq_false hq0]
  refine w_loopP (fun k : Nat => ⟨[(3, .n n), (4, .at (.loc 4 0)), (10, .n p), (11, .n q), (30, .agg [.d (.i p), .d (.i q)]), (31, .n k)], [(4, .var (d.row.map A.d))]⟩)
    (fun k => k ≤ 2 ∧ (0 < k → boundedI d.features[p].kind d.features[p].axis n = true) ∧ (1 < k → boundedI d.features[q].kind d.features[q].axis n = true)) (fun k => 2 - k) 0 (by simp) ⟨by omega, fun h => by omega, fun h => by omega⟩ ?_
  rintro k ⟨hk, hb1, hb2⟩
  have hkk : k = 0 ∨ k = 1 ∨ k = 2 := by omega
  rcases hkk with rfl | rfl | rfl
  · simp [hp]
    refine ⟨_, s_feat_Reach hG _ _, ?_⟩
    cases hbp : boundedI d.features[p].kind d.features[p].axis n
    · rw [hbp] at ep
      have : (reachI d.features[p] n).2.2 = 14 := by simpa using ep
      simp [this, hdist, hbp]
    · rw [hbp] at ep
      have : ¬ (reachI d.features[p] n).2.2 = 14 := by simpa using ep
      simp [this]
      exact ⟨1, rfl, ⟨by omega, fun h => by omega⟩, by omega⟩
  · simp [hq]
    refine ⟨_, s_feat_Reach hG _ _, ?_⟩
    cases hbq : boundedI d.features[q].kind d.features[q].axis n
    · rw [hbq] at eq
      have : (reachI d.features[q] n).2.2 = 14 := by simpa using eq
      simp [this, hdist, hbq]
    · rw [hbq] at eq
      have : ¬ (reachI d.features[q] n).2.2 = 14 := by simpa using eq
      simp [this]
      exact ⟨2, rfl, ⟨by omega, fun _ => hb1 (by omega)⟩, by omega⟩
  · simp [hq]
    refine ⟨_, s_draw_coordinate hG _ _ _ _ h0 h1, ?_⟩
    simp [hp]
    refine ⟨_, s_draw_coordinate hG _ _ _ _ h0 h1, ?_⟩
    unfold coordI at hw hdist
    simp [hw, hdist, hb1 (by omega), hb2 (by omega)]
theorem s_r20_distance (d : Drawing) (a b : Str) (n : Int) (hd : d.features.length ≤ 4611686018427387904) (hf : ∀ f ∈ d.features, featErr f = 0) (h0 : 0 ≤ n) (h1 : n < 3) : Sat G Tryz.prog 77 [.agg d.row, .str a, .str b, .i n] (.tup [.i (distI d a b n).1, .i (distI d a b n).2]) := by
  refine sat_of hG Tryz.func77 k_metrolabref20_distance ?_
  simp [c_metrolabref20_distance]
  refine ⟨_, s_r20_Index hG d a hd, ?_⟩
  simp
  refine ⟨_, s_r20_Index hG d b hd, ?_⟩
  rcases place_range d a with ha | ⟨p, hp, ha, _⟩
  · simp [ha, distI]
  have hp0 : ¬ (p : Int) < 0 := by omega
  rcases place_range d b with hb | ⟨q, hq, hb, _⟩
  · simp [ha, hb, distI, eq_false hp0]
  have hq0 : ¬ (q : Int) < 0 := by omega
  have hfp := hf _ (List.getElem_mem hp)
  have hfq := hf _ (List.getElem_mem hq)
  have hdist : distI d a b n = if boundedI d.features[p].kind d.features[p].axis n = true ∧ boundedI d.features[q].kind d.features[q].axis n = true then (coordI d.features[q] n - coordI d.features[p] n, 0) else (0, 14) := by
    simp [distI, ha, hb, featAt, hp, hq, eq_false hp0, eq_false hq0]
  have cp := coord_range (n := n) hfp
  have cq := coord_range (n := n) hfq
  have hw : IntKind.i64.wrap (coordI d.features[q] n - coordI d.features[p] n) = coordI d.features[q] n - coordI d.features[p] n := wrap_id (by omega) (by omega)
  simp [ha, hb, eq_false hp0, eq_false hq0, hp, hq]
  refine ⟨_, s_r18_Bounded hG _ _, ?_⟩
  cases hbp : boundedI d.features[p].kind d.features[p].axis n
  · simp [hdist, hbp]
  simp
  refine ⟨_, s_r18_Bounded hG _ _, ?_⟩
  cases hbq : boundedI d.features[q].kind d.features[q].axis n
  · simp [hdist, hbp, hbq]
  simp
  refine ⟨_, s_r18_Coordinates hG _ _ _, ?_⟩
  have hn : n = 0 ∨ n = 1 ∨ n = 2 := by omega
  rcases hn with e | e | e
  all_goals
    simp [e]
    refine ⟨_, s_r18_Coordinates hG _ _ _, ?_⟩
    rw [e] at hw hdist hbp hbq
    simp only [coordI] at hw hdist
    simp at hw hdist
    simp [hw, hdist, hbp, hbq]
set_option maxRecDepth 8192 in
theorem s_draw_dimensions (d : Drawing) (hd : d.fits) (hf : ∀ f ∈ d.features, featErr f = 0) : Sat G Tryz.prog 46 [.agg d.row] (.i (if 256 < d.dims.length then 5 else dimsErr d 0)) := by
  refine sat_of hG Tryz.func46 k_drawing_dimensions ?_
  by_cases h0 : 256 < d.dims.length
  · have h0' : (256 : Int) < d.dims.length := by omega
    simp [c_drawing_dimensions, h0', h0]
  have h0' : ¬ (256 : Int) < d.dims.length := by omega
  rw [if_neg h0]
  simp [c_drawing_dimensions, eq_false h0', -Int.not_lt, -Int.not_le]
  refine w_loopP (fun k : Nat => ⟨[(1, .at (.loc 1 0)), (13, .sl (d.dims.map Dim.row)), (14, .n d.dims.length), (15, .n k)], [(1, .var (d.row.map A.d))]⟩) (fun k => k ≤ d.dims.length ∧ dimsErr d 0 = dimsErr d k) (fun k => d.dims.length - k) 0 (by simp) ⟨Nat.zero_le _, rfl⟩ ?_
  rintro k ⟨hk, he⟩
  by_cases hlt : k < d.dims.length
  · rw [dimsErr.eq_def _ k, dif_pos hlt] at he
    simp [hlt]
    refine ⟨_, s_dim_Valid hG _, ?_⟩
    by_cases g1 : dimErr d.dims[k] = 0
    case neg =>
      rw [if_neg g1] at he
      simp [g1, he]
    rw [if_pos g1] at he
    obtain ⟨_, _, a0, a1, _⟩ := dim_ok g1
    have hdist := s_draw_distance hG d d.dims[k].src d.dims[k].dst d.dims[k].axis hd.2.1 hf a0 a1
    by_cases hk0 : 0 < k
    · have hkI : (0 : Int) < k := by omega
      have hw := wrap_pred hk0 (by omega)
      have hk1 : k - 1 < d.dims.length := by omega
      rw [List.getElem?_eq_getElem hk1] at he
      simp only at he
      simp [g1, hkI, hk0, hw, hk1]
      refine ⟨_, s_draw_order hG _ _, ?_⟩
      have hb := cmpD_before d.dims[k - 1] d.dims[k]
      cases g2 : beforeD d.dims[k - 1] d.dims[k]
      · rw [g2] at hb
        rw [if_pos ⟨hk0, g2⟩] at he
        have hb : 0 ≤ cmpD d.dims[k - 1] d.dims[k] := hb.2 rfl
        simp [hb, he]
      · rw [g2] at hb
        rw [if_neg (fun h => by rw [g2] at h; cases h.2)] at he
        have hb : ¬ 0 ≤ cmpD d.dims[k - 1] d.dims[k] := fun h => by cases hb.1 h
        simp [eq_false hb, -Int.not_le]
        refine ⟨_, hdist, ?_⟩
        generalize distI d _ _ _ = dd at he ⊢
        by_cases g3 : dd.2 = 0
        case neg =>
          rw [if_neg g3] at he
          simp [g3, he]
        rw [if_pos g3] at he
        by_cases g4 : dd.1 < d.dims[k].low
        · rw [if_pos (.inl g4)] at he
          simp [g3, g4, he]
        have g4' := Int.not_lt.1 g4
        by_cases g5 : d.dims[k].high < dd.1
        · rw [if_pos (.inr g5)] at he
          simp [g3, eq_false g4, g4', g5, he]
        have g5' := Int.not_lt.1 g5
        rw [if_neg (by omega)] at he
        simp [g3, eq_false g4, g4', eq_false g5, g5']
        exact ⟨_, wrap_succ hlt (by omega), ⟨hlt, he⟩, by omega⟩
    · rw [if_neg (fun h => hk0 h.1)] at he
      have hk00 : k = 0 := by omega
      subst hk00
      simp [g1]
      refine ⟨_, hdist, ?_⟩
      generalize distI d _ _ _ = dd at he ⊢
      by_cases g3 : dd.2 = 0
      case neg =>
        rw [if_neg g3] at he
        simp [g3, he]
      rw [if_pos g3] at he
      by_cases g4 : dd.1 < d.dims[0].low
      · rw [if_pos (.inl g4)] at he
        simp [g3, g4, he]
      have g4' := Int.not_lt.1 g4
      by_cases g5 : d.dims[0].high < dd.1
      · rw [if_pos (.inr g5)] at he
        simp [g3, eq_false g4, g4', g5, he]
      have g5' := Int.not_lt.1 g5
      rw [if_neg (by omega)] at he
      simp [g3, eq_false g4, g4', eq_false g5, g5']
      exact ⟨_, wrap_succ hlt (by omega), ⟨hlt, he⟩, by omega⟩
  · have : k = d.dims.length := by omega
    subst this
    rw [dimsErr.eq_def _ d.dims.length, dif_neg (by omega)] at he
    simp [he]
end
end Go.Proofs.YtpfhfokfambdaaaGreatDoor
