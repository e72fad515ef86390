/- A part of the proof of a law of this seat: K11; no conditions. -/
import Derived.Test.YtpfhfokfambdaaaGreatDoorDcK10
/-! Contracts: the features of a drawing. -/
set_option linter.unusedSimpArgs false
namespace Go.Proofs.YtpfhfokfambdaaaGreatDoor
open Ev
open Go.RowKit (Below)
def leS (a b : Str) : Bool := Op.bytesLess a b || (a == b)
def nameAt (fs : List Feature) (k : Nat) : Str := match fs[k]? with
  | some f => f.name
  | none => []
/-- The error of the features from one on. -/
def featsErr (fs : List Feature) (k : Nat) : Int :=
  if h : k < fs.length then if allErr fs[k] = 0 then if 0 < k ∧ leS fs[k].name (nameAt fs (k - 1)) = true then 9 else featsErr fs (k + 1) else allErr fs[k] else 0
termination_by fs.length - k
def datumErr (d : Drawing) (y : Datum) : Int :=
  if place d y.name < 0 then 6 else if ¬ y.mat = 0 ∧ (match d.features[(place d y.name).toNat]? with | some f => f.kind | none => 1) = 0 then 3 else 0
def allDatums (fs : List Feature) : List Datum := fs.flatMap fun f => f.frames.flatMap fun x => x.datums
def featuresErr (d : Drawing) : Int :=
  if 32 < d.features.length then 5 else if featsErr d.features 0 = 0 then firstI ((allDatums d.features).map (datumErr d)) else featsErr d.features 0
theorem place_range (d : Drawing) (s : Str) : place d s = -1 ∨ ∃ (k : Nat) (h : k < d.features.length), place d s = k ∧ d.features[k].name = s := by
  rcases idxI_range (fun f : Feature => decide (f.name = s)) d.features with ⟨h, _⟩ | ⟨k, hk, h1, h2, _⟩
  · exact .inl h
  · exact .inr ⟨k, hk, h1, by simpa using h2⟩
theorem firstI_cons (e : Int) (r : List Int) : firstI (e :: r) = if e = 0 then firstI r else e := rfl
attribute [-simp] ite_self
section
variable {G : World → Prop} (hG : ∀ w w', G w → Below w.heap.size w w' → G w')
include hG
set_option maxRecDepth 8192 in
set_option maxHeartbeats 4000000 in
theorem s_draw_features (d : Drawing) (hd : d.fits) : Sat G Tryz.prog 44 [.agg d.row] (.i (featuresErr d)) := by
  refine sat_of hG Tryz.func44 k_drawing_features ?_
  by_cases h0 : 32 < d.features.length
  · have h0' : (32 : Int) < d.features.length := by omega
    simp [c_drawing_features, h0', featuresErr, h0]
  have h0' : ¬ (32 : Int) < d.features.length := by omega
  have hp : featuresErr d = if featsErr d.features 0 = 0 then firstI ((allDatums d.features).map (datumErr d)) else featsErr d.features 0 := by simp [featuresErr, h0]
  simp [c_drawing_features, eq_false h0', -Int.not_lt, -Int.not_le]
  refine w_loopP (fun k : Nat => ⟨[(1, .at (.loc 1 0)), (18, .sl (d.features.map Feature.row)), (19, .n d.features.length), (20, .n k)], [(1, .var (d.row.map A.d))]⟩) (fun k => k ≤ d.features.length ∧ featsErr d.features 0 = featsErr d.features k) (fun k => d.features.length - k) 0 (by simp) ⟨Nat.zero_le _, rfl⟩ ?_
  rintro k ⟨hk, he⟩
  by_cases hlt : k < d.features.length
  · rw [featsErr.eq_def _ k, dif_pos hlt] at he
    simp [hlt]
    refine ⟨_, s_frame_All hG _ (hd.2.2.1 _ (List.getElem_mem hlt)), ?_⟩
    by_cases g1 : allErr d.features[k] = 0
    case neg =>
      rw [if_neg g1] at he
      rw [if_neg (by rw [he]; exact g1), he] at hp
      simp [g1, hp]
    rw [if_pos g1] at he
    have hfin : featsErr d.features 0 = featsErr d.features (k + 1) → ∃ a' : Nat, IntKind.i64.wrap ((k : Int) + 1) = (a' : Int) ∧ (a' ≤ d.features.length ∧ featsErr d.features 0 = featsErr d.features a') ∧ d.features.length - a' < d.features.length - k := fun h => ⟨k + 1, wrap_succ hlt (by omega), ⟨hlt, h⟩, by omega⟩
    by_cases hk0 : 0 < k
    · have hkI : (0 : Int) < k := by omega
      have hw := wrap_pred hk0 (by omega)
      have hk1 : k - 1 < d.features.length := by omega
      have hn : nameAt d.features (k - 1) = d.features[k - 1].name := by simp [nameAt, hk1]
      rw [hn] at he
      by_cases g2 : leS d.features[k].name d.features[k - 1].name = true
      · rw [if_pos ⟨hk0, g2⟩] at he
        rw [if_neg (by rw [he]; simp), he] at hp
        unfold leS at g2
        simp [g1, hkI, hk0, hw, hk1, g2, hp]
      · rw [if_neg (fun h => g2 h.2)] at he
        unfold leS at g2
        have g2 : (Op.bytesLess d.features[k].name d.features[k - 1].name || (d.features[k].name == d.features[k - 1].name)) = false := by simpa using g2
        simp only [Bool.or_eq_false_iff] at g2
        simp [g1, hkI, hk0, hw, hk1, g2.1, g2.2]
        exact hfin he
    · have hk00 : k = 0 := by omega
      rw [if_neg (fun h => hk0 h.1)] at he
      subst hk00
      simp [g1]
      exact hfin he
  · have : k = d.features.length := by omega
    subst this
    rw [featsErr.eq_def _ d.features.length, dif_neg (by omega)] at he
    rw [if_pos he] at hp
    simp
    refine w_loopP (fun k : Nat => ⟨[(1, .at (.loc 1 0)), (46, .sl (d.features.map Feature.row)), (47, .n d.features.length), (48, .n k)], [(1, .var (d.row.map A.d))]⟩) (fun k => k ≤ d.features.length ∧ firstI ((allDatums (d.features.drop k)).map (datumErr d)) = featuresErr d) (fun k => d.features.length - k) 0 (by simp) ⟨Nat.zero_le _, by simp [hp]⟩ ?_
    rintro k ⟨hk, he⟩
    by_cases hlt : k < d.features.length
    · rw [List.drop_eq_getElem_cons hlt] at he
      simp only [allDatums, List.flatMap_cons] at he
      have hff := hd.2.2.1 _ (List.getElem_mem hlt)
      simp [hlt]
      refine w_loopP (fun j : Nat => ⟨[(1, .at (.loc 1 0)), (46, .sl (d.features.map Feature.row)), (47, .n d.features.length), (48, .n k), (53, .sl (d.features[k].frames.map Frame.row)), (54, .n d.features[k].frames.length), (55, .n j)], [(1, .var (d.row.map A.d))]⟩)
        (fun j => j ≤ d.features[k].frames.length ∧ firstI (((d.features[k].frames.drop j).flatMap (fun x => x.datums) ++ allDatums (d.features.drop (k + 1))).map (datumErr d)) = featuresErr d) (fun j => d.features[k].frames.length - j) 0 (by simp) ⟨Nat.zero_le _, by simpa [allDatums] using he⟩ ?_
      rintro j ⟨hj, hej⟩
      by_cases hjl : j < d.features[k].frames.length
      · rw [List.drop_eq_getElem_cons hjl] at hej
        simp only [List.flatMap_cons] at hej
        have hxx := hff.2.2 _ (List.getElem_mem hjl)
        simp [hjl]
        refine w_loopP (fun m : Nat => ⟨[(1, .at (.loc 1 0)), (46, .sl (d.features.map Feature.row)), (47, .n d.features.length), (48, .n k), (53, .sl (d.features[k].frames.map Frame.row)), (54, .n d.features[k].frames.length), (55, .n j), (60, .sl (d.features[k].frames[j].datums.map Datum.row)), (61, .n d.features[k].frames[j].datums.length), (62, .n m)], [(1, .var (d.row.map A.d))]⟩)
          (fun m => m ≤ d.features[k].frames[j].datums.length ∧ firstI ((d.features[k].frames[j].datums.drop m ++ (d.features[k].frames.drop (j + 1)).flatMap (fun x => x.datums) ++ allDatums (d.features.drop (k + 1))).map (datumErr d)) = featuresErr d) (fun m => d.features[k].frames[j].datums.length - m) 0 (by simp) ⟨Nat.zero_le _, by simpa using hej⟩ ?_
        rintro m ⟨hm, hem⟩
        by_cases hml : m < d.features[k].frames[j].datums.length
        · rw [List.drop_eq_getElem_cons hml] at hem
          simp only [List.cons_append, List.map_cons, firstI_cons] at hem
          simp [hml]
          refine ⟨_, s_draw_index hG d _ hd.2.1, ?_⟩
          have hnext : datumErr d d.features[k].frames[j].datums[m] = 0 → ∃ a' : Nat, IntKind.i64.wrap ((m : Int) + 1) = (a' : Int) ∧ (a' ≤ d.features[k].frames[j].datums.length ∧ firstI (List.map (datumErr d) (d.features[k].frames[j].datums.drop a' ++ ((d.features[k].frames.drop (j + 1)).flatMap (fun x => x.datums) ++ allDatums (d.features.drop (k + 1))))) = featuresErr d) ∧ d.features[k].frames[j].datums.length - a' < d.features[k].frames[j].datums.length - m := by
            intro h
            rw [if_pos h] at hem
            exact ⟨m + 1, wrap_succ hml (by have := hxx.1; omega), ⟨hml, by simpa using hem⟩, by omega⟩
          rcases place_range d d.features[k].frames[j].datums[m].name with hpl | ⟨q, hq, hpl, _⟩
          · have hde : datumErr d d.features[k].frames[j].datums[m] = 6 := by simp [datumErr, hpl]
            rw [hde, if_neg (by omega)] at hem
            simp [hpl]; exact hem
          · have hq0 : ¬ (q : Int) < 0 := by omega
            by_cases g1 : d.features[k].frames[j].datums[m].mat = 0
            · have hde : datumErr d d.features[k].frames[j].datums[m] = 0 := by simp [datumErr, hpl, g1]
              simp [hpl, g1, eq_false hq0]
              simpa using hnext hde
            · by_cases g2 : d.features[q].kind = 0
              · have hde : datumErr d d.features[k].frames[j].datums[m] = 3 := by simp [datumErr, hpl, g1, hq, g2]
                rw [hde, if_neg (by omega)] at hem
                simp [hpl, g1, hq, g2, eq_false hq0]; exact hem
              · have hde : datumErr d d.features[k].frames[j].datums[m] = 0 := by simp [datumErr, hpl, g1, hq, g2]
                simp [hpl, g1, hq, g2, eq_false hq0]
                simpa using hnext hde
        · have : m = d.features[k].frames[j].datums.length := by omega
          subst this
          simp at hem
          simp
          exact ⟨j + 1, wrap_succ hjl (by have := hff.2.1; omega), ⟨hjl, by simpa using hem⟩, by omega⟩
      · have : j = d.features[k].frames.length := by omega
        subst this
        simp at hej
        simp
        exact ⟨k + 1, wrap_succ hlt (by omega), ⟨hlt, by simpa using hej⟩, by omega⟩
    · have : k = d.features.length := by omega
      subst this
      simp [allDatums, firstI] at he
      simp [he]
set_option maxRecDepth 8192 in
theorem s_r20_features (d : Drawing) (hd : d.fits) : Sat G Tryz.prog 48 [.agg d.row] (.i (if 32 < d.features.length then 5 else featsErr d.features 0)) := by
  refine sat_of hG Tryz.func48 k_metrolabref20_features ?_
  by_cases h0 : 32 < d.features.length
  · have h0' : (32 : Int) < d.features.length := by omega
    simp [c_metrolabref20_features, h0', h0]
  have h0' : ¬ (32 : Int) < d.features.length := by omega
  rw [if_neg h0]
  simp [c_metrolabref20_features, eq_false h0', -Int.not_lt, -Int.not_le]
  refine w_loopP (fun k : Nat => ⟨[(1, .at (.loc 1 0)), (3, .n k)], [(1, .var (d.row.map A.d))]⟩) (fun k => k ≤ d.features.length ∧ featsErr d.features 0 = featsErr d.features k) (fun k => d.features.length - k) 0 (by simp) ⟨Nat.zero_le _, rfl⟩ ?_
  rintro k ⟨hk, he⟩
  by_cases hlt : k < d.features.length
  · rw [featsErr.eq_def _ k, dif_pos hlt] at he
    simp [hlt]
    refine ⟨_, s_r19_All hG _ (hd.2.2.1 _ (List.getElem_mem hlt)), ?_⟩
    by_cases g1 : allErr d.features[k] = 0
    case neg =>
      rw [if_neg g1] at he
      simp [g1, he]
    rw [if_pos g1] at he
    have hfin : featsErr d.features 0 = featsErr d.features (k + 1) → ∃ a' : Nat, IntKind.i64.wrap ((k : Int) + 1) = (a' : Int) ∧ (a' ≤ d.features.length ∧ featsErr d.features 0 = featsErr d.features a') ∧ d.features.length - a' < d.features.length - k := fun h => ⟨k + 1, wrap_succ hlt (by omega), ⟨hlt, h⟩, by omega⟩
    by_cases hk0 : 0 < k
    · have hkI : (0 : Int) < k := by omega
      have hw := wrap_pred hk0 (by omega)
      have hk1 : k - 1 < d.features.length := by omega
      have hn : nameAt d.features (k - 1) = d.features[k - 1].name := by simp [nameAt, hk1]
      rw [hn] at he
      by_cases g2 : leS d.features[k].name d.features[k - 1].name = true
      · rw [if_pos ⟨hk0, g2⟩] at he
        unfold leS at g2
        simp [g1, hkI, hk0, hw, hk1, hlt, g2, he]
      · rw [if_neg (fun h => g2 h.2)] at he
        unfold leS at g2
        have g2 : (Op.bytesLess d.features[k].name d.features[k - 1].name || (d.features[k].name == d.features[k - 1].name)) = false := by simpa using g2
        simp only [Bool.or_eq_false_iff] at g2
        simp [g1, hkI, hk0, hw, hk1, hlt, g2.1, g2.2]
        exact hfin he
    · have hk00 : k = 0 := by omega
      rw [if_neg (fun h => hk0 h.1)] at he
      subst hk00
      simp [g1, hlt]
      exact hfin he
  · have : k = d.features.length := by omega
    subst this
    rw [featsErr.eq_def _ d.features.length, dif_neg (by omega)] at he
    simp [he]
set_option maxRecDepth 8192 in
theorem s_r20_datums (d : Drawing) (hd : d.fits) : Sat G Tryz.prog 49 [.agg d.row] (.i (firstI ((allDatums d.features).map (datumErr d)))) := by
  refine sat_of hG Tryz.func49 k_metrolabref20_datums ?_
  have hfl := hd.2.1
  obtain ⟨T, hT⟩ : ∃ T, T = firstI ((allDatums d.features).map (datumErr d)) := ⟨_, rfl⟩
  rw [← hT]
  simp [c_metrolabref20_datums]
  refine w_loopP (fun k : Nat => ⟨[(1, .at (.loc 1 0)), (3, .n k)], [(1, .var (d.row.map A.d))]⟩) (fun k => k ≤ d.features.length ∧ firstI ((allDatums (d.features.drop k)).map (datumErr d)) = T) (fun k => d.features.length - k) 0 (by simp) ⟨Nat.zero_le _, by simp [hT]⟩ ?_
  rintro k ⟨hk, he⟩
  by_cases hlt : k < d.features.length
  · rw [List.drop_eq_getElem_cons hlt] at he
    simp only [allDatums, List.flatMap_cons] at he
    have hff := hd.2.2.1 _ (List.getElem_mem hlt)
    simp [hlt]
    refine w_loopP (fun j : Nat => ⟨[(1, .at (.loc 1 0)), (3, .n k), (4, .sl (d.features[k].frames.map Frame.row)), (5, .n j)], [(1, .var (d.row.map A.d))]⟩)
      (fun j => j ≤ d.features[k].frames.length ∧ firstI (((d.features[k].frames.drop j).flatMap (fun x => x.datums) ++ allDatums (d.features.drop (k + 1))).map (datumErr d)) = T) (fun j => d.features[k].frames.length - j) 0 (by simp) ⟨Nat.zero_le _, by simpa [allDatums] using he⟩ ?_
    rintro j ⟨hj, hej⟩
    by_cases hjl : j < d.features[k].frames.length
    · rw [List.drop_eq_getElem_cons hjl] at hej
      simp only [List.flatMap_cons] at hej
      have hxx := hff.2.2 _ (List.getElem_mem hjl)
      simp [hjl]
      refine w_loopP (fun m : Nat => ⟨[(1, .at (.loc 1 0)), (3, .n k), (4, .sl (d.features[k].frames.map Frame.row)), (5, .n j), (6, .n m)], [(1, .var (d.row.map A.d))]⟩)
        (fun m => m ≤ d.features[k].frames[j].datums.length ∧ firstI ((d.features[k].frames[j].datums.drop m ++ (d.features[k].frames.drop (j + 1)).flatMap (fun x => x.datums) ++ allDatums (d.features.drop (k + 1))).map (datumErr d)) = T) (fun m => d.features[k].frames[j].datums.length - m) 0 (by simp) ⟨Nat.zero_le _, by simpa using hej⟩ ?_
      rintro m ⟨hm, hem⟩
      by_cases hml : m < d.features[k].frames[j].datums.length
      · rw [List.drop_eq_getElem_cons hml] at hem
        simp only [List.cons_append, List.map_cons, firstI_cons] at hem
        simp [hjl, hml]
        refine ⟨_, s_r20_Index hG d _ hd.2.1, ?_⟩
        have hnext : datumErr d d.features[k].frames[j].datums[m] = 0 → ∃ a' : Nat, IntKind.i64.wrap ((m : Int) + 1) = (a' : Int) ∧ (a' ≤ d.features[k].frames[j].datums.length ∧ firstI (List.map (datumErr d) (d.features[k].frames[j].datums.drop a' ++ ((d.features[k].frames.drop (j + 1)).flatMap (fun x => x.datums) ++ allDatums (d.features.drop (k + 1))))) = T) ∧ d.features[k].frames[j].datums.length - a' < d.features[k].frames[j].datums.length - m := by
          intro h
          rw [if_pos h] at hem
          exact ⟨m + 1, wrap_succ hml (by have := hxx.1; omega), ⟨hml, by simpa using hem⟩, by omega⟩
        rcases place_range d d.features[k].frames[j].datums[m].name with hpl | ⟨q, hq, hpl, _⟩
        · have hde : datumErr d d.features[k].frames[j].datums[m] = 6 := by simp [datumErr, hpl]
          rw [hde, if_neg (by omega)] at hem
          simp [hpl]; exact hem
        · have hq0 : ¬ (q : Int) < 0 := by omega
          by_cases g1 : d.features[k].frames[j].datums[m].mat = 0
          · have hde : datumErr d d.features[k].frames[j].datums[m] = 0 := by simp [datumErr, hpl, g1]
            simp [hpl, g1, eq_false hq0]
            simpa using hnext hde
          · by_cases g2 : d.features[q].kind = 0
            · have hde : datumErr d d.features[k].frames[j].datums[m] = 3 := by simp [datumErr, hpl, g1, hq, g2]
              rw [hde, if_neg (by omega)] at hem
              simp [hpl, g1, hq, g2, eq_false hq0]; exact hem
            · have hde : datumErr d d.features[k].frames[j].datums[m] = 0 := by simp [datumErr, hpl, g1, hq, g2]
              simp [hpl, g1, hq, g2, eq_false hq0]
              simpa using hnext hde
      · have : m = d.features[k].frames[j].datums.length := by omega
        subst this
        simp at hem
        simp [hjl]
        exact ⟨j + 1, wrap_succ hjl (by have := hff.2.1; omega), ⟨hjl, by simpa using hem⟩, by omega⟩
    · have : j = d.features[k].frames.length := by omega
      subst this
      simp at hej
      simp
      exact ⟨k + 1, wrap_succ hlt (by omega), ⟨hlt, by simpa using hej⟩, by omega⟩
  · have : k = d.features.length := by omega
    subst this
    simp [allDatums, firstI] at he
    simp [he]
end
end Go.Proofs.YtpfhfokfambdaaaGreatDoor
