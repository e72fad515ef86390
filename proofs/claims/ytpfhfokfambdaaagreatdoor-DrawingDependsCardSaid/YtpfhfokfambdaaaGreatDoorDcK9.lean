/- A part of the proof of a law of this seat: K9; no conditions. -/
import Derived.Test.YtpfhfokfambdaaaGreatDoorDcK8
/-! Contracts: frames (the reference's checks). -/
set_option linter.unusedSimpArgs false
namespace Go.Proofs.YtpfhfokfambdaaaGreatDoor
open Ev
open Go.RowKit (Below)
attribute [-simp] ite_self
section
variable {G : World → Prop} (hG : ∀ w w', G w → Below w.heap.size w w' → G w')
include hG
set_option maxRecDepth 8192 in
theorem s_r19_datums (l : List Datum) (hl : ∀ d ∈ l, d.name.length ≤ 4611686018427387904) : Sat G Tryz.prog 237 [.slice (l.map Datum.row)] (.i (if 3 < l.length then 5 else datErr [] l)) := by
  refine sat_of hG Tryz.func237 k_metrolabref19_datums ?_
  by_cases h0 : 3 < l.length
  · have h0' : (3 : Int) < l.length := by omega
    simp [c_metrolabref19_datums, h0', h0]
  have h0' : ¬ (3 : Int) < l.length := by omega
  rw [if_neg h0]
  simp [c_metrolabref19_datums, eq_false h0', -Int.not_lt, -Int.not_le]
  refine w_loopP (fun k : Nat => ⟨[(0, .sl (l.map Datum.row)), (3, .n k)], []⟩) (fun k => k ≤ l.length ∧ datErr (l.take k) (l.drop k) = datErr [] l) (fun k => l.length - k) 0 rfl ⟨Nat.zero_le _, rfl⟩ ?_
  rintro k ⟨hk, he⟩
  by_cases hlt : k < l.length
  · rw [List.drop_eq_getElem_cons hlt] at he
    simp only [datErr] at he
    simp [hlt]
    refine ⟨_, s_r17_Name hG _ (hl _ (List.getElem_mem hlt)), ?_⟩
    by_cases g1 : nameErr l[k].name = 0
    case neg =>
      rw [if_neg g1] at he
      simp [g1]; exact he
    rw [if_pos g1] at he
    simp [g1]
    refine w_loopP (fun j : Nat => ⟨[(0, .sl (l.map Datum.row)), (3, .n k), (5, .n j)], []⟩) (fun j => j ≤ k ∧ (l.take j).any (fun y => decide (y.name = l[k].name)) = false) (fun j => k - j) 0 rfl ⟨Nat.zero_le _, by simp⟩ ?_
    rintro j ⟨hj, hje⟩
    by_cases hjk : j < k
    · have hjl : j < l.length := by omega
      have hjI : (j : Int) < k := by omega
      have ht := any_take (p := fun y : Datum => decide (y.name = l[k].name)) hjl
      by_cases g2 : l[j].name = l[k].name
      · have hany : ((l.take k).any fun y => decide (y.name = l[k].name)) = true := List.any_eq_true.2 ⟨l[j], List.mem_take_iff_getElem.2 ⟨j, by omega, rfl⟩, by simp [g2]⟩
        rw [if_pos hany] at he
        simp [hjI, hjl, hlt, hjk, g2]; exact he
      · rw [hje, decide_eq_false g2] at ht
        simp [hjI, hjl, hlt, hjk, g2]
        exact ⟨j + 1, wrap_succ hjk (by omega), ⟨hjk, by simpa using ht⟩, by omega⟩
    · have : j = k := by omega
      subst this
      rw [hje, if_neg (by simp)] at he
      simp [hlt]
      refine ⟨_, s_r19_material hG _, ?_⟩
      by_cases g3 : condErr l[j].mat = 0
      case neg =>
        rw [if_neg g3] at he
        simp [g3]; exact he
      rw [if_pos g3] at he
      simp [g3]
      refine ⟨j + 1, wrap_succ hlt (by omega), ⟨hlt, ?_⟩, by omega⟩
      rw [List.take_succ_eq_append_getElem hlt]
      exact he
  · have : k = l.length := by omega
    subst this
    simp [datErr] at he
    simp [he]
theorem s_r19_Plain (x : Frame) (hx : x.fits) : Sat G Tryz.prog 201 [.agg x.row] (.i (plainErr x)) := by
  refine sat_of hG Tryz.func201 k_metrolabref19_Plain ?_
  by_cases h1 : x.kind < 0
  · simp [c_metrolabref19_Plain, h1, plainErr]
  have h1' := Int.not_lt.1 h1
  by_cases h2 : 9 ≤ x.kind
  · simp [c_metrolabref19_Plain, eq_false h1, h1', h2, plainErr]
  have h2' := Int.not_le.1 h2
  simp [c_metrolabref19_Plain, eq_false h1, h1', eq_false h2, h2']
  refine ⟨_, s_r19_material hG _, ?_⟩
  by_cases h3 : condErr x.mat = 0
  case neg => simp [h3, plainErr, eq_false h1, eq_false h2, h2']
  have hp : plainErr x = if x.tol < 0 ∨ 100000 < x.tol then 2 else if 3 < x.datums.length then 5 else datErr [] x.datums := by
    unfold plainErr
    rw [if_neg (by omega), if_pos h3]
  by_cases h4 : x.tol < 0
  · simp [h3, h4, hp]
  have h4' := Int.not_lt.1 h4
  by_cases h5 : 100000 < x.tol
  · simp [h3, eq_false h4, h4', h5, hp]
  have h5' := Int.not_lt.1 h5
  rw [if_neg (by omega)] at hp
  simp [h3, eq_false h4, h4', eq_false h5, h5']
  refine ⟨_, s_r19_datums hG _ hx.2, ?_⟩
  simp [hp]
theorem s_r19_Check (f : Feature) (x : Frame) (hf : f.name.length ≤ 4611686018427387904) (hx : x.fits) : Sat G Tryz.prog 151 [.agg f.row, .agg x.row] (.i (frameErr f x)) := by
  refine sat_of hG Tryz.func151 k_metrolabref19_Check ?_
  simp [c_metrolabref19_Check]
  refine ⟨_, s_r18_Check hG _ hf, ?_⟩
  by_cases h1 : featErr f = 0
  case neg => simp [h1, frameErr]
  simp [h1]
  refine ⟨_, s_r19_Plain hG x hx, ?_⟩
  by_cases h2 : plainErr x = 0
  case neg => simp [h1, h2, frameErr]
  obtain ⟨_, f0, f1, _⟩ := feat_ok h1
  obtain ⟨x0, x1, _, _, _, x2, _⟩ := plain_ok h2
  have hp : frameErr f x = permErr (rowsT.getD x.kind.toNat ⟨[], [], [], 0, 0, false⟩) f x := by simp only [frameErr, h1, h2, if_true]
  rw [permErr_eq, table_eq f.kind x.kind f0 f1 x0 x1] at hp
  simp [h2]
  refine ⟨_, s_r19_permitted hG f x f0 f1 x0 x1, ?_⟩
  obtain ⟨p, hpp⟩ : ∃ p, permG (hasB (rrowsT.getD x.kind.toNat ⟨[], [], 0, 0, []⟩).on f.kind) (hasB (rrowsT.getD x.kind.toNat ⟨[], [], 0, 0, []⟩).disc f.kind) (mayM f.kind x.kind) (rrowsT.getD x.kind.toNat ⟨[], [], 0, 0, []⟩).least (rrowsT.getD x.kind.toNat ⟨[], [], 0, 0, []⟩).most x = p := ⟨_, rfl⟩
  rw [hpp] at hp ⊢
  clear hpp
  by_cases h3 : p = 0
  case neg =>
    rw [if_neg h3] at hp
    simp [h3, hp]
  rw [if_pos h3] at hp
  subst h3
  simp
  refine w_loopP (fun k : Nat => ⟨[(2, .at (.loc 2 0)), (3, .at (.loc 3 0)), (8, .n k)], [(2, .var (f.row.map A.d)), (3, .var (x.row.map A.d))]⟩) (fun k => k ≤ x.datums.length ∧ (x.datums.take k).any (fun d => decide (d.name = f.name)) = false) (fun k => x.datums.length - k) 0 (by simp) ⟨Nat.zero_le _, by simp⟩ ?_
  rintro k ⟨hk, he⟩
  by_cases hlt : k < x.datums.length
  · have ht := any_take (p := fun d : Datum => decide (d.name = f.name)) hlt
    by_cases g1 : x.datums[k].name = f.name
    · have hany : x.datums.any (fun d => decide (d.name = f.name)) = true := List.any_eq_true.2 ⟨_, List.getElem_mem hlt, by simp [g1]⟩
      rw [if_pos hany] at hp
      simp [hlt, g1, hp]
    · rw [he, decide_eq_false g1] at ht
      simp [hlt, g1]
      exact ⟨k + 1, wrap_succ hlt (by omega), ⟨hlt, by simpa using ht⟩, by omega⟩
  · have : k = x.datums.length := by omega
    subst this
    rw [List.take_length] at he
    rw [if_neg (by rw [he]; simp)] at hp
    simp [hp]
theorem s_r19_All (f : Feature) (hf : f.fits) : Sat G Tryz.prog 98 [.agg f.row] (.i (allErr f)) := by
  refine sat_of hG Tryz.func98 k_metrolabref19_All ?_
  simp [c_metrolabref19_All]
  refine ⟨_, s_r18_Check hG _ hf.1, ?_⟩
  by_cases h1 : featErr f = 0
  case neg => simp [h1, allErr]
  by_cases h2 : 8 < f.frames.length
  case pos =>
    have h2' : (8 : Int) < f.frames.length := by omega
    simp [h1, h2', allErr, h2]
  have h2' : ¬ (8 : Int) < f.frames.length := by omega
  have hp : allErr f = frsErr f [] f.frames := by simp [allErr, h1, h2]
  simp [h1, eq_false h2', -Int.not_lt, -Int.not_le]
  refine w_loopP (fun k : Nat => ⟨[(1, .at (.loc 1 0)), (4, .n k)], [(1, .var (f.row.map A.d))]⟩) (fun k => k ≤ f.frames.length ∧ frsErr f (f.frames.take k) (f.frames.drop k) = allErr f) (fun k => f.frames.length - k) 0 (by simp) ⟨Nat.zero_le _, by simp [hp]⟩ ?_
  rintro k ⟨hk, he⟩
  by_cases hlt : k < f.frames.length
  · rw [List.drop_eq_getElem_cons hlt] at he
    simp only [frsErr] at he
    simp [hlt]
    refine ⟨_, s_r19_Check hG f f.frames[k] hf.1 (hf.2.2 _ (List.getElem_mem hlt)), ?_⟩
    by_cases g1 : frameErr f f.frames[k] = 0
    case neg =>
      rw [if_neg g1] at he
      simp [g1]; exact he
    rw [if_pos g1] at he
    simp [g1]
    refine w_loopP (fun j : Nat => ⟨[(1, .at (.loc 1 0)), (4, .n k), (6, .n j)], [(1, .var (f.row.map A.d))]⟩) (fun j => j ≤ k ∧ (f.frames.take j).any (fun y => decide (y.kind = f.frames[k].kind)) = false) (fun j => k - j) 0 (by simp) ⟨Nat.zero_le _, by simp⟩ ?_
    rintro j ⟨hj, hje⟩
    by_cases hjk : j < k
    · have hjl : j < f.frames.length := by omega
      have hjI : (j : Int) < k := by omega
      have ht := any_take (p := fun y : Frame => decide (y.kind = f.frames[k].kind)) hjl
      by_cases g2 : f.frames[j].kind = f.frames[k].kind
      · have hany : ((f.frames.take k).any fun y => decide (y.kind = f.frames[k].kind)) = true := List.any_eq_true.2 ⟨f.frames[j], List.mem_take_iff_getElem.2 ⟨j, by omega, rfl⟩, by simp [g2]⟩
        rw [if_pos hany] at he
        simp [hjI, hjl, hlt, hjk, g2]; exact he
      · rw [hje, decide_eq_false g2] at ht
        simp [hjI, hjl, hlt, hjk, g2]
        exact ⟨j + 1, wrap_succ hjk (by omega), ⟨hjk, by simpa using ht⟩, by omega⟩
    · have : j = k := by omega
      subst this
      rw [hje, if_neg (by simp)] at he
      simp [hlt]
      refine ⟨j + 1, wrap_succ hlt (by omega), ⟨hlt, ?_⟩, by omega⟩
      rw [List.take_succ_eq_append_getElem hlt]
      exact he
  · have : k = f.frames.length := by omega
    subst this
    simp [frsErr] at he
    simp [he]
end
end Go.Proofs.YtpfhfokfambdaaaGreatDoor
