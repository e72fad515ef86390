/- A part of the proof of a law of this seat: KI; no conditions. -/
import Derived.Test.YtpfhfokfambdaaaGreatDoorDcKH
/-! Contracts: binary search. -/
set_option linter.unusedSimpArgs false
namespace Go.Proofs.YtpfhfokfambdaaaGreatDoor
open Ev
open Go.RowKit (Below)
theorem wrap_u {n : Int} (h1 : 0 ≤ n) (h2 : n ≤ 18446744073709551615) : IntKind.u64.wrap n = n := by
  unfold IntKind.wrap
  simp [IntKind.bits, IntKind.signed]
  omega
attribute [-simp] ite_self
section
variable {G : World → Prop} (hG : ∀ w w', G w → Below w.heap.size w w' → G w')
include hG
theorem s_search_Feature {f : FuncId} {caps : List D} {c : Feature → Int} (l : List Feature) (s : Str) (m : Nat) (hl : l.length ≤ 4611686018427387904) (hm : m ≤ l.length) (hlt : ∀ (h : Nat) (hh : h < l.length), c l[h] < 0 ↔ h < m) (hp : ∀ a ∈ l, Sat G Tryz.prog f ([D.agg a.row, D.str s] ++ caps) (.i (c a))) :
    Sat G Tryz.prog 131 [.slice (l.map Feature.row), D.str s, .fn f caps] (.tup [.i m, .bool (match l[m]? with | some a => decide (c a = 0) | none => false)]) := by
  refine sat_of hG Tryz.func131 k_slices_BinarySearchFunc_api_Feature_api_Feature_string ?_
  simp [c_slices_BinarySearchFunc_api_Feature_api_Feature_string]
  refine w_loopP (fun p : Nat × Nat => ⟨[(0, .sl (l.map Feature.row)), (1, .at (.d (D.str s))), (2, .at (.d (.fn f caps))), (8, .n l.length), (9, .n p.1), (10, .n p.2)], []⟩) (fun p => p.1 ≤ m ∧ m ≤ p.2 ∧ p.2 ≤ l.length) (fun p => p.2 - p.1) (0, l.length) rfl ⟨Nat.zero_le _, hm, Nat.le_refl _⟩ ?_
  rintro ⟨i, j⟩ ⟨h1, h2, h3⟩
  simp only at h1 h2 h3
  by_cases hij : i < j
  · have hijI : (i : Int) < j := by omega
    have w1 : IntKind.i64.wrap ((i : Int) + j) = (i : Int) + j := wrap_id (by omega) (by omega)
    have w2 : IntKind.u64.wrap ((i : Int) + j) = (i : Int) + j := wrap_u (by omega) (by omega)
    obtain ⟨h, he, hi1, hi2⟩ : ∃ h : Nat, ((i : Int) + j) / 2 = (h : Int) ∧ i ≤ h ∧ h < j := ⟨(i + j) / 2, by omega, by omega, by omega⟩
    have w3 : IntKind.i64.wrap (h : Int) = (h : Int) := wrap_id (by omega) (by omega)
    have hh : h < l.length := by omega
    simp [hijI, hij, w1, w2, he, w3, hh]
    refine ⟨_, hp _ (List.getElem_mem hh), ?_⟩
    by_cases hc : c l[h] < 0
    · have := (hlt _ hh).1 hc
      simp [hc]
      exact ⟨h + 1, j, ⟨wrap_succ hh (by omega), rfl⟩, ⟨by omega, h2, h3⟩, by omega⟩
    · have := mt (hlt _ hh).2 hc
      simp [hc]
      exact ⟨i, h, ⟨rfl, rfl⟩, ⟨h1, by omega, by omega⟩, by omega⟩
  · have e : i = m := by omega
    have e2 : j = m := by omega
    subst e; subst e2
    by_cases hml : j < l.length
    · have hmlI : (j : Int) < l.length := by omega
      simp [hml, hmlI]
      refine ⟨_, hp _ (List.getElem_mem hml), ?_⟩
      simp
      rw [Bool.eq_iff_iff]; simp
    · have hmlI : ¬ (j : Int) < l.length := by omega
      simp [hml, hmlI]
theorem s_search_Dimension {f : FuncId} {caps : List D} {c : Dim → Int} (l : List Dim) (s : Dim) (m : Nat) (hl : l.length ≤ 4611686018427387904) (hm : m ≤ l.length) (hlt : ∀ (h : Nat) (hh : h < l.length), c l[h] < 0 ↔ h < m) (hp : ∀ a ∈ l, Sat G Tryz.prog f ([D.agg a.row, D.agg s.row] ++ caps) (.i (c a))) :
    Sat G Tryz.prog 110 [.slice (l.map Dim.row), D.agg s.row, .fn f caps] (.tup [.i m, .bool (match l[m]? with | some a => decide (c a = 0) | none => false)]) := by
  refine sat_of hG Tryz.func110 k_slices_BinarySearchFunc_api_Dimension_api_Dimension_api_Dimension ?_
  simp [c_slices_BinarySearchFunc_api_Dimension_api_Dimension_api_Dimension]
  refine w_loopP (fun p : Nat × Nat => ⟨[(0, .sl (l.map Dim.row)), (2, .at (.d (.fn f caps))), (4, .at (.loc 4 0)), (8, .n l.length), (9, .n p.1), (10, .n p.2)], [(4, .var (s.row.map A.d))]⟩) (fun p => p.1 ≤ m ∧ m ≤ p.2 ∧ p.2 ≤ l.length) (fun p => p.2 - p.1) (0, l.length) (by simp) ⟨Nat.zero_le _, hm, Nat.le_refl _⟩ ?_
  rintro ⟨i, j⟩ ⟨h1, h2, h3⟩
  simp only at h1 h2 h3
  by_cases hij : i < j
  · have hijI : (i : Int) < j := by omega
    have w1 : IntKind.i64.wrap ((i : Int) + j) = (i : Int) + j := wrap_id (by omega) (by omega)
    have w2 : IntKind.u64.wrap ((i : Int) + j) = (i : Int) + j := wrap_u (by omega) (by omega)
    obtain ⟨h, he, hi1, hi2⟩ : ∃ h : Nat, ((i : Int) + j) / 2 = (h : Int) ∧ i ≤ h ∧ h < j := ⟨(i + j) / 2, by omega, by omega, by omega⟩
    have w3 : IntKind.i64.wrap (h : Int) = (h : Int) := wrap_id (by omega) (by omega)
    have hh : h < l.length := by omega
    simp [hijI, hij, w1, w2, he, w3, hh]
    refine ⟨_, hp _ (List.getElem_mem hh), ?_⟩
    by_cases hc : c l[h] < 0
    · have := (hlt _ hh).1 hc
      simp [hc]
      exact ⟨h + 1, j, ⟨wrap_succ hh (by omega), rfl⟩, ⟨by omega, h2, h3⟩, by omega⟩
    · have := mt (hlt _ hh).2 hc
      simp [hc]
      exact ⟨i, h, ⟨rfl, rfl⟩, ⟨h1, by omega, by omega⟩, by omega⟩
  · have e : i = m := by omega
    have e2 : j = m := by omega
    subst e; subst e2
    by_cases hml : j < l.length
    · have hmlI : (j : Int) < l.length := by omega
      simp [hml, hmlI]
      refine ⟨_, hp _ (List.getElem_mem hml), ?_⟩
      simp
      rw [Bool.eq_iff_iff]; simp
    · have hmlI : ¬ (j : Int) < l.length := by omega
      simp [hml, hmlI]
end
end Go.Proofs.YtpfhfokfambdaaaGreatDoor
