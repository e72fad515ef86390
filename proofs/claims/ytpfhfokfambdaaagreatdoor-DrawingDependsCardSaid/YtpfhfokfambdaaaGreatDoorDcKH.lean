/- A part of the proof of a law of this seat: KH; no conditions. -/
import Derived.Test.YtpfhfokfambdaaaGreatDoorDcK5
import Derived.Test.YtpfhfokfambdaaaGreatDoorDcKG
/-! Contracts: comparing, searching. -/
set_option linter.unusedSimpArgs false
namespace Go.Proofs.YtpfhfokfambdaaaGreatDoor
open Ev
open Go.RowKit (Below)
def cmpI (a b : Int) : Int := if a < b then -1 else if b < a then 1 else 0
def cmpS (a b : Str) : Int := if Op.bytesLess a b then -1 else if a = b then 0 else 1
def sortedS (l : List Str) : Prop := ∀ (i : Nat) (h : i + 1 < l.length), Op.bytesLess l[i + 1] l[i] = false
noncomputable instance (l : List Str) : Decidable (sortedS l) := Classical.propDecidable _
theorem wrap_pred {k : Nat} (h : 0 < k) (hn : k ≤ 4611686018427387904) : IntKind.i64.wrap ((k : Int) - 1) = ((k - 1 : Nat) : Int) := by
  rw [wrap_id (by omega) (by omega)]; omega
attribute [-simp] ite_self
section
variable {G : World → Prop} (hG : ∀ w w', G w → Below w.heap.size w w' → G w')
include hG
theorem s_cmpOr (l : List Int) (hl : l.length ≤ 4611686018427387904) : Sat G Tryz.prog 147 [.slice (l.map fun n => [.i n])] (.i (firstI l)) := by
  refine sat_of hG Tryz.func147 k_cmp_Or_int ?_
  simp [c_cmp_Or_int]
  refine w_loopP (fun k : Nat => ⟨[(3, .n 0), (6, .sl (l.map fun n => [D.i n])), (7, .n l.length), (8, .n k)], []⟩) (fun k => k ≤ l.length ∧ firstI l = firstI (l.drop k)) (fun k => l.length - k) 0 rfl ⟨Nat.zero_le _, rfl⟩ ?_
  rintro k ⟨hk, he⟩
  by_cases hlt : k < l.length
  · rw [List.drop_eq_getElem_cons hlt] at he
    simp only [firstI] at he
    by_cases h0 : l[k] = 0
    · rw [if_pos h0] at he
      simp [hlt, h0]
      exact ⟨k + 1, wrap_succ hlt (by omega), ⟨hlt, he⟩, by omega⟩
    · rw [if_neg h0] at he
      simp [hlt, h0]
      exact he.symm
  · have : k = l.length := by omega
    subst this
    simp [firstI] at he
    simp [he]
theorem s_nanI (n : Int) : Sat G Tryz.prog 199 [.i n] (.bool false) := by
  refine sat_of hG Tryz.func199 k_cmp_isNaN_int ?_
  simp [c_cmp_isNaN_int]
theorem s_nanS (n : Str) : Sat G Tryz.prog 118 [.str n] (.bool false) := by
  refine sat_of hG Tryz.func118 k_cmp_isNaN_string ?_
  simp [c_cmp_isNaN_string]
theorem s_cmpI (a b : Int) : Sat G Tryz.prog 149 [.i a, .i b] (.i (cmpI a b)) := by
  refine sat_of hG Tryz.func149 k_cmp_Compare_int ?_
  simp [c_cmp_Compare_int]
  refine ⟨_, s_nanI hG _, ?_⟩
  simp
  refine ⟨_, s_nanI hG _, ?_⟩
  by_cases h1 : a < b
  · simp [h1, cmpI]
  · have h1' := Int.not_lt.1 h1
    by_cases h2 : b < a <;> simp [eq_false h1, h1', h2, cmpI]
theorem s_cmpS (a b : Str) : Sat G Tryz.prog 148 [.str a, .str b] (.i (cmpS a b)) := by
  refine sat_of hG Tryz.func148 k_cmp_Compare_string ?_
  simp [c_cmp_Compare_string]
  refine ⟨_, s_nanS hG _, ?_⟩
  simp
  refine ⟨_, s_nanS hG _, ?_⟩
  cases h1 : Op.bytesLess a b
  · by_cases h2 : a = b <;> simp [h1, h2, cmpS] <;> (subst h2; simp_all)
  · simp [h1, cmpS]
theorem s_lessS (a b : Str) : Sat G Tryz.prog 64 [.str a, .str b] (.bool (Op.bytesLess a b)) := by
  refine sat_of hG Tryz.func64 k_cmp_Less_string ?_
  simp [c_cmp_Less_string]
  refine ⟨_, s_nanS hG _, ?_⟩
  simp
theorem s_indexS (l : List Str) (s : Str) (hl : l.length ≤ 4611686018427387904) : Sat G Tryz.prog 63 [strs l, .str s] (.i (idxI (fun t => decide (s = t)) l)) := by
  refine sat_of hG Tryz.func63 k_slices_Index_string_string ?_
  simp [c_slices_Index_string_string]
  refine w_loopP (fun k : Nat => ⟨[(0, .sl (l.map fun s => [D.str s])), (1, .s s), (7, .n l.length), (8, .n k)], []⟩) (fun k => k ≤ l.length ∧ (l.take k).any (fun t => decide (s = t)) = false) (fun k => l.length - k) 0 rfl ⟨Nat.zero_le _, by simp⟩ ?_
  rintro k ⟨hk, he⟩
  by_cases hlt : k < l.length
  · have ht := any_take (p := fun t => decide (s = t)) hlt
    by_cases h1 : s = l[k]
    · have := (idxI_at (p := fun t => decide (s = t)) hlt (by simp [← h1]) he).symm
      simp [hlt, ← h1]
      exact this
    · simp [hlt, h1]
      exact ⟨k + 1, wrap_succ hlt (by omega), ⟨hlt, by simpa [he, h1] using ht⟩, by omega⟩
  · have : k = l.length := by omega
    subst this
    rw [List.take_length] at he
    simp [idxI_none he]
theorem s_containsS (l : List Str) (s : Str) (hl : l.length ≤ 4611686018427387904) : Sat G Tryz.prog 22 [strs l, .str s] (.bool (decide (s ∈ l))) := by
  refine sat_of hG Tryz.func22 k_slices_Contains_string_string ?_
  simp [c_slices_Contains_string_string]
  refine ⟨_, s_indexS hG l s hl, ?_⟩
  have h1 := idxI_nonneg (fun t => decide (s = t)) l
  have h2 : l.any (fun t => decide (s = t)) = decide (s ∈ l) := by
    rw [Bool.eq_iff_iff]; simp
  rw [h2] at h1
  simp at h1 ⊢
  exact h1
theorem s_equalS (a b : List Str) (hl : a.length ≤ 4611686018427387904) : Sat G Tryz.prog 15 [strs a, strs b] (.bool (decide (a = b))) := by
  refine sat_of hG Tryz.func15 k_slices_Equal_string_string ?_
  by_cases h0 : a.length = b.length
  · have h0' : (a.length : Int) = b.length := by omega
    simp [c_slices_Equal_string_string, h0']
    refine w_loopP (fun k : Nat => ⟨[(0, .sl (a.map fun s => [D.str s])), (1, .sl (b.map fun s => [D.str s])), (12, .n b.length), (13, .n k)], []⟩) (fun k => k ≤ a.length ∧ a.take k = b.take k) (fun k => a.length - k) 0 (by simp [h0']) ⟨Nat.zero_le _, by simp⟩ ?_
    rintro k ⟨hk, he⟩
    by_cases hlt : k < a.length
    · have hltb : k < b.length := by omega
      have hltI : (k : Int) < b.length := by omega
      by_cases h1 : a[k] = b[k]
      · simp [hlt, hltb, hltI, h1]
        exact ⟨k + 1, wrap_succ hlt (by omega), ⟨hlt, take_eq hlt hltb he h1⟩, by omega⟩
      · simp [hlt, hltb, hltI, h1]
        exact ne_of_get hlt hltb h1
    · have : k = a.length := by omega
      subst this
      rw [List.take_length, h0, List.take_length] at he
      simp [h0', he]
  · have h0' : ¬ (a.length : Int) = b.length := by omega
    simp [c_slices_Equal_string_string, h0']
    intro h; exact h0 (by rw [h])
theorem s_isSorted (l : List Str) (hl : l.length ≤ 4611686018427387904) : Sat G Tryz.prog 23 [strs l] (.bool (decide (sortedS l))) := by
  refine sat_of hG Tryz.func23 k_slices_IsSorted_string_string ?_
  simp [c_slices_IsSorted_string_string]
  by_cases h0 : l = []
  · subst h0
    simp [sortedS, wrap_id]
    refine w_loopP (fun k : Nat => ⟨[(0, .sl []), (3, .n (-1))], []⟩) (fun k => True) (fun k => 0) 0 (by simp) trivial ?_
    intro k _
    simp
  have hp : 0 < l.length := List.length_pos_iff.2 h0
  refine w_loopP (fun k : Nat => ⟨[(0, .sl (l.map fun s => [D.str s])), (3, .n k)], []⟩) (fun k => k < l.length ∧ ∀ (i : Nat) (h : i + 1 < l.length), k < i + 1 → Op.bytesLess l[i + 1] l[i] = false) (fun k => k) (l.length - 1) (by simp [wrap_pred hp hl]) ⟨by omega, fun i h hi => by omega⟩ ?_
  rintro k ⟨hk, he⟩
  by_cases hlt : 0 < k
  · have hltI : (0 : Int) < k := by omega
    have hw := wrap_pred hlt (by omega)
    have hge : ¬ (k : Int) - 1 < 0 := by omega
    have hk1 : k - 1 < l.length := by omega
    simp [hltI, hk, hw, hk1, hlt]
    refine ⟨_, s_lessS hG _ _, ?_⟩
    cases hb : Op.bytesLess l[k] l[k - 1]
    · simp
      refine ⟨k - 1, hw, ⟨by omega, fun i h hi => ?_⟩, by omega⟩
      by_cases e : k = i + 1
      · subst e; simpa using hb
      · exact he i h (by omega)
    · simp
      intro hs
      have := hs (k - 1) (by omega)
      have e : k - 1 + 1 = k := by omega
      simp only [e] at this
      rw [this] at hb
      cases hb
  · have : k = 0 := by omega
    subst this
    simp
    intro i h
    exact he i h (by omega)
end
end Go.Proofs.YtpfhfokfambdaaaGreatDoor
