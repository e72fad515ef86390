/- A part of the proof of a law of this seat: KG; no conditions. -/
import Derived.Test.YtpfhfokfambdaaaGreatDoorDcSp
import Derived.Test.YtpfhfokfambdaaaGreatDoorDcd
import Derived.Test.YtpfhfokfambdaaaGreatDoorDce
/-! Contracts: the generic functions on slices, at the types of the drawing laws. (Printed by kg.py.) -/
set_option linter.unusedSimpArgs false
namespace Go.Proofs.YtpfhfokfambdaaaGreatDoor
open Ev
open Go.RowKit (Below)
/-- The program's row of what a kind of frames may have. -/
structure FRow where
  word : Str
  on : Str
  disc : Str
  least : Int
  most : Int
  mat : Bool
abbrev FRow.row (r : FRow) : List D := [.str r.word, .str r.on, .str r.disc, .i r.least, .i r.most, .bool r.mat]
def idxI {α : Type} (p : α → Bool) : List α → Int
  | [] => -1
  | a :: l => if p a then 0 else if idxI p l = -1 then -1 else idxI p l + 1
theorem idxI_range {α : Type} (p : α → Bool) : ∀ l : List α, (idxI p l = -1 ∧ l.any p = false) ∨ (∃ (k : Nat) (h : k < l.length), idxI p l = k ∧ p l[k] = true ∧ (l.take k).any p = false)
  | [] => .inl ⟨rfl, rfl⟩
  | a :: l => by
    simp only [idxI]
    by_cases h : p a
    · exact .inr ⟨0, by simp, by simp [h], by simpa using h, by simp⟩
    · rcases idxI_range p l with ⟨h1, h2⟩ | ⟨k, hk, h1, h2, h3⟩
      · exact .inl ⟨by simp [h, h1], by simp [h, h2]⟩
      · refine .inr ⟨k + 1, by simpa using hk, ?_, by simpa using h2, by simp [h, h3]⟩
        rw [if_neg h, if_neg (by omega), h1]
        rfl
theorem idxI_at {α : Type} {p : α → Bool} {l : List α} {k : Nat} (h : k < l.length) (hp : p l[k] = true) (hb : (l.take k).any p = false) : idxI p l = k := by
  rcases idxI_range p l with ⟨_, h2⟩ | ⟨j, hj, h1, h2, h3⟩
  · rw [List.any_eq_false] at h2
    exact absurd hp (h2 _ (List.getElem_mem h))
  · rw [h1]
    rcases Nat.lt_trichotomy j k with hlt | heq | hgt
    · rw [List.any_eq_false] at hb
      have : l[j] ∈ l.take k := List.mem_take_iff_getElem.2 ⟨j, by omega, rfl⟩
      exact absurd h2 (hb _ this)
    · rw [heq]
    · rw [List.any_eq_false] at h3
      have : l[k] ∈ l.take j := List.mem_take_iff_getElem.2 ⟨k, by omega, rfl⟩
      exact absurd hp (h3 _ this)
theorem idxI_none {α : Type} {p : α → Bool} {l : List α} (hb : l.any p = false) : idxI p l = -1 := by
  rcases idxI_range p l with ⟨h1, _⟩ | ⟨j, hj, _, h2, _⟩
  · exact h1
  · rw [List.any_eq_false] at hb
    exact absurd h2 (hb _ (List.getElem_mem hj))
theorem any_take {α : Type} {l : List α} {p : α → Bool} {k : Nat} (h : k < l.length) : (l.take (k + 1)).any p = ((l.take k).any p || p l[k]) := by
  rw [List.take_succ_eq_append_getElem h, List.any_append]
  simp [-List.take_append_getElem]
theorem idxI_nonneg {α : Type} (p : α → Bool) (l : List α) : decide (idxI p l ≥ 0) = l.any p := by
  rcases idxI_range p l with ⟨h1, h2⟩ | ⟨k, hk, h1, h2, h3⟩
  · rw [h1, h2]; rfl
  · have : l.any p = true := List.any_eq_true.2 ⟨_, List.getElem_mem hk, h2⟩
    rw [h1, this]
    simp
attribute [-simp] ite_self
section
variable {G : World → Prop} (hG : ∀ w w', G w → Below w.heap.size w w' → G w')
include hG
theorem s_idxF_Datum {f : FuncId} {caps : List D} {p : Datum → Bool} (l : List Datum) (hl : l.length ≤ 4611686018427387904) (hp : ∀ a ∈ l, Sat G Tryz.prog f ((.agg a.row) :: caps) (.bool (p a))) : Sat G Tryz.prog 214 [.slice (l.map Datum.row), .fn f caps] (.i (idxI p l)) := by
  refine sat_of hG Tryz.func214 k_slices_IndexFunc_api_Datum_api_Datum ?_
  simp [c_slices_IndexFunc_api_Datum_api_Datum]
  refine w_loopP (fun k : Nat => ⟨[(0, .sl (l.map Datum.row)), (1, .at (.d (.fn f caps))), (7, .n l.length), (8, .n k)], []⟩) (fun k => k ≤ l.length ∧ (l.take k).any p = false) (fun k => l.length - k) 0 rfl ⟨Nat.zero_le _, by simp⟩ ?_
  rintro k ⟨hk, he⟩
  by_cases hlt : k < l.length
  · have ht := any_take (p := p) hlt
    simp [hlt]
    refine ⟨_, hp _ (List.getElem_mem hlt), ?_⟩
    cases hb : p l[k]
    · simp
      exact ⟨k + 1, wrap_succ hlt (by omega), ⟨hlt, by simpa [he, hb] using ht⟩, by omega⟩
    · simp
      exact (idxI_at hlt hb he).symm
  · have : k = l.length := by omega
    subst this
    rw [List.take_length] at he
    simp [idxI_none he]
theorem s_idxF_Feature {f : FuncId} {caps : List D} {p : Feature → Bool} (l : List Feature) (hl : l.length ≤ 4611686018427387904) (hp : ∀ a ∈ l, Sat G Tryz.prog f ((.agg a.row) :: caps) (.bool (p a))) : Sat G Tryz.prog 116 [.slice (l.map Feature.row), .fn f caps] (.i (idxI p l)) := by
  refine sat_of hG Tryz.func116 k_slices_IndexFunc_api_Feature_api_Feature ?_
  simp [c_slices_IndexFunc_api_Feature_api_Feature]
  refine w_loopP (fun k : Nat => ⟨[(0, .sl (l.map Feature.row)), (1, .at (.d (.fn f caps))), (7, .n l.length), (8, .n k)], []⟩) (fun k => k ≤ l.length ∧ (l.take k).any p = false) (fun k => l.length - k) 0 rfl ⟨Nat.zero_le _, by simp⟩ ?_
  rintro k ⟨hk, he⟩
  by_cases hlt : k < l.length
  · have ht := any_take (p := p) hlt
    simp [hlt]
    refine ⟨_, hp _ (List.getElem_mem hlt), ?_⟩
    cases hb : p l[k]
    · simp
      exact ⟨k + 1, wrap_succ hlt (by omega), ⟨hlt, by simpa [he, hb] using ht⟩, by omega⟩
    · simp
      exact (idxI_at hlt hb he).symm
  · have : k = l.length := by omega
    subst this
    rw [List.take_length] at he
    simp [idxI_none he]
theorem s_conF_Datum {f : FuncId} {caps : List D} {p : Datum → Bool} (l : List Datum) (hl : l.length ≤ 4611686018427387904) (hp : ∀ a ∈ l, Sat G Tryz.prog f ((.agg a.row) :: caps) (.bool (p a))) : Sat G Tryz.prog 169 [.slice (l.map Datum.row), .fn f caps] (.bool (l.any p)) := by
  refine sat_of hG Tryz.func169 k_slices_ContainsFunc_api_Datum_api_Datum ?_
  simp [c_slices_ContainsFunc_api_Datum_api_Datum]
  refine ⟨_, s_idxF_Datum hG l hl hp, ?_⟩
  have := idxI_nonneg p l
  simp at this ⊢
  exact this
end
end Go.Proofs.YtpfhfokfambdaaaGreatDoor
