/- A part of the proof of a law of this seat: K2; no conditions. -/
import Derived.Test.YtpfhfokfambdaaaGreatDoorDcK1
/-! Contracts: dimensions, their checks in turn; the reference's. -/
set_option linter.unusedSimpArgs false
namespace Go.Proofs.YtpfhfokfambdaaaGreatDoor
open Ev
open Go.RowKit (Below)

/-- The first that is not zero. -/
def firstI : List Int → Int
  | [] => 0
  | e :: r => if e = 0 then firstI r else e
def dimErr (d : Dim) : Int := firstI [nameErr d.src, nameErr d.dst, if d.src = d.dst then 7 else if d.axis < 0 ∨ 3 ≤ d.axis then 1 else 0, limErr d.low d.high]

section
variable {G : World → Prop} (hG : ∀ w w', G w → Below w.heap.size w w' → G w')
include hG
theorem s_dim_limits_1 (lo hi : Int) (r : List D) : Sat G Tryz.prog 198 [.ref (.i lo :: .i hi :: r)] (.i (limErr lo hi)) := by
  refine sat_of hG Tryz.func198 k_dimension_limits_1 ?_
  simp [c_dimension_limits_1]
  exact s_dim_Check hG lo hi
theorem s_dim_limits (lo hi : Int) : Sat G Tryz.prog 146 [.agg [.i lo, .i hi]] (.fn 198 [.ref [.i lo, .i hi]]) := by
  refine sat_of hG Tryz.func146 k_dimension_limits ?_
  simp [c_dimension_limits]
theorem s_dim_name_1 (s : Str) (r : List D) : Sat G Tryz.prog 197 [.ref (.str s :: r)] (.i (nameErr s)) := by
  refine sat_of hG Tryz.func197 k_dimension_name_1 ?_
  simp [c_dimension_name_1]
  exact s_dim_Name hG s
theorem s_dim_name (s : Str) : Sat G Tryz.prog 144 [.str s] (.fn 197 [.ref [.str s]]) := by
  refine sat_of hG Tryz.func144 k_dimension_name ?_
  simp [c_dimension_name]
theorem s_dim_Valid_1 (d : Dim) : Sat G Tryz.prog 145 [.ref d.row] (.i (if d.src = d.dst then 7 else if d.axis < 0 ∨ 3 ≤ d.axis then 1 else 0)) := by
  refine sat_of hG Tryz.func145 k_dimension_Valid_1 ?_
  by_cases h1 : d.src = d.dst
  · simp [c_dimension_Valid_1, h1]
  · by_cases h2 : d.axis < 0
    · simp [c_dimension_Valid_1, h1, h2]
    · by_cases h3 : 3 ≤ d.axis <;> simp [c_dimension_Valid_1, h1, h2, h3]
theorem s_dim_first (l : List (FuncId × List D × Int)) (hl : ∀ x ∈ l, Sat G Tryz.prog x.1 x.2.1 (.i x.2.2)) (hn : l.length ≤ 1000000) : Sat G Tryz.prog 143 [.slice (l.map fun x => [.fn x.1 x.2.1])] (.i (firstI (l.map (·.2.2)))) := by
  refine sat_of hG Tryz.func143 k_dimension_first ?_
  simp [c_dimension_first]
  refine w_loopP (fun k : Nat => ⟨[(6, .sl (l.map fun x => [.fn x.1 x.2.1])), (7, .n l.length), (8, .n k)], []⟩) (fun k => k ≤ l.length ∧ firstI (l.map (·.2.2)) = firstI ((l.drop k).map (·.2.2))) (fun k => l.length - k) 0 rfl ⟨Nat.zero_le _, rfl⟩ ?_
  rintro k ⟨hk, he⟩
  by_cases hlt : k < l.length
  · simp [hlt]
    refine ⟨_, hl _ (List.getElem_mem hlt), ?_⟩
    rw [List.drop_eq_getElem_cons hlt] at he
    simp only [List.map_cons, firstI] at he
    by_cases h0 : l[k].2.2 = 0
    · simp [h0]
      rw [if_pos h0] at he
      exact ⟨k + 1, wrap_succ hlt (by omega), ⟨hlt, by simpa using he⟩, by omega⟩
    · simp [h0]
      rw [if_neg h0] at he
      exact he.symm
  · simp [hlt]
    have : k = l.length := by omega
    subst this
    simp [firstI] at he
    exact he.symm
theorem s_dim_Valid (d : Dim) : Sat G Tryz.prog 95 [.agg d.row] (.i (dimErr d)) := by
  refine sat_of hG Tryz.func95 k_dimension_Valid ?_
  simp [c_dimension_Valid]
  refine ⟨_, s_dim_name hG _, ?_⟩
  simp
  refine ⟨_, s_dim_name hG _, ?_⟩
  simp
  refine ⟨_, s_dim_limits hG _ _, ?_⟩
  simp [List.range, List.range.loop]
  refine ⟨_, s_dim_first hG [(_, _, nameErr d.src), (_, _, nameErr d.dst), (_, _, if d.src = d.dst then 7 else if d.axis < 0 ∨ 3 ≤ d.axis then 1 else 0), (_, _, limErr d.low d.high)] (fun x hx => ?_) (by simp), ?_⟩
  · simp only [List.mem_cons, List.not_mem_nil, or_false] at hx
    rcases hx with rfl | rfl | rfl | rfl
    · exact s_dim_name_1 hG _ _
    · exact s_dim_name_1 hG _ _
    · exact s_dim_Valid_1 hG d
    · exact s_dim_limits_1 hG _ _ _
  simp +decide [dimErr]

theorem s_r17_letter (n : Int) : Sat G Tryz.prog 97 [.int .u8 n] (.bool (letterI n)) := by
  refine sat_of hG Tryz.func97 k_metrolabref17_letter ?_
  by_cases h1 : 97 ≤ n <;> by_cases h2 : n ≤ 122 <;> by_cases h3 : 65 ≤ n <;> by_cases h4 : n ≤ 90 <;> simp [c_metrolabref17_letter, letterI, h1, h2, h3, h4]
theorem s_r17_In (n : Int) : Sat G Tryz.prog 200 [.i n] (.bool (inCoord n)) := by
  refine sat_of hG Tryz.func200 k_metrolabref17_In ?_
  simp +contextual [c_metrolabref17_In, inCoord, -Int.not_le, -Int.not_lt]
theorem s_r17_Check (lo hi : Int) : Sat G Tryz.prog 152 [.agg [.i lo, .i hi]] (.i (limErr lo hi)) := by
  refine sat_of hG Tryz.func152 k_metrolabref17_Check ?_
  simp [c_metrolabref17_Check]
  refine ⟨_, s_r17_In hG lo, ?_⟩
  cases h1 : inCoord lo
  · simp [limErr, h1]
  · simp
    refine ⟨_, s_r17_In hG hi, ?_⟩
    cases h2 : inCoord hi
    · simp [limErr, h1, h2]
    · by_cases h3 : hi < lo
      · simp [limErr, h1, h2, h3]
      · simp [limErr, h1, h2, h3]
theorem s_r17_Name (s : Str) (hs : s.length ≤ 4611686018427387904) : Sat G Tryz.prog 47 [.str s] (.i (nameErr s)) := by
  refine sat_of hG Tryz.func47 k_metrolabref17_Name ?_
  by_cases h1 : 24 < s.length
  · have : (24 : Int) < (s.length : Int) := by omega
    simp [c_metrolabref17_Name, this, h1, nameErr]
  · have h1' : ¬ (24 : Int) < (s.length : Int) := by omega
    by_cases h2 : s = []
    · simp [c_metrolabref17_Name, nameErr, h2]
    · obtain ⟨b, hb⟩ : ∃ b, s[0]? = some b := ⟨_, List.getElem?_eq_getElem (List.length_pos_iff.2 h2)⟩
      simp [c_metrolabref17_Name, h1', h2, hb, -Int.not_lt]
      refine ⟨_, s_r17_letter hG _, ?_⟩
      have hn : nameErr s = if !letterI (byteI b) then 3 else if s.all fun b => letterI (byteI b) || digitI (byteI b) then 0 else 3 := by
        cases s with
        | nil => exact absurd rfl h2
        | cons c s => simp at hb; subst hb; simp only [nameErr, h1, if_false]
      cases hl : letterI (byteI b)
      · simp [hn, hl]
      · simp
        refine w_loopP (fun k : Nat => ⟨[(0, .s s), (3, .n k)], []⟩) (fun k => k ≤ s.length ∧ ∀ c ∈ s.take k, (letterI (byteI c) || digitI (byteI c)) = true) (fun k => s.length - k) 0 rfl ⟨Nat.zero_le _, fun c hc => by simp at hc⟩ ?_
        rintro k ⟨hk, hall⟩
        by_cases hlt : k < s.length
        · simp [hlt]
          refine ⟨_, s_r17_letter hG _, ?_⟩
          have hnext : (letterI (byteI s[k]) || digitI (byteI s[k])) = true → ∃ a' : Nat, IntKind.i64.wrap ((k : Int) + 1) = (a' : Int) ∧ (a' ≤ s.length ∧ ∀ c ∈ s.take a', letterI (byteI c) = true ∨ digitI (byteI c) = true) ∧ s.length - a' < s.length - k := by
            intro h
            refine ⟨k + 1, wrap_succ hlt (by omega), ⟨hlt, fun c hc => ?_⟩, by omega⟩
            rw [List.take_succ_eq_append_getElem hlt] at hc
            rcases List.mem_append.1 hc with hc | hc
            · simpa using hall c hc
            · rw [List.mem_singleton] at hc
              subst hc
              simpa using h
          have hbad : (letterI (byteI s[k]) || digitI (byteI s[k])) = false → 3 = nameErr s := by
            intro h
            rw [hn, hl]
            simp only [Bool.not_true, Bool.false_eq_true, if_false]
            rw [if_neg]
            intro ha
            rw [List.all_eq_true] at ha
            rw [ha _ (List.getElem_mem hlt)] at h
            cases h
          cases hl1 : letterI (byteI s[k])
          · by_cases h3 : byteI s[k] < 48
            · simp [h3]
              exact hbad (by simp [hl1, digitI]; omega)
            · have h3' : 48 ≤ byteI s[k] := by omega
              by_cases h4 : 57 < byteI s[k]
              · simp [eq_false h3, h3', h4]
                exact hbad (by simp [hl1, digitI]; omega)
              · simp [eq_false h3, h3', eq_false h4]
                exact hnext (by simp [digitI]; omega)
          · simpa using hnext (by simp [hl1])
        · simp [hlt]
          rw [hn, hl]
          have : k = s.length := by omega
          subst this
          rw [List.take_length] at hall
          simp
          intro c hc h
          simpa [h] using hall c hc
theorem s_r17_Valid (d : Dim) (h1 : d.src.length ≤ 4611686018427387904) (h2 : d.dst.length ≤ 4611686018427387904) : Sat G Tryz.prog 99 [.agg d.row] (.i (dimErr d)) := by
  refine sat_of hG Tryz.func99 k_metrolabref17_Valid ?_
  simp [c_metrolabref17_Valid]
  refine ⟨_, s_r17_Name hG _ h1, ?_⟩
  by_cases e1 : nameErr d.src = 0
  · simp [e1]
    refine ⟨_, s_r17_Name hG _ h2, ?_⟩
    by_cases e2 : nameErr d.dst = 0
    · simp [e2]
      by_cases e3 : d.src = d.dst
      · simp [dimErr, firstI, e1, e2, e3]
      · by_cases e4 : d.axis < 0
        · simp [dimErr, firstI, e1, e2, e3, e4]
        · have e4' : 0 ≤ d.axis := by omega
          by_cases e5 : 3 ≤ d.axis
          · simp [dimErr, firstI, e1, e2, e3, e4', e5]
          · simp [e3, eq_false e4, e4', eq_false e5]
            have : dimErr d = limErr d.low d.high := by
              simp [dimErr, firstI, e1, e2, e3, e4, e5]
              intro h; exact h.symm
            rw [this]
            exact s_r17_Check hG _ _
    · simp [dimErr, firstI, e1, e2]
  · simp [dimErr, firstI, e1]
end
end Go.Proofs.YtpfhfokfambdaaaGreatDoor
