/- A part of the proof of a law of this seat: K1; no conditions. -/
import Derived.Test.YtpfhfokfambdaaaGreatDoorDcSp
import Derived.Test.YtpfhfokfambdaaaGreatDoorDcd
import Derived.Test.YtpfhfokfambdaaaGreatDoorDce
/-! Contracts: dimensions. -/
namespace Go.Proofs.YtpfhfokfambdaaaGreatDoor
open Ev
open Go.RowKit (Below)

def letterI (n : Int) : Bool := decide (65 ≤ n) && decide (n ≤ 90) || decide (97 ≤ n) && decide (n ≤ 122)
def digitI (n : Int) : Bool := decide (48 ≤ n) && decide (n ≤ 57)
abbrev byteI (b : UInt8) : Int := (b.toNat : Int)
def inCoord (n : Int) : Bool := decide (-100000 ≤ n ∧ n ≤ 100000)
def limErr (lo hi : Int) : Int := if !inCoord lo || !inCoord hi then 2 else if hi < lo then 9 else 0
def nameErr (s : Str) : Int := if 24 < s.length then 17 else match s with
  | [] => 3
  | b :: _ => if !letterI (byteI b) then 3 else if s.all fun b => letterI (byteI b) || digitI (byteI b) then 0 else 3

section
variable {G : World → Prop} (hG : ∀ w w', G w → Below w.heap.size w w' → G w')
include hG
theorem s_dim_ranged (n : Int) : Sat G Tryz.prog 206 [.i n] (.bool (inCoord n)) := by
  refine sat_of hG Tryz.func206 k_dimension_ranged ?_
  simp +contextual [c_dimension_ranged, inCoord, -Int.not_le, -Int.not_lt]
theorem s_dim_letter (n : Int) : Sat G Tryz.prog 91 [.int .u8 n] (.bool (letterI n)) := by
  refine sat_of hG Tryz.func91 k_dimension_letter ?_
  simp +contextual [ite_both, c_dimension_letter, letterI, -Int.not_le, -Int.not_lt]
theorem s_dim_digit (n : Int) : Sat G Tryz.prog 92 [.int .u8 n] (.bool (digitI n)) := by
  refine sat_of hG Tryz.func92 k_dimension_digit ?_
  simp +contextual [c_dimension_digit, digitI, -Int.not_le, -Int.not_lt]
theorem s_dim_Check (lo hi : Int) : Sat G Tryz.prog 157 [.agg [.i lo, .i hi]] (.i (limErr lo hi)) := by
  refine sat_of hG Tryz.func157 k_dimension_Check ?_
  simp +contextual [ite_both, c_dimension_Check]
  refine ⟨_, s_dim_ranged hG lo, ?_⟩
  simp +contextual [limErr]
  intro h1
  refine ⟨_, s_dim_ranged hG hi, ?_⟩
  simp +contextual
theorem s_dim_Name (s : Str) : Sat G Tryz.prog 43 [.str s] (.i (nameErr s)) := by
  refine sat_of hG Tryz.func43 k_dimension_Name ?_
  by_cases h1 : 24 < s.length
  · have : (24 : Int) < (s.length : Int) := by omega
    simp [c_dimension_Name, this, h1, nameErr]
  · have h1' : ¬ (24 : Int) < (s.length : Int) := by omega
    by_cases h2 : s = []
    · simp [c_dimension_Name, nameErr, h2]
    · obtain ⟨b, hb⟩ : ∃ b, s[0]? = some b := ⟨_, List.getElem?_eq_getElem (List.length_pos_iff.2 h2)⟩
      simp [c_dimension_Name, h1', h2, hb, -Int.not_lt]
      refine ⟨_, s_dim_letter hG _, ?_⟩
      have hn : nameErr s = if !letterI (byteI b) then 3 else if s.all fun b => letterI (byteI b) || digitI (byteI b) then 0 else 3 := by
        cases s with
        | nil => exact absurd rfl h2
        | cons c s => simp at hb; subst hb; simp only [nameErr, h1, if_false]
      cases hl : letterI (byteI b)
      · simp [hn, hl]
      · simp
        refine w_loopP (fun k : Nat => ⟨[(17, .sl (s.map fun b => [D.int .u8 (b.toNat : Int)])), (18, .n s.length), (19, .n k)], []⟩) (fun k => k ≤ s.length ∧ ∀ c ∈ s.take k, (letterI (byteI c) || digitI (byteI c)) = true) (fun k => s.length - k) 0 rfl ⟨Nat.zero_le _, fun c hc => by simp at hc⟩ ?_
        rintro k ⟨hk, hall⟩
        by_cases hlt : k < s.length
        · simp [hlt]
          refine ⟨_, s_dim_letter hG _, ?_⟩
          have hnext : (letterI (byteI s[k]) || digitI (byteI s[k])) = true → ∃ a' : Nat, IntKind.i64.wrap ((k : Int) + 1) = (a' : Int) ∧ (a' ≤ s.length ∧ ∀ c ∈ s.take a', letterI (byteI c) = true ∨ digitI (byteI c) = true) ∧ s.length - a' < s.length - k := by
            intro h
            refine ⟨k + 1, wrap_succ hlt (by omega), ⟨hlt, fun c hc => ?_⟩, by omega⟩
            rw [List.take_succ_eq_append_getElem hlt] at hc
            rcases List.mem_append.1 hc with hc | hc
            · simpa using hall c hc
            · rw [List.mem_singleton] at hc
              subst hc
              simpa using h
          have hbad : (letterI (byteI s[k]) || digitI (byteI s[k])) = false → 3 = nameErr s := by
            intro h
            rw [hn, hl]
            simp only [Bool.not_true, Bool.false_eq_true, if_false]
            rw [if_neg]
            intro ha
            rw [List.all_eq_true] at ha
            rw [ha _ (List.getElem_mem hlt)] at h
            cases h
          cases hl1 : letterI (byteI s[k])
          · simp
            refine ⟨_, s_dim_digit hG _, ?_⟩
            cases hd1 : digitI (byteI s[k])
            · simpa using hbad (by simp [hl1, hd1])
            · simpa using hnext (by simp [hd1])
          · simpa using hnext (by simp [hl1])
        · simp [hlt]
          rw [hn, hl]
          have : k = s.length := by omega
          subst this
          rw [List.take_length] at hall
          simp
          intro c hc h
          simpa [h] using hall c hc
end
end Go.Proofs.YtpfhfokfambdaaaGreatDoor
