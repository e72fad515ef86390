/- A part of the proof of a law of this seat: K7; no conditions. -/
import Derived.Test.YtpfhfokfambdaaaGreatDoorDcK6
/-! Contracts: the frames of a feature (the program's). -/
set_option linter.unusedSimpArgs false
namespace Go.Proofs.YtpfhfokfambdaaaGreatDoor
open Ev
open Go.RowKit (Below)
/-- The error of frames behind others. -/
def frsErr (f : Feature) (pre : List Frame) : List Frame → Int
  | [] => 0
  | x :: r => if frameErr f x = 0 then if pre.any (fun y => decide (y.kind = x.kind)) then 7 else frsErr f (pre ++ [x]) r else frameErr f x
def allErr (f : Feature) : Int := if featErr f = 0 then if 8 < f.frames.length then 5 else frsErr f [] f.frames else featErr f
def seen (l : List Frame) (i : Int) : Bool := l.any fun y => decide (y.kind = i)
theorem seen_add (l : List Frame) (x : Frame) (i : Int) : seen (l ++ [x]) i = (seen l i || decide (x.kind = i)) := by
  simp [seen]
theorem frame_ok {f : Feature} {x : Frame} (h : frameErr f x = 0) : featErr f = 0 ∧ plainErr x = 0 := by
  unfold frameErr at h
  split at h
  · rename_i h1
    split at h
    · rename_i h2; exact ⟨h1, h2⟩
    · rename_i h2; exact absurd h h2
  · rename_i h1; exact absurd h h1
attribute [-simp] ite_self
section
variable {G : World → Prop} (hG : ∀ w w', G w → Below w.heap.size w w' → G w')
include hG
set_option maxRecDepth 8192 in
set_option maxHeartbeats 4000000 in
theorem s_frame_All (f : Feature) (hf : f.fits) : Sat G Tryz.prog 93 [.agg f.row] (.i (allErr f)) := by
  refine sat_of hG Tryz.func93 k_frame_All ?_
  simp [c_frame_All]
  refine ⟨_, s_feat_Check hG _, ?_⟩
  by_cases h1 : featErr f = 0
  case neg => simp [h1, allErr]
  by_cases h2 : 8 < f.frames.length
  case pos =>
    have h2' : (8 : Int) < f.frames.length := by omega
    simp [h1, h2', allErr, h2]
  have h2' : ¬ (8 : Int) < f.frames.length := by omega
  have hp : allErr f = frsErr f [] f.frames := by simp [allErr, h1, h2]
  simp [h1, eq_false h2', -Int.not_lt, -Int.not_le]
  refine w_loopP (fun k : Nat => ⟨[(1, .at (.loc 1 0)), (4, .at (.loc 4 0)), (18, .sl (f.frames.map Frame.row)), (19, .n f.frames.length), (20, .n k)], [(1, .var (f.row.map A.d)), (4, .var ([seen (f.frames.take k) 0, seen (f.frames.take k) 1, seen (f.frames.take k) 2, seen (f.frames.take k) 3, seen (f.frames.take k) 4, seen (f.frames.take k) 5, seen (f.frames.take k) 6, seen (f.frames.take k) 7, seen (f.frames.take k) 8].map fun b => A.d (.bool b)))]⟩) (fun k => k ≤ f.frames.length ∧ frsErr f (f.frames.take k) (f.frames.drop k) = allErr f) (fun k => f.frames.length - k) 0 (by simp [seen]) ⟨Nat.zero_le _, by simp [hp]⟩ ?_
  rintro k ⟨hk, he⟩
  by_cases hlt : k < f.frames.length
  · rw [List.drop_eq_getElem_cons hlt] at he
    simp only [frsErr] at he
    simp [hlt]
    refine ⟨_, s_frame_Check hG f f.frames[k] (hf.2.2 _ (List.getElem_mem hlt)), ?_⟩
    by_cases g1 : frameErr f f.frames[k] = 0
    case neg =>
      rw [if_neg g1] at he
      simp [g1]
      exact he
    rw [if_pos g1] at he
    obtain ⟨x0, x1, _⟩ := plain_ok (frame_ok g1).2
    have ht := List.take_succ_eq_append_getElem hlt
    have hs := fun i => seen_add (f.frames.take k) f.frames[k] i
    rw [← ht] at hs
    have hkk : f.frames[k].kind = 0 ∨ f.frames[k].kind = 1 ∨ f.frames[k].kind = 2 ∨ f.frames[k].kind = 3 ∨ f.frames[k].kind = 4 ∨ f.frames[k].kind = 5 ∨ f.frames[k].kind = 6 ∨ f.frames[k].kind = 7 ∨ f.frames[k].kind = 8 := by omega
    have hsn : seen (f.frames.take k) f.frames[k].kind = (f.frames.take k).any fun y => decide (y.kind = f.frames[k].kind) := rfl
    rw [← hsn, ← ht] at he
    rcases hkk with e | e | e | e | e | e | e | e | e
    all_goals
      rw [e] at he
      simp only [e] at hs
      simp [g1, e]
      cases g2 : seen (f.frames.take k) _
      case true =>
        rw [g2, if_pos rfl] at he
        simp [he]
      case false =>
        rw [g2, if_neg (by simp)] at he
        simp
        refine ⟨k + 1, ⟨wrap_succ hlt (by omega), ?_⟩, ⟨hlt, he⟩, by omega⟩
        simp [hs]
  · have : k = f.frames.length := by omega
    subst this
    simp [frsErr] at he
    simp [he]
end
end Go.Proofs.YtpfhfokfambdaaaGreatDoor
