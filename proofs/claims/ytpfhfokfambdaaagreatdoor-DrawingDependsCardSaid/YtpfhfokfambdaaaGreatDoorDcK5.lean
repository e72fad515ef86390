/- A part of the proof of a law of this seat: K5; no conditions. -/
import Derived.Test.YtpfhfokfambdaaaGreatDoorDcK4
/-! Contracts: the reference's few, has, same. -/
set_option linter.unusedSimpArgs false
namespace Go.Proofs.YtpfhfokfambdaaaGreatDoor
open Ev
open Go.RowKit (Below)

def Frame.fits (x : Frame) : Prop := x.datums.length ≤ 4611686018427387904 ∧ ∀ d ∈ x.datums, d.name.length ≤ 4611686018427387904
def Feature.fits (f : Feature) : Prop := f.name.length ≤ 4611686018427387904 ∧ f.frames.length ≤ 4611686018427387904 ∧ ∀ x ∈ f.frames, x.fits
def fewDims (l : List Dim) : Bool := if (10 < l.length ∧ l.length ≤ 256) ∨ 512 < l.length then false else l.all fun d => decide (d.src.length ≤ 100) && decide (d.dst.length ≤ 100)
def fewFrame (x : Frame) : Bool := decide (x.datums.length ≤ 6) && x.datums.all fun d => decide (d.name.length ≤ 100)
def fewFeat (f : Feature) : Bool := decide (f.name.length ≤ 100) && decide (f.frames.length ≤ 12) && f.frames.all fewFrame

theorem all_take {α : Type} {l : List α} {p : α → Bool} {k : Nat} (h : k < l.length) : (l.take (k + 1)).all p = ((l.take k).all p && p l[k]) := by
  rw [List.take_succ_eq_append_getElem h, List.all_append]
  simp [-List.take_append_getElem]
theorem all_false {α : Type} {l : List α} {p : α → Bool} {k : Nat} (h : k < l.length) (hp : p l[k] = false) : l.all p = false := by
  rw [Bool.eq_false_iff]
  intro ha
  rw [List.all_eq_true] at ha
  rw [ha _ (List.getElem_mem h)] at hp
  cases hp
theorem take_eq {α : Type} {a b : List α} {k : Nat} (ha : k < a.length) (hb : k < b.length) (h : a.take k = b.take k) (he : a[k] = b[k]) : a.take (k + 1) = b.take (k + 1) := by
  rw [List.take_succ_eq_append_getElem ha, List.take_succ_eq_append_getElem hb, h, he]
theorem ne_of_get {α : Type} {a b : List α} {k : Nat} (ha : k < a.length) (hb : k < b.length) (he : ¬ a[k] = b[k]) : ¬ a = b := by
  intro h
  subst h
  exact he rfl

attribute [-simp] ite_self
section
variable {G : World → Prop} (hG : ∀ w w', G w → Below w.heap.size w w' → G w')
include hG
theorem s_r17_Has (lo hi n : Int) : Sat G Tryz.prog 101 [.agg [.i lo, .i hi], .i n] (.bool (decide (lo ≤ n) && decide (n ≤ hi))) := by
  refine sat_of hG Tryz.func101 k_metrolabref17_Has ?_
  by_cases h : lo ≤ n
  · simp [c_metrolabref17_Has, h]
  · simp [c_metrolabref17_Has, eq_false h]
theorem s_r17_Few (l : List Dim) (hl : l.length ≤ 4611686018427387904) : Sat G Tryz.prog 39 [.slice (l.map Dim.row)] (.bool (fewDims l)) := by
  refine sat_of hG Tryz.func39 k_metrolabref17_Few ?_
  by_cases h0 : (10 < l.length ∧ l.length ≤ 256) ∨ 512 < l.length
  · have hf : fewDims l = false := by simp [fewDims, h0]
    by_cases h1 : 10 < l.length
    · have h1' : (10 : Int) < l.length := by omega
      by_cases h2 : l.length ≤ 256
      · have h2' : (l.length : Int) ≤ 256 := by omega
        simp [c_metrolabref17_Few, h1', h2', hf]
      · have h2' : ¬ (l.length : Int) ≤ 256 := by omega
        have h3' : (512 : Int) < l.length := by omega
        simp [c_metrolabref17_Few, h1', eq_false h2', h3', hf]
    · omega
  · have hf : fewDims l = l.all fun d => decide (d.src.length ≤ 100) && decide (d.dst.length ≤ 100) := by simp [fewDims, h0]
    rw [hf]
    have hc : (((10 : Int) < l.length) ∧ ¬ (l.length : Int) ≤ 256 ∧ ¬ (512 : Int) < l.length) ∨ (¬ ((10 : Int) < l.length) ∧ ¬ (512 : Int) < l.length) := by omega
    rcases hc with ⟨h1, h2, h3⟩ | ⟨h1, h3⟩
    all_goals
      first
        | simp [c_metrolabref17_Few, h1, eq_false h2, eq_false h3, -Int.not_lt, -Int.not_le]
        | simp [c_metrolabref17_Few, eq_false h1, eq_false h3, -Int.not_lt, -Int.not_le]
      refine w_loopP (fun k : Nat => ⟨[(0, .sl (l.map Dim.row)), (3, .n k)], []⟩) (fun k => k ≤ l.length ∧ (l.take k).all (fun d => decide (d.src.length ≤ 100) && decide (d.dst.length ≤ 100)) = true) (fun k => l.length - k) 0 rfl ⟨Nat.zero_le _, by simp⟩ ?_
      rintro k ⟨hk, he⟩
      by_cases hlt : k < l.length
      · have ht := all_take (p := fun d : Dim => decide (d.src.length ≤ 100) && decide (d.dst.length ≤ 100)) hlt
        by_cases g1 : l[k].src.length ≤ 100
        · have g1' : ¬ (100 : Int) < l[k].src.length := by omega
          by_cases g2 : l[k].dst.length ≤ 100
          · have g2' : ¬ (100 : Int) < l[k].dst.length := by omega
            simp [hlt, eq_false g1', eq_false g2', -Int.not_lt, -Int.not_le]
            exact ⟨k + 1, wrap_succ hlt (by omega), ⟨hlt, by simpa [he, g1, g2] using ht⟩, by omega⟩
          · have g2' : (100 : Int) < l[k].dst.length := by omega
            simp [hlt, eq_false g1', g2', -Int.not_lt, -Int.not_le]
            have := all_false (p := fun d : Dim => decide (d.src.length ≤ 100) && decide (d.dst.length ≤ 100)) hlt (by simp [g2]; try omega)
            simpa using this
        · have g1' : (100 : Int) < l[k].src.length := by omega
          simp [hlt, g1', -Int.not_lt, -Int.not_le]
          have := all_false (p := fun d : Dim => decide (d.src.length ≤ 100) && decide (d.dst.length ≤ 100)) hlt (by simp [g1]; try omega)
          simpa using this
      · have : k = l.length := by omega
        subst this
        rw [List.take_length] at he
        simp [-Int.not_lt, -Int.not_le]
        simpa using he

set_option maxRecDepth 8192 in
theorem s_r18_SameFrames (a b : List Frame) (ha : a.length ≤ 4611686018427387904) (hd : ∀ x ∈ a, x.datums.length ≤ 4611686018427387904) : Sat G Tryz.prog 78 [.slice (a.map Frame.row), .slice (b.map Frame.row)] (.bool (decide (a = b))) := by
  refine sat_of hG Tryz.func78 k_metrolabref18_SameFrames ?_
  by_cases h0 : a.length = b.length
  · have h0' : (a.length : Int) = b.length := by omega
    simp [c_metrolabref18_SameFrames, h0']
    refine w_loopP (fun k : Nat => ⟨[(0, .sl (a.map Frame.row)), (1, .sl (b.map Frame.row)), (5, .n k)], []⟩) (fun k => k ≤ a.length ∧ a.take k = b.take k) (fun k => a.length - k) 0 rfl ⟨Nat.zero_le _, by simp⟩ ?_
    rintro k ⟨hk, he⟩
    by_cases hlt : k < a.length
    · have hltb : k < b.length := by omega
      have hltI : (k : Int) < b.length := by omega
      by_cases g1 : a[k].kind = b[k].kind
      case neg => simp [hlt, hltb, hltI, g1]; exact ne_of_get hlt hltb (fun h => g1 (by rw [h]))
      by_cases g2 : a[k].disc = b[k].disc
      case neg => simp [hlt, hltb, hltI, g1, g2]; exact ne_of_get hlt hltb (fun h => g2 (by rw [h]))
      by_cases g3 : a[k].tol = b[k].tol
      case neg => simp [hlt, hltb, hltI, g1, g2, g3]; exact ne_of_get hlt hltb (fun h => g3 (by rw [h]))
      by_cases g4 : a[k].mat = b[k].mat
      case neg => simp [hlt, hltb, hltI, g1, g2, g3, g4]; exact ne_of_get hlt hltb (fun h => g4 (by rw [h]))
      by_cases g5 : a[k].datums.length = b[k].datums.length
      case neg =>
        have g5' : ¬ (a[k].datums.length : Int) = b[k].datums.length := by omega
        simp [hlt, hltb, hltI, g1, g2, g3, g4, g5']
        exact ne_of_get hlt hltb (fun h => g5 (by rw [h]))
      have g5' : (a[k].datums.length : Int) = b[k].datums.length := by omega
      simp [hlt, hltb, hltI, g1, g2, g3, g4, g5']
      refine w_loopP (fun j : Nat => ⟨[(0, .sl (a.map Frame.row)), (1, .sl (b.map Frame.row)), (5, .n k), (6, .at (.loc 6 0)), (7, .at (.loc 7 0)), (8, .n j)], [(6, .var (a[k].row.map A.d)), (7, .var (b[k].row.map A.d))]⟩) (fun j => j ≤ a[k].datums.length ∧ a[k].datums.take j = b[k].datums.take j) (fun j => a[k].datums.length - j) 0 (by simp [g1, g2, g3, g4]) ⟨Nat.zero_le _, by simp⟩ ?_
      rintro j ⟨hj, hje⟩
      by_cases hjl : j < a[k].datums.length
      · have hjb : j < b[k].datums.length := by omega
        by_cases q1 : a[k].datums[j].name = b[k].datums[j].name
        · by_cases q2 : a[k].datums[j].mat = b[k].datums[j].mat
          · simp [hjl, hjb, q1, q2]
            have := hd _ (List.getElem_mem hlt)
            exact ⟨j + 1, wrap_succ hjl (by omega), ⟨hjl, take_eq hjl hjb hje (by cases h1 : a[k].datums[j]; cases h2 : b[k].datums[j]; simp_all)⟩, by omega⟩
          · simp [hjl, hjb, q1, q2]
            exact ne_of_get hlt hltb (fun h => ne_of_get hjl hjb (fun h => q2 (by rw [h])) (by rw [h]))
        · simp [hjl, hjb, q1]
          exact ne_of_get hlt hltb (fun h => ne_of_get hjl hjb (fun h => q1 (by rw [h])) (by rw [h]))
      · have : j = a[k].datums.length := by omega
        subst this
        simp
        rw [List.take_length, g5, List.take_length] at hje
        exact ⟨k + 1, wrap_succ hlt (by omega), ⟨hlt, take_eq hlt hltb he (by cases h1 : a[k]; cases h2 : b[k]; simp_all)⟩, by omega⟩
    · have : k = a.length := by omega
      subst this
      rw [List.take_length, h0, List.take_length] at he
      simp [h0', he]
  · have h0' : ¬ (a.length : Int) = b.length := by omega
    simp [c_metrolabref18_SameFrames, h0']
    intro h; exact h0 (by rw [h])
theorem s_r18_Same (a b : Feature) (ha : a.fits) : Sat G Tryz.prog 35 [.agg a.row, .agg b.row] (.bool (decide (a = b))) := by
  refine sat_of hG Tryz.func35 k_metrolabref18_Same ?_
  have hne : ∀ {α : Type} {f : Feature → α}, ¬ f a = f b → ¬ a = b := fun h e => h (by rw [e])
  by_cases g1 : a.name = b.name
  case neg => simp [c_metrolabref18_Same, g1, List.range, List.range.loop]; exact hne (f := Feature.name) g1
  by_cases g2 : a.kind = b.kind
  case neg => simp [c_metrolabref18_Same, g1, g2]; exact hne (f := Feature.kind) g2
  by_cases g3 : a.axis = b.axis
  case neg => simp [c_metrolabref18_Same, g1, g2, g3]; exact hne (f := Feature.axis) g3
  by_cases g4 : a.x = b.x ∧ a.y = b.y ∧ a.z = b.z
  case neg =>
    have hx : decide (a = b) = false := by rw [decide_eq_false_iff_not]; rintro rfl; simp at g4
    by_cases e1 : a.x = b.x
    · by_cases e2 : a.y = b.y
      · have e3 : ¬ a.z = b.z := fun h => g4 ⟨e1, e2, h⟩
        simp [c_metrolabref18_Same, g1, g2, g3, e1, e2, e3, hx]
      · simp [c_metrolabref18_Same, g1, g2, g3, e1, e2, hx]
    · simp [c_metrolabref18_Same, g1, g2, g3, e1, hx]
  by_cases g5 : a.low = b.low ∧ a.high = b.high
  case neg =>
    by_cases e1 : a.low = b.low
    · have e3 : ¬ a.high = b.high := fun h => g5 ⟨e1, h⟩
      simp [c_metrolabref18_Same, g1, g2, g3, g4, e1, e3]
      rintro rfl; simp at g5
    · simp [c_metrolabref18_Same, g1, g2, g3, g4, e1]
      rintro rfl; simp at g5
  simp [c_metrolabref18_Same, g1, g2, g3, g4, g5]
  refine ⟨_, s_r18_SameFrames hG a.frames b.frames ha.2.1 (fun x hx => (ha.2.2 x hx).1), ?_⟩
  simp
  cases a; cases b; simp_all
theorem s_r18_Few (f : Feature) : Sat G Tryz.prog 36 [.agg f.row] (.bool (fewFeat f)) := by
  refine sat_of hG Tryz.func36 k_metrolabref18_Few ?_
  by_cases g1 : f.name.length ≤ 100
  case neg =>
    have g1' : (100 : Int) < f.name.length := by omega
    simp [c_metrolabref18_Few, g1', fewFeat, g1]
  have g1' : ¬ (100 : Int) < f.name.length := by omega
  by_cases g2 : f.frames.length ≤ 12
  case neg =>
    have g2' : (12 : Int) < f.frames.length := by omega
    simp [c_metrolabref18_Few, eq_false g1', g2', fewFeat, g1, g2, -Int.not_lt, -Int.not_le]
  have g2' : ¬ (12 : Int) < f.frames.length := by omega
  have hfew : fewFeat f = f.frames.all fewFrame := by simp [fewFeat, g1, g2]
  simp [c_metrolabref18_Few, eq_false g1', eq_false g2', -Int.not_lt, -Int.not_le]
  refine w_loopP (fun k : Nat => ⟨[(1, .at (.loc 1 0)), (3, .n k)], [(1, .var (f.row.map A.d))]⟩) (fun k => k ≤ f.frames.length ∧ (f.frames.take k).all fewFrame = true) (fun k => f.frames.length - k) 0 (by simp) ⟨Nat.zero_le _, by simp⟩ ?_
  rintro k ⟨hk, he⟩
  by_cases hlt : k < f.frames.length
  · have ht := all_take (p := fewFrame) hlt
    by_cases g3 : f.frames[k].datums.length ≤ 6
    case neg =>
      have g3' : (6 : Int) < f.frames[k].datums.length := by omega
      simp [hlt, g3', -Int.not_lt, -Int.not_le]
      rw [hfew, all_false hlt (by simp [fewFrame, g3]; try omega)]
    have g3' : ¬ (6 : Int) < f.frames[k].datums.length := by omega
    simp [hlt, eq_false g3', -Int.not_lt, -Int.not_le]
    refine w_loopP (fun j : Nat => ⟨[(1, .at (.loc 1 0)), (3, .n k), (4, .n j)], [(1, .var (f.row.map A.d))]⟩) (fun j => j ≤ f.frames[k].datums.length ∧ (f.frames[k].datums.take j).all (fun d => decide (d.name.length ≤ 100)) = true) (fun j => f.frames[k].datums.length - j) 0 (by simp) ⟨Nat.zero_le _, by simp⟩ ?_
    rintro j ⟨hj, hje⟩
    by_cases hjl : j < f.frames[k].datums.length
    · have htj := all_take (p := fun d : Datum => decide (d.name.length ≤ 100)) hjl
      by_cases g4 : f.frames[k].datums[j].name.length ≤ 100
      · have g4' : ¬ (100 : Int) < f.frames[k].datums[j].name.length := by omega
        simp [hlt, hjl, eq_false g4', -Int.not_lt, -Int.not_le]
        exact ⟨j + 1, wrap_succ hjl (by omega), ⟨hjl, by simpa [hje, g4] using htj⟩, by omega⟩
      · have g4' : (100 : Int) < f.frames[k].datums[j].name.length := by omega
        simp [hlt, hjl, g4', -Int.not_lt, -Int.not_le]
        rw [hfew, all_false hlt]
        simp only [fewFrame, Bool.and_eq_false_iff]
        exact .inr (all_false hjl (by simp; omega))
    · have : j = f.frames[k].datums.length := by omega
      subst this
      rw [List.take_length] at hje
      simp [hlt, -Int.not_lt, -Int.not_le]
      have hfr : fewFrame f.frames[k] = true := by simp only [fewFrame, hje, Bool.and_true, decide_eq_true_eq]; exact g3
      exact ⟨k + 1, wrap_succ hlt (by omega), ⟨hlt, by simpa [he, hfr] using ht⟩, by omega⟩
  · have : k = f.frames.length := by omega
    subst this
    rw [List.take_length] at he
    simp [hfew, he, -Int.not_lt, -Int.not_le]
end
end Go.Proofs.YtpfhfokfambdaaaGreatDoor
