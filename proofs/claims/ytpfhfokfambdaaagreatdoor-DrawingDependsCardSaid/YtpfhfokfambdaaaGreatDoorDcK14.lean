/- A part of the proof of a law of this seat: K14; no conditions. -/
import Derived.Test.YtpfhfokfambdaaaGreatDoorDcK13
import Derived.Test.YtpfhfokfambdaaaGreatDoorDcSr
/-! Contracts: the names of the datums of a feature. -/
set_option linter.unusedSimpArgs false
namespace Go.Proofs.YtpfhfokfambdaaaGreatDoor
open Ev
open Go.RowKit (Below)
def namedL (f : Feature) : List Str := (f.frames.flatMap fun x => x.datums).map fun y => y.name
/-- One step of putting a name among others. -/
def putStep (s : Str) (p : List Str × Bool) (x : Str) : List Str × Bool :=
  let q := if p.2 = false ∧ Op.bytesLess x s = false then (p.1 ++ [s], true) else p
  (if x = s then q.1 else q.1 ++ [x], q.2)
def putS (l : List Str) (s : Str) : List Str := if (l.foldl (putStep s) ([], false)).2 then (l.foldl (putStep s) ([], false)).1 else (l.foldl (putStep s) ([], false)).1 ++ [s]
theorem putStep_len (s : Str) (p : List Str × Bool) (x : Str) : (putStep s p x).1.length ≤ p.1.length + 2 := by
  unfold putStep
  split <;> split <;> simp
theorem put_len (s : Str) : ∀ (l : List Str) (p : List Str × Bool), (l.foldl (putStep s) p).1.length ≤ p.1.length + 2 * l.length
  | [], p => by simp
  | x :: l, p => by
    have := put_len s l (putStep s p x)
    have h2 := putStep_len s p x
    simp only [List.foldl_cons, List.length_cons]
    omega
theorem fold_take {α β : Type} {f : β → α → β} {b : β} {l : List α} {k : Nat} (h : k < l.length) : (l.take (k + 1)).foldl f b = f ((l.take k).foldl f b) l[k] := by
  rw [List.take_succ_eq_append_getElem h, List.foldl_append]
  rfl
attribute [-simp] ite_self Prod.exists
section
variable {G : World → Prop} (hG : ∀ w w', G w → Below w.heap.size w w' → G w')
include hG
set_option maxRecDepth 8192 in
theorem s_draw_named (f : Feature) (hf : f.fits) (hl : (namedL f).length ≤ 4294967296) : Sat G Tryz.prog 87 [.agg f.row] (strs (namedL f)) := by
  refine sat_of hG Tryz.func87 k_drawing_named ?_
  simp [c_drawing_named]
  have hnl : ∀ k, ((f.frames.take k).flatMap fun x => x.datums).length ≤ (namedL f).length := by
    intro k
    have : f.frames = f.frames.take k ++ f.frames.drop k := (List.take_append_drop _ _).symm
    unfold namedL
    rw [List.length_map]
    conv => rhs; rw [this, List.flatMap_append, List.length_append]
    omega
  refine w_loopP (fun p : Nat × List Str => ⟨[(3, .at (.row 1003 p.2.length)), (9, .sl (f.frames.map Frame.row)), (10, .n f.frames.length), (11, .n p.1)], [(1003, .row 9 1 (srow p.2))]⟩) (fun p => p.1 ≤ f.frames.length ∧ p.2 = ((f.frames.take p.1).flatMap fun x => x.datums).map fun y => y.name) (fun p => f.frames.length - p.1) (0, []) (by simp [srow_nil]) ⟨Nat.zero_le _, by simp⟩ ?_
  rintro ⟨k, out⟩ ⟨hk, ho⟩
  simp only at hk ho
  by_cases hlt : k < f.frames.length
  · have ht := List.take_succ_eq_append_getElem hlt
    have hfx := (hf.2.2 _ (List.getElem_mem hlt)).1
    have hpre := hnl (k + 1)
    rw [ht, List.flatMap_append, List.length_append] at hpre
    simp only [List.flatMap_cons, List.flatMap_nil, List.append_nil] at hpre
    have hol : out.length = ((f.frames.take k).flatMap fun x => x.datums).length := by rw [ho, List.length_map]
    simp [hlt]
    refine w_loopP (fun p : Nat × List Str => ⟨[(3, .at (.row 1003 p.2.length)), (9, .sl (f.frames.map Frame.row)), (10, .n f.frames.length), (11, .n k), (16, .sl (f.frames[k].datums.map Datum.row)), (17, .n f.frames[k].datums.length), (18, .n p.1)],
      [(1003, .row 9 1 (srow p.2))]⟩) (fun p => p.1 ≤ f.frames[k].datums.length ∧ p.2 = out ++ (f.frames[k].datums.map fun y => y.name).take p.1) (fun p => f.frames[k].datums.length - p.1) (0, out) (by simp) ⟨Nat.zero_le _, by simp⟩ ?_
    rintro ⟨j, o2⟩ ⟨hj, ho2⟩
    simp only at hj ho2
    by_cases hjl : j < f.frames[k].datums.length
    · have htj := List.take_succ_eq_append_getElem (l := f.frames[k].datums.map fun y => y.name) (i := j) (by simpa using hjl)
      have hol2 : o2.length = out.length + j := by rw [ho2, List.length_append, List.length_take, List.length_map]; omega
      have hb : o2.length + 1 ≤ 4294967296 := by omega
      simp [hjl, List.range, List.range.loop, hb]
      refine ⟨(j + 1, o2 ++ [f.frames[k].datums[j].name]), by simp [wrap_succ hjl (show _ ≤ 4611686018427387904 by omega)], ⟨hjl, ?_⟩, by simp only; omega⟩
      simp only
      rw [htj, ho2]
      simp [-List.take_append_getElem]
    · have : j = f.frames[k].datums.length := by omega
      subst this
      simp
      refine ⟨(k + 1, o2), by simp [wrap_succ hlt hf.2.1], ⟨hlt, ?_⟩, show _ - (k + 1) < _ by omega⟩
      rw [List.take_of_length_le (by simp)] at ho2
      show o2 = _
      rw [ht, ho2, ho]
      simp [-List.take_append_getElem]
  · have : k = f.frames.length := by omega
    subst this
    rw [List.take_length] at ho
    simp
    rw [ho]
    rfl
set_option maxRecDepth 8192 in
theorem s_r19_Put (l : List Str) (s : Str) (hl : l.length ≤ 1000000000) : Sat G Tryz.prog 90 [strs l, .str s] (strs (putS l s)) := by
  refine sat_of hG Tryz.func90 k_metrolabref19_Put ?_
  simp [c_metrolabref19_Put]
  refine w_loopP (fun p : Nat × List Str × Bool => ⟨[(0, .sl (l.map fun s => [D.str s])), (1, .s s), (5, .at (.row 1005 p.2.1.length)), (6, .bo p.2.2), (7, .n p.1)], [(1005, .row 9 1 (srow p.2.1))]⟩) (fun p => p.1 ≤ l.length ∧ p.2 = (l.take p.1).foldl (putStep s) ([], false)) (fun p => l.length - p.1) (0, [], false) (by simp [srow_nil]) ⟨Nat.zero_le _, rfl⟩ ?_
  rintro ⟨k, out, done⟩ ⟨hk, ho⟩
  simp only at hk ho
  have hlen : out.length ≤ 2 * k := by
    have h1 := put_len s (l.take k) ([], false)
    rw [← ho] at h1
    simp only [List.length_nil, List.length_take] at h1
    omega
  have hb1 : out.length ≤ 4294967295 := by omega
  have hb2 : out.length + 1 ≤ 4294967295 := by omega
  have hb3 : out.length ≤ 4294967294 := by omega
  by_cases hlt : k < l.length
  · have hft := fold_take (f := putStep s) (b := ([], false)) hlt
    rw [← ho] at hft
    have hw := wrap_succ hlt (show l.length ≤ 4611686018427387904 by omega)
    cases done
    · cases h1 : Op.bytesLess l[k] s
      · by_cases h2 : l[k] = s
        · have hs : putStep s (out, false) l[k] = (out ++ [s], true) := by simp [putStep, h2, less_irr]
          simp [hlt, h2, less_irr, hb1, List.range, List.range.loop]
          refine ⟨(k + 1, out ++ [s], true), by simp [hw], ⟨hlt, ?_⟩, show _ - (k + 1) < _ by omega⟩
          simp only
          rw [hft, hs]
        · have hs : putStep s (out, false) l[k] = (out ++ [s] ++ [l[k]], true) := by simp [putStep, h1, h2]
          simp [hlt, h1, h2, hb1, hb2, hb3, List.range, List.range.loop]
          refine ⟨(k + 1, out ++ [s] ++ [l[k]], true), by simp [hw], ⟨hlt, ?_⟩, show _ - (k + 1) < _ by omega⟩
          simp only
          rw [hft, hs]
      · by_cases h2 : l[k] = s
        · rw [h2, less_irr] at h1; cases h1
        · have hs : putStep s (out, false) l[k] = (out ++ [l[k]], false) := by simp [putStep, h1, h2]
          simp [hlt, h1, h2, hb1, List.range, List.range.loop]
          refine ⟨(k + 1, out ++ [l[k]], false), by simp [hw], ⟨hlt, ?_⟩, show _ - (k + 1) < _ by omega⟩
          simp only
          rw [hft, hs]
    · by_cases h2 : l[k] = s
      · have hs : putStep s (out, true) l[k] = (out, true) := by simp [putStep, h2]
        simp [hlt, h2]
        refine ⟨(k + 1, out, true), by simp [hw], ⟨hlt, ?_⟩, show _ - (k + 1) < _ by omega⟩
        simp only
        rw [hft, hs]
      · have hs : putStep s (out, true) l[k] = (out ++ [l[k]], true) := by simp [putStep, h2]
        simp [hlt, h2, hb1, List.range, List.range.loop]
        refine ⟨(k + 1, out ++ [l[k]], true), by simp [hw], ⟨hlt, ?_⟩, show _ - (k + 1) < _ by omega⟩
        simp only
        rw [hft, hs]
  · have : k = l.length := by omega
    subst this
    rw [List.take_length] at ho
    have hput : putS l s = if done then out else out ++ [s] := by unfold putS; rw [← ho]
    cases done
    · simp [hb1, List.range, List.range.loop]
      simp [hput]
    · simp [hput]
end
end Go.Proofs.YtpfhfokfambdaaaGreatDoor
