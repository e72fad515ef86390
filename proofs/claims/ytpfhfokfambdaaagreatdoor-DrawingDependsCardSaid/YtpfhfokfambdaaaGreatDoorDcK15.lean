/- A part of the proof of a law of this seat: K15; no conditions. -/
import Derived.Test.YtpfhfokfambdaaaGreatDoorDcL1
/-! Contracts: the reference's names that are needed. -/
set_option linter.unusedSimpArgs false
namespace Go.Proofs.YtpfhfokfambdaaaGreatDoor
open Ev
open Go.RowKit (Below)
def namedR (f : Feature) : List Str := (namedL f).foldl putS []
def usedR (d : Drawing) : List Str := (d.features.flatMap namedR).foldl putS []
def featN (d : Drawing) (s : Str) : List Str := match d.features[(place d s).toNat]? with
  | some f => namedR f
  | none => []
def roundR (d : Drawing) (R : List Str) : List Str := R.foldl (fun out x => (featN d x).foldl putS out) R
def iterN {α : Type} (f : α → α) : Nat → α → α
  | 0, a => a
  | k + 1, a => f (iterN f k a)
def needsR (d : Drawing) (s : Str) : List Str := iterN (roundR d) d.features.length (featN d s)
/-- All that is asked for is there. -/
def Drawing.closed (d : Drawing) : Prop := ∀ f ∈ d.features, ∀ s ∈ namedL f, 0 ≤ place d s
/-- Names of features, ascending. -/
def goodR (d : Drawing) (R : List Str) : Prop := asc R ∧ ∀ x ∈ R, 0 ≤ place d x
theorem place_mem {d : Drawing} {s : Str} (h : 0 ≤ place d s) : ∃ (k : Nat) (hk : k < d.features.length), place d s = k ∧ d.features[k].name = s := by
  rcases place_range d s with h1 | h1
  · omega
  · exact h1
theorem goodR.len {d : Drawing} {R : List Str} (h : goodR d R) : R.length ≤ d.features.length := by
  have := nodup_len (m := d.features.map Feature.name) (asc_nodup h.1) fun x hx => by
    obtain ⟨k, hk, _, h2⟩ := place_mem (h.2 x hx)
    exact List.mem_map.2 ⟨_, List.getElem_mem hk, h2⟩
  simpa using this
theorem goodR.nil (d : Drawing) : goodR d [] := ⟨List.Pairwise.nil, fun x hx => by simp at hx⟩
theorem goodR.put {d : Drawing} {R : List Str} (h : goodR d R) {s : Str} (hs : 0 ≤ place d s) : goodR d (putS R s) :=
  ⟨asc_putS h.1 s, fun x hx => by
    rcases (mem_putS h.1).1 hx with rfl | hx
    · exact hs
    · exact h.2 x hx⟩
theorem goodR.puts {d : Drawing} : ∀ (r : List Str) {R : List Str}, goodR d R → (∀ s ∈ r, 0 ≤ place d s) → goodR d (r.foldl putS R)
  | [], _, h, _ => h
  | s :: r, _, h, hr => goodR.puts r (h.put (hr s List.mem_cons_self)) fun x hx => hr x (List.mem_cons_of_mem _ hx)
theorem mem_namedR (f : Feature) (x : Str) : x ∈ namedR f ↔ x ∈ namedL f := by
  unfold namedR
  rw [mem_puts _ List.Pairwise.nil]
  simp
theorem asc_namedR (f : Feature) : asc (namedR f) := asc_puts _ List.Pairwise.nil
theorem featN_good {d : Drawing} (hc : d.closed) (s : Str) : goodR d (featN d s) := by
  unfold featN
  split
  · rename_i f hf
    exact ⟨asc_namedR f, fun x hx => hc f (List.mem_of_getElem? hf) x ((mem_namedR f x).1 hx)⟩
  · exact goodR.nil d
theorem fold_good {d : Drawing} (hc : d.closed) : ∀ (l : List Str) {R : List Str}, goodR d R → goodR d (l.foldl (fun out x => (featN d x).foldl putS out) R)
  | [], _, h => h
  | x :: l, _, h => fold_good hc l (h.puts _ fun s hs => (featN_good hc x).2 s hs)
theorem iter_good {d : Drawing} (hc : d.closed) {R : List Str} (h : goodR d R) : ∀ k, goodR d (iterN (roundR d) k R)
  | 0 => h
  | k + 1 => fold_good hc _ (iter_good hc h k)
theorem put_length (s : Str) (l : List Str) : (putS l s).length ≤ l.length + 1 := by
  have key : ∀ (l : List Str) (p : List Str × Bool), (l.foldl (putStep s) p).1.length + (bif (l.foldl (putStep s) p).2 then 0 else 1) ≤ p.1.length + (bif p.2 then 0 else 1) + l.length := by
    intro l
    induction l with
    | nil => intro p; exact Nat.le_refl _
    | cons x l ih =>
      intro p
      have := ih (putStep s p x)
      have h2 : (putStep s p x).1.length + (bif (putStep s p x).2 then 0 else 1) ≤ p.1.length + (bif p.2 then 0 else 1) + 1 := by
        obtain ⟨o, q⟩ := p
        unfold putStep
        cases q <;> cases Op.bytesLess x s <;> by_cases e : x = s <;> simp [e]
      rw [List.foldl_cons, List.length_cons]
      omega
  have := key l ([], false)
  unfold putS
  cases h : (l.foldl (putStep s) ([], false)).2 <;> simp [h] at this ⊢ <;> omega
theorem puts_length : ∀ (r l : List Str), (r.foldl putS l).length ≤ l.length + r.length
  | [], l => by simp
  | s :: r, l => by
    have h1 := puts_length r (putS l s)
    have h2 := put_length s l
    simp only [List.foldl_cons, List.length_cons]
    omega
attribute [-simp] ite_self Prod.exists
section
variable {G : World → Prop} (hG : ∀ w w', G w → Below w.heap.size w w' → G w')
include hG
set_option maxRecDepth 8192 in
theorem s_r19_Named (f : Feature) (hf : f.fits) (hl : (namedL f).length ≤ 1000000000) : Sat G Tryz.prog 89 [.agg f.row] (strs (namedR f)) := by
  refine sat_of hG Tryz.func89 k_metrolabref19_Named ?_
  simp [c_metrolabref19_Named]
  have hnl : ∀ k, ((f.frames.take k).flatMap fun x => x.datums).length ≤ (namedL f).length := by
    intro k
    have : f.frames = f.frames.take k ++ f.frames.drop k := (List.take_append_drop _ _).symm
    unfold namedL
    rw [List.length_map]
    conv => rhs; rw [this, List.flatMap_append, List.length_append]
    omega
  refine w_loopP (fun p : Nat × List Str => ⟨[(1, .at (.loc 1 0)), (3, .sl (p.2.map fun s => [D.str s])), (4, .n p.1)], [(1, .var (f.row.map A.d))]⟩) (fun p => p.1 ≤ f.frames.length ∧ p.2 = (((f.frames.take p.1).flatMap fun x => x.datums).map fun y => y.name).foldl putS []) (fun p => f.frames.length - p.1) (0, []) (by simp) ⟨Nat.zero_le _, by simp⟩ ?_
  rintro ⟨k, out⟩ ⟨hk, ho⟩
  simp only at hk ho
  by_cases hlt : k < f.frames.length
  · have ht := List.take_succ_eq_append_getElem hlt
    have hfx := (hf.2.2 _ (List.getElem_mem hlt)).1
    have hpre := hnl (k + 1)
    rw [ht, List.flatMap_append, List.length_append] at hpre
    simp only [List.flatMap_cons, List.flatMap_nil, List.append_nil] at hpre
    have hol : out.length ≤ ((f.frames.take k).flatMap fun x => x.datums).length := by
      have := puts_length (((f.frames.take k).flatMap fun x => x.datums).map fun y => y.name) []
      rw [← ho] at this
      simpa using this
    simp [hlt]
    refine w_loopP (fun p : Nat × List Str => ⟨[(1, .at (.loc 1 0)), (3, .sl (p.2.map fun s => [D.str s])), (4, .n k), (5, .n p.1)], [(1, .var (f.row.map A.d))]⟩) (fun p => p.1 ≤ f.frames[k].datums.length ∧ p.2 = ((f.frames[k].datums.map fun y => y.name).take p.1).foldl putS out) (fun p => f.frames[k].datums.length - p.1) (0, out) (by simp) ⟨Nat.zero_le _, by simp⟩ ?_
    rintro ⟨j, o2⟩ ⟨hj, ho2⟩
    simp only at hj ho2
    by_cases hjl : j < f.frames[k].datums.length
    · have htj := List.take_succ_eq_append_getElem (l := f.frames[k].datums.map fun y => y.name) (i := j) (by simpa using hjl)
      have hol2 : o2.length ≤ out.length + j := by
        have := puts_length ((f.frames[k].datums.map fun y => y.name).take j) out
        rw [← ho2, List.length_take] at this
        omega
      simp [hlt, hjl]
      refine ⟨_, s_r19_Put hG o2 _ (by omega), ?_⟩
      simp
      refine ⟨(j + 1, putS o2 f.frames[k].datums[j].name), by simp [wrap_succ hjl hfx], ⟨hjl, ?_⟩, show _ - (j + 1) < _ by omega⟩
      show putS o2 f.frames[k].datums[j].name = _
      rw [htj, List.foldl_append, ← ho2]
      simp
    · have : j = f.frames[k].datums.length := by omega
      subst this
      rw [List.take_of_length_le (by simp)] at ho2
      simp [hlt]
      refine ⟨(k + 1, o2), by simp [wrap_succ hlt hf.2.1], ⟨hlt, ?_⟩, show _ - (k + 1) < _ by omega⟩
      show o2 = _
      rw [ht, ho2, ho, List.flatMap_append, List.map_append, List.foldl_append]
      simp
  · have : k = f.frames.length := by omega
    subst this
    rw [List.take_length] at ho
    simp
    rw [ho]
    rfl
end
end Go.Proofs.YtpfhfokfambdaaaGreatDoor
