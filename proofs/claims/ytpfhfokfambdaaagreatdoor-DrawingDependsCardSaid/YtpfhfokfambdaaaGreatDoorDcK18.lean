/- A part of the proof of a law of this seat: K18; no conditions. -/
import Derived.Test.YtpfhfokfambdaaaGreatDoorDcL2
import Derived.Test.YtpfhfokfambdaaaGreatDoorDcBaseB
/-! Contracts: names sorted, needed, used. -/
set_option linter.unusedVariables false
set_option linter.unusedSimpArgs false
namespace Go.Proofs.YtpfhfokfambdaaaGreatDoor
open Ev
open Go.RowKit (Below)
theorem dfs_len {d : Drawing} (hc : d.closed) : ∀ (n : Nat) (set : List Str) (t : Str), 0 ≤ place d t → (dfsF d n set t).length + rem d (dfsF d n set t) ≤ set.length + rem d set
  | 0, _, _, _ => Nat.le_refl _
  | m + 1, set, t, hp => by
    by_cases ht : t ∈ set
    · rw [dfsF_in d _ ht]; exact Nat.le_refl _
    · rw [dfsF_out d m ht]
      have h1 := rem_add hp ht
      have key : ∀ (l s : List Str), (∀ u ∈ l, 0 ≤ place d u) → (l.foldl (dfsF d m) s).length + rem d (l.foldl (dfsF d m) s) ≤ s.length + rem d s := by
        intro l
        induction l with
        | nil => intro s _; exact Nat.le_refl _
        | cons u r ih =>
          intro s hu
          exact Nat.le_trans (ih _ fun v hv => hu v (List.mem_cons_of_mem _ hv)) (dfs_len hc m s u (hu u List.mem_cons_self))
      have := key (namedAt d t) (set ++ [t]) fun u hu => named_place hc hu
      simp only [List.length_append, List.length_singleton] at this
      show ((namedAt d t).foldl (dfsF d m) (set ++ [t])).length + _ ≤ _
      unfold followL
      omega
theorem follow_len {d : Drawing} (hc : d.closed) (s : Str) : (followL d d.features.length [] s).length ≤ d.features.length := by
  have key : ∀ (l s : List Str), (∀ u ∈ l, 0 ≤ place d u) → (l.foldl (dfsF d d.features.length) s).length + rem d (l.foldl (dfsF d d.features.length) s) ≤ s.length + rem d s := by
    intro l
    induction l with
    | nil => intro s _; exact Nat.le_refl _
    | cons u r ih =>
      intro s hu
      exact Nat.le_trans (ih _ fun v hv => hu v (List.mem_cons_of_mem _ hv)) (dfs_len hc _ s u (hu u List.mem_cons_self))
  have := key (namedAt d s) [] fun u hu => named_place hc hu
  have h2 : rem d [] ≤ d.features.length := List.length_filter_le _ _
  simp only [List.length_nil] at this
  unfold followL
  omega
theorem strow_srow (l : List Str) : strow l = srow l := rfl
theorem srow_mem {l : List Str} {x : List A} (hx : x ∈ srow l) {y : A} (hy : y ∈ x) {z : Nat} (hz : z ∈ y.slots) : False := by
  obtain ⟨a, _, rfl⟩ := List.mem_map.1 hx
  rw [List.mem_singleton.1 hy] at hz
  cases hz
attribute [-simp] ite_self Prod.exists
section
variable {G : World → Prop} (hG : ∀ w w', G w → Below w.heap.size w w' → G w')
include hG
theorem s_draw_sorted (k : Nat) (l : List Str) (hk : ¬ k = 2000) (hl : l.length ≤ 4294967296) : SatS G Tryz.prog 88 [.at (.row k l.length)] [(k, .row 9 1 (srow l))] (.at (.row 2000 (sortC l).length)) [(2000, .row 9 1 (srow (sortC l))), (k, .gone)] := by
  have hk' : ¬ 2000 = k := fun e => hk e.symm
  refine satS_of hG Tryz.func88 k_drawing_sorted rfl (by simp [hk']) ?_
  simp [c_drawing_sorted]
  have hst : SatS G Tryz.prog 141 [.at (.row k l.length)] [(k, .row 9 1 (srow l))] (.tup []) [(k, .row 9 1 (srow (l.mergeSort fun x y => decide (x ≤ y)))), (k, .row 9 1 (srow l))] :=
    b_sort (G := G) (k := k) (m0 := [(k, .row 9 1 (srow l))]) (l := l) (by simp; rfl) hl
  refine ⟨[k], [], .tup [], [(k, .row 9 1 (srow (l.mergeSort fun x y => decide (x ≤ y)))), (k, .row 9 1 (srow l))], ?_, ?_, ?_, ?_⟩
  · simp
    exact hst
  · simp
    rintro a b (⟨rfl, _⟩ | ⟨rfl, _⟩) <;> rfl
  · simp
  simp
  have hcm := b_compact (G := G) (k := k) (k2 := 2000) (m0 := [(k, .row 9 1 (srow (l.mergeSort fun x y => decide (x ≤ y))))]) (l := l.mergeSort fun x y => decide (x ≤ y)) (by simp; rfl) (by simp [hk]) (by rw [List.length_mergeSort]; exact hl)
  rw [List.length_mergeSort] at hcm
  refine ⟨[k], [2000], .at (.row 2000 (sortC l).length), [(2000, .row 9 1 (srow (sortC l))), (k, .gone), (k, .row 9 1 (srow (l.mergeSort fun x y => decide (x ≤ y))))], ?_, ?_, ?_, ?_⟩
  · simp
    exact hcm
  · simp [hk, hk']
    rintro a b (⟨rfl, _⟩ | ⟨rfl, _⟩ | ⟨rfl, _⟩) <;> simp
  · simp [hk, hk']
  simp [outS, outS1, hk, hk']
theorem s_draw_follow (d : Drawing) (hd : d.fits) (hl : ∀ f ∈ d.features, (namedL f).length ≤ 100000) (hc : d.closed) : ∀ (n : Nat) (set : List Str) (s : Str), rem d set ≤ n → 0 ≤ place d s →
    SatS G Tryz.prog 94 [.s s, .at (.d (.ref d.row)), .at (.loc 5 0), .at (.loc 6 0)] (needSlots d set) (.tup []) (needSlots d (followL d n set s))
  | 0, set, s, hr, hs => s_draw_needs_step hG d hd hl hc 0 (fun m hm => by omega) set s hr hs
  | n + 1, set, s, hr, hs => s_draw_needs_step hG d hd hl hc (n + 1) (fun m hm set s h1 h2 => by
      have : m = n := by omega
      subst this
      exact s_draw_follow d hd hl hc m set s h1 h2) set s hr hs
set_option maxRecDepth 8192 in
set_option maxHeartbeats 4000000 in
theorem s_draw_needs (d : Drawing) (s : Str) (hd : d.fits) (hn : d.features.length ≤ 1000) (hl : ∀ f ∈ d.features, (namedL f).length ≤ 100000) (hc : d.closed) (hs : 0 ≤ place d s) :
    Sat G Tryz.prog 45 [.agg d.row, .str s] (strs (needsR d s)) := by
  refine sat_of hG Tryz.func45 k_drawing_needs ?_
  have hf := s_draw_follow hG d hd hl hc d.features.length [] s (List.length_filter_le _ _) hs
  have hsn := fun (l : List Str) h => sort_needs hc s (l := l) h
  have hfl := follow_len hc s
  generalize followL d d.features.length [] s = S at hf hsn hfl
  have hk0 : Ev.Blk.mp (kv []) = .mp [] := rfl
  simp [needSlots, hk0] at hf
  simp [c_drawing_needs]
  refine ⟨[5, 9, 6], [], _, _, hf, ?_, ?_, ?_⟩
  · simp
    refine ⟨?_, ?_⟩
    · rintro a b (⟨rfl, rfl⟩ | ⟨rfl, rfl⟩ | ⟨rfl, rfl⟩) x hx <;> simp at hx
      · subst hx; simp
      · rcases hx with hx | hx <;> (subst hx; simp)
    · rintro a b (⟨rfl, rfl⟩ | ⟨rfl, rfl⟩ | ⟨rfl, rfl⟩) <;> simp
  · simp
  simp [kv_length]
  refine w_loopP (fun p : List Nat × List Str => ⟨[(7, .at (.row 1007 p.2.length)), (15, .at (.loc 15 0))], [(9, .mp (kv S)), (15, .iter 9 S.length p.1), (1007, .row 9 1 (srow p.2))]⟩)
    (fun p => p.1.Nodup ∧ (∀ i ∈ p.1, i < S.length) ∧ p.2 = p.1.map (fun i => S.getD i [])) (fun p => S.length - p.1.length) ([], []) (by simp [srow_nil]) ⟨by simp, by simp, by simp⟩ ?_
  rintro ⟨seen, out⟩ ⟨hnd, hsl, ho⟩
  simp only at hnd hsl ho
  have hlen : seen.length ≤ S.length := by
    have := nodup_len (m := List.range S.length) hnd fun i hi => List.mem_range.2 (hsl i hi)
    simpa using this
  have hol : out.length ≤ S.length := by rw [ho, List.length_map]; exact hlen
  simp [kv_length]
  refine ⟨fun hall => ?_, fun i ps pb hp hni => ?_⟩
  · have hmem : ∀ x, x ∈ out ↔ x ∈ S := by
      intro x
      rw [ho, List.mem_map]
      constructor
      · rintro ⟨i, hi, rfl⟩
        have := hsl i hi
        simp [List.getD, this]
      · intro hx
        obtain ⟨i, hi, rfl⟩ := List.mem_iff_getElem.1 hx
        exact ⟨i, hall i hi, by simp [List.getD, hi]⟩
    have hsort := s_draw_sorted hG 1007 out (by decide) (by omega)
    rw [hsn out hmem] at hsort
    refine ⟨[1007], [2000], _, _, hsort, ?_, ?_, ?_⟩
    · simp
      rintro a b (⟨rfl, _⟩ | ⟨rfl, _⟩) <;> simp
    · simp
    simp
  · have hil : i < S.length := by
      have := (List.getElem?_eq_some_iff.1 hp).1
      rwa [kv_length] at this
    have hkv : (kv S)[i]? = some (S[i], .d (.bool true)) := by simp [kv, hil]
    rw [hkv] at hp
    cases hp
    have hsn1 : (seen ++ [i]).Nodup := by
      rw [List.nodup_append]
      exact ⟨hnd, by simp, fun a ha b hb => by have := List.mem_singleton.1 hb; subst this; intro e; subst e; exact hni ha⟩
    have hsl1 : ∀ j ∈ seen ++ [i], j < S.length := fun j hj => by
      rcases List.mem_append.1 hj with hj | hj
      · exact hsl j hj
      · rw [List.mem_singleton.1 hj]; exact hil
    have hlen1 : (seen ++ [i]).length ≤ S.length := by
      have := nodup_len (m := List.range S.length) hsn1 fun j hj => List.mem_range.2 (hsl1 j hj)
      simpa using this
    simp only [List.length_append, List.length_singleton] at hlen1
    simp [kv_length, hkv]
    refine ⟨by omega, (seen ++ [i], out ++ [S[i]]), ⟨by simp, rfl, rfl⟩, ⟨hsn1, hsl1, ?_⟩, ?_⟩
    · rw [ho]; simp [hil]
    · show S.length - (seen ++ [i]).length < _
      rw [List.length_append, List.length_singleton]
      omega
set_option maxRecDepth 8192 in
theorem s_draw_used (d : Drawing) (hd : d.fits) (hn : d.features.length ≤ 1000) (hl : ∀ f ∈ d.features, (namedL f).length ≤ 100000) :
    Sat G Tryz.prog 41 [.agg d.row] (strs (usedR d)) := by
  refine sat_of hG Tryz.func41 k_drawing_used ?_
  simp [c_drawing_used]
  refine w_loopP (fun p : Nat × List Str => ⟨[(3, .at (.row 1003 p.2.length)), (7, .sl (d.features.map Feature.row)), (8, .n d.features.length), (9, .n p.1)], [(1003, .row 9 1 (srow p.2))]⟩)
    (fun p => p.1 ≤ d.features.length ∧ p.2 = (d.features.take p.1).flatMap namedL ∧ p.2.length ≤ p.1 * 100000) (fun p => d.features.length - p.1) (0, []) (by simp [srow_nil]) ⟨Nat.zero_le _, by simp, by simp⟩ ?_
  rintro ⟨k, out⟩ ⟨hk, ho, hol⟩
  simp only at hk ho hol
  by_cases hlt : k < d.features.length
  · have ht := List.take_succ_eq_append_getElem hlt
    have hnf := hl _ (List.getElem_mem hlt)
    have hkm : k * 100000 ≤ 1000 * 100000 := Nat.mul_le_mul_right _ (by omega)
    simp [hlt]
    refine ⟨_, s_draw_named hG _ (hd.2.2.1 _ (List.getElem_mem hlt)) (by omega), ?_⟩
    simp
    refine ⟨by omega, fun x hx y hy z hz => (srow_mem hx hy hz).elim, (k + 1, out ++ namedL d.features[k]), ?_, ⟨hlt, ?_, ?_⟩, show _ - (k + 1) < _ by omega⟩
    · simp [wrap_succ hlt hd.2.1]
      simp [srow]
    · rw [ht, ho, List.flatMap_append]; simp
    · rw [List.length_append]; omega
  · have : k = d.features.length := by omega
    subst this
    rw [List.take_length] at ho
    have hkm : d.features.length * 100000 ≤ 1000 * 100000 := Nat.mul_le_mul_right _ (by omega)
    have hsort := s_draw_sorted hG 1003 out (by decide) (by omega)
    rw [sort_used d (l := out) (fun x => by rw [ho, List.mem_flatMap])] at hsort
    simp
    refine ⟨[1003], [2000], _, _, hsort, ?_, ?_, ?_⟩
    · simp
      rintro a b (⟨rfl, _⟩ | ⟨rfl, _⟩) <;> simp
    · simp
    simp
end
end Go.Proofs.YtpfhfokfambdaaaGreatDoor
