/- A part of the proof of a law of this seat: L2; no conditions. -/
import Derived.Lib.RowBridge
import Derived.Test.YtpfhfokfambdaaaGreatDoorDcK17
/-! Names sorted, each once; the names that are reached. -/
set_option linter.unusedVariables false
set_option linter.unusedSimpArgs false
namespace Go.Proofs.YtpfhfokfambdaaaGreatDoor
open Ev
/-- Sorted, and no two alike. -/
def sortC (l : List Str) : List Str := Lib.compact (l.mergeSort fun x y => decide (x ≤ y))
theorem mem_upTo (d : Array Str) (x : Str) : ∀ m, x ∈ Lib.compactUpTo d m ↔ ∃ j, j < m ∧ d[j]! = x
  | 0 => by simp [Lib.compactUpTo]
  | m + 1 => by
    rw [Lib.compactUpTo_succ, List.mem_append, mem_upTo d x m]
    constructor
    · rintro (⟨j, h1, h2⟩ | h)
      · exact ⟨j, by omega, h2⟩
      · split at h
        · exact ⟨m, by omega, (List.mem_singleton.1 h).symm⟩
        · cases h
    · rintro ⟨j, h1, h2⟩
      by_cases hj : j < m
      · exact .inl ⟨j, hj, h2⟩
      · have : j = m := by omega
        subst this
        by_cases hk : Lib.keeps d j = true
        · refine .inr ?_
          rw [if_pos hk, h2]
          exact List.mem_singleton.2 rfl
        · left
          have hk' : ¬ (j = 0 ∨ d[j]! ≠ d[j - 1]!) := fun h => hk (by unfold Lib.keeps; exact decide_eq_true h)
          refine ⟨j - 1, by omega, ?_⟩
          rw [← h2]
          by_cases e : d[j - 1]! = d[j]!
          · exact e
          · exact absurd (Or.inr (Ne.symm e)) hk'
theorem asc_upTo (d : Array Str) (hs : ∀ i j, i ≤ j → j < d.size → Op.bytesLess d[j]! d[i]! = false) : ∀ m, m ≤ d.size → asc (Lib.compactUpTo d m)
  | 0, _ => by simp [Lib.compactUpTo]
  | m + 1, h => by
    rw [Lib.compactUpTo_succ]
    refine List.pairwise_append.2 ⟨asc_upTo d hs m (by omega), ?_, ?_⟩
    · split <;> simp
    · intro a ha b hb
      split at hb
      · rename_i hk
        have hb := List.mem_singleton.1 hb
        subst hb
        obtain ⟨j, hj, rfl⟩ := (mem_upTo d a m).1 ha
        have hne : d[m]! ≠ d[m - 1]! := by
          unfold Lib.keeps at hk
          rcases of_decide_eq_true hk with hk | hk
          · omega
          · exact hk
        have h1 := less_of (hs (m - 1) m (by omega) (by omega)) hne
        by_cases e : d[m - 1]! = d[j]!
        · rw [← e]; exact h1
        · exact less_trans (less_of (hs j (m - 1) (by omega) (by omega)) e) h1
      · cases hb
theorem le_less (x y : Str) : decide (x ≤ y) = true ↔ Op.bytesLess y x = false := by
  rw [bytesLess_eq]
  simp only [decide_eq_true_eq, decide_eq_false_iff_not]
  exact Iff.rfl
theorem sort_pair (l : List Str) : (l.mergeSort fun x y => decide (x ≤ y)).Pairwise fun a b => decide (a ≤ b) = true := by
  refine List.pairwise_mergeSort (fun a b c h1 h2 => ?_) (fun a b => ?_) l
  · rw [le_less] at h1 h2 ⊢
    by_cases e : c = b
    · rw [e]; exact h1
    · have h3 := less_of h2 e
      by_cases e2 : b = a
      · rw [← e2]; exact h2
      · exact less_asymm (less_trans (less_of h1 e2) h3)
  · rcases less_total a b with h | h | h
    · subst h
      have := (le_less a a).2 (less_irr a)
      rw [this]; rfl
    · have := (le_less a b).2 (less_asymm h)
      rw [this]; rfl
    · have := (le_less b a).2 (less_asymm h)
      rw [this]; simp
theorem sortC_asc (l : List Str) : asc (sortC l) := by
  refine asc_upTo _ (fun i j hij hj => ?_) _ (by simp)
  simp only [List.size_toArray] at hj
  have hi : i < (l.mergeSort fun x y => decide (x ≤ y)).length := by omega
  rw [getElem!_pos _ _ (by simpa using hj), getElem!_pos _ _ (by simpa using hi)]
  simp only [List.getElem_toArray]
  rcases Nat.lt_or_eq_of_le hij with h | h
  · exact (le_less _ _).1 (List.pairwise_iff_getElem.1 (sort_pair l) i j hi hj h)
  · subst h; exact less_irr _
theorem mem_sortC (l : List Str) (x : Str) : x ∈ sortC l ↔ x ∈ l := by
  unfold sortC Lib.compact
  rw [mem_upTo]
  constructor
  · rintro ⟨j, hj, rfl⟩
    rw [getElem!_pos _ _ (by simpa using hj)]
    simp only [List.getElem_toArray]
    exact List.mem_mergeSort.1 (List.getElem_mem hj)
  · intro h
    obtain ⟨j, hj, e⟩ := List.mem_iff_getElem.1 (List.mem_mergeSort (le := fun x y => decide (x ≤ y)) |>.2 h)
    refine ⟨j, hj, ?_⟩
    rw [getElem!_pos _ _ (by simpa using hj)]
    simpa using e
theorem sortC_len (l : List Str) : (sortC l).length ≤ l.length := by
  have := Lib.compact_length_le (l.mergeSort fun x y => decide (x ≤ y))
  rw [List.length_mergeSort] at this
  exact this
/-- Whatever has these members, sorted. -/
theorem sortC_eq {l a : List Str} (ha : asc a) (h : ∀ x, x ∈ l ↔ x ∈ a) : sortC l = a :=
  asc_ext (sortC_asc l) ha fun x => (mem_sortC l x).trans (h x)

/-! ### What is reached -/
inductive Reach (d : Drawing) (s : Str) : Str → Prop where
  | base {x : Str} : x ∈ namedAt d s → Reach d s x
  | step {y x : Str} : Reach d s y → x ∈ namedAt d y → Reach d s x
theorem Reach.behind {d : Drawing} {s t x : Str} (h : t ∈ namedAt d s) (hx : Reach d t x) : Reach d s x := by
  induction hx with
  | base h1 => exact .step (.base h) h1
  | step _ h1 ih => exact .step ih h1
theorem mem_featN (d : Drawing) (s x : Str) : x ∈ featN d s ↔ x ∈ namedAt d s := by
  unfold featN namedAt
  cases d.features[(place d s).toNat]? with
  | none => simp
  | some f => exact mem_namedR f x
theorem named_place {d : Drawing} (hc : d.closed) {s x : Str} (h : x ∈ namedAt d s) : 0 ≤ place d x :=
  (featN_good hc s).2 x ((mem_featN d s x).2 h)
theorem mem_feats {d : Drawing} (hc : d.closed) : ∀ (l : List Str) {R : List Str}, goodR d R → ∀ {x : Str}, x ∈ l.foldl (fun out x => (featN d x).foldl putS out) R ↔ x ∈ R ∨ ∃ y ∈ l, x ∈ namedAt d y
  | [], R, _, x => by simp
  | y :: l, R, h, x => by
    rw [List.foldl_cons, mem_feats hc l (h.puts _ fun s hs => (featN_good hc y).2 s hs), mem_puts _ h.1, mem_featN]
    simp only [List.mem_cons, or_assoc]
    constructor
    · rintro (h | h | ⟨z, h1, h2⟩)
      · exact .inl h
      · exact .inr ⟨y, .inl rfl, h⟩
      · exact .inr ⟨z, .inr h1, h2⟩
    · rintro (h | ⟨z, rfl | h1, h2⟩)
      · exact .inl h
      · exact .inr (.inl h2)
      · exact .inr (.inr ⟨z, h1, h2⟩)
theorem mem_round {d : Drawing} (hc : d.closed) {R : List Str} (h : goodR d R) {x : Str} : x ∈ roundR d R ↔ x ∈ R ∨ ∃ y ∈ R, x ∈ namedAt d y := mem_feats hc R h
theorem needs_sound {d : Drawing} (hc : d.closed) {s : Str} : ∀ (k : Nat) {x : Str}, x ∈ iterN (roundR d) k (featN d s) → Reach d s x
  | 0, x, h => .base ((mem_featN d s x).1 h)
  | k + 1, x, h => by
    rcases (mem_round hc (iter_good hc (featN_good hc s) k)).1 h with h | ⟨y, h1, h2⟩
    · exact needs_sound hc k h
    · exact .step (needs_sound hc k h1) h2
theorem needs_base {d : Drawing} (hc : d.closed) {s : Str} {x : Str} (h : x ∈ featN d s) : ∀ k : Nat, x ∈ iterN (roundR d) k (featN d s)
  | 0 => h
  | k + 1 => (mem_round hc (iter_good hc (featN_good hc s) k)).2 (.inl (needs_base hc h k))
theorem asc_less {a b : List Str} (ha : asc a) (hb : asc b) (h : ∀ x ∈ a, x ∈ b) (hne : ¬ a = b) : a.length + 1 ≤ b.length := by
  have : ∃ x ∈ b, x ∉ a := by
    refine Classical.byContradiction fun hn => hne (asc_ext ha hb fun x => ⟨h x, fun hx => ?_⟩)
    exact Classical.byContradiction fun hx' => hn ⟨x, hx, hx'⟩
  obtain ⟨x, hx, hx'⟩ := this
  have := nodup_len (l := x :: a) (m := b) (List.nodup_cons.2 ⟨hx', asc_nodup ha⟩) fun y hy => by
    rcases List.mem_cons.1 hy with rfl | hy
    · exact hx
    · exact h y hy
  simpa using this
theorem iter_fix {d : Drawing} (hc : d.closed) (s : Str) : ∀ k : Nat, roundR d (iterN (roundR d) k (featN d s)) = iterN (roundR d) k (featN d s) ∨ k + 1 ≤ (iterN (roundR d) k (featN d s)).length
  | 0 => by
    cases h : featN d s with
    | nil => left; rfl
    | cons x r => right; simp [iterN]
  | k + 1 => by
    have hg := iter_good hc (featN_good hc s) k
    have hg1 := iter_good hc (featN_good hc s) (k + 1)
    by_cases e : roundR d (iterN (roundR d) k (featN d s)) = iterN (roundR d) k (featN d s)
    · left
      show roundR d (roundR d _) = roundR d _
      rw [e, e]
    · rcases iter_fix hc s k with h | h
      · exact absurd h e
      · right
        have := asc_less hg.1 hg1.1 (fun x hx => (mem_round hc hg).2 (.inl hx)) (fun h => e h.symm)
        omega
theorem mem_needsR {d : Drawing} (hc : d.closed) (s x : Str) : x ∈ needsR d s ↔ Reach d s x := by
  refine ⟨needs_sound hc _, fun h => ?_⟩
  have hfix : roundR d (needsR d s) = needsR d s := by
    rcases iter_fix hc s d.features.length with h | h
    · exact h
    · have := (iter_good hc (featN_good hc s) d.features.length).len
      omega
  induction h with
  | base h => exact needs_base hc ((mem_featN d s _).2 h) _
  | step _ h2 ih =>
    rw [← hfix]
    exact (mem_round hc (iter_good hc (featN_good hc s) _)).2 (.inr ⟨_, ih, h2⟩)

/-! ### Depth first -/
theorem fold_sound {d : Drawing} {n : Nat} (hF : ∀ (set : List Str) (t x : Str), x ∈ dfsF d n set t → x ∈ set ∨ x = t ∨ Reach d t x) : ∀ (l set : List Str) (x : Str), x ∈ l.foldl (dfsF d n) set → x ∈ set ∨ ∃ t ∈ l, x = t ∨ Reach d t x
  | [], set, x, h => .inl h
  | t :: r, set, x, h => by
    rcases fold_sound hF r _ x h with h | ⟨u, hu, h⟩
    · rcases hF set t x h with h | h
      · exact .inl h
      · exact .inr ⟨t, List.mem_cons_self, h⟩
    · exact .inr ⟨u, List.mem_cons_of_mem _ hu, h⟩
theorem dfs_sound (d : Drawing) : ∀ (n : Nat) (set : List Str) (t x : Str), x ∈ dfsF d n set t → x ∈ set ∨ x = t ∨ Reach d t x
  | 0, _, _, _, h => .inl h
  | m + 1, set, t, x, h => by
    by_cases ht : t ∈ set
    · rw [dfsF_in d _ ht] at h; exact .inl h
    · rw [dfsF_out d m ht] at h
      rcases fold_sound (dfs_sound d m) _ _ x h with h | ⟨u, hu, h⟩
      · rcases List.mem_append.1 h with h | h
        · exact .inl h
        · exact .inr (.inl (List.mem_singleton.1 h))
      · rcases h with rfl | h
        · exact .inr (.inr (.base hu))
        · exact .inr (.inr (.behind hu h))
theorem fold_closed {d : Drawing} {n : Nat} (hF : ∀ (set : List Str) (t : Str), 0 ≤ place d t → rem d set ≤ n → t ∈ dfsF d n set t ∧ ∀ x ∈ dfsF d n set t, x ∉ set → ∀ y ∈ namedAt d x, y ∈ dfsF d n set t) :
    ∀ (l set : List Str), (∀ t ∈ l, 0 ≤ place d t) → rem d set ≤ n → (∀ t ∈ l, t ∈ l.foldl (dfsF d n) set) ∧ ∀ x ∈ l.foldl (dfsF d n) set, x ∉ set → ∀ y ∈ namedAt d x, y ∈ l.foldl (dfsF d n) set
  | [], set, _, _ => ⟨fun t h => absurd h List.not_mem_nil, fun x h1 h2 => absurd h1 h2⟩
  | t :: r, set, hp, hr => by
    obtain ⟨a1, a2⟩ := hF set t (hp t List.mem_cons_self) hr
    have hr1 : rem d (dfsF d n set t) ≤ n := Nat.le_trans (rem_mono (dfsF_sub d n set t)) hr
    obtain ⟨b1, b2⟩ := fold_closed hF r (dfsF d n set t) (fun u hu => hp u (List.mem_cons_of_mem _ hu)) hr1
    refine ⟨fun u hu => ?_, fun x h1 h2 y hy => ?_⟩
    · rcases List.mem_cons.1 hu with rfl | hu
      · exact fold_sub (dfsF_sub d n) r _ _ a1
      · exact b1 u hu
    · by_cases hx : x ∈ dfsF d n set t
      · exact fold_sub (dfsF_sub d n) r _ _ (a2 x hx h2 y hy)
      · exact b2 x h1 hx y hy
theorem dfs_closed {d : Drawing} (hc : d.closed) : ∀ (n : Nat) (set : List Str) (t : Str), 0 ≤ place d t → rem d set ≤ n → t ∈ dfsF d n set t ∧ ∀ x ∈ dfsF d n set t, x ∉ set → ∀ y ∈ namedAt d x, y ∈ dfsF d n set t
  | 0, set, t, hp, hr => by
    by_cases ht : t ∈ set
    · exact ⟨ht, fun x h1 h2 => absurd h1 h2⟩
    · have := rem_add hp ht
      omega
  | m + 1, set, t, hp, hr => by
    by_cases ht : t ∈ set
    · rw [dfsF_in d _ ht]
      exact ⟨ht, fun x h1 h2 => absurd h1 h2⟩
    · rw [dfsF_out d m ht]
      have := rem_add hp ht
      obtain ⟨b1, b2⟩ := fold_closed (dfs_closed hc m) (namedAt d t) (set ++ [t]) (fun u hu => named_place hc hu) (by omega)
      refine ⟨fold_sub (dfsF_sub d m) _ _ _ (by simp), fun x h1 h2 y hy => ?_⟩
      by_cases hx : x = t
      · subst hx; exact b1 y hy
      · exact b2 x h1 (by simp [h2, hx]) y hy
theorem mem_follow {d : Drawing} (hc : d.closed) (s x : Str) : x ∈ followL d d.features.length [] s ↔ Reach d s x := by
  constructor
  · intro h
    rcases fold_sound (dfs_sound d _) _ _ x h with h | ⟨u, hu, h⟩
    · cases h
    · rcases h with rfl | h
      · exact .base hu
      · exact .behind hu h
  · intro h
    obtain ⟨b1, b2⟩ := fold_closed (dfs_closed hc d.features.length) (namedAt d s) [] (fun u hu => named_place hc hu) (List.length_filter_le _ _)
    induction h with
    | base h => exact b1 _ h
    | step _ h2 ih => exact b2 _ ih (by simp) _ h2
/-- Whatever has the members of what was followed, sorted: the reference's. -/
theorem sort_needs {d : Drawing} (hc : d.closed) (s : Str) {l : List Str} (h : ∀ x, x ∈ l ↔ x ∈ followL d d.features.length [] s) : sortC l = needsR d s :=
  sortC_eq (iter_good hc (featN_good hc s) _).1 fun x => (h x).trans ((mem_follow hc s x).trans (mem_needsR hc s x).symm)
theorem asc_usedR (d : Drawing) : asc (usedR d) := asc_puts _ List.Pairwise.nil
theorem sort_used (d : Drawing) {l : List Str} (h : ∀ x, x ∈ l ↔ ∃ f ∈ d.features, x ∈ namedL f) : sortC l = usedR d :=
  sortC_eq (asc_usedR d) fun x => by
    rw [h x]
    unfold usedR
    rw [mem_puts _ List.Pairwise.nil]
    simp [mem_namedR]
end Go.Proofs.YtpfhfokfambdaaaGreatDoor
