/- A part of the proof of a law of this seat: K17; no conditions. -/
import Derived.Test.YtpfhfokfambdaaaGreatDoorDcK16
/-! Contracts: the program's names that are needed: the closure that follows them. -/
set_option linter.unusedVariables false
set_option linter.unusedSimpArgs false
namespace Go.Proofs.YtpfhfokfambdaaaGreatDoor
open Ev
open Go.RowKit (Below)
def namedAt (d : Drawing) (s : Str) : List Str := match d.features[(place d s).toNat]? with
  | some f => namedL f
  | none => []
/-- One name followed, depth first. -/
def dfsF (d : Drawing) : Nat → List Str → Str → List Str
  | 0, set, _ => set
  | m + 1, set, t => if t ∈ set then set else (namedAt d t).foldl (dfsF d m) (set ++ [t])
def followL (d : Drawing) (n : Nat) (set : List Str) (s : Str) : List Str := (namedAt d s).foldl (dfsF d n) set
theorem dfsF_in (d : Drawing) (n : Nat) {set : List Str} {t : Str} (h : t ∈ set) : dfsF d n set t = set := by
  cases n <;> simp [dfsF, h]
theorem dfsF_out (d : Drawing) (m : Nat) {set : List Str} {t : Str} (h : ¬ t ∈ set) : dfsF d (m + 1) set t = followL d m (set ++ [t]) t := by
  simp [dfsF, h, followL]
def rem (d : Drawing) (set : List Str) : Nat := (d.features.filter fun f => decide (f.name ∉ set)).length
theorem rem_add {d : Drawing} {set : List Str} {t : Str} (ht : 0 ≤ place d t) (h : t ∉ set) : rem d (set ++ [t]) + 1 ≤ rem d set := by
  obtain ⟨k, hk, _, hn⟩ := place_mem ht
  have hm : d.features[k] ∈ d.features.filter fun f => decide (f.name ∉ set) := List.mem_filter.2 ⟨List.getElem_mem hk, by simp [hn, h]⟩
  have hsub : (d.features.filter fun f => decide (f.name ∉ set ++ [t])) = (d.features.filter fun f => decide (f.name ∉ set)).filter fun f => decide (f.name ≠ t) := by
    rw [List.filter_filter]
    congr 1
    funext f
    rw [Bool.eq_iff_iff]
    simp
    constructor
    · rintro ⟨h1, h2⟩; exact ⟨h2, h1⟩
    · rintro ⟨h1, h2⟩; exact ⟨h2, h1⟩
  unfold rem
  rw [hsub]
  exact List.length_filter_lt_length_iff_exists.2 ⟨_, hm, by simp [hn]⟩
theorem rem_mono {d : Drawing} {a b : List Str} (h : ∀ x ∈ a, x ∈ b) : rem d b ≤ rem d a := by
  unfold rem
  have hsub : (d.features.filter fun f => decide (f.name ∉ b)) = (d.features.filter fun f => decide (f.name ∉ a)).filter fun f => decide (f.name ∉ b) := by
    rw [List.filter_filter]
    congr 1
    funext f
    rw [Bool.eq_iff_iff]
    simp
    exact fun h1 h2 => h1 (h _ h2)
  rw [hsub]
  exact List.length_filter_le _ _
theorem fold_sub {d : Drawing} {n : Nat} (hF : ∀ set t, ∀ x ∈ set, x ∈ dfsF d n set t) : ∀ (l set : List Str), ∀ x ∈ set, x ∈ l.foldl (dfsF d n) set
  | [], _, x, hx => hx
  | t :: r, set, x, hx => fold_sub hF r _ x (hF set t x hx)
theorem dfsF_sub (d : Drawing) : ∀ (n : Nat) (set : List Str) (t : Str), ∀ x ∈ set, x ∈ dfsF d n set t
  | 0, _, _, _, hx => hx
  | m + 1, set, t, x, hx => by
    by_cases h : t ∈ set
    · rw [dfsF_in d _ h]; exact hx
    · rw [dfsF_out d m h]
      exact fold_sub (dfsF_sub d m) _ _ x (List.mem_append_left _ hx)
/-- A map of found names. -/
def kv (l : List Str) : List (Str × A) := l.map fun s => (s, .d (.bool true))
theorem kv_slots (l : List Str) : Blk.slots (.mp (kv l)) = [] := by
  simp only [Blk.slots, kv, List.flatMap_eq_nil_iff]
  intro r hr
  obtain ⟨a, _, rfl⟩ := List.mem_map.1 hr
  rfl
theorem kv_get : ∀ (l : List Str) (s : Str), getKV (kv l) s = if s ∈ l then some (.d (.bool true)) else none
  | [], s => rfl
  | t :: l, s => by
    have ih := kv_get l s
    unfold kv at ih ⊢
    simp only [List.map_cons, getKV]
    by_cases h : t = s
    · subst h; simp
    · have h' : ¬ s = t := fun e => h e.symm
      rw [if_neg h, ih]
      simp [h']
theorem kv_put : ∀ (l : List Str) (s : Str), s ∉ l → putKV (kv l) s (.d (.bool true)) = kv (l ++ [s])
  | [], s, _ => rfl
  | t :: l, s, h => by
    have ih := kv_put l s fun hm => h (List.mem_cons_of_mem _ hm)
    have h' : ¬ t = s := fun e => h (e ▸ List.mem_cons_self)
    unfold kv at ih ⊢
    simp only [List.map_cons, putKV, if_neg h', ih, List.cons_append]
theorem kv_length (l : List Str) : (kv l).length = l.length := by simp [kv]
attribute [simp high] kv_slots
/-- A state told anew. -/
theorem leq_of {t t' : List (Nat × L)} {m m' : List (Nat × Blk)} (ht : ∀ p ∈ t', Ev.look t p.1 = some p.2) (hm : ∀ k, Ev.look m' k = Ev.look m k) (hc : St.closed ⟨t', m'⟩ = true) : Leq [] ⟨t', m'⟩ ⟨t, m⟩ := by
  simp only [St.closed, Bool.and_eq_true, List.all_eq_true] at hc
  obtain ⟨c1, c2⟩ := hc
  refine ⟨fun i => ?_, fun k => .inr (hm k), fun i k hk => ?_, fun k bl j h1 h2 => ?_⟩
  · cases h : Ev.look t' i with
    | none => exact .inl (by simp [St.get, h])
    | some x =>
      have := ht _ (look_mem h)
      exact .inr (by simp only [St.get, h, this])
  · cases h : Ev.look t' i with
    | none => simp [St.get, h] at hk; exact hk.elim
    | some x =>
      simp [St.get, h] at hk
      exact Option.isSome_iff_ne_none.1 (c1 _ (look_mem h) k (L.men_slots hk))
  · exact Option.isSome_iff_ne_none.1 (c2 _ (look_mem h1) j (Blk.men_slots h2))

theorem w_write2 (t : List (Nat × L)) (m : List (Nat × Blk)) (d : Nat) (l : L) (p q : Nat × Blk) (r : List (Nat × Blk)) : St.write ⟨t, m⟩ (some d) l (p :: q :: r) = ⟨(d, l) :: t, (p :: q :: r) ++ m⟩ := rfl
theorem w_writen2 (t : List (Nat × L)) (m : List (Nat × Blk)) (l : L) (p q : Nat × Blk) (r : List (Nat × Blk)) : St.write ⟨t, m⟩ none l (p :: q :: r) = ⟨t, (p :: q :: r) ++ m⟩ := rfl
attribute [simp] w_write2 w_writen2
attribute [-simp] ite_self Prod.exists
section
variable {G : World → Prop} (hG : ∀ w w', G w → Below w.heap.size w w' → G w')
include hG
abbrev needSlots (d : Drawing) (set : List Str) : List (Nat × Blk) := [(5, .var [.map 9]), (9, .mp (kv set)), (6, .var [.fn 94 [.d (.ref d.row), .loc 5 0, .loc 6 0]])]
set_option maxRecDepth 8192 in
set_option maxHeartbeats 4000000 in
theorem s_draw_needs_step (d : Drawing) (hd : d.fits) (hl : ∀ f ∈ d.features, (namedL f).length ≤ 100000) (hc : d.closed) (n : Nat)
    (ih : ∀ m, m + 1 = n → ∀ (set : List Str) (s : Str), rem d set ≤ m → 0 ≤ place d s → SatS G Tryz.prog 94 [.s s, .at (.d (.ref d.row)), .at (.loc 5 0), .at (.loc 6 0)] (needSlots d set) (.tup []) (needSlots d (followL d m set s)))
    (set : List Str) (s : Str) (hr : rem d set ≤ n) (hs : 0 ≤ place d s) :
    SatS G Tryz.prog 94 [.s s, .at (.d (.ref d.row)), .at (.loc 5 0), .at (.loc 6 0)] (needSlots d set) (.tup []) (needSlots d (followL d n set s)) := by
  refine satS_of hG Tryz.func94 k_drawing_needs_1 rfl (by simp) ?_
  obtain ⟨q, hq, hp, _⟩ := place_mem hs
  have hna : namedAt d s = namedL d.features[q] := by simp [namedAt, hp, hq]
  have hfl := hd.2.1
  have hnl := hl _ (List.getElem_mem hq)
  have hcl := hc _ (List.getElem_mem hq)
  have hfo : followL d n set s = (namedL d.features[q]).foldl (dfsF d n) set := by rw [followL, hna]
  rw [hfo]
  clear hfo hna
  simp [c_drawing_needs_1, needSlots]
  refine ⟨_, s_draw_index hG d s hfl, ?_⟩
  simp [hp, hq]
  refine ⟨_, s_draw_named hG _ (hd.2.2.1 _ (List.getElem_mem hq)) (by omega), ?_⟩
  simp
  generalize namedL d.features[q] = l at hnl hcl
  refine ⟨⟨[(1, .at (.d (.ref d.row))), (2, .at (.loc 5 0)), (3, .at (.loc 6 0)), (14, .sl (l.map fun s => [D.str s])), (15, .n l.length), (16, .n 0)], needSlots d set⟩, leq_of (by simp) (fun k => rfl) (by simp [St.closed]), ?_⟩
  refine w_loopP (fun p : Nat × List Str => ⟨[(1, .at (.d (.ref d.row))), (2, .at (.loc 5 0)), (3, .at (.loc 6 0)), (14, .sl (l.map fun s => [D.str s])), (15, .n l.length), (16, .n p.1)], needSlots d p.2⟩) (fun p => p.1 ≤ l.length ∧ p.2 = (l.take p.1).foldl (dfsF d n) set) (fun p => l.length - p.1) (0, set) rfl ⟨Nat.zero_le _, rfl⟩ ?_
  rintro ⟨k, st⟩ ⟨hk, hst⟩
  simp only at hk hst
  have hrs : rem d st ≤ n := Nat.le_trans (rem_mono (by rw [hst]; exact fold_sub (dfsF_sub d n) _ _)) hr
  by_cases hlt : k < l.length
  · have hft := fold_take (f := dfsF d n) (b := set) hlt
    rw [← hst] at hft
    have hpl := hcl _ (List.getElem_mem hlt)
    have hw := wrap_succ hlt (show l.length ≤ 4611686018427387904 by omega)
    by_cases hin : l[k] ∈ st
    · rw [dfsF_in d n hin] at hft
      simp [hlt, kv_get, hin]
      refine ⟨⟨[(1, .at (.d (.ref d.row))), (2, .at (.loc 5 0)), (3, .at (.loc 6 0)), (14, .sl (l.map fun s => [D.str s])), (15, .n l.length), (16, .n ((k + 1 : Nat) : Int))], needSlots d st⟩, leq_of (by simp [hw]) (fun k => rfl) (by simp [St.closed]), (k + 1, st), rfl, ⟨hlt, ?_⟩, show _ - (k + 1) < _ by omega⟩
      rw [hft]
    · obtain ⟨m, rfl⟩ : ∃ m, n = m + 1 := ⟨n - 1, by have := rem_add hpl hin; omega⟩
      rw [dfsF_out d m hin] at hft
      have hcall := ih m rfl (st ++ [l[k]]) l[k] (by have := rem_add hpl hin; omega) hpl
      have hput := kv_put st l[k] hin
      simp [hlt, kv_get, hin, hput]
      refine ⟨[5, 9, 6], [], _, _, hcall, ?_, by simp, ?_⟩
      · simp
        refine ⟨?_, ?_⟩
        · rintro a b (⟨rfl, rfl⟩ | ⟨rfl, rfl⟩ | ⟨rfl, rfl⟩) x hx <;> simp at hx
          · subst hx; simp
          · rcases hx with hx | hx <;> (subst hx; simp)
        · rintro a b (⟨rfl, rfl⟩ | ⟨rfl, rfl⟩ | ⟨rfl, rfl⟩) <;> simp
      simp
      refine ⟨⟨[(1, .at (.d (.ref d.row))), (2, .at (.loc 5 0)), (3, .at (.loc 6 0)), (14, .sl (l.map fun s => [D.str s])), (15, .n l.length), (16, .n ((k + 1 : Nat) : Int))], needSlots d (followL d m (st ++ [l[k]]) l[k])⟩, leq_of (by simp [hw]) (fun k => ?_) (by simp [St.closed]), (k + 1, followL d m (st ++ [l[k]]) l[k]), rfl, ⟨hlt, ?_⟩, show _ - (k + 1) < _ by omega⟩
      · by_cases h5 : 5 = k
        · subst h5; simp
        · by_cases h9 : 9 = k
          · subst h9; simp
          · by_cases h6 : 6 = k
            · subst h6; simp
            · simp [h5, h9, h6]
      · rw [hft]
  · have : k = l.length := by omega
    subst this
    rw [List.take_length] at hst
    simp [outS, hst]
end
end Go.Proofs.YtpfhfokfambdaaaGreatDoor
