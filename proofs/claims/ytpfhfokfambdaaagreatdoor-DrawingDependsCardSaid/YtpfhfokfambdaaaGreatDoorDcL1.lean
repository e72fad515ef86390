/- A part of the proof of a law of this seat: L1; no conditions. -/
import Derived.Test.YtpfhfokfambdaaaGreatDoorDcK14
/-! Plain laws: names in ascending order. -/
namespace Go.Proofs.YtpfhfokfambdaaaGreatDoor
open Ev
theorem less_trans : ∀ {a b c : Str}, Op.bytesLess a b = true → Op.bytesLess b c = true → Op.bytesLess a c = true
  | _, _, [], _, h => by simp [Op.bytesLess] at h
  | _, [], _ :: _, h, _ => by simp [Op.bytesLess] at h
  | [], _ :: _, _ :: _, _, _ => rfl
  | x :: a, y :: b, z :: c, h1, h2 => by
    simp only [Op.bytesLess, Bool.or_eq_true, Bool.and_eq_true, decide_eq_true_eq, beq_iff_eq] at h1 h2 ⊢
    rcases h1 with h1 | ⟨rfl, h1⟩
    · rcases h2 with h2 | ⟨rfl, h2⟩
      · exact .inl (UInt8.lt_trans h1 h2)
      · exact .inl h1
    · rcases h2 with h2 | ⟨rfl, h2⟩
      · exact .inl h2
      · exact .inr ⟨rfl, less_trans h1 h2⟩
theorem less_total : ∀ (a b : Str), a = b ∨ Op.bytesLess a b = true ∨ Op.bytesLess b a = true
  | [], [] => .inl rfl
  | [], _ :: _ => .inr (.inl rfl)
  | _ :: _, [] => .inr (.inr rfl)
  | x :: a, y :: b => by
    simp only [Op.bytesLess, Bool.or_eq_true, Bool.and_eq_true, decide_eq_true_eq, beq_iff_eq, List.cons.injEq]
    by_cases h : x = y
    · subst h
      rcases less_total a b with h | h | h
      · exact .inl ⟨rfl, h⟩
      · exact .inr (.inl (.inr ⟨rfl, h⟩))
      · exact .inr (.inr (.inr ⟨rfl, h⟩))
    · rcases UInt8.lt_or_lt_of_ne h with h1 | h1
      · exact .inr (.inl (.inl h1))
      · exact .inr (.inr (.inl h1))
theorem less_asymm {a b : Str} (h : Op.bytesLess a b = true) : Op.bytesLess b a = false := by
  cases hb : Op.bytesLess b a
  · rfl
  · have := less_trans h hb
    rw [less_irr] at this
    cases this
theorem less_ne {a b : Str} (h : Op.bytesLess a b = true) : ¬ a = b := by
  rintro rfl
  rw [less_irr] at h
  cases h
theorem less_of {a b : Str} (h1 : Op.bytesLess a b = false) (h2 : ¬ a = b) : Op.bytesLess b a = true := by
  rcases less_total a b with h | h | h
  · exact absurd h h2
  · rw [h1] at h; cases h
  · exact h
/-- Strictly ascending. -/
abbrev asc (l : List Str) : Prop := l.Pairwise fun a b => Op.bytesLess a b = true
theorem put_done (s : Str) : ∀ (l : List Str) (out : List Str), (∀ x ∈ l, Op.bytesLess s x = true) → l.foldl (putStep s) (out, true) = (out ++ l, true)
  | [], out, _ => by simp
  | x :: l, out, h => by
    have hx := h x List.mem_cons_self
    have : putStep s (out, true) x = (out ++ [x], true) := by
      have hne : ¬ x = s := fun e => less_ne hx e.symm
      simp [putStep, hne]
    rw [List.foldl_cons, this, put_done s l _ fun y hy => h y (List.mem_cons_of_mem _ hy)]
    simp
theorem put_fold (s : Str) : ∀ (l : List Str) (out : List Str), asc l → (if (l.foldl (putStep s) (out, false)).2 then (l.foldl (putStep s) (out, false)).1 else (l.foldl (putStep s) (out, false)).1 ++ [s]) = out ++ (l.filter fun x => Op.bytesLess x s) ++ s :: l.filter fun x => Op.bytesLess s x
  | [], out, _ => by simp
  | x :: l, out, h => by
    obtain ⟨h1, h2⟩ := List.pairwise_cons.1 h
    rw [List.foldl_cons]
    cases hx : Op.bytesLess x s
    · by_cases e : x = s
      · have hs : putStep s (out, false) x = (out ++ [s], true) := by
          simp [putStep, e, less_irr]
        subst e
        have hall : ∀ y ∈ l, Op.bytesLess x y = true := h1
        rw [hs, put_done x l _ hall]
        have f1 : l.filter (fun y => Op.bytesLess y x) = [] := by
          rw [List.filter_eq_nil_iff]; intro y hy; rw [less_asymm (hall y hy)]; simp
        have f2 : l.filter (fun y => Op.bytesLess x y) = l := List.filter_eq_self.2 hall
        simp [less_irr, f1, f2]
      · have hsx := less_of hx e
        have hs : putStep s (out, false) x = (out ++ [s] ++ [x], true) := by
          simp [putStep, hx, e]
        have hall : ∀ y ∈ l, Op.bytesLess s y = true := fun y hy => less_trans hsx (h1 y hy)
        rw [hs, put_done s l _ hall]
        have f1 : l.filter (fun y => Op.bytesLess y s) = [] := by
          rw [List.filter_eq_nil_iff]; intro y hy; rw [less_asymm (hall y hy)]; simp
        have f2 : l.filter (fun y => Op.bytesLess s y) = l := List.filter_eq_self.2 hall
        simp [hx, hsx, f1, f2]
    · have hne := less_ne hx
      have hs : putStep s (out, false) x = (out ++ [x], false) := by
        simp [putStep, hx, hne]
      rw [hs, put_fold s l _ h2]
      simp [hx, less_asymm hx]
theorem putS_eq {l : List Str} (h : asc l) (s : Str) : putS l s = (l.filter fun x => Op.bytesLess x s) ++ s :: l.filter fun x => Op.bytesLess s x := by
  have := put_fold s l [] h
  simpa [putS] using this
theorem mem_putS {l : List Str} (h : asc l) {s x : Str} : x ∈ putS l s ↔ x = s ∨ x ∈ l := by
  rw [putS_eq h, List.mem_append, List.mem_cons, List.mem_filter, List.mem_filter]
  constructor
  · rintro (h | h | h)
    · exact .inr h.1
    · exact .inl h
    · exact .inr h.1
  · rintro (h | h)
    · exact .inr (.inl h)
    · rcases less_total x s with e | e | e
      · exact .inr (.inl e)
      · exact .inl ⟨h, e⟩
      · exact .inr (.inr ⟨h, e⟩)
theorem asc_putS {l : List Str} (h : asc l) (s : Str) : asc (putS l s) := by
  rw [putS_eq h]
  refine List.pairwise_append.2 ⟨h.filter _, List.pairwise_cons.2 ⟨fun y hy => (List.mem_filter.1 hy).2, h.filter _⟩, fun a ha b hb => ?_⟩
  have ha := (List.mem_filter.1 ha).2
  rcases List.mem_cons.1 hb with rfl | hb
  · exact ha
  · exact less_trans ha (List.mem_filter.1 hb).2
theorem asc_puts : ∀ (r : List Str) {l : List Str}, asc l → asc (r.foldl putS l)
  | [], _, h => h
  | s :: r, _, h => asc_puts r (asc_putS h s)
theorem mem_puts : ∀ (r : List Str) {l : List Str}, asc l → ∀ {x : Str}, x ∈ r.foldl putS l ↔ x ∈ l ∨ x ∈ r
  | [], l, _, x => by simp
  | s :: r, l, h, x => by
    rw [List.foldl_cons, mem_puts r (asc_putS h s), mem_putS h]
    simp only [List.mem_cons]
    constructor
    · rintro ((h | h) | h)
      · exact .inr (.inl h)
      · exact .inl h
      · exact .inr (.inr h)
    · rintro (h | h | h)
      · exact .inl (.inr h)
      · exact .inl (.inl h)
      · exact .inr h
/-- Two ascending lists of the same names are one. -/
theorem asc_ext : ∀ {a b : List Str}, asc a → asc b → (∀ x, x ∈ a ↔ x ∈ b) → a = b
  | [], [], _, _, _ => rfl
  | [], y :: b, _, _, h => by have := (h y).2 List.mem_cons_self; simp at this
  | x :: a, [], _, _, h => by have := (h x).1 List.mem_cons_self; simp at this
  | x :: a, y :: b, ha, hb, h => by
    obtain ⟨a1, a2⟩ := List.pairwise_cons.1 ha
    obtain ⟨b1, b2⟩ := List.pairwise_cons.1 hb
    have e : x = y := by
      rcases List.mem_cons.1 ((h x).1 List.mem_cons_self) with e | hx
      · exact e
      · rcases List.mem_cons.1 ((h y).2 List.mem_cons_self) with e | hy
        · exact e.symm
        · have := less_trans (b1 x hx) (a1 y hy)
          rw [less_irr] at this
          cases this
    subst e
    congr 1
    refine asc_ext a2 b2 fun z => ?_
    have hz := h z
    simp only [List.mem_cons] at hz
    constructor
    · intro hm
      rcases hz.1 (.inr hm) with e | e
      · rw [e] at hm; have := a1 x hm; rw [less_irr] at this; cases this
      · exact e
    · intro hm
      rcases hz.2 (.inr hm) with e | e
      · rw [e] at hm; have := b1 x hm; rw [less_irr] at this; cases this
      · exact e
theorem asc_nodup {l : List Str} (h : asc l) : l.Nodup := h.imp less_ne
theorem nodup_len {α : Type} [DecidableEq α] : ∀ {l m : List α}, l.Nodup → (∀ x ∈ l, x ∈ m) → l.length ≤ m.length
  | [], m, _, _ => Nat.zero_le _
  | a :: l, m, h, hs => by
    obtain ⟨h1, h2⟩ := List.nodup_cons.1 h
    have hm := hs a List.mem_cons_self
    have := nodup_len (m := m.erase a) h2 fun x hx => (List.mem_erase_of_ne (fun e => h1 (by rw [← e]; exact hx))).2 (hs x (List.mem_cons_of_mem _ hx))
    rw [List.length_erase_of_mem hm] at this
    have hp := List.length_pos_of_mem hm
    simp only [List.length_cons]
    omega
end Go.Proofs.YtpfhfokfambdaaaGreatDoor
