/- A part of the proof of a law of this seat: K8; no conditions. -/
import Derived.Test.YtpfhfokfambdaaaGreatDoorDcK7
/-! Contracts: frames (the reference's). -/
set_option linter.unusedSimpArgs false
namespace Go.Proofs.YtpfhfokfambdaaaGreatDoor
open Ev
open Go.RowKit (Below)
structure RRow where
  word : Str
  on : Str
  least : Int
  most : Int
  disc : Str
abbrev RRow.row (r : RRow) : List D := [.str r.word, .str r.on, .i r.least, .i r.most, .str r.disc]
def rrowsT : List RRow := [⟨[115, 116, 114, 97, 105, 103, 104, 116], [72, 73], 0, 0, [72, 73]⟩, ⟨[102, 108, 97, 116], [80, 83], 0, 0, []⟩, ⟨[112, 97, 114, 97, 108, 108, 101, 108], [80, 72, 73, 83], 1, 2, [72, 73]⟩,
  ⟨[115, 113, 117, 97, 114, 101], [80, 72, 73, 83], 1, 2, [72, 73]⟩, ⟨[114, 111, 117, 110, 100], [72, 73, 66], 0, 0, []⟩, ⟨[115, 112, 104, 101, 114, 101], [66], 0, 0, []⟩, ⟨[112, 114, 111, 102, 105, 108, 101], [80], 0, 3, []⟩,
  ⟨[114, 117, 110, 111, 117, 116], [80, 72, 73], 1, 1, []⟩, ⟨[112, 111, 115, 105, 116, 105, 111, 110], [80, 72, 73, 83, 66], 0, 3, [72, 73, 66]⟩]
def letterR (k : Int) : UInt8 := if k = 0 then 80 else if k = 1 then 72 else if k = 2 then 73 else if k = 3 then 83 else 66
def hasB (s : Str) (k : Int) : Bool := s.any fun b => decide (b = letterR k)
def mayM (f k : Int) : Bool := decide (¬ f = 0) && (decide (k = 0) || decide (k = 2) || decide (k = 3) || decide (k = 8))
def permG (on disc may : Bool) (least most : Int) (x : Frame) : Int :=
  if on = false then 14 else if x.disc = true ∧ disc = false then 3 else if x.tol = 0 ∧ ¬ x.mat = 1 then 10 else if ¬ x.mat = 0 ∧ may = false then 3
  else if (x.datums.length : Int) < least then 13 else if most < (x.datums.length : Int) then 5 else 0
theorem permErr_eq (r : FRow) (f : Feature) (x : Frame) : permErr r f x = if permG (isB r.on f.kind) (isB r.disc f.kind) (r.mat && decide (¬ f.kind = 0)) r.least r.most x = 0 then (if x.datums.any (fun d => decide (d.name = f.name)) then 7 else 0) else permG (isB r.on f.kind) (isB r.disc f.kind) (r.mat && decide (¬ f.kind = 0)) r.least r.most x := by
  have hm : ((r.mat && decide (¬ f.kind = 0)) = false) = (r.mat = false ∨ f.kind = 0) := by
    cases r.mat <;> simp
  simp only [permErr, permG, hm]
  split
  · simp
  · split
    · simp
    · split
      · simp
      · split
        · simp
        · split
          · simp
          · split <;> simp
theorem table_eq (f k : Int) (f0 : 0 ≤ f) (f1 : f < 5) (k0 : 0 ≤ k) (k1 : k < 9) (x : Frame) : permG (isB (rowsT.getD k.toNat ⟨[], [], [], 0, 0, false⟩).on f) (isB (rowsT.getD k.toNat ⟨[], [], [], 0, 0, false⟩).disc f) ((rowsT.getD k.toNat ⟨[], [], [], 0, 0, false⟩).mat && decide (¬ f = 0)) (rowsT.getD k.toNat ⟨[], [], [], 0, 0, false⟩).least (rowsT.getD k.toNat ⟨[], [], [], 0, 0, false⟩).most x =
    permG (hasB (rrowsT.getD k.toNat ⟨[], [], 0, 0, []⟩).on f) (hasB (rrowsT.getD k.toNat ⟨[], [], 0, 0, []⟩).disc f) (mayM f k) (rrowsT.getD k.toNat ⟨[], [], 0, 0, []⟩).least (rrowsT.getD k.toNat ⟨[], [], 0, 0, []⟩).most x := by
  have hf : f = 0 ∨ f = 1 ∨ f = 2 ∨ f = 3 ∨ f = 4 := by omega
  have hk : k = 0 ∨ k = 1 ∨ k = 2 ∨ k = 3 ∨ k = 4 ∨ k = 5 ∨ k = 6 ∨ k = 7 ∨ k = 8 := by omega
  rcases hf with e | e | e | e | e <;> rcases hk with e' | e' | e' | e' | e' | e' | e' | e' | e' <;> (subst e; subst e'; rfl)

attribute [-simp] ite_self
section
variable {G : World → Prop} (hG : ∀ w w', G w → Below w.heap.size w w' → G w')
include hG
theorem s_r19_material (m : Int) : Sat G Tryz.prog 236 [.i m] (.i (condErr m)) := by
  refine sat_of hG Tryz.func236 k_metrolabref19_material ?_
  by_cases h1 : m < 0
  · simp [c_metrolabref19_material, h1, condErr]
  · have h1' := Int.not_lt.1 h1
    by_cases h2 : 3 ≤ m <;> simp [c_metrolabref19_material, eq_false h1, h1', h2, condErr]
theorem s_r19_Rows : Sat G Tryz.prog 238 [] (.slice (rrowsT.map RRow.row)) := by
  refine sat_of hG Tryz.func238 k_metrolabref19_Rows ?_
  simp [c_metrolabref19_Rows, rrowsT, List.range, List.range.loop]
theorem s_r19_mayMaterial (f : Feature) (k : Int) : Sat G Tryz.prog 240 [.agg f.row, .i k] (.bool (mayM f.kind k)) := by
  refine sat_of hG Tryz.func240 k_metrolabref19_mayMaterial ?_
  by_cases h1 : f.kind = 0
  · simp [c_metrolabref19_mayMaterial, h1, mayM]
  by_cases h2 : k = 0
  · simp [c_metrolabref19_mayMaterial, h1, h2, mayM]
  by_cases h3 : k = 2
  · simp [c_metrolabref19_mayMaterial, h1, h3, mayM]
  by_cases h4 : k = 3
  · simp [c_metrolabref19_mayMaterial, h1, h4, mayM]
  by_cases h5 : k = 8
  · simp [c_metrolabref19_mayMaterial, h1, h5, mayM]
  simp [c_metrolabref19_mayMaterial, h1, h2, h3, h4, h5, mayM]
theorem s_r19_has (s : Str) (f : Int) (f0 : 0 ≤ f) (f1 : f < 5) (hs : s.length ≤ 4611686018427387904) : Sat G Tryz.prog 239 [.str s, .i f] (.bool (hasB s f)) := by
  refine sat_of hG Tryz.func239 k_metrolabref19_has ?_
  have hf : f = 0 ∨ f = 1 ∨ f = 2 ∨ f = 3 ∨ f = 4 := by omega
  simp [c_metrolabref19_has]
  refine w_loopP (fun k : Nat => ⟨[(0, .s s), (1, .n f), (5, .n k)], []⟩) (fun k => k ≤ s.length ∧ (s.take k).any (fun b => decide (b = letterR f)) = false) (fun k => s.length - k) 0 rfl ⟨Nat.zero_le _, by simp⟩ ?_
  rintro k ⟨hk, he⟩
  by_cases hlt : k < s.length
  · have ht := any_take (p := fun b => decide (b = letterR f)) hlt
    have hfin : s[k] = letterR f → hasB s f = true := fun h => List.any_eq_true.2 ⟨_, List.getElem_mem hlt, by simp [h]⟩
    have hlet : ∀ c : UInt8, letterR f = c → ((((s[k]).toNat : Int) = (c.toNat : Int)) ↔ s[k] = letterR f) := by
      intro c hc
      rw [hc]
      constructor
      · intro h; exact UInt8.toNat_inj.1 (by omega)
      · intro h; rw [h]
    rcases hf with e | e | e | e | e
    all_goals
      have hl := hlet _ (by rw [e])
      by_cases h : s[k] = letterR f
      · have h' := hl.2 h
        simp [letterR] at h'
        simp [hlt, h', e, hfin h]
        rw [← e]; exact hfin h
      · have h' := mt hl.1 h
        simp [letterR] at h'
        rw [he, decide_eq_false h] at ht
        simp [hlt, h', e]
        exact ⟨k + 1, wrap_succ hlt (by omega), ⟨hlt, by rw [e] at ht; simpa using ht⟩, by omega⟩
  · have : k = s.length := by omega
    subst this
    rw [List.take_length] at he
    simp [hasB, he]
set_option maxRecDepth 8192 in
theorem s_r19_permitted (f : Feature) (x : Frame) (f0 : 0 ≤ f.kind) (f1 : f.kind < 5) (k0 : 0 ≤ x.kind) (k1 : x.kind < 9) : Sat G Tryz.prog 202 [.agg f.row, .agg x.row]
    (.i (permG (hasB (rrowsT.getD x.kind.toNat ⟨[], [], 0, 0, []⟩).on f.kind) (hasB (rrowsT.getD x.kind.toNat ⟨[], [], 0, 0, []⟩).disc f.kind) (mayM f.kind x.kind) (rrowsT.getD x.kind.toNat ⟨[], [], 0, 0, []⟩).least (rrowsT.getD x.kind.toNat ⟨[], [], 0, 0, []⟩).most x)) := by
  refine sat_of hG Tryz.func202 k_metrolabref19_permitted ?_
  have hrows := s_r19_Rows hG
  obtain ⟨r, hr⟩ : ∃ r, rrowsT.getD x.kind.toNat ⟨[], [], 0, 0, []⟩ = r := ⟨_, rfl⟩
  have hk : x.kind = 0 ∨ x.kind = 1 ∨ x.kind = 2 ∨ x.kind = 3 ∨ x.kind = 4 ∨ x.kind = 5 ∨ x.kind = 6 ∨ x.kind = 7 ∨ x.kind = 8 := by omega
  have hR : (rrowsT.map RRow.row)[x.kind.toNat]? = some r.row ∧ r.on.length ≤ 4611686018427387904 ∧ r.disc.length ≤ 4611686018427387904 := by
    rw [← hr]
    rcases hk with e | e | e | e | e | e | e | e | e <;> rw [e] <;> exact ⟨rfl, by decide, by decide⟩
  rw [hr]
  generalize rrowsT.map RRow.row = R at hR hrows
  obtain ⟨hR1, hR2, hR3⟩ := hR
  simp [c_metrolabref19_permitted]
  refine ⟨_, hrows, ?_⟩
  simp [k0, hR1]
  refine ⟨_, s_r19_has hG _ _ f0 f1 hR2, ?_⟩
  obtain ⟨p, hp⟩ : ∃ p, p = permG (hasB r.on f.kind) (hasB r.disc f.kind) (mayM f.kind x.kind) r.least r.most x := ⟨_, rfl⟩
  rw [← hp]
  simp only [permG] at hp
  cases g1 : hasB r.on f.kind
  case false => simp [g1] at hp; simp [hp]
  rw [g1, if_neg (by simp)] at hp
  cases hd : x.disc
  all_goals
    simp [hd]
    first
      | (refine ⟨_, s_r19_has hG _ _ f0 f1 hR3, ?_⟩
         cases g2 : hasB r.disc f.kind
         case false => simp [hd, g2] at hp; simp [hp]
         rw [hd, g2, if_neg (by simp)] at hp
         simp)
      | rw [hd, if_neg (by simp)] at hp
    by_cases g3 : x.tol = 0 ∧ ¬ x.mat = 1
    case pos => simp [g3] at hp; simp [g3, hp]
    rw [if_neg g3] at hp
    have q1 : (x.tol = 0 ∧ x.mat = 1) ∨ ¬ x.tol = 0 := by
      by_cases t0 : x.tol = 0
      · refine .inl ⟨t0, ?_⟩
        by_cases h : x.mat = 1
        · exact h
        · exact absurd ⟨t0, h⟩ g3
      · exact .inr t0
    by_cases t2 : x.mat = 0
    · rw [if_neg (fun h => h.1 t2)] at hp
      have t0 : ¬ x.tol = 0 := by
        rcases q1 with ⟨_, t1⟩ | t0
        · rw [t1] at t2; cases t2
        · exact t0
      by_cases g5 : (x.datums.length : Int) < r.least
      · rw [if_pos g5] at hp
        simp [t0, t2, g5, hp]
      have g5' := Int.not_lt.1 g5
      rw [if_neg g5] at hp
      by_cases g6 : r.most < (x.datums.length : Int)
      · rw [if_pos g6] at hp
        simp [t0, t2, eq_false g5, g5', g6, hp]
      have g6' := Int.not_lt.1 g6
      rw [if_neg g6] at hp
      simp [t0, t2, eq_false g5, g5', eq_false g6, g6', hp]
    · rcases q1 with ⟨t0, t1⟩ | t0
      · simp [t0, t1]
        refine ⟨_, s_r19_mayMaterial hG _ _, ?_⟩
        cases g4 : mayM f.kind x.kind
        case false => rw [if_pos ⟨t2, g4⟩] at hp; simp [hp]
        rw [if_neg (by rw [g4]; simp)] at hp
        by_cases g5 : (x.datums.length : Int) < r.least
        · rw [if_pos g5] at hp
          simp [g5, hp]
        have g5' := Int.not_lt.1 g5
        rw [if_neg g5] at hp
        by_cases g6 : r.most < (x.datums.length : Int)
        · rw [if_pos g6] at hp
          simp [eq_false g5, g5', g6, hp]
        have g6' := Int.not_lt.1 g6
        rw [if_neg g6] at hp
        simp [eq_false g5, g5', eq_false g6, g6', hp]
      · simp [t0, t2]
        refine ⟨_, s_r19_mayMaterial hG _ _, ?_⟩
        cases g4 : mayM f.kind x.kind
        case false => rw [if_pos ⟨t2, g4⟩] at hp; simp [t2, hp]
        rw [if_neg (by rw [g4]; simp)] at hp
        by_cases g5 : (x.datums.length : Int) < r.least
        · rw [if_pos g5] at hp
          simp [t2, g5, hp]
        have g5' := Int.not_lt.1 g5
        rw [if_neg g5] at hp
        by_cases g6 : r.most < (x.datums.length : Int)
        · rw [if_pos g6] at hp
          simp [t2, eq_false g5, g5', g6, hp]
        have g6' := Int.not_lt.1 g6
        rw [if_neg g6] at hp
        simp [t2, eq_false g5, g5', eq_false g6, g6', hp]
end
end Go.Proofs.YtpfhfokfambdaaaGreatDoor
