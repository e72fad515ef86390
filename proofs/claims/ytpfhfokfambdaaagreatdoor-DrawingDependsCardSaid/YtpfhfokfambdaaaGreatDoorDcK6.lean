/- A part of the proof of a law of this seat: K6; no conditions. -/
import Derived.Test.YtpfhfokfambdaaaGreatDoorDcKLa
import Derived.Test.YtpfhfokfambdaaaGreatDoorDcd
import Derived.Test.YtpfhfokfambdaaaGreatDoorDce
/-! Contracts: frames (the program's). -/
set_option linter.unusedSimpArgs false
namespace Go.Proofs.YtpfhfokfambdaaaGreatDoor
open Ev
open Go.RowKit (Below)
def condErr (m : Int) : Int := if m < 0 ∨ 3 ≤ m then 1 else 0
/-- The error of datums behind others. -/
def datErr (pre : List Datum) : List Datum → Int
  | [] => 0
  | d :: r => if nameErr d.name = 0 then if pre.any (fun y => decide (y.name = d.name)) then 7 else if condErr d.mat = 0 then datErr (pre ++ [d]) r else condErr d.mat else nameErr d.name
def plainErr (x : Frame) : Int :=
  if x.kind < 0 ∨ 9 ≤ x.kind then 1 else if condErr x.mat = 0 then if x.tol < 0 ∨ 100000 < x.tol then 2 else if 3 < x.datums.length then 5 else datErr [] x.datums else condErr x.mat
def rowsT : List FRow := [⟨[115, 116, 114, 97, 105, 103, 104, 116], [104, 112], [104, 112], 0, 0, true⟩, ⟨[102, 108, 97, 116], [108, 115], [], 0, 0, false⟩, ⟨[112, 97, 114, 97, 108, 108, 101, 108], [108, 104, 112, 115], [104, 112], 1, 2, true⟩,
  ⟨[115, 113, 117, 97, 114, 101], [108, 104, 112, 115], [104, 112], 1, 2, true⟩, ⟨[114, 111, 117, 110, 100], [104, 112, 98], [], 0, 0, false⟩, ⟨[115, 112, 104, 101, 114, 101], [98], [], 0, 0, false⟩, ⟨[112, 114, 111, 102, 105, 108, 101], [108], [], 0, 3, false⟩,
  ⟨[114, 117, 110, 111, 117, 116], [108, 104, 112], [], 1, 1, false⟩, ⟨[112, 111, 115, 105, 116, 105, 111, 110], [108, 104, 112, 115, 98], [104, 112, 98], 0, 3, true⟩]
def letterK (k : Int) : UInt8 := if k = 0 then 108 else if k = 1 then 104 else if k = 2 then 112 else if k = 3 then 115 else 98
def isB (s : Str) (k : Int) : Bool := decide (0 ≤ Lib.indexByte s (letterK k))
def permErr (r : FRow) (f : Feature) (x : Frame) : Int :=
  if isB r.on f.kind = false then 14 else if x.disc = true ∧ isB r.disc f.kind = false then 3 else if x.tol = 0 ∧ ¬ x.mat = 1 then 10 else if ¬ x.mat = 0 ∧ (r.mat = false ∨ f.kind = 0) then 3
  else if (x.datums.length : Int) < r.least then 13 else if r.most < (x.datums.length : Int) then 5 else if x.datums.any (fun d => decide (d.name = f.name)) then 7 else 0
def frameErr (f : Feature) (x : Frame) : Int :=
  if featErr f = 0 then if plainErr x = 0 then permErr (rowsT.getD x.kind.toNat ⟨[], [], [], 0, 0, false⟩) f x else plainErr x else featErr f

theorem plain_ok {x : Frame} (h : plainErr x = 0) : 0 ≤ x.kind ∧ x.kind < 9 ∧ condErr x.mat = 0 ∧ 0 ≤ x.tol ∧ x.tol ≤ 100000 ∧ x.datums.length ≤ 3 ∧ datErr [] x.datums = 0 := by
  unfold plainErr at h
  split at h
  · cases h
  · split at h
    · rename_i h1
      split at h
      · cases h
      · split at h
        · cases h
        · exact ⟨by omega, by omega, h1, by omega, by omega, by omega, h⟩
    · rename_i h1; exact absurd h h1

attribute [-simp] ite_self
section
variable {G : World → Prop} (hG : ∀ w w', G w → Below w.heap.size w w' → G w')
include hG
theorem s_frame_condition (m : Int) : Sat G Tryz.prog 212 [.i m] (.i (condErr m)) := by
  refine sat_of hG Tryz.func212 k_frame_condition ?_
  by_cases h1 : m < 0
  · simp [c_frame_condition, h1, condErr]
  · have h1' := Int.not_lt.1 h1
    by_cases h2 : 3 ≤ m <;> simp [c_frame_condition, eq_false h1, h1', h2, condErr]
theorem s_frame_Plain_1 (d : Datum) (s : Str) (r : List D) : Sat G Tryz.prog 213 [.agg d.row, .ref (.str s :: r)] (.bool (decide (d.name = s))) := by
  refine sat_of hG Tryz.func213 k_frame_Plain_1 ?_
  simp [c_frame_Plain_1]
  rw [Bool.eq_iff_iff]; simp
theorem s_frame_Check_2 (d : Datum) (s : Str) (r : List D) : Sat G Tryz.prog 170 [.agg d.row, .ref (.str s :: r)] (.bool (decide (d.name = s))) := by
  refine sat_of hG Tryz.func170 k_frame_Check_2 ?_
  simp [c_frame_Check_2]
  rw [Bool.eq_iff_iff]; simp
set_option maxRecDepth 8192 in
theorem s_frame_Plain (x : Frame) (hx : x.fits) : Sat G Tryz.prog 166 [.agg x.row] (.i (plainErr x)) := by
  refine sat_of hG Tryz.func166 k_frame_Plain ?_
  by_cases h1 : x.kind < 0
  · simp [c_frame_Plain, h1, plainErr]
  have h1' := Int.not_lt.1 h1
  by_cases h2 : 9 ≤ x.kind
  · simp [c_frame_Plain, eq_false h1, h1', h2, plainErr]
  have h2' := Int.not_le.1 h2
  simp [c_frame_Plain, eq_false h1, h1', eq_false h2, h2']
  refine ⟨_, s_frame_condition hG _, ?_⟩
  by_cases h3 : condErr x.mat = 0
  case neg => simp [h3, plainErr, eq_false h1, eq_false h2, h2']
  have hp : plainErr x = if x.tol < 0 ∨ 100000 < x.tol then 2 else if 3 < x.datums.length then 5 else datErr [] x.datums := by
    unfold plainErr
    rw [if_neg (by omega), if_pos h3]
  by_cases h4 : x.tol < 0
  · simp [h3, h4, hp]
  have h4' := Int.not_lt.1 h4
  by_cases h5 : 100000 < x.tol
  · simp [h3, eq_false h4, h4', h5, hp]
  have h5' := Int.not_lt.1 h5
  by_cases h6 : 3 < x.datums.length
  · have h6' : (3 : Int) < x.datums.length := by omega
    simp [h3, eq_false h4, h4', eq_false h5, h5', h6, h6', hp]
  have h6' : ¬ (3 : Int) < x.datums.length := by omega
  have hp : plainErr x = datErr [] x.datums := by
    rw [hp, if_neg (by omega), if_neg h6]
  simp [h3, eq_false h4, h4', eq_false h5, h5', eq_false h6', -Int.not_lt, -Int.not_le]
  refine w_loopP (fun k : Nat => ⟨[(1, .at (.loc 1 0)), (37, .sl (x.datums.map Datum.row)), (38, .n x.datums.length), (39, .n k)], [(1, .var (x.row.map A.d))]⟩) (fun k => k ≤ x.datums.length ∧ datErr (x.datums.take k) (x.datums.drop k) = plainErr x) (fun k => x.datums.length - k) 0 (by simp) ⟨Nat.zero_le _, by simp [hp]⟩ ?_
  rintro k ⟨hk, he⟩
  by_cases hlt : k < x.datums.length
  · rw [List.drop_eq_getElem_cons hlt] at he
    simp only [datErr] at he
    have hkI : (k : Int) ≤ x.datums.length := by omega
    simp [hlt]
    refine ⟨_, s_dim_Name hG _, ?_⟩
    by_cases g1 : nameErr x.datums[k].name = 0
    case neg =>
      rw [if_neg g1] at he
      simp [g1]; exact he
    rw [if_pos g1] at he
    simp [g1, hk, hkI]
    have hm : ((x.datums.map Datum.row).take k) = (x.datums.take k).map Datum.row := (List.map_take ..).symm
    simp [← List.map_take]
    refine ⟨_, s_conF_Datum hG (x.datums.take k) (by simp; omega) (fun a _ => s_frame_Plain_1 hG a x.datums[k].name _), ?_⟩
    cases g2 : (x.datums.take k).any fun y => decide (y.name = x.datums[k].name)
    case true =>
      rw [if_pos g2] at he
      simp; exact he
    rw [g2, if_neg (by simp)] at he
    simp
    refine ⟨_, s_frame_condition hG _, ?_⟩
    by_cases g3 : condErr x.datums[k].mat = 0
    case neg =>
      rw [if_neg g3] at he
      simp [g3]; exact he
    rw [if_pos g3] at he
    simp [g3]
    refine ⟨k + 1, wrap_succ hlt (by have := hx.1; omega), ⟨hlt, ?_⟩, by omega⟩
    rw [List.take_succ_eq_append_getElem hlt]
    exact he
  · have : k = x.datums.length := by omega
    subst this
    simp [datErr] at he
    simp [he]
theorem s_frame_rows : Sat G Tryz.prog 158 [] (.agg (rowsT.flatMap FRow.row)) := by
  refine sat_of hG Tryz.func158 k_frame_rows ?_
  simp [c_frame_rows, rowsT]
theorem s_frame_Check_1 (f : Feature) (k : Str) (h0 : 0 ≤ f.kind) (h1 : f.kind < 5) : Sat G Tryz.prog 167 [.str k, .ref f.row] (.bool (isB k f.kind)) := by
  refine sat_of hG Tryz.func167 k_frame_Check_1 ?_
  have hk : f.kind = 0 ∨ f.kind = 1 ∨ f.kind = 2 ∨ f.kind = 3 ∨ f.kind = 4 := by omega
  rcases hk with e | e | e | e | e
  · simp [c_frame_Check_1, e]
    refine ⟨_, s_indexByte _ 108, ?_⟩
    simp [isB, letterK, e]
  · simp [c_frame_Check_1, e]
    refine ⟨_, s_indexByte _ 104, ?_⟩
    simp [isB, letterK, e]
  · simp [c_frame_Check_1, e]
    refine ⟨_, s_indexByte _ 112, ?_⟩
    simp [isB, letterK, e]
  · simp [c_frame_Check_1, e]
    refine ⟨_, s_indexByte _ 115, ?_⟩
    simp [isB, letterK, e]
  · simp [c_frame_Check_1, e]
    refine ⟨_, s_indexByte _ 98, ?_⟩
    simp [isB, letterK, e]
set_option maxRecDepth 8192 in
set_option maxHeartbeats 2000000 in
theorem s_frame_Check (f : Feature) (x : Frame) (hx : x.fits) : Sat G Tryz.prog 107 [.agg f.row, .agg x.row] (.i (frameErr f x)) := by
  refine sat_of hG Tryz.func107 k_frame_Check ?_
  simp [c_frame_Check]
  refine ⟨_, s_feat_Check hG _, ?_⟩
  by_cases h1 : featErr f = 0
  case neg => simp [h1, frameErr]
  simp [h1]
  refine ⟨_, s_frame_Plain hG x hx, ?_⟩
  by_cases h2 : plainErr x = 0
  case neg => simp [h1, h2, frameErr]
  obtain ⟨_, k0, k1, _⟩ := feat_ok h1
  obtain ⟨x0, x1, _, _, _, x2, _⟩ := plain_ok h2
  simp [h2]
  refine ⟨_, s_frame_rows hG, ?_⟩
  -- the row of the kind
  obtain ⟨r, hr⟩ : ∃ r, rowsT.getD x.kind.toNat ⟨[], [], [], 0, 0, false⟩ = r := ⟨_, rfl⟩
  have hp : frameErr f x = permErr r f x := by simp only [frameErr, h1, h2, if_true, hr]
  have hk : x.kind = 0 ∨ x.kind = 1 ∨ x.kind = 2 ∨ x.kind = 3 ∨ x.kind = 4 ∨ x.kind = 5 ∨ x.kind = 6 ∨ x.kind = 7 ∨ x.kind = 8 := by omega
  have hR : (rowsT.flatMap FRow.row).all D.plain = true ∧ x.kind.toNat * 6 + 6 ≤ (rowsT.flatMap FRow.row).length ∧ ((((rowsT.flatMap FRow.row).map A.d).drop (x.kind.toNat * 6)).take 6) = r.row.map A.d := by
    rw [← hr]
    rcases hk with e | e | e | e | e | e | e | e | e <;> rw [e] <;> exact ⟨rfl, by decide, rfl⟩
  generalize rowsT.flatMap FRow.row = R at hR
  obtain ⟨hR0, hR1, hR2⟩ := hR
  simp [x0, x1, hR0, hR1, hR2, -List.all_eq_true]
  refine ⟨_, s_frame_Check_1 hG f _ k0 k1, ?_⟩
  simp only [permErr] at hp
  cases g1 : isB r.on f.kind
  case false => simp [hp, g1]
  rw [g1, if_neg (by simp)] at hp
  have hlen : x.datums.length ≤ 4611686018427387904 := by omega
  cases hd : x.disc
  case true =>
    simp [hd]
    refine ⟨_, s_frame_Check_1 hG f _ k0 k1, ?_⟩
    cases g2 : isB r.disc f.kind
    case false => simp [hp, hd, g2]
    rw [g2, if_neg (by simp)] at hp
    by_cases g3 : x.tol = 0 ∧ ¬ x.mat = 1
    case pos => simp [hd, hp, g3]
    rw [if_neg g3] at hp
    by_cases g4 : ¬ x.mat = 0 ∧ (r.mat = false ∨ f.kind = 0)
    case pos =>
      rw [if_pos g4] at hp
      by_cases t0 : x.tol = 0
      · have t1 : x.mat = 1 := by
          by_cases h : x.mat = 1
          · exact h
          · exact absurd ⟨t0, h⟩ g3
        rcases g4.2 with g | g
        · simp [hd, hp, t0, t1, g]
        · cases hm : r.mat <;> simp [hd, hp, t0, t1, g, hm]
      · rcases g4.2 with g | g
        · simp [hd, hp, t0, g4.1, g]
        · cases hm : r.mat <;> simp [hd, hp, t0, g4.1, g, hm]
    rw [if_neg g4] at hp
    have q1 : (x.tol = 0 ∧ x.mat = 1) ∨ ¬ x.tol = 0 := by
      by_cases t0 : x.tol = 0
      · refine .inl ⟨t0, ?_⟩
        by_cases h : x.mat = 1
        · exact h
        · exact absurd ⟨t0, h⟩ g3
      · exact .inr t0
    have q2 : x.mat = 0 ∨ (¬ x.mat = 0 ∧ r.mat = true ∧ ¬ f.kind = 0) := by
      by_cases t0 : x.mat = 0
      · exact .inl t0
      · refine .inr ⟨t0, ?_, fun h => g4 ⟨t0, .inr h⟩⟩
        cases hm : r.mat
        · exact absurd ⟨t0, .inl hm⟩ g4
        · rfl
    by_cases g5 : (x.datums.length : Int) < r.least
    case pos =>
      rw [if_pos g5] at hp
      rcases q1 with ⟨t0, t1⟩ | t0
      · rcases q2 with t2 | ⟨t2, t3, t4⟩
        · rw [t1] at t2; cases t2
        · simp [hd, hp, t0, t1, t3, t4, g5]
      · rcases q2 with t2 | ⟨t2, t3, t4⟩
        · simp [hd, hp, t0, t2, g5]
        · simp [hd, hp, t0, t2, t3, t4, g5]
    have g5' := Int.not_lt.1 g5
    rw [if_neg g5] at hp
    by_cases g6 : r.most < (x.datums.length : Int)
    case pos =>
      rw [if_pos g6] at hp
      rcases q1 with ⟨t0, t1⟩ | t0
      · rcases q2 with t2 | ⟨t2, t3, t4⟩
        · rw [t1] at t2; cases t2
        · simp [hd, hp, t0, t1, t3, t4, eq_false g5, g5', g6]
      · rcases q2 with t2 | ⟨t2, t3, t4⟩
        · simp [hd, hp, t0, t2, eq_false g5, g5', g6]
        · simp [hd, hp, t0, t2, t3, t4, eq_false g5, g5', g6]
    have g6' := Int.not_lt.1 g6
    rw [if_neg g6] at hp
    have fin := s_conF_Datum hG x.datums hlen (fun a _ => s_frame_Check_2 hG a f.name [.i f.kind, .i f.axis, .i f.x, .i f.y, .i f.z, .i f.low, .i f.high, .slice (f.frames.map Frame.row)])
    rcases q1 with ⟨t0, t1⟩ | t0
    · rcases q2 with t2 | ⟨t2, t3, t4⟩
      · rw [t1] at t2; cases t2
      · simp [hd, t0, t1, t3, t4, eq_false g5, g5', eq_false g6, g6', -Int.not_lt, -Int.not_le]
        refine ⟨_, fin, ?_⟩
        cases g7 : x.datums.any fun d => decide (d.name = f.name) <;> simp [hp, g7]
    · rcases q2 with t2 | ⟨t2, t3, t4⟩
      · simp [hd, t0, t2, eq_false g5, g5', eq_false g6, g6', -Int.not_lt, -Int.not_le]
        refine ⟨_, fin, ?_⟩
        cases g7 : x.datums.any fun d => decide (d.name = f.name) <;> simp [hp, g7]
      · simp [hd, t0, t2, t3, t4, eq_false g5, g5', eq_false g6, g6', -Int.not_lt, -Int.not_le]
        refine ⟨_, fin, ?_⟩
        cases g7 : x.datums.any fun d => decide (d.name = f.name) <;> simp [hp, g7]

  case false =>
    rw [hd, if_neg (by simp)] at hp
    by_cases g3 : x.tol = 0 ∧ ¬ x.mat = 1
    case pos => simp [hd, hp, g3]
    rw [if_neg g3] at hp
    by_cases g4 : ¬ x.mat = 0 ∧ (r.mat = false ∨ f.kind = 0)
    case pos =>
      rw [if_pos g4] at hp
      by_cases t0 : x.tol = 0
      · have t1 : x.mat = 1 := by
          by_cases h : x.mat = 1
          · exact h
          · exact absurd ⟨t0, h⟩ g3
        rcases g4.2 with g | g
        · simp [hd, hp, t0, t1, g]
        · cases hm : r.mat <;> simp [hd, hp, t0, t1, g, hm]
      · rcases g4.2 with g | g
        · simp [hd, hp, t0, g4.1, g]
        · cases hm : r.mat <;> simp [hd, hp, t0, g4.1, g, hm]
    rw [if_neg g4] at hp
    have q1 : (x.tol = 0 ∧ x.mat = 1) ∨ ¬ x.tol = 0 := by
      by_cases t0 : x.tol = 0
      · refine .inl ⟨t0, ?_⟩
        by_cases h : x.mat = 1
        · exact h
        · exact absurd ⟨t0, h⟩ g3
      · exact .inr t0
    have q2 : x.mat = 0 ∨ (¬ x.mat = 0 ∧ r.mat = true ∧ ¬ f.kind = 0) := by
      by_cases t0 : x.mat = 0
      · exact .inl t0
      · refine .inr ⟨t0, ?_, fun h => g4 ⟨t0, .inr h⟩⟩
        cases hm : r.mat
        · exact absurd ⟨t0, .inl hm⟩ g4
        · rfl
    by_cases g5 : (x.datums.length : Int) < r.least
    case pos =>
      rw [if_pos g5] at hp
      rcases q1 with ⟨t0, t1⟩ | t0
      · rcases q2 with t2 | ⟨t2, t3, t4⟩
        · rw [t1] at t2; cases t2
        · simp [hd, hp, t0, t1, t3, t4, g5]
      · rcases q2 with t2 | ⟨t2, t3, t4⟩
        · simp [hd, hp, t0, t2, g5]
        · simp [hd, hp, t0, t2, t3, t4, g5]
    have g5' := Int.not_lt.1 g5
    rw [if_neg g5] at hp
    by_cases g6 : r.most < (x.datums.length : Int)
    case pos =>
      rw [if_pos g6] at hp
      rcases q1 with ⟨t0, t1⟩ | t0
      · rcases q2 with t2 | ⟨t2, t3, t4⟩
        · rw [t1] at t2; cases t2
        · simp [hd, hp, t0, t1, t3, t4, eq_false g5, g5', g6]
      · rcases q2 with t2 | ⟨t2, t3, t4⟩
        · simp [hd, hp, t0, t2, eq_false g5, g5', g6]
        · simp [hd, hp, t0, t2, t3, t4, eq_false g5, g5', g6]
    have g6' := Int.not_lt.1 g6
    rw [if_neg g6] at hp
    have fin := s_conF_Datum hG x.datums hlen (fun a _ => s_frame_Check_2 hG a f.name [.i f.kind, .i f.axis, .i f.x, .i f.y, .i f.z, .i f.low, .i f.high, .slice (f.frames.map Frame.row)])
    rcases q1 with ⟨t0, t1⟩ | t0
    · rcases q2 with t2 | ⟨t2, t3, t4⟩
      · rw [t1] at t2; cases t2
      · simp [hd, t0, t1, t3, t4, eq_false g5, g5', eq_false g6, g6', -Int.not_lt, -Int.not_le]
        refine ⟨_, fin, ?_⟩
        cases g7 : x.datums.any fun d => decide (d.name = f.name) <;> simp [hp, g7]
    · rcases q2 with t2 | ⟨t2, t3, t4⟩
      · simp [hd, t0, t2, eq_false g5, g5', eq_false g6, g6', -Int.not_lt, -Int.not_le]
        refine ⟨_, fin, ?_⟩
        cases g7 : x.datums.any fun d => decide (d.name = f.name) <;> simp [hp, g7]
      · simp [hd, t0, t2, t3, t4, eq_false g5, g5', eq_false g6, g6', -Int.not_lt, -Int.not_le]
        refine ⟨_, fin, ?_⟩
        cases g7 : x.datums.any fun d => decide (d.name = f.name) <;> simp [hp, g7]

end
end Go.Proofs.YtpfhfokfambdaaaGreatDoor
