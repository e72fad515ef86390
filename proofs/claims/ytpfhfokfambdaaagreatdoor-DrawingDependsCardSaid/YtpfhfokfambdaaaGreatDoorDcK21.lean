/- A part of the proof of a law of this seat: K21; no conditions. -/
import Derived.Test.YtpfhfokfambdaaaGreatDoorDcK20
/-! Contracts: features found, nominal distances. -/
set_option linter.unusedVariables false
set_option linter.unusedSimpArgs false
namespace Go.Proofs.YtpfhfokfambdaaaGreatDoor
open Ev
open Go.RowKit (Below)
theorem pubs_back (r : List D) : pubs A.pub0 (r.map A.d) = some r := by
  induction r with
  | nil => rfl
  | cons d r ih => simp [pubs, A.pub0, ih]
theorem pubs_rows (rows : List (List D)) : pubs (pubs A.pub0) (rows.map fun r => r.map A.d) = some rows := by
  induction rows with
  | nil => rfl
  | cons r rs ih => rw [List.map_cons, pubs, pubs_back, ih]
theorem modify_same {α : Type} {l : List α} {i : Nat} {x : α} {f : α → α} (h : l[i]? = some x) (hf : f x = x) : l.modify i f = l := by
  apply List.ext_getElem?
  intro j
  rw [List.getElem?_modify]
  by_cases e : i = j
  · subst e; rw [h]; simp [hf]
  · simp [e]
/-- A slice that is copied: its data. -/
theorem sat_clone {G : World → Prop} (hG : ∀ w w', G w → Below w.heap.size w w' → G w') {P : Program} {f : FuncId} {e s : Nat} (hc : CloneAt P f e s) {rows : List (List D)} (hlen : rows.all (fun r => r.length == s && r.all fun d => A.one (.d d)) = true) (hn : rows.length ≤ 4294967296) :
    Sat G P f [.slice rows] (.slice rows) :=
  SatS.pub (ds := [.slice rows]) (b_clone hG (k := 0) hc hlen hn) (by simp [L.pub, A.pub, Ev.look, Blk.frz, pubs_rows])
/-- Frames, in a row of one's own. -/
def frw (l : List Frame) : List (List A) := l.map fun x => x.row.map A.d
theorem frw_length (l : List Frame) : (frw l).length = l.length := by simp [frw]
theorem frw_get (l : List Frame) (k : Nat) : (frw l)[k]? = (l[k]?).map fun x => x.row.map A.d := by simp [frw]
theorem frw_at (l : List Frame) (k : Nat) (h : k < (frw l).length) : (frw l)[k] = (l[k]'(by simpa [frw] using h)).row.map A.d := by simp [frw]
theorem frw_slots (e s : Nat) (l : List Frame) : Blk.slots (.row e s (frw l)) = [] := by
  simp only [Blk.slots, frw, List.flatMap_eq_nil_iff]
  intro r hr x hx
  obtain ⟨a, _, rfl⟩ := List.mem_map.1 hr
  obtain ⟨d, _, rfl⟩ := List.mem_map.1 hx
  rfl
theorem frw_frz (e s : Nat) (l : List Frame) : Blk.frz (.row e s (frw l)) = some (.frow (l.map Frame.row)) := by
  have : frw l = (l.map Frame.row).map fun r => r.map A.d := by simp [frw]
  rw [this]
  simp only [Blk.frz, pubs_rows, Option.map_some]
theorem frw_comp (l : List Frame) : List.map ((fun r => List.map A.d r) ∘ Frame.row) l = frw l := rfl
attribute [simp high] frw_slots frw_frz
attribute [simp] frw_length frw_get frw_at
attribute [-simp] ite_self Prod.exists
section
variable {G : World → Prop} (hG : ∀ w w', G w → Below w.heap.size w w' → G w')
include hG
theorem s_clone_Datum (l : List Datum) (hl : l.length ≤ 4294967296) : Sat G Tryz.prog 125 [.slice (l.map Datum.row)] (.slice (l.map Datum.row)) :=
  sat_clone hG clone_datum (by simp [A.one]) (by simpa using hl)
set_option maxRecDepth 8192 in
set_option maxHeartbeats 4000000 in
theorem s_draw_own (f : Feature) (hf : f.frames.length ≤ 1000) (hd : ∀ x ∈ f.frames, x.datums.length ≤ 1000) : Sat G Tryz.prog 73 [.agg f.row] (.agg f.row) := by
  refine sat_of hG Tryz.func73 k_drawing_own ?_
  simp [c_drawing_own]
  refine ⟨by omega, clone_frame, ?_⟩
  rw [frw_comp]
  refine w_loopP (fun k : Nat => ⟨[(1, .at (.loc 1 0)), (2, .at (.loc 2 0)), (10, .n f.frames.length), (11, .n k)],
    [(1, .var [.d (.str f.name), .d (.i f.kind), .d (.i f.axis), .d (.i f.x), .d (.i f.y), .d (.i f.z), .d (.i f.low), .d (.i f.high), .row 6 f.frames.length]),
     (2, .var [.d (.str []), .d (.i 0), .d (.i 0), .d (.i 0), .d (.i 0), .d (.i 0), .d (.i 0), .d (.i 0), .nils]), (6, .row 115 5 (frw f.frames))]⟩) (fun k => k ≤ f.frames.length) (fun k => f.frames.length - k) 0 rfl (Nat.zero_le _) ?_
  intro k hk
  by_cases hlt : k < f.frames.length
  · have hmod : (frw f.frames).modify k (splice 4 [.d (.slice (f.frames[k].datums.map Datum.row))]) = frw f.frames :=
      modify_same (x := f.frames[k].row.map A.d) (by simp [hlt]) rfl
    simp +decide [hlt]
    refine ⟨_, s_clone_Datum hG f.frames[k].datums (by have := hd _ (List.getElem_mem hlt); omega), ?_⟩
    simp +decide [hlt, hmod]
    exact ⟨k + 1, wrap_succ hlt (by omega), hlt, by omega⟩
  · have : k = f.frames.length := by omega
    subst this
    simp [outR]
/-- A feature found. -/
def noFeat : Feature := ⟨[], 0, 0, 0, 0, 0, 0, 0, []⟩
def findF (d : Drawing) (s : Str) : Feature := if depErr d s = 0 then (d.features[(place d s).toNat]?).getD noFeat else noFeat
theorem s_draw_Find (d : Drawing) (s : Str) (hd : d.fits) : Sat G Tryz.prog 30 [.agg d.row, .str s] (.tup [.agg (findF d s).row, .i (depErr d s)]) := by
  refine sat_of hG Tryz.func30 k_drawing_Find ?_
  simp [c_drawing_Find]
  refine ⟨_, s_draw_Check hG d hd, ?_⟩
  by_cases h1 : checkErr d = 0
  case neg => simp [h1, depErr, findF, noFeat, outR]
  obtain ⟨f1, _, f3, f4, _⟩ := features_ok (check_ok h1).2.1
  simp [h1]
  refine ⟨_, s_draw_index hG d s hd.2.1, ?_⟩
  by_cases h2 : place d s < 0
  case pos => simp [h2, depErr, h1, findF, noFeat, outR]
  obtain ⟨k, hk, hp, _⟩ := place_mem (d := d) (s := s) (by omega)
  have hfr := all_ok (f3 _ (List.getElem_mem hk))
  have hk0 : ¬ (k : Int) < 0 := by omega
  simp [hp, hk, hk0]
  refine ⟨_, s_draw_own hG _ (by omega) (fun x hx => by have := (plain_ok (frame_ok (hfr.2.2 x hx)).2).2.2.2.2.2.1; omega), ?_⟩
  simp [outR, depErr, h1, hp, hk0, findF, hk]
theorem s_r20_Find (d : Drawing) (s : Str) (hd : d.fits) : Sat G Tryz.prog 31 [.agg d.row, .str s] (.tup [.agg (findF d s).row, .i (depErr d s)]) := by
  refine sat_of hG Tryz.func31 k_metrolabref20_Find ?_
  simp [c_metrolabref20_Find]
  refine ⟨_, s_r20_Check hG d hd, ?_⟩
  by_cases h1 : checkErr d = 0
  case neg => simp [h1, depErr, findF, noFeat, outR]
  simp [h1]
  refine ⟨_, s_r20_Index hG d s hd.2.1, ?_⟩
  by_cases h2 : place d s < 0
  case pos => simp [h2, depErr, h1, findF, noFeat, outR]
  obtain ⟨k, hk, hp, _⟩ := place_mem (d := d) (s := s) (by omega)
  have hk0 : ¬ (k : Int) < 0 := by omega
  simp [hp, hk, hk0]
  simp [outR, depErr, h1, hp, hk0, findF, hk]
/-- Nominal distances. -/
def nomI (d : Drawing) (a b : Str) (n : Int) : Int × Int := if checkErr d = 0 then if n < 0 ∨ 3 ≤ n then (0, 1) else distI d a b n else (0, checkErr d)
theorem s_draw_Nominal (d : Drawing) (a b : Str) (n : Int) (hd : d.fits) : Sat G Tryz.prog 33 [.agg d.row, .str a, .str b, .i n] (.tup [.i (nomI d a b n).1, .i (nomI d a b n).2]) := by
  refine sat_of hG Tryz.func33 k_drawing_Nominal ?_
  simp [c_drawing_Nominal]
  refine ⟨_, s_draw_Check hG d hd, ?_⟩
  by_cases h1 : checkErr d = 0
  case neg => simp [h1, nomI]
  obtain ⟨f1, _, f3, f4, _⟩ := features_ok (check_ok h1).2.1
  simp [h1]
  by_cases h2 : n < 0
  case pos => simp [h2, nomI, h1]
  have h2' : 0 ≤ n := by omega
  by_cases h3 : 3 ≤ n
  case pos => simp [h2, h3, nomI, h1]
  have h3' : n < 3 := by omega
  simp [h2, h3, h2', h3']
  refine ⟨_, s_draw_distance hG d a b n hd.2.1 (fun f hf => (all_ok (f3 f hf)).1) (by omega) (by omega), ?_⟩
  simp [nomI, h1, h2, h3]
theorem s_r20_Nominal (d : Drawing) (a b : Str) (n : Int) (hd : d.fits) : Sat G Tryz.prog 34 [.agg d.row, .str a, .str b, .i n] (.tup [.i (nomI d a b n).1, .i (nomI d a b n).2]) := by
  refine sat_of hG Tryz.func34 k_metrolabref20_Nominal ?_
  simp [c_metrolabref20_Nominal]
  refine ⟨_, s_r20_Check hG d hd, ?_⟩
  by_cases h1 : checkErr d = 0
  case neg => simp [h1, nomI]
  obtain ⟨f1, _, f3, f4, _⟩ := features_ok (check_ok h1).2.1
  simp [h1]
  refine ⟨_, s_r18_Axis hG n, ?_⟩
  by_cases h2 : n < 0 ∨ 3 ≤ n
  case pos => simp [h2, nomI, h1]
  simp [h2]
  refine ⟨_, s_r20_distance hG d a b n hd.2.1 (fun f hf => (all_ok (f3 f hf)).1) (by omega) (by omega), ?_⟩
  simp [nomI, h1, h2]
set_option maxRecDepth 8192 in
theorem s_law_Finds (d : Drawing) (a b : Str) (n : Int) (hd : d.fits) (ha : a.length ≤ 4611686018427387904) (hb : b.length ≤ 4611686018427387904) (haw : Sat G Tryz.prog 10 [] (.bool true)) : Sat G Tryz.prog 7 [.agg d.row, .agg [.str a, .str b], .i n] (.bool true) := by
  refine sat_of hG Tryz.func7 k_metrolablaw20_DrawingFinds ?_
  simp [c_metrolablaw20_DrawingFinds]
  refine ⟨_, s_r20_Few hG d hd, ?_⟩
  cases hf : fewD d
  · simp
    exact ⟨_, haw, by simp⟩
  simp
  by_cases h1 : 60 < a.length
  · have h1' : (60 : Int) < a.length := by omega
    have h1'' : ¬ (a.length : Int) ≤ 60 := by omega
    simp [h1', h1'']
    exact ⟨_, haw, by simp⟩
  by_cases h2 : 60 < b.length
  · have h1' : ¬ (60 : Int) < a.length := by omega
    have h2' : (60 : Int) < b.length := by omega
    have h1'' : (a.length : Int) ≤ 60 := by omega
    have h2'' : ¬ (b.length : Int) ≤ 60 := by omega
    simp [h1', h2', h1'', h2'']
    exact ⟨_, haw, by simp⟩
  have h1' : ¬ (60 : Int) < a.length := by omega
  have h2' : ¬ (60 : Int) < b.length := by omega
  have h1'' : (a.length : Int) ≤ 60 := by omega
  have h2'' : (b.length : Int) ≤ 60 := by omega
  simp [h1', h2', h1'', h2'']
  refine ⟨_, s_draw_Find hG d a hd, ?_⟩
  simp
  refine ⟨_, s_r20_Find hG d a hd, ?_⟩
  simp
  refine ⟨_, s_draw_Depends hG d a hd, ?_⟩
  simp
  refine ⟨_, s_r20_Depends hG d a hd, ?_⟩
  simp
  refine ⟨_, s_draw_Nominal hG d a b n hd, ?_⟩
  simp
  refine ⟨_, s_r20_Nominal hG d a b n hd, ?_⟩
  simp
  refine ⟨_, haw, ?_⟩
  simp
  have hfit : (findF d a).fits := by
    unfold findF
    split
    · cases hq : d.features[(place d a).toNat]? with
      | none => exact ⟨by decide, by decide, fun x hx => by cases hx⟩
      | some f => exact hd.2.2.1 f (List.mem_of_getElem? hq)
    · exact ⟨by decide, by decide, fun x hx => by cases hx⟩
  refine ⟨_, s_r18_Same hG _ _ hfit, ?_⟩
  simp
  refine ⟨_, s_equalS hG _ _ ?_, ?_⟩
  · by_cases h3 : depErr d a = 0
    · have h4 : checkErr d = 0 := by
        unfold depErr at h3
        split at h3
        · assumption
        · exact h3
      obtain ⟨f1, _, f3, f4, _⟩ := features_ok (check_ok h4).2.1
      have := (iter_good f4 (featN_good f4 a) d.features.length).len
      rw [if_pos h3]
      have h5 : (needsR d a).length ≤ d.features.length := this
      omega
    · simp [h3]
  simp
end
end Go.Proofs.YtpfhfokfambdaaaGreatDoor
