/- A part of the proof of a law of this seat: BaseC; no conditions. -/
import Derived.Test.YtpfhfokfambdaaaGreatDoorDcBaseB
/-! Contracts of the library with rows of one's own, and strings.Join: for runs. -/
set_option linter.unusedSimpArgs false
set_option linter.unusedVariables false
namespace Go.Proofs.YtpfhfokfambdaaaGreatDoor
open Ev
open Go.RowKit (Below)
section
variable {G : World → Prop}
theorem del_zs : ∃ zs : Array Value, zs.size = 9 ∧ ∀ (blk off cap n i j : Nat) (cs : List Value) (w : World), cs.length = n * 9 → (∀ (j : Nat) v, cs[j]? = some v → w.cell? ⟨blk, off + j, none⟩ = some v) → (∀ j, j < n * 9 → w.frozen? ⟨blk, off + j, none⟩ = false) → (∀ v ∈ cs, v.oneCell' = true) → n ≤ cap → cap ≤ 9223372036854775807 → i < j → j ≤ n →
    Calls Tryz.prog 83 #[.slice (some ⟨blk, off, none⟩) n cap, .int .i64 i, .int .i64 j] w fun e w' => e = .returned (.slice (some ⟨blk, off, none⟩) (n - (j - i)) cap) ∧ w' = (w.drew.setCells blk (off + i * 9) (cs.drop (j * 9))).setCells blk (off + (i + (n - j)) * 9) (Builtin.zeroCells zs (j - i)).toList :=
  ⟨_, rfl, fun blk off cap n i j cs w h1 h2 h3 h4 h5 h6 h7 h8 => del_feat blk off cap n i j cs w _ (hv := Tryz.zeroValue49) (hz := by kernel_rfl) (hzs := by rfl) (hz1 := by simp [Value.oneCell']) h1 h2 h3 h4 h5 h6 h7 h8⟩
theorem b_delete {k k2 i j : Nat} {m0 : List (Nat × Blk)} {rs : List (List A)} (hk : Ev.look m0 k = some (.row 49 9 rs)) (hk2 : Ev.look m0 k2 = none) (hl : rs.length ≤ 4294967296) (hr : rs.all (fun r => r.length == 9 && r.all A.one) = true) (hij : i < j) (hj : j ≤ rs.length) :
    SatS G Tryz.prog 83 [.at (.row k rs.length), .at (.d (.int .i64 (i : Int))), .at (.d (.int .i64 (j : Int)))] m0 (.at (.row k2 (rs.take i ++ rs.drop j).length)) ((k2, .row 49 9 (rs.take i ++ rs.drop j)) :: (k, .gone) :: m0) := by
  obtain ⟨hr1, hr2⟩ := all_len hr
  have hsub : ∀ r ∈ rs.take i ++ rs.drop j, r ∈ rs := fun r h => by
    rcases List.mem_append.1 h with h | h
    · exact List.mem_of_mem_take h
    · exact List.mem_of_mem_drop h
  refine satS_turn (G := G) (P := Tryz.prog) (f := 83) (extra := [.at (.d (.int .i64 (i : Int))), .at (.d (.int .i64 (j : Int)))]) ⟨_, Tryz.func83, by kernel_rfl, by kernel_rfl⟩ hk hk2 (fun r h => hr1 r (hsub r h)) (fun r h x hx => List.all_eq_true.1 (hr2 r h) x hx) (fun q ⟨r, h, x, hx, hq⟩ => ⟨r, hsub r h, x, hx, hq⟩) fun w B E N v es xs hown hone hB hrd hes hrv => ?_
  obtain ⟨a, b, rfl⟩ : ∃ a b, es = [a, b] := by
    match es, hes with
    | [a, b], _ => exact ⟨a, b, rfl⟩
  have ha : a = .int .i64 (i : Int) := uint .i64 _ N w a (hrv 0 _ a rfl rfl)
  have hb : b = .int .i64 (j : Int) := uint .i64 _ N w b (hrv 1 _ b rfl rfl)
  subst ha hb
  obtain ⟨hxl, hx2⟩ := hown
  rcases hx2 with ⟨h, h'⟩ | ⟨g, cap, cur, rfl, gB, gh, gn, gc, gs, gt⟩
  · omega
  have hcell : ∀ (q : Nat) u, xs[q]? = some u → w.cell? ⟨g, 0 + q, none⟩ = some u := fun q u hu => by
    rw [Nat.zero_add, cells_of_heap gh, ← Array.getElem?_toList]
    rw [← gt, List.getElem?_take] at hu
    split at hu
    · exact hu
    · cases hu
  obtain ⟨zs, hzs, hdel⟩ := del_zs
  refine (hdel g 0 cap rs.length i j xs w hxl hcell (fun q _ => frozen_of_heap gh _) hone gn (by unfold maxLen at gc; omega) hij hj).mono ?_
  rintro e w' ⟨rfl, rfl⟩
  rw [Nat.zero_add, Nat.zero_add]
  have hdl : (xs.drop (j * 9)).length = (rs.length - j) * 9 := by rw [List.length_drop, hxl]; omega
  obtain ⟨c1, q1, q2⟩ := heap_setCells_at g (xs.drop (j * 9)) (i * 9) w.drew cur gh (by rw [hdl, gs]; omega)
  have hc1 : c1.size = cur.size := by
    have := congrArg List.length q2
    simp only [List.length_append, List.length_take, Array.length_toList, hdl, List.length_drop (i := i * 9 + (rs.length - j) * 9)] at this
    omega
  have hzl : (Builtin.zeroCells zs (j - i)).toList.length = (j - i) * 9 := by rw [Array.length_toList, size_zeroCells, hzs]
  obtain ⟨c2, q3, q4⟩ := heap_setCells_at g (Builtin.zeroCells zs (j - i)).toList ((i + (rs.length - j)) * 9) _ c1 q1 (by rw [hzl, hc1, gs]; omega)
  have hc2 : c2.size = cur.size := by
    have := congrArg List.length q4
    simp only [List.length_append, List.length_take, hzl, List.length_drop (i := (i + (rs.length - j)) * 9 + (j - i) * 9)] at this
    simp only [Array.length_toList] at this
    omega
  have hd2 : ∀ (zl : List Value), c2.toList = c1.toList.take ((i + (rs.length - j)) * 9) ++ zl ++ c1.toList.drop ((i + (rs.length - j)) * 9 + zl.length) → c2.toList.take ((rs.take i ++ rs.drop j).length * 9) = xs.take (i * 9) ++ xs.drop (j * 9) := by
    intro zl hzl'
    have hlen : (rs.take i ++ rs.drop j).length = i + (rs.length - j) := by rw [List.length_append, List.length_take, List.length_drop]; omega
    have t1 : (c1.toList.take ((i + (rs.length - j)) * 9)).length = (i + (rs.length - j)) * 9 := by rw [List.length_take, Array.length_toList (xs := c1), hc1, gs]; omega
    rw [hlen, hzl', List.append_assoc, List.take_append_of_le_length (by rw [t1]; exact Nat.le_refl _), List.take_take, Nat.min_self, q2]
    have hc1l : cur.toList.take (i * 9) = xs.take (i * 9) := by rw [← gt, List.take_take, Nat.min_eq_left (by omega)]
    rw [hc1l]
    have htl : (xs.take (i * 9)).length = i * 9 := by rw [List.length_take, hxl]; omega
    rw [List.take_append_of_le_length (by rw [List.length_append, htl, hdl]; omega), List.take_of_length_le (by rw [List.length_append, htl, hdl]; omega)]
  have hlen : (rs.take i ++ rs.drop j).length = rs.length - (j - i) := by rw [List.length_append, List.length_take, List.length_drop]; omega
  refine ⟨_, xs.take (i * 9) ++ xs.drop (j * 9), rfl, ⟨?_, .inr ⟨g, cap, c2, by rw [hlen], gB, q3, ?_, gc, by rw [hc2, gs], hd2 _ q4⟩⟩, ?_, fun b hb hne => ?_, fun b hb => .inl hb, ?_⟩
  · rw [List.length_append, List.length_take, hdl, hlen, hxl]; omega
  · rw [hlen]; omega
  · exact (below_setCellsk gB _ _ w.drew hB).trans (below_setCellsk gB _ _ _ (by rw [size_setCellsk]; exact hB)) |> fun h => ⟨h.os, h.tape, h.output, h.size, h.block⟩
  · have hbg : b ≠ g := fun h => hne (by rw [h]; rfl)
    rw [World.heap_setCells_other _ g _ _ (by rw [size_setCellsk]; exact hb) hbg, World.heap_setCells_other w.drew g _ _ hb hbg]
    rfl
  · intro R _ hR q p r a u hq ha hu
    have htl : (xs.take (i * 9)).length = i * 9 := by rw [List.length_take, hxl]; omega
    have hp : p < 9 := by
      have h1 := hr1 r (hsub r (List.mem_of_getElem? hq))
      rw [← h1]; exact (List.getElem?_eq_some_iff.1 ha).1
    have htr : (rs.take i).length = i := by rw [List.length_take]; omega
    rw [List.getElem?_append] at hq
    split at hq
    · rename_i hlt
      rw [htr] at hlt
      rw [List.getElem?_append_left (by rw [htl]; omega), List.getElem?_take] at hu
      rw [List.getElem?_take] at hq
      rw [if_pos hlt] at hq
      rw [if_pos (by omega)] at hu
      exact hR q p r a u hq ha hu
    · rename_i hge
      rw [htr] at hge hq
      rw [List.getElem?_append_right (by rw [htl]; omega), htl, List.getElem?_drop] at hu
      rw [List.getElem?_drop] at hq
      exact hR (j + (q - i)) p r a u hq ha (by rw [← hu]; congr 1; omega)
/-- Names joined. -/
def joinL (sep : List UInt8) : List (List UInt8) → List UInt8
  | [] => []
  | [x] => x
  | x :: y :: r => x ++ sep ++ joinL sep (y :: r)
theorem joinL_eq (sep : List UInt8) : ∀ l, Lib.join l sep = joinL sep l
  | [] => rfl
  | [x] => Lib.join_one x sep
  | x :: y :: r => by
    have ih := joinL_eq sep (y :: r)
    simp only [joinL]
    rw [← ih]
    simp [Lib.join, List.intercalate]
theorem b_join (l : List (List UInt8)) (sep : List UInt8) (hl : l.length ≤ 4294967296) (hj : (joinL sep l).length ≤ 140737488355328) : Sat G Tryz.prog 28 [.slice (l.map fun x => [.str x]), .str sep] (.str (joinL sep l)) := by
  refine ⟨⟨_, Tryz.func28, by kernel_rfl, by kernel_rfl⟩, fun N w us hlen ha hN hgw => ?_⟩
  match us, hlen with
  | [a, b], _ =>
    have h1 := ha 0 _ a rfl rfl
    have hb := ustr sep N w b (ha 1 _ b rfl rfl)
    subst hb
    cases l with
    | nil =>
      cases h1 with
      | sliceE A cap =>
        refine (Tryz.strings_Join_none A cap ⟨sep.toArray⟩ w).mono ?_
        rintro e w' ⟨rfl, rfl⟩
        exact ⟨_, rfl, Below.refl _ _, .str []⟩
      | sliceC _ _ _ _ _ _ hne => exact absurd rfl hne
    | cons x r =>
      cases h1 with
      | sliceC _ bk o cap s c hne hNb hbk hcap h0 h1 h2 =>
        have hs1 : s = 1 := by
          have := h0 0 [.str x] rfl
          simpa using this.symm
        subst hs1
        have hlenE : ((x :: r).map fun x => [D.str x]).length = ((x :: r).map fun x => (⟨x.toArray⟩ : ByteArray)).length := by simp
        rw [hlenE] at hcap ⊢
        have hmap : ((x :: r).map fun x => (⟨x.toArray⟩ : ByteArray)).map (·.data.toList) = x :: r := by
          rw [List.map_map]
          refine (List.map_congr_left fun y _ => ?_).trans (List.map_id _)
          simp
        have hN : ((x :: r).map fun x => (⟨x.toArray⟩ : ByteArray)).length ≤ 140737488355328 := by
          rw [List.length_map]; omega
        have hJ : (Lib.join (((x :: r).map fun x => (⟨x.toArray⟩ : ByteArray)).map (·.data.toList)) (⟨sep.toArray⟩ : ByteArray).data.toList).length ≤ 140737488355328 := by
          rw [hmap]
          show (Lib.join (x :: r) sep).length ≤ _
          rw [joinL_eq]
          exact hj
        have hcs : ∀ (j : Nat) y, ((x :: r).map fun x => (⟨x.toArray⟩ : ByteArray))[j]? = some y → w.cell? ⟨bk, o + j, none⟩ = some (.string y) := by
          intro j y hy
          rw [List.getElem?_map, Option.map_eq_some_iff] at hy
          obtain ⟨z, hz, rfl⟩ := hy
          have hjl : j < (x :: r).length := (List.getElem?_eq_some_iff.1 hz).1
          have g1 := h1 j 0 (by simpa using hjl) (by omega)
          rw [Nat.mul_one, Nat.add_zero] at g1
          rw [g1]
          have g2 := h2 j 0 [.str z] (.str z) (by rw [List.getElem?_map, hz]; rfl) rfl
          rw [ustr z N w _ g2]
        refine (Tryz.strings_Join bk o cap _ ⟨sep.toArray⟩ w hcs hbk hN hcap hJ).mono ?_
        · rintro e w' h
          rw [hmap, show Lib.join (x :: r) (⟨sep.toArray⟩ : ByteArray).data.toList = joinL sep (x :: r) from joinL_eq sep (x :: r)] at h
          obtain ⟨rfl, hb⟩ := h
          exact ⟨_, rfl, hb, .str _⟩
end
end Go.Proofs.YtpfhfokfambdaaaGreatDoor
