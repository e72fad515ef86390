/- A part of the proof of a law of this seat: Orc; no conditions. -/
import Derived.Test.YtpfhfokfambdaaaGreatDoorDcBaseC
/-! What a run finds of the library: its contracts. -/
set_option linter.unusedSimpArgs false
namespace Go.Proofs.YtpfhfokfambdaaaGreatDoor
open Ev
open Go.RowKit (Below)
/-- Rows of strings, read back. -/
def unrow : List (List A) → Option (List (List UInt8))
  | [] => some []
  | [.d (.str s)] :: r => match unrow r with
    | some l => some (s :: l)
    | none => none
  | _ => none
theorem unrow_eq : ∀ {rs : List (List A)} {l : List (List UInt8)}, unrow rs = some l → rs = strow l
  | [], l, h => by cases h; rfl
  | [.d (.str s)] :: r, l, h => by
    simp only [unrow] at h
    split at h
    · rename_i l' hl
      cases h
      rw [unrow_eq hl]
      rfl
    · cases h
/-- The same for rows of data. -/
def undata : List (List D) → Option (List (List UInt8))
  | [] => some []
  | [.str s] :: r => match undata r with
    | some l => some (s :: l)
    | none => none
  | _ => none
theorem undata_eq : ∀ {rs : List (List D)} {l : List (List UInt8)}, undata rs = some l → rs = l.map fun x => [.str x]
  | [], l, h => by cases h; rfl
  | [.str s] :: r, l, h => by
    simp only [undata] at h
    split at h
    · rename_i l' hl
      cases h
      rw [undata_eq hl]
      rfl
    · cases h
def sort2 : List (List UInt8) → Option (List (List UInt8))
  | [] => some []
  | [a] => some [a]
  | _ => none
theorem sort2_eq {l m : List (List UInt8)} (h : sort2 l = some m) : m = l.mergeSort fun x y => decide (x ≤ y) := by
  unfold sort2 at h
  split at h
  · cases h; simp
  · cases h; simp
  · cases h
theorem sort2_compact {l m : List (List UInt8)} (h : sort2 l = some m) : m = Lib.compact l := by
  unfold sort2 at h
  split at h
  · cases h; rfl
  · cases h
    exact (Lib.compact_all _ fun j hj => Lib.keeps_lt_one _ j (by simpa using hj)).symm
  · cases h
def baseCall (f : FuncId) (ds : List D) : Option D := match f, ds with
  | 133, [.str a, .str b] => some (.int .i64 (Lib.compareBytes a b))
  | 168, [.str s, .int .u8 c] => some (.int .i64 (Lib.indexByte s c.toNat.toUInt8))
  | 162, [.str s] => gd (decide (s.length ≤ 18)) (match Lib.atoi s with
    | some n => some (.tup [.int .i64 n, .nili])
    | none => none)
  | 211, [.int .i64 (.ofNat n)] => gd (decide (n < 100)) (some (.str (dig2 n)))
  | 40, [.str s, .str old, .str new, .int .i64 1] => gd (decide (s.length < 4294967281) && (!old.isEmpty && (!(old == new) && decide (new.length ≤ 32767)))) (some (.str (repl1 s old new)))
  | 24, [.str s, .str [c]] => gd (decide (s.length < 4294967281)) (some (.slice ((splitC c s).map fun x => [.str x])))
  | 28, [.slice rows, .str sep] => match undata rows with
    | some l => gd (decide (l.length ≤ 4294967296) && decide ((joinL sep l).length ≤ 140737488355328)) (some (.str (joinL sep l)))
    | none => none
  | _, _ => none
def fresh : Nat := 500000
def baseCalls (f : FuncId) (args : List L) (m0 : List (Nat × Blk)) : Option (L × List (Nat × Blk)) := match f, args with
  | 24, [.at (.d (.str s)), .at (.d (.str [c]))] => match m0 with
    | [] => gd (decide (s.length < 4294967281)) (some (.at (.row fresh (splitC c s).length), [(fresh, .row 9 1 (strow (splitC c s)))]))
    | _ => none
  | 125, [.at (.d (.slice rows))] => match m0 with
    | [] => gd (rows.all (fun r => r.length == 2 && r.all fun d => A.one (.d d)) && decide (rows.length ≤ 4294967296)) (some (.at (.row fresh rows.length), [(fresh, .row 117 2 (rows.map fun r => r.map .d))]))
    | _ => none
  | 130, [.at (.d (.slice rows))] => match m0 with
    | [] => gd (rows.all (fun r => r.length == 5 && r.all fun d => A.one (.d d)) && decide (rows.length ≤ 4294967296)) (some (.at (.row fresh rows.length), [(fresh, .row 94 5 (rows.map fun r => r.map .d))]))
    | _ => none
  | 141, [.at (.row k n)] => match Ev.look m0 k with
    | some (.row 9 1 rs) => match unrow rs with
      | some l => match sort2 l with
        | some m => gd (n == l.length && decide (l.length ≤ 4294967296)) (some (.tup [], (k, .row 9 1 (strow m)) :: m0))
        | none => none
      | none => none
    | _ => none
  | 142, [.at (.row k n)] => match Ev.look m0 k with
    | some (.row 9 1 rs) => match unrow rs with
      | some l => match sort2 l with
        | some m => gd (n == l.length && (decide (l.length ≤ 4294967296) && (Ev.look m0 fresh).isNone)) (some (.at (.row fresh m.length), (fresh, .row 9 1 (strow m)) :: (k, .gone) :: m0))
        | none => none
      | none => none
    | _ => none
  | 57, [.at (.row k n), .at (.d (.fn 58 []))] => match Ev.look m0 k with
    | some (.row 9 1 rs) => match unrow rs with
      | some l => gd (n == l.length && (decide (l.length ≤ 4294967296) && ((Ev.look m0 fresh).isNone && !l.isEmpty))) (some (.at (.row fresh (l.filter fun x => !(x == [])).length), (fresh, .row 9 1 (strow (l.filter fun x => !(x == [])))) :: (k, .gone) :: m0))
      | none => none
    | _ => none
  | 83, [.at (.row k n), .at (.d (.int .i64 (.ofNat i))), .at (.d (.int .i64 (.ofNat j)))] => match Ev.look m0 k with
    | some (.row 49 9 rs) => gd (n == rs.length && (decide (rs.length ≤ 4294967296) && ((Ev.look m0 fresh).isNone && (rs.all (fun r => r.length == 9 && r.all A.one) && (decide (i < j) && decide (j ≤ rs.length))))))
        (some (.at (.row fresh (rs.take i ++ rs.drop j).length), (fresh, .row 49 9 (rs.take i ++ rs.drop j)) :: (k, .gone) :: m0))
    | _ => none
  | _, _ => none
def baseClone (f : FuncId) (e s : Nat) : Bool := match f, e, s with
  | 26, 9, 1 => true
  | 135, 49, 9 => true
  | 124, 115, 5 => true
  | 130, 94, 5 => true
  | 125, 117, 2 => true
  | _, _, _ => false
def baseIns (f : FuncId) (e s : Nat) : Bool := match f, e, s with
  | 134, 49, 9 => true
  | 111, 94, 5 => true
  | _, _, _ => false
def baseLends (f : FuncId) : Bool := match f with
  | 73 | 79 | 21 | 11 | 38
  | 125 | 130 => true
  | _ => false
def base : Orc := ⟨baseCall, baseCalls, baseClone, baseIns, baseLends⟩
section
variable {G : World → Prop}
theorem baseCall_ok (hgw : ∀ w, G w → Gw w) {f : FuncId} {ds : List D} {r : D} (h : baseCall f ds = some r) : Sat G Tryz.prog f ds r := by
  unfold baseCall at h
  split at h
  · cases h; exact b_compare _ _
  · cases h; exact b_indexByte _ _
  · obtain ⟨h1, h⟩ := gd_some h
    split at h
    · rename_i n hn
      cases h
      exact b_atoi _ n (by simpa using h1) hn
    · cases h
  · obtain ⟨h1, h⟩ := gd_some h
    cases h
    exact b_itoa _ (by simpa using h1)
  · obtain ⟨h1, h⟩ := gd_some h
    cases h
    simp only [Bool.and_eq_true, Bool.not_eq_true', decide_eq_true_eq] at h1
    obtain ⟨g1, g2, g3, g4⟩ := h1
    exact b_replace _ _ _ hgw g1 (by intro e; rw [e] at g2; cases g2) (by intro e; rw [e] at g3; simp at g3) g4
  · obtain ⟨h1, h⟩ := gd_some h
    cases h
    exact b_split _ _ hgw (of_decide_eq_true h1)
  · split at h
    · rename_i l hl
      obtain ⟨h1, h⟩ := gd_some h
      cases h
      simp only [Bool.and_eq_true, decide_eq_true_eq] at h1
      rw [undata_eq hl]
      exact b_join _ _ h1.1 h1.2
    · cases h
  · cases h
theorem baseCalls_ok (hG : ∀ w w', G w → Below w.heap.size w w' → G w') (hgw : ∀ w, G w → Gw w) {f : FuncId} {args : List L} {m0 us : List (Nat × Blk)} {l : L} (h : baseCalls f args m0 = some (l, us)) : SatS G Tryz.prog f args m0 l us := by
  unfold baseCalls at h
  split at h
  · split at h
    · obtain ⟨h1, h⟩ := gd_some h
      cases h
      exact b_splitS hG hgw _ _ (of_decide_eq_true h1)
    · cases h
  · split at h
    · obtain ⟨h1, h⟩ := gd_some h
      cases h
      simp only [Bool.and_eq_true, decide_eq_true_eq] at h1
      exact b_clone hG clone_datum h1.1 h1.2
    · cases h
  · split at h
    · obtain ⟨h1, h⟩ := gd_some h
      cases h
      simp only [Bool.and_eq_true, decide_eq_true_eq] at h1
      exact b_clone hG clone_dim h1.1 h1.2
    · cases h
  · split at h
    · rename_i k n rs hk
      split at h
      · rename_i q hq
        split at h
        · rename_i m hm
          obtain ⟨h1, h⟩ := gd_some h
          cases h
          simp only [Bool.and_eq_true, decide_eq_true_eq, beq_iff_eq] at h1
          obtain ⟨rfl, h2⟩ := h1
          have hrs := unrow_eq hq
          subst hrs
          rw [sort2_eq hm]
          exact b_sort hk h2
        · cases h
      · cases h
    · cases h
  · split at h
    · rename_i k n rs hk
      split at h
      · rename_i q hq
        split at h
        · rename_i m hm
          obtain ⟨h1, h⟩ := gd_some h
          cases h
          simp only [Bool.and_eq_true, decide_eq_true_eq, beq_iff_eq, Option.isNone_iff_eq_none] at h1
          obtain ⟨rfl, h2, h3⟩ := h1
          have hrs := unrow_eq hq
          subst hrs
          rw [sort2_compact hm]
          exact b_compact hk h3 h2
        · cases h
      · cases h
    · cases h
  · split at h
    · rename_i k n rs hk
      split at h
      · rename_i q hq
        obtain ⟨h1, h⟩ := gd_some h
        cases h
        simp only [Bool.and_eq_true, decide_eq_true_eq, beq_iff_eq, Option.isNone_iff_eq_none, Bool.not_eq_true'] at h1
        obtain ⟨rfl, h2, h3, h4⟩ := h1
        have hrs := unrow_eq hq
        subst hrs
        exact b_deleteFunc hk h3 h2 (by intro e; rw [e] at h4; cases h4)
      · cases h
    · cases h
  · split at h
    · rename_i k n i j rs hk
      obtain ⟨h1, h⟩ := gd_some h
      cases h
      simp only [Bool.and_eq_true, decide_eq_true_eq, beq_iff_eq, Option.isNone_iff_eq_none] at h1
      obtain ⟨rfl, h2, h3, h4, h5, h6⟩ := h1
      exact b_delete hk h3 h2 (by simpa using h4) h5 h6
    · cases h
  · cases h
theorem baseClone_ok {f : FuncId} {e s : Nat} (h : baseClone f e s = true) : CloneAt Tryz.prog f e s := by
  unfold baseClone at h
  split at h
  · exact clone_str
  · exact clone_feat
  · exact clone_frame
  · exact clone_dim
  · exact clone_datum
  · cases h
theorem baseIns_ok {f : FuncId} {e s : Nat} (h : baseIns f e s = true) : InsAt Tryz.prog f e s := by
  unfold baseIns at h
  split at h
  · exact ins_feat
  · exact ins_dim
  · cases h
theorem base_ok (hG : ∀ w w', G w → Below w.heap.size w w' → G w') (hgw : ∀ w, G w → Gw w) : base.Ok G Tryz.prog :=
  ⟨fun _ _ _ h => baseCall_ok hgw h, fun _ _ _ _ _ h => baseCalls_ok hG hgw h, fun _ _ _ h => baseClone_ok h, fun _ _ _ h => baseIns_ok h⟩
end
end Go.Proofs.YtpfhfokfambdaaaGreatDoor
