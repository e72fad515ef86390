/- A part of the proof of a law of this seat: BaseB; no conditions. -/
import Derived.Sort.OwnSorted
import Derived.Test.YtpfhfokfambdaaaGreatDoorDcBase
/-! Contracts of the library with rows of one's own: for runs. -/
set_option linter.unusedSimpArgs false
namespace Go.Proofs.YtpfhfokfambdaaaGreatDoor
open Ev
open Go.RowKit (Below)
open Go.Sort (Holds putRow grow)
section
variable {G : World → Prop}
/-- A function of data that lays a row of its own. -/
theorem satS_new (hG : ∀ w w', G w → Below w.heap.size w w' → G w') {P : Program} {f : FuncId} {args : List L} {k e s : Nat} {rows : List (List D)} (hcall : Callable P f) (hlen : ∀ r ∈ rows, r.length = s)
    (H : ∀ (w : World) (N : Nat → Prop) (vs : List Value), vs.length = args.length → (∀ (i : Nat) (x : L) (v : Value), args[i]? = some x → vs[i]? = some v → ∃ E, RvL E N w x v) → (∀ b, N b → b < w.heap.size) → G w →
      Calls P f vs.toArray w fun x w' => ∃ v xs, x = .returned v ∧ w'.ownsRow w.heap.size e s v rows.length xs ∧ Below w.heap.size w w' ∧ ∀ (i j : Nat) (r : List D) (d : D) (u : Value), rows[i]? = some r → r[j]? = some d → xs[i * s + j]? = some u → Rv N w' d u) :
    SatS G P f args [] (.at (.row k rows.length)) [(k, .row e s (rows.map fun r => r.map .d))] := by
  refine ⟨hcall, fun N0 w0 w E N vs hl hv hfx hE hb hg => ?_⟩
  refine (H w N vs hl (fun i x v hx hvi => ⟨E, (hv i x v hx hvi).1⟩) hE.nlt (hG _ _ hg hb)).mono ?_
  rintro x w' ⟨v, xs, rfl, a1, a2, a3⟩
  obtain ⟨Av, cv, hv'⟩ := own_header a1
  have hE' := hE.ext (w' := w') (fun b hlt => a2.block b hlt) a2.size
  have hm : (fun j => Ev.look [(k, Blk.row e s (rows.map fun r => r.map A.d))] j) = upd (Ev.look []) k (some (.row e s (rows.map fun r => r.map .d))) := by funext j; simp only [Ev.look, Ev.upd]
  have hblk : ∀ b, blkOf v = some b → w.heap.size ≤ b ∧ b < w'.heap.size := fun b hbv => a1.lt b (by rw [hv'] at hbv ⊢; cases Av <;> first | (cases hbv; done) | exact hbv)
  have hE2 : Env N0 w0.heap.size w' (Ev.look []) E N := hE'
  have hup := hE.upd (w' := w') k v (.row e s (rows.map fun r => r.map .d)) a2.size (fun b hlt _ => a2.block b hlt) (fun bl0 h => by cases h) (fun _ b hbv => by
      obtain ⟨g1, g2⟩ := hblk b hbv
      exact ⟨fun h => by have := hE.nlt b h; omega, Nat.le_trans hb.size g1, g2, .inr g1⟩) (by
      refine ⟨xs, ?_, fun i r hi => ?_, fun i j r a u hr ha hu => ?_⟩
      · obtain ⟨g1, g2⟩ := a1
        rw [List.length_map]
        refine ⟨g1, ?_⟩
        rcases g2 with g2 | ⟨g, cap, cur, q1, q2, q3⟩
        · exact .inl g2
        · exact .inr ⟨g, cap, cur, q1, Nat.le_trans hb.size q2, q3⟩
      · rw [List.getElem?_map, Option.map_eq_some_iff] at hi
        obtain ⟨r0, h0, rfl⟩ := hi
        rw [List.length_map]
        exact hlen r0 (List.mem_of_getElem? h0)
      · rw [List.getElem?_map, Option.map_eq_some_iff] at hr
        obtain ⟨r0, h0, rfl⟩ := hr
        rw [List.getElem?_map, Option.map_eq_some_iff] at ha
        obtain ⟨d0, h1, rfl⟩ := ha
        exact a3 i j r0 d0 u h0 h1 hu) (fun j hj => by
      obtain ⟨r, hr, x, hx, hj⟩ := hj
      obtain ⟨r0, _, rfl⟩ := List.mem_map.1 hr
      obtain ⟨d0, _, rfl⟩ := List.mem_map.1 hx
      exact hj.elim)
  refine ⟨v, upd E k v, N, rfl, hb.trans (a2.mono hb.size), ?_, ⟨⟨Av, cv, hv'⟩, Av, _, cv, by rw [upd_same]; exact hv', Nat.le_refl _, fun _ => hv'⟩, fun j hj => ?_⟩
  · show Env N0 _ w' (fun j => Ev.look [(k, Blk.row e s (rows.map fun r => r.map A.d))] j) _ N
    rw [hm]
    exact hup
  · have : k = j := hj
    subst this
    simp [Ev.look]
/-- A copy of a slice of data. -/
theorem b_clone (hG : ∀ w w', G w → Below w.heap.size w w' → G w') {P : Program} {f : FuncId} {e s k : Nat} {rows : List (List D)} (hc : CloneAt P f e s) (hlen : rows.all (fun r => r.length == s && r.all fun d => A.one (.d d)) = true) (hn : rows.length ≤ 4294967296) :
    SatS G P f [.at (.d (.slice rows))] [] (.at (.row k rows.length)) [(k, .row e s (rows.map fun r => r.map .d))] := by
  have hl1 : ∀ r ∈ rows, r.length = s := fun r hr => by
    have := List.all_eq_true.1 hlen r hr
    rw [Bool.and_eq_true, beq_iff_eq] at this
    exact this.1
  have hl2 : ∀ r ∈ rows, ∀ d ∈ r, A.one (.d d) = true := fun r hr d hd => by
    have := List.all_eq_true.1 hlen r hr
    rw [Bool.and_eq_true] at this
    exact List.all_eq_true.1 this.2 d hd
  refine satS_new hG hc.1 hl1 fun w N vs hl hv hN hg => ?_
  obtain ⟨v, rfl⟩ : ∃ v, vs = [v] := List.length_eq_one_iff.1 (by simpa using hl)
  obtain ⟨E, h⟩ := hv 0 _ v rfl rfl
  have h : Rv N w (.slice rows) v := h
  have key : ∃ (Ad : Option Addr) (c : Nat) (xs : List Value), v = .slice Ad rows.length c ∧ xs.length = rows.length * s ∧ (rows.length = 0 ∨ ∃ b o, Ad = some ⟨b, o, none⟩ ∧ ∀ (j : Nat) (u : Value), xs[j]? = some u → w.cell? ⟨b, o + j, none⟩ = some u) ∧
      ∀ (i j : Nat) (r : List D) (d : D) (u : Value), rows[i]? = some r → r[j]? = some d → xs[i * s + j]? = some u → Rv N w d u := by
    cases h with
    | sliceE A cap => exact ⟨A, cap, [], rfl, by simp, .inl rfl, fun i j r d u hr => by simp at hr⟩
    | sliceC _ b o cap s' c hne hb hs hcap h0 h1 h2 =>
      have hs' : s' = s := by
        cases rows with
        | nil => exact absurd rfl hne
        | cons r rest => rw [← h0 0 r rfl]; exact hl1 r List.mem_cons_self
      subst hs'
      have hcell : ∀ q, q < rows.length * s' → q / s' < rows.length ∧ q % s' < s' ∧ q / s' * s' + q % s' = q := by
        intro q hq
        have hs0 : 0 < s' := by
          rcases Nat.eq_zero_or_pos s' with h | h
          · rw [h, Nat.mul_zero] at hq; omega
          · exact h
        exact ⟨Nat.div_lt_of_lt_mul (by rw [Nat.mul_comm]; exact hq), Nat.mod_lt _ hs0, by rw [Nat.mul_comm]; exact Nat.div_add_mod q s'⟩
      refine ⟨_, cap, (List.range (rows.length * s')).map fun q => (w.cell? ⟨b, o + q, none⟩).getD undef, rfl, by simp, .inr ⟨b, o, rfl, fun j u hu => ?_⟩, fun i j r d u hr hd hu => ?_⟩
      · rw [List.getElem?_map, Option.map_eq_some_iff] at hu
        obtain ⟨q, hq, rfl⟩ := hu
        have hq' := (List.getElem?_eq_some_iff.1 hq)
        obtain ⟨hq1, hq2⟩ := hq'
        simp at hq1 hq2
        subst hq2
        obtain ⟨g1, g2, g3⟩ := hcell j hq1
        have := h1 _ _ g1 g2
        rw [g3] at this
        rw [this]; rfl
      · rw [List.getElem?_map, Option.map_eq_some_iff] at hu
        obtain ⟨q, hq, rfl⟩ := hu
        obtain ⟨hq1, hq2⟩ := List.getElem?_eq_some_iff.1 hq
        simp at hq1 hq2
        subst hq2
        have hi : i < rows.length := (List.getElem?_eq_some_iff.1 hr).1
        have hj : j < s' := by rw [← h0 i r hr]; exact (List.getElem?_eq_some_iff.1 hd).1
        rw [h1 i j hi hj]
        exact h2 i j r d hr hd
  obtain ⟨Ad, c, xs, rfl, k1, k2, k3⟩ := key
  have hone : ∀ u ∈ xs, u.oneCell' = true := by
    intro u hu
    obtain ⟨q, hq⟩ := List.mem_iff_getElem?.1 hu
    have hqlt : q < rows.length * s := by rw [← k1]; exact (List.getElem?_eq_some_iff.1 hq).1
    obtain ⟨r, x, g1, g2, g3⟩ := div_cell (news := rows.map fun r => r.map A.d) (fun r hr => by obtain ⟨r0, h0, rfl⟩ := List.mem_map.1 hr; rw [List.length_map]; exact hl1 r0 h0) (q := q) (by rw [List.length_map]; exact hqlt)
    rw [List.getElem?_map, Option.map_eq_some_iff] at g1
    obtain ⟨r0, h0, rfl⟩ := g1
    rw [List.getElem?_map, Option.map_eq_some_iff] at g2
    obtain ⟨d0, h1, rfl⟩ := g2
    have hrv := k3 _ _ r0 d0 u h0 h1 (by rw [g3]; exact hq)
    exact one_rv (E := fun _ => undef) (a := A.d d0) (hl2 r0 (List.mem_of_getElem? h0) d0 (List.mem_of_getElem? h1)) (show RvA _ N w (A.d d0) u from hrv)
  refine (hc.2 w Ad rows.length c xs k1 hn hone k2).mono ?_
  rintro x w' ⟨v', rfl, a1, a2⟩
  exact ⟨v', xs, rfl, a1, a2, fun i j r d u hr hd hu => Rv.mono (fun b _ hlt => a2.block b hlt) (fun _ h _ => h) (k3 i j r d u hr hd hu)⟩
theorem splitC_len (s : List UInt8) (c : UInt8) : (splitC c s).length ≤ s.length + 1 := by
  induction s with
  | nil => simp [splitC]
  | cons x r ih =>
    simp only [splitC]
    split
    · simp; omega
    · split
      · rename_i h t he
        rw [he] at ih
        simp at ih ⊢
        omega
      · simp
/-- The pieces of a text, in a row of its own. -/
theorem b_splitS (hG : ∀ w w', G w → Below w.heap.size w w' → G w') (hgw : ∀ w, G w → Gw w) {k : Nat} (s : List UInt8) (c : UInt8) (hs : s.length < 4294967281) :
    SatS G Tryz.prog 24 [.at (.d (.str s)), .at (.d (.str [c]))] [] (.at (.row k (splitC c s).length)) [(k, .row 9 1 (strow (splitC c s)))] := by
  have h := satS_new (G := G) hG (f := 24) (args := [.at (.d (.str s)), .at (.d (.str [c]))]) (k := k) (e := 9) (s := 1) (rows := (splitC c s).map fun x => [D.str x]) ⟨_, Tryz.func24, by kernel_rfl, by kernel_rfl⟩ (by simp) (fun w N vs hl hv hN hg => by
    match vs, hl with
    | [a, b], _ =>
      obtain ⟨E1, h1⟩ := hv 0 _ a rfl rfl
      obtain ⟨E2, h2⟩ := hv 1 _ b rfl rfl
      rw [ustr s N w a h1, ustr [c] N w b h2]
      refine (b_split_raw s c w (hgw w hg) hs).mono ?_
      rintro e w' ⟨rfl, rfl⟩
      have hsz := splitC_len s c
      refine ⟨_, (splitC c s).map fun x => Value.string ⟨x.toArray⟩, rfl, ⟨by simp, .inr ⟨w.heap.size, (splitC c s).length, ((splitC c s).map fun x => Value.string ⟨x.toArray⟩).toArray, by simp, Nat.le_refl _, heap_alloc_new w _, by simp, by unfold maxLen; omega, by simp, by simp [List.take_of_length_le]⟩⟩, below_alloc w _, fun i j r d u hr hd hu => ?_⟩
      rw [List.getElem?_map, Option.map_eq_some_iff] at hr
      obtain ⟨x, hx, rfl⟩ := hr
      have hj0 : j = 0 := by
        have := (List.getElem?_eq_some_iff.1 hd).1
        simpa using this
      subst hj0
      cases hd
      rw [Nat.mul_one, Nat.add_zero, List.getElem?_map, hx] at hu
      cases hu
      exact .str x)
  simpa [strow, Function.comp_def] using h
/-- Rows of strings: their cells. -/
theorem str_cells {E : Nat → Value} {N : Nat → Prop} {w : World} {l : List (List UInt8)} {xs : List Value} (hl : xs.length = l.length * 1) (h : ∀ (i j : Nat) (r : List A) (a : A) (u : Value), (strow l)[i]? = some r → r[j]? = some a → xs[i * 1 + j]? = some u → RvA E N w a u) : xs = l.map encStr := by
  apply List.ext_getElem?
  intro i
  rw [Nat.mul_one] at hl
  by_cases hi : i < l.length
  · have hx := List.getElem?_eq_getElem (show i < xs.length by omega)
    have hl' := List.getElem?_eq_getElem hi
    have h1 := h i 0 [.d (.str l[i])] (.d (.str l[i])) xs[i] (by simp [strow, hl']) rfl (by rw [Nat.mul_one, Nat.add_zero]; exact hx)
    have h1 : Rv N w (.str l[i]) xs[i] := h1
    rw [hx, List.getElem?_map, hl', Option.map_some]
    rw [ustr _ _ _ _ h1]
    try rfl
  · rw [List.getElem?_eq_none (by omega), List.getElem?_eq_none (by simp; omega)]
theorem carried_str {rs : List (List A)} {l : List (List UInt8)} {xs : List Value} : Carried 1 rs (strow l) xs (l.map encStr) := by
  intro R hR _ i j r a u hr ha hu
  rw [strow, List.getElem?_map, Option.map_eq_some_iff] at hr
  obtain ⟨x, hx, rfl⟩ := hr
  have hj0 : j = 0 := by
    have := (List.getElem?_eq_some_iff.1 ha).1
    simpa using this
  subst hj0
  cases ha
  rw [Nat.mul_one, Nat.add_zero, List.getElem?_map, hx] at hu
  cases hu
  exact hR _ _ ⟨x, rfl, rfl⟩
theorem strow_len (l : List (List UInt8)) : (strow l).length = l.length := by simp [strow]
theorem strow_one (l : List (List UInt8)) : ∀ r ∈ strow l, r.length = 1 := by
  intro r hr
  obtain ⟨x, _, rfl⟩ := List.mem_map.1 hr
  rfl
theorem strow_ones (l : List (List UInt8)) : ∀ r ∈ strow l, ∀ x ∈ r, x.one = true := by
  intro r hr x hx
  obtain ⟨y, _, rfl⟩ := List.mem_map.1 hr
  simp at hx
  subst hx
  rfl
theorem strow_men (l : List (List UInt8)) (j : Nat) : ¬ Blk.men j (.row 9 1 (strow l)) := by
  rintro ⟨r, hr, x, hx, h⟩
  obtain ⟨y, _, rfl⟩ := List.mem_map.1 hr
  simp at hx
  subst hx
  exact h
/-- What a row holds behind a turn in place. -/
theorem own_put {w : World} {B g cap q : Nat} {cur : Array Value} {d ks rest : List (List UInt8)} (hd : d = ks ++ rest) (hB : B ≤ g) (hb : w.heap[g]? = some (.cells cur 9 (0, 0))) (h1 : d.length ≤ cap) (h2 : cap ≤ maxLen) (h3 : cur.size = cap * 1) :
    (putRow encStr (Sort.ahead w q) g 0 d.toArray).ownsRow B 9 1 (.slice (some ⟨g, 0, none⟩) ks.length cap) ks.length (ks.map encStr) := by
  have h := ownsRow_sorted (n := q) (os := #[]) (ss := d) (ts := d) rfl hB hb h1 h2 h3
  rw [Sort.grow_empty] at h
  obtain ⟨g1, g2⟩ := h
  rcases g2 with ⟨h, _⟩ | ⟨g', cap', cur', hv, hg', hh, hn, hc, hs, ht⟩
  · cases h
  · cases hv
    refine ⟨by simp, .inr ⟨g, cap, cur', rfl, hg', hh, ?_, hc, hs, ?_⟩⟩
    · rw [hd] at h1; simp at h1; omega
    · rw [hd] at ht
      simp only [Nat.mul_one] at ht ⊢
      have := congrArg (List.take ks.length) ht
      rw [List.take_take, Nat.min_eq_left (by simp)] at this
      rw [this]
      simp
theorem put_kept (w : World) (g q : Nat) (d : Array (List UInt8)) : w.grownBy (putRow encStr (Sort.ahead w q) g 0 d) (some g) := by
  have h := grownBy_sorted (w := w) (g := g) (n := q) (os := #[]) d
  rw [Sort.grow_empty] at h
  exact h
theorem below_grown' {w w' : World} {B g : Nat} (h : w.grownBy w' (some g)) (hB : B ≤ g) (hs : B ≤ w.heap.size) : Below B w w' :=
  ⟨h.os, h.tape, h.output, h.size, fun b hb => h.block b (by omega) (by intro e; cases e; omega)⟩
theorem b_sort {k : Nat} {m0 : List (Nat × Blk)} {l : List (List UInt8)} (hk : Ev.look m0 k = some (.row 9 1 (strow l))) (hl : l.length ≤ 4294967296) :
    SatS G Tryz.prog 141 [.at (.row k l.length)] m0 (.tup []) ((k, .row 9 1 (strow (l.mergeSort fun x y => decide (x ≤ y)))) :: m0) := by
  have h := satS_sort (G := G) (P := Tryz.prog) (f := 141) (k := k) (e := 9) (s := 1) (rs := strow l) (rs' := strow (l.mergeSort fun x y => decide (x ≤ y))) (m0 := m0) ⟨_, Tryz.func141, by kernel_rfl, by kernel_rfl⟩ hk (strow_one _) (by simp [strow]) (strow_ones _) (fun j hj => absurd hj (strow_men _ j)) (fun w B E N v xs hown _ hB hrd => by
    rw [strow_len] at hown ⊢
    have hxs := str_cells hown.1 hrd
    subst hxs
    rcases hown.2 with ⟨rfl, h0⟩ | ⟨g, cap, cur, rfl, gB, gh, gn, gc, gs, gt⟩
    · have hnil : l = [] := List.eq_nil_of_length_eq_zero h0
      subst hnil
      refine (Tryz.slices_Sort_string_none none 0 w).mono ?_
      rintro e w' ⟨rfl, rfl⟩
      refine ⟨[], rfl, hown, Below.refl _ _, fun b _ _ => rfl, ?_⟩
      have := carried_str (rs := strow []) (l := ([] : List (List UInt8)).mergeSort fun x y => decide (x ≤ y)) (xs := [])
      simpa using this
    · rw [Nat.mul_one] at gt
      refine (Tryz.slices_Sort_string g 0 cap l w (holds_of_block gh gt) (Array.getElem?_eq_some_iff.1 gh).1 (by omega)).mono ?_
      rintro e w' ⟨rfl, n, os, rfl⟩
      have hgr := grownBy_sorted (w := w) (g := g) (n := n) (os := os) (l.mergeSort fun x y => decide (x ≤ y)).toArray
      refine ⟨_, rfl, ownsRow_sorted (by simp) gB gh gn gc gs, below_grown' hgr gB hB, fun b hb hne => hgr.block b hb (by intro e; cases e; exact hne rfl), carried_str⟩)
  rw [strow_len] at h
  exact h
theorem b_compact {k k2 : Nat} {m0 : List (Nat × Blk)} {l : List (List UInt8)} (hk : Ev.look m0 k = some (.row 9 1 (strow l))) (hk2 : Ev.look m0 k2 = none) (hl : l.length ≤ 4294967296) :
    SatS G Tryz.prog 142 [.at (.row k l.length)] m0 (.at (.row k2 (Lib.compact l).length)) ((k2, .row 9 1 (strow (Lib.compact l))) :: (k, .gone) :: m0) := by
  have h := satS_turn (G := G) (P := Tryz.prog) (f := 142) (k := k) (k2 := k2) (e := 9) (s := 1) (rs := strow l) (rs' := strow (Lib.compact l)) (extra := []) (m0 := m0) ⟨_, Tryz.func142, by kernel_rfl, by kernel_rfl⟩ hk hk2 (strow_one _) (strow_ones _) (fun j hj => absurd hj (strow_men _ j)) (fun w B E N v es xs hown _ hB hrd hes _ => by
    rw [strow_len] at hown ⊢
    have hes0 : es = [] := List.eq_nil_of_length_eq_zero (by simpa using hes)
    subst hes0
    have hxs := str_cells hown.1 hrd
    subst hxs
    rcases hown.2 with ⟨rfl, h0⟩ | ⟨g, cap, cur, rfl, gB, gh, gn, gc, gs, gt⟩
    · have hnil : l = [] := List.eq_nil_of_length_eq_zero h0
      subst hnil
      refine (Tryz.slices_Compact_string_empty none 0 w).mono ?_
      rintro e w' ⟨rfl, rfl⟩
      exact ⟨_, [], rfl, hown, Below.refl _ _, fun b _ _ => rfl, fun b hb => .inl hb, carried_str (l := [])⟩
    · rw [Nat.mul_one] at gt
      refine (Tryz.slices_Compact_string g 0 cap l w (holds_of_block gh gt) (by omega) gn).mono ?_
      rintro e w' ⟨rfl, q, rfl⟩
      have hgr := put_kept w g q (Lib.compact l ++ List.replicate (l.length - (Lib.compact l).length) []).toArray
      have hle := Lib.compact_length_le l
      refine ⟨_, _, rfl, own_put rfl gB gh (by simp; omega) gc gs, below_grown' hgr gB hB, fun b hb hne => hgr.block b hb (by intro e; cases e; exact hne rfl), fun b hb => .inl hb, carried_str⟩)
  rw [strow_len, strow_len] at h
  exact h
theorem b_empty (s : List UInt8) (w : World) : Calls Tryz.prog 58 #[encStr s] w fun e w' => e = .returned (.bool (s == [])) ∧ w' = w := by
  unfold encStr
  go_enter Tryz.func58, Tryz.ntmps58
  go_wp2
  go_ret
  exact ⟨by cases s <;> rfl, rfl⟩
theorem b_deleteFunc {k k2 : Nat} {m0 : List (Nat × Blk)} {l : List (List UInt8)} (hk : Ev.look m0 k = some (.row 9 1 (strow l))) (hk2 : Ev.look m0 k2 = none) (hl : l.length ≤ 4294967296) (hne : l ≠ []) :
    SatS G Tryz.prog 57 [.at (.row k l.length), .at (.d (.fn 58 []))] m0 (.at (.row k2 (l.filter fun x => !(x == [])).length)) ((k2, .row 9 1 (strow (l.filter fun x => !(x == [])))) :: (k, .gone) :: m0) := by
  have h := satS_turn (G := G) (P := Tryz.prog) (f := 57) (k := k) (k2 := k2) (e := 9) (s := 1) (rs := strow l) (rs' := strow (l.filter fun x => !(x == []))) (extra := [.at (.d (.fn 58 []))]) (m0 := m0) ⟨_, Tryz.func57, by kernel_rfl, by kernel_rfl⟩ hk hk2 (strow_one _) (strow_ones _) (fun j hj => absurd hj (strow_men _ j)) (fun w B E N v es xs hown _ hB hrd hes hrv => by
    rw [strow_len] at hown ⊢
    obtain ⟨u, rfl⟩ : ∃ u, es = [u] := List.length_eq_one_iff.1 (by simpa using hes)
    have hu : u = .func (.func 58) #[] #[] := by
      have h1 : Rv N w (.fn 58 []) u := hrv 0 _ u rfl rfl
      cases h1 with
      | fn f caps vs h2 h3 =>
        have : vs = [] := List.eq_nil_of_length_eq_zero (by simpa using h2)
        rw [this]
    subst hu
    have hxs := str_cells hown.1 hrd
    subst hxs
    have hgive : ∀ (W : World) (x : List UInt8), Go.Proofs.FnGives Tryz.prog 58 #[] #[encStr x] (.bool (x == [])) W := fun W x => (b_empty x W).mono (by
      rintro e w' ⟨rfl, rfl⟩
      exact ⟨rfl, 0, rfl⟩)
    rcases hown.2 with ⟨rfl, h0⟩ | ⟨g, cap, cur, rfl, gB, gh, gn, gc, gs, gt⟩
    · exact absurd (List.eq_nil_of_length_eq_zero h0) hne
    · rw [Nat.mul_one] at gt
      refine (Tryz.slices_DeleteFunc encStr (fun _ => rfl) (fun x => x == []) 58 #[] (fun args w => run_callFunc ⟨_, Tryz.func58, by kernel_rfl, by kernel_rfl⟩ args w) [] (fun w => Tryz.zeroValue9 w) g 0 cap l.toArray w (fun W x _ => hgive W x) (fun n os dk x _ => hgive _ x) (holds_of_block gh gt) (by simp; omega) (by simpa using gn)).mono ?_
      rintro e w' ⟨rfl, q, rfl⟩
      have hgr := put_kept w g q ((l.toArray.toList.filter fun x => !(x == [])) ++ List.replicate (l.toArray.size - (l.toArray.toList.filter fun x => !(x == [])).length) []).toArray
      have hle := List.length_filter_le (fun x => !(x == ([] : List UInt8))) l
      refine ⟨_, _, rfl, own_put rfl gB gh (by simp at hle ⊢; omega) gc gs, below_grown' hgr gB hB, fun b hb hne => hgr.block b hb (by intro e; cases e; exact hne rfl), fun b hb => .inl hb, carried_str⟩)
  rw [strow_len, strow_len] at h
  exact h
end
end Go.Proofs.YtpfhfokfambdaaaGreatDoor
