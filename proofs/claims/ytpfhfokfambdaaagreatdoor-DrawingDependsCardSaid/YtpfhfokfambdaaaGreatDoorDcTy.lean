/- A part of the proof of a law of this seat: Ty; no conditions. -/
import Derived.ChangeSame
import Derived.Deep.Slices
import Derived.OpenShut
import Derived.SizedLaws
import Derived.Test.YtpfhfokfambdaaaGreatDoorDca
/-! What a call's arguments read as: from the form's reading to the evaluator's. -/
namespace Go.Proofs.YtpfhfokfambdaaaGreatDoor.Ev
/-- Types of data: 'st' of a row of fields ('cons', 'nil'). -/
inductive Ty where
  | int (k : IntKind)
  | bool
  | str
  | slice (e : Ty)
  | st (fs : Ty)
  | arr (n : Nat) (e : Ty)
  | nil
  | cons (a r : Ty)
def Ty.cells : Ty → Nat
  | .st fs => fs.cells
  | .arr n e => n * e.cells
  | .nil => 0
  | .cons a r => a.cells + r.cells
  | _ => 1
def Ty.isRow : Ty → Bool
  | .nil | .cons _ _ => true
  | _ => false
def okT (P : Program) : Ty → TypeId → List Field → Nat → Bool
  | .int k, t, _, _ => match P.underlying t with
    | some (.int k') => k == k'
    | _ => false
  | .bool, t, _, _ => match P.underlying t with
    | some .bool => true
    | _ => false
  | .str, t, _, _ => match P.underlying t with
    | some .string => true
    | _ => false
  | .slice e, t, _, _ => match P.underlying t with
    | some (.slice te) => P.cellsOf te == e.cells && decide (0 < e.cells) && decide (1 ≤ P.bytesOf te) && !e.isRow && okT P e te [] 0
    | _ => false
  | .arr n e, t, _, _ => match P.underlying t with
    | some (.array m te) => m == n && P.cellsOf t == n * e.cells && P.cellsOf te == e.cells && !e.isRow && okT P e te [] 0
    | _ => false
  | .st fs, t, _, _ => match P.underlying t with
    | some (.struct fds) => P.cellsOf t == fs.cells && fs.isRow && okT P fs 0 fds.toList 0
    | _ => false
  | .nil, _, fds, _ => fds.isEmpty
  | .cons a r, _, fd :: fds, o => fd.offset == o && P.cellsOf fd.type == a.cells && !a.isRow && r.isRow && okT P a fd.type [] 0 && okT P r 0 fds (o + a.cells)
  | .cons _ _, _, [], _ => false
/-- Data of a type. -/
def HasTy : Ty → List D → Prop
  | .int k, ds => ∃ n, ds = [.int k n] ∧ (Lit.int k n).wf = true
  | .bool, ds => ∃ b, ds = [.bool b]
  | .str, ds => ∃ s, ds = [.str s] ∧ s.length ≤ reachBytes
  | .slice e, ds => ∃ rows, ds = [.slice rows] ∧ rows.length ≤ reachBytes ∧ ∀ r ∈ rows, HasTy e r
  | .st fs, ds => HasTy fs ds
  | .arr n e, ds => ∃ rows : List (List D), rows.length = n ∧ ds = rows.flatten ∧ ∀ r ∈ rows, HasTy e r
  | .nil, ds => ds = []
  | .cons a r, ds => ∃ x y, ds = x ++ y ∧ HasTy a x ∧ HasTy r y
theorem HasTy.length : ∀ {τ : Ty} {ds : List D}, HasTy τ ds → ds.length = τ.cells
  | .int _, _, ⟨_, h, _⟩ => by rw [h]; rfl
  | .bool, _, ⟨_, h⟩ => by rw [h]; rfl
  | .str, _, ⟨_, h, _⟩ => by rw [h]; rfl
  | .slice _, _, ⟨_, h, _⟩ => by rw [h]; rfl
  | .st fs, _, h => HasTy.length (τ := fs) h
  | .arr n e, _, ⟨rows, h, h1, h2⟩ => by
    rw [h1, ← h]
    clear h h1
    show rows.flatten.length = rows.length * e.cells
    induction rows with
    | nil => simp
    | cons r rs ih =>
      rw [List.flatten_cons, List.length_append, HasTy.length (h2 r List.mem_cons_self), ih fun r' hr' => h2 r' (List.mem_cons_of_mem _ hr'), List.length_cons, Nat.add_mul, Nat.one_mul, Nat.add_comm]
  | .nil, _, h => by rw [show _ = [] from h]; rfl
  | .cons a r, _, ⟨x, y, h, h1, h2⟩ => by
    rw [h, List.length_append, HasTy.length h1, HasTy.length h2]; rfl
def RvAll (N : Nat → Prop) (w : World) (ds : List D) (cs : List Value) : Prop := ds.length = cs.length ∧ ∀ (i : Nat) (d : D) (v : Value), ds[i]? = some d → cs[i]? = some v → Rv N w d v
theorem RvAll.one {N : Nat → Prop} {w : World} {d : D} {v : Value} (h : Rv N w d v) : RvAll N w [d] [v] := ⟨rfl, fun i d' v' hd hv => by
  cases i with
  | zero => cases hd; cases hv; exact h
  | succ i => simp at hd⟩
theorem RvAll.append {N : Nat → Prop} {w : World} {a b : List D} {x y : List Value} (h1 : RvAll N w a x) (h2 : RvAll N w b y) : RvAll N w (a ++ b) (x ++ y) := by
  refine ⟨by rw [List.length_append, List.length_append, h1.1, h2.1], fun i d v hd hv => ?_⟩
  rw [List.getElem?_append] at hd hv
  rw [h1.1] at hd
  split at hd
  · rename_i h
    rw [if_pos h] at hv
    exact h1.2 i d v hd hv
  · rename_i h
    rw [if_neg h] at hv
    exact h2.2 _ d v hd hv
section
variable {H : Type} {enc : TypeId × Value → H} {P : Program} {w : World} {spare : Nat → Bool} {held : Bool}
theorem mem_weightsAll {e : TypeId} {d : DataW H} : ∀ {l : List (DataW H)}, d ∈ l → ∀ {n : Nat}, n ∈ d.weights P e → n ∈ DataW.weightsAll P e l
  | a :: r, h, n, hn => by
    simp only [DataW.weightsAll, List.mem_append]
    rcases List.mem_cons.1 h with rfl | h
    · exact .inl hn
    · exact .inr (mem_weightsAll h hn)
theorem read_ty : ∀ (τ : Ty),
    (∀ (t : TypeId) (fuel : Nat) (cs : List Value) (x : DataW H × List MemPlace), τ.isRow = false → okT P τ t [] 0 = true → DataW.trod enc P w 0 spare held fuel t cs = some x → (∀ n ∈ x.1.weights P t, n ≤ reachBytes) → ∃ ds, HasTy τ ds ∧ RvAll (fun b => b < w.heap.size) w ds cs) ∧
    (∀ (fds : List Field) (o fuel : Nat) (cs : List Value), τ.isRow = true → okT P τ 0 fds o = true → o + τ.cells ≤ cs.length →
      (∀ f ∈ fds, ∃ y, DataW.trod enc P w 0 spare held fuel f.type ((cs.drop f.offset).take (P.cellsOf f.type)) = some y ∧ ∀ n ∈ y.1.weights P f.type, n ≤ reachBytes) → ∃ ds, HasTy τ ds ∧ RvAll (fun b => b < w.heap.size) w ds ((cs.drop o).take τ.cells))
  | .int k => ⟨fun t fuel cs x _ h hx hw => by
      simp only [okT] at h
      split at h
      · rename_i k' ht
        have : k = k' := by simpa using h
        subst this
        obtain ⟨n, rfl, _, hwf⟩ := DataW.trod_int ht hx
        exact ⟨_, ⟨n, rfl, hwf⟩, .one (.int k n)⟩
      · exact (Bool.false_ne_true h).elim, fun _ _ _ _ h => (Bool.false_ne_true h).elim⟩
  | .bool => ⟨fun t fuel cs x _ h hx hw => by
      simp only [okT] at h
      split at h
      · rename_i ht
        obtain ⟨b, rfl, _⟩ := DataW.trod_bool ht hx
        exact ⟨_, ⟨b, rfl⟩, .one (.bool b)⟩
      · exact (Bool.false_ne_true h).elim, fun _ _ _ _ h => (Bool.false_ne_true h).elim⟩
  | .str => ⟨fun t fuel cs x _ h hx hw => by
      simp only [okT] at h
      split at h
      · rename_i ht
        obtain ⟨s, rfl, rfl, _⟩ := DataW.trod_string ht hx
        refine ⟨_, ⟨s.data.toList, rfl, hw _ (by simp [DataW.weights])⟩, .one ?_⟩
        have : s = ⟨s.data.toList.toArray⟩ := by cases s; simp
        exact (congrArg (fun z => Rv _ w (.str s.data.toList) (.string z)) this).mpr (.str _)
      · exact (Bool.false_ne_true h).elim, fun _ _ _ _ h => (Bool.false_ne_true h).elim⟩
  | .slice e => ⟨fun t fuel cs x _ h hx hw => by
      simp only [okT] at h
      split at h
      · rename_i te ht
        simp only [Bool.and_eq_true, beq_iff_eq, decide_eq_true_eq, Bool.not_eq_true'] at h
        obtain ⟨⟨⟨⟨hc, hpos⟩, hbytes⟩, hrow⟩, hok⟩ := h
        rcases Go.Deep.open_slice ht hx with ⟨rfl, _⟩ | ⟨a, len, cap, m, n, Dn, Pl, rfl, _, hl, hm, hmm, rfl, hel⟩
        · exact ⟨_, ⟨[], rfl, Nat.zero_le _, fun r hr => by cases hr⟩, .one (.sliceE none 0)⟩
        · have hlm : len ≤ m := by rw [hmm]; split <;> omega
          have key : ∀ i, ∃ r : List D, i < len → HasTy e r ∧ ∃ cs', w.cells? 0 (a.add (i * e.cells)) e.cells = some cs' ∧ RvAll (fun b => b < w.heap.size) w r cs' := by
            intro i
            by_cases hi : i < len
            · obtain ⟨cs', h1, h2⟩ := hel i (by omega)
              rw [hc] at h1
              obtain ⟨ds, h3, h4⟩ := (read_ty e).1 te n cs' _ hrow hok h2 (fun q hq => hw q (by
                simp only [DataW.weights, ht, List.mem_cons, List.mem_append]
                exact .inr (.inl (mem_weightsAll (List.mem_map.2 ⟨i, List.mem_range.2 hi, rfl⟩) hq))))
              exact ⟨ds, fun _ => ⟨h3, cs', h1, h4⟩⟩
            · exact ⟨[], fun h => absurd h hi⟩
          let F : Nat → List D := fun i => Classical.choose (key i)
          have hF : ∀ i, i < len → HasTy e (F i) ∧ ∃ cs', w.cells? 0 (a.add (i * e.cells)) e.cells = some cs' ∧ RvAll (fun b => b < w.heap.size) w (F i) cs' := fun i => Classical.choose_spec (key i)
          refine ⟨_, ⟨(List.range len).map F, rfl, ?_, fun r hr => ?_⟩, .one ?_⟩
          · have h0 := hw (((List.range len).map Dn).length * P.bytesOf te + ((List.range (m - len)).map fun j => Dn (len + j)).length * P.bytesOf te) (by
              simp only [DataW.weights, ht, List.mem_cons]
              exact .inl (by rw [Nat.add_mul]))
            simp only [List.length_map, List.length_range] at h0 ⊢
            have := Nat.mul_le_mul_left len hbytes
            omega
          · obtain ⟨i, hi, rfl⟩ := List.mem_map.1 hr
            exact (hF i (List.mem_range.1 hi)).1
          · by_cases h0 : len = 0
            · subst h0
              exact .sliceE (some a) cap
            · obtain ⟨b, o, sp⟩ := a
              have hsp : sp = none := by
                obtain ⟨_, cs', h1, h2⟩ := hF 0 (by omega)
                obtain ⟨_, h3, h4⟩ := World.cells?_some h1
                have := h4 0 hpos
                rw [Nat.zero_mul, List.getElem?_eq_getElem (by rw [h3]; exact hpos)] at this
                simpa [Addr.add] using World.cell?_spot this
              subst hsp
              have hadd : ∀ o n : Nat, Addr.add ⟨b, o, none⟩ n = ⟨b, o + n, none⟩ := by
                intro o n
                unfold Addr.add
                split
                · rename_i h; rw [h]; rfl
                · rfl
              have cell : ∀ i j, i < len → j < e.cells → ∃ v, w.cell? ⟨b, o + (i * e.cells + j), none⟩ = some v ∧ ∀ d, (F i)[j]? = some d → Rv (fun b => b < w.heap.size) w d v := by
                intro i j hi hj
                obtain ⟨_, cs', h1, h2⟩ := hF i hi
                obtain ⟨_, h3, h4⟩ := World.cells?_some h1
                have hjc : j < cs'.length := by rw [h3]; exact hj
                refine ⟨cs'[j], ?_, fun d hd => h2.2 j d _ hd (List.getElem?_eq_getElem hjc)⟩
                have := h4 j hj
                rw [List.getElem?_eq_getElem hjc, hadd, hadd, Nat.add_assoc] at this
                exact this
              have hb : b < w.heap.size := by
                obtain ⟨v, hv, _⟩ := cell 0 0 (by omega) hpos
                exact lt_of_cell hv
              have := Rv.sliceC (N := fun b => b < w.heap.size) (w := w) ((List.range len).map F) b o cap e.cells (fun i j => (w.cell? ⟨b, o + (i * e.cells + j), none⟩).getD undef)
                (fun h => by have := congrArg List.length h; simp only [List.length_map, List.length_range, List.length_nil] at this; omega) hb hb (by simpa using hl) (fun i r hr => ?_) (fun i j hi hj => ?_) (fun i j r d hr hd => ?_)
              · simpa using this
              · rw [List.getElem?_map, Option.map_eq_some_iff] at hr
                obtain ⟨q, hq, rfl⟩ := hr
                obtain ⟨hq1, rfl⟩ := List.getElem?_eq_some_iff.1 hq
                simp only [List.length_range] at hq1
                simp only [List.getElem_range]
                exact (hF i hq1).1.length
              · simp only [List.length_map, List.length_range] at hi
                obtain ⟨v, hv, _⟩ := cell i j hi hj
                rw [hv]; rfl
              · rw [List.getElem?_map, Option.map_eq_some_iff] at hr
                obtain ⟨q, hq, rfl⟩ := hr
                obtain ⟨hq1, rfl⟩ := List.getElem?_eq_some_iff.1 hq
                simp only [List.length_range] at hq1
                simp only [List.getElem_range] at hd
                have hj : j < e.cells := by rw [← (hF i hq1).1.length]; exact (List.getElem?_eq_some_iff.1 hd).1
                obtain ⟨v, hv, hr⟩ := cell i j hq1 hj
                rw [hv]
                exact hr d hd
      · exact (Bool.false_ne_true h).elim, fun _ _ _ _ h => (Bool.false_ne_true h).elim⟩
  | .st fs => ⟨fun t fuel cs x _ h hx hw => by
      simp only [okT] at h
      split at h
      · rename_i fds ht
        simp only [Bool.and_eq_true, beq_iff_eq] at h
        obtain ⟨⟨hc, hrow⟩, hok⟩ := h
        obtain ⟨xs, n, _, rfl, hl, hlen, hf⟩ := DataW.trod_struct ht hx
        obtain ⟨ds, h1, h2⟩ := (read_ty fs).2 fds.toList 0 n cs hrow hok (by rw [hl, hc]; omega) (fun f hf' => by
          obtain ⟨i, hi, rfl⟩ := List.mem_iff_getElem.1 hf'
          have := hf i fds.toList[i] (by simp at hi; simp [hi])
          have hlt : i < xs.length := by rw [hlen]; simpa using hi
          refine ⟨xs[i], by rw [this]; simp [hlt], fun q hq => hw q ?_⟩
          simp only [DataW.weights, ht]
          exact DataW.weights_mem_each (j := i) (t := fds.toList[i].type) (d := xs[i].1) (by simp at hi; simp [hi]) (by simp [hlt]) q hq)
        refine ⟨ds, h1, ?_⟩
        rw [List.drop_zero, ← hc, ← hl, List.take_length] at h2
        exact h2
      · exact (Bool.false_ne_true h).elim, fun _ _ _ _ h => (Bool.false_ne_true h).elim⟩
  | .arr n e => ⟨fun t fuel cs x _ h hx hw => by
      simp only [okT] at h
      split at h
      · rename_i m te ht
        simp only [Bool.and_eq_true, beq_iff_eq, Bool.not_eq_true'] at h
        obtain ⟨⟨⟨⟨rfl, hct⟩, hc⟩, hrow⟩, hok⟩ := h
        obtain ⟨xs, q, _, rfl, hl, hlen, hel⟩ := DataW.trod_array ht hx
        have key : ∀ k, k ≤ m → ∃ rows : List (List D), rows.length = k ∧ (∀ r ∈ rows, HasTy e r) ∧ RvAll (fun b => b < w.heap.size) w rows.flatten (cs.take (k * e.cells)) := by
          intro k
          induction k with
          | zero => intro _; exact ⟨[], rfl, fun r hr => absurd hr List.not_mem_nil, ⟨by simp, fun i d v hd => by simp at hd⟩⟩
          | succ k ih =>
            intro hk
            obtain ⟨rows, g1, g2, g3⟩ := ih (by omega)
            have hlt : k < xs.length := by omega
            have hx1 := hel k (by omega)
            rw [List.getElem?_eq_getElem hlt, hc] at hx1
            obtain ⟨ds, g4, g5⟩ := (read_ty e).1 te q _ _ hrow hok hx1 (fun z hz => hw z (by
              simp only [DataW.weights, ht]
              exact mem_weightsAll (List.mem_map.2 ⟨xs[k], List.getElem_mem hlt, rfl⟩) hz))
            refine ⟨rows ++ [ds], by rw [List.length_append, g1]; rfl, fun r hr => ?_, ?_⟩
            · rcases List.mem_append.1 hr with hr | hr
              · exact g2 r hr
              · rw [List.mem_singleton.1 hr]; exact g4
            · rw [List.flatten_append, Nat.add_mul, Nat.one_mul, List.take_add]
              exact g3.append (by simpa using g5)
        obtain ⟨rows, g1, g2, g3⟩ := key m (Nat.le_refl _)
        rw [← hct, ← hl, List.take_length] at g3
        exact ⟨rows.flatten, ⟨rows, g1, rfl, g2⟩, g3⟩
      · exact (Bool.false_ne_true h).elim, fun _ _ _ _ h => (Bool.false_ne_true h).elim⟩
  | .nil => ⟨fun _ _ _ _ h => (Bool.false_ne_true h.symm).elim, fun fds o fuel cs _ h _ _ => ⟨[], rfl, ⟨by simp [Ty.cells], fun i d v hd => by simp at hd⟩⟩⟩
  | .cons a r => ⟨fun _ _ _ _ h => (Bool.false_ne_true h.symm).elim, fun fds o fuel cs _ h hl hf => by
      cases fds with
      | nil => simp [okT] at h
      | cons fd fds =>
        simp only [okT, Bool.and_eq_true, beq_iff_eq, Bool.not_eq_true'] at h
        obtain ⟨⟨⟨⟨⟨ho, hc⟩, ha⟩, hr⟩, h1⟩, h2⟩ := h
        simp only [Ty.cells] at hl
        obtain ⟨y, hy, hyw⟩ := hf fd List.mem_cons_self
        obtain ⟨d1, g1, g2⟩ := (read_ty a).1 fd.type fuel _ _ ha h1 hy hyw
        obtain ⟨d2, g3, g4⟩ := (read_ty r).2 fds (o + a.cells) fuel cs hr h2 (by omega) fun f hf' => hf f (List.mem_cons_of_mem _ hf')
        refine ⟨d1 ++ d2, ⟨d1, d2, rfl, g1, g3⟩, ?_⟩
        rw [ho, hc] at g2
        have : (cs.drop o).take (Ty.cells (.cons a r)) = (cs.drop o).take a.cells ++ (cs.drop (o + a.cells)).take r.cells := by
          simp only [Ty.cells]
          rw [List.take_add, List.drop_drop]
        rw [this]
        exact g2.append g4⟩
end
end Go.Proofs.YtpfhfokfambdaaaGreatDoor.Ev
