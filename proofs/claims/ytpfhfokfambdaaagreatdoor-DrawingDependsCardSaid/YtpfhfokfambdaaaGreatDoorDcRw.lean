/- A part of the proof of a law of this seat: Rw; no conditions. -/
import Derived.ProofKit
import Derived.Carry
import Derived.LaidMore
import Derived.LaidHandle
import Derived.Deep.DeepHandedRow
import Derived.Deep.DeepWitnessRowRef
import Derived.Test.YtpfhfokfambdaaaGreatDoorDcTy
import Derived.Test.YtpfhfokfambdaaaGreatDoorDcBase
import Derived.Test.YtpfhfokfambdaaaGreatDoorCards
import Derived.Test.YtpfhfokfambdaaaGreatDoorTie
/-! From a contract on data to a row: what is alike in all laws of the seat. -/
namespace Go.Proofs.YtpfhfokfambdaaaGreatDoor
open Ev
open Go.ChangeShapes Go.WideShapes Go.ChangeAt Go.RowKit
theorem own : ownKnob Tryz.prog.godebug = none := by kernel_rfl
theorem laidOut : laidOutB Tryz.prog = true := by kernel_rfl
theorem gw_of_shape {W : World} (h : W.ShapedOpen Tryz.prog) : Gw W :=
  cell_of_shapedOpen_int (zero := #[.int .i64 0]) (t := 3) h (of_decide_eq_true (by kernel_rfl)) (by kernel_rfl) rfl (by kernel_rfl) (by kernel_rfl) Tryz.underlying3

/-- A world for the witness: the door's own, the pinned table laid. -/
noncomputable def laidWorld (os : Os) : World :=
  { World.doorLaid Tryz.prog 400 os with heap := (World.doorLaid Tryz.prog 400 os).heap.modify 1 fun
      | .cells _ t frozen => .cells (Go.Pinned.utf8FirstZ.map fun n : Nat => Value.int .u8 (n : Int)).toArray t frozen
      | o => o }
section
variable {H : Type} {enc : TypeId × Value → H} {P : Program} {w : World} {base : Nat} {sp : Nat → Bool} {held : Bool}
/-- An argument of a struct's or an array's type. -/
theorem arg_agg {τ : Ty} {t : TypeId} (hτ : okT P τ t [] 0 = true) (hrow : τ.isRow = false) (hag : ∃ fs, P.underlying t = some (.struct fs) ∨ ∃ n e, P.underlying t = some (.array n e)) {v : Value} {d : DataW H} {p : List MemPlace} (hval : Value.okWide P w .any base t v)
    (h : DataW.Trod enc P w 0 sp held t v d p) (hw : ∀ n ∈ d.weights P t, n ≤ reachBytes) : ∃ ds, HasTy τ ds ∧ Rv (fun b => b < w.heap.size) w (.agg ds) v := by
  obtain ⟨cs, rfl⟩ : ∃ cs, v = .agg cs := by
    obtain ⟨fs, hag⟩ := hag
    unfold Value.okWide at hval
    rcases hag with hag | ⟨n, e, hag⟩ <;> (rw [hag] at hval; obtain ⟨cs, rfl, _⟩ := hval; exact ⟨cs, rfl⟩)
  obtain ⟨fuel, h⟩ := h
  obtain ⟨ds, h1, h2⟩ := (read_ty (H := H) τ).1 t fuel _ _ hrow hτ h hw
  refine ⟨ds, h1, ?_⟩
  have : cs = cs.toList.toArray := by simp
  rw [this]
  exact .agg ds cs.toList h2.1.symm h2.2
/-- A string's argument. -/
theorem arg_str {t : TypeId} (ht : P.underlying t = some .string) {v : Value} {d : DataW H} {p : List MemPlace} (hval : Value.okWide P w .any base t v)
    (h : DataW.Trod enc P w 0 sp held t v d p) (hw : ∀ n ∈ d.weights P t, n ≤ reachBytes) : ∃ s, s.length ≤ reachBytes ∧ Rv (fun b => b < w.heap.size) w (.str s) v := by
  obtain ⟨s, rfl, rfl, _⟩ := Go.ChangeMaps.open_string ht hval h
  refine ⟨s.data.toList, hw _ (by simp [DataW.weights]), ?_⟩
  have : s = ⟨s.data.toList.toArray⟩ := by cases s; simp
  exact (congrArg (fun z => Rv _ w (.str s.data.toList) (.string z)) this).mpr (.str _)
/-- Rows of data of one kind. -/
theorem rows_of {α : Type} {f : α → List D} {Q : α → Prop} : ∀ {rows : List (List D)}, (∀ r ∈ rows, ∃ a, r = f a ∧ Q a) → ∃ l : List α, rows = l.map f ∧ ∀ a ∈ l, Q a
  | [], _ => ⟨[], rfl, fun a h => absurd h List.not_mem_nil⟩
  | r :: rs, h => by
    obtain ⟨a, ha, hq⟩ := h r List.mem_cons_self
    obtain ⟨l, hl, hql⟩ := rows_of fun r' hr' => h r' (List.mem_cons_of_mem _ hr')
    refine ⟨a :: l, by rw [ha, hl]; rfl, fun b hb => ?_⟩
    rcases List.mem_cons.1 hb with rfl | hb
    · exact hq
    · exact hql b hb
/-- The arguments read behind the call as before. -/
theorem trodAll_below (hl : laidOutB P = true) {W W' : World} (hb : Below W.heap.size W W') : ∀ {ts : List TypeId} {vs : List Value} {ds : List (DataW H)} {ps : List MemPlace}, DataW.TrodAll enc P W 0 (fun _ => true) true ts vs ds ps →
    (∀ t ∈ ts, P.readableRec t = true ∧ t < P.types.size) → (∀ x ∈ ps, x.block < W.heap.size) → DataW.TrodAll enc P W' 0 (fun b => decide (b < W.heap.size)) true ts vs ds ps
  | [], [], [], ps, h, _, _ => h
  | t :: ts, v :: vs, d :: ds, ps, ⟨p, q, h1, h2, h3⟩, hr, hlt => by
    subst h3
    exact ⟨p, q, Below.trod hl (hr t List.mem_cons_self).1 (hr t List.mem_cons_self).2 h1 hb fun x hx => hlt x (List.mem_append_left _ hx), trodAll_below hl hb h2 (fun t' ht' => hr t' (List.mem_cons_of_mem _ ht')) fun x hx => hlt x (List.mem_append_right _ hx), rfl⟩
  | [], _ :: _, _, _, h, _, _ => h.elim
  | [], [], _ :: _, _, h, _, _ => h.elim
  | _ :: _, [], _, _, h, _, _ => h.elim
  | _ :: _, _ :: _, [], _, h, _, _ => h.elim
/-- What the row asks of a law's call that answered true. -/
theorem law_post {f : Func} {s : ChangeSpec} {W W' : World} {args : Array Value} {ds gs : List (DataW H)} {before : List MemPlace} (hl : laidOutB P = true)
    (hW : DataW.Whole enc P f.params.toList s.vars false W args.toList ds gs before) (hv : s.vars = []) (hfn : s.fn H ds = { results := [.lit (.bool true)], args := ds })
    (hres : f.resultTypes = #[4]) (h4 : P.underlying 4 = some .bool) (hr : ∀ t ∈ f.params.toList, P.readableRec t = true ∧ t < P.types.size) (hb : Below W.heap.size W W') :
    s.post enc P f false true false false W args (.bool true) W' := by
  have hW' := hW
  obtain ⟨p, q, hA, hV, rfl, hfz, hnd⟩ := hW
  rw [hv] at hV
  have hg : gs = [] ∧ q = [] := by
    cases gs with
    | nil => exact ⟨rfl, hV⟩
    | cons g r => exact hV.elim
  obtain ⟨rfl, rfl⟩ := hg
  rw [List.append_nil] at hW'
  refine ⟨ds, [], p, [], p, [], hW', ?_, ?_, ?_, hb.frame _, fun h => by cases h⟩
  · rw [List.append_nil, hfn, hres]
    exact ⟨[], [], shut_bool h4 true, rfl, rfl⟩
  · rw [List.append_nil, hfn]
    exact trodAll_below hl hb hA hr fun x hx => hW'.lt x hx
  · rw [hv, List.append_nil, hfn]
    rfl
end
end Go.Proofs.YtpfhfokfambdaaaGreatDoor
