/- A part of the proof of a law of this seat: Sr; no conditions. -/
import Derived.Test.YtpfhfokfambdaaaGreatDoorDcSp
/-! Rows of strings, and of whole numbers, of a call's own. -/
namespace Go.Proofs.YtpfhfokfambdaaaGreatDoor
open Ev
def srow (l : List Str) : List (List A) := l.map fun s => [A.d (.str s)]
theorem srow_nil : srow [] = [] := rfl
theorem srow_length (l : List Str) : (srow l).length = l.length := by simp [srow]
theorem srow_append (l : List Str) (s : Str) : srow l ++ [[A.d (.str s)]] = srow (l ++ [s]) := by simp [srow]
theorem srow_appends (l r : List Str) : srow l ++ srow r = srow (l ++ r) := by simp [srow]
theorem srow_slots (e s : Nat) (l : List Str) : Blk.slots (.row e s (srow l)) = [] := by
  simp only [Blk.slots, srow, List.flatMap_eq_nil_iff]
  intro r hr
  obtain ⟨a, _, rfl⟩ := List.mem_map.1 hr
  intro x hx
  rw [List.mem_singleton.1 hx]
  rfl
theorem pubs_map {α β γ : Type} {f : β → Option γ} {g : α → β} {h : α → γ} (e : ∀ a, f (g a) = some (h a)) : ∀ l : List α, pubs f (l.map g) = some (l.map h)
  | [] => rfl
  | a :: l => by simp only [List.map_cons, pubs, e a, pubs_map e l]
theorem srow_frz (e s : Nat) (l : List Str) : Blk.frz (.row e s (srow l)) = some (.frow (l.map fun s => [D.str s])) := by
  simp only [Blk.frz, srow]
  rw [pubs_map (f := pubs A.pub0) (g := fun s : Str => [A.d (D.str s)]) (h := fun s : Str => [D.str s]) (fun a => rfl)]
  rfl
theorem srow_one (l : List Str) : (srow l).all (fun r => r.length == 1 && r.all A.one) = true := by
  simp [srow, A.one]
theorem srow_all (l : List Str) : (srow l).all (fun r => r.all A.one) = true := by
  simp [srow, A.one]
theorem smap_rows (l : List Str) : (l.map fun s => [D.str s]).map (fun r => r.map A.d) = srow l := by simp [srow]
theorem srow_get (l : List Str) (k : Nat) : (srow l)[k]? = (l[k]?).map fun s => [A.d (.str s)] := by simp [srow]
theorem srow_live (e s : Nat) (l : List Str) : Blk.live (.row e s (srow l)) = true := rfl
attribute [simp high] srow_slots srow_frz srow_one srow_all
attribute [simp] srow_length srow_append srow_appends smap_rows srow_get
def irow (l : List Int) : List (List A) := l.map fun s => [A.d (.i s)]
theorem irow_length (l : List Int) : (irow l).length = l.length := by simp [irow]
theorem irow_append (l : List Int) (s : Int) : irow l ++ [[A.d (.i s)]] = irow (l ++ [s]) := by simp [irow]
theorem irow_slots (e s : Nat) (l : List Int) : Blk.slots (.row e s (irow l)) = [] := by
  simp only [Blk.slots, irow, List.flatMap_eq_nil_iff]
  intro r hr
  obtain ⟨a, _, rfl⟩ := List.mem_map.1 hr
  intro x hx
  rw [List.mem_singleton.1 hx]
  rfl
theorem irow_frz (e s : Nat) (l : List Int) : Blk.frz (.row e s (irow l)) = some (.frow (l.map fun s => [D.i s])) := by
  simp only [Blk.frz, irow]
  rw [pubs_map (f := pubs A.pub0) (g := fun s : Int => [A.d (D.i s)]) (h := fun s : Int => [D.i s]) (fun a => rfl)]
  rfl
attribute [simp high] irow_slots irow_frz
attribute [simp] irow_length irow_append
end Go.Proofs.YtpfhfokfambdaaaGreatDoor
