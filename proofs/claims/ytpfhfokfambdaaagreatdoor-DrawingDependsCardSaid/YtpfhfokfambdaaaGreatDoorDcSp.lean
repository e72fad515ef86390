/- A part of the proof of a law of this seat: Sp; no conditions. -/
import Derived.Test.YtpfhfokfambdaaaGreatDoorDcb
/-! The data of drawings, as Lean structures; how they read. -/
namespace Go.Proofs.YtpfhfokfambdaaaGreatDoor
open Ev
abbrev Str := List UInt8
structure Datum where
  name : Str
  mat : Int
  deriving DecidableEq
structure Frame where
  kind : Int
  disc : Bool
  tol : Int
  mat : Int
  datums : List Datum
  deriving DecidableEq
structure Feature where
  name : Str
  kind : Int
  axis : Int
  x : Int
  y : Int
  z : Int
  low : Int
  high : Int
  frames : List Frame
  deriving DecidableEq
structure Dim where
  src : Str
  dst : Str
  axis : Int
  low : Int
  high : Int
  deriving DecidableEq
structure Drawing where
  name : Str
  features : List Feature
  dims : List Dim
  deriving DecidableEq
/-- A whole number of the language, as data. -/
abbrev Ev.D.i (n : Int) : D := .int .i64 n
abbrev Datum.row (d : Datum) : List D := [.str d.name, .i d.mat]
abbrev Frame.row (f : Frame) : List D := [.i f.kind, .bool f.disc, .i f.tol, .i f.mat, .slice (f.datums.map Datum.row)]
abbrev Feature.row (f : Feature) : List D := [.str f.name, .i f.kind, .i f.axis, .i f.x, .i f.y, .i f.z, .i f.low, .i f.high, .slice (f.frames.map Frame.row)]
abbrev Dim.row (d : Dim) : List D := [.str d.src, .str d.dst, .i d.axis, .i d.low, .i d.high]
abbrev Drawing.row (d : Drawing) : List D := [.str d.name, .slice (d.features.map Feature.row), .slice (d.dims.map Dim.row)]
abbrev strs (l : List Str) : D := .slice (l.map fun s => [.str s])

theorem ite_both {p a b : Prop} [Decidable p] : (if p then a else b) ↔ (p → a) ∧ (¬ p → b) := by
  split <;> simp [*]
theorem wrap_id {n : Int} (h1 : -9223372036854775808 ≤ n) (h2 : n ≤ 9223372036854775807) : IntKind.i64.wrap n = n := by
  rw [IntKind.wrap_i64]; omega
theorem wrap_succ {k n : Nat} (h : k < n) (hn : n ≤ 4611686018427387904) : IntKind.i64.wrap ((k : Int) + 1) = ((k + 1 : Nat) : Int) := by
  rw [wrap_id (by omega) (by omega)]; rfl
end Go.Proofs.YtpfhfokfambdaaaGreatDoor
