/- A part of the proof of a law of this seat: KLa; no conditions. -/
import Derived.Test.YtpfhfokfambdaaaGreatDoorDcKI
import Derived.Test.YtpfhfokfambdaaaGreatDoorDcc
/-! Contracts of the library, as contracts on data. -/
set_option linter.unusedSimpArgs false
namespace Go.Proofs.YtpfhfokfambdaaaGreatDoor
open Ev
open Go.RowKit (Below)
section
variable {G : World → Prop}
/-- A contract on values without memory. -/
theorem sat_flat {P : Program} {f : FuncId} {fn : Func} {args : List D} {r : D} (hf : P.funcs[f]? = some fn) (hb : fn.body.isSome = true) (hn : (fn.name == "runtime.NumGoroutine") = false)
    (vs : List Value) (hv : ∀ (N : Nat → Prop) (w : World) (us : List Value), us.length = args.length → (∀ (i : Nat) (d : D) (v : Value), args[i]? = some d → us[i]? = some v → Rv N w d v) → us = vs)
    (h : ∀ w, G w → Calls P f vs.toArray w fun e w' => ∃ v, e = .returned v ∧ Below w.heap.size w w' ∧ ∀ N, Rv N w' r v) : Sat G P f args r := by
  refine ⟨⟨fn, hf, hb, hn⟩, fun N w us hl ha hN hg => ?_⟩
  rw [hv N w us hl ha]
  refine (h w hg).mono ?_
  rintro e w' ⟨v, h1, h2, h3⟩
  exact ⟨v, h1, h2, h3 _⟩
theorem s_indexByte (s : Str) (c : UInt8) : Sat G Tryz.prog 168 [.str s, .int .u8 (c.toNat : Int)] (.i (Lib.indexByte s c)) := by
  refine sat_flat Tryz.func168 (by kernel_rfl) (by kernel_rfl) [.string ⟨s.toArray⟩, .int .u8 (c.toNat : Int)] (fun N w us hl ha => ?_) fun w _ => (Tryz.strings_IndexByte _ _ w).mono ?_
  · match us, hl with
    | [a, b], _ =>
      have h1 := ha 0 _ a rfl rfl
      have h2 := ha 1 _ b rfl rfl
      cases h1; cases h2; rfl
  · rintro e w' ⟨rfl, rfl⟩
    refine ⟨_, rfl, Below.refl _ _, fun N => ?_⟩
    simp
    exact .int _ _
end
end Go.Proofs.YtpfhfokfambdaaaGreatDoor
