/- A part of the proof of a law of this seat: Pub; no conditions. -/
import Derived.Test.YtpfhfokfambdaaaGreatDoorDcc
/-! A contract over fresh memory that is handed out at once: a contract over data. -/
namespace Go.Proofs.YtpfhfokfambdaaaGreatDoor.Ev
open Go.RowKit (Below)
theorem SatS.pub {G : World → Prop} {P : Program} {f : FuncId} {ds : List D} {l : L} {us : List (Nat × Blk)} {r : D} (H : SatS G P f (ds.map fun d => .at (.d d)) [] l us) (hp : l.pub (look us) = some r) : Sat G P f ds r := by
  refine ⟨H.1, fun N w vs hl hv hN hg => ?_⟩
  let N0 : Base := ⟨N, fun _ _ => False, [], fun _ => False, w, fun _ _ _ h => h.elim⟩
  have hE : Env N0 w.heap.size w (look []) (fun _ => undef) N :=
    ⟨hN, fun b h => .inl h, fun k bl b h => (by cases h), fun k k' bl bl' b h => (by cases h), fun k bl h => (by cases h), fun k bl j h => (by cases h), fun l v h => h.elim, fun k h => (by cases h), fun b h => h.elim⟩
  refine (H.2 N0 w w (fun _ => undef) N vs (by rw [hl, List.length_map]) (fun i x v hx hvi => ?_) rfl hE (Below.refl _ _) hg).mono ?_
  · rw [List.getElem?_map, Option.map_eq_some_iff] at hx
    obtain ⟨d, hd, rfl⟩ := hx
    exact ⟨hv i d v hd hvi, fun k hk => hk.elim⟩
  · rintro e w' ⟨v, E', N', rfl, hb, hE', hr, _⟩
    refine ⟨v, rfl, hb, Rv.wide (fun b hb => ?_) (L.pub_rv hE' hp hr).1⟩
    rcases hb with hb | ⟨k, bl, _, h1, h2, h3⟩
    · exact hE'.nsub b hb
    · exact .inr (hE'.live k bl b h1 h2 h3).2.1
end Go.Proofs.YtpfhfokfambdaaaGreatDoor.Ev
