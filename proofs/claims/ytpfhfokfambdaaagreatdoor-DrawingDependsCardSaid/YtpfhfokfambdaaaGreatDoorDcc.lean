/- A part of the proof of a law of this seat: EvZ, InsA, InsB, Del, Clo, Turn, Shelf; no conditions. -/
import Derived.Test.YtpfhfokfambdaaaGreatDoorDcb
import Derived.Shelf.RegionOpenPlain
import Derived.WalkKit
import Derived.Lib.Walk
import Derived.Lib.SliceRun
import Derived.Lib.JoinLaws
import Derived.Lib.AppendZeros
import Derived.Lib.Overlaps
import Derived.Laws.Externs
import Derived.Laws.IdiomCopy
import Derived.Lib.AppendZerosOnto
import Derived.Laws.NewBlocks
import Derived.Test.YtpfhfokfambdaaaGreatDoorProg
import Derived.Deep.Upon
import Derived.Deep.RegionLaw
import Derived.Deep.LoopGhost
import Derived.Shelf.Strings.Builder1
import Derived.Shelf.Strings.Builder2
import Derived.Shelf.Strings.OnBuilder
import Derived.Shelf.Strings.Trim
import Derived.Shelf.Small.Utf8
import Derived.Shelf.Small.Bits
import Derived.Shelf.Small.Strs
import Derived.Shelf.Small.Wraps
import Derived.Shelf.Strings.BuilderF
import Derived.Shelf.Strings.BuilderK
import Derived.Shelf.Utf8.RuneCount
import Derived.Shelf.Strings.Builder2Cap
import Derived.Shelf.Strconv.Atoi
import Derived.Shelf.Strconv.Itoa0
import Derived.Shelf.Strconv.Itoa1
import Derived.Shelf.LaysM
import Derived.Shelf.Strconv.Itoa2
import Derived.Shelf.Strconv.Itoa3
import Derived.Shelf.Strconv.AtoiErrFast
import Derived.Shelf.Strconv.ParseIntEmpty
import Derived.Shelf.Strconv.AtoiFail
import Derived.Shelf.Strconv.Clone
import Derived.Shelf.Strconv.SyntaxError
import Derived.Shelf.LaysC
import Derived.Shelf.Strconv.ToError
import Derived.Shelf.Strconv.AtoiErr
import Derived.Shelf.Strconv.ErrVar
import Derived.Shelf.Strconv.Lower
import Derived.Shelf.Strconv.ParseUint10
import Derived.Shelf.Strconv.ParseUint10Empty
import Derived.Shelf.Strconv.ParseUint10Any
import Derived.Shelf.Strconv.ParseInt10
import Derived.Shelf.Strconv.AtoiLong
import Derived.Shelf.Strconv.AtoiInnerAll
import Derived.Shelf.Strconv.RangeError
import Derived.Shelf.Strconv.ToErrorRange
import Derived.Shelf.Strconv.AtoiAll
import Derived.Shelf.Strconv.ErrVarAll
import Derived.Shelf.Strconv.ParseUintEmpty
import Derived.Shelf.Strconv.ParseUint10b64
import Derived.Shelf.Strings.Search1
import Derived.Shelf.Strings.Search2
import Derived.Shelf.Strings.Search3
import Derived.Shelf.Strings.Count
import Derived.Shelf.Strings.Shaped
import Derived.Shelf.Sort.Plain
import Derived.Shelf.Strings.Prefix
import Derived.Shelf.Strings.Split
import Derived.Shelf.Strings.Replace
import Derived.Shelf.Strings.SplitShaped
import Derived.Shelf.Strings.Runes
import Derived.Shelf.Strings.AsciiSet
import Derived.Shelf.Unicode.DecodeSlow
import Derived.Shelf.Slices.Equal
import Derived.Ground.Names2Prog
import Derived.Shelf.Slices.ReverseS
import Derived.Shelf.Slices.CompactS
import Derived.Shelf.Slices.Cells
import Derived.Shelf.Slices.In.SortNone
import Derived.Ground.SlgnProg
import Derived.Shelf.SlicesE.Equal
import Derived.Shelf.SlicesE.Compact
import Derived.Ground.SlgfProg
import Derived.Shelf.SlicesE.IndexFunc
import Derived.Shelf.SlicesE.DeleteFunc
/-! A run of code and of functions. -/
namespace Go.Proofs.YtpfhfokfambdaaaGreatDoor.Ev
open Go.RowKit (Below)

def wr (st : St) (light : Bool) (dst : Option Nat) (l : L) (us : List (Nat × Blk)) (K : St → Option (LE × St)) : Option (LE × St) :=
  (match light with | true => sL | false => fL) l fun l => fUs us fun us => match st with
    | ⟨t, m⟩ => fApp us m fun m => match dst with
      | some d => K ⟨(d, l) :: t, m⟩
      | none => K ⟨t, m⟩
theorem wr_eq (st : St) (light : Bool) (dst : Option Nat) (l : L) (us : List (Nat × Blk)) (K : St → Option (LE × St)) : wr st light dst l us K = K (st.write dst l us) := by
  obtain ⟨t, m⟩ := st
  cases light <;> cases dst <;> simp [wr, sL_eq, fL_eq, fUs_eq, fApp_eq, St.write]

def runOps (o : Orc) : List LOp → St → (St → Option (LE × St)) → Option (LE × St)
  | [], st, K => K st
  | op :: r, st, K => match op.g with
    | none => match runK o op.k st with
      | some (l, us) => wr st op.k.light op.dst l us fun st => runOps o r st K
      | none => none
    | some (t, b) => match st.get t with
      | .at (.d (.bool q)) => match q == b with
        | true => match runK o op.k st with
          | some (l, us) => wr st op.k.light op.dst l us fun st => runOps o r st K
          | none => none
        | false => wr st true op.dst .no [] fun st => runOps o r st K
      | .at (.d (.tup [])) => wr st true op.dst .no [] fun st => runOps o r st K
      | _ => none
def runDraw (o : Orc) (anc : List Nat) : Nat → List (Nat × List Nat × List Nat) → List LOp → St → (St → Option (LE × St)) → Option (LE × St)
  | _, _, [], st, K => K st
  | i, log, op :: r, st, K => match op.g with
    | none => match runK o op.k st with
      | some (l, us) => fUs us fun us => fLi fNat (rsOf op.k st.ev st.blk) fun rs => fLi fNat (us.map (·.1)) fun ks => match okLog (anc.getD i 0) rs ks log with
        | true => wr st op.k.light op.dst l us fun st => runDraw o anc (i + 1) ((i, rs, ks) :: log) r st K
        | false => none
      | none => none
    | some (t, b) => match st.get t with
      | .at (.d (.bool q)) => match q == b with
        | true => match runK o op.k st with
          | some (l, us) => fUs us fun us => fLi fNat (rsOf op.k st.ev st.blk) fun rs => fLi fNat (us.map (·.1)) fun ks => match okLog (anc.getD i 0) rs ks log with
            | true => wr st op.k.light op.dst l us fun st => runDraw o anc (i + 1) ((i, rs, ks) :: log) r st K
            | false => none
          | none => none
        | false => wr st true op.dst .no [] fun st => runDraw o anc (i + 1) ((i, [], []) :: log) r st K
      | .at (.d (.tup [])) => wr st true op.dst .no [] fun st => runDraw o anc (i + 1) ((i, [], []) :: log) r st K
      | _ => none
def iter (f : St → Option (LE × St)) : Nat → St → Option (LE × St)
  | 0, _ => none
  | n + 1, st => match f st with
    | some (.norm, st') => iter f n st'
    | r => r
def fSt (st : St) (K : St → Option (LE × St)) : Option (LE × St) := match st with
  | ⟨t, m⟩ => fLi (fun p K => match p with | (i, l) => K (i, l)) t fun t => fLi (fun p K => match p with | (i, l) => K (i, l)) m fun m => K ⟨t, m⟩
theorem fSt_eq (st : St) (K : St → Option (LE × St)) : fSt st K = K st := by
  obtain ⟨t, m⟩ := st
  simp only [fSt]
  rw [fLi_eq (fun p K => by cases p; rfl), fLi_eq (fun p K => by cases p; rfl)]

/-- Slots let go, and the temporaries that name them. -/
def dropS (ks : List Nat) (st : St) : St := ⟨st.t.map fun p => (p.1, if p.2.slots.any (fun k => ks.contains k) then .at .any else p.2), st.m.filter fun p => !ks.contains p.1⟩
theorem look_map {α : Type} (f : α → α) : ∀ (l : List (Nat × α)) (k : Nat), look (l.map fun p => (p.1, f p.2)) k = (look l k).map f
  | [], k => rfl
  | (i, x) :: r, k => by
    simp only [List.map_cons, look]
    split
    · rfl
    · exact look_map f r k
theorem look_filter {α : Type} (q : Nat → Bool) : ∀ (l : List (Nat × α)) (k : Nat), look (l.filter fun p => q p.1) k = if q k then look l k else none
  | [], k => by simp [look]
  | (i, x) :: r, k => by
    have ih := look_filter q r k
    simp only [List.filter_cons]
    by_cases e : i = k
    · subst e
      by_cases hq : q i = true
      · simp [hq, look]
      · rw [if_neg hq, ih, if_neg hq, if_neg hq]
    · by_cases hq : q i = true
      · rw [if_pos hq]
        simp only [look, if_neg e]
        exact ih
      · rw [if_neg hq, ih]
        simp only [look, if_neg e]
theorem leq_drop {st : St} {ks : List Nat} (h : (dropS ks st).closed = true) : Leq ks (dropS ks st) st := by
  simp only [St.closed, Bool.and_eq_true, List.all_eq_true] at h
  obtain ⟨c1, c2⟩ := h
  refine ⟨fun i => ?_, fun k => ?_, fun i k hk => ?_, fun k bl j h1 h2 => ?_⟩
  · simp only [St.get, dropS]
    rw [look_map (fun l : L => if l.slots.any (fun k => ks.contains k) then .at .any else l)]
    cases look st.t i with
    | none => exact .inr rfl
    | some l =>
      simp only [Option.map_some, Option.getD_some]
      split
      · exact .inl rfl
      · exact .inr rfl
  · simp only [St.blk, dropS]
    rw [look_filter (fun k => !ks.contains k)]
    by_cases hk : k ∈ ks
    · exact .inl ⟨hk, by simp [hk]⟩
    · exact .inr (by simp [hk])
  · have hk' := L.men_slots hk
    cases hl : look (dropS ks st).t i with
    | none =>
      have : (dropS ks st).get i = .at .any := by simp [St.get, hl]
      rw [this] at hk
      exact hk.elim
    | some l =>
      have he : (dropS ks st).get i = l := by simp [St.get, hl]
      rw [he] at hk'
      exact Option.isSome_iff_ne_none.1 (c1 (i, l) (look_mem hl) k hk')
  · exact Option.isSome_iff_ne_none.1 (c2 (k, bl) (look_mem h1) j (Blk.men_slots h2))
/-- As it is, or with these slots let go. -/
def weakS (ks : List Nat) (st : St) (K : St → Option (LE × St)) : Option (LE × St) := match ks with
  | [] => match st.closed with
    | true => K st
    | false => none
  | ks => fSt (dropS ks st) fun st => match st.closed with
    | true => K st
    | false => none

def run (o : Orc) : LC → St → Option (LE × St)
  | .skip, st => some (.norm, st)
  | .dead, _ => none
  | .region los, st => runOps o los st fun st => some (.norm, st)
  | .draw anc los, st => runDraw o anc 0 [] los st fun st => some (.norm, st)
  | .seq x y, st => match run o x st with
    | some (.norm, st') => run o y st'
    | r => r
  | .cond c x y, st => match st.ev c with
    | .at (.d (.bool q)) => match q with
      | true => run o x st
      | false => run o y st
    | _ => none
  | .block id x, st => match run o x st with
    | some (.exit i, st') => match i == id with
      | true => some (.norm, st')
      | false => some (.exit i, st')
    | r => r
  | .loop x, st => iter (fun st => run o x st) 100000 st
  | .exit id, st => some (.exit id, st)
  | .ret, st => some (.ret, st)
  | .keep ts ks x, st => fSt (st.keep ts ks) fun st => match st.closed with
    | true => run o x st
    | false => none
  | .own t k e s x, st => match st.get t with
    | .at .nils => match st.blk k with
      | none => run o x ⟨(t, .at (.row k 0)) :: st.t, (k, .row e s []) :: st.m⟩
      | some _ => none
    | _ => run o x st
  | .lift t x, st => match (st.get t).pub st.blk with
    | some d => fD d fun d => fSt ⟨(t, .at (.d d)) :: st.t, frz st.blk (st.get t).slots ++ st.m⟩ fun st => run o x st
    | none => none
  | .liftB k x, st => match st.blk k with
    | some bl => match bl.slots.contains k with
      | true => none
      | false => match liftBlk st.blk bl with
        | some bl' => fBlk bl' fun bl' => fSt ⟨st.t, (k, bl') :: (frz st.blk bl.slots ++ st.m)⟩ fun st => run o x st
        | none => none
    | none => none
  | .weak ks x, st => weakS ks st fun st => run o x st
  | .tailW ks x, st => match run o x st with
    | some (.norm, st') => weakS ks st' fun st => some (.norm, st)
    | r => r
  | .ownC k i j e s x, st => match st.blk k with
    | some (.var cs) => match cs[i]? with
      | some .nils => match st.blk j with
        | none => fLi sA (cs.set i (.row j 0)) fun cs => run o x ⟨st.t, (k, .var cs) :: (j, .row e s []) :: st.m⟩
        | some _ => none
      | _ => run o x st
    | _ => run o x st
  | .tail ts ks x, st => match run o x st with
    | some (.norm, st') => fSt (st'.keep ts ks) fun st' => match st'.closed with
      | true => some (.norm, st')
      | false => none
    | r => r

section
variable {G : World → Prop} {P : Program} {o : Orc}
theorem runOps_sound (hG : ∀ w w', G w → Below w.heap.size w w' → G w') (ho : o.Ok G P) : ∀ {los : List LOp} {st : St} {K : St → Option (LE × St)} {r : LE × St} {Q : St → Prop}, runOps o los st K = some r → (∀ st', K st' = some r → Q st') → dops G P los st Q
  | [], st, K, r, Q, h, hq => hq st h
  | op :: los, st, K, r, Q, h, hq => by
    simp only [runOps] at h
    simp only [dops, dop]
    split at h
    · rename_i hg
      rw [hg]
      split at h
      · rename_i l us hk
        rw [wr_eq] at h
        exact runK_sound hG ho hk (runOps_sound hG ho h hq)
      · cases h
    · rename_i t b hg
      rw [hg]
      simp only
      split at h
      · rename_i q ht
        rw [ht]
        simp only
        split at h
        · rename_i hqb
          rw [if_pos (by simpa using hqb)]
          split at h
          · rename_i l us hk
            rw [wr_eq] at h
            exact runK_sound hG ho hk (runOps_sound hG ho h hq)
          · cases h
        · rename_i hqb
          rw [if_neg (by simpa using hqb)]
          rw [wr_eq] at h
          exact runOps_sound hG ho h hq
      · rename_i ht
        rw [ht]
        rw [wr_eq] at h
        exact runOps_sound hG ho h hq
      · cases h
theorem runDraw_sound (hG : ∀ w w', G w → Below w.heap.size w w' → G w') (ho : o.Ok G P) {anc : List Nat} : ∀ {los : List LOp} {i : Nat} {log : List (Nat × List Nat × List Nat)} {st : St} {K : St → Option (LE × St)} {r : LE × St} {Q : St → Prop}, runDraw o anc i log los st K = some r → (∀ st', K st' = some r → Q st') → ddraw G P anc i log los st Q
  | [], i, log, st, K, r, Q, h, hq => hq st h
  | op :: los, i, log, st, K, r, Q, h, hq => by
    simp only [runDraw, fUs_eq, fLi_eq fNat_eq] at h
    unfold ddraw
    split at h
    · rename_i hg
      rw [hg]
      split at h
      · rename_i l us hk
        split at h
        · rename_i hl
          rw [wr_eq] at h
          exact runK_sound hG ho hk ⟨hl, runDraw_sound hG ho h hq⟩
        · cases h
      · cases h
    · rename_i t b hg
      rw [hg]
      simp only
      split at h
      · rename_i q ht
        rw [ht]
        simp only
        split at h
        · rename_i hqb
          rw [if_pos (by simpa using hqb)]
          split at h
          · rename_i l us hk
            split at h
            · rename_i hl
              rw [wr_eq] at h
              exact runK_sound hG ho hk ⟨hl, runDraw_sound hG ho h hq⟩
            · cases h
          · cases h
        · rename_i hqb
          rw [if_neg (by simpa using hqb)]
          rw [wr_eq] at h
          exact runDraw_sound hG ho h hq
      · rename_i ht
        rw [ht]
        rw [wr_eq] at h
        exact runDraw_sound hG ho h hq
      · cases h

theorem leq_refl {st : St} {ks : List Nat} (h : st.closed = true) : Leq ks st st := by
  simp only [St.closed, Bool.and_eq_true, List.all_eq_true] at h
  obtain ⟨c1, c2⟩ := h
  refine ⟨fun _ => .inr rfl, fun _ => .inr rfl, fun i k hk => ?_, fun k bl j h1 h2 => ?_⟩
  · have hk' := L.men_slots hk
    cases hl : look st.t i with
    | none =>
      have : st.get i = .at .any := by simp [St.get, hl]
      rw [this] at hk
      exact hk.elim
    | some l =>
      have he : st.get i = l := by simp [St.get, hl]
      rw [he] at hk'
      exact Option.isSome_iff_ne_none.1 (c1 (i, l) (look_mem hl) k hk')
  · exact Option.isSome_iff_ne_none.1 (c2 (k, bl) (look_mem h1) j (Blk.men_slots h2))

theorem weakS_some {ks : List Nat} {st : St} {K : St → Option (LE × St)} {r : LE × St} (h : weakS ks st K = some r) : ∃ st', Leq ks st' st ∧ K st' = some r := by
  unfold weakS at h
  split at h
  · split at h
    · rename_i hc
      exact ⟨st, leq_refl hc, h⟩
    · cases h
  · rw [fSt_eq] at h
    split at h
    · rename_i hc
      exact ⟨_, leq_drop hc, h⟩
    · cases h

theorem run_sound (hG : ∀ w w', G w → Below w.heap.size w w' → G w') (ho : o.Ok G P) : ∀ (lc : LC) {st : St} {e : LE} {st' : St} {Q : LE → St → Prop}, run o lc st = some (e, st') → Q e st' → dwp G P lc st Q
  | .skip, st, e, st', Q, h, hq => by
    simp only [run] at h
    cases h
    exact hq
  | .dead, st, e, st', Q, h, hq => by
    simp only [run] at h
    cases h
  | .region los, st, e, st', Q, h, hq => by
    simp only [run] at h
    exact runOps_sound hG ho h fun st'' h' => by cases h'; exact hq
  | .draw anc los, st, e, st', Q, h, hq => by
    simp only [run] at h
    exact runDraw_sound hG ho h fun st'' h' => by cases h'; exact hq
  | .seq x y, st, e, st', Q, h, hq => by
    simp only [run] at h
    simp only [dwp]
    split at h
    · rename_i s1 h1
      exact run_sound hG ho x h1 (run_sound hG ho y h hq)
    · rename_i hne
      refine run_sound hG ho x h ?_
      cases e with
      | norm => exact absurd h (hne _)
      | exit i => exact hq
      | ret => exact hq
  | .cond c x y, st, e, st', Q, h, hq => by
    simp only [run] at h
    simp only [dwp]
    split at h
    · rename_i q hc
      rw [hc]
      cases q
      · exact run_sound hG ho y h hq
      · exact run_sound hG ho x h hq
    · cases h
  | .block id x, st, e, st', Q, h, hq => by
    simp only [run] at h
    simp only [dwp]
    split at h
    · rename_i i s1 h1
      refine run_sound hG ho x h1 ?_
      simp only
      split at h
      · rename_i hi
        rw [if_pos (by simpa using hi)]
        cases h
        exact hq
      · rename_i hi
        rw [if_neg (by simpa using hi)]
        cases h
        exact hq
    · rename_i hne
      refine run_sound hG ho x h ?_
      cases e with
      | norm => exact hq
      | exit i => exact absurd h (hne _ _)
      | ret => exact hq
  | .loop x, st, e, st', Q, h, hq => by
    simp only [run] at h
    let I : St → Prop := fun s => ∃ n, iter (fun st => run o x st) n s = some (e, st')
    have hI : ∀ s, I s → ∃ n, iter (fun st => run o x st) n s = some (e, st') ∧ ∀ n', iter (fun st => run o x st) n' s = some (e, st') → n ≤ n' := by
      rintro s ⟨n, hn⟩
      induction n using Nat.strongRecOn with
      | _ n ih =>
        by_cases hlt : ∃ m, m < n ∧ iter (fun st => run o x st) m s = some (e, st')
        · obtain ⟨m, h1, h2⟩ := hlt
          exact ih m h1 h2
        · refine ⟨n, hn, fun m' hm' => ?_⟩
          rcases Nat.lt_or_ge m' n with h | h
          · exact absurd ⟨m', h, hm'⟩ hlt
          · exact h
    classical
    let μ : St → Nat := fun s => if h : ∃ n, iter (fun st => run o x st) n s = some (e, st') ∧ ∀ n', iter (fun st => run o x st) n' s = some (e, st') → n ≤ n' then Classical.choose h else 0
    have hμ : ∀ s, I s → iter (fun st => run o x st) (μ s) s = some (e, st') ∧ ∀ n', iter (fun st => run o x st) n' s = some (e, st') → μ s ≤ n' := by
      intro s hs
      have h := hI s hs
      have e0 : μ s = Classical.choose h := dif_pos h
      rw [e0]
      exact Classical.choose_spec h
    refine ⟨I, μ, ⟨_, h⟩, fun s hs => ?_⟩
    obtain ⟨h1, _⟩ := hμ s hs
    cases hn : μ s with
    | zero => rw [hn] at h1; cases h1
    | succ n =>
      rw [hn] at h1
      simp only [iter] at h1
      split at h1
      · rename_i s1 h2
        refine run_sound hG ho x h2 ?_
        have h3 := (hμ s1 ⟨n, h1⟩).2 n h1
        exact ⟨⟨n, h1⟩, by omega⟩
      · rename_i hne
        refine run_sound hG ho x h1 ?_
        cases e with
        | norm => exact absurd h1 (hne _)
        | exit i => exact hq
        | ret => exact hq
  | .exit id, st, e, st', Q, h, hq => by
    simp only [run] at h
    cases h
    exact hq
  | .ret, st, e, st', Q, h, hq => by
    simp only [run] at h
    cases h
    exact hq
  | .keep ts ks x, st, e, st', Q, h, hq => by
    simp only [run, fSt_eq] at h
    split at h
    · rename_i hc
      exact ⟨hc, run_sound hG ho x h hq⟩
    · cases h
  | .own t k el s x, st, e, st', Q, h, hq => by
    simp only [run] at h
    simp only [dwp]
    split at h
    · rename_i ht
      rw [ht]
      split at h
      · rename_i hk
        exact ⟨hk, run_sound hG ho x h hq⟩
      · cases h
    · rename_i hne
      split
      · rename_i ht; exact absurd ht hne
      · exact run_sound hG ho x h hq
  | .lift t x, st, e, st', Q, h, hq => by
    simp only [run] at h
    simp only [dwp]
    split at h
    · rename_i d hd
      rw [fD_eq, fSt_eq] at h
      rw [hd]
      exact run_sound hG ho x h hq
    · cases h
  | .liftB k x, st, e, st', Q, h, hq => by
    simp only [run] at h
    simp only [dwp]
    split at h
    · rename_i bl hb
      rw [hb]
      simp only
      split at h
      · cases h
      · rename_i hc
        split at h
        · rename_i bl' hl
          rw [fBlk_eq, fSt_eq] at h
          rw [hl]
          exact ⟨by simpa using hc, run_sound hG ho x h hq⟩
        · cases h
    · cases h
  | .weak ks x, st, e, st', Q, h, hq => by
    simp only [run] at h
    obtain ⟨s1, h1, h2⟩ := weakS_some h
    exact ⟨s1, h1, run_sound hG ho x h2 hq⟩
  | .tailW ks x, st, e, st', Q, h, hq => by
    simp only [run] at h
    simp only [dwp]
    split at h
    · rename_i s1 h1
      refine run_sound hG ho x h1 ?_
      obtain ⟨s2, h2, h3⟩ := weakS_some h
      cases h3
      exact ⟨_, h2, hq⟩
    · rename_i hne
      refine run_sound hG ho x h ?_
      cases e with
      | norm => exact absurd h (hne _)
      | exit i => exact hq
      | ret => exact hq
  | .ownC k i j el s x, st, e, st', Q, h, hq => by
    simp only [run] at h
    simp only [dwp]
    split at h
    · rename_i cs hk
      rw [hk]
      simp only
      split at h
      · rename_i hi
        rw [hi]
        split at h
        · rename_i hj
          rw [fLi_eq sA_eq] at h
          exact ⟨hj, run_sound hG ho x h hq⟩
        · cases h
      · rename_i hne
        split
        · rename_i hi; exact absurd hi hne
        · exact run_sound hG ho x h hq
    · rename_i hne
      split
      · rename_i cs hk
        exact absurd hk (hne cs)
      · exact run_sound hG ho x h hq
  | .tail ts ks x, st, e, st', Q, h, hq => by
    simp only [run] at h
    simp only [dwp]
    split at h
    · rename_i s1 h1
      rw [fSt_eq] at h
      refine run_sound hG ho x h1 ?_
      split at h
      · rename_i hc
        cases h
        exact ⟨hc, hq⟩
      · cases h
    · rename_i hne
      refine run_sound hG ho x h ?_
      cases e with
      | norm => exact absurd h (hne _)
      | exit i => exact hq
      | ret => exact hq

/-! ### Functions -/
structure FD where
  np : Nat
  rs : List (Nat × Option (Option Nat))
  lc : LC
def FD.Ok (P : Program) (f : FuncId) (d : FD) : Prop := ∃ fn, P.funcs[f]? = some fn ∧ chkF P fn d.np d.rs d.lc = true
def runF (o : Orc) (d : FD) (args : List D) : Option D := gd (args.length == d.np) <| match run o d.lc ⟨initT args 0, []⟩ with
  | some (.exit _, _) => none
  | some (_, st) => match outD d.rs st with
    | some r => fD r fun r => some r
    | none => none
  | none => none
def runS (o : Orc) (d : FD) (args : List L) (m0 : List (Nat × Blk)) : Option (L × List (Nat × Blk)) := gd (args.length == d.np && d.lc.holds (m0.map (·.1))) <| match run o d.lc ⟨initL args 0, m0⟩ with
  | some (.exit _, _) => none
  | some (_, st) => match outS d.rs st with
    | some l => fL l fun l => fUs (picks st.m (reach st.blk 10000 (m0.map (·.1) ++ l.slots) [])) fun us => gd (closedS m0 l us) (some (l, us))
    | none => none
  | none => none
theorem mem_picks {α : Type} {m : List (Nat × α)} : ∀ {ks : List Nat} {p : Nat × α}, p ∈ picks m ks → look m p.1 = some p.2
  | [], p, h => by simp [picks] at h
  | k :: r, p, h => by
    simp only [picks] at h
    split at h
    · rename_i x hx
      rcases List.mem_cons.1 h with rfl | h
      · exact hx
      · exact mem_picks h
    · exact mem_picks h
theorem runF_sound (hG : ∀ w w', G w → Below w.heap.size w w' → G w') (ho : o.Ok G P) {f : FuncId} {d : FD} (hd : d.Ok P f) {args : List D} {r : D} (h : runF o d args = some r) : Sat G P f args r := by
  obtain ⟨fn, h1, h2⟩ := hd
  simp only [runF] at h
  rw [gd_iff] at h
  obtain ⟨h3, h⟩ := h
  split at h
  · cases h
  · rename_i e st hne hr
    split at h
    · rename_i r' hr'
      rw [fD_eq] at h
      cases h
      refine sat_of hG h1 h2 (run_sound hG ho _ hr ?_) (by simpa using h3)
      cases e with
      | exit i => exact (hne _ rfl).elim
      | norm => exact hr'
      | ret => exact hr'
    · cases h
  · cases h
theorem runS_sound (hG : ∀ w w', G w → Below w.heap.size w w' → G w') (ho : o.Ok G P) {f : FuncId} {d : FD} (hd : d.Ok P f) {args : List L} {m0 us : List (Nat × Blk)} {l : L} (h : runS o d args m0 = some (l, us)) : SatS G P f args m0 l us := by
  obtain ⟨fn, h1, h2⟩ := hd
  simp only [runS] at h
  rw [gd_iff] at h
  obtain ⟨h3, h⟩ := h
  simp only [Bool.and_eq_true] at h3
  split at h
  · cases h
  · rename_i e st hne hr
    split at h
    · rename_i l' hl'
      rw [fL_eq, fUs_eq, gd_iff] at h
      obtain ⟨h4, h⟩ := h
      cases h
      refine satS_of hG h1 h2 h3.2 h4 (run_sound hG ho _ hr ?_) (by simpa using h3.1)
      have hus : ∀ p ∈ picks st.m (reach st.blk 10000 (m0.map (·.1) ++ l.slots) []), st.blk p.1 = some p.2 := fun p hp => mem_picks hp
      cases e with
      | exit i => exact (hne _ rfl).elim
      | norm => exact ⟨hl', hus⟩
      | ret => exact ⟨hl', hus⟩
    · cases h
  · cases h

/-- The functions of a table, over a stock of contracts. -/
def orc (tab : List (FuncId × FD)) (b : Orc) : Nat → Orc
  | 0 => b
  | n + 1 => {
    call := fun f ds => match b.call f ds with
      | some r => some r
      | none => match look tab f with
        | some d => runF (orc tab b n) d ds
        | none => none
    calls := fun f args m0 => match b.calls f args m0 with
      | some r => some r
      | none => match look tab f with
        | some d => runS (orc tab b n) d args m0
        | none => none
    clone := b.clone
    ins := b.ins
    lends := b.lends }
theorem orc_ok (hG : ∀ w w', G w → Below w.heap.size w w' → G w') {tab : List (FuncId × FD)} {b : Orc} (ht : ∀ p ∈ tab, p.2.Ok P p.1) (hb : b.Ok G P) : ∀ n, (orc tab b n).Ok G P
  | 0 => hb
  | n + 1 => by
    have ih := orc_ok hG ht hb n
    refine ⟨fun f ds r h => ?_, fun f args m0 l us h => ?_, hb.clone, hb.ins⟩
    · simp only [orc] at h
      split at h
      · rename_i r' hr
        cases h
        exact hb.call _ _ _ hr
      · split at h
        · rename_i d hd
          exact runF_sound hG ih (ht _ (look_mem hd)) h
        · cases h
    · simp only [orc] at h
      split at h
      · rename_i r' hr
        cases h
        exact hb.calls _ _ _ _ _ hr
      · split at h
        · rename_i d hd
          exact runS_sound hG ih (ht _ (look_mem hd)) h
        · cases h
end
end Go.Proofs.YtpfhfokfambdaaaGreatDoor.Ev

/-! slices.Insert at slices of structs. -/
set_option linter.unusedVariables false
set_option linter.unusedSimpArgs false
namespace Go.Proofs.YtpfhfokfambdaaaGreatDoor
open Go.Shelf Go.RowKit Go.Lib Ev
section
variable {P : Program}
theorem run_copy_cells_k (w : World) (dT sT ty elem : TypeId) (s : Nat) (b o dLen dCap : Nat) (a : Addr) (sLen sCap k : Nat) (cs : List Value)
    (hu : P.underlying dT = some (.slice elem)) (hs : (P.info? elem).map (·.size) = some s) (hk : k = Nat.min sLen dLen) (hn : cs.length = k * s)
    (hsrc : ∀ j v, cs[j]? = some v → w.cell? (a.add j) = some v) (hc : ∀ j, j < cs.length → (w.cell? ⟨b, o + j, none⟩).isSome = true) (hf : ∀ j, j < cs.length → w.frozen? ⟨b, o + j, none⟩ = false) (h1 : ∀ v ∈ cs, v.oneCell' = true) :
    (Builtin.copy_ #[dT, sT] ty #[.slice (some ⟨b, o, none⟩) dLen dCap, .slice (some a) sLen sCap]).run P w = .ok (goInt k) (w.setCells b o cs) := by
  have hl := run_loadCells_list (P := P) w a cs hsrc
  have hst := run_storeCells_cells (P := P) b o cs 0 w (by simpa using hc) (by simpa using hf) h1
  cases hq : P.info? elem with
  | none => simp [hq] at hs
  | some i =>
    have hi : i.size = s := by simpa [hq] using hs
    subst hk
    rw [hn] at hl
    simp [Builtin.copy_, run_underlying hu, Builtin.lenOf, Builtin.firstCells, sizeOf, typeInfo, hq, hi, hl, hst]
theorem wpList_copy_runk (w : World) {ops : Array Oper} {rest : List Oper} {o : Oper} {a : Act} {Q : Exit → Act → World → Prop} (hgd : o.guard = none) (d s : Operand) (t t' : TypeId)
    (ho : o.op = .call { callee := .builtin .copy, args := #[d, s], argTypes := #[t, t'] }) (v u : Value) (hd : a.eval d = v) (hs : a.eval s = u) {v' : Value} {w' : World}
    (hr : (Builtin.copy_ #[t, t'] o.type #[v, u]).run P w = .ok v' w') (h : wpList P ops Q rest (a.put o.dst v') w') : wpList P ops Q (o :: rest) a w :=
  wpList_plain hgd fun _ hK => by
    unfold Oper.wp execOp
    simp only [ho, resolve, invoke, builtin, Sem.run_bind, Sem.run_pure, Result.andThen_ok, List.map_toArray, List.map_cons, List.map_nil, hd, hs, hr]
    exact hK _ _ h
theorem step_copy_runk {ops : Array Oper} {o : Oper} {a : Act} {w : World} {K : Act → World → Prop} {Q : Exit → Act → World → Prop} {E : Prop}
    (hg : o.guard = none) (d x : Operand) (dT sT : TypeId) (hop : o.op = Op.call { callee := Callee.builtin Builtin.copy, args := #[d, x], argTypes := #[dT, sT] })
    (v u : Value) (hd : a.eval d = v) (hx : a.eval x = u) {v' : Value} {w' : World} (hr : (Builtin.copy_ #[dT, sT] o.type #[v, u]).run P w = .ok v' w') (hK : K (a.put o.dst v') w') :
    if Region.wanted o (yielded ops a.tmps) = true then Oper.wp P o a w K Q else E := by
  have hw : Region.wanted o (yielded ops a.tmps) = true := by simp [Region.wanted, hg]
  rw [if_pos hw]
  unfold Oper.wp
  simp [execOp, hop, resolve, invoke, builtin, hd, hx, hr, Result.andThen]
  exact hK
theorem isSome_setCellsk (b : Nat) (vs : List Value) (o : Nat) (w : World) (h : ∀ j, j < vs.length → (w.cell? ⟨b, o + j, none⟩).isSome = true) (k : Nat) (hk : (w.cell? ⟨b, k, none⟩).isSome = true) : ((w.setCells b o vs).cell? ⟨b, k, none⟩).isSome = true := by
  by_cases hin : o ≤ k ∧ k < o + vs.length
  · have := World.cell?_setCells_in b vs o w h (k - o) (by omega)
    rw [show o + (k - o) = k by omega] at this
    rw [this]; rfl
  · rw [World.cell?_setCells_out b vs o w ⟨b, k, none⟩ (fun _ _ => by show k < o ∨ o + vs.length ≤ k; omega)]
    exact hk
end
set_option maxHeartbeats 4000000 in
set_option maxRecDepth 100000 in
/-- Room, and not at the end. -/
theorem ins_shift_feat (b off n c i vb voff m vc : Nat) (cs vs : List Value) (w : World) (hi : i < n) (hm : 0 < m) (hroom : n + m ≤ c) (hc63 : c ≤ 9223372036854775807) (hvb : vb ≠ b)
    (hcl : cs.length = n * 9) (hvl : vs.length = m * 9)
    (hcs : ∀ j v, cs[j]? = some v → w.cell? ⟨b, off + j, none⟩ = some v) (hsp : ∀ j, j < (n + m) * 9 → (w.cell? ⟨b, off + j, none⟩).isSome = true) (hfz : ∀ j, j < (n + m) * 9 → w.frozen? ⟨b, off + j, none⟩ = false)
    (hvs : ∀ j v, vs[j]? = some v → w.cell? ⟨vb, voff + j, none⟩ = some v) (h1c : ∀ v ∈ cs, v.oneCell' = true) (h1v : ∀ v ∈ vs, v.oneCell' = true)
    (tA tB : TypeId) (kA kB : Nat) (hsa : w.shape? vb = some (tA, kA)) (hsb : w.shape? b = some (tB, kB)) (hkB : kB ≠ 0) (hfa : w.frozen? ⟨vb, voff, none⟩ = false) (hfe : w.frozen? ⟨vb, kA, none⟩ = false) :
    Calls Tryz.prog 134 #[.slice (some ⟨b, off, none⟩) n c, .int .i64 i, .slice (some ⟨vb, voff, none⟩) m vc] w fun e w' =>
      e = .returned (.slice (some ⟨b, off, none⟩) (n + m) c) ∧ w' = (w.drew.setCells b (off + (i + m) * 9) (cs.drop (i * 9))).setCells b (off + i * 9) vs := by
  have tT := Tryz.underlying22
  have u3 := run_underlying Tryz.underlying3; have u4 := run_underlying Tryz.underlying4; have uT := run_underlying Tryz.underlying22
  have zE := Tryz.sizeOf49
  have hz1 : ¬ ((m : Int) = 0) := by omega
  have hz2 : ¬ ((i : Int) = (n : Int)) := by omega
  have hsz : (Tryz.prog.info? 49).map (·.size) = some 9 := by kernel_rfl
  have hov : ∀ lb cb, (callFunc 189 #[.slice (some ⟨vb, voff, none⟩) m vc, .slice (some ⟨b, off + (i + m) * 9, none⟩) lb cb]).run Tryz.prog w = .ok (.value (.bool false)) w := fun lb cb => by
    rw [run_callFunc_extern Tryz.func189 (by kernel_rfl) (by kernel_rfl) (by kernel_rfl) (e := Extern.SlicesOverlaps.overlaps #[22, 22] #[4]) (by kernel_rfl),
      Lib.run_overlaps_apart w 22 4 49 tT 9 zE ⟨vb, voff, none⟩ ⟨b, off + (i + m) * 9, none⟩ m vc lb cb hvb tA tB kA kB hsa hsb hkB hfa hfe]
    rfl
  have hdl : (cs.drop (i * 9)).length = (n - i) * 9 := by rw [List.length_drop, hcl]; omega
  have mixed : Tryz.prog.follows .mixedOrders = true := by kernel_rfl
  have hw1 : IntKind.i64.wrap ((i : Int) + (m : Int)) = (i : Int) + (m : Int) := by rw [IntKind.wrap_i64]; omega
  have hb1 : (0 : Int) ≤ (i : Int) + (m : Int) := by omega
  have hin : i ≤ n := by omega
  have htn : ((i : Int) + (m : Int)).toNat = i + m := by omega
  have hb2 : ¬ (c = i + m) := by omega
  have hb3 : (i : Int) ≤ (n : Int) + (m : Int) := by omega
  have hb4 : ¬ (c = i) := by omega
  have hcp1 : ∀ ty dc sc, (Builtin.copy_ #[22, 22] ty #[.slice (some ⟨b, off + (i + m) * 9, none⟩) (n + m - (i + m)) dc, .slice (some ⟨b, off + i * 9, none⟩) (n + m - i) sc]).run Tryz.prog w.drew = .ok (goInt (n - i : Nat)) (w.drew.setCells b (off + (i + m) * 9) (cs.drop (i * 9))) := fun ty dc sc => by
    have h := run_copy_cells_k w.drew 22 22 ty 49 9 b (off + (i + m) * 9) (n + m - (i + m)) dc ⟨b, off + i * 9, none⟩ (n + m - i) sc (n - i) (cs.drop (i * 9)) tT hsz (by simp only [Nat.min_def]; split <;> omega) hdl
      (fun j v hj => by rw [Addr.add_lit, Nat.add_assoc]; exact hcs (i * 9 + j) v (by rwa [List.getElem?_drop] at hj))
      (fun j hj => by rw [Nat.add_assoc]; exact hsp _ (by omega)) (fun j hj => by rw [Nat.add_assoc]; exact hfz _ (by omega)) (fun v hv => h1c v (List.mem_of_mem_drop hv))
    exact h
  obtain ⟨W1, hW1⟩ : ∃ W1, W1 = w.drew.setCells b (off + (i + m) * 9) (cs.drop (i * 9)) := ⟨_, rfl⟩
  have hsp1 : ∀ k, k < (n + m) * 9 → (W1.cell? ⟨b, off + k, none⟩).isSome = true := fun k hk => by
    rw [hW1]
    exact isSome_setCellsk b _ _ _ (fun j hj => by rw [Nat.add_assoc]; exact hsp _ (by omega)) _ (hsp k hk)
  have hcp2 : ∀ (W : World), (∀ x, W.cell? x = W1.cell? x) → (∀ x, W.frozen? x = W1.frozen? x) → ∀ ty dc, (Builtin.copy_ #[22, 22] ty #[.slice (some ⟨b, off + i * 9, none⟩) (n + m - i) dc, .slice (some ⟨vb, voff, none⟩) m vc]).run Tryz.prog W = .ok (goInt m) (W.setCells b (off + i * 9) vs) := fun W hWc hWf ty dc => by
    have h := run_copy_cells_k W 22 22 ty 49 9 b (off + i * 9) (n + m - i) dc ⟨vb, voff, none⟩ m vc m vs tT hsz (by simp only [Nat.min_def]; split <;> omega) hvl
      (fun j v hj => by
        rw [Addr.add_lit, hWc, hW1, World.cell?_setCells_out b _ _ _ _ (fun h _ => absurd h hvb)]
        exact hvs j v hj)
      (fun j hj => by rw [hWc, Nat.add_assoc]; exact hsp1 _ (by omega)) (fun j hj => by rw [hWf, hW1, World.frozen?_setCells, Nat.add_assoc]; exact hfz _ (by omega)) h1v
    exact h
  rw [← hW1] at hcp1
  go_enter Tryz.func134, Tryz.ntmps134
  go_wp2_with (simp only [hov])
  go_region_law_o (refine step_copy_runk rfl _ _ 22 22 rfl _ _ (by simp [Act.eval, Act.put]) (by simp [Act.eval, Act.put]) (hcp1 _ _ _) ?_)
  go_wp2_with (at_builtin; refine wpList_copy_runk _ rfl _ _ 22 22 rfl _ _ rfl rfl (hcp2 _ (fun _ => rfl) (fun _ => rfl) _ _) ?_)
  go_ret
  first | exact ⟨rfl, rfl⟩ | exact ⟨rfl, by rw [hW1]⟩

set_option maxHeartbeats 4000000 in
set_option maxRecDepth 100000 in
/-- No room, and not at the end. -/
theorem ins_grow_feat (b off n c i vb voff m vc : Nat) (cs vs : List Value) (w : World) (hi : i < n) (hm : 0 < m) (hnc : n ≤ c) (hroom : c < n + m) (hbig : (n + m) * 96 ≤ 140737488355328)
    (hcl : cs.length = n * 9) (hvl : vs.length = m * 9)
    (hcs : ∀ j v, cs[j]? = some v → w.cell? ⟨b, off + j, none⟩ = some v)
    (hvs : ∀ j v, vs[j]? = some v → w.cell? ⟨vb, voff + j, none⟩ = some v) (h1c : ∀ v ∈ cs, v.oneCell' = true) (h1v : ∀ v ∈ vs, v.oneCell' = true) (z : Value) (hz : (Tryz.prog.info? 49).map (fun i => (i.zero, i.size, i.bytes)) = some (some z, 9, 96)) (hzs : z.cells.size = 9) :
    Calls Tryz.prog 134 #[.slice (some ⟨b, off, none⟩) n c, .int .i64 i, .slice (some ⟨vb, voff, none⟩) m vc] w fun e w' =>
      e = .returned (.slice (some ⟨w.heap.size, 0, none⟩) (n + m) (grownCap w (n + m) c 49)) ∧
      w' = (((w.alloc (.cells ((cs.take (i * 9)).toArray ++ Builtin.zeroCells z.cells (n + m - i) ++ Builtin.zeroCells z.cells (grownCap w (n + m) c 49 - (n + m))) 49)).drew.setCells w.heap.size (i * 9) vs).drew).setCells w.heap.size ((i + m) * 9) (cs.drop (i * 9)) := by
  have tT := Tryz.underlying22
  have u3 := run_underlying Tryz.underlying3; have u4 := run_underlying Tryz.underlying4; have uT := run_underlying Tryz.underlying22
  have zE := Tryz.sizeOf49
  have mixed : Tryz.prog.follows .mixedOrders = true := by kernel_rfl
  obtain ⟨i0, hi0, hz0, hzs0, hzb⟩ := info_parts hz
  have hz1 : ¬ ((m : Int) = 0) := by omega
  have hz2 : ¬ ((i : Int) = (n : Int)) := by omega
  have hz3 : (c : Int) < (n : Int) + (m : Int) := by omega
  have hsz : (Tryz.prog.info? 49).map (·.size) = some 9 := by rw [hi0]; simp [hzs0]
  have hbw : b < w.heap.size := block_lt_of_cell (hcs 0 _ (List.getElem?_eq_getElem (by omega)))
  have hvw : vb < w.heap.size := block_lt_of_cell (hvs 0 _ (List.getElem?_eq_getElem (by omega)))
  have hkk : (n : Int) + (m : Int) - (i : Int) = ((n + m - i : Nat) : Int) := by omega
  have hik : i + (n + m - i) = n + m := by omega
  have hold : (Builtin.firstCells i0.size i (.slice (some ⟨b, off, none⟩) i c)).run Tryz.prog w.drew = .ok (cs.take (i * 9)).toArray w.drew := by
    rw [hzs0]
    exact run_firstCells_some w.drew 9 i ⟨b, off, none⟩ i c (cs.take (i * 9)) (by rw [List.length_take]; omega) (fun j v hj => by
      rw [Addr.add_lit]
      rw [List.getElem?_take] at hj
      split at hj
      · exact hcs j v hj
      · cases hj)
  have hrz : ∀ ty, (Builtin.append_ #[22, 3] ty #[.slice (some ⟨b, off, none⟩) i c, .int .i64 ((n : Int) + (m : Int) - (i : Int))]).run Tryz.prog w =
      .ok (.slice (some ⟨w.heap.size, 0, none⟩) (n + m) (grownCap w (n + m) c 49)) (w.drew.alloc (.cells ((cs.take (i * 9)).toArray ++ Builtin.zeroCells z.cells (n + m - i) ++ Builtin.zeroCells z.cells (grownCap w (n + m) c 49 - (n + m))) 49)) := fun ty => by
    have h := Lib.run_append_grow_zeros w 22 3 ty 49 i0 _ .i64 .i64 tT Tryz.underlying3 hi0 hz0 (some ⟨b, off, none⟩) i c (cs.take (i * 9)) hold (n + m - i) (by omega) (by omega) (by omega) (by omega) (by rw [hzb]; omega) (by rw [hzb, hik]; exact growslice_fits hroom hbig)
    rw [hik] at h
    rw [hkk]
    exact h
  obtain ⟨G, hG⟩ : ∃ G, G = grownCap w (n + m) c 49 := ⟨_, rfl⟩
  obtain ⟨ROW, hROW⟩ : ∃ ROW : Array Value, ROW = (cs.take (i * 9)).toArray ++ Builtin.zeroCells z.cells (n + m - i) ++ Builtin.zeroCells z.cells (G - (n + m)) := ⟨_, rfl⟩
  rw [← hG] at hrz ⊢
  rw [← hROW] at hrz ⊢
  have hzc : ∀ k, (Builtin.zeroCells z.cells k).size = k * 9 := fun k => by rw [size_zeroCells, hzs]
  have hRl : (n + m) * 9 ≤ ROW.size := by
    rw [hROW]
    rw [Array.size_append, Array.size_append, hzc, hzc, List.size_toArray, List.length_take]
    omega
  obtain ⟨W1, hW1⟩ : ∃ W1, W1 = w.drew.alloc (.cells ROW 49) := ⟨_, rfl⟩
  rw [← hW1] at hrz
  have hN : ∀ j, j < (n + m) * 9 → (W1.cell? ⟨w.heap.size, j, none⟩).isSome = true := fun j hj => by
    rw [hW1, World.cell?_alloc_at (w := w.drew) ROW _ w.heap.size j rfl, Array.getElem?_eq_getElem (by omega)]; rfl
  have hNf : ∀ j, W1.frozen? ⟨w.heap.size, j, none⟩ = false := fun j => by rw [hW1]; exact World.frozen?_alloc_at (w := w.drew) ROW _ w.heap.size j rfl
  have hOb : ∀ j v, w.cell? ⟨b, j, none⟩ = some v → W1.cell? ⟨b, j, none⟩ = some v := fun j v h => by rw [hW1, World.cell?_alloc_past (w := w.drew) _ b j hbw]; exact h
  have hOv : ∀ j v, w.cell? ⟨vb, j, none⟩ = some v → W1.cell? ⟨vb, j, none⟩ = some v := fun j v h => by rw [hW1, World.cell?_alloc_past (w := w.drew) _ vb j hvw]; exact h
  have hcpA : ∀ (W : World), (∀ x, W.cell? x = W1.cell? x) → (∀ x, W.frozen? x = W1.frozen? x) → ∀ ty dc, (Builtin.copy_ #[22, 22] ty #[.slice (some ⟨w.heap.size, i * 9, none⟩) (n + m - i) dc, .slice (some ⟨vb, voff, none⟩) m vc]).run Tryz.prog W = .ok (goInt m) (W.setCells w.heap.size (i * 9) vs) := fun W hWc hWf ty dc => by
    have h := run_copy_cells_k W 22 22 ty 49 9 w.heap.size (i * 9) (n + m - i) dc ⟨vb, voff, none⟩ m vc m vs tT hsz (by simp only [Nat.min_def]; split <;> omega) hvl
      (fun j v hj => by rw [Addr.add_lit, hWc]; exact hOv _ v (hvs j v hj))
      (fun j hj => by rw [hWc]; exact hN _ (by omega)) (fun j hj => by rw [hWf]; exact hNf _) h1v
    exact h
  have hGn : n + m ≤ G := by rw [hG]; exact grownCap_ge w _ _ _
  have hG63 : G ≤ 9223372036854775807 := by
    have := grownCap_le_maxLen w (n + m) c 49 (by unfold maxLen; omega)
    rw [← hG] at this
    unfold maxLen at this
    omega
  have hGi : ¬ (G = i) := by omega
  have hGim : ¬ (G = i + m) := by omega
  have hci : ¬ (c = i) := by omega
  have hbN : b ≠ w.heap.size := by omega
  have hdl : (cs.drop (i * 9)).length = (n - i) * 9 := by rw [List.length_drop, hcl]; omega
  have hcpB : ∀ (W : World), (∀ x, W.cell? x = (W1.setCells w.heap.size (i * 9) vs).cell? x) → (∀ x, W.frozen? x = (W1.setCells w.heap.size (i * 9) vs).frozen? x) → ∀ ty dc sc, (Builtin.copy_ #[22, 22] ty #[.slice (some ⟨w.heap.size, (i + m) * 9, none⟩) (n + m - (i + m)) dc, .slice (some ⟨b, off + i * 9, none⟩) (n - i) sc]).run Tryz.prog W = .ok (goInt (n - i : Nat)) (W.setCells w.heap.size ((i + m) * 9) (cs.drop (i * 9))) := fun W hWc hWf ty dc sc => by
    have h := run_copy_cells_k W 22 22 ty 49 9 w.heap.size ((i + m) * 9) (n + m - (i + m)) dc ⟨b, off + i * 9, none⟩ (n - i) sc (n - i) (cs.drop (i * 9)) tT hsz (by simp only [Nat.min_def]; split <;> omega) hdl
      (fun j v hj => by
        rw [Addr.add_lit, hWc, World.cell?_setCells_out _ _ _ _ _ (fun h _ => absurd h hbN), Nat.add_assoc]
        exact hOb _ v (hcs (i * 9 + j) v (by rwa [List.getElem?_drop] at hj)))
      (fun j hj => by rw [hWc]; exact isSome_setCellsk _ _ _ _ (fun t ht => hN _ (by omega)) _ (hN _ (by omega)))
      (fun j hj => by rw [hWf, World.frozen?_setCells]; exact hNf _) (fun v hv => h1c v (List.mem_of_mem_drop hv))
    exact h
  subst hW1
  have hE1 : ∀ x, ((w.alloc (.cells ROW 49)).drew).cell? x = (w.drew.alloc (.cells ROW 49)).cell? x := fun x => rfl
  have hE2 : ∀ x, ((w.alloc (.cells ROW 49)).drew).frozen? x = (w.drew.alloc (.cells ROW 49)).frozen? x := fun x => rfl
  have hF1 : ∀ x, (((w.alloc (.cells ROW 49)).drew.setCells w.heap.size (i * 9) vs).drew).cell? x = ((w.drew.alloc (.cells ROW 49)).setCells w.heap.size (i * 9) vs).cell? x := fun x => rfl
  have hF2 : ∀ x, (((w.alloc (.cells ROW 49)).drew.setCells w.heap.size (i * 9) vs).drew).frozen? x = ((w.drew.alloc (.cells ROW 49)).setCells w.heap.size (i * 9) vs).frozen? x := fun x => rfl
  have hw1 : IntKind.i64.wrap ((i : Int) + (m : Int)) = (i : Int) + (m : Int) := by rw [IntKind.wrap_i64]; omega
  have hb1 : (0 : Int) ≤ (i : Int) + (m : Int) := by omega
  have hin : i ≤ n := by omega
  have htn : ((i : Int) + (m : Int)).toNat = i + m := by omega
  have hb3 : (i : Int) ≤ (n : Int) := by omega
  clear hkk hik hold hROW hG hRl
  go_enter Tryz.func134, Tryz.ntmps134
  go_wp2_with (first
    | (at_builtin; refine Lib.wpList_append_run _ rfl _ _ _ _ rfl _ _ rfl rfl _ _ (hrz _) ?_)
    | (at_builtin; refine wpList_copy_runk _ rfl _ _ 22 22 rfl _ _ rfl rfl (hcpA _ hE1 hE2 _ _) ?_)
    | (at_builtin; refine wpList_copy_runk _ rfl _ _ 22 22 rfl _ _ rfl rfl (hcpB _ (fun _ => rfl) (fun _ => rfl) _ _ _) ?_))
  go_region_law_o (refine step_copy_runk rfl _ _ 22 22 rfl (.slice (some ⟨w.heap.size, (i + m) * 9, none⟩) (n + m - (i + m)) (G - (i + m))) (.slice (some ⟨b, off + i * 9, none⟩) (n - i) (c - i)) (by simp [Act.eval, Act.put]) (by simp [Act.eval, Act.put]) (hcpB _ hF1 hF2 3 (G - (i + m)) (c - i)) ?_)
  go_wp2
  go_ret
  exact ⟨rfl, rfl⟩

set_option maxHeartbeats 4000000 in
set_option maxRecDepth 100000 in
/-- At the end. -/
theorem ins_end_feat (B : Nat) (v : Value) (n : Nat) (xs : List Value) (vb voff m vc : Nat) (vs : List Value) (w : World) (hown : w.ownsRow B 49 9 v n xs) (hm : 0 < m) (hbig : (n + m) * 96 ≤ 140737488355328) (hB : B ≤ w.heap.size)
    (hvl : vs.length = m * 9) (hvs : ∀ j v, vs[j]? = some v → w.cell? ⟨vb, voff + j, none⟩ = some v) (h1v : ∀ v ∈ vs, v.oneCell' = true) (z : Value) (hz : (Tryz.prog.info? 49).map (fun i => (i.zero, i.size, i.bytes)) = some (some z, 9, 96)) (hzs : z.cells.size = 9) :
    Calls Tryz.prog 134 #[v, .int .i64 n, .slice (some ⟨vb, voff, none⟩) m vc] w fun e w' => ∃ v', e = .returned v' ∧ w'.ownsRow B 49 9 v' (n + m) (xs ++ vs) ∧ w.grownBy w' v.ownBlock ∧ (v'.ownBlock = v.ownBlock ∨ v'.ownBlock = some w.heap.size) := by
  have tT := Tryz.underlying22
  have u3 := run_underlying Tryz.underlying3; have u4 := run_underlying Tryz.underlying4; have uT := run_underlying Tryz.underlying22
  have zE := Tryz.sizeOf49
  have mixed : Tryz.prog.follows .mixedOrders = true := by kernel_rfl
  obtain ⟨i0, hi0, hz0, hzs0, hzb⟩ := info_parts hz
  have hz1 : ¬ ((m : Int) = 0) := by omega
  have hrun : ∀ ty, ∃ v' w', (Builtin.append_ #[22, 22] ty #[v, .slice (some ⟨vb, voff, none⟩) m vc]).run Tryz.prog w = .ok v' w' ∧ w'.ownsRow B 49 9 v' (n + m) (xs ++ vs) ∧ w.grownBy w' v.ownBlock ∧ (v'.ownBlock = v.ownBlock ∨ v'.ownBlock = some w.heap.size) := fun ty => by
    obtain ⟨v', w', hr, a1, a2, _, a4⟩ := run_append_own_at w B 22 ty 49 i0 z 9 96 tT hi0 hz0 hzs0 hzb hzs (by decide) v n xs hown ⟨vb, voff, none⟩ m vc vs hvl (fun j u hu => by rw [Addr.add_lit]; exact hvs j u hu) h1v (by unfold maxLen; omega) hbig hB
    exact ⟨v', w', hr, a1, a2, a4⟩
  obtain ⟨v', w', hr, a1, a2, a4⟩ := hrun 22
  obtain ⟨Ad, cc, hv⟩ : ∃ Ad cc, v = .slice Ad n cc := by
    rcases hown.2 with ⟨h, h'⟩ | ⟨g, cap, cur, h, _⟩
    · exact ⟨none, 0, by rw [h, h']⟩
    · exact ⟨_, _, h⟩
  subst hv
  have hcap : n ≤ cc := by
    rcases hown.2 with ⟨h, h'⟩ | ⟨g, cap, cur, h, _, _, h', _⟩
    · cases h; exact Nat.le_refl _
    · cases h; exact h'
  go_enter Tryz.func134, Tryz.ntmps134
  cases Ad with
  | none =>
    go_wp2_with (at_builtin; refine Lib.wpList_append_run _ rfl _ _ _ _ rfl _ _ rfl rfl _ _ hr ?_)
    all_goals (go_ret; exact ⟨v', rfl, a1, a2, a4⟩)
  | some a =>
    obtain ⟨ab, ao, asp⟩ := a
    go_wp2_with (at_builtin; refine Lib.wpList_append_run _ rfl _ _ _ _ rfl _ _ rfl rfl _ _ hr ?_)
    all_goals (go_ret; exact ⟨v', rfl, a1, a2, a4⟩)

set_option maxHeartbeats 4000000 in
set_option maxRecDepth 100000 in
/-- Room, and not at the end. -/
theorem ins_shift_dim (b off n c i vb voff m vc : Nat) (cs vs : List Value) (w : World) (hi : i < n) (hm : 0 < m) (hroom : n + m ≤ c) (hc63 : c ≤ 9223372036854775807) (hvb : vb ≠ b)
    (hcl : cs.length = n * 5) (hvl : vs.length = m * 5)
    (hcs : ∀ j v, cs[j]? = some v → w.cell? ⟨b, off + j, none⟩ = some v) (hsp : ∀ j, j < (n + m) * 5 → (w.cell? ⟨b, off + j, none⟩).isSome = true) (hfz : ∀ j, j < (n + m) * 5 → w.frozen? ⟨b, off + j, none⟩ = false)
    (hvs : ∀ j v, vs[j]? = some v → w.cell? ⟨vb, voff + j, none⟩ = some v) (h1c : ∀ v ∈ cs, v.oneCell' = true) (h1v : ∀ v ∈ vs, v.oneCell' = true)
    (tA tB : TypeId) (kA kB : Nat) (hsa : w.shape? vb = some (tA, kA)) (hsb : w.shape? b = some (tB, kB)) (hkB : kB ≠ 0) (hfa : w.frozen? ⟨vb, voff, none⟩ = false) (hfe : w.frozen? ⟨vb, kA, none⟩ = false) :
    Calls Tryz.prog 111 #[.slice (some ⟨b, off, none⟩) n c, .int .i64 i, .slice (some ⟨vb, voff, none⟩) m vc] w fun e w' =>
      e = .returned (.slice (some ⟨b, off, none⟩) (n + m) c) ∧ w' = (w.drew.setCells b (off + (i + m) * 5) (cs.drop (i * 5))).setCells b (off + i * 5) vs := by
  have tT := Tryz.underlying23
  have u3 := run_underlying Tryz.underlying3; have u4 := run_underlying Tryz.underlying4; have uT := run_underlying Tryz.underlying23
  have zE := Tryz.sizeOf94
  have hz1 : ¬ ((m : Int) = 0) := by omega
  have hz2 : ¬ ((i : Int) = (n : Int)) := by omega
  have hsz : (Tryz.prog.info? 94).map (·.size) = some 5 := by kernel_rfl
  have hov : ∀ lb cb, (callFunc 172 #[.slice (some ⟨vb, voff, none⟩) m vc, .slice (some ⟨b, off + (i + m) * 5, none⟩) lb cb]).run Tryz.prog w = .ok (.value (.bool false)) w := fun lb cb => by
    rw [run_callFunc_extern Tryz.func172 (by kernel_rfl) (by kernel_rfl) (by kernel_rfl) (e := Extern.SlicesOverlaps.overlaps #[23, 23] #[4]) (by kernel_rfl),
      Lib.run_overlaps_apart w 23 4 94 tT 5 zE ⟨vb, voff, none⟩ ⟨b, off + (i + m) * 5, none⟩ m vc lb cb hvb tA tB kA kB hsa hsb hkB hfa hfe]
    rfl
  have hdl : (cs.drop (i * 5)).length = (n - i) * 5 := by rw [List.length_drop, hcl]; omega
  have mixed : Tryz.prog.follows .mixedOrders = true := by kernel_rfl
  have hw1 : IntKind.i64.wrap ((i : Int) + (m : Int)) = (i : Int) + (m : Int) := by rw [IntKind.wrap_i64]; omega
  have hb1 : (0 : Int) ≤ (i : Int) + (m : Int) := by omega
  have hin : i ≤ n := by omega
  have htn : ((i : Int) + (m : Int)).toNat = i + m := by omega
  have hb2 : ¬ (c = i + m) := by omega
  have hb3 : (i : Int) ≤ (n : Int) + (m : Int) := by omega
  have hb4 : ¬ (c = i) := by omega
  have hcp1 : ∀ ty dc sc, (Builtin.copy_ #[23, 23] ty #[.slice (some ⟨b, off + (i + m) * 5, none⟩) (n + m - (i + m)) dc, .slice (some ⟨b, off + i * 5, none⟩) (n + m - i) sc]).run Tryz.prog w.drew = .ok (goInt (n - i : Nat)) (w.drew.setCells b (off + (i + m) * 5) (cs.drop (i * 5))) := fun ty dc sc => by
    have h := run_copy_cells_k w.drew 23 23 ty 94 5 b (off + (i + m) * 5) (n + m - (i + m)) dc ⟨b, off + i * 5, none⟩ (n + m - i) sc (n - i) (cs.drop (i * 5)) tT hsz (by simp only [Nat.min_def]; split <;> omega) hdl
      (fun j v hj => by rw [Addr.add_lit, Nat.add_assoc]; exact hcs (i * 5 + j) v (by rwa [List.getElem?_drop] at hj))
      (fun j hj => by rw [Nat.add_assoc]; exact hsp _ (by omega)) (fun j hj => by rw [Nat.add_assoc]; exact hfz _ (by omega)) (fun v hv => h1c v (List.mem_of_mem_drop hv))
    exact h
  obtain ⟨W1, hW1⟩ : ∃ W1, W1 = w.drew.setCells b (off + (i + m) * 5) (cs.drop (i * 5)) := ⟨_, rfl⟩
  have hsp1 : ∀ k, k < (n + m) * 5 → (W1.cell? ⟨b, off + k, none⟩).isSome = true := fun k hk => by
    rw [hW1]
    exact isSome_setCellsk b _ _ _ (fun j hj => by rw [Nat.add_assoc]; exact hsp _ (by omega)) _ (hsp k hk)
  have hcp2 : ∀ (W : World), (∀ x, W.cell? x = W1.cell? x) → (∀ x, W.frozen? x = W1.frozen? x) → ∀ ty dc, (Builtin.copy_ #[23, 23] ty #[.slice (some ⟨b, off + i * 5, none⟩) (n + m - i) dc, .slice (some ⟨vb, voff, none⟩) m vc]).run Tryz.prog W = .ok (goInt m) (W.setCells b (off + i * 5) vs) := fun W hWc hWf ty dc => by
    have h := run_copy_cells_k W 23 23 ty 94 5 b (off + i * 5) (n + m - i) dc ⟨vb, voff, none⟩ m vc m vs tT hsz (by simp only [Nat.min_def]; split <;> omega) hvl
      (fun j v hj => by
        rw [Addr.add_lit, hWc, hW1, World.cell?_setCells_out b _ _ _ _ (fun h _ => absurd h hvb)]
        exact hvs j v hj)
      (fun j hj => by rw [hWc, Nat.add_assoc]; exact hsp1 _ (by omega)) (fun j hj => by rw [hWf, hW1, World.frozen?_setCells, Nat.add_assoc]; exact hfz _ (by omega)) h1v
    exact h
  rw [← hW1] at hcp1
  go_enter Tryz.func111, Tryz.ntmps111
  go_wp2_with (simp only [hov])
  go_region_law_o (refine step_copy_runk rfl _ _ 23 23 rfl _ _ (by simp [Act.eval, Act.put]) (by simp [Act.eval, Act.put]) (hcp1 _ _ _) ?_)
  go_wp2_with (at_builtin; refine wpList_copy_runk _ rfl _ _ 23 23 rfl _ _ rfl rfl (hcp2 _ (fun _ => rfl) (fun _ => rfl) _ _) ?_)
  go_ret
  first | exact ⟨rfl, rfl⟩ | exact ⟨rfl, by rw [hW1]⟩

set_option maxHeartbeats 4000000 in
set_option maxRecDepth 100000 in
/-- No room, and not at the end. -/
theorem ins_grow_dim (b off n c i vb voff m vc : Nat) (cs vs : List Value) (w : World) (hi : i < n) (hm : 0 < m) (hnc : n ≤ c) (hroom : c < n + m) (hbig : (n + m) * 56 ≤ 140737488355328)
    (hcl : cs.length = n * 5) (hvl : vs.length = m * 5)
    (hcs : ∀ j v, cs[j]? = some v → w.cell? ⟨b, off + j, none⟩ = some v)
    (hvs : ∀ j v, vs[j]? = some v → w.cell? ⟨vb, voff + j, none⟩ = some v) (h1c : ∀ v ∈ cs, v.oneCell' = true) (h1v : ∀ v ∈ vs, v.oneCell' = true) (z : Value) (hz : (Tryz.prog.info? 94).map (fun i => (i.zero, i.size, i.bytes)) = some (some z, 5, 56)) (hzs : z.cells.size = 5) :
    Calls Tryz.prog 111 #[.slice (some ⟨b, off, none⟩) n c, .int .i64 i, .slice (some ⟨vb, voff, none⟩) m vc] w fun e w' =>
      e = .returned (.slice (some ⟨w.heap.size, 0, none⟩) (n + m) (grownCap w (n + m) c 94)) ∧
      w' = (((w.alloc (.cells ((cs.take (i * 5)).toArray ++ Builtin.zeroCells z.cells (n + m - i) ++ Builtin.zeroCells z.cells (grownCap w (n + m) c 94 - (n + m))) 94)).drew.setCells w.heap.size (i * 5) vs).drew).setCells w.heap.size ((i + m) * 5) (cs.drop (i * 5)) := by
  have tT := Tryz.underlying23
  have u3 := run_underlying Tryz.underlying3; have u4 := run_underlying Tryz.underlying4; have uT := run_underlying Tryz.underlying23
  have zE := Tryz.sizeOf94
  have mixed : Tryz.prog.follows .mixedOrders = true := by kernel_rfl
  obtain ⟨i0, hi0, hz0, hzs0, hzb⟩ := info_parts hz
  have hz1 : ¬ ((m : Int) = 0) := by omega
  have hz2 : ¬ ((i : Int) = (n : Int)) := by omega
  have hz3 : (c : Int) < (n : Int) + (m : Int) := by omega
  have hsz : (Tryz.prog.info? 94).map (·.size) = some 5 := by rw [hi0]; simp [hzs0]
  have hbw : b < w.heap.size := block_lt_of_cell (hcs 0 _ (List.getElem?_eq_getElem (by omega)))
  have hvw : vb < w.heap.size := block_lt_of_cell (hvs 0 _ (List.getElem?_eq_getElem (by omega)))
  have hkk : (n : Int) + (m : Int) - (i : Int) = ((n + m - i : Nat) : Int) := by omega
  have hik : i + (n + m - i) = n + m := by omega
  have hold : (Builtin.firstCells i0.size i (.slice (some ⟨b, off, none⟩) i c)).run Tryz.prog w.drew = .ok (cs.take (i * 5)).toArray w.drew := by
    rw [hzs0]
    exact run_firstCells_some w.drew 5 i ⟨b, off, none⟩ i c (cs.take (i * 5)) (by rw [List.length_take]; omega) (fun j v hj => by
      rw [Addr.add_lit]
      rw [List.getElem?_take] at hj
      split at hj
      · exact hcs j v hj
      · cases hj)
  have hrz : ∀ ty, (Builtin.append_ #[23, 3] ty #[.slice (some ⟨b, off, none⟩) i c, .int .i64 ((n : Int) + (m : Int) - (i : Int))]).run Tryz.prog w =
      .ok (.slice (some ⟨w.heap.size, 0, none⟩) (n + m) (grownCap w (n + m) c 94)) (w.drew.alloc (.cells ((cs.take (i * 5)).toArray ++ Builtin.zeroCells z.cells (n + m - i) ++ Builtin.zeroCells z.cells (grownCap w (n + m) c 94 - (n + m))) 94)) := fun ty => by
    have h := Lib.run_append_grow_zeros w 23 3 ty 94 i0 _ .i64 .i64 tT Tryz.underlying3 hi0 hz0 (some ⟨b, off, none⟩) i c (cs.take (i * 5)) hold (n + m - i) (by omega) (by omega) (by omega) (by omega) (by rw [hzb]; omega) (by rw [hzb, hik]; exact growslice_fits hroom hbig)
    rw [hik] at h
    rw [hkk]
    exact h
  obtain ⟨G, hG⟩ : ∃ G, G = grownCap w (n + m) c 94 := ⟨_, rfl⟩
  obtain ⟨ROW, hROW⟩ : ∃ ROW : Array Value, ROW = (cs.take (i * 5)).toArray ++ Builtin.zeroCells z.cells (n + m - i) ++ Builtin.zeroCells z.cells (G - (n + m)) := ⟨_, rfl⟩
  rw [← hG] at hrz ⊢
  rw [← hROW] at hrz ⊢
  have hzc : ∀ k, (Builtin.zeroCells z.cells k).size = k * 5 := fun k => by rw [size_zeroCells, hzs]
  have hRl : (n + m) * 5 ≤ ROW.size := by
    rw [hROW]
    rw [Array.size_append, Array.size_append, hzc, hzc, List.size_toArray, List.length_take]
    omega
  obtain ⟨W1, hW1⟩ : ∃ W1, W1 = w.drew.alloc (.cells ROW 94) := ⟨_, rfl⟩
  rw [← hW1] at hrz
  have hN : ∀ j, j < (n + m) * 5 → (W1.cell? ⟨w.heap.size, j, none⟩).isSome = true := fun j hj => by
    rw [hW1, World.cell?_alloc_at (w := w.drew) ROW _ w.heap.size j rfl, Array.getElem?_eq_getElem (by omega)]; rfl
  have hNf : ∀ j, W1.frozen? ⟨w.heap.size, j, none⟩ = false := fun j => by rw [hW1]; exact World.frozen?_alloc_at (w := w.drew) ROW _ w.heap.size j rfl
  have hOb : ∀ j v, w.cell? ⟨b, j, none⟩ = some v → W1.cell? ⟨b, j, none⟩ = some v := fun j v h => by rw [hW1, World.cell?_alloc_past (w := w.drew) _ b j hbw]; exact h
  have hOv : ∀ j v, w.cell? ⟨vb, j, none⟩ = some v → W1.cell? ⟨vb, j, none⟩ = some v := fun j v h => by rw [hW1, World.cell?_alloc_past (w := w.drew) _ vb j hvw]; exact h
  have hcpA : ∀ (W : World), (∀ x, W.cell? x = W1.cell? x) → (∀ x, W.frozen? x = W1.frozen? x) → ∀ ty dc, (Builtin.copy_ #[23, 23] ty #[.slice (some ⟨w.heap.size, i * 5, none⟩) (n + m - i) dc, .slice (some ⟨vb, voff, none⟩) m vc]).run Tryz.prog W = .ok (goInt m) (W.setCells w.heap.size (i * 5) vs) := fun W hWc hWf ty dc => by
    have h := run_copy_cells_k W 23 23 ty 94 5 w.heap.size (i * 5) (n + m - i) dc ⟨vb, voff, none⟩ m vc m vs tT hsz (by simp only [Nat.min_def]; split <;> omega) hvl
      (fun j v hj => by rw [Addr.add_lit, hWc]; exact hOv _ v (hvs j v hj))
      (fun j hj => by rw [hWc]; exact hN _ (by omega)) (fun j hj => by rw [hWf]; exact hNf _) h1v
    exact h
  have hGn : n + m ≤ G := by rw [hG]; exact grownCap_ge w _ _ _
  have hG63 : G ≤ 9223372036854775807 := by
    have := grownCap_le_maxLen w (n + m) c 94 (by unfold maxLen; omega)
    rw [← hG] at this
    unfold maxLen at this
    omega
  have hGi : ¬ (G = i) := by omega
  have hGim : ¬ (G = i + m) := by omega
  have hci : ¬ (c = i) := by omega
  have hbN : b ≠ w.heap.size := by omega
  have hdl : (cs.drop (i * 5)).length = (n - i) * 5 := by rw [List.length_drop, hcl]; omega
  have hcpB : ∀ (W : World), (∀ x, W.cell? x = (W1.setCells w.heap.size (i * 5) vs).cell? x) → (∀ x, W.frozen? x = (W1.setCells w.heap.size (i * 5) vs).frozen? x) → ∀ ty dc sc, (Builtin.copy_ #[23, 23] ty #[.slice (some ⟨w.heap.size, (i + m) * 5, none⟩) (n + m - (i + m)) dc, .slice (some ⟨b, off + i * 5, none⟩) (n - i) sc]).run Tryz.prog W = .ok (goInt (n - i : Nat)) (W.setCells w.heap.size ((i + m) * 5) (cs.drop (i * 5))) := fun W hWc hWf ty dc sc => by
    have h := run_copy_cells_k W 23 23 ty 94 5 w.heap.size ((i + m) * 5) (n + m - (i + m)) dc ⟨b, off + i * 5, none⟩ (n - i) sc (n - i) (cs.drop (i * 5)) tT hsz (by simp only [Nat.min_def]; split <;> omega) hdl
      (fun j v hj => by
        rw [Addr.add_lit, hWc, World.cell?_setCells_out _ _ _ _ _ (fun h _ => absurd h hbN), Nat.add_assoc]
        exact hOb _ v (hcs (i * 5 + j) v (by rwa [List.getElem?_drop] at hj)))
      (fun j hj => by rw [hWc]; exact isSome_setCellsk _ _ _ _ (fun t ht => hN _ (by omega)) _ (hN _ (by omega)))
      (fun j hj => by rw [hWf, World.frozen?_setCells]; exact hNf _) (fun v hv => h1c v (List.mem_of_mem_drop hv))
    exact h
  subst hW1
  have hE1 : ∀ x, ((w.alloc (.cells ROW 94)).drew).cell? x = (w.drew.alloc (.cells ROW 94)).cell? x := fun x => rfl
  have hE2 : ∀ x, ((w.alloc (.cells ROW 94)).drew).frozen? x = (w.drew.alloc (.cells ROW 94)).frozen? x := fun x => rfl
  have hF1 : ∀ x, (((w.alloc (.cells ROW 94)).drew.setCells w.heap.size (i * 5) vs).drew).cell? x = ((w.drew.alloc (.cells ROW 94)).setCells w.heap.size (i * 5) vs).cell? x := fun x => rfl
  have hF2 : ∀ x, (((w.alloc (.cells ROW 94)).drew.setCells w.heap.size (i * 5) vs).drew).frozen? x = ((w.drew.alloc (.cells ROW 94)).setCells w.heap.size (i * 5) vs).frozen? x := fun x => rfl
  have hw1 : IntKind.i64.wrap ((i : Int) + (m : Int)) = (i : Int) + (m : Int) := by rw [IntKind.wrap_i64]; omega
  have hb1 : (0 : Int) ≤ (i : Int) + (m : Int) := by omega
  have hin : i ≤ n := by omega
  have htn : ((i : Int) + (m : Int)).toNat = i + m := by omega
  have hb3 : (i : Int) ≤ (n : Int) := by omega
  clear hkk hik hold hROW hG hRl
  go_enter Tryz.func111, Tryz.ntmps111
  go_wp2_with (first
    | (at_builtin; refine Lib.wpList_append_run _ rfl _ _ _ _ rfl _ _ rfl rfl _ _ (hrz _) ?_)
    | (at_builtin; refine wpList_copy_runk _ rfl _ _ 23 23 rfl _ _ rfl rfl (hcpA _ hE1 hE2 _ _) ?_)
    | (at_builtin; refine wpList_copy_runk _ rfl _ _ 23 23 rfl _ _ rfl rfl (hcpB _ (fun _ => rfl) (fun _ => rfl) _ _ _) ?_))
  go_region_law_o (refine step_copy_runk rfl _ _ 23 23 rfl (.slice (some ⟨w.heap.size, (i + m) * 5, none⟩) (n + m - (i + m)) (G - (i + m))) (.slice (some ⟨b, off + i * 5, none⟩) (n - i) (c - i)) (by simp [Act.eval, Act.put]) (by simp [Act.eval, Act.put]) (hcpB _ hF1 hF2 3 (G - (i + m)) (c - i)) ?_)
  go_wp2
  go_ret
  exact ⟨rfl, rfl⟩

set_option maxHeartbeats 4000000 in
set_option maxRecDepth 100000 in
/-- At the end. -/
theorem ins_end_dim (B : Nat) (v : Value) (n : Nat) (xs : List Value) (vb voff m vc : Nat) (vs : List Value) (w : World) (hown : w.ownsRow B 94 5 v n xs) (hm : 0 < m) (hbig : (n + m) * 56 ≤ 140737488355328) (hB : B ≤ w.heap.size)
    (hvl : vs.length = m * 5) (hvs : ∀ j v, vs[j]? = some v → w.cell? ⟨vb, voff + j, none⟩ = some v) (h1v : ∀ v ∈ vs, v.oneCell' = true) (z : Value) (hz : (Tryz.prog.info? 94).map (fun i => (i.zero, i.size, i.bytes)) = some (some z, 5, 56)) (hzs : z.cells.size = 5) :
    Calls Tryz.prog 111 #[v, .int .i64 n, .slice (some ⟨vb, voff, none⟩) m vc] w fun e w' => ∃ v', e = .returned v' ∧ w'.ownsRow B 94 5 v' (n + m) (xs ++ vs) ∧ w.grownBy w' v.ownBlock ∧ (v'.ownBlock = v.ownBlock ∨ v'.ownBlock = some w.heap.size) := by
  have tT := Tryz.underlying23
  have u3 := run_underlying Tryz.underlying3; have u4 := run_underlying Tryz.underlying4; have uT := run_underlying Tryz.underlying23
  have zE := Tryz.sizeOf94
  have mixed : Tryz.prog.follows .mixedOrders = true := by kernel_rfl
  obtain ⟨i0, hi0, hz0, hzs0, hzb⟩ := info_parts hz
  have hz1 : ¬ ((m : Int) = 0) := by omega
  have hrun : ∀ ty, ∃ v' w', (Builtin.append_ #[23, 23] ty #[v, .slice (some ⟨vb, voff, none⟩) m vc]).run Tryz.prog w = .ok v' w' ∧ w'.ownsRow B 94 5 v' (n + m) (xs ++ vs) ∧ w.grownBy w' v.ownBlock ∧ (v'.ownBlock = v.ownBlock ∨ v'.ownBlock = some w.heap.size) := fun ty => by
    obtain ⟨v', w', hr, a1, a2, _, a4⟩ := run_append_own_at w B 23 ty 94 i0 z 5 56 tT hi0 hz0 hzs0 hzb hzs (by decide) v n xs hown ⟨vb, voff, none⟩ m vc vs hvl (fun j u hu => by rw [Addr.add_lit]; exact hvs j u hu) h1v (by unfold maxLen; omega) hbig hB
    exact ⟨v', w', hr, a1, a2, a4⟩
  obtain ⟨v', w', hr, a1, a2, a4⟩ := hrun 23
  obtain ⟨Ad, cc, hv⟩ : ∃ Ad cc, v = .slice Ad n cc := by
    rcases hown.2 with ⟨h, h'⟩ | ⟨g, cap, cur, h, _⟩
    · exact ⟨none, 0, by rw [h, h']⟩
    · exact ⟨_, _, h⟩
  subst hv
  have hcap : n ≤ cc := by
    rcases hown.2 with ⟨h, h'⟩ | ⟨g, cap, cur, h, _, _, h', _⟩
    · cases h; exact Nat.le_refl _
    · cases h; exact h'
  go_enter Tryz.func111, Tryz.ntmps111
  cases Ad with
  | none =>
    go_wp2_with (at_builtin; refine Lib.wpList_append_run _ rfl _ _ _ _ rfl _ _ rfl rfl _ _ hr ?_)
    all_goals (go_ret; exact ⟨v', rfl, a1, a2, a4⟩)
  | some a =>
    obtain ⟨ab, ao, asp⟩ := a
    go_wp2_with (at_builtin; refine Lib.wpList_append_run _ rfl _ _ _ _ rfl _ _ rfl rfl _ _ hr ?_)
    all_goals (go_ret; exact ⟨v', rfl, a1, a2, a4⟩)

end Go.Proofs.YtpfhfokfambdaaaGreatDoor

/-! Elements put into a row of one's own: from the three roads of slices.Insert. -/
set_option linter.unusedVariables false
namespace Go.Proofs.YtpfhfokfambdaaaGreatDoor
open Go.Shelf Go.RowKit Go.Lib Ev
theorem heap_setCells_at (b : Nat) {e : TypeId} {fz : Nat × Nat} : ∀ (vs : List Value) (o : Nat) (w : World) (cur : Array Value), w.heap[b]? = some (.cells cur e fz) → o + vs.length ≤ cur.size →
    ∃ cur', (w.setCells b o vs).heap[b]? = some (.cells cur' e fz) ∧ cur'.toList = cur.toList.take o ++ vs ++ cur.toList.drop (o + vs.length)
  | [], o, w, cur, h, _ => ⟨cur, h, by simp⟩
  | v :: r, o, w, cur, h, hl => by
    simp only [List.length_cons] at hl
    have h1 : (w.setCell ⟨b, o, none⟩ v).heap[b]? = some (.cells (cur.setIfInBounds o v) e fz) := by
      simp only [World.setCell]
      rw [Array.getElem?_modify, h]
      simp
    obtain ⟨cur', h2, h3⟩ := heap_setCells_at b r (o + 1) _ _ h1 (by simp; omega)
    refine ⟨cur', h2, ?_⟩
    rw [h3, Array.toList_setIfInBounds]
    have hlen : o < cur.toList.length := by rw [Array.length_toList]; omega
    have k1 : (cur.toList.set o v).take (o + 1) = cur.toList.take o ++ [v] := by
      rw [List.take_set, List.take_succ_eq_append_getElem hlen, List.set_append_right _ _ (by rw [List.length_take]; omega), List.length_take, Nat.min_eq_left (by omega), Nat.sub_self]
      rfl
    rw [k1, List.drop_set_of_lt (by omega)]
    simp
    congr 1
    omega
theorem size_setCellsk (b : Nat) : ∀ (vs : List Value) (o : Nat) (w : World), (w.setCells b o vs).heap.size = w.heap.size
  | [], _, _ => rfl
  | v :: r, o, w => by rw [World.setCells, size_setCellsk b r]; simp
theorem below_setCellsk {B b : Nat} (hb : B ≤ b) (vs : List Value) (o : Nat) (w : World) (hs : B ≤ w.heap.size) : Below B w (w.setCells b o vs) := by
  have hk := World.keptBut_setCells b (may := fun _ => True) vs o w (fun _ _ => trivial)
  refine ⟨hk.1, ?_, hk.2.1, Nat.le_of_eq (size_setCellsk ..).symm, fun i hi => World.heap_setCells_other w b o vs (by omega) (by omega)⟩
  have : ∀ (vs : List Value) (o : Nat) (w : World), (w.setCells b o vs).tape = w.tape := by
    intro vs
    induction vs with
    | nil => intro o w; rfl
    | cons v r ih => intro o w; rw [World.setCells, ih]; rfl
  exact this vs o w
theorem cells_of_heap {w : World} {b : Nat} {cur : Array Value} {e : TypeId} (h : w.heap[b]? = some (.cells cur e (0, 0))) (j : Nat) : w.cell? ⟨b, j, none⟩ = cur[j]? := by
  simp [World.cell?, h]
theorem frozen_of_heap {w : World} {b : Nat} {cur : Array Value} {e : TypeId} (h : w.heap[b]? = some (.cells cur e (0, 0))) (j : Nat) : w.frozen? ⟨b, j, none⟩ = false := by
  simp [World.frozen?, h]
theorem shape_of_heap {w : World} {b : Nat} {cur : Array Value} {e : TypeId} (h : w.heap[b]? = some (.cells cur e (0, 0))) : w.shape? b = some (e, cur.size) := by
  simp [World.shape?, h]

theorem insAt_of {f : FuncId} {e s by' : Nat} {z : Value} (hc : Callable Tryz.prog f) (hs0 : 0 < s) (hby : by' ≤ 32768) (hzs : z.cells.size = s)
    (shift : ∀ (b off n c i vb voff m vc : Nat) (cs vs : List Value) (w : World) (hi : i < n) (hm : 0 < m) (hroom : n + m ≤ c) (hc63 : c ≤ 9223372036854775807) (hvb : vb ≠ b)
      (hcl : cs.length = n * s) (hvl : vs.length = m * s)
      (hcs : ∀ (j : Nat) v, cs[j]? = some v → w.cell? ⟨b, off + j, none⟩ = some v) (hsp : ∀ j, j < (n + m) * s → (w.cell? ⟨b, off + j, none⟩).isSome = true) (hfz : ∀ j, j < (n + m) * s → w.frozen? ⟨b, off + j, none⟩ = false)
      (hvs : ∀ (j : Nat) v, vs[j]? = some v → w.cell? ⟨vb, voff + j, none⟩ = some v) (h1c : ∀ v ∈ cs, v.oneCell' = true) (h1v : ∀ v ∈ vs, v.oneCell' = true)
      (tA tB : TypeId) (kA kB : Nat) (hsa : w.shape? vb = some (tA, kA)) (hsb : w.shape? b = some (tB, kB)) (hkB : kB ≠ 0) (hfa : w.frozen? ⟨vb, voff, none⟩ = false) (hfe : w.frozen? ⟨vb, kA, none⟩ = false),
      Calls Tryz.prog f #[.slice (some ⟨b, off, none⟩) n c, .int .i64 i, .slice (some ⟨vb, voff, none⟩) m vc] w fun x w' =>
        x = .returned (.slice (some ⟨b, off, none⟩) (n + m) c) ∧ w' = (w.drew.setCells b (off + (i + m) * s) (cs.drop (i * s))).setCells b (off + i * s) vs)
    (grow : ∀ (b off n c i vb voff m vc : Nat) (cs vs : List Value) (w : World) (hi : i < n) (hm : 0 < m) (hnc : n ≤ c) (hroom : c < n + m) (hbig : (n + m) * by' ≤ 140737488355328)
      (hcl : cs.length = n * s) (hvl : vs.length = m * s)
      (hcs : ∀ (j : Nat) v, cs[j]? = some v → w.cell? ⟨b, off + j, none⟩ = some v)
      (hvs : ∀ (j : Nat) v, vs[j]? = some v → w.cell? ⟨vb, voff + j, none⟩ = some v) (h1c : ∀ v ∈ cs, v.oneCell' = true) (h1v : ∀ v ∈ vs, v.oneCell' = true),
      Calls Tryz.prog f #[.slice (some ⟨b, off, none⟩) n c, .int .i64 i, .slice (some ⟨vb, voff, none⟩) m vc] w fun x w' =>
        x = .returned (.slice (some ⟨w.heap.size, 0, none⟩) (n + m) (grownCap w (n + m) c e)) ∧
        w' = (((w.alloc (.cells ((cs.take (i * s)).toArray ++ Builtin.zeroCells z.cells (n + m - i) ++ Builtin.zeroCells z.cells (grownCap w (n + m) c e - (n + m))) e)).drew.setCells w.heap.size (i * s) vs).drew).setCells w.heap.size ((i + m) * s) (cs.drop (i * s)))
    (tail : ∀ (B : Nat) (v : Value) (n : Nat) (xs : List Value) (vb voff m vc : Nat) (vs : List Value) (w : World) (hown : w.ownsRow B e s v n xs) (hm : 0 < m) (hbig : (n + m) * by' ≤ 140737488355328) (hB : B ≤ w.heap.size)
      (hvl : vs.length = m * s) (hvs : ∀ (j : Nat) v, vs[j]? = some v → w.cell? ⟨vb, voff + j, none⟩ = some v) (h1v : ∀ v ∈ vs, v.oneCell' = true),
      Calls Tryz.prog f #[v, .int .i64 n, .slice (some ⟨vb, voff, none⟩) m vc] w fun x w' => ∃ v', x = .returned v' ∧ w'.ownsRow B e s v' (n + m) (xs ++ vs) ∧ w.grownBy w' v.ownBlock ∧ (v'.ownBlock = v.ownBlock ∨ v'.ownBlock = some w.heap.size)) :
    InsAt Tryz.prog f e s := by
  refine ⟨hc, fun w B v y n m i xs ys hx hy hB hne hm hi hnm h1x h1y => ?_⟩
  have hbig : (n + m) * by' ≤ 140737488355328 := Nat.le_trans (Nat.mul_le_mul hnm hby) (by decide)
  obtain ⟨hyl, hy2⟩ := hy
  rcases hy2 with ⟨h, h'⟩ | ⟨yb, ycap, ycur, rfl, yB, yh, yle, ymax, ysz, ytk⟩
  · omega
  have hymem : ∀ (j : Nat) u, ys[j]? = some u → w.cell? ⟨yb, 0 + j, none⟩ = some u := fun j u hu => by
    rw [Nat.zero_add, cells_of_heap yh, ← Array.getElem?_toList]
    rw [← ytk, List.getElem?_take] at hu
    split at hu
    · exact hu
    · cases hu
  by_cases hin : i = n
  · subst hin
    refine (tail B v i xs yb 0 m ycap ys w hx hm hbig hB hyl hymem h1y).mono ?_
    rintro x w' ⟨v', rfl, a1, a2, a3⟩
    have hvb : v.ownBlock = blkOf v := by
      obtain ⟨Ad, c, rfl⟩ := own_header hx
      cases Ad <;> rfl
    have hvb' : v'.ownBlock = blkOf v' := by
      obtain ⟨Ad, c, rfl⟩ := own_header a1
      cases Ad <;> rfl
    have hlow : ∀ b, blkOf v = some b → B ≤ b := fun b hb => (hx.lt b (by rw [hvb]; exact hb)).1
    refine ⟨v', rfl, ?_, ⟨a2.os, a2.tape, a2.output, a2.size, fun b hb => a2.block b (by omega) fun h => ?_⟩, fun b hb hn => a2.block b hb fun h => hn (by rw [← hvb]; exact h.symm), fun b hb => ?_⟩
    · have e1 : xs.length = i * s := hx.1
      rw [List.take_of_length_le (by omega), List.drop_eq_nil_of_le (by omega), List.append_nil]
      exact a1
    · have := hlow b (by rw [← hvb]; exact h.symm)
      omega
    · rw [← hvb'] at hb
      rcases a3 with h | h
      · left; rw [← hvb, ← h]; exact hb
      · rw [h] at hb; cases hb; exact .inr (Nat.le_refl _)
  · have hlt : i < n := by omega
    obtain ⟨hxl, hx2⟩ := hx
    rcases hx2 with ⟨h, h'⟩ | ⟨g, cap, cur, rfl, gB, gh, gle, gmax, gsz, gtk⟩
    · omega
    have hgy : yb ≠ g := fun h => hne g rfl (by rw [h]; rfl)
    have hg : g < w.heap.size := (Array.getElem?_eq_some_iff.1 gh).1
    have hcap63 : cap ≤ 9223372036854775807 := by unfold maxLen at gmax; omega
    have hxmem : ∀ (j : Nat) u, xs[j]? = some u → w.cell? ⟨g, 0 + j, none⟩ = some u := fun j u hu => by
      rw [Nat.zero_add, cells_of_heap gh, ← Array.getElem?_toList]
      rw [← gtk, List.getElem?_take] at hu
      split at hu
      · exact hu
      · cases hu
    have hdl : (xs.drop (i * s)).length = (n - i) * s := by rw [List.length_drop, hxl, Nat.sub_mul]
    have his : i * s ≤ n * s := Nat.mul_le_mul_right _ hi
    have htl : (xs.take (i * s)).length = i * s := by rw [List.length_take, hxl]; omega
    have e1 : (i + m) * s = i * s + m * s := Nat.add_mul _ _ _
    have e2 : (n + m) * s = n * s + m * s := Nat.add_mul _ _ _
    have e3 : (n - i) * s = n * s - i * s := Nat.sub_mul _ _ _
    by_cases hroom : n + m ≤ cap
    · have hsz : (n + m) * s ≤ cur.size := by rw [gsz]; exact Nat.mul_le_mul_right _ hroom
      refine (shift g 0 n cap i yb 0 m ycap xs ys w hlt hm hroom hcap63 hgy hxl hyl hxmem (fun j hj => ?_) (fun j hj => ?_) hymem h1x h1y e e ycur.size cur.size (shape_of_heap yh) (shape_of_heap gh) (by have : 0 < m * s := Nat.mul_pos hm hs0; omega) (frozen_of_heap yh _) (frozen_of_heap yh _)).mono ?_
      · rw [Nat.zero_add, cells_of_heap gh, Array.getElem?_eq_getElem (by omega)]; rfl
      · exact frozen_of_heap gh _
      · rintro x w' ⟨rfl, rfl⟩
        rw [Nat.zero_add, Nat.zero_add]
        obtain ⟨c1, q1, q2⟩ := heap_setCells_at g (xs.drop (i * s)) ((i + m) * s) w.drew cur gh (by rw [hdl]; omega)
        have hc1 : c1.size = cur.size := by
          have := congrArg List.length q2
          simp only [List.length_append, List.length_take, Array.length_toList, hdl, List.length_drop (i := (i + m) * s + (n - i) * s)] at this
          omega
        obtain ⟨c2, q3, q4⟩ := heap_setCells_at g ys (i * s) _ c1 q1 (by rw [hyl, hc1]; omega)
        have hc1l : cur.toList.take (i * s) = xs.take (i * s) := by rw [← gtk, List.take_take, Nat.min_eq_left his]
        have t1 : (cur.toList.take ((i + m) * s)).length = (i + m) * s := by rw [List.length_take, Array.length_toList]; omega
        have hq : c2.toList = xs.take (i * s) ++ ys ++ xs.drop (i * s) ++ cur.toList.drop ((n + m) * s) := by
          rw [q4, q2]
          have k1 : (cur.toList.take ((i + m) * s) ++ xs.drop (i * s) ++ cur.toList.drop ((i + m) * s + (xs.drop (i * s)).length)).take (i * s) = xs.take (i * s) := by
            rw [List.append_assoc, List.take_append_of_le_length (by rw [t1]; omega), List.take_take, Nat.min_eq_left (by omega), hc1l]
          have k2 : (cur.toList.take ((i + m) * s) ++ xs.drop (i * s) ++ cur.toList.drop ((i + m) * s + (xs.drop (i * s)).length)).drop (i * s + ys.length) = xs.drop (i * s) ++ cur.toList.drop ((n + m) * s) := by
            rw [List.append_assoc, List.drop_append, List.drop_eq_nil_of_le (by rw [t1, hyl]; omega), t1, hyl, hdl]
            rw [show i * s + m * s - (i + m) * s = 0 by omega, show (i + m) * s + (n - i) * s = (n + m) * s by omega]
            simp
          rw [k1, k2]
          simp [List.append_assoc]
        refine ⟨_, rfl, ⟨?_, .inr ⟨g, cap, c2, rfl, gB, q3, hroom, gmax, ?_, ?_⟩⟩, ?_, fun b hb hn => ?_, fun b hb => .inl hb⟩
        · simp only [List.length_append, htl, hyl, hdl]; omega
        · have := congrArg List.length hq
          simp only [List.length_append, Array.length_toList, htl, hyl, hdl, List.length_drop] at this
          rw [← gsz]
          omega
        · rw [hq, List.take_append_of_le_length (by simp only [List.length_append, htl, hyl, hdl]; omega), List.take_of_length_le (by simp only [List.length_append, htl, hyl, hdl]; omega)]
        · exact (below_setCellsk gB _ _ w.drew hB).trans (below_setCellsk gB _ _ _ (by rw [size_setCellsk]; exact hB)) |> fun h => ⟨h.os, h.tape, h.output, h.size, h.block⟩
        · have hbg : b ≠ g := fun h => hn (by rw [h]; rfl)
          rw [World.heap_setCells_other _ g _ _ (by rw [size_setCellsk]; exact hb) hbg, World.heap_setCells_other w.drew g _ _ hb hbg]
          rfl
    · have hr : cap < n + m := by omega
      refine (grow g 0 n cap i yb 0 m ycap xs ys w hlt hm gle hr hbig hxl hyl hxmem hymem h1x h1y).mono ?_
      rintro x w' ⟨rfl, rfl⟩
      generalize hG : grownCap w (n + m) cap e = C
      have hC1 : n + m ≤ C := by rw [← hG]; exact grownCap_ge w _ _ _
      have hC2 : C ≤ maxLen := by rw [← hG]; exact grownCap_le_maxLen w (n + m) cap e (by unfold maxLen; omega)
      generalize hR : (xs.take (i * s)).toArray ++ Builtin.zeroCells z.cells (n + m - i) ++ Builtin.zeroCells z.cells (C - (n + m)) = ROW
      have hRs : ROW.size = C * s := by
        rw [← hR, Array.size_append, Array.size_append, size_zeroCells, size_zeroCells, hzs, List.size_toArray, htl, Nat.sub_mul, Nat.sub_mul, e2]
        have : (n + m) * s ≤ C * s := Nat.mul_le_mul_right _ hC1
        omega
      have hCs : (n + m) * s ≤ C * s := Nat.mul_le_mul_right _ hC1
      have hRt : ROW.toList.take (i * s) = xs.take (i * s) := by
        rw [← hR, Array.toList_append, Array.toList_append, List.append_assoc, List.take_append_of_le_length (by rw [List.toList_toArray, htl]; exact Nat.le_refl _), List.toList_toArray, List.take_of_length_le (by rw [htl]; exact Nat.le_refl _)]
      have h0 : (w.alloc (.cells ROW e)).drew.heap[w.heap.size]? = some (.cells ROW e (0, 0)) := heap_alloc_new w _
      obtain ⟨c1, q1, q2⟩ := heap_setCells_at w.heap.size ys (i * s) (w.alloc (.cells ROW e)).drew ROW h0 (by rw [hyl, hRs]; omega)
      have hc1 : c1.size = ROW.size := by
        have := congrArg List.length q2
        simp only [List.length_append, List.length_take, List.length_drop, Array.length_toList, hyl] at this
        omega
      obtain ⟨c2, q3, q4⟩ := heap_setCells_at w.heap.size (xs.drop (i * s)) ((i + m) * s) ((w.alloc (.cells ROW e)).drew.setCells w.heap.size (i * s) ys).drew c1 q1 (by rw [hdl, hc1, hRs]; omega)
      have t1 : (ROW.toList.take (i * s)).length = i * s := by rw [hRt, htl]
      have hq : c2.toList = xs.take (i * s) ++ ys ++ xs.drop (i * s) ++ c1.toList.drop ((n + m) * s) := by
        rw [q4]
        have k1 : c1.toList.take ((i + m) * s) = xs.take (i * s) ++ ys := by
          rw [q2, hRt, List.take_append_of_le_length (by simp only [List.length_append, htl, hyl]; omega), List.take_of_length_le (by simp only [List.length_append, htl, hyl]; omega)]
        rw [k1, hdl, show (i + m) * s + (n - i) * s = (n + m) * s by omega]
      refine ⟨_, rfl, ⟨?_, .inr ⟨w.heap.size, C, c2, rfl, hB, q3, hC1, hC2, ?_, ?_⟩⟩, ?_, fun b hb hn => ?_, fun b hb => ?_⟩
      · simp only [List.length_append, htl, hyl, hdl]; omega
      · have := congrArg List.length hq
        simp only [List.length_append, Array.length_toList, htl, hyl, hdl, List.length_drop, hc1, hRs] at this
        omega
      · rw [hq, List.take_append_of_le_length (by simp only [List.length_append, htl, hyl, hdl]; omega), List.take_of_length_le (by simp only [List.length_append, htl, hyl, hdl]; omega)]
      · have b1 : Below B w (w.alloc (.cells ROW e)).drew := (below_alloc w _).mono hB |> fun h => ⟨h.os, h.tape, h.output, h.size, h.block⟩
        have b2 := below_setCellsk hB ys (i * s) (w.alloc (.cells ROW e)).drew (by show B ≤ (w.alloc _).heap.size; simp; omega)
        have b3 := below_setCellsk hB (xs.drop (i * s)) ((i + m) * s) ((w.alloc (.cells ROW e)).drew.setCells w.heap.size (i * s) ys).drew (by rw [World.size_drew, size_setCellsk, World.size_drew]; simp; omega)
        exact b1.trans (b2.trans ⟨b3.os, b3.tape, b3.output, b3.size, b3.block⟩)
      · have hbs : b ≠ w.heap.size := by omega
        rw [World.heap_setCells_other _ _ _ _ (by rw [World.size_drew, size_setCellsk, World.size_drew]; simp; omega) hbs]
        show ((w.alloc (.cells ROW e)).drew.setCells w.heap.size (i * s) ys).heap[b]? = _
        rw [World.heap_setCells_other _ _ _ _ (by rw [World.size_drew]; simp; omega) hbs]
        exact Go.RowKit.Below.heap_alloc w _ _ hb
      · cases hb
        exact .inr (Nat.le_refl _)

theorem ins_feat : InsAt Tryz.prog 134 49 9 :=
  insAt_of (by' := 96) (z := ((Tryz.prog.info? 49).bind (·.zero)).getD undef) ⟨_, Tryz.func134, by kernel_rfl, by kernel_rfl⟩ (by decide) (by decide) (by kernel_rfl)
    (fun b off n c i vb voff m vc cs vs w hi hm hroom hc hvb hcl hvl hcs hsp hfz hvs h1 h2 tA tB kA kB a1 a2 a3 a4 a5 => ins_shift_feat b off n c i vb voff m vc cs vs w hi hm hroom hc hvb hcl hvl hcs hsp hfz hvs h1 h2 tA tB kA kB a1 a2 a3 a4 a5)
    (fun b off n c i vb voff m vc cs vs w hi hm hnc hroom hbig hcl hvl hcs hvs h1 h2 => ins_grow_feat b off n c i vb voff m vc cs vs w hi hm hnc hroom hbig hcl hvl hcs hvs h1 h2 _ (by kernel_rfl) (by kernel_rfl))
    (fun B v n xs vb voff m vc vs w hown hm hbig hB hvl hvs h1 => ins_end_feat B v n xs vb voff m vc vs w hown hm hbig hB hvl hvs h1 (((Tryz.prog.info? 49).bind (·.zero)).getD undef) (by kernel_rfl) (by kernel_rfl))
theorem ins_dim : InsAt Tryz.prog 111 94 5 :=
  insAt_of (by' := 56) (z := ((Tryz.prog.info? 94).bind (·.zero)).getD undef) ⟨_, Tryz.func111, by kernel_rfl, by kernel_rfl⟩ (by decide) (by decide) (by kernel_rfl)
    (fun b off n c i vb voff m vc cs vs w hi hm hroom hc hvb hcl hvl hcs hsp hfz hvs h1 h2 tA tB kA kB a1 a2 a3 a4 a5 => ins_shift_dim b off n c i vb voff m vc cs vs w hi hm hroom hc hvb hcl hvl hcs hsp hfz hvs h1 h2 tA tB kA kB a1 a2 a3 a4 a5)
    (fun b off n c i vb voff m vc cs vs w hi hm hnc hroom hbig hcl hvl hcs hvs h1 h2 => ins_grow_dim b off n c i vb voff m vc cs vs w hi hm hnc hroom hbig hcl hvl hcs hvs h1 h2 _ (by kernel_rfl) (by kernel_rfl))
    (fun B v n xs vb voff m vc vs w hown hm hbig hB hvl hvs h1 => ins_end_dim B v n xs vb voff m vc vs w hown hm hbig hB hvl hvs h1 (((Tryz.prog.info? 94).bind (·.zero)).getD undef) (by kernel_rfl) (by kernel_rfl))
end Go.Proofs.YtpfhfokfambdaaaGreatDoor

/-! slices.Delete at a slice of structs. -/
set_option linter.unusedVariables false
set_option linter.unusedSimpArgs false
namespace Go.Proofs.YtpfhfokfambdaaaGreatDoor
open Go.Shelf Go.RowKit Go.Lib Ev
theorem zeroCells_mem {z : Array Value} {n : Nat} {v : Value} (h : v ∈ (Builtin.zeroCells z n).toList) : v ∈ z.toList := by
  simp only [Builtin.zeroCells] at h
  simp at h
  obtain ⟨i, hi, rfl⟩ := h
  have h1 : i % z.size < z.size := Nat.mod_lt _ (by
    rcases Nat.eq_zero_or_pos z.size with h0 | h0
    · rw [h0, Nat.mul_zero] at hi; omega
    · exact h0)
  simp [h1]
theorem run_clear_k {P : Program} {n : Nat} (w : World) (t e ty : TypeId) (z : Value) (s : Nat) (ht : P.underlying t = some (.slice e)) (hv : ∀ w, (zeroValue e).run P w = .ok z w) (hz : z.cells.size = s) (h1 : ∀ v ∈ (Builtin.zeroCells z.cells n).toList, v.oneCell' = true) (b o c : Nat) (hn : 0 < n)
    (hc : ∀ j, j < n * s → (w.cell? ⟨b, o + j, none⟩).isSome = true) (hf : ∀ j, j < n * s → w.frozen? ⟨b, o + j, none⟩ = false) :
    (Builtin.clear_ #[t] ty #[.slice (some ⟨b, o, none⟩) n c]).run P w = .ok (.tuple #[]) (w.setCells b o (Builtin.zeroCells z.cells n).toList) := by
  have hl : (Builtin.zeroCells z.cells n).toList.length = n * s := by rw [Array.length_toList, size_zeroCells, hz]
  have hst := run_storeCells_cells (P := P) b o (Builtin.zeroCells z.cells n).toList 0 w (by rw [hl]; simpa using hc) (by rw [hl]; simpa using hf) h1
  simp only [Nat.add_zero] at hst
  obtain ⟨m, rfl⟩ : ∃ m, n = m + 1 := ⟨n - 1, by omega⟩
  simp [Builtin.clear_, run_underlying ht, hv, hst]
set_option maxHeartbeats 4000000 in
set_option maxRecDepth 1000000 in
theorem del_feat (blk off cap n i j : Nat) (cs : List Value) (w : World) (zs : Array Value) (hz : (Tryz.prog.info? 49).map (fun i => (i.zero, i.size, i.bytes)) = some (some (.agg zs), 9, 96)) (hv : ∀ w, (zeroValue 49).run Tryz.prog w = .ok (.agg zs) w) (hzs : zs.size = 9) (hz1 : ∀ v ∈ zs.toList, v.oneCell' = true)
    (hl : cs.length = n * 9) (hcs : ∀ j v, cs[j]? = some v → w.cell? ⟨blk, off + j, none⟩ = some v) (hfz : ∀ j, j < n * 9 → w.frozen? ⟨blk, off + j, none⟩ = false) (h1c : ∀ v ∈ cs, v.oneCell' = true) (hcap : n ≤ cap) (hm : cap ≤ 9223372036854775807) (hij : i < j) (hj : j ≤ n) :
    Calls Tryz.prog 83 #[.slice (some ⟨blk, off, none⟩) n cap, .int .i64 i, .int .i64 j] w fun e w' => e = .returned (.slice (some ⟨blk, off, none⟩) (n - (j - i)) cap) ∧ w' = (w.drew.setCells blk (off + i * 9) (cs.drop (j * 9))).setCells blk (off + (i + (n - j)) * 9) (Builtin.zeroCells zs (j - i)).toList := by
  have tT := Tryz.underlying22
  have u3 := run_underlying Tryz.underlying3; have u4 := run_underlying Tryz.underlying4; have uT := run_underlying Tryz.underlying22
  have zE := Tryz.sizeOf49
  have mixed : Tryz.prog.follows .mixedOrders = true := by kernel_rfl
  obtain ⟨i0, hi0, hz0, hzs0, hzb⟩ := info_parts hz
  obtain ⟨news, hnews⟩ : ∃ news, news = cs.drop (j * 9) := ⟨_, rfl⟩
  have hlen : news.length = (n - j) * 9 := by rw [hnews, List.length_drop, hl]; omega
  obtain ⟨A, hA, hsrc⟩ : ∃ A : Addr, (if cap = j then some (⟨blk, off, none⟩ : Addr) else some ⟨blk, off + j * 9, none⟩) = some A ∧ Hid (∀ t u, news[t]? = some u → w.drew.cell? (A.add t) = some u) := by
    by_cases h : cap = j
    · refine ⟨⟨blk, off, none⟩, by simp [h], fun t u hu => ?_⟩
      have h0 : news.length = 0 := by rw [hlen]; omega
      rw [List.length_eq_zero_iff.1 h0] at hu
      simp at hu
    · refine ⟨⟨blk, off + j * 9, none⟩, by simp [h], fun t u hu => ?_⟩
      rw [hnews, List.getElem?_drop] at hu
      rw [Addr.add_lit, show off + j * 9 + t = off + (j * 9 + t) by omega]
      exact hcs _ u hu
  have hcell : ∀ t, t < n * 9 → (w.cell? ⟨blk, off + t, none⟩).isSome = true := fun t ht => by
    rw [hcs t _ (List.getElem?_eq_getElem (by omega))]; rfl
  have s1 : Hid (news.length = (n - j) * 9) := hlen
  have s2 : Hid (∀ u ∈ news, u.oneCell' = true) := fun u hu => h1c u (by rw [hnews] at hu; exact List.mem_of_mem_drop hu)
  have s3 : Hid (∀ t, t < news.length → (w.drew.cell? ⟨blk, off + i * 9 + t, none⟩).isSome = true ∧ w.drew.frozen? ⟨blk, off + i * 9 + t, none⟩ = false) := by
    intro t ht
    rw [hlen] at ht
    rw [Nat.add_assoc]
    exact ⟨hcell _ (by omega), hfz _ (by omega)⟩
  obtain ⟨W1, hW1⟩ : ∃ W1, W1 = w.drew.setCells blk (off + i * 9) news := ⟨_, rfl⟩
  have hcell1 : ∀ t, t < n * 9 → (W1.cell? ⟨blk, off + t, none⟩).isSome = true := fun t ht => by
    rw [hW1]
    exact isSome_setCellsk blk _ _ _ (fun q hq => by rw [Nat.add_assoc]; exact hcell _ (by omega)) _ (hcell t ht)
  have hcl : ∀ ty, (Builtin.clear_ #[22] ty #[.slice (some ⟨blk, off + (i + (n - j)) * 9, none⟩) (n - (i + (n - j))) (cap - (i + (n - j)))]).run Tryz.prog W1 = .ok (.tuple #[]) (W1.setCells blk (off + (i + (n - j)) * 9) (Builtin.zeroCells zs (n - (i + (n - j)))).toList) :=
    fun ty => run_clear_k W1 22 49 ty (.agg zs) 9 tT hv hzs (fun v hv' => hz1 v (zeroCells_mem hv')) blk (off + (i + (n - j)) * 9) _ (by omega) (fun t ht => by rw [Nat.add_assoc]; exact hcell1 _ (by omega)) (fun t ht => by rw [hW1, World.frozen?_setCells, Nat.add_assoc]; exact hfz _ (by omega))
  have hW : Hid (W1 = w.drew.setCells blk (off + i * 9) news) := hW1
  have hic : i ≤ cap := by omega
  have hjc : j ≤ cap := by omega
  have hlt : i < j := hij
  have heq : ¬ i = j := by omega
  have hNS : Hid (news = cs.drop (j * 9)) := hnews
  clear hW1 hnews hlen hcell hcell1 hcs hfz
  go_enter Tryz.func83, Tryz.ntmps83
  go_wp2_with fail
  go_region_law_o (refine step_append_room rfl (.tmp 22) (.tmp 25) 22 rfl 49 i0 9 tT hi0 hzs0 blk off i cap (by simp [Act.eval, Act.put]) A (n - j) (cap - j) news (by simp [Act.eval, Act.put]) s1.out hsrc.out s2.out (by omega) s3.out ?_; rw [← hW.out])
  go_wp2
  go_ret
  refine ⟨by rw [show n - (j - i) = i + (n - j) by omega]; rfl, ?_⟩
  rw [hW.out, hNS.out, show n - (i + (n - j)) = j - i by omega]
end Go.Proofs.YtpfhfokfambdaaaGreatDoor

/-! slices.Clone at the program's types. -/
set_option linter.unusedVariables false
set_option linter.unusedSimpArgs false
namespace Go.Proofs.YtpfhfokfambdaaaGreatDoor
open Go.Shelf Go.RowKit Go.Lib Ev
theorem lt_of_cell_any {w : World} {a : Addr} {v : Value} (h : w.cell? a = some v) : a.block < w.heap.size := by
  unfold World.cell? at h
  rcases Nat.lt_or_ge a.block w.heap.size with h' | h'
  · exact h'
  · simp [Array.getElem?_eq_none h'] at h
theorem cell_alloc_low {w : World} {a : Addr} (o : Obj) (h : a.block < w.heap.size) : (w.alloc o).cell? a = w.cell? a :=
  World.cell?_of_block (Go.RowKit.Below.heap_alloc w o _ h)
set_option maxHeartbeats 2000000 in
set_option maxRecDepth 100000 in
theorem clone_w_str (i0 : TypeInfo) (z : Value) (hi : Tryz.prog.info? 9 = some i0) (hz0 : i0.zero = some z) (hz1 : i0.size = 1) (hz2 : i0.bytes = 16) (hzs : z.cells.size = 1)
    (a : Addr) (n c : Nat) (news : List Value) (w : World) (hl : news.length = n * 1) (hn : n ≤ maxLen) (hbig : n * 16 ≤ 140737488355328)
    (hc : ∀ j u, news[j]? = some u → w.cell? (a.add j) = some u) (h1 : ∀ u ∈ news, u.oneCell' = true) :
    Calls Tryz.prog 26 #[.slice (some a) n c] w fun e w' => ∃ v', e = .returned v' ∧ w'.ownsRow w.heap.size 9 1 v' n news ∧ Below w.heap.size w w' := by
  have mixed : Tryz.prog.follows .mixedOrders = true := by kernel_rfl
  have tT := Tryz.underlying28
  have q22 : ∀ (w : World) (a : Option Addr) (n c n' c' : Nat), (binOp .eql 28 (.slice a n c) (.slice none n' c')).run Tryz.prog w = .ok (.bool a.isNone) w := fun w a n c n' c' => Lib.run_eql_slice_nil w _ _ a n c n' c' tT
  have u22 : ∀ w, Sem.run Tryz.prog (underlying 28) w = .ok (TypeDesc.slice 9) w := run_underlying tT
  have z23 : ∀ w, (Go.sizeOf 9).run Tryz.prog w = .ok 1 w := Tryz.sizeOf9
  have A : Aside (∀ j u, news[j]? = some u → w.cell? (a.add j) = some u) := hc
  clear hc
  obtain ⟨ab, ao, asp⟩ := a
  go_enter Tryz.func26, Tryz.ntmps26
  go_wp2_with (at_builtin; refine wpList_append_own _ rfl _ _ 28 rfl w.heap.size 9 i0 z 1 16 tT hi hz0 hz1 hz2 hzs (by decide) _ _ _ rfl (World.ownsRow_made w #[] 0 (Nat.le_refl _) (Nat.zero_le _) (by simp)) ⟨ab, ao, asp⟩ n c news rfl ?qc1 ?qc2 ?qc3 ?qc4 ?qc5 ?qc6 ?_)
  case qc1 => exact hl
  case qc2 =>
    intro j u hj
    have hlt := lt_of_cell_any (A.out j u hj)
    rw [cell_alloc_low _ hlt]
    exact A.out j u hj
  case qc3 => exact h1
  case qc4 => rw [Nat.zero_add]; exact hn
  case qc5 => rw [Nat.zero_add]; exact hbig
  case qc6 => simp
  intro v' w1 hown hgrow hnil
  go_wp2
  go_ret
  refine ⟨v', rfl, by simpa using hown, ?_⟩
  exact ((Below.refl _ w).alloc (Nat.le_refl _) _).grown hgrow (by simp) (by intro k hk; simp [Value.ownBlock] at hk; omega)
set_option maxHeartbeats 1000000 in
theorem clone_nil_str (n c : Nat) (w : World) :
    Calls Tryz.prog 26 #[.slice none n c] w fun e w' => e = .returned (.slice none 0 0) ∧ w' = w := by
  have mixed : Tryz.prog.follows .mixedOrders = true := by kernel_rfl
  have tT := Tryz.underlying28
  have q22 : ∀ (w : World) (a : Option Addr) (n c n' c' : Nat), (binOp .eql 28 (.slice a n c) (.slice none n' c')).run Tryz.prog w = .ok (.bool a.isNone) w := fun w a n c n' c' => Lib.run_eql_slice_nil w _ _ a n c n' c' tT
  go_enter Tryz.func26, Tryz.ntmps26
  go_wp2
  go_ret
  exact ⟨rfl, rfl⟩
theorem clone_str : CloneAt Tryz.prog 26 9 1 := by
  refine ⟨⟨_, Tryz.func26, by kernel_rfl, by kernel_rfl⟩, fun w A n c xs hl hn h1 hA => ?_⟩
  obtain ⟨i0, hi0, hz0, hzs0, hzb⟩ := info_parts (P := Tryz.prog) (e := 9) (z := ((Tryz.prog.info? 9).bind (·.zero)).getD undef) (size := 1) (bytes := 16) (by kernel_rfl)
  cases A with
  | none =>
    have h0 : n = 0 := by
      rcases hA with h | ⟨b, o, h, _⟩
      · exact h
      · cases h
    subst h0
    have hx : xs = [] := List.eq_nil_of_length_eq_zero (by omega)
    subst hx
    refine (clone_nil_str 0 c w).mono ?_
    rintro e w' ⟨rfl, rfl⟩
    exact ⟨_, rfl, World.ownsRow_nil _ _ _ _, Below.refl _ _⟩
  | some a =>
    refine clone_w_str i0 _ hi0 hz0 hzs0 hzb (by kernel_rfl) a n c xs w hl (by unfold maxLen; omega) (by omega) (fun j u hu => ?_) h1
    rcases hA with h | ⟨b, o, h, h2⟩
    · subst h
      have hx : xs = [] := List.eq_nil_of_length_eq_zero (by omega)
      rw [hx] at hu
      simp at hu
    · cases h
      rw [Addr.add_lit]
      exact h2 j u hu
set_option maxHeartbeats 2000000 in
set_option maxRecDepth 100000 in
theorem clone_w_feat (i0 : TypeInfo) (z : Value) (hi : Tryz.prog.info? 49 = some i0) (hz0 : i0.zero = some z) (hz1 : i0.size = 9) (hz2 : i0.bytes = 96) (hzs : z.cells.size = 9)
    (a : Addr) (n c : Nat) (news : List Value) (w : World) (hl : news.length = n * 9) (hn : n ≤ maxLen) (hbig : n * 96 ≤ 140737488355328)
    (hc : ∀ j u, news[j]? = some u → w.cell? (a.add j) = some u) (h1 : ∀ u ∈ news, u.oneCell' = true) :
    Calls Tryz.prog 135 #[.slice (some a) n c] w fun e w' => ∃ v', e = .returned v' ∧ w'.ownsRow w.heap.size 49 9 v' n news ∧ Below w.heap.size w w' := by
  have mixed : Tryz.prog.follows .mixedOrders = true := by kernel_rfl
  have tT := Tryz.underlying22
  have q22 : ∀ (w : World) (a : Option Addr) (n c n' c' : Nat), (binOp .eql 22 (.slice a n c) (.slice none n' c')).run Tryz.prog w = .ok (.bool a.isNone) w := fun w a n c n' c' => Lib.run_eql_slice_nil w _ _ a n c n' c' tT
  have u22 : ∀ w, Sem.run Tryz.prog (underlying 22) w = .ok (TypeDesc.slice 49) w := run_underlying tT
  have z23 : ∀ w, (Go.sizeOf 49).run Tryz.prog w = .ok 9 w := Tryz.sizeOf49
  have A : Aside (∀ j u, news[j]? = some u → w.cell? (a.add j) = some u) := hc
  clear hc
  obtain ⟨ab, ao, asp⟩ := a
  go_enter Tryz.func135, Tryz.ntmps135
  go_wp2_with (at_builtin; refine wpList_append_own _ rfl _ _ 22 rfl w.heap.size 49 i0 z 9 96 tT hi hz0 hz1 hz2 hzs (by decide) _ _ _ rfl (World.ownsRow_made w #[] 0 (Nat.le_refl _) (Nat.zero_le _) (by simp)) ⟨ab, ao, asp⟩ n c news rfl ?qc1 ?qc2 ?qc3 ?qc4 ?qc5 ?qc6 ?_)
  case qc1 => exact hl
  case qc2 =>
    intro j u hj
    have hlt := lt_of_cell_any (A.out j u hj)
    rw [cell_alloc_low _ hlt]
    exact A.out j u hj
  case qc3 => exact h1
  case qc4 => rw [Nat.zero_add]; exact hn
  case qc5 => rw [Nat.zero_add]; exact hbig
  case qc6 => simp
  intro v' w1 hown hgrow hnil
  go_wp2
  go_ret
  refine ⟨v', rfl, by simpa using hown, ?_⟩
  exact ((Below.refl _ w).alloc (Nat.le_refl _) _).grown hgrow (by simp) (by intro k hk; simp [Value.ownBlock] at hk; omega)
set_option maxHeartbeats 1000000 in
theorem clone_nil_feat (n c : Nat) (w : World) :
    Calls Tryz.prog 135 #[.slice none n c] w fun e w' => e = .returned (.slice none 0 0) ∧ w' = w := by
  have mixed : Tryz.prog.follows .mixedOrders = true := by kernel_rfl
  have tT := Tryz.underlying22
  have q22 : ∀ (w : World) (a : Option Addr) (n c n' c' : Nat), (binOp .eql 22 (.slice a n c) (.slice none n' c')).run Tryz.prog w = .ok (.bool a.isNone) w := fun w a n c n' c' => Lib.run_eql_slice_nil w _ _ a n c n' c' tT
  go_enter Tryz.func135, Tryz.ntmps135
  go_wp2
  go_ret
  exact ⟨rfl, rfl⟩
theorem clone_feat : CloneAt Tryz.prog 135 49 9 := by
  refine ⟨⟨_, Tryz.func135, by kernel_rfl, by kernel_rfl⟩, fun w A n c xs hl hn h1 hA => ?_⟩
  obtain ⟨i0, hi0, hz0, hzs0, hzb⟩ := info_parts (P := Tryz.prog) (e := 49) (z := ((Tryz.prog.info? 49).bind (·.zero)).getD undef) (size := 9) (bytes := 96) (by kernel_rfl)
  cases A with
  | none =>
    have h0 : n = 0 := by
      rcases hA with h | ⟨b, o, h, _⟩
      · exact h
      · cases h
    subst h0
    have hx : xs = [] := List.eq_nil_of_length_eq_zero (by omega)
    subst hx
    refine (clone_nil_feat 0 c w).mono ?_
    rintro e w' ⟨rfl, rfl⟩
    exact ⟨_, rfl, World.ownsRow_nil _ _ _ _, Below.refl _ _⟩
  | some a =>
    refine clone_w_feat i0 _ hi0 hz0 hzs0 hzb (by kernel_rfl) a n c xs w hl (by unfold maxLen; omega) (by omega) (fun j u hu => ?_) h1
    rcases hA with h | ⟨b, o, h, h2⟩
    · subst h
      have hx : xs = [] := List.eq_nil_of_length_eq_zero (by omega)
      rw [hx] at hu
      simp at hu
    · cases h
      rw [Addr.add_lit]
      exact h2 j u hu
set_option maxHeartbeats 2000000 in
set_option maxRecDepth 100000 in
theorem clone_w_frame (i0 : TypeInfo) (z : Value) (hi : Tryz.prog.info? 115 = some i0) (hz0 : i0.zero = some z) (hz1 : i0.size = 5) (hz2 : i0.bytes = 56) (hzs : z.cells.size = 5)
    (a : Addr) (n c : Nat) (news : List Value) (w : World) (hl : news.length = n * 5) (hn : n ≤ maxLen) (hbig : n * 56 ≤ 140737488355328)
    (hc : ∀ j u, news[j]? = some u → w.cell? (a.add j) = some u) (h1 : ∀ u ∈ news, u.oneCell' = true) :
    Calls Tryz.prog 124 #[.slice (some a) n c] w fun e w' => ∃ v', e = .returned v' ∧ w'.ownsRow w.heap.size 115 5 v' n news ∧ Below w.heap.size w w' := by
  have mixed : Tryz.prog.follows .mixedOrders = true := by kernel_rfl
  have tT := Tryz.underlying47
  have q22 : ∀ (w : World) (a : Option Addr) (n c n' c' : Nat), (binOp .eql 47 (.slice a n c) (.slice none n' c')).run Tryz.prog w = .ok (.bool a.isNone) w := fun w a n c n' c' => Lib.run_eql_slice_nil w _ _ a n c n' c' tT
  have u22 : ∀ w, Sem.run Tryz.prog (underlying 47) w = .ok (TypeDesc.slice 115) w := run_underlying tT
  have z23 : ∀ w, (Go.sizeOf 115).run Tryz.prog w = .ok 5 w := Tryz.sizeOf115
  have A : Aside (∀ j u, news[j]? = some u → w.cell? (a.add j) = some u) := hc
  clear hc
  obtain ⟨ab, ao, asp⟩ := a
  go_enter Tryz.func124, Tryz.ntmps124
  go_wp2_with (at_builtin; refine wpList_append_own _ rfl _ _ 47 rfl w.heap.size 115 i0 z 5 56 tT hi hz0 hz1 hz2 hzs (by decide) _ _ _ rfl (World.ownsRow_made w #[] 0 (Nat.le_refl _) (Nat.zero_le _) (by simp)) ⟨ab, ao, asp⟩ n c news rfl ?qc1 ?qc2 ?qc3 ?qc4 ?qc5 ?qc6 ?_)
  case qc1 => exact hl
  case qc2 =>
    intro j u hj
    have hlt := lt_of_cell_any (A.out j u hj)
    rw [cell_alloc_low _ hlt]
    exact A.out j u hj
  case qc3 => exact h1
  case qc4 => rw [Nat.zero_add]; exact hn
  case qc5 => rw [Nat.zero_add]; exact hbig
  case qc6 => simp
  intro v' w1 hown hgrow hnil
  go_wp2
  go_ret
  refine ⟨v', rfl, by simpa using hown, ?_⟩
  exact ((Below.refl _ w).alloc (Nat.le_refl _) _).grown hgrow (by simp) (by intro k hk; simp [Value.ownBlock] at hk; omega)
set_option maxHeartbeats 1000000 in
theorem clone_nil_frame (n c : Nat) (w : World) :
    Calls Tryz.prog 124 #[.slice none n c] w fun e w' => e = .returned (.slice none 0 0) ∧ w' = w := by
  have mixed : Tryz.prog.follows .mixedOrders = true := by kernel_rfl
  have tT := Tryz.underlying47
  have q22 : ∀ (w : World) (a : Option Addr) (n c n' c' : Nat), (binOp .eql 47 (.slice a n c) (.slice none n' c')).run Tryz.prog w = .ok (.bool a.isNone) w := fun w a n c n' c' => Lib.run_eql_slice_nil w _ _ a n c n' c' tT
  go_enter Tryz.func124, Tryz.ntmps124
  go_wp2
  go_ret
  exact ⟨rfl, rfl⟩
theorem clone_frame : CloneAt Tryz.prog 124 115 5 := by
  refine ⟨⟨_, Tryz.func124, by kernel_rfl, by kernel_rfl⟩, fun w A n c xs hl hn h1 hA => ?_⟩
  obtain ⟨i0, hi0, hz0, hzs0, hzb⟩ := info_parts (P := Tryz.prog) (e := 115) (z := ((Tryz.prog.info? 115).bind (·.zero)).getD undef) (size := 5) (bytes := 56) (by kernel_rfl)
  cases A with
  | none =>
    have h0 : n = 0 := by
      rcases hA with h | ⟨b, o, h, _⟩
      · exact h
      · cases h
    subst h0
    have hx : xs = [] := List.eq_nil_of_length_eq_zero (by omega)
    subst hx
    refine (clone_nil_frame 0 c w).mono ?_
    rintro e w' ⟨rfl, rfl⟩
    exact ⟨_, rfl, World.ownsRow_nil _ _ _ _, Below.refl _ _⟩
  | some a =>
    refine clone_w_frame i0 _ hi0 hz0 hzs0 hzb (by kernel_rfl) a n c xs w hl (by unfold maxLen; omega) (by omega) (fun j u hu => ?_) h1
    rcases hA with h | ⟨b, o, h, h2⟩
    · subst h
      have hx : xs = [] := List.eq_nil_of_length_eq_zero (by omega)
      rw [hx] at hu
      simp at hu
    · cases h
      rw [Addr.add_lit]
      exact h2 j u hu
set_option maxHeartbeats 2000000 in
set_option maxRecDepth 100000 in
theorem clone_w_dim (i0 : TypeInfo) (z : Value) (hi : Tryz.prog.info? 94 = some i0) (hz0 : i0.zero = some z) (hz1 : i0.size = 5) (hz2 : i0.bytes = 56) (hzs : z.cells.size = 5)
    (a : Addr) (n c : Nat) (news : List Value) (w : World) (hl : news.length = n * 5) (hn : n ≤ maxLen) (hbig : n * 56 ≤ 140737488355328)
    (hc : ∀ j u, news[j]? = some u → w.cell? (a.add j) = some u) (h1 : ∀ u ∈ news, u.oneCell' = true) :
    Calls Tryz.prog 130 #[.slice (some a) n c] w fun e w' => ∃ v', e = .returned v' ∧ w'.ownsRow w.heap.size 94 5 v' n news ∧ Below w.heap.size w w' := by
  have mixed : Tryz.prog.follows .mixedOrders = true := by kernel_rfl
  have tT := Tryz.underlying23
  have q22 : ∀ (w : World) (a : Option Addr) (n c n' c' : Nat), (binOp .eql 23 (.slice a n c) (.slice none n' c')).run Tryz.prog w = .ok (.bool a.isNone) w := fun w a n c n' c' => Lib.run_eql_slice_nil w _ _ a n c n' c' tT
  have u22 : ∀ w, Sem.run Tryz.prog (underlying 23) w = .ok (TypeDesc.slice 94) w := run_underlying tT
  have z23 : ∀ w, (Go.sizeOf 94).run Tryz.prog w = .ok 5 w := Tryz.sizeOf94
  have A : Aside (∀ j u, news[j]? = some u → w.cell? (a.add j) = some u) := hc
  clear hc
  obtain ⟨ab, ao, asp⟩ := a
  go_enter Tryz.func130, Tryz.ntmps130
  go_wp2_with (at_builtin; refine wpList_append_own _ rfl _ _ 23 rfl w.heap.size 94 i0 z 5 56 tT hi hz0 hz1 hz2 hzs (by decide) _ _ _ rfl (World.ownsRow_made w #[] 0 (Nat.le_refl _) (Nat.zero_le _) (by simp)) ⟨ab, ao, asp⟩ n c news rfl ?qc1 ?qc2 ?qc3 ?qc4 ?qc5 ?qc6 ?_)
  case qc1 => exact hl
  case qc2 =>
    intro j u hj
    have hlt := lt_of_cell_any (A.out j u hj)
    rw [cell_alloc_low _ hlt]
    exact A.out j u hj
  case qc3 => exact h1
  case qc4 => rw [Nat.zero_add]; exact hn
  case qc5 => rw [Nat.zero_add]; exact hbig
  case qc6 => simp
  intro v' w1 hown hgrow hnil
  go_wp2
  go_ret
  refine ⟨v', rfl, by simpa using hown, ?_⟩
  exact ((Below.refl _ w).alloc (Nat.le_refl _) _).grown hgrow (by simp) (by intro k hk; simp [Value.ownBlock] at hk; omega)
set_option maxHeartbeats 1000000 in
theorem clone_nil_dim (n c : Nat) (w : World) :
    Calls Tryz.prog 130 #[.slice none n c] w fun e w' => e = .returned (.slice none 0 0) ∧ w' = w := by
  have mixed : Tryz.prog.follows .mixedOrders = true := by kernel_rfl
  have tT := Tryz.underlying23
  have q22 : ∀ (w : World) (a : Option Addr) (n c n' c' : Nat), (binOp .eql 23 (.slice a n c) (.slice none n' c')).run Tryz.prog w = .ok (.bool a.isNone) w := fun w a n c n' c' => Lib.run_eql_slice_nil w _ _ a n c n' c' tT
  go_enter Tryz.func130, Tryz.ntmps130
  go_wp2
  go_ret
  exact ⟨rfl, rfl⟩
theorem clone_dim : CloneAt Tryz.prog 130 94 5 := by
  refine ⟨⟨_, Tryz.func130, by kernel_rfl, by kernel_rfl⟩, fun w A n c xs hl hn h1 hA => ?_⟩
  obtain ⟨i0, hi0, hz0, hzs0, hzb⟩ := info_parts (P := Tryz.prog) (e := 94) (z := ((Tryz.prog.info? 94).bind (·.zero)).getD undef) (size := 5) (bytes := 56) (by kernel_rfl)
  cases A with
  | none =>
    have h0 : n = 0 := by
      rcases hA with h | ⟨b, o, h, _⟩
      · exact h
      · cases h
    subst h0
    have hx : xs = [] := List.eq_nil_of_length_eq_zero (by omega)
    subst hx
    refine (clone_nil_dim 0 c w).mono ?_
    rintro e w' ⟨rfl, rfl⟩
    exact ⟨_, rfl, World.ownsRow_nil _ _ _ _, Below.refl _ _⟩
  | some a =>
    refine clone_w_dim i0 _ hi0 hz0 hzs0 hzb (by kernel_rfl) a n c xs w hl (by unfold maxLen; omega) (by omega) (fun j u hu => ?_) h1
    rcases hA with h | ⟨b, o, h, h2⟩
    · subst h
      have hx : xs = [] := List.eq_nil_of_length_eq_zero (by omega)
      rw [hx] at hu
      simp at hu
    · cases h
      rw [Addr.add_lit]
      exact h2 j u hu
set_option maxHeartbeats 2000000 in
set_option maxRecDepth 100000 in
theorem clone_w_datum (i0 : TypeInfo) (z : Value) (hi : Tryz.prog.info? 117 = some i0) (hz0 : i0.zero = some z) (hz1 : i0.size = 2) (hz2 : i0.bytes = 24) (hzs : z.cells.size = 2)
    (a : Addr) (n c : Nat) (news : List Value) (w : World) (hl : news.length = n * 2) (hn : n ≤ maxLen) (hbig : n * 24 ≤ 140737488355328)
    (hc : ∀ j u, news[j]? = some u → w.cell? (a.add j) = some u) (h1 : ∀ u ∈ news, u.oneCell' = true) :
    Calls Tryz.prog 125 #[.slice (some a) n c] w fun e w' => ∃ v', e = .returned v' ∧ w'.ownsRow w.heap.size 117 2 v' n news ∧ Below w.heap.size w w' := by
  have mixed : Tryz.prog.follows .mixedOrders = true := by kernel_rfl
  have tT := Tryz.underlying113
  have q22 : ∀ (w : World) (a : Option Addr) (n c n' c' : Nat), (binOp .eql 113 (.slice a n c) (.slice none n' c')).run Tryz.prog w = .ok (.bool a.isNone) w := fun w a n c n' c' => Lib.run_eql_slice_nil w _ _ a n c n' c' tT
  have u22 : ∀ w, Sem.run Tryz.prog (underlying 113) w = .ok (TypeDesc.slice 117) w := run_underlying tT
  have z23 : ∀ w, (Go.sizeOf 117).run Tryz.prog w = .ok 2 w := Tryz.sizeOf117
  have A : Aside (∀ j u, news[j]? = some u → w.cell? (a.add j) = some u) := hc
  clear hc
  obtain ⟨ab, ao, asp⟩ := a
  go_enter Tryz.func125, Tryz.ntmps125
  go_wp2_with (at_builtin; refine wpList_append_own _ rfl _ _ 113 rfl w.heap.size 117 i0 z 2 24 tT hi hz0 hz1 hz2 hzs (by decide) _ _ _ rfl (World.ownsRow_made w #[] 0 (Nat.le_refl _) (Nat.zero_le _) (by simp)) ⟨ab, ao, asp⟩ n c news rfl ?qc1 ?qc2 ?qc3 ?qc4 ?qc5 ?qc6 ?_)
  case qc1 => exact hl
  case qc2 =>
    intro j u hj
    have hlt := lt_of_cell_any (A.out j u hj)
    rw [cell_alloc_low _ hlt]
    exact A.out j u hj
  case qc3 => exact h1
  case qc4 => rw [Nat.zero_add]; exact hn
  case qc5 => rw [Nat.zero_add]; exact hbig
  case qc6 => simp
  intro v' w1 hown hgrow hnil
  go_wp2
  go_ret
  refine ⟨v', rfl, by simpa using hown, ?_⟩
  exact ((Below.refl _ w).alloc (Nat.le_refl _) _).grown hgrow (by simp) (by intro k hk; simp [Value.ownBlock] at hk; omega)
set_option maxHeartbeats 1000000 in
theorem clone_nil_datum (n c : Nat) (w : World) :
    Calls Tryz.prog 125 #[.slice none n c] w fun e w' => e = .returned (.slice none 0 0) ∧ w' = w := by
  have mixed : Tryz.prog.follows .mixedOrders = true := by kernel_rfl
  have tT := Tryz.underlying113
  have q22 : ∀ (w : World) (a : Option Addr) (n c n' c' : Nat), (binOp .eql 113 (.slice a n c) (.slice none n' c')).run Tryz.prog w = .ok (.bool a.isNone) w := fun w a n c n' c' => Lib.run_eql_slice_nil w _ _ a n c n' c' tT
  go_enter Tryz.func125, Tryz.ntmps125
  go_wp2
  go_ret
  exact ⟨rfl, rfl⟩
theorem clone_datum : CloneAt Tryz.prog 125 117 2 := by
  refine ⟨⟨_, Tryz.func125, by kernel_rfl, by kernel_rfl⟩, fun w A n c xs hl hn h1 hA => ?_⟩
  obtain ⟨i0, hi0, hz0, hzs0, hzb⟩ := info_parts (P := Tryz.prog) (e := 117) (z := ((Tryz.prog.info? 117).bind (·.zero)).getD undef) (size := 2) (bytes := 24) (by kernel_rfl)
  cases A with
  | none =>
    have h0 : n = 0 := by
      rcases hA with h | ⟨b, o, h, _⟩
      · exact h
      · cases h
    subst h0
    have hx : xs = [] := List.eq_nil_of_length_eq_zero (by omega)
    subst hx
    refine (clone_nil_datum 0 c w).mono ?_
    rintro e w' ⟨rfl, rfl⟩
    exact ⟨_, rfl, World.ownsRow_nil _ _ _ _, Below.refl _ _⟩
  | some a =>
    refine clone_w_datum i0 _ hi0 hz0 hzs0 hzb (by kernel_rfl) a n c xs w hl (by unfold maxLen; omega) (by omega) (fun j u hu => ?_) h1
    rcases hA with h | ⟨b, o, h, h2⟩
    · subst h
      have hx : xs = [] := List.eq_nil_of_length_eq_zero (by omega)
      rw [hx] at hu
      simp at hu
    · cases h
      rw [Addr.add_lit]
      exact h2 j u hu
end Go.Proofs.YtpfhfokfambdaaaGreatDoor

/-! Rows that a function of the library turns in place. -/
namespace Go.Proofs.YtpfhfokfambdaaaGreatDoor.Ev
open Go.RowKit (Below)
section
variable {N0 : Base} {B : Nat} {w w' : World} {m0 : List (Nat × Blk)} {E : Nat → Value} {N : Nat → Prop}
/-- A row turned in place and handed back shorter: under a new name; the old one is gone. -/
theorem Env.turn (h : Env N0 B w (look m0) E N) {k k2 e s : Nat} {rs rs' : List (List A)} {v' : Value} (hk : look m0 k = some (.row e s rs)) (hk2 : look m0 k2 = none) (hfx : ∀ j, j ∈ N0.fx → look m0 j ≠ none)
    (hs : w.heap.size ≤ w'.heap.size) (hw : ∀ b, b < w.heap.size → blkOf (E k) ≠ some b → w'.heap[b]? = w.heap[b]?) (hv : ∀ b, blkOf v' = some b → blkOf (E k) = some b ∨ (w.heap.size ≤ b ∧ b < w'.heap.size)) (hB : B ≤ w.heap.size)
    (hc : ∃ xs, w'.ownsRow B e s v' rs'.length xs ∧ (∀ (i : Nat) (r : List A), rs'[i]? = some r → r.length = s) ∧ ∀ (i j : Nat) (r : List A) (a : A) (u : Value), rs'[i]? = some r → r[j]? = some a → xs[i * s + j]? = some u → RvA E N w a u)
    (hm : ∀ j, Blk.men j (.row e s rs') → look m0 j ≠ none) : Env N0 B w' (look ((k2, .row e s rs') :: (k, .gone) :: m0)) (Ev.upd E k2 v') N := by
  have hne : k2 ≠ k := fun e => by rw [e, hk] at hk2; cases hk2
  have hlive := fun b hb => h.live k _ b hk rfl hb
  have hN : ∀ b, N b → b < w.heap.size → w'.heap[b]? = w.heap[b]? := fun b hb hlt => hw b hlt fun h3 => (hlive b h3).1 hb
  have hEk : ∀ j, look m0 j ≠ none → Ev.upd E k2 v' j = E j := fun j hj => upd_ne _ _ fun e => hj (by rw [← e]; exact hk2)
  have hsplit : ∀ j bl, look ((k2, .row e s rs') :: (k, .gone) :: m0) j = some bl → (j = k2 ∧ bl = .row e s rs') ∨ (j = k ∧ bl = .gone) ∨ (j ≠ k2 ∧ j ≠ k ∧ look m0 j = some bl) := by
    intro j bl hj
    simp only [look] at hj
    by_cases e1 : k2 = j
    · rw [if_pos e1] at hj; cases hj; exact .inl ⟨e1.symm, rfl⟩
    · rw [if_neg e1] at hj
      by_cases e2 : k = j
      · rw [if_pos e2] at hj; cases hj; exact .inr (.inl ⟨e2.symm, rfl⟩)
      · rw [if_neg e2] at hj; exact .inr (.inr ⟨fun e => e1 e.symm, fun e => e2 e.symm, hj⟩)
  have hsome : ∀ j, look m0 j ≠ none → look ((k2, .row e s rs') :: (k, .gone) :: m0) j ≠ none := by
    intro j hj
    simp only [look]
    split
    · simp
    · split
      · simp
      · exact hj
  refine ⟨fun b hb => Nat.lt_of_lt_of_le (h.nlt b hb) hs, h.nsub, ?_, ?_, ?_, ?_, fun l u h1 => ?_, fun j hj => hsome j (h.fx j hj), fun b hb => ?_⟩
  · intro j bl b h1 h2 h3
    rcases hsplit j bl h1 with ⟨rfl, rfl⟩ | ⟨rfl, rfl⟩ | ⟨n1, n2, h4⟩
    · rw [upd_same] at h3
      rcases hv b h3 with h5 | ⟨h5, h6⟩
      · obtain ⟨a1, a2, a3⟩ := hlive b h5
        exact ⟨a1, a2, Nat.lt_of_lt_of_le a3 hs⟩
      · exact ⟨fun hn => by have := h.nlt b hn; omega, Nat.le_trans hB h5, h6⟩
    · cases h2
    · rw [upd_ne _ _ (fun e => n1 e.symm)] at h3
      obtain ⟨a1, a2, a3⟩ := h.live j bl b h4 h2 h3
      exact ⟨a1, a2, Nat.lt_of_lt_of_le a3 hs⟩
  · intro i j bi bj b h1 h2 h3 h4 hij h5 h6
    rcases hsplit i bi h1 with ⟨rfl, rfl⟩ | ⟨rfl, rfl⟩ | ⟨n1, n2, h7⟩
    · rcases hsplit j bj h2 with ⟨rfl, rfl⟩ | ⟨rfl, rfl⟩ | ⟨q1, q2, h8⟩
      · exact hij rfl
      · cases h4
      · rw [upd_same] at h5
        rw [upd_ne _ _ (fun e => q1 e.symm)] at h6
        rcases hv b h5 with h9 | ⟨h9, _⟩
        · exact h.dis k j _ bj b hk h8 rfl h4 (fun e => q2 e.symm) h9 h6
        · have := (h.live j bj b h8 h4 h6).2.2
          omega
    · cases h3
    · rcases hsplit j bj h2 with ⟨rfl, rfl⟩ | ⟨rfl, rfl⟩ | ⟨q1, q2, h8⟩
      · rw [upd_same] at h6
        rw [upd_ne _ _ (fun e => n1 e.symm)] at h5
        rcases hv b h6 with h9 | ⟨h9, _⟩
        · exact h.dis k i _ bi b hk h7 rfl h3 (fun e => n2 e.symm) h9 h5
        · have := (h.live i bi b h7 h3 h5).2.2
          omega
      · cases h4
      · rw [upd_ne _ _ (fun e => n1 e.symm)] at h5
        rw [upd_ne _ _ (fun e => q1 e.symm)] at h6
        exact h.dis i j bi bj b h7 h8 h3 h4 hij h5 h6
  · intro j bl h1
    rcases hsplit j bl h1 with ⟨rfl, rfl⟩ | ⟨rfl, rfl⟩ | ⟨n1, n2, h4⟩
    · rw [upd_same]
      obtain ⟨xs, c1, c2, c3⟩ := hc
      refine ⟨xs, c1, c2, fun i q r a u hr ha hu => ?_⟩
      exact RvA.mono hN (fun _ hb _ => hb) (fun p hp => hEk p (hm p ⟨r, List.mem_of_getElem? hr, a, List.mem_of_getElem? ha, hp⟩)) (c3 i q r a u hr ha hu)
    · trivial
    · rw [upd_ne _ _ (fun e => n1 e.symm)]
      refine RvB.mono hN (fun _ hb _ => hb) (fun p hp => hEk p (h.wf j bl p h4 hp)) (fun h5 b h6 => ?_) (h.con j bl h4)
      exact hw b (h.live j bl b h4 h5 h6).2.2 fun h7 => h.dis k j _ bl b hk h4 rfl h5 (fun e => n2 e.symm) h7 h6
  · intro j bl p h1 h2
    rcases hsplit j bl h1 with ⟨rfl, rfl⟩ | ⟨rfl, rfl⟩ | ⟨n1, n2, h4⟩
    · exact hsome p (hm p h2)
    · exact h2.elim
    · exact hsome p (h.wf j bl p h4 h2)
  · exact RvL.mono hN (fun _ hb _ => hb) (fun p hp => hEk p (hfx p (N0.ok l u p h1 hp))) (h.gh l u h1)
  · obtain ⟨a1, a2, a3, a4⟩ := h.fo b hb
    refine ⟨Nat.lt_of_lt_of_le a1 hs, a2, (hw b a1 (a4 k _ hk rfl)).trans a3, fun j bl h1 h2 h3 => ?_⟩
    rcases hsplit j bl h1 with ⟨rfl, rfl⟩ | ⟨rfl, rfl⟩ | ⟨n1, n2, h4⟩
    · rw [upd_same] at h3
      rcases hv b h3 with h5 | ⟨h5, _⟩
      · exact a4 k _ hk rfl h5
      · omega
    · cases h2
    · rw [upd_ne _ _ (fun e => n1 e.symm)] at h3
      exact a4 j bl h4 h2 h3
end

/-- What the values of a row are turned into, whatever they read as. -/
def Carried (s : Nat) (rs rs' : List (List A)) (xs ys : List Value) : Prop :=
  ∀ R : A → Value → Prop, (∀ x u, (∃ st, x = .d (.str st) ∧ u = .string ⟨st.toArray⟩) → R x u) → (∀ (i j : Nat) (r : List A) (a : A) (u : Value), rs[i]? = some r → r[j]? = some a → xs[i * s + j]? = some u → R a u) →
    ∀ (i j : Nat) (r : List A) (a : A) (u : Value), rs'[i]? = some r → r[j]? = some a → ys[i * s + j]? = some u → R a u
theorem rv_str {E : Nat → Value} {N : Nat → Prop} {w : World} : ∀ x u, (∃ st : List UInt8, x = A.d (.str st) ∧ u = Value.string ⟨st.toArray⟩) → RvA E N w x u := by
  rintro x u ⟨st, rfl, rfl⟩
  exact Rv.str st
/-- A function that turns a row of one's own in place, and hands back what is left of it. -/
theorem satS_turn {G : World → Prop} {P : Program} {f : FuncId} {k k2 e s : Nat} {rs rs' : List (List A)} {extra : List L} {m0 : List (Nat × Blk)} (hcall : Callable P f) (hk : look m0 k = some (.row e s rs)) (hk2 : look m0 k2 = none) (hr' : ∀ r ∈ rs', r.length = s)
    (hone : ∀ r ∈ rs, ∀ x ∈ r, x.one = true) (hmen : ∀ j, Blk.men j (.row e s rs') → Blk.men j (.row e s rs))
    (H : ∀ (w : World) (B : Nat) (E : Nat → Value) (N : Nat → Prop) (v : Value) (es xs : List Value), w.ownsRow B e s v rs.length xs → (∀ u ∈ xs, u.oneCell' = true) → B ≤ w.heap.size → (∀ (i j : Nat) (r : List A) (a : A) (u : Value), rs[i]? = some r → r[j]? = some a → xs[i * s + j]? = some u → RvA E N w a u) →
      es.length = extra.length → (∀ (i : Nat) (x : L) (u : Value), extra[i]? = some x → es[i]? = some u → RvL E N w x u) →
      Calls P f (v :: es).toArray w fun x w' => ∃ v' ys, x = .returned v' ∧ w'.ownsRow B e s v' rs'.length ys ∧ Below B w w' ∧ (∀ b, b < w.heap.size → blkOf v ≠ some b → w'.heap[b]? = w.heap[b]?) ∧ (∀ b, blkOf v' = some b → blkOf v = some b ∨ w.heap.size ≤ b) ∧ Carried s rs rs' xs ys) :
    SatS G P f (.at (.row k rs.length) :: extra) m0 (.at (.row k2 rs'.length)) ((k2, .row e s rs') :: (k, .gone) :: m0) := by
  refine ⟨hcall, fun N0 w0 w E N vs hl hv hfx hE hb hg => ?_⟩
  have hB := hb.size
  obtain ⟨v, es, rfl⟩ : ∃ v es, vs = v :: es := by
    cases vs with
    | nil => simp at hl
    | cons v es => exact ⟨v, es, rfl⟩
  have hv0 := (hv 0 _ v rfl rfl).1
  obtain ⟨_, Ad, mm, cc, h1, h2, h3⟩ := hv0
  obtain ⟨xs, o1, o2, o3⟩ := hE.con k _ hk
  obtain ⟨Ad', c', h5⟩ := own_header o1
  have h6 := h5
  rw [h1] at h6
  cases h6
  have hvE : v = E k := by rw [h3 rfl, h1]
  rw [hvE]
  refine (H w w0.heap.size E N (E k) es xs o1 (fun u hu => ?_) hB o3 (by simpa using hl) fun i x u hx hu => (hv (i + 1) x u hx hu).1).mono ?_
  · obtain ⟨q, hq⟩ := List.mem_iff_getElem?.1 hu
    obtain ⟨r, x, g1, g2, g3⟩ := div_cell (fun r hr => by obtain ⟨i, hi⟩ := List.mem_iff_getElem?.1 hr; exact o2 i r hi) (q := q) (by rw [← o1.1]; exact (List.getElem?_eq_some_iff.1 hq).1)
    exact one_rv (hone r (List.mem_of_getElem? g1) x (List.mem_of_getElem? g2)) (o3 _ _ r x u g1 g2 (by rw [g3]; exact hq))
  · rintro x w' ⟨v', ys, rfl, a1, a2, a3, a4, a5⟩
    refine ⟨v', upd E k2 v', N, rfl, hb.trans a2, hE.turn hk hk2 (fun j hj => hE.fx j hj) a2.size a3 (fun b hb' => ?_) hB ⟨ys, a1, fun i r hi => hr' r (List.mem_of_getElem? hi), fun i j r a u hr ha hu => a5 (RvA E N w) rv_str o3 i j r a u hr ha hu⟩ (fun j hj => hE.wf k _ j hk (hmen j hj)), ?_, fun j hj => ?_⟩
    · rcases a4 b hb' with h | h
      · exact .inl h
      · refine .inr ⟨h, ?_⟩
        obtain ⟨Av, cv, hv'⟩ := own_header a1
        exact (a1.lt b (by rw [hv'] at hb' ⊢; cases Av <;> first | (cases hb'; done) | exact hb')).2
    · obtain ⟨Av, cv, hv'⟩ := own_header a1
      exact ⟨⟨Av, cv, hv'⟩, Av, _, cv, by rw [upd_same]; exact hv', Nat.le_refl _, fun _ => hv'⟩
    · have : k2 = j := hj
      subst this
      simp [look]
/-- A function that turns a row of one's own in place and hands back nothing. -/
theorem satS_sort {G : World → Prop} {P : Program} {f : FuncId} {k e s : Nat} {rs rs' : List (List A)} {m0 : List (Nat × Blk)} (hcall : Callable P f) (hk : look m0 k = some (.row e s rs)) (hr' : ∀ r ∈ rs', r.length = s) (hlen : rs'.length = rs.length)
    (hone : ∀ r ∈ rs, ∀ x ∈ r, x.one = true) (hmen : ∀ j, Blk.men j (.row e s rs') → Blk.men j (.row e s rs))
    (H : ∀ (w : World) (B : Nat) (E : Nat → Value) (N : Nat → Prop) (v : Value) (xs : List Value), w.ownsRow B e s v rs.length xs → (∀ u ∈ xs, u.oneCell' = true) → B ≤ w.heap.size → (∀ (i j : Nat) (r : List A) (a : A) (u : Value), rs[i]? = some r → r[j]? = some a → xs[i * s + j]? = some u → RvA E N w a u) →
      Calls P f #[v] w fun x w' => ∃ ys, x = .returned (.tuple #[]) ∧ w'.ownsRow B e s v rs.length ys ∧ Below B w w' ∧ (∀ b, b < w.heap.size → blkOf v ≠ some b → w'.heap[b]? = w.heap[b]?) ∧ Carried s rs rs' xs ys) :
    SatS G P f [.at (.row k rs.length)] m0 (.tup []) ((k, .row e s rs') :: m0) := by
  refine ⟨hcall, fun N0 w0 w E N vs hl hv hfx hE hb hg => ?_⟩
  have hB := hb.size
  obtain ⟨v, rfl⟩ : ∃ v, vs = [v] := List.length_eq_one_iff.1 (by simpa using hl)
  have hv0 := (hv 0 _ v rfl rfl).1
  obtain ⟨_, Ad, mm, cc, h1, h2, h3⟩ := hv0
  obtain ⟨xs, o1, o2, o3⟩ := hE.con k _ hk
  obtain ⟨Ad', c', h5⟩ := own_header o1
  have h6 := h5
  rw [h1] at h6
  cases h6
  have hvE : v = E k := by rw [h3 rfl, h1]
  rw [hvE]
  refine (H w w0.heap.size E N (E k) xs o1 (fun u hu => ?_) hB o3).mono ?_
  · obtain ⟨q, hq⟩ := List.mem_iff_getElem?.1 hu
    obtain ⟨r, x, g1, g2, g3⟩ := div_cell (fun r hr => by obtain ⟨i, hi⟩ := List.mem_iff_getElem?.1 hr; exact o2 i r hi) (q := q) (by rw [← o1.1]; exact (List.getElem?_eq_some_iff.1 hq).1)
    exact one_rv (hone r (List.mem_of_getElem? g1) x (List.mem_of_getElem? g2)) (o3 _ _ r x u g1 g2 (by rw [g3]; exact hq))
  · rintro x w' ⟨ys, rfl, a1, a2, a3, a5⟩
    have hupE : upd E k (E k) = E := by funext q; simp only [upd]; split <;> simp_all
    have hm : (fun j => look ((k, Blk.row e s rs') :: m0) j) = upd (look m0) k (some (.row e s rs')) := by funext j; simp only [look, upd]
    have hnew := hE.upd (w' := w') k (E k) (.row e s rs') a2.size (fun b hb' h => a3 b hb' (h _ hk rfl)) (fun _ _ => .inl rfl) (fun _ b hb' => by
        obtain ⟨g1, g2, g3⟩ := hE.live k _ b hk rfl hb'
        exact ⟨g1, g2, Nat.lt_of_lt_of_le g3 a2.size, .inl ⟨_, hk, rfl, hb'⟩⟩) (by
        rw [hupE]
        refine ⟨ys, by rw [hlen]; exact a1, fun i r hi => hr' r (List.mem_of_getElem? hi), fun i j r a u hr ha hu => ?_⟩
        exact RvA.mono (fun b hb' hlt => a3 b hlt fun h => (hE.live k _ b hk rfl h).1 hb') (fun _ h _ => h) (fun _ _ => rfl) (a5 (RvA E N w) rv_str o3 i j r a u hr ha hu)) (fun j hj => by
        have := hE.wf k _ j hk (hmen j hj)
        by_cases e' : k = j
        · subst e'; rw [upd_same]; simp
        · rw [upd_ne _ _ e']; exact this)
    rw [hupE] at hnew
    refine ⟨.tuple #[], E, N, rfl, hb.trans a2, ?_, ⟨[], rfl, rfl, fun i m u hm => by simp at hm⟩, fun j hj => by obtain ⟨m, hm, _⟩ := hj; simp at hm⟩
    show Env N0 _ w' (fun j => look ((k, Blk.row e s rs') :: m0) j) E N
    rw [hm]
    exact hnew
end Go.Proofs.YtpfhfokfambdaaaGreatDoor.Ev

namespace Go.Proofs
open Go.Shelf
def Tryz.lays156_ren : Go.Shelf.Ren := ⟨fun | 156 => 28 | 165 => 69 | 166 => 70 | 169 => 71 | 240 => 122 | 241 => 123 | 276 => 182 | 277 => 183 | n => n, fun | 31 => 28 | 9 => 9 | 3 => 3 | 4 => 4 | 0 => 0 | 20 => 20 | 72 => 103 | 76 => 107 | 70 => 100 | 37 => 101 | 75 => 106 | 127 => 154 | 164 => 212 | 5 => 5 | 80 => 109 | n => n, fun | n => n⟩
theorem Tryz.lays156 : Go.Proofs.Lays.n156 Tryz.prog Tryz.lays156_ren := {
  mixed := by kernel_rfl
  f156 := Tryz.func28.trans (congrArg some (by kernel_rfl))
  f165 := Tryz.func69.trans (congrArg some (by kernel_rfl))
  f166 := Tryz.func70.trans (congrArg some (by kernel_rfl))
  f169 := Tryz.func71.trans (congrArg some (by kernel_rfl))
  f240 := Tryz.func122.trans (congrArg some (by kernel_rfl))
  f241 := Tryz.func123.trans (congrArg some (by kernel_rfl))
  f276 := Tryz.func182.trans (congrArg some (by kernel_rfl))
  f277 := Tryz.func183.trans (congrArg some (by kernel_rfl))
  t0 := Tryz.underlying0
  a0 := Tryz.isAgg0
  z0 := Tryz.sizeOf0
  v0 := Tryz.zeroValue0
  t3 := Tryz.underlying3
  a3 := Tryz.isAgg3
  z3 := Tryz.sizeOf3
  v3 := Tryz.zeroValue3
  t4 := Tryz.underlying4
  a4 := Tryz.isAgg4
  z4 := Tryz.sizeOf4
  v4 := Tryz.zeroValue4
  t9 := Tryz.underlying9
  a9 := Tryz.isAgg9
  z9 := Tryz.sizeOf9
  v9 := Tryz.zeroValue9
  t20 := Tryz.underlying20
  a20 := Tryz.isAgg20
  z20 := Tryz.sizeOf20
  v20 := Tryz.zeroValue20
  t31 := Tryz.underlying28
  a31 := Tryz.isAgg28
  z31 := Tryz.sizeOf28
  v31 := Tryz.zeroValue28
  t37 := Tryz.underlying101
  a37 := Tryz.isAgg101
  z37 := Tryz.sizeOf101
  v37 := Tryz.zeroValue101
  t70 := Tryz.underlying100
  a70 := Tryz.isAgg100
  z70 := Tryz.sizeOf100
  v70 := Tryz.zeroValue100
  t72 := Tryz.underlying103
  a72 := Tryz.isAgg103
  z72 := Tryz.sizeOf103
  v72 := Tryz.zeroValue103
  t75 := Tryz.underlying106
  a75 := Tryz.isAgg106
  z75 := Tryz.sizeOf106
  v75 := Tryz.zeroValue106
  t76 := Tryz.underlying107
  a76 := Tryz.isAgg107
  z76 := Tryz.sizeOf107
  v76 := Tryz.zeroValue107
  t127 := Tryz.underlying154
  a127 := Tryz.isAgg154
  z127 := Tryz.sizeOf154
  v127 := Tryz.zeroValue154
  t164 := Tryz.underlying212
  a164 := Tryz.isAgg212
  z164 := Tryz.sizeOf212
  v164 := Tryz.zeroValue212 }
theorem Tryz.Builder_Extra_156 : Builder.Extra Tryz.prog Tryz.lays156_ren := {
  sizeBuilder := by kernel_rfl
  liesBuilder := by kernel_rfl
  t5 := Tryz.underlying5
  a5 := Tryz.isAgg5
  z5 := Tryz.sizeOf5
  v5 := Tryz.zeroValue5
  infoByte := by kernel_rfl
  cellsByte := by kernel_rfl
  sizeByte := by kernel_rfl
  neB5 := by decide }
open Go.RowKit in
/-- No element: the empty string; the world is as it was. (Whatever the slice's address and capacity: a nil slice too.) (LAID: no walk: one application.) -/
theorem Tryz.strings_Join_none (a : Option Addr) (c : Nat) (sep : ByteArray) (w : World) :
    Calls Tryz.prog 28 #[.slice a 0 c, .string sep] w fun e w' => e = .returned (.string ⟨#[]⟩) ∧ w' = w := Any.strings_Join_none Tryz.lays156 Tryz.Builder_Extra_156 a c sep w
open Go.RowKit in
/-- strings.Join: "Join concatenates the elements of its first argument to create a single string. The separator string sep is placed between elements in the resulting string.": HOWEVER MANY ELEMENTS. Below the heap's end the world is as it was. (LAID: no walk: one application.) -/
theorem Tryz.strings_Join (bk o c : Nat) (xs : List ByteArray) (sep : ByteArray) (w : World) (hcells : ∀ (j : Nat) x, xs[j]? = some x → w.cell? ⟨bk, o + j, none⟩ = some (.string x)) (hbk : bk < w.heap.size) (hN : xs.length ≤ 140737488355328) (hcap : xs.length ≤ c) (hlen : (Lib.join (xs.map (·.data.toList)) sep.data.toList).length ≤ 140737488355328) :
    Calls Tryz.prog 28 #[.slice (some ⟨bk, o, none⟩) xs.length c, .string sep] w fun e w' => e = .returned (.string ⟨(Lib.join (xs.map (·.data.toList)) sep.data.toList).toArray⟩) ∧ Below w.heap.size w w' := Any.strings_Join Tryz.lays156 Tryz.Builder_Extra_156 bk o c xs sep w hcells hbk hN hcap hlen
def Tryz.lays106_ren : Go.Shelf.Ren := ⟨fun | 106 => 133 | 213 => 188 | 265 => 222 | n => n, fun | 9 => 9 | 3 => 3 | n => n, fun | n => n⟩
theorem Tryz.lays106 : Go.Proofs.Lays.n106 Tryz.prog Tryz.lays106_ren := {
  mixed := by kernel_rfl
  f106 := Tryz.func133.trans (congrArg some (by kernel_rfl))
  f213 := Tryz.func188.trans (congrArg some (by kernel_rfl))
  f265 := Tryz.func222.trans (congrArg some (by kernel_rfl))
  t3 := Tryz.underlying3
  a3 := Tryz.isAgg3
  z3 := Tryz.sizeOf3
  v3 := Tryz.zeroValue3
  t9 := Tryz.underlying9
  a9 := Tryz.isAgg9
  z9 := Tryz.sizeOf9
  v9 := Tryz.zeroValue9 }
open Go.RowKit in
/-- strings.Compare: "Compare returns an integer comparing two strings lexicographically. The result will be 0 if a == b, -1 if a < b, and +1 if a > b.": IT RETURNS 'Lib.compareBytes a b'; the world is as it was. (LAID: no walk: one application.) -/
theorem Tryz.strings_Compare (a b : ByteArray) (w : World) :
    Calls Tryz.prog 133 #[.string a, .string b] w fun e w' => e = .returned (.int .i64 (Lib.compareBytes a.data.toList b.data.toList)) ∧ w' = w := Any.strings_Compare Tryz.lays106 a b w
def Tryz.lays137_ren : Go.Shelf.Ren := ⟨fun | 137 => 168 | 217 => 191 | 266 => 224 | n => n, fun | 9 => 9 | 5 => 5 | 3 => 3 | n => n, fun | n => n⟩
theorem Tryz.lays137 : Go.Proofs.Lays.n137 Tryz.prog Tryz.lays137_ren := {
  mixed := by kernel_rfl
  f137 := Tryz.func168.trans (congrArg some (by kernel_rfl))
  f217 := Tryz.func191.trans (congrArg some (by kernel_rfl))
  f266 := Tryz.func224.trans (congrArg some (by kernel_rfl))
  t3 := Tryz.underlying3
  a3 := Tryz.isAgg3
  z3 := Tryz.sizeOf3
  v3 := Tryz.zeroValue3
  t5 := Tryz.underlying5
  a5 := Tryz.isAgg5
  z5 := Tryz.sizeOf5
  v5 := Tryz.zeroValue5
  t9 := Tryz.underlying9
  a9 := Tryz.isAgg9
  z9 := Tryz.sizeOf9
  v9 := Tryz.zeroValue9 }
open Go.RowKit in
/-- strings.IndexByte: "IndexByte returns the index of the first instance of c in s, or -1 if c is not present in s.": IT RETURNS 'Lib.indexByte s c'; the world is as it was. (LAID: no walk: one application.) -/
theorem Tryz.strings_IndexByte (s : ByteArray) (c : Int) (w : World) :
    Calls Tryz.prog 168 #[.string s, .int .u8 c] w fun e w' => e = .returned (.int .i64 (Lib.indexByte s.data.toList c.toNat.toUInt8)) ∧ w' = w := Any.strings_IndexByte Tryz.lays137 s c w
def Tryz.lays172_ren : Go.Shelf.Ren := ⟨fun | 172 => 162 | 244 => 207 | 245 => 208 | 247 => 249 | 279 => 250 | 280 => 251 | 281 => 252 | 282 => 253 | 287 => 270 | 316 => 271 | 171 => 211 | 205 => 272 | 321 => 279 | 322 => 280 | 243 => 255 | 246 => 273 | 283 => 281 | 284 => 282 | 285 => 283 | 286 => 284 | 129 => 235 | 317 => 286 | 318 => 287 | 319 => 288 | 320 => 289 | 337 => 290 | 338 => 291 | n => n, fun | 9 => 9 | 3 => 3 | 75 => 106 | 76 => 107 | 4 => 4 | 5 => 5 | 167 => 266 | 37 => 101 | 0 => 0 | 85 => 267 | 2 => 2 | 168 => 269 | 53 => 252 | 175 => 283 | 46 => 202 | 210 => 287 | 127 => 154 | 145 => 296 | 143 => 294 | 21 => 21 | 171 => 297 | 173 => 299 | 212 => 303 | 51 => 240 | 20 => 20 | 213 => 304 | 232 => 305 | 233 => 306 | 80 => 109 | n => n, fun | 15 => 3 | 16 => 4 | 17 => 5 | 18 => 6 | 19 => 7 | n => n⟩
theorem Tryz.lays172 : Go.Proofs.Lays.n172 Tryz.prog Tryz.lays172_ren := {
  mixed := by kernel_rfl
  f129 := Tryz.func235.trans (congrArg some (by kernel_rfl))
  f171 := Tryz.func211.trans (congrArg some (by kernel_rfl))
  f172 := Tryz.func162.trans (congrArg some (by kernel_rfl))
  f205 := Tryz.func272.trans (congrArg some (by kernel_rfl))
  f243 := Tryz.func255.trans (congrArg some (by kernel_rfl))
  f244 := Tryz.func207.trans (congrArg some (by kernel_rfl))
  f245 := Tryz.func208.trans (congrArg some (by kernel_rfl))
  f246 := Tryz.func273.trans (congrArg some (by kernel_rfl))
  f247 := Tryz.func249.trans (congrArg some (by kernel_rfl))
  f279 := Tryz.func250.trans (congrArg some (by kernel_rfl))
  f280 := Tryz.func251.trans (congrArg some (by kernel_rfl))
  f281 := Tryz.func252.trans (congrArg some (by kernel_rfl))
  f282 := Tryz.func253.trans (congrArg some (by kernel_rfl))
  f283 := Tryz.func281.trans (congrArg some (by kernel_rfl))
  f284 := Tryz.func282.trans (congrArg some (by kernel_rfl))
  f285 := Tryz.func283.trans (congrArg some (by kernel_rfl))
  f286 := Tryz.func284.trans (congrArg some (by kernel_rfl))
  f287 := Tryz.func270.trans (congrArg some (by kernel_rfl))
  f316 := Tryz.func271.trans (congrArg some (by kernel_rfl))
  f317 := Tryz.func286.trans (congrArg some (by kernel_rfl))
  f318 := Tryz.func287.trans (congrArg some (by kernel_rfl))
  f319 := Tryz.func288.trans (congrArg some (by kernel_rfl))
  f320 := Tryz.func289.trans (congrArg some (by kernel_rfl))
  f321 := Tryz.func279.trans (congrArg some (by kernel_rfl))
  f322 := Tryz.func280.trans (congrArg some (by kernel_rfl))
  f337 := Tryz.func290.trans (congrArg some (by kernel_rfl))
  f338 := Tryz.func291.trans (congrArg some (by kernel_rfl))
  t0 := Tryz.underlying0
  a0 := Tryz.isAgg0
  z0 := Tryz.sizeOf0
  v0 := Tryz.zeroValue0
  t2 := Tryz.underlying2
  a2 := Tryz.isAgg2
  z2 := Tryz.sizeOf2
  v2 := Tryz.zeroValue2
  t3 := Tryz.underlying3
  a3 := Tryz.isAgg3
  z3 := Tryz.sizeOf3
  v3 := Tryz.zeroValue3
  t4 := Tryz.underlying4
  a4 := Tryz.isAgg4
  z4 := Tryz.sizeOf4
  v4 := Tryz.zeroValue4
  t5 := Tryz.underlying5
  a5 := Tryz.isAgg5
  z5 := Tryz.sizeOf5
  v5 := Tryz.zeroValue5
  t9 := Tryz.underlying9
  a9 := Tryz.isAgg9
  z9 := Tryz.sizeOf9
  v9 := Tryz.zeroValue9
  t20 := Tryz.underlying20
  a20 := Tryz.isAgg20
  z20 := Tryz.sizeOf20
  v20 := Tryz.zeroValue20
  t21 := Tryz.underlying21
  a21 := Tryz.isAgg21
  z21 := Tryz.sizeOf21
  v21 := Tryz.zeroValue21
  t37 := Tryz.underlying101
  a37 := Tryz.isAgg101
  z37 := Tryz.sizeOf101
  v37 := Tryz.zeroValue101
  t46 := Tryz.underlying202
  a46 := Tryz.isAgg202
  z46 := Tryz.sizeOf202
  v46 := Tryz.zeroValue202
  t51 := Tryz.underlying240
  a51 := Tryz.isAgg240
  z51 := Tryz.sizeOf240
  v51 := Tryz.zeroValue240
  t53 := Tryz.underlying252
  a53 := Tryz.isAgg252
  z53 := Tryz.sizeOf252
  v53 := Tryz.zeroValue252
  t75 := Tryz.underlying106
  a75 := Tryz.isAgg106
  z75 := Tryz.sizeOf106
  v75 := Tryz.zeroValue106
  t76 := Tryz.underlying107
  a76 := Tryz.isAgg107
  z76 := Tryz.sizeOf107
  v76 := Tryz.zeroValue107
  t85 := Tryz.underlying267
  a85 := Tryz.isAgg267
  z85 := Tryz.sizeOf267
  v85 := Tryz.zeroValue267
  t127 := Tryz.underlying154
  a127 := Tryz.isAgg154
  z127 := Tryz.sizeOf154
  v127 := Tryz.zeroValue154
  t143 := Tryz.underlying294
  a143 := Tryz.isAgg294
  z143 := Tryz.sizeOf294
  v143 := Tryz.zeroValue294
  t145 := Tryz.underlying296
  a145 := Tryz.isAgg296
  z145 := Tryz.sizeOf296
  v145 := Tryz.zeroValue296
  t167 := Tryz.underlying266
  a167 := Tryz.isAgg266
  z167 := Tryz.sizeOf266
  v167 := Tryz.zeroValue266
  t168 := Tryz.underlying269
  a168 := Tryz.isAgg269
  z168 := Tryz.sizeOf269
  v168 := Tryz.zeroValue269
  t171 := Tryz.underlying297
  a171 := Tryz.isAgg297
  z171 := Tryz.sizeOf297
  v171 := Tryz.zeroValue297
  t173 := Tryz.underlying299
  a173 := Tryz.isAgg299
  z173 := Tryz.sizeOf299
  v173 := Tryz.zeroValue299
  t175 := Tryz.underlying283
  a175 := Tryz.isAgg283
  z175 := Tryz.sizeOf283
  v175 := Tryz.zeroValue283
  t210 := Tryz.underlying287
  a210 := Tryz.isAgg287
  z210 := Tryz.sizeOf287
  v210 := Tryz.zeroValue287
  t212 := Tryz.underlying303
  a212 := Tryz.isAgg303
  z212 := Tryz.sizeOf303
  v212 := Tryz.zeroValue303
  t213 := Tryz.underlying304
  a213 := Tryz.isAgg304
  z213 := Tryz.sizeOf304
  t232 := Tryz.underlying305
  a232 := Tryz.isAgg305
  z232 := Tryz.sizeOf305
  v232 := Tryz.zeroValue305
  t233 := Tryz.underlying306
  a233 := Tryz.isAgg306
  z233 := Tryz.sizeOf306
  v233 := Tryz.zeroValue306
  g15 := by kernel_rfl
  g16 := by kernel_rfl
  g17 := by kernel_rfl
  g18 := by kernel_rfl
  g19 := by kernel_rfl }
open Go.RowKit in
/-- strconv.Atoi: "Atoi is equivalent to ParseInt(s, 10, 0), converted to type int.": AT A DECIMAL NUMERAL OF AT MOST 18 BYTES: its value, and a nil error. The world behind the call: the one new row that the library's '[]byte(s)' lays. (LAID: no walk: one application.) -/
theorem Tryz.strconv_Atoi (s : ByteArray) (n : Int) (hl : s.size ≤ 18) (h : Lib.atoi s.data.toList = some n) (w : World) :
    Calls Tryz.prog 162 #[.string s] w fun e w' => e = .returned (.tuple #[.int .i64 n, .nilIface]) ∧ ∃ t, w' = Lib.bytesWorld w 5 t := Any.strconv_Atoi Tryz.lays172 s n hl h w
def Tryz.lays171_ren : Go.Shelf.Ren := ⟨fun | 171 => 211 | 243 => 255 | 246 => 273 | 283 => 281 | 284 => 282 | 285 => 283 | 286 => 284 | 129 => 235 | 317 => 286 | 318 => 287 | 319 => 288 | 320 => 289 | 337 => 290 | 338 => 291 | n => n, fun | 3 => 3 | 9 => 9 | 2 => 2 | 4 => 4 | 171 => 297 | 0 => 0 | 53 => 252 | 37 => 101 | 5 => 5 | 173 => 299 | 212 => 303 | 51 => 240 | 20 => 20 | 213 => 304 | 46 => 202 | 232 => 305 | 233 => 306 | n => n, fun | 17 => 5 | 18 => 6 | 19 => 7 | n => n⟩
theorem Tryz.lays171 : Go.Proofs.Lays.n171 Tryz.prog Tryz.lays171_ren := {
  mixed := by kernel_rfl
  f129 := Tryz.func235.trans (congrArg some (by kernel_rfl))
  f171 := Tryz.func211.trans (congrArg some (by kernel_rfl))
  f243 := Tryz.func255.trans (congrArg some (by kernel_rfl))
  f246 := Tryz.func273.trans (congrArg some (by kernel_rfl))
  f283 := Tryz.func281.trans (congrArg some (by kernel_rfl))
  f284 := Tryz.func282.trans (congrArg some (by kernel_rfl))
  f285 := Tryz.func283.trans (congrArg some (by kernel_rfl))
  f286 := Tryz.func284.trans (congrArg some (by kernel_rfl))
  f317 := Tryz.func286.trans (congrArg some (by kernel_rfl))
  f318 := Tryz.func287.trans (congrArg some (by kernel_rfl))
  f319 := Tryz.func288.trans (congrArg some (by kernel_rfl))
  f320 := Tryz.func289.trans (congrArg some (by kernel_rfl))
  f337 := Tryz.func290.trans (congrArg some (by kernel_rfl))
  f338 := Tryz.func291.trans (congrArg some (by kernel_rfl))
  t0 := Tryz.underlying0
  a0 := Tryz.isAgg0
  z0 := Tryz.sizeOf0
  v0 := Tryz.zeroValue0
  t2 := Tryz.underlying2
  a2 := Tryz.isAgg2
  z2 := Tryz.sizeOf2
  v2 := Tryz.zeroValue2
  t3 := Tryz.underlying3
  a3 := Tryz.isAgg3
  z3 := Tryz.sizeOf3
  v3 := Tryz.zeroValue3
  t4 := Tryz.underlying4
  a4 := Tryz.isAgg4
  z4 := Tryz.sizeOf4
  v4 := Tryz.zeroValue4
  t5 := Tryz.underlying5
  a5 := Tryz.isAgg5
  z5 := Tryz.sizeOf5
  v5 := Tryz.zeroValue5
  t9 := Tryz.underlying9
  a9 := Tryz.isAgg9
  z9 := Tryz.sizeOf9
  v9 := Tryz.zeroValue9
  t20 := Tryz.underlying20
  a20 := Tryz.isAgg20
  z20 := Tryz.sizeOf20
  v20 := Tryz.zeroValue20
  t37 := Tryz.underlying101
  a37 := Tryz.isAgg101
  z37 := Tryz.sizeOf101
  v37 := Tryz.zeroValue101
  t46 := Tryz.underlying202
  a46 := Tryz.isAgg202
  z46 := Tryz.sizeOf202
  v46 := Tryz.zeroValue202
  t51 := Tryz.underlying240
  a51 := Tryz.isAgg240
  z51 := Tryz.sizeOf240
  v51 := Tryz.zeroValue240
  t53 := Tryz.underlying252
  a53 := Tryz.isAgg252
  z53 := Tryz.sizeOf252
  v53 := Tryz.zeroValue252
  t171 := Tryz.underlying297
  a171 := Tryz.isAgg297
  z171 := Tryz.sizeOf297
  v171 := Tryz.zeroValue297
  t173 := Tryz.underlying299
  a173 := Tryz.isAgg299
  z173 := Tryz.sizeOf299
  v173 := Tryz.zeroValue299
  t212 := Tryz.underlying303
  a212 := Tryz.isAgg303
  z212 := Tryz.sizeOf303
  v212 := Tryz.zeroValue303
  t213 := Tryz.underlying304
  a213 := Tryz.isAgg304
  z213 := Tryz.sizeOf304
  t232 := Tryz.underlying305
  a232 := Tryz.isAgg305
  z232 := Tryz.sizeOf305
  v232 := Tryz.zeroValue305
  t233 := Tryz.underlying306
  a233 := Tryz.isAgg306
  z233 := Tryz.sizeOf306
  v233 := Tryz.zeroValue306
  g17 := by kernel_rfl
  g18 := by kernel_rfl
  g19 := by kernel_rfl }
open Go.RowKit Go.Sort Go.Lib in
/-- THE ROAD WITHOUT THE TABLE: 0 <= i < 100: NO PREMISE ON THE WORLD, AND THE WORLD IS AS IT WAS: a row that keeps its argument in that range need list no table ('laid = []'). (LAID: no walk: one application.) -/
theorem Tryz.strconv_Itoa_small (i : Nat) (hi : i < 100) (w : World) :
    Calls Tryz.prog 211 #[.int .i64 i] w fun e w' => e = .returned (.string ⟨(Lib.decDigits i).toArray⟩) ∧ w' = w := Any.strconv_Itoa_small Tryz.lays171 i hi w
def Tryz.lays190_ren : Go.Shelf.Ren := ⟨fun | 190 => 141 | 125 => 196 | 258 => 195 | 128 => 234 | 129 => 235 | 302 => 226 | 303 => 227 | 304 => 228 | 305 => 229 | 306 => 230 | 307 => 231 | 308 => 64 | 309 => 232 | 310 => 233 | 333 => 261 | 329 => 262 | 330 => 263 | 334 => 264 | 335 => 265 | 336 => 118 | 344 => 276 | n => n, fun | 31 => 28 | 9 => 9 | 3 => 3 | 46 => 202 | 0 => 0 | 51 => 240 | 53 => 252 | 4 => 4 | 183 => 245 | 182 => 244 | 131 => 147 | 5 => 5 | 218 => 276 | 222 => 280 | 228 => 290 | 229 => 68 | n => n, fun | n => n⟩
theorem Tryz.lays190 : Go.Proofs.Lays.n190 Tryz.prog Tryz.lays190_ren := {
  mixed := by kernel_rfl
  f125 := Tryz.func196.trans (congrArg some (by kernel_rfl))
  f128 := Tryz.func234.trans (congrArg some (by kernel_rfl))
  f129 := Tryz.func235.trans (congrArg some (by kernel_rfl))
  f190 := Tryz.func141.trans (congrArg some (by kernel_rfl))
  f258 := Tryz.func195.trans (congrArg some (by kernel_rfl))
  f302 := Tryz.func226.trans (congrArg some (by kernel_rfl))
  f303 := Tryz.func227.trans (congrArg some (by kernel_rfl))
  f304 := Tryz.func228.trans (congrArg some (by kernel_rfl))
  f305 := Tryz.func229.trans (congrArg some (by kernel_rfl))
  f306 := Tryz.func230.trans (congrArg some (by kernel_rfl))
  f307 := Tryz.func231.trans (congrArg some (by kernel_rfl))
  f308 := Tryz.func64.trans (congrArg some (by kernel_rfl))
  f309 := Tryz.func232.trans (congrArg some (by kernel_rfl))
  f310 := Tryz.func233.trans (congrArg some (by kernel_rfl))
  f329 := Tryz.func262.trans (congrArg some (by kernel_rfl))
  f330 := Tryz.func263.trans (congrArg some (by kernel_rfl))
  f333 := Tryz.func261.trans (congrArg some (by kernel_rfl))
  f334 := Tryz.func264.trans (congrArg some (by kernel_rfl))
  f335 := Tryz.func265.trans (congrArg some (by kernel_rfl))
  f336 := Tryz.func118.trans (congrArg some (by kernel_rfl))
  f344 := Tryz.func276.trans (congrArg some (by kernel_rfl))
  t0 := Tryz.underlying0
  a0 := Tryz.isAgg0
  z0 := Tryz.sizeOf0
  v0 := Tryz.zeroValue0
  t3 := Tryz.underlying3
  a3 := Tryz.isAgg3
  z3 := Tryz.sizeOf3
  v3 := Tryz.zeroValue3
  t4 := Tryz.underlying4
  a4 := Tryz.isAgg4
  z4 := Tryz.sizeOf4
  v4 := Tryz.zeroValue4
  t5 := Tryz.underlying5
  a5 := Tryz.isAgg5
  z5 := Tryz.sizeOf5
  v5 := Tryz.zeroValue5
  t9 := Tryz.underlying9
  a9 := Tryz.isAgg9
  z9 := Tryz.sizeOf9
  v9 := Tryz.zeroValue9
  t31 := Tryz.underlying28
  a31 := Tryz.isAgg28
  z31 := Tryz.sizeOf28
  v31 := Tryz.zeroValue28
  t46 := Tryz.underlying202
  a46 := Tryz.isAgg202
  z46 := Tryz.sizeOf202
  v46 := Tryz.zeroValue202
  t51 := Tryz.underlying240
  a51 := Tryz.isAgg240
  z51 := Tryz.sizeOf240
  v51 := Tryz.zeroValue240
  t53 := Tryz.underlying252
  a53 := Tryz.isAgg252
  z53 := Tryz.sizeOf252
  v53 := Tryz.zeroValue252
  t131 := Tryz.underlying147
  a131 := Tryz.isAgg147
  z131 := Tryz.sizeOf147
  v131 := Tryz.zeroValue147
  t182 := Tryz.underlying244
  a182 := Tryz.isAgg244
  z182 := Tryz.sizeOf244
  v182 := Tryz.zeroValue244
  t183 := Tryz.underlying245
  a183 := Tryz.isAgg245
  z183 := Tryz.sizeOf245
  v183 := Tryz.zeroValue245
  t218 := Tryz.underlying276
  a218 := Tryz.isAgg276
  z218 := Tryz.sizeOf276
  v218 := Tryz.zeroValue276
  t222 := Tryz.underlying280
  a222 := Tryz.isAgg280
  z222 := Tryz.sizeOf280
  v222 := Tryz.zeroValue280
  t228 := Tryz.underlying290
  a228 := Tryz.isAgg290
  z228 := Tryz.sizeOf290
  v228 := Tryz.zeroValue290
  t229 := Tryz.underlying68
  a229 := Tryz.isAgg68
  z229 := Tryz.sizeOf68
  v229 := Tryz.zeroValue68 }
open Go.Sort Go.RowKit in
theorem Tryz.slices_Sort_string (blk off cap : Nat) (ss : List (List UInt8)) (w : World) (hH : Holds encStr w blk off ss.toArray) (hblk : blk < w.heap.size) (hsz : ss.length < 4611686018427387904) :
    Calls Tryz.prog 141 #[.slice (some ⟨blk, off, none⟩) ss.length cap] w fun e w' =>
      e = .returned (.tuple #[]) ∧ ∃ n os, w' = grow (putRow encStr (Sort.ahead w n) blk off (ss.mergeSort fun x y => decide (x ≤ y)).toArray) os := Any.slices_Sort_string Tryz.lays190 blk off cap ss w hH hblk hsz
def Tryz.lays146_ren : Go.Shelf.Ren := ⟨fun | 146 => 24 | 221 => 65 | 268 => 119 | 138 => 84 | 143 => 85 | 195 => 137 | 197 => 86 | 218 => 138 | 219 => 139 | 260 => 140 | 217 => 191 | 225 => 192 | 224 => 193 | 267 => 194 | 266 => 224 | 314 => 225 | n => n, fun | 9 => 9 | 31 => 28 | 3 => 3 | 4 => 4 | 0 => 0 | 105 => 124 | 21 => 21 | 5 => 5 | 46 => 202 | 119 => 219 | 139 => 222 | 138 => 221 | 146 => 241 | 51 => 240 | n => n, fun | 1 => 0 | 3 => 1 | 4 => 2 | n => n⟩
theorem Tryz.lays146 : Go.Proofs.Lays.n146 Tryz.prog Tryz.lays146_ren := {
  mixed := by kernel_rfl
  f138 := Tryz.func84.trans (congrArg some (by kernel_rfl))
  f143 := Tryz.func85.trans (congrArg some (by kernel_rfl))
  f146 := Tryz.func24.trans (congrArg some (by kernel_rfl))
  f195 := Tryz.func137.trans (congrArg some (by kernel_rfl))
  f197 := Tryz.func86.trans (congrArg some (by kernel_rfl))
  f217 := Tryz.func191.trans (congrArg some (by kernel_rfl))
  f218 := Tryz.func138.trans (congrArg some (by kernel_rfl))
  f219 := Tryz.func139.trans (congrArg some (by kernel_rfl))
  f221 := Tryz.func65.trans (congrArg some (by kernel_rfl))
  f224 := Tryz.func193.trans (congrArg some (by kernel_rfl))
  f225 := Tryz.func192.trans (congrArg some (by kernel_rfl))
  f260 := Tryz.func140.trans (congrArg some (by kernel_rfl))
  f266 := Tryz.func224.trans (congrArg some (by kernel_rfl))
  f267 := Tryz.func194.trans (congrArg some (by kernel_rfl))
  f268 := Tryz.func119.trans (congrArg some (by kernel_rfl))
  f314 := Tryz.func225.trans (congrArg some (by kernel_rfl))
  t0 := Tryz.underlying0
  a0 := Tryz.isAgg0
  z0 := Tryz.sizeOf0
  v0 := Tryz.zeroValue0
  t3 := Tryz.underlying3
  a3 := Tryz.isAgg3
  z3 := Tryz.sizeOf3
  v3 := Tryz.zeroValue3
  t4 := Tryz.underlying4
  a4 := Tryz.isAgg4
  z4 := Tryz.sizeOf4
  v4 := Tryz.zeroValue4
  t5 := Tryz.underlying5
  a5 := Tryz.isAgg5
  z5 := Tryz.sizeOf5
  v5 := Tryz.zeroValue5
  t9 := Tryz.underlying9
  a9 := Tryz.isAgg9
  z9 := Tryz.sizeOf9
  v9 := Tryz.zeroValue9
  t21 := Tryz.underlying21
  a21 := Tryz.isAgg21
  z21 := Tryz.sizeOf21
  v21 := Tryz.zeroValue21
  t31 := Tryz.underlying28
  a31 := Tryz.isAgg28
  z31 := Tryz.sizeOf28
  v31 := Tryz.zeroValue28
  t46 := Tryz.underlying202
  a46 := Tryz.isAgg202
  z46 := Tryz.sizeOf202
  v46 := Tryz.zeroValue202
  t51 := Tryz.underlying240
  a51 := Tryz.isAgg240
  z51 := Tryz.sizeOf240
  v51 := Tryz.zeroValue240
  t105 := Tryz.underlying124
  a105 := Tryz.isAgg124
  z105 := Tryz.sizeOf124
  v105 := Tryz.zeroValue124
  t119 := Tryz.underlying219
  a119 := Tryz.isAgg219
  z119 := Tryz.sizeOf219
  t138 := Tryz.underlying221
  a138 := Tryz.isAgg221
  z138 := Tryz.sizeOf221
  v138 := Tryz.zeroValue221
  t139 := Tryz.underlying222
  a139 := Tryz.isAgg222
  z139 := Tryz.sizeOf222
  v139 := Tryz.zeroValue222
  t146 := Tryz.underlying241
  a146 := Tryz.isAgg241
  z146 := Tryz.sizeOf241
  v146 := Tryz.zeroValue241
  g1 := by kernel_rfl
  g3 := by kernel_rfl
  g4 := by kernel_rfl }
open Go.RowKit Go.Lib in
/-- strings.Split. (LAID: no walk: one application.) -/
theorem Tryz.strings_Split (s sep : ByteArray) (m : Int) (w : World) (hs : s.size < 4294967281) (hm : w.cell? ⟨0, 0, none⟩ = some (.int .i64 m)) (h1 : 1 ≤ sep.size) :
    Calls Tryz.prog 24 #[.string s, .string sep] w fun e w' =>
      e = .returned (.slice (some ⟨w.heap.size, 0, none⟩) (Lib.countB s sep + 1) (Lib.countB s sep + 1)) ∧ w' = w.alloc (.cells ((Lib.splitB sep 0 (Lib.countB s sep) s).map Value.string).toArray 9) := Any.strings_Split Tryz.lays146 (by kernel_rfl) s sep m w hs hm h1
def Tryz.lays154_ren : Go.Shelf.Ren := ⟨fun | 154 => 40 | 138 => 84 | 165 => 69 | 143 => 85 | 166 => 70 | 197 => 86 | 169 => 71 | 195 => 137 | 218 => 138 | 240 => 122 | 241 => 123 | 219 => 139 | 260 => 140 | 276 => 182 | 277 => 183 | 217 => 191 | 225 => 192 | 224 => 193 | 267 => 194 | 266 => 224 | 314 => 225 | n => n, fun | 9 => 9 | 3 => 3 | 4 => 4 | 72 => 103 | 0 => 0 | 76 => 107 | 105 => 124 | 21 => 21 | 5 => 5 | 70 => 100 | 20 => 20 | 37 => 101 | 75 => 106 | 127 => 154 | 164 => 212 | 46 => 202 | 119 => 219 | 139 => 222 | 138 => 221 | 146 => 241 | 51 => 240 | 80 => 109 | n => n, fun | 1 => 0 | 3 => 1 | 4 => 2 | n => n⟩
theorem Tryz.lays154 : Go.Proofs.Lays.n154 Tryz.prog Tryz.lays154_ren := {
  mixed := by kernel_rfl
  f138 := Tryz.func84.trans (congrArg some (by kernel_rfl))
  f143 := Tryz.func85.trans (congrArg some (by kernel_rfl))
  f154 := Tryz.func40.trans (congrArg some (by kernel_rfl))
  f165 := Tryz.func69.trans (congrArg some (by kernel_rfl))
  f166 := Tryz.func70.trans (congrArg some (by kernel_rfl))
  f169 := Tryz.func71.trans (congrArg some (by kernel_rfl))
  f195 := Tryz.func137.trans (congrArg some (by kernel_rfl))
  f197 := Tryz.func86.trans (congrArg some (by kernel_rfl))
  f217 := Tryz.func191.trans (congrArg some (by kernel_rfl))
  f218 := Tryz.func138.trans (congrArg some (by kernel_rfl))
  f219 := Tryz.func139.trans (congrArg some (by kernel_rfl))
  f224 := Tryz.func193.trans (congrArg some (by kernel_rfl))
  f225 := Tryz.func192.trans (congrArg some (by kernel_rfl))
  f240 := Tryz.func122.trans (congrArg some (by kernel_rfl))
  f241 := Tryz.func123.trans (congrArg some (by kernel_rfl))
  f260 := Tryz.func140.trans (congrArg some (by kernel_rfl))
  f266 := Tryz.func224.trans (congrArg some (by kernel_rfl))
  f267 := Tryz.func194.trans (congrArg some (by kernel_rfl))
  f276 := Tryz.func182.trans (congrArg some (by kernel_rfl))
  f277 := Tryz.func183.trans (congrArg some (by kernel_rfl))
  f314 := Tryz.func225.trans (congrArg some (by kernel_rfl))
  t0 := Tryz.underlying0
  a0 := Tryz.isAgg0
  z0 := Tryz.sizeOf0
  v0 := Tryz.zeroValue0
  t3 := Tryz.underlying3
  a3 := Tryz.isAgg3
  z3 := Tryz.sizeOf3
  v3 := Tryz.zeroValue3
  t4 := Tryz.underlying4
  a4 := Tryz.isAgg4
  z4 := Tryz.sizeOf4
  v4 := Tryz.zeroValue4
  t5 := Tryz.underlying5
  a5 := Tryz.isAgg5
  z5 := Tryz.sizeOf5
  v5 := Tryz.zeroValue5
  t9 := Tryz.underlying9
  a9 := Tryz.isAgg9
  z9 := Tryz.sizeOf9
  v9 := Tryz.zeroValue9
  t20 := Tryz.underlying20
  a20 := Tryz.isAgg20
  z20 := Tryz.sizeOf20
  v20 := Tryz.zeroValue20
  t21 := Tryz.underlying21
  a21 := Tryz.isAgg21
  z21 := Tryz.sizeOf21
  v21 := Tryz.zeroValue21
  t37 := Tryz.underlying101
  a37 := Tryz.isAgg101
  z37 := Tryz.sizeOf101
  v37 := Tryz.zeroValue101
  t46 := Tryz.underlying202
  a46 := Tryz.isAgg202
  z46 := Tryz.sizeOf202
  v46 := Tryz.zeroValue202
  t51 := Tryz.underlying240
  a51 := Tryz.isAgg240
  z51 := Tryz.sizeOf240
  v51 := Tryz.zeroValue240
  t70 := Tryz.underlying100
  a70 := Tryz.isAgg100
  z70 := Tryz.sizeOf100
  v70 := Tryz.zeroValue100
  t72 := Tryz.underlying103
  a72 := Tryz.isAgg103
  z72 := Tryz.sizeOf103
  v72 := Tryz.zeroValue103
  t75 := Tryz.underlying106
  a75 := Tryz.isAgg106
  z75 := Tryz.sizeOf106
  v75 := Tryz.zeroValue106
  t76 := Tryz.underlying107
  a76 := Tryz.isAgg107
  z76 := Tryz.sizeOf107
  v76 := Tryz.zeroValue107
  t105 := Tryz.underlying124
  a105 := Tryz.isAgg124
  z105 := Tryz.sizeOf124
  v105 := Tryz.zeroValue124
  t119 := Tryz.underlying219
  a119 := Tryz.isAgg219
  z119 := Tryz.sizeOf219
  t127 := Tryz.underlying154
  a127 := Tryz.isAgg154
  z127 := Tryz.sizeOf154
  v127 := Tryz.zeroValue154
  t138 := Tryz.underlying221
  a138 := Tryz.isAgg221
  z138 := Tryz.sizeOf221
  v138 := Tryz.zeroValue221
  t139 := Tryz.underlying222
  a139 := Tryz.isAgg222
  z139 := Tryz.sizeOf222
  v139 := Tryz.zeroValue222
  t146 := Tryz.underlying241
  a146 := Tryz.isAgg241
  z146 := Tryz.sizeOf241
  v146 := Tryz.zeroValue241
  t164 := Tryz.underlying212
  a164 := Tryz.isAgg212
  z164 := Tryz.sizeOf212
  v164 := Tryz.zeroValue212
  g1 := by kernel_rfl
  g3 := by kernel_rfl
  g4 := by kernel_rfl }
theorem Tryz.Builder_Extra_154 : Builder.Extra Tryz.prog Tryz.lays154_ren := {
  sizeBuilder := by kernel_rfl
  liesBuilder := by kernel_rfl
  t5 := Tryz.underlying5
  a5 := Tryz.isAgg5
  z5 := Tryz.sizeOf5
  v5 := Tryz.zeroValue5
  infoByte := by kernel_rfl
  cellsByte := by kernel_rfl
  sizeByte := by kernel_rfl
  neB5 := by decide }
open Go.RowKit Go.Lib in
/-- strings.Replace: "Replace returns a copy of the string s with the first n non-overlapping instances of old replaced by new. .. If n < 0, there is no limit on the number of replacements.": AT AN old THAT IS NOT EMPTY: IT RETURNS 'Lib.replace s old new n'. Below the heap's end the world is as it was. IT ASKS, as strings.Index's contract: 'len(s) < 4294967281', 'hm'; and that what comes out has room: 'len(s) + Count(s, old) * len(new) ≤ 2^47'. (LAID: no walk: one application.) -/
theorem Tryz.strings_Replace (s old new : ByteArray) (n : Int) (m : Int) (w : World) (hs : s.size < 4294967281) (hm : w.cell? ⟨0, 0, none⟩ = some (.int .i64 m)) (h1 : 1 ≤ old.size) (hlen : s.size + Lib.countB s old * new.size ≤ 140737488355328) :
    Calls Tryz.prog 40 #[.string s, .string old, .string new, .int .i64 n] w fun e w' =>
      e = .returned (.string ⟨(Lib.replace s.data.toList old.data.toList new.data.toList n).toArray⟩) ∧ Below w.heap.size w w' := Any.strings_Replace Tryz.lays154 Tryz.Builder_Extra_154 s old new n m w hs hm h1 hlen
def Tryz.lays194_ren : Go.Shelf.Ren := ⟨fun | 194 => 142 | n => n, fun | 31 => 28 | 9 => 9 | 3 => 3 | 4 => 4 | 0 => 0 | n => n, fun | n => n⟩
theorem Tryz.lays194 : Go.Proofs.Lays.n194 Tryz.prog Tryz.lays194_ren := {
  mixed := by kernel_rfl
  f194 := Tryz.func142.trans (congrArg some (by kernel_rfl))
  t0 := Tryz.underlying0
  a0 := Tryz.isAgg0
  z0 := Tryz.sizeOf0
  v0 := Tryz.zeroValue0
  t3 := Tryz.underlying3
  a3 := Tryz.isAgg3
  z3 := Tryz.sizeOf3
  v3 := Tryz.zeroValue3
  t4 := Tryz.underlying4
  a4 := Tryz.isAgg4
  z4 := Tryz.sizeOf4
  v4 := Tryz.zeroValue4
  t9 := Tryz.underlying9
  a9 := Tryz.isAgg9
  z9 := Tryz.sizeOf9
  v9 := Tryz.zeroValue9
  t31 := Tryz.underlying28
  a31 := Tryz.isAgg28
  z31 := Tryz.sizeOf28
  v31 := Tryz.zeroValue28 }
open Go.RowKit Go.Lib Go.Sort in
/-- slices.Compact at []string: "Compact replaces consecutive runs of equal elements with a single copy. This is like the uniq command found on Unix. Compact modifies the contents of the slice s and returns the modified slice, which may have a smaller length. Compact zeroes the elements between the new length and the original length. The result preserves the nilness of s.": IT RETURNS THE SLICE CUT TO 'Lib.compact zs'; ITS CELLS HOLD 'Lib.compact zs', THEN ZERO VALUES up to the old length; all else is as it was, but for the count of draws. IN THE WORDS OF slices.Sort's CONTRACT ('Holds', 'putRow'): so the everyday 'slices.Sort(xs); xs = slices.Compact(xs)' goes from the one contract to the other. It asks 'zs.length ≤ cap' (every slice's: the reslicing 's[:k]' looks at it). Length 0, nil: '.._empty'. (LAID: no walk: one application.) -/
theorem Tryz.slices_Compact_string (blk off cap : Nat) (zs : List (List UInt8)) (w : World) (hH : Holds encStr w blk off zs.toArray) (hsz : zs.length ≤ 9223372036854775807) (hcap : zs.length ≤ cap) :
    Calls Tryz.prog 142 #[.slice (some ⟨blk, off, none⟩) zs.length cap] w fun e w' => e = .returned (.slice (some ⟨blk, off, none⟩) (Lib.compact zs).length cap) ∧ ∃ q, w' = putRow encStr (Sort.ahead w q) blk off (Lib.compact zs ++ List.replicate (zs.length - (Lib.compact zs).length) []).toArray := Any.slices_Compact_string Tryz.lays194 blk off cap zs w hH hsz hcap
open Go.RowKit Go.Lib Go.Sort in
/-- The same at a slice of length 0, a nil one too: it comes back as it is. (LAID: no walk: one application.) -/
theorem Tryz.slices_Compact_string_empty (a : Option Addr) (cap : Nat) (w : World) :
    Calls Tryz.prog 142 #[.slice a 0 cap] w fun e w' => e = .returned (.slice a 0 cap) ∧ w' = w := Any.slices_Compact_string_empty Tryz.lays194 a cap w
open Go.RowKit Go.Sort in
/-- .. and plain. (LAID: no walk: one application.) -/
theorem Tryz.slices_Sort_string_none (p : Option Addr) (cap : Nat) (w : World) :
    Calls Tryz.prog 141 #[.slice p 0 cap] w fun e w' => e = .returned (.tuple #[]) ∧ w' = w := Any.slices_Sort_string_none Tryz.lays190 p cap w
def Tryz.laysSlH10_f57_ren : Go.Shelf.Ren := ⟨fun | 10 => 57 | 6 => 112 | n => n, fun | 22 => 28 | 23 => 9 | 25 => 37 | 3 => 3 | 4 => 4 | 0 => 0 | n => n, fun | n => n⟩
theorem Tryz.laysSlH10_f57 : Go.Proofs.SlLaysH.n10 Tryz.prog Tryz.laysSlH10_f57_ren := {
  mixed := by kernel_rfl
  f6 := ⟨Tryz.f112.name, by decide, Tryz.func112.trans (congrArg some (by kernel_rfl))⟩
  f10 := ⟨Tryz.f57.name, by decide, Tryz.func57.trans (congrArg some (by kernel_rfl))⟩
  t0 := Tryz.underlying0
  a0 := Tryz.isAgg0
  z0 := Tryz.sizeOf0
  v0 := Tryz.zeroValue0
  t3 := Tryz.underlying3
  a3 := Tryz.isAgg3
  z3 := Tryz.sizeOf3
  v3 := Tryz.zeroValue3
  t4 := Tryz.underlying4
  a4 := Tryz.isAgg4
  z4 := Tryz.sizeOf4
  v4 := Tryz.zeroValue4
  t22 := Tryz.underlying28
  a22 := Tryz.isAgg28
  z22 := Tryz.sizeOf28
  v22 := Tryz.zeroValue28
  a23 := Tryz.isAgg9
  z23 := Tryz.sizeOf9
  t25 := Tryz.underlying37
  a25 := Tryz.isAgg37
  z25 := Tryz.sizeOf37
  v25 := Tryz.zeroValue37 }
open Go.RowKit Go.Lib Go.Sort in
theorem Tryz.slices_DeleteFunc {α : Type} [Inhabited α] (enc : α → Value) (hO : OneCell enc) (p : α → Bool) (g : Nat) (lb : Array Value) (eg : ∀ args w, (callFunc g args).run Tryz.prog w = .ok (.enter g args) w) (zr : α) (v23 : ∀ w, (zeroValue 9).run Tryz.prog w = .ok (enc zr) w) (blk off cap : Nat) (d : Array α) (w : World) (hp : PredAt Tryz.prog g lb enc p w) (hpo : PredOver Tryz.prog g lb enc p blk off d.size w) (hH : Holds enc w blk off d) (hsz : d.size ≤ 9223372036854775807) (hcap : d.size ≤ cap) :
    Calls Tryz.prog 57 #[.slice (some ⟨blk, off, none⟩) d.size cap, .func (.func g) #[] lb] w fun e w' => e = .returned (.slice (some ⟨blk, off, none⟩) (d.toList.filter fun x => !p x).length cap) ∧ ∃ q, w' = putRow enc (Sort.ahead w q) blk off ((d.toList.filter fun x => !p x) ++ List.replicate (d.size - (d.toList.filter fun x => !p x).length) zr).toArray := AnyE.slices_DeleteFunc Tryz.laysSlH10_f57 enc hO p g lb eg zr v23 blk off cap d w hp hpo hH hsz hcap
end Go.Proofs
