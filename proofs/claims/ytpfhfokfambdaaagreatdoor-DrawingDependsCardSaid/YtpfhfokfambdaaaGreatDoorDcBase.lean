/- A part of the proof of a law of this seat: Base; no conditions. -/
import Derived.Test.YtpfhfokfambdaaaGreatDoorDcc
/-! Contracts of the library, as contracts on data: for runs. -/
set_option linter.unusedSimpArgs false
namespace Go.Proofs.YtpfhfokfambdaaaGreatDoor
open Ev
open Go.RowKit (Below)
/-- What the walks ask of the program's variables. -/
def Gw (w : World) : Prop := ∃ m, w.cell? ⟨0, 0, none⟩ = some (.int .i64 m)
theorem gw_stable : ∀ w w', Gw w → Below w.heap.size w w' → Gw w' := by
  rintro w w' ⟨m, h⟩ hb
  exact ⟨m, (cell_congr (hb.block 0 (lt_of_cell h))).trans h⟩
section
variable {G : World → Prop}
/-- A contract on values without memory. -/
theorem sat_flat' {P : Program} {f : FuncId} {args : List D} {r : D} (hcall : Callable P f)
    (vs : List Value) (hv : ∀ (N : Nat → Prop) (w : World) (us : List Value), us.length = args.length → (∀ (i : Nat) (d : D) (v : Value), args[i]? = some d → us[i]? = some v → Rv N w d v) → us = vs)
    (h : ∀ w, G w → Calls P f vs.toArray w fun e w' => ∃ v, e = .returned v ∧ Below w.heap.size w w' ∧ ∀ N, Rv N w' r v) : Sat G P f args r := by
  refine ⟨hcall, fun N w us hl ha hN hg => ?_⟩
  rw [hv N w us hl ha]
  refine (h w hg).mono ?_
  rintro e w' ⟨v, h1, h2, h3⟩
  exact ⟨v, h1, h2, h3 _⟩
theorem vs1 {d : D} {v : Value} (h : ∀ N w u, Rv N w d u → u = v) : ∀ (N : Nat → Prop) (w : World) (us : List Value), us.length = [d].length → (∀ (i : Nat) (d' : D) (u : Value), [d][i]? = some d' → us[i]? = some u → Rv N w d' u) → us = [v] := by
  intro N w us hl ha
  match us, hl with
  | [a], _ => rw [h N w a (ha 0 _ a rfl rfl)]
theorem vs2 {d e : D} {v v' : Value} (h : ∀ N w u, Rv N w d u → u = v) (h' : ∀ N w u, Rv N w e u → u = v') : ∀ (N : Nat → Prop) (w : World) (us : List Value), us.length = [d, e].length → (∀ (i : Nat) (d' : D) (u : Value), [d, e][i]? = some d' → us[i]? = some u → Rv N w d' u) → us = [v, v'] := by
  intro N w us hl ha
  match us, hl with
  | [a, b], _ => rw [h N w a (ha 0 _ a rfl rfl), h' N w b (ha 1 _ b rfl rfl)]
theorem ustr (s : List UInt8) : ∀ N w u, Rv N w (.str s) u → u = .string ⟨s.toArray⟩ := fun N w u h => by cases h; rfl
theorem uint (k : IntKind) (n : Int) : ∀ N w u, Rv N w (.int k n) u → u = .int k n := fun N w u h => by cases h; rfl

theorem b_compare (a b : List UInt8) : Sat G Tryz.prog 133 [.str a, .str b] (.int .i64 (Lib.compareBytes a b)) :=
  sat_flat' ⟨_, Tryz.func133, by kernel_rfl, by kernel_rfl⟩ _ (vs2 (ustr a) (ustr b)) fun w _ => (Tryz.strings_Compare _ _ w).mono (by
    rintro e w' ⟨rfl, rfl⟩
    exact ⟨_, rfl, Below.refl _ _, fun N => by simp; exact .int _ _⟩)
theorem b_indexByte (s : List UInt8) (c : Int) : Sat G Tryz.prog 168 [.str s, .int .u8 c] (.int .i64 (Lib.indexByte s c.toNat.toUInt8)) :=
  sat_flat' ⟨_, Tryz.func168, by kernel_rfl, by kernel_rfl⟩ _ (vs2 (ustr s) (uint .u8 c)) fun w _ => (Tryz.strings_IndexByte _ _ w).mono (by
    rintro e w' ⟨rfl, rfl⟩
    exact ⟨_, rfl, Below.refl _ _, fun N => by simp; exact .int _ _⟩)
theorem below_bytesWorld (w : World) (t : TypeId) (s : ByteArray) : Below w.heap.size w (Lib.bytesWorld w t s) :=
  ⟨rfl, rfl, rfl, by rw [Lib.bytesWorld_size]; omega, fun i hi => Lib.bytesWorld_at_old w t s i hi⟩
theorem b_atoi (s : List UInt8) (n : Int) (hl : s.length ≤ 18) (h : Lib.atoi s = some n) : Sat G Tryz.prog 162 [.str s] (.tup [.int .i64 n, .nili]) :=
  sat_flat' ⟨_, Tryz.func162, by kernel_rfl, by kernel_rfl⟩ _ (vs1 (ustr s)) fun w _ => (Tryz.strconv_Atoi ⟨s.toArray⟩ n (by simpa [ByteArray.size] using hl) (by simpa using h) w).mono (by
    rintro e w' ⟨rfl, t, rfl⟩
    refine ⟨_, rfl, below_bytesWorld w _ _, fun N => ?_⟩
    refine .tup [.int .i64 n, .nili] [.int .i64 n, .nilIface] rfl fun i d v hd hv => ?_
    match i with
    | 0 => cases hd; cases hv; exact .int _ _
    | 1 => cases hd; cases hv; exact .nili
    | i + 2 => simp at hd)
def dig2 (n : Nat) : List UInt8 := if n < 10 then [UInt8.ofNat (48 + n)] else [UInt8.ofNat (48 + n / 10), UInt8.ofNat (48 + n % 10)]
theorem dig2_eq {n : Nat} (h : n < 100) : Lib.decDigits n = dig2 n := by
  rw [Lib.decDigits, dig2]
  split
  · rfl
  · rw [Lib.decDigits, dif_pos (by omega)]
    rfl
theorem b_itoa (n : Nat) (h : n < 100) : Sat G Tryz.prog 211 [.int .i64 (n : Int)] (.str (dig2 n)) :=
  sat_flat' ⟨_, Tryz.func211, by kernel_rfl, by kernel_rfl⟩ _ (vs1 (uint .i64 (n : Int))) fun w _ => (Tryz.strconv_Itoa_small n h w).mono (by
    rintro e w' ⟨rfl, rfl⟩
    exact ⟨_, rfl, Below.refl _ _, fun N => by rw [dig2_eq h]; exact .str _⟩)
/-- Where an instance begins. -/
def idx1 (sub : List UInt8) : Nat → List UInt8 → Option Nat
  | k, [] => if sub.isEmpty then some k else none
  | k, b :: l => match sub.isPrefixOf (b :: l) with
    | true => some k
    | false => idx1 sub (k + 1) l
theorem idx1_some {sub : List UInt8} : ∀ {s : List UInt8} {k i : Nat}, idx1 sub k s = some i → k ≤ i ∧ Lib.index s sub = ((i - k : Nat) : Int)
  | [], k, i, h => by
    simp only [idx1] at h
    split at h
    · rename_i he
      cases h
      simp [Lib.index, he]
    · cases h
  | b :: l, k, i, h => by
    simp only [idx1] at h
    split at h
    · rename_i hp
      cases h
      simp [Lib.index, hp]
    · rename_i hp
      obtain ⟨h1, h2⟩ := idx1_some h
      refine ⟨by omega, ?_⟩
      have hne : ¬ (Lib.index l sub == -1) = true := by
        rw [h2]
        intro h3
        have := beq_iff_eq.1 h3
        omega
      rw [Lib.index, if_neg (by rw [hp]; simp), if_neg hne, h2]
      omega
theorem idx1_none {sub : List UInt8} : ∀ {s : List UInt8} {k : Nat}, idx1 sub k s = none → Lib.index s sub = -1
  | [], k, h => by
    simp only [idx1] at h
    split at h
    · cases h
    · rename_i he
      simp [Lib.index, he]
  | b :: l, k, h => by
    simp only [idx1] at h
    split at h
    · cases h
    · rename_i hp
      have h2 := idx1_none h
      rw [Lib.index, if_neg (by rw [hp]; simp), h2]
      rfl
/-- One replaced. -/
def repl1 (s old new : List UInt8) : List UInt8 := match idx1 old 0 s with
  | some i => s.take i ++ new ++ s.drop (i + old.length)
  | none => s
theorem repl1_eq {s old new : List UInt8} (hne : old ≠ new) : Lib.replace s old new 1 = repl1 s old new := by
  unfold repl1 Lib.replace
  rw [if_neg (by simpa using hne)]
  cases h : idx1 old 0 s with
  | none =>
    have hi := idx1_none h
    have hc : Lib.count s old = 0 := by
      unfold Lib.count
      rw [Lib.countFrom, if_pos (by rw [hi]; rfl)]
    have : Lib.replaceNum s old 1 = 0 := by
      unfold Lib.replaceNum
      rw [hc]; rfl
    rw [this]; rfl
  | some i =>
    obtain ⟨_, hi⟩ := idx1_some h
    rw [Nat.sub_zero] at hi
    have hc : 1 ≤ Lib.count s old := by
      unfold Lib.count
      rw [Lib.countFrom, if_neg (by rw [hi]; intro h3; have := beq_iff_eq.1 h3; omega)]
      omega
    have hn : Lib.replaceNum s old 1 = 1 := by
      unfold Lib.replaceNum
      rw [if_neg (by omega)]
      rfl
    rw [hn, Lib.replaceK_hit old new 0 s i hi]
    rfl
theorem b_replace (s old new : List UInt8) (hg : ∀ w, G w → Gw w) (hs : s.length < 4294967281) (ho : old ≠ []) (hne : old ≠ new) (hn : new.length ≤ 32767) : Sat G Tryz.prog 40 [.str s, .str old, .str new, .int .i64 1] (.str (repl1 s old new)) := by
  refine sat_flat' ⟨_, Tryz.func40, by kernel_rfl, by kernel_rfl⟩ [.string ⟨s.toArray⟩, .string ⟨old.toArray⟩, .string ⟨new.toArray⟩, .int .i64 1] (fun N w us hl ha => ?_) fun w hgw => ?_
  · match us, hl with
    | [a, b, c, d], _ => rw [ustr s N w a (ha 0 _ a rfl rfl), ustr old N w b (ha 1 _ b rfl rfl), ustr new N w c (ha 2 _ c rfl rfl), uint .i64 1 N w d (ha 3 _ d rfl rfl)]
  · obtain ⟨m, hm⟩ := hg w hgw
    have hc := Lib.countB_le ⟨old.toArray⟩ (by cases old <;> simp_all [ByteArray.size]) _ ⟨s.toArray⟩ (Nat.le_refl _)
    refine (Tryz.strings_Replace ⟨s.toArray⟩ ⟨old.toArray⟩ ⟨new.toArray⟩ 1 m w (by simpa [ByteArray.size] using hs) hm (by cases old <;> simp_all [ByteArray.size]) ?_).mono ?_
    · have h1 : (⟨s.toArray⟩ : ByteArray).size = s.length := by simp [ByteArray.size]
      have h2 : (⟨new.toArray⟩ : ByteArray).size = new.length := by simp [ByteArray.size]
      rw [h1] at hc ⊢
      rw [h2]
      have := Nat.mul_le_mul hc hn
      omega
    · rintro e w' ⟨rfl, hb⟩
      refine ⟨_, rfl, hb, fun N => ?_⟩
      have := repl1_eq (s := s) hne
      simp only [List.toList_toArray] at this ⊢
      rw [this]
      exact .str _
/-- The pieces of a text. -/
def splitC (c : UInt8) : List UInt8 → List (List UInt8)
  | [] => [[]]
  | x :: r => match x == c with
    | true => [] :: splitC c r
    | false => match splitC c r with
      | h :: t => (x :: h) :: t
      | [] => [[x]]
theorem splitC_ne (c : UInt8) : ∀ s, splitC c s ≠ []
  | [] => by simp [splitC]
  | x :: r => by
    have := splitC_ne c r
    simp only [splitC]
    split
    · simp
    · split <;> simp
theorem splitK_cons_ne {c x : UInt8} {r : List UInt8} (h : x ≠ c) (k : Nat) : Lib.splitK [c] 0 k (x :: r) = match Lib.splitK [c] 0 k r with
    | a :: t => (x :: a) :: t
    | [] => [[x]] := by
  cases k with
  | zero => rfl
  | succ k =>
    have hp : [c].isPrefixOf (x :: r) = false := by
      simp [List.isPrefixOf]
      exact fun h' => h h'.symm
    have hi : Lib.index (x :: r) [c] = if Lib.index r [c] == -1 then -1 else Lib.index r [c] + 1 := by
      rw [Lib.index, hp]; simp
    have hge := Lib.index_ge r [c]
    simp only [Lib.splitK]
    by_cases h1 : Lib.index r [c] = -1
    · rw [hi, h1]; simp
    · have h2 : (Lib.index r [c] == -1) = false := by simpa using h1
      rw [hi, h2]
      simp only [Bool.false_eq_true, if_false]
      have h3 : (Lib.index r [c] + 1 == -1) = false := by
        have : ¬ Lib.index r [c] + 1 = -1 := by omega
        simpa using this
      rw [h3]
      simp only [Bool.false_eq_true, if_false]
      have e1 : (Lib.index r [c] + 1).toNat = (Lib.index r [c]).toNat + 1 := by omega
      rw [e1]
      simp [Nat.add_right_comm]
theorem splitC_eq (c : UInt8) : ∀ s, Lib.splitK [c] 0 (Lib.count s [c]) s = splitC c s
  | [] => by
    have : Lib.count [] [c] = 0 := by rw [Lib.count_one]; rfl
    rw [this]; rfl
  | x :: r => by
    have ih := splitC_eq c r
    by_cases h : x = c
    · subst h
      rw [Lib.count_cons_eq, Nat.add_comm]
      have hi : Lib.index (x :: r) [x] = 0 := by rw [Lib.index]; simp [List.isPrefixOf]
      simp only [Lib.splitK, hi, splitC]
      simp
      exact ih
    · have hb : (x == c) = false := by simpa using h
      rw [Lib.count_cons_ne x c r h, splitK_cons_ne h, ih]
      simp only [splitC, hb]
theorem splitB_eq (s : List UInt8) (c : UInt8) : Lib.splitB ⟨#[c]⟩ 0 (Lib.countB ⟨s.toArray⟩ ⟨#[c]⟩) ⟨s.toArray⟩ = (splitC c s).map fun x => (⟨x.toArray⟩ : ByteArray) := by
  have h := Lib.splitB_data ⟨#[c]⟩ 0 (Lib.countB ⟨s.toArray⟩ ⟨#[c]⟩) ⟨s.toArray⟩
  have h2 : Lib.splitK (⟨#[c]⟩ : ByteArray).data.toList 0 (Lib.countB ⟨s.toArray⟩ ⟨#[c]⟩) (⟨s.toArray⟩ : ByteArray).data.toList = splitC c s := by
    have := splitC_eq c s
    simpa [Lib.countB] using this
  rw [h2] at h
  rw [← h, List.map_map]
  symm
  refine (List.map_congr_left fun x _ => ?_).trans (List.map_id _)
  simp
/-- Rows of strings. -/
def strow (l : List (List UInt8)) : List (List A) := l.map fun s => [.d (.str s)]
theorem b_split_raw (s : List UInt8) (c : UInt8) (w : World) (hg : Gw w) (hs : s.length < 4294967281) : Calls Tryz.prog 24 #[.string ⟨s.toArray⟩, .string ⟨#[c]⟩] w fun e w' =>
    e = .returned (.slice (some ⟨w.heap.size, 0, none⟩) (splitC c s).length (splitC c s).length) ∧ w' = w.alloc (.cells ((splitC c s).map fun x => Value.string ⟨x.toArray⟩).toArray 9) := by
  obtain ⟨m, hm⟩ := hg
  refine (Tryz.strings_Split ⟨s.toArray⟩ ⟨#[c]⟩ m w (by simpa [ByteArray.size] using hs) hm (by simp [ByteArray.size])).mono ?_
  rintro e w' ⟨rfl, rfl⟩
  have h1 := splitB_eq s c
  have h2 := Lib.splitB_all ⟨#[c]⟩ (by simp [ByteArray.size]) 0 _ ⟨s.toArray⟩ rfl
  rw [h1, List.length_map] at h2
  rw [h1, ← h2, List.map_map]
  exact ⟨rfl, rfl⟩
theorem b_split (s : List UInt8) (c : UInt8) (hg : ∀ w, G w → Gw w) (hs : s.length < 4294967281) : Sat G Tryz.prog 24 [.str s, .str [c]] (.slice ((splitC c s).map fun x => [.str x])) := by
  refine ⟨⟨_, Tryz.func24, by kernel_rfl, by kernel_rfl⟩, fun N w us hl ha hN hgw => ?_⟩
  rw [vs2 (ustr s) (ustr [c]) N w us hl ha]
  refine (b_split_raw s c w (hg w hgw) hs).mono ?_
  rintro e w' ⟨rfl, rfl⟩
  refine ⟨_, rfl, below_alloc w _, ?_⟩
  have := Rv.sliceC (N := fun b => N b ∨ w.heap.size ≤ b) (w := w.alloc (.cells ((splitC c s).map fun x => Value.string ⟨x.toArray⟩).toArray 9)) ((splitC c s).map fun x => [D.str x]) w.heap.size 0 (splitC c s).length 1
    (fun i j => ((splitC c s).map fun x => Value.string ⟨x.toArray⟩)[i]?.getD undef) (by simp [splitC_ne]) (.inr (Nat.le_refl _)) (by simp) (by simp) (fun i r hr => ?_) (fun i j hi hj => ?_) (fun i j r d hr hd => ?_)
  · simpa using this
  · rw [List.getElem?_map, Option.map_eq_some_iff] at hr
    obtain ⟨x, _, rfl⟩ := hr
    rfl
  · rw [List.length_map] at hi
    have hj0 : j = 0 := by omega
    subst hj0
    rw [World.cell?_alloc_at _ _ w.heap.size _ rfl]
    simp [hi]
  · rw [List.getElem?_map, Option.map_eq_some_iff] at hr
    obtain ⟨x, hx, rfl⟩ := hr
    have hj0 : j = 0 := by
      have := (List.getElem?_eq_some_iff.1 hd).1
      simpa using this
    subst hj0
    cases hd
    simp only [List.getElem?_map, hx, Option.map_some, Option.getD_some]
    exact .str x
end
end Go.Proofs.YtpfhfokfambdaaaGreatDoor
