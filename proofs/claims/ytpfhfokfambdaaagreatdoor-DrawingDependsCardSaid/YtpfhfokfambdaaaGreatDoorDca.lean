/- A part of the proof of a law of this seat: EvA, EvB, EvC, EvD, EvE, EvF, EvG, EvH, EvI, EvJ, EvK, EvL, EvM, EvMS, EvN, EvNR; no conditions. -/
import Derived.Orders
import Derived.Below
import Derived.Laws.AppendOwn
import Derived.WideLaws
import Derived.Laws.Concat
import Derived.Laws.Pointers
import Derived.Laws.Strings
import Derived.Laws.CopyRow
import Derived.Laws.Rows
import Derived.Laws.OwnMore
import Derived.Maps.AppendAt
import Derived.Lib.ConvBytes
import Derived.Conc.MuLone
import Derived.Laws.StructEq
/-! Data, local values, and what they read as in a world. -/
namespace Go.Proofs.YtpfhfokfambdaaaGreatDoor.Ev
open Go.RowKit (Below)

/-- Plain data: what a value of the program reads as, memory and all. -/
inductive D where
  | int (k : IntKind) (n : Int)
  | bool (b : Bool)
  | str (s : List UInt8)
  | nilp
  | nilf
  | nili
  | ifc
  | ref (cells : List D)
  | slice (rows : List (List D))
  | fn (f : FuncId) (caps : List D)
  | agg (cells : List D)
  | tup (vs : List D)
  deriving Inhabited

/-- The value v reads, in the world w, as the datum; only blocks of N are touched. -/
inductive Rv (N : Nat → Prop) (w : World) : D → Value → Prop where
  | int (k : IntKind) (n : Int) : Rv N w (.int k n) (.int k n)
  | bool (b : Bool) : Rv N w (.bool b) (.bool b)
  | str (s : List UInt8) : Rv N w (.str s) (.string ⟨s.toArray⟩)
  | nilp : Rv N w .nilp (.pointer none)
  | nilf : Rv N w .nilf .nilFunc
  | nili : Rv N w .nili .nilIface
  | ifc (t : TypeId) (v : Value) : Rv N w .ifc (.iface t v)
  | ref (cells : List D) (b o : Nat) (c : Nat → Value) : N b → b < w.heap.size →
      (∀ i, i < cells.length → w.cell? ⟨b, o + i, none⟩ = some (c i)) →
      (∀ i d, cells[i]? = some d → Rv N w d (c i)) → Rv N w (.ref cells) (.pointer (some ⟨b, o, none⟩))
  | sliceE (A : Option Addr) (cap : Nat) : Rv N w (.slice []) (.slice A 0 cap)
  | sliceC (rows : List (List D)) (b o cap s : Nat) (c : Nat → Nat → Value) : rows ≠ [] → N b → b < w.heap.size → rows.length ≤ cap →
      (∀ (i : Nat) (r : List D), rows[i]? = some r → r.length = s) →
      (∀ i j, i < rows.length → j < s → w.cell? ⟨b, o + (i * s + j), none⟩ = some (c i j)) →
      (∀ (i j : Nat) (r : List D) (d : D), rows[i]? = some r → r[j]? = some d → Rv N w d (c i j)) →
      Rv N w (.slice rows) (.slice (some ⟨b, o, none⟩) rows.length cap)
  | fn (f : FuncId) (caps : List D) (vs : List Value) : vs.length = caps.length →
      (∀ (i : Nat) (d : D) (v : Value), caps[i]? = some d → vs[i]? = some v → Rv N w d v) → Rv N w (.fn f caps) (.func (.func f) #[] vs.toArray)
  | agg (cells : List D) (vs : List Value) : vs.length = cells.length →
      (∀ (i : Nat) (d : D) (v : Value), cells[i]? = some d → vs[i]? = some v → Rv N w d v) → Rv N w (.agg cells) (.agg vs.toArray)
  | tup (ds : List D) (vs : List Value) : vs.length = ds.length →
      (∀ (i : Nat) (d : D) (v : Value), ds[i]? = some d → vs[i]? = some v → Rv N w d v) → Rv N w (.tup ds) (.tuple vs.toArray)

theorem lt_of_cell {w : World} {b o : Nat} {v : Value} (h : w.cell? ⟨b, o, none⟩ = some v) : b < w.heap.size := by
  unfold World.cell? at h
  rcases Nat.lt_or_ge b w.heap.size with h' | h'
  · exact h'
  · simp [Array.getElem?_eq_none h'] at h

theorem cell_congr {w w' : World} {b o : Nat} (h : w'.heap[b]? = w.heap[b]?) : w'.cell? ⟨b, o, none⟩ = w.cell? ⟨b, o, none⟩ := by
  unfold World.cell?
  simp only
  rw [h]

theorem size_congr {w w' : World} {b : Nat} (h : w'.heap[b]? = w.heap[b]?) (hb : b < w.heap.size) : b < w'.heap.size := by
  rcases Nat.lt_or_ge b w'.heap.size with h' | h'
  · exact h'
  · rw [Array.getElem?_eq_none h', Array.getElem?_eq_getElem hb] at h
    cases h

/-- A reading is carried over to a world that agrees on the blocks of N. -/
theorem Rv.mono {N N' : Nat → Prop} {w w' : World} (hw : ∀ b, N b → b < w.heap.size → w'.heap[b]? = w.heap[b]?)
    (hN : ∀ b, N b → b < w.heap.size → N' b) {d : D} {v : Value} (h : Rv N w d v) : Rv N' w' d v := by
  induction h with
  | int k n => exact .int k n
  | bool b => exact .bool b
  | str s => exact .str s
  | nilp => exact .nilp
  | nilf => exact .nilf
  | nili => exact .nili
  | ifc t v => exact .ifc t v
  | ref cells b o c hb hs h1 h2 ih =>
    have e := hw b hb hs
    exact .ref _ b o c (hN b hb hs) (size_congr e hs) (fun i hi => (cell_congr e).trans (h1 i hi)) ih
  | sliceE A cap => exact .sliceE A cap
  | sliceC rows b o cap s c hr hb hs hcap h0 h1 h2 ih =>
    have e := hw b hb hs
    exact .sliceC rows b o cap s c hr (hN b hb hs) (size_congr e hs) hcap h0 (fun i j hi hj => (cell_congr e).trans (h1 i j hi hj)) ih
  | fn f caps vs h1 h2 ih => exact .fn f caps vs h1 ih
  | agg cells vs h1 h2 ih => exact .agg cells vs h1 ih
  | tup ds vs h1 h2 ih => exact .tup ds vs h1 ih

/-! ### Local values -/

/-- What a closure has captured. -/
inductive C where
  | d (x : D)
  | loc (k off : Nat)

/-- What lies in one cell: data, a pointer into a variable of the call's own (slot k), a slice of the call's own (slot k, n elements), a pointer into its element i, a nil slice, a closure, a map of the call's own, a method bound to a pointer into slot k, anything. -/
inductive A where
  | d (x : D)
  | loc (k off : Nat)
  | row (k n : Nat)
  | rloc (k n s i o : Nat)
  | nils
  | fn (f : FuncId) (cs : List C)
  | map (k : Nat)
  | bnd (f : FuncId) (k off : Nat)
  | any

/-- A part of a tuple. -/
inductive M where
  | at (a : A)
  | agg (cs : List A)

/-- What lies in a temporary. -/
inductive L where
  | at (a : A)
  | agg (cs : List A)
  | tup (ms : List M)

/-- A block of the call's own: a variable's cells; a row of n elements, each of s cells; either, handed out (never written again); a map from strings, as it was filled; an iterator over the map of a slot that had n entries, some of them seen; one that was given away. -/
inductive Blk where
  | var (cs : List A)
  | row (e s : Nat) (rs : List (List A))
  | fvar (cs : List D)
  | frow (rs : List (List D))
  | mp (kvs : List (List UInt8 × A))
  | iter (k n : Nat) (seen : List Nat)
  | gone

def Blk.live : Blk → Bool
  | .var _ | .row .. | .mp _ | .iter .. => true
  | _ => false

def RvC (E : Nat → Value) (N : Nat → Prop) (w : World) : C → Value → Prop
  | .d x, v => Rv N w x v
  | .loc k off, v => ∃ b, E k = .pointer (some ⟨b, 0, none⟩) ∧ v = .pointer (some ⟨b, off, none⟩)

def RvA (E : Nat → Value) (N : Nat → Prop) (w : World) : A → Value → Prop
  | .d x, v => Rv N w x v
  | .loc k off, v => ∃ b, E k = .pointer (some ⟨b, 0, none⟩) ∧ v = .pointer (some ⟨b, off, none⟩)
  | .row k n, v => (∃ Ad c, v = .slice Ad n c) ∧ ∃ Ad m c, E k = .slice Ad m c ∧ n ≤ m ∧ (n = m → v = .slice Ad m c)
  | .rloc k n s i o, v => (∃ ad, v = .pointer (some ad)) ∧ ∃ Ad m c, E k = .slice Ad m c ∧ n ≤ m ∧ (n = m → ∃ b, Ad = some ⟨b, 0, none⟩ ∧ v = .pointer (some ⟨b, i * s + o, none⟩))
  | .nils, v => v = .slice none 0 0
  | .fn f cs, v => ∃ vs : List Value, v = .func (.func f) #[] vs.toArray ∧ vs.length = cs.length ∧ ∀ (i : Nat) (c : C) (u : Value), cs[i]? = some c → vs[i]? = some u → RvC E N w c u
  | .map k, v => ∃ b, E k = .map (some b) ∧ v = .map (some b)
  | .bnd f k off, v => ∃ b, E k = .pointer (some ⟨b, 0, none⟩) ∧ v = .func (.func f) #[.pointer (some ⟨b, off, none⟩)] #[]
  | .any, _ => True

def RvM (E : Nat → Value) (N : Nat → Prop) (w : World) : M → Value → Prop
  | .at a, v => RvA E N w a v
  | .agg cs, v => ∃ vs : List Value, v = .agg vs.toArray ∧ vs.length = cs.length ∧ ∀ (i : Nat) (a : A) (u : Value), cs[i]? = some a → vs[i]? = some u → RvA E N w a u
def RvL (E : Nat → Value) (N : Nat → Prop) (w : World) : L → Value → Prop
  | .at a, v => RvA E N w a v
  | .agg cs, v => ∃ vs : List Value, v = .agg vs.toArray ∧ vs.length = cs.length ∧ ∀ (i : Nat) (a : A) (u : Value), cs[i]? = some a → vs[i]? = some u → RvA E N w a u
  | .tup ms, v => ∃ vs : List Value, v = .tuple vs.toArray ∧ vs.length = ms.length ∧ ∀ (i : Nat) (m : M) (u : Value), ms[i]? = some m → vs[i]? = some u → RvM E N w m u

/-- The slots that a value names. -/
def C.men (k : Nat) : C → Prop
  | .loc j _ => j = k
  | _ => False
def A.men (k : Nat) : A → Prop
  | .loc j _ | .row j _ | .rloc j _ _ _ _ | .map j | .bnd _ j _ => j = k
  | .fn _ cs => ∃ c ∈ cs, c.men k
  | _ => False
def M.men (k : Nat) : M → Prop
  | .at a => a.men k
  | .agg cs => ∃ a ∈ cs, a.men k
def L.men (k : Nat) : L → Prop
  | .at a => a.men k
  | .agg cs => ∃ a ∈ cs, a.men k
  | .tup ms => ∃ m ∈ ms, m.men k
def Blk.men (k : Nat) : Blk → Prop
  | .var cs => ∃ a ∈ cs, a.men k
  | .row _ _ rs => ∃ r ∈ rs, ∃ a ∈ r, a.men k
  | .mp kvs => ∃ p ∈ kvs, p.2.men k
  | .iter j _ _ => j = k
  | _ => False

section
variable {E E' : Nat → Value} {N N' : Nat → Prop} {w w' : World}
theorem RvC.mono (hw : ∀ b, N b → b < w.heap.size → w'.heap[b]? = w.heap[b]?) (hN : ∀ b, N b → b < w.heap.size → N' b)
    {c : C} {v : Value} (hE : ∀ k, c.men k → E' k = E k) (h : RvC E N w c v) : RvC E' N' w' c v := by
  cases c with
  | d x => exact Rv.mono hw hN h
  | loc k off => obtain ⟨b, h1, h2⟩ := h; exact ⟨b, by rw [hE k rfl]; exact h1, h2⟩
theorem RvA.mono (hw : ∀ b, N b → b < w.heap.size → w'.heap[b]? = w.heap[b]?) (hN : ∀ b, N b → b < w.heap.size → N' b)
    {a : A} {v : Value} (hE : ∀ k, a.men k → E' k = E k) (h : RvA E N w a v) : RvA E' N' w' a v := by
  cases a with
  | d x => exact Rv.mono hw hN h
  | loc k off => obtain ⟨b, h1, h2⟩ := h; exact ⟨b, by rw [hE k rfl]; exact h1, h2⟩
  | row k n => obtain ⟨h0, Ad, m, c, he, h⟩ := h; exact ⟨h0, Ad, m, c, by rw [hE k rfl]; exact he, h⟩
  | rloc k n s i o => obtain ⟨h0, Ad, m, c, he, h⟩ := h; exact ⟨h0, Ad, m, c, by rw [hE k rfl]; exact he, h⟩
  | nils => exact h
  | fn f cs =>
    obtain ⟨vs, h1, h2, h3⟩ := h
    exact ⟨vs, h1, h2, fun i c u hc hu => RvC.mono hw hN (fun k hk => hE k ⟨c, List.mem_of_getElem? hc, hk⟩) (h3 i c u hc hu)⟩
  | map k => obtain ⟨b, h1, h2⟩ := h; exact ⟨b, by rw [hE k rfl]; exact h1, h2⟩
  | bnd f k off => obtain ⟨b, h1, h2⟩ := h; exact ⟨b, by rw [hE k rfl]; exact h1, h2⟩
  | any => trivial
theorem RvM.mono (hw : ∀ b, N b → b < w.heap.size → w'.heap[b]? = w.heap[b]?) (hN : ∀ b, N b → b < w.heap.size → N' b)
    {l : M} {v : Value} (hE : ∀ k, l.men k → E' k = E k) (h : RvM E N w l v) : RvM E' N' w' l v := by
  cases l with
  | «at» a => exact RvA.mono hw hN hE h
  | agg cs =>
    obtain ⟨vs, h1, h2, h3⟩ := h
    exact ⟨vs, h1, h2, fun i a u ha hu => RvA.mono hw hN (fun k hk => hE k ⟨a, List.mem_of_getElem? ha, hk⟩) (h3 i a u ha hu)⟩
theorem RvL.mono (hw : ∀ b, N b → b < w.heap.size → w'.heap[b]? = w.heap[b]?) (hN : ∀ b, N b → b < w.heap.size → N' b)
    {l : L} {v : Value} (hE : ∀ k, l.men k → E' k = E k) (h : RvL E N w l v) : RvL E' N' w' l v := by
  cases l with
  | «at» a => exact RvA.mono hw hN hE h
  | agg cs =>
    obtain ⟨vs, h1, h2, h3⟩ := h
    exact ⟨vs, h1, h2, fun i a u ha hu => RvA.mono hw hN (fun k hk => hE k ⟨a, List.mem_of_getElem? ha, hk⟩) (h3 i a u ha hu)⟩
  | tup ms =>
    obtain ⟨vs, h1, h2, h3⟩ := h
    exact ⟨vs, h1, h2, fun i m u hm hu => RvM.mono hw hN (fun k hk => hE k ⟨m, List.mem_of_getElem? hm, hk⟩) (h3 i m u hm hu)⟩
end
end Go.Proofs.YtpfhfokfambdaaaGreatDoor.Ev

/-! The state of a call: temporaries and blocks of its own; how a world bears it out. -/
namespace Go.Proofs.YtpfhfokfambdaaaGreatDoor.Ev
open Go.RowKit (Below)

def look {α : Type} : List (Nat × α) → Nat → Option α
  | [], _ => none
  | (i, x) :: r, k => if i = k then some x else look r k

structure St where
  t : List (Nat × L)
  m : List (Nat × Blk)

def St.get (st : St) (i : Nat) : L := (look st.t i).getD (.at .any)
def St.blk (st : St) (k : Nat) : Option Blk := look st.m k
def St.write (st : St) (dst : Option Nat) (l : L) (us : List (Nat × Blk)) : St :=
  ⟨match dst with | some d => (d, l) :: st.t | none => st.t, us ++ st.m⟩

def blkOf : Value → Option Nat
  | .pointer (some a) => some a.block
  | .slice (some a) _ _ => some a.block
  | .map (some b) => some b
  | _ => none

/-- What a slot's handle v bears in the world. -/
def RvB (E : Nat → Value) (N : Nat → Prop) (w : World) (B : Nat) (v : Value) : Blk → Prop
  | .var cs => ∃ b c ty, v = .pointer (some ⟨b, 0, none⟩) ∧ w.heap[b]? = some (.cells c ty (0, 0)) ∧ c.size = cs.length ∧
      ∀ (i : Nat) (a : A) (u : Value), cs[i]? = some a → c[i]? = some u → RvA E N w a u
  | .row e s rs => ∃ xs, w.ownsRow B e s v rs.length xs ∧ (∀ (i : Nat) (r : List A), rs[i]? = some r → r.length = s) ∧
      ∀ (i j : Nat) (r : List A) (a : A) (u : Value), rs[i]? = some r → r[j]? = some a → xs[i * s + j]? = some u → RvA E N w a u
  | .fvar ds => Rv N w (.ref ds) v
  | .frow rs => Rv N w (.slice rs) v
  | .mp kvs => ∃ b es, v = .map (some b) ∧ w.heap[b]? = some (.map es kvs.length) ∧ es.size = kvs.length ∧
      ∀ (i : Nat) (p : List UInt8 × A) (e : MapEntry), kvs[i]? = some p → es[i]? = some e → e.key = .string ⟨p.1.toArray⟩ ∧ e.born = i ∧ RvA E N w p.2 e.val
  | .iter k n seen => ∃ r b, v = .pointer (some ⟨r, 0, none⟩) ∧ E k = .map (some b) ∧ w.heap[r]? = some (.mapIter (some b) n seen.toArray n)
  | .gone => True

/-- What a walk starts from: the blocks that may be read; readings that are kept (of slots that are kept); blocks of others, which stay as they are. -/
structure Base where
  n : Nat → Prop
  gh : L → Value → Prop
  fx : List Nat
  fb : Nat → Prop
  fw : World
  ok : ∀ l v k, gh l v → l.men k → k ∈ fx

structure Env (N0 : Base) (B : Nat) (w : World) (m : Nat → Option Blk) (E : Nat → Value) (N : Nat → Prop) : Prop where
  nlt : ∀ b, N b → b < w.heap.size
  nsub : ∀ b, N b → N0.n b ∨ B ≤ b
  live : ∀ k bl b, m k = some bl → bl.live = true → blkOf (E k) = some b → ¬ N b ∧ B ≤ b ∧ b < w.heap.size
  dis : ∀ k k' bl bl' b, m k = some bl → m k' = some bl' → bl.live = true → bl'.live = true → k ≠ k' → blkOf (E k) = some b → blkOf (E k') ≠ some b
  con : ∀ k bl, m k = some bl → RvB E N w B (E k) bl
  wf : ∀ k bl j, m k = some bl → bl.men j → m j ≠ none
  gh : ∀ l v, N0.gh l v → RvL E N w l v
  fx : ∀ k, k ∈ N0.fx → m k ≠ none
  fo : ∀ b, N0.fb b → b < w.heap.size ∧ ¬ N b ∧ w.heap[b]? = N0.fw.heap[b]? ∧ ∀ k bl, m k = some bl → bl.live = true → blkOf (E k) ≠ some b

structure Rel (G : World → Prop) (N0 : Base) (w0 : World) (nt : Nat) (st : St) (a : Act) (w : World) : Prop where
  good : G w0
  stab : ∀ w w', G w → Below w.heap.size w w' → G w'
  below : Below w0.heap.size w0 w
  defers : a.defers = []
  size : a.tmps.size = nt
  env : ∃ E N, Env N0 w0.heap.size w st.blk E N ∧ ∀ i, RvL E N w (st.get i) (a.tmps.getD i undef)
  twf : ∀ i k, (st.get i).men k → st.blk k ≠ none

/-! ### Carrying over -/
def upd {α : Type} (f : Nat → α) (k : Nat) (x : α) : Nat → α := fun j => if k = j then x else f j
theorem upd_same {α : Type} (f : Nat → α) (k : Nat) (x : α) : upd f k x k = x := by simp [upd]
theorem upd_ne {α : Type} (f : Nat → α) {k j : Nat} (x : α) (h : k ≠ j) : upd f k x j = f j := by simp [upd, h]

/-- The handle of a slot may stay, or be a longer slice. -/
def Grows (v v' : Value) : Prop := v' = v ∨ ∃ Ad m c Ad' m' c', v = .slice Ad m c ∧ v' = .slice Ad' m' c' ∧ m < m'

section
variable {E E' : Nat → Value} {N N' : Nat → Prop} {w w' : World}
theorem RvC.grows (hE : ∀ k, Grows (E k) (E' k)) {c : C} {v : Value} (h : RvC E N w c v) : RvC E' N w c v := by
  cases c with
  | d x => exact h
  | loc k off =>
    obtain ⟨b, h1, h2⟩ := h
    rcases hE k with h3 | ⟨_, _, _, _, _, _, h3, _⟩
    · exact ⟨b, by rw [h3]; exact h1, h2⟩
    · rw [h3] at h1; cases h1
theorem RvA.grows (hE : ∀ k, Grows (E k) (E' k)) {a : A} {v : Value} (h : RvA E N w a v) : RvA E' N w a v := by
  cases a with
  | d x => exact h
  | loc k off =>
    obtain ⟨b, h1, h2⟩ := h
    rcases hE k with h3 | ⟨_, _, _, _, _, _, h3, _⟩
    · exact ⟨b, by rw [h3]; exact h1, h2⟩
    · rw [h3] at h1; cases h1
  | row k n =>
    obtain ⟨h0, Ad, m, c, he, hn, h⟩ := h
    rcases hE k with h3 | ⟨Ad1, m1, c1, Ad2, m2, c2, h3, h4, h5⟩
    · exact ⟨h0, Ad, m, c, by rw [h3]; exact he, hn, h⟩
    · rw [h3] at he; cases he
      exact ⟨h0, _, _, _, h4, by omega, fun e => by omega⟩
  | rloc k n s i o =>
    obtain ⟨h0, Ad, m, c, he, hn, h⟩ := h
    rcases hE k with h3 | ⟨Ad1, m1, c1, Ad2, m2, c2, h3, h4, h5⟩
    · exact ⟨h0, Ad, m, c, by rw [h3]; exact he, hn, h⟩
    · rw [h3] at he; cases he
      exact ⟨h0, _, _, _, h4, by omega, fun e => by omega⟩
  | nils => exact h
  | fn f cs =>
    obtain ⟨vs, h1, h2, h3⟩ := h
    exact ⟨vs, h1, h2, fun i c u hc hu => RvC.grows hE (h3 i c u hc hu)⟩
  | map k =>
    obtain ⟨b, h1, h2⟩ := h
    rcases hE k with h3 | ⟨_, _, _, _, _, _, h3, _⟩
    · exact ⟨b, by rw [h3]; exact h1, h2⟩
    · rw [h3] at h1; cases h1
  | bnd f k off =>
    obtain ⟨b, h1, h2⟩ := h
    rcases hE k with h3 | ⟨_, _, _, _, _, _, h3, _⟩
    · exact ⟨b, by rw [h3]; exact h1, h2⟩
    · rw [h3] at h1; cases h1
  | any => trivial
theorem RvM.grows (hE : ∀ k, Grows (E k) (E' k)) {l : M} {v : Value} (h : RvM E N w l v) : RvM E' N w l v := by
  cases l with
  | «at» a => exact RvA.grows hE h
  | agg cs =>
    obtain ⟨vs, h1, h2, h3⟩ := h
    exact ⟨vs, h1, h2, fun i a u ha hu => RvA.grows hE (h3 i a u ha hu)⟩
theorem RvL.grows (hE : ∀ k, Grows (E k) (E' k)) {l : L} {v : Value} (h : RvL E N w l v) : RvL E' N w l v := by
  cases l with
  | «at» a => exact RvA.grows hE h
  | agg cs =>
    obtain ⟨vs, h1, h2, h3⟩ := h
    exact ⟨vs, h1, h2, fun i a u ha hu => RvA.grows hE (h3 i a u ha hu)⟩
  | tup ms =>
    obtain ⟨vs, h1, h2, h3⟩ := h
    exact ⟨vs, h1, h2, fun i m u hm hu => RvM.grows hE (h3 i m u hm hu)⟩

theorem ownsRow_congr {B e s n : Nat} {v : Value} {xs : List Value} (h : w.ownsRow B e s v n xs) (hb : ∀ b, blkOf v = some b → w'.heap[b]? = w.heap[b]?) : w'.ownsRow B e s v n xs := by
  obtain ⟨h1, h2⟩ := h
  refine ⟨h1, ?_⟩
  rcases h2 with h2 | ⟨g, cap, cur, hv, hg, hh, r⟩
  · exact .inl h2
  · exact .inr ⟨g, cap, cur, hv, hg, by rw [hb g (by rw [hv]; rfl)]; exact hh, r⟩

/-- A slot's block, its world turned elsewhere. -/
theorem RvB.mono {B : Nat} {v : Value} {bl : Blk} (hw : ∀ b, N b → b < w.heap.size → w'.heap[b]? = w.heap[b]?) (hN : ∀ b, N b → b < w.heap.size → N' b)
    (hE : ∀ k, bl.men k → E' k = E k) (hb : bl.live = true → ∀ b, blkOf v = some b → w'.heap[b]? = w.heap[b]?) (h : RvB E N w B v bl) : RvB E' N' w' B v bl := by
  cases bl with
  | var cs =>
    obtain ⟨b, c, ty, h1, h2, h3, h4⟩ := h
    exact ⟨b, c, ty, h1, by rw [hb rfl b (by rw [h1]; rfl)]; exact h2, h3, fun i a u ha hu => RvA.mono hw hN (fun k hk => hE k ⟨a, List.mem_of_getElem? ha, hk⟩) (h4 i a u ha hu)⟩
  | row e s rs =>
    obtain ⟨xs, h1, h2, h3⟩ := h
    exact ⟨xs, ownsRow_congr h1 (hb rfl), h2, fun i j r a u hr ha hu => RvA.mono hw hN (fun k hk => hE k ⟨r, List.mem_of_getElem? hr, a, List.mem_of_getElem? ha, hk⟩) (h3 i j r a u hr ha hu)⟩
  | fvar ds => exact Rv.mono hw hN h
  | frow rs => exact Rv.mono hw hN h
  | mp kvs =>
    obtain ⟨b, es, h1, h2, h3, h4⟩ := h
    exact ⟨b, es, h1, by rw [hb rfl b (by rw [h1]; rfl)]; exact h2, h3, fun i p e hp he => let ⟨a1, a2, a3⟩ := h4 i p e hp he; ⟨a1, a2, RvA.mono hw hN (fun k hk => hE k ⟨p, List.mem_of_getElem? hp, hk⟩) a3⟩⟩
  | iter k n seen =>
    obtain ⟨r, b, h1, h2, h3⟩ := h
    exact ⟨r, b, h1, by rw [hE k rfl]; exact h2, by rw [hb rfl r (by rw [h1]; rfl)]; exact h3⟩
  | gone => trivial
theorem RvB.grows {B : Nat} {v : Value} {bl : Blk} (hE : ∀ k, Grows (E k) (E' k)) (h : RvB E N w B v bl) : RvB E' N w B v bl := by
  cases bl with
  | var cs =>
    obtain ⟨b, c, ty, h1, h2, h3, h4⟩ := h
    exact ⟨b, c, ty, h1, h2, h3, fun i a u ha hu => RvA.grows hE (h4 i a u ha hu)⟩
  | row e s rs =>
    obtain ⟨xs, h1, h2, h3⟩ := h
    exact ⟨xs, h1, h2, fun i j r a u hr ha hu => RvA.grows hE (h3 i j r a u hr ha hu)⟩
  | fvar ds => exact h
  | frow rs => exact h
  | mp kvs =>
    obtain ⟨b, es, h1, h2, h3, h4⟩ := h
    exact ⟨b, es, h1, h2, h3, fun i p e hp he => let ⟨a1, a2, a3⟩ := h4 i p e hp he; ⟨a1, a2, RvA.grows hE a3⟩⟩
  | iter k n seen =>
    obtain ⟨r, b, h1, h2, h3⟩ := h
    refine ⟨r, b, h1, ?_, h3⟩
    rcases hE k with h5 | ⟨_, _, _, _, _, _, h5, _⟩
    · rw [h5]; exact h2
    · rw [h5] at h2; cases h2
  | gone => trivial
end

section
variable {N0 : Base} {B : Nat} {w w' : World} {m : Nat → Option Blk} {E : Nat → Value} {N : Nat → Prop}
/-- New blocks, draws: nothing of one's own turns. -/
theorem Env.ext (h : Env N0 B w m E N) (hw : ∀ b, b < w.heap.size → w'.heap[b]? = w.heap[b]?) (hs : w.heap.size ≤ w'.heap.size) : Env N0 B w' m E N where
  nlt b hb := Nat.lt_of_lt_of_le (h.nlt b hb) hs
  nsub := h.nsub
  live k bl b h1 h2 h3 := let ⟨a1, a2, a3⟩ := h.live k bl b h1 h2 h3; ⟨a1, a2, Nat.lt_of_lt_of_le a3 hs⟩
  dis := h.dis
  con k bl h1 := RvB.mono (fun b _ hb => hw b hb) (fun _ hb _ => hb) (fun _ _ => rfl) (fun h2 b h3 => hw b (h.live k bl b h1 h2 h3).2.2) (h.con k bl h1)
  wf := h.wf
  gh l v h1 := RvL.mono (fun b _ hb => hw b hb) (fun _ hb _ => hb) (fun _ _ => rfl) (h.gh l v h1)
  fx := h.fx
  fo b h1 := let ⟨a1, a2, a3, a4⟩ := h.fo b h1; ⟨Nat.lt_of_lt_of_le a1 hs, a2, (hw b a1).trans a3, a4⟩
/-- More blocks that may be read. -/
theorem Env.more (h : Env N0 B w m E N) {N' : Nat → Prop} (h1 : ∀ b, N b → N' b) (h2 : ∀ b, N' b → ¬ N b → (N0.n b ∨ B ≤ b) ∧ b < w.heap.size ∧ ∀ k bl, m k = some bl → bl.live = true → blkOf (E k) ≠ some b) (h3 : ∀ b, N' b → ¬ N b → ¬ N0.fb b) : Env N0 B w m E N' where
  nlt b hb := by
    by_cases hn : N b
    · exact h.nlt b hn
    · exact (h2 b hb hn).2.1
  nsub b hb := by
    by_cases hn : N b
    · exact h.nsub b hn
    · exact (h2 b hb hn).1
  live k bl b a1 a2 a3 := ⟨fun hb => by
    by_cases hn : N b
    · exact (h.live k bl b a1 a2 a3).1 hn
    · exact (h2 b hb hn).2.2 k bl a1 a2 a3, (h.live k bl b a1 a2 a3).2⟩
  dis := h.dis
  con k bl a1 := RvB.mono (fun _ _ _ => rfl) (fun b hb _ => h1 b hb) (fun _ _ => rfl) (fun _ _ _ => rfl) (h.con k bl a1)
  wf := h.wf
  gh l v a1 := RvL.mono (fun _ _ _ => rfl) (fun b hb _ => h1 b hb) (fun _ _ => rfl) (h.gh l v a1)
  fx := h.fx
  fo b a1 := ⟨(h.fo b a1).1, fun hb => by
    by_cases hn : N b
    · exact (h.fo b a1).2.1 hn
    · exact h3 b hb hn a1, (h.fo b a1).2.2⟩
/-- What a temporary holds, when one slot is laid or turned. -/
theorem RvL.upd (h : Env N0 B w m E N) (k : Nat) (v : Value) {l : L} {u : Value} (hl : RvL E N w l u) (hmen : ∀ j, l.men j → m j ≠ none)
    (hw : ∀ b, b < w.heap.size → (∀ bl0, m k = some bl0 → bl0.live = true → blkOf (E k) ≠ some b) → w'.heap[b]? = w.heap[b]?)
    (hg : ∀ bl0, m k = some bl0 → Grows (E k) v) : RvL (Ev.upd E k v) N w' l u := by
  have hN : ∀ b, N b → b < w.heap.size → w'.heap[b]? = w.heap[b]? := fun b hb hlt => hw b hlt fun bl0 h1 h2 h3 => (h.live k bl0 b h1 h2 h3).1 hb
  have h2 : RvL E N w' l u := RvL.mono hN (fun _ hb _ => hb) (fun _ _ => rfl) hl
  cases hk : m k with
  | some bl0 =>
    refine RvL.grows (fun i => ?_) h2
    by_cases e' : k = i
    · subst e'; rw [upd_same]; exact hg bl0 hk
    · rw [upd_ne _ _ e']; exact .inl rfl
  | none =>
    refine RvL.mono (fun _ _ _ => rfl) (fun _ hb _ => hb) (fun i hi => ?_) h2
    refine upd_ne _ _ fun e' => ?_
    subst e'
    exact hmen k hi hk
/-- One slot is laid or turned. -/
theorem Env.upd (h : Env N0 B w m E N) (k : Nat) (v : Value) (bl : Blk) (hs : w.heap.size ≤ w'.heap.size)
    (hw : ∀ b, b < w.heap.size → (∀ bl0, m k = some bl0 → bl0.live = true → blkOf (E k) ≠ some b) → w'.heap[b]? = w.heap[b]?)
    (hg : ∀ bl0, m k = some bl0 → Grows (E k) v)
    (hl : bl.live = true → ∀ b, blkOf v = some b → ¬ N b ∧ B ≤ b ∧ b < w'.heap.size ∧ ((∃ bl0, m k = some bl0 ∧ bl0.live = true ∧ blkOf (E k) = some b) ∨ w.heap.size ≤ b))
    (hc : RvB (upd E k v) N w' B v bl) (hm : ∀ j, bl.men j → Ev.upd m k (some bl) j ≠ none) : Env N0 B w' (Ev.upd m k (some bl)) (Ev.upd E k v) N := by
  have hN : ∀ b, N b → b < w.heap.size → w'.heap[b]? = w.heap[b]? := fun b hb hlt => hw b hlt fun bl0 h1 h2 h3 => (h.live k bl0 b h1 h2 h3).1 hb
  refine ⟨fun b hb => Nat.lt_of_lt_of_le (h.nlt b hb) hs, h.nsub, ?_, ?_, ?_, ?_, fun l u h1 => RvL.upd h k v (h.gh l u h1) (fun j hj => h.fx j (N0.ok l u j h1 hj)) hw hg, fun j hj => ?_, fun b hb => ?_⟩
  · intro j bj b h1 h2 h3
    by_cases e : k = j
    · subst e
      rw [upd_same] at h1 h3
      cases h1
      obtain ⟨a1, a2, a3, _⟩ := hl h2 b h3
      exact ⟨a1, a2, a3⟩
    · rw [upd_ne _ _ e] at h1 h3
      obtain ⟨a1, a2, a3⟩ := h.live j bj b h1 h2 h3
      exact ⟨a1, a2, Nat.lt_of_lt_of_le a3 hs⟩
  · intro i j bi bj b h1 h2 h3 h4 hne h5 h6
    by_cases e : k = i
    · subst e
      rw [upd_same] at h1 h5
      rw [upd_ne _ _ hne] at h2 h6
      cases h1
      rcases (hl h3 b h5).2.2.2 with ⟨bl0, a1, a2, a3⟩ | a1
      · exact h.dis k j bl0 bj b a1 h2 a2 h4 hne a3 h6
      · have := (h.live j bj b h2 h4 h6).2.2
        omega
    · rw [upd_ne _ _ e] at h1 h5
      by_cases e' : k = j
      · subst e'
        rw [upd_same] at h2 h6
        cases h2
        rcases (hl h4 b h6).2.2.2 with ⟨bl0, a1, a2, a3⟩ | a1
        · exact h.dis i k bi bl0 b h1 a1 h3 a2 hne h5 a3
        · have := (h.live i bi b h1 h3 h5).2.2
          omega
      · rw [upd_ne _ _ e'] at h2 h6
        exact h.dis i j bi bj b h1 h2 h3 h4 hne h5 h6
  · intro j bj h1
    by_cases e : k = j
    · subst e
      rw [upd_same] at h1 ⊢
      cases h1
      exact hc
    · rw [upd_ne _ _ e] at h1 ⊢
      have h2 : RvB E N w' B (E j) bj := by
        refine RvB.mono hN (fun _ hb _ => hb) (fun _ _ => rfl) ?_ (h.con j bj h1)
        intro h3 b h4
        exact hw b (h.live j bj b h1 h3 h4).2.2 fun bl0 a1 a2 a3 => h.dis k j bl0 bj b a1 h1 a2 h3 e a3 h4
      cases hk : m k with
      | some bl0 =>
        refine RvB.grows (fun i => ?_) h2
        by_cases e' : k = i
        · subst e'; rw [upd_same]; exact hg bl0 hk
        · rw [upd_ne _ _ e']; exact .inl rfl
      | none =>
        refine RvB.mono (fun _ _ _ => rfl) (fun _ hb _ => hb) (fun i hi => ?_) (fun _ _ _ => rfl) h2
        refine upd_ne _ _ fun e' => ?_
        subst e'
        exact h.wf j bj k h1 hi hk
  · intro j bj i h1 h2
    by_cases e : k = j
    · subst e
      rw [upd_same] at h1
      cases h1
      exact hm i h2
    · rw [upd_ne _ _ e] at h1
      by_cases e' : k = i
      · subst e'; rw [upd_same]; simp
      · rw [upd_ne _ _ e']; exact h.wf j bj i h1 h2
  · by_cases e : k = j
    · subst e; rw [upd_same]; simp
    · rw [upd_ne _ _ e]; exact h.fx j hj
  · obtain ⟨a1, a2, a3, a4⟩ := h.fo b hb
    refine ⟨Nat.lt_of_lt_of_le a1 hs, a2, (hw b a1 fun bl0 h1 h2 => a4 k bl0 h1 h2).trans a3, fun j bj h1 h2 h3 => ?_⟩
    by_cases e : k = j
    · subst e
      rw [upd_same] at h1 h3
      cases h1
      rcases (hl h2 b h3).2.2.2 with ⟨bl0, g1, g2, g3⟩ | g1
      · exact a4 k bl0 g1 g2 g3
      · omega
    · rw [upd_ne _ _ e] at h1 h3
      exact a4 j bj h1 h2 h3

end
end Go.Proofs.YtpfhfokfambdaaaGreatDoor.Ev

/-! Operands; what an operation that writes nothing does to the state. -/
namespace Go.Proofs.YtpfhfokfambdaaaGreatDoor.Ev
open Go.RowKit (Below)

/-- An operand. -/
inductive X where
  | t (i : Nat)
  | c (l : L)

def St.ev (st : St) : X → L
  | .t i => st.get i
  | .c l => l

def atomOk : Value → A → Bool
  | .int k n, .d (.int k' n') => k == k' && n == n'
  | .bool b, .d (.bool b') => b == b'
  | .string s, .d (.str l) => s.data.toList == l
  | .slice none 0 0, .nils => true
  | .pointer none, .d .nilp => true
  | .nilFunc, .d .nilf => true
  | .nilIface, .d .nili => true
  | .map none, .any => true
  | _, _ => false
def atomsOk : List Value → List A → Bool
  | [], [] => true
  | v :: vs, a :: as => atomOk v a && atomsOk vs as
  | _, _ => false
def constOk : Value → L → Bool
  | .agg cs, .agg as => atomsOk cs.toList as
  | v, .at a => atomOk v a
  | _, _ => false
def chkX : Operand → X → Bool
  | .tmp i, .t j => i == j
  | .const v, .c l => constOk v l
  | .func f, .c (.at (.d (.fn g []))) => f == g
  | _, _ => false

section
variable {E : Nat → Value} {N : Nat → Prop} {w : World}
theorem atomOk_rv {v : Value} {a : A} (h : atomOk v a = true) : RvA E N w a v ∧ ∀ k, ¬ a.men k := by
  unfold atomOk at h
  split at h
  · simp only [Bool.and_eq_true, beq_iff_eq] at h
    obtain ⟨rfl, rfl⟩ := h
    exact ⟨.int _ _, fun k hk => hk⟩
  · simp only [beq_iff_eq] at h
    subst h
    exact ⟨.bool _, fun k hk => hk⟩
  · simp only [beq_iff_eq] at h
    subst h
    refine ⟨?_, fun k hk => hk⟩
    rename_i s
    have : s = ⟨s.data.toList.toArray⟩ := by cases s; simp
    show Rv N w _ _
    exact this ▸ Rv.str _
  · exact ⟨rfl, fun k hk => hk⟩
  · exact ⟨.nilp, fun k hk => hk⟩
  · exact ⟨.nilf, fun k hk => hk⟩
  · exact ⟨.nili, fun k hk => hk⟩
  · exact ⟨trivial, fun k hk => hk⟩
  · cases h
theorem atomsOk_rv : ∀ {vs : List Value} {as : List A}, atomsOk vs as = true → vs.length = as.length ∧ (∀ (i : Nat) (a : A) (u : Value), as[i]? = some a → vs[i]? = some u → RvA E N w a u) ∧ ∀ a ∈ as, ∀ k, ¬ a.men k
  | [], [], _ => ⟨rfl, fun i a u h => by simp at h, fun a h => by simp at h⟩
  | v :: vs, a :: as, h => by
    simp only [atomsOk, Bool.and_eq_true] at h
    obtain ⟨h1, h2, h3⟩ := atomsOk_rv h.2
    obtain ⟨h4, h5⟩ := atomOk_rv (E := E) (N := N) (w := w) h.1
    refine ⟨by simp [h1], fun i a' u ha hu => ?_, fun b hb => ?_⟩
    · cases i with
      | zero => simp at ha hu; subst ha; subst hu; exact h4
      | succ i => simp at ha hu; exact h2 i a' u ha hu
    · rcases List.mem_cons.1 hb with rfl | hb
      · exact h5
      · exact h3 b hb
  | [], _ :: _, h => by simp [atomsOk] at h
  | _ :: _, [], h => by simp [atomsOk] at h
theorem constOk_rv {v : Value} {l : L} (h : constOk v l = true) : RvL E N w l v ∧ ∀ k, ¬ l.men k := by
  unfold constOk at h
  split at h
  · rename_i cs as
    obtain ⟨h1, h2, h3⟩ := atomsOk_rv (E := E) (N := N) (w := w) h
    exact ⟨⟨cs.toList, by simp, h1, h2⟩, fun k ⟨a, ha, hk⟩ => h3 a ha k hk⟩
  · exact atomOk_rv h
  · cases h

theorem chkX_rv {st : St} {a : Act} (ht : ∀ i, RvL E N w (st.get i) (a.tmps.getD i undef)) {o : Operand} {x : X} (h : chkX o x = true) : RvL E N w (st.ev x) (a.eval o) := by
  unfold chkX at h
  split at h
  · rename_i i j
    have : i = j := by simpa using h
    subst this
    exact ht i
  · exact (constOk_rv h).1
  · rename_i f g
    have : f = g := by simpa using h
    subst this
    exact .fn f [] [] rfl (fun i d v h => by simp at h)
  · cases h
theorem chkX_men {st : St} {P : Nat → Prop} (ht : ∀ i k, (st.get i).men k → P k) {o : Operand} {x : X} (h : chkX o x = true) : ∀ k, (st.ev x).men k → P k := by
  intro k hk
  unfold chkX at h
  split at h
  · exact ht _ k hk
  · exact absurd hk ((constOk_rv (E := fun _ => undef) (N := fun _ => False) (w := default) h).2 k)
  · exact hk.elim
  · cases h
end

section
variable {G : World → Prop} {N0 : Base} {w0 : World} {nt : Nat} {st : St} {a : Act} {w : World}

theorem getD_put (a : Act) (dst : Option Nat) (v : Value) (i : Nat) (hd : ∀ d, dst = some d → d < a.tmps.size) :
    (a.put dst v).tmps.getD i undef = if dst = some i then v else a.tmps.getD i undef := by
  cases dst with
  | none => simp [Act.put]
  | some d =>
    simp only [Act.put, Option.some.injEq]
    have := hd d rfl
    by_cases e : d = i
    · subst e; simp [this]
    · simp [e, Array.getElem?_setIfInBounds_ne e]
theorem get_write (st : St) (dst : Option Nat) (l : L) (us : List (Nat × Blk)) (i : Nat) : (st.write dst l us).get i = if dst = some i then l else st.get i := by
  cases dst with
  | none => simp [St.write, St.get]
  | some d =>
    simp only [St.write, St.get, look, Option.some.injEq]
    split <;> simp
theorem blk_write_nil (st : St) (dst : Option Nat) (l : L) (k : Nat) : (st.write dst l []).blk k = st.blk k := rfl
theorem blk_write_one (st : St) (dst : Option Nat) (l : L) (j : Nat) (b : Blk) : (st.write dst l [(j, b)]).blk = upd st.blk j (some b) := by
  funext k
  simp only [St.write, St.blk, List.cons_append, List.nil_append, look, upd]

/-- An operation that only computes: its value is put into its temporary. -/
theorem Rel.value (R : Rel G N0 w0 nt st a w) (dst : Option Nat) (hd : ∀ d, dst = some d → d < nt) (l : L) (v : Value)
    (hv : ∀ E N, Env N0 w0.heap.size w st.blk E N → (∀ i, RvL E N w (st.get i) (a.tmps.getD i undef)) → RvL E N w l v)
    (hm : ∀ k, l.men k → st.blk k ≠ none) : Rel G N0 w0 nt (st.write dst l []) (a.put dst v) w := by
  obtain ⟨E, N, hE, ht⟩ := R.env
  refine ⟨R.good, R.stab, R.below, ?_, ?_, ⟨E, N, hE, fun i => ?_⟩, fun i k hk => ?_⟩
  · cases dst <;> exact R.defers
  · cases dst
    · exact R.size
    · simp [Act.put, R.size]
  · rw [get_write, getD_put _ _ _ _ (fun d h => by rw [R.size]; exact hd d h)]
    split
    · exact hv E N hE ht
    · exact ht i
  · rw [get_write] at hk
    split at hk
    · exact hm k hk
    · exact R.twf i k hk

/-- New blocks, draws. -/
theorem Rel.ext (R : Rel G N0 w0 nt st a w) {w' : World} (hb : Below w.heap.size w w') : Rel G N0 w0 nt st a w' := by
  obtain ⟨E, N, hE, ht⟩ := R.env
  exact ⟨R.good, R.stab, R.below.trans (hb.mono R.below.size), R.defers, R.size, ⟨E, N, hE.ext hb.block hb.size, fun i => RvL.mono (fun b _ hlt => hb.block b hlt) (fun _ h _ => h) (fun _ _ => rfl) (ht i)⟩, R.twf⟩

/-- A slot is laid or turned, and a value put. -/
theorem Rel.slot (R : Rel G N0 w0 nt st a w) {w' : World} (dst : Option Nat) (hd : ∀ d, dst = some d → d < nt) (l : L) (u : Value) (k : Nat) (bl : Blk) (hos : Below w0.heap.size w w')
    (H : ∀ E N, Env N0 w0.heap.size w st.blk E N → (∀ i, RvL E N w (st.get i) (a.tmps.getD i undef)) → ∃ v,
      (∀ b, b < w.heap.size → (∀ bl0, st.blk k = some bl0 → bl0.live = true → blkOf (E k) ≠ some b) → w'.heap[b]? = w.heap[b]?) ∧
      (∀ bl0, st.blk k = some bl0 → Grows (E k) v) ∧
      (bl.live = true → ∀ b, blkOf v = some b → ¬ N b ∧ w0.heap.size ≤ b ∧ b < w'.heap.size ∧ ((∃ bl0, st.blk k = some bl0 ∧ bl0.live = true ∧ blkOf (E k) = some b) ∨ w.heap.size ≤ b)) ∧
      RvB (upd E k v) N w' w0.heap.size v bl ∧ RvL (upd E k v) N w' l u)
    (hm : ∀ j, bl.men j → upd st.blk k (some bl) j ≠ none) (hml : ∀ j, l.men j → upd st.blk k (some bl) j ≠ none) : Rel G N0 w0 nt (st.write dst l [(k, bl)]) (a.put dst u) w' := by
  obtain ⟨E, N, hE, ht⟩ := R.env
  obtain ⟨v, h1, h2, h3, h4, h5⟩ := H E N hE ht
  refine ⟨R.good, R.stab, R.below.trans hos, ?_, ?_, ⟨upd E k v, N, ?_, fun i => ?_⟩, fun i j hj => ?_⟩
  · cases dst <;> exact R.defers
  · cases dst
    · exact R.size
    · simp [Act.put, R.size]
  · rw [blk_write_one]
    exact hE.upd k v bl hos.size h1 h2 h3 h4 hm
  · rw [get_write, getD_put _ _ _ _ (fun d h => by rw [R.size]; exact hd d h)]
    split
    · exact h5
    · exact RvL.upd hE k v (ht i) (R.twf i) h1 h2
  · rw [blk_write_one]
    rw [get_write] at hj
    split at hj
    · exact hml j hj
    · by_cases e : k = j
      · subst e; rw [upd_same]; simp
      · rw [upd_ne _ _ e]; exact R.twf i j hj
end
end Go.Proofs.YtpfhfokfambdaaaGreatDoor.Ev

/-! Contracts over data; the operations, at data level; how an operation of the program is held against one. -/
namespace Go.Proofs.YtpfhfokfambdaaaGreatDoor.Ev
open Go.RowKit (Below)

/-- The function has a text of its own. -/
def Callable (P : Program) (f : FuncId) : Prop := ∃ fn, P.funcs[f]? = some fn ∧ fn.body.isSome = true ∧ (fn.name == "runtime.NumGoroutine") = false

/-- Called, in a world of G, with values that read as 'args', the function f returns a value that reads as r; nothing that was there has turned. -/
def Sat (G : World → Prop) (P : Program) (f : FuncId) (args : List D) (r : D) : Prop :=
  Callable P f ∧ ∀ (N : Nat → Prop) (w : World) (vs : List Value), vs.length = args.length → (∀ (i : Nat) (d : D) (v : Value), args[i]? = some d → vs[i]? = some v → Rv N w d v) →
    (∀ b, N b → b < w.heap.size) → G w → Calls P f vs.toArray w fun e w' => ∃ v, e = .returned v ∧ Below w.heap.size w w' ∧ Rv (fun b => N b ∨ w.heap.size ≤ b) w' r v

/-! ### Handing out -/
def pubs {α β : Type} (f : α → Option β) : List α → Option (List β)
  | [] => some []
  | a :: r => match f a with
    | some d => match pubs f r with
      | some ds => some (d :: ds)
      | none => none
    | none => none
def A.pub0 : A → Option D
  | .d x => some x
  | .nils => some (.slice [])
  | _ => none
def Blk.frz : Blk → Option Blk
  | .var cs => (pubs A.pub0 cs).map .fvar
  | .row _ _ rs => (pubs (pubs A.pub0) rs).map .frow
  | .gone | .mp _ | .iter .. => none
  | b => some b
def C.pub (blk : Nat → Option Blk) : C → Option D
  | .d x => some x
  | .loc k off => match (blk k).bind Blk.frz with
    | some (.fvar ds) => some (.ref (ds.drop off))
    | _ => none
def A.pub (blk : Nat → Option Blk) : A → Option D
  | .d x => some x
  | .nils => some (.slice [])
  | .loc k off => match (blk k).bind Blk.frz with
    | some (.fvar ds) => some (.ref (ds.drop off))
    | _ => none
  | .row k n => match (blk k).bind Blk.frz with
    | some (.frow rs) => if n = rs.length then some (.slice rs) else none
    | _ => none
  | .rloc k n s i o => match (blk k).bind Blk.frz with
    | some (.frow rs) => if n = rs.length then (rs[i]?).bind fun r => if r.length = s then some (.ref (r.drop o)) else none else none
    | _ => none
  | .fn f cs => (pubs (C.pub blk) cs).map (.fn f)
  | .map _ => none
  | .bnd .. => none
  | .any => none
def L.pub (blk : Nat → Option Blk) : L → Option D
  | .at a => a.pub blk
  | .agg cs => (pubs (A.pub blk) cs).map .agg
  | .tup _ => none
def C.slots : C → List Nat
  | .loc k _ => [k]
  | _ => []
def A.slots : A → List Nat
  | .loc k _ | .row k _ | .rloc k _ _ _ _ | .map k | .bnd _ k _ => [k]
  | .fn _ cs => cs.flatMap C.slots
  | _ => []
def M.slots : M → List Nat
  | .at a => a.slots
  | .agg cs => cs.flatMap A.slots
def L.slots : L → List Nat
  | .at a => a.slots
  | .agg cs => cs.flatMap A.slots
  | .tup ms => ms.flatMap M.slots
def Blk.slots : Blk → List Nat
  | .var cs => cs.flatMap A.slots
  | .row _ _ rs => rs.flatMap fun r => r.flatMap A.slots
  | .mp kvs => kvs.flatMap fun p => p.2.slots
  | .iter k _ _ => [k]
  | _ => []
theorem C.men_slots {c : C} {k : Nat} (h : c.men k) : k ∈ c.slots := by
  cases c with
  | d x => exact h.elim
  | loc j off => have : j = k := h; subst this; simp [C.slots]
theorem A.men_slots {x : A} {k : Nat} (h : x.men k) : k ∈ x.slots := by
  cases x with
  | loc j off => have : j = k := h; subst this; simp [A.slots]
  | row j n => have : j = k := h; subst this; simp [A.slots]
  | rloc j n s i o => have : j = k := h; subst this; simp [A.slots]
  | map j => have : j = k := h; subst this; simp [A.slots]
  | bnd f j off => have : j = k := h; subst this; simp [A.slots]
  | fn f cs => obtain ⟨c, hc, hk⟩ := h; exact List.mem_flatMap.2 ⟨c, hc, C.men_slots hk⟩
  | _ => exact h.elim
theorem M.men_slots {l : M} {k : Nat} (h : l.men k) : k ∈ l.slots := by
  cases l with
  | «at» x => exact A.men_slots h
  | agg cs => obtain ⟨c, hc, hk⟩ := h; exact List.mem_flatMap.2 ⟨c, hc, A.men_slots hk⟩
theorem L.men_slots {l : L} {k : Nat} (h : l.men k) : k ∈ l.slots := by
  cases l with
  | «at» x => exact A.men_slots h
  | agg cs => obtain ⟨c, hc, hk⟩ := h; exact List.mem_flatMap.2 ⟨c, hc, A.men_slots hk⟩
  | tup ms => obtain ⟨c, hc, hk⟩ := h; exact List.mem_flatMap.2 ⟨c, hc, M.men_slots hk⟩
theorem Blk.men_slots {b : Blk} {k : Nat} (h : b.men k) : k ∈ b.slots := by
  cases b with
  | var cs => obtain ⟨c, hc, hk⟩ := h; exact List.mem_flatMap.2 ⟨c, hc, A.men_slots hk⟩
  | row e s rs => obtain ⟨r, hr, c, hc, hk⟩ := h; exact List.mem_flatMap.2 ⟨r, hr, List.mem_flatMap.2 ⟨c, hc, A.men_slots hk⟩⟩
  | mp kvs => obtain ⟨p, hp, hk⟩ := h; exact List.mem_flatMap.2 ⟨p, hp, A.men_slots hk⟩
  | iter j n seen => have : j = k := h; subst this; simp [Blk.slots]
  | _ => exact h.elim

def D.plain : D → Bool
  | .ref _ | .slice _ | .fn .. | .agg _ | .tup _ => false
  | _ => true
/-- No memory behind it. -/
def D.flat : D → Bool
  | .agg cs => cs.all D.plain
  | .tup cs => cs.all D.plain
  | d => d.plain
/-- The slots that are handed out with a call whose result may lead to memory. -/
def frz (blk : Nat → Option Blk) : List Nat → List (Nat × Blk)
  | [] => []
  | k :: r => match (blk k).bind Blk.frz with
    | some b => (k, b) :: frz blk r
    | none => frz blk r

/-- These slots. -/
def grab (blk : Nat → Option Blk) : List Nat → List (Nat × Blk)
  | [] => []
  | k :: r => match blk k with
    | some b => (k, b) :: grab blk r
    | none => grab blk r
/-- A contract with shared memory: called, in a world of G, with values that read as 'args' over the slots m0, f returns a value that reads as l over the slots us; all else that was there stays. -/
def SatS (G : World → Prop) (P : Program) (f : FuncId) (args : List L) (m0 : List (Nat × Blk)) (l : L) (us : List (Nat × Blk)) : Prop :=
  Callable P f ∧ ∀ (N0 : Base) (w0 w : World) (E : Nat → Value) (N : Nat → Prop) (vs : List Value), vs.length = args.length →
    (∀ (i : Nat) (x : L) (v : Value), args[i]? = some x → vs[i]? = some v → RvL E N w x v ∧ ∀ k, x.men k → look m0 k ≠ none) →
    N0.fx = m0.map (·.1) → Env N0 w0.heap.size w (look m0) E N → Below w0.heap.size w0 w → G w0 →
    Calls P f vs.toArray w fun e w' => ∃ v E' N', e = .returned v ∧ Below w0.heap.size w0 w' ∧ Env N0 w0.heap.size w' (look us) E' N' ∧ RvL E' N' w' l v ∧ ∀ k, l.men k → look us k ≠ none
def C.toL : C → L
  | .d x => .at (.d x)
  | .loc k off => .at (.loc k off)
/-- Slots that name only each other. -/
def shut (m : List (Nat × Blk)) : Bool := m.all fun p => p.2.slots.all fun k => (look m k).isSome
/-- What a call with shared memory asks for. -/
def sharedOk (blk : Nat → Option Blk) (args : List L) (ks ns : List Nat) (us : List (Nat × Blk)) : Bool :=
  ks.all (fun k => (blk k).isSome) && ns.all (fun k => (blk k).isNone) && args.all (fun x => x.slots.all fun k => ks.contains k) && shut (grab blk ks) && us.all (fun p => ks.contains p.1 || ns.contains p.1)

/-- f gives a copy of a slice's elements, each of s cells, in a row of its own. -/
def CloneAt (P : Program) (f : FuncId) (e : TypeId) (s : Nat) : Prop :=
  Callable P f ∧ ∀ (w : World) (A : Option Addr) (n c : Nat) (xs : List Value), xs.length = n * s → n ≤ 4294967296 → (∀ u ∈ xs, u.oneCell' = true) →
    (n = 0 ∨ ∃ b o, A = some ⟨b, o, none⟩ ∧ ∀ (j : Nat) (u : Value), xs[j]? = some u → w.cell? ⟨b, o + j, none⟩ = some u) →
    Calls P f #[.slice A n c] w fun x w' => ∃ v, x = .returned v ∧ w'.ownsRow w.heap.size e s v n xs ∧ Below w.heap.size w w'
/-- f inserts elements of a row into another one. -/
def InsAt (P : Program) (f : FuncId) (e : TypeId) (s : Nat) : Prop :=
  Callable P f ∧ ∀ (w : World) (B : Nat) (v y : Value) (n m i : Nat) (xs ys : List Value), w.ownsRow B e s v n xs → w.ownsRow B e s y m ys → B ≤ w.heap.size → (∀ b, blkOf v = some b → blkOf y ≠ some b) → 0 < m → i ≤ n → n + m ≤ 4294967296 →
    (∀ u ∈ xs, u.oneCell' = true) → (∀ u ∈ ys, u.oneCell' = true) →
    Calls P f #[v, .int .i64 i, y] w fun x w' => ∃ v', x = .returned v' ∧ w'.ownsRow B e s v' (n + m) (xs.take (i * s) ++ ys ++ xs.drop (i * s)) ∧ Below B w w' ∧ (∀ b, b < w.heap.size → blkOf v ≠ some b → w'.heap[b]? = w.heap[b]?) ∧
      ∀ b, blkOf v' = some b → blkOf v = some b ∨ w.heap.size ≤ b

/-! ### Operations -/
def L.cells : L → Option (List A)
  | .at (.d (.agg ds)) => some (ds.map .d)
  | .at (.d (.tup _)) => none
  | .at .any => none
  | .at a => some [a]
  | .agg cs => some cs
  | .tup _ => none
/-- The parts of a struct or an array. -/
def L.parts : L → Option (List A)
  | .at (.d (.agg ds)) => some (ds.map .d)
  | .agg cs => some cs
  | _ => none
def A.one : A → Bool
  | .d (.agg _) | .d (.tup _) | .any => false
  | _ => true
/-- The cells that lie from a pointer on. -/
def lies (blk : Nat → Option Blk) : L → Option (List A)
  | .at (.d (.ref cells)) => some (cells.map .d)
  | .at (.loc k off) => match blk k with
    | some (.var cs) => some (cs.drop off)
    | some (.fvar ds) => some ((ds.drop off).map .d)
    | _ => none
  | .at (.rloc k n s i o) => match blk k with
    | some (.row _ s' rs) => if n = rs.length ∧ s' = s then (rs[i]?).map fun r => r.drop o else none
    | some (.frow rs) => if n = rs.length then (rs[i]?).bind fun r => if r.length = s then some ((r.drop o).map .d) else none else none
    | _ => none
  | _ => none
def splice {α : Type} (off : Nat) (new old : List α) : List α := old.take off ++ new ++ old.drop (off + new.length)
/-- The parts of a literal laid over its zero. -/
def fillL (ev : X → L) : List (Nat × Nat × X) → List A → Option (List A)
  | [], z => some z
  | (off, n, x) :: r, z => match (ev x).cells with
    | some cs => if cs.length = n ∧ off + n ≤ z.length then fillL ev r (splice off cs z) else none
    | none => none
/-- The elements of a slice: what they read as. -/
def elems (blk : Nat → Option Blk) (s : Nat) : L → Option (List (List A))
  | .at (.d (.slice rows)) => some (rows.map fun r => r.map .d)
  | .at .nils => some []
  | .at (.row k n) => match blk k with
    | some (.row _ s' rs) => if n = rs.length ∧ s' = s then some rs else none
    | some (.frow rs) => if n = rs.length then some (rs.map fun r => r.map .d) else none
    | _ => none
  | _ => none
/-- Two cells of a comparable kind: 0 a whole number, 1 a string, 2 a bool. -/
def D.same : Nat → D → D → Option Bool
  | 0, .int k n, .int k' m => if k = k' then some (n == m) else none
  | 2, .bool a, .bool b => some (a == b)
  | 1, .str a, .str b => some (a == b)
  | _, _, _ => none
def sames : List Nat → List A → List A → Option Bool
  | [], [], [] => some true
  | k :: ks, .d a :: as, .d b :: bs => match D.same k a b with
    | some q => match sames ks as bs with
      | some r => some (q && r)
      | none => none
    | none => none
  | _, _, _ => none

inductive LK where
  | mov (x : X)
  | pick (c a b : X)
  | alloc (k : Nat) (z : List A)
  | box (k : Nat) (x : X)
  | build (z : List A) (ps : List (Nat × Nat × X))
  | buildS (k e s n : Nat) (ps : List (Nat × Nat × X))
  | load (n : Option Nat) (x : X)
  | store (n : Nat) (x v : X)
  | nilck (x : X)
  | bin (op : BinOp) (x y : X)
  | eqAgg (neg : Bool) (ks : List Nat) (x y : X)
  | beq (neg : Bool) (x y : X)
  | isNil (neg : Bool) (x y : X)
  | not (x : X)
  | neg (x : X)
  | conv (k : IntKind) (x : X)
  | convS (x : X)
  | bytes (x : X)
  | fn (f : Nat) (xs : List X)
  | fieldA (off : Nat) (x : X)
  | field (off : Nat) (n : Option Nat) (x : X)
  | idxA (s : Nat) (x i : X)
  | idxAA (len s : Nat) (x i : X)
  | idx (len s : Nat) (n : Option Nat) (x i : X)
  | idxS (x i : X)
  | slcS (x : X) (lo hi : Option X)
  | slcL (s : Nat) (x : X) (lo hi : Option X)
  | ext (x : X) (i : Nat)
  | call (f : Nat) (xs : List X)
  | callv (x : X) (xs : List X)
  | lenS (x : X)
  | lenL (x : X)
  | lenC (n : Nat)
  | append (e s : Nat) (x y : X)
  | max2 (x y : X)
  | min2 (x y : X)
  | isNilS (neg : Bool) (x : X)
  | slcA (n s : Nat) (x : X)
  | callS (f : Nat) (xs : List X) (ks ns : List Nat)
  | callvS (x : X) (xs : List X) (ks ns : List Nat)
  | callF (f : Nat) (xs : List X)
  | mkMap (k : Nat)
  | mapUpd (x key v : X)
  | lookup (ok : Bool) (z : A) (x key : X)
  | rangeM (k : Nat) (x : X)
  | nextM (x : X)
  | entryM (x : X)
  | bind (f : Nat) (x : X)
  | callD (f : Nat) (xs : List X)
  | callvD (x : X) (xs : List X)
  | cloneR (f k e s : Nat) (x : X)
  | insR (f e s : Nat) (x i y : X)
  | appN (k e s : Nat) (x y : X)

def intBin (op : BinOp) (k : IntKind) (a b : Int) : Option D :=
  match op with
  | .add => some (.int k (k.wrap (a + b)))
  | .sub => some (.int k (k.wrap (a - b)))
  | .mul => some (.int k (k.wrap (a * b)))
  | .quo => if b = 0 then none else some (.int k (k.wrap (a.tdiv b)))
  | .rem => if b = 0 then none else some (.int k (a.tmod b))
  | .eql => some (.bool (a == b))
  | .neq => some (.bool (a != b))
  | .lss => some (.bool (decide (a < b)))
  | .leq => some (.bool (decide (a ≤ b)))
  | .gtr => some (.bool (decide (a > b)))
  | .geq => some (.bool (decide (a ≥ b)))
  | .shr => if 0 ≤ b ∧ b ≤ 8 then some (.int k (a / 2 ^ b.toNat)) else none
  | _ => none
def strBin (op : BinOp) (a b : List UInt8) : Option D :=
  match op with
  | .add => if a.length + b.length ≤ 4611686018427387904 then some (.str (a ++ b)) else none
  | .eql => some (.bool (a == b))
  | .neq => some (.bool !(a == b))
  | .lss => some (.bool (Op.bytesLess a b))
  | .leq => some (.bool (Op.bytesLess a b || (a == b)))
  | .gtr => some (.bool !(Op.bytesLess a b || (a == b)))
  | .geq => some (.bool !(Op.bytesLess a b))
  | _ => none
def binD (op : BinOp) : L → L → Option D
  | .at (.d (.int k a)), .at (.d (.int k' b)) => if k = k' then intBin op k a b else none
  | .at (.d (.str a)), .at (.d (.str b)) => strBin op a b
  | _, _ => none
def C.pub0 : C → Option D
  | .d x => some x
  | _ => none
/-- A closure: data, if all that it has captured is. -/
def A.mk (f : FuncId) (cs : List C) : A := match pubs C.pub0 cs with
  | some ds => .d (.fn f ds)
  | none => .fn f cs
def capC : L → Option C
  | .at (.d x) => some (.d x)
  | .at (.loc k off) => some (.loc k off)
  | _ => none
/-- As A.pub, two rows deep: what can be read, nothing handed out. -/
def A.pub2 (blk : Nat → Option Blk) (a : A) : Option D := match a.pub blk with
  | some y => some y
  | none => match a with
    | .row k n => match blk k with
      | some (.row _ _ rs) => if n = rs.length then (pubs (pubs (A.pub blk)) rs).map .slice else none
      | _ => none
    | _ => none
def L.pub2 (blk : Nat → Option Blk) : L → Option D
  | .at a => a.pub2 blk
  | .agg cs => (pubs (A.pub2 blk) cs).map .agg
  | .tup _ => none
def A.toM : A → M := .at
def L.toM : L → Option M
  | .at a => some (.at a)
  | .agg cs => some (.agg cs)
  | .tup _ => none
def M.toL : M → L
  | .at a => .at a
  | .agg cs => .agg cs
/-- A map's entry. -/
def getKV : List (List UInt8 × A) → List UInt8 → Option A
  | [], _ => none
  | (s, a) :: r, t => if s = t then some a else getKV r t
def putKV : List (List UInt8 × A) → List UInt8 → A → List (List UInt8 × A)
  | [], t, b => [(t, b)]
  | (s, a) :: r, t, b => if s = t then (s, b) :: r else (s, a) :: putKV r t b
def bound (ev : X → L) (d : Nat) : Option X → Option Nat
  | none => some d
  | some x => match ev x with
    | .at (.d (.int _ n)) => if 0 ≤ n then some n.toNat else none
    | _ => none

/-- What an operation does: K is given its value, and the slots that it lays or turns. -/
def dsem (G : World → Prop) (P : Program) (lk : LK) (ev : X → L) (blk : Nat → Option Blk) (K : L → List (Nat × Blk) → Prop) : Prop :=
  match lk with
  | .mov x => K (ev x) []
  | .pick c a b => match ev c with
    | .at (.d (.bool q)) => K (if q then ev a else ev b) []
    | _ => False
  | .alloc k z => blk k = none ∧ K (.at (.loc k 0)) [(k, .var z)]
  | .box k x => match (ev x).cells with
    | some cs => blk k = none ∧ K (.at (.loc k 0)) [(k, .var cs)]
    | none => False
  | .build z ps => match fillL ev ps z with
    | some cs => K (.agg cs) []
    | none => False
  | .buildS k e s n ps => match fillL ev ps (List.replicate (n * s) A.any) with
    | some cs => blk k = none ∧ K (.at (.row k n)) [(k, .row e s ((List.range n).map fun i => (cs.drop (i * s)).take s))]
    | none => False
  | .load n x => match lies blk (ev x) with
    | some cs => match n with
      | none => match cs with
        | a :: _ => K (.at a) []
        | [] => False
      | some n => n ≤ cs.length ∧ K (.agg (cs.take n)) []
    | none => False
  | .store n x v => match (ev v).cells with
    | some cs => cs.length = n ∧ cs.all A.one = true ∧ match ev x with
      | .at (.loc k off) => match blk k with
        | some (.var old) => off + n ≤ old.length ∧ K (.at .any) [(k, .var (splice off cs old))]
        | _ => False
      | .at (.rloc k m s i o) => match blk k with
        | some (.row e s' rs) => m = rs.length ∧ s' = s ∧ i < m ∧ o + n ≤ s ∧ 0 < n ∧ K (.at .any) [(k, .row e s' (rs.modify i (splice o cs)))]
        | _ => False
      | _ => False
    | none => False
  | .nilck x => match ev x with
    | .at (.d (.ref _)) | .at (.loc ..) | .at (.rloc ..) | .at (.d (.fn ..)) | .at (.fn ..) => K (ev x) []
    | _ => False
  | .bin op x y => match binD op (ev x) (ev y) with
    | some d => K (.at (.d d)) []
    | none => False
  | .eqAgg neg ks x y => match (ev x).parts, (ev y).parts with
    | some a, some b => match sames ks a b with
      | some q => K (.at (.d (.bool (q != neg)))) []
      | none => False
    | _, _ => False
  | .beq neg x y => match ev x, ev y with
    | .at (.d (.bool a)), .at (.d (.bool b)) => K (.at (.d (.bool ((a == b) != neg)))) []
    | _, _ => False
  | .isNil neg x y => match ev x, ev y with
    | .at (.d .nili), .at (.d .nili) => K (.at (.d (.bool (true != neg)))) []
    | .at (.d .ifc), .at (.d .nili) => K (.at (.d (.bool (false != neg)))) []
    | _, _ => False
  | .not x => match ev x with
    | .at (.d (.bool q)) => K (.at (.d (.bool !q))) []
    | _ => False
  | .neg x => match ev x with
    | .at (.d (.int k n)) => K (.at (.d (.int k (k.wrap (0 - n))))) []
    | _ => False
  | .conv k x => match ev x with
    | .at (.d (.int _ n)) => K (.at (.d (.int k (k.wrap n)))) []
    | _ => False
  | .convS x => match ev x with
    | .at (.d (.str s)) => K (.at (.d (.str s))) []
    | _ => False
  | .bytes x => match ev x with
    | .at (.d (.str s)) => K (.at (.d (.slice (s.map fun b => [D.int .u8 (b.toNat : Int)])))) []
    | _ => False
  | .fn f xs => match pubs (fun x => capC (ev x)) xs with
    | some cs => K (.at (A.mk f cs)) []
    | none => False
  | .fieldA off x => match ev x with
    | .at (.d (.ref cells)) => K (.at (.d (.ref (cells.drop off)))) []
    | .at (.loc k o) => K (.at (.loc k (o + off))) []
    | .at (.rloc k n s i o) => K (.at (.rloc k n s i (o + off))) []
    | _ => False
  | .field off n x => match (ev x).parts with
    | some cs => match n with
      | none => match cs.drop off with
        | a :: _ => K (.at a) []
        | [] => False
      | some n => off + n ≤ cs.length ∧ K (.agg ((cs.drop off).take n)) []
    | none => False
  | .idxA s x i => match ev i with
    | .at (.d (.int _ n)) => 0 ≤ n ∧ match ev x with
      | .at (.d (.slice rows)) => match rows[n.toNat]? with
        | some r => r.length = s ∧ K (.at (.d (.ref r))) []
        | none => False
      | .at (.row k m) => match blk k with
        | some (.row _ s' rs) => m = rs.length ∧ s' = s ∧ n.toNat < m ∧ K (.at (.rloc k m s n.toNat 0)) []
        | some (.frow rs) => m = rs.length ∧ match rs[n.toNat]? with
          | some r => r.length = s ∧ K (.at (.d (.ref r))) []
          | none => False
        | _ => False
      | _ => False
    | _ => False
  | .idxAA len s x i => match ev i with
    | .at (.d (.int _ n)) => 0 ≤ n ∧ n < len ∧ match ev x with
      | .at (.d (.ref cells)) => K (.at (.d (.ref (cells.drop (n.toNat * s))))) []
      | .at (.loc k o) => K (.at (.loc k (o + n.toNat * s))) []
      | _ => False
    | _ => False
  | .idx len s n x i => match ev i with
    | .at (.d (.int _ j)) => 0 ≤ j ∧ j < len ∧ match (ev x).parts with
      | some cs => match n with
        | none => match cs.drop (j.toNat * s) with
          | a :: _ => K (.at a) []
          | [] => False
        | some n => j.toNat * s + n ≤ cs.length ∧ K (.agg ((cs.drop (j.toNat * s)).take n)) []
      | none => False
    | _ => False
  | .idxS x i => match ev x, ev i with
    | .at (.d (.str s)), .at (.d (.int _ n)) => 0 ≤ n ∧ match s[n.toNat]? with
      | some b => K (.at (.d (.int .u8 (b.toNat : Int)))) []
      | none => False
    | _, _ => False
  | .slcS x lo hi => match ev x with
    | .at (.d (.str s)) => match bound ev 0 lo, bound ev s.length hi with
      | some l, some h => l ≤ h ∧ h ≤ s.length ∧ K (.at (.d (.str ((s.take h).drop l)))) []
      | _, _ => False
    | _ => False
  | .slcL s x lo hi => match ev x with
    | .at (.d (.slice rows)) => match bound ev 0 lo, bound ev rows.length hi with
      | some l, some h => l ≤ h ∧ h ≤ rows.length ∧ rows.all (fun r => r.length == s) = true ∧ K (.at (.d (.slice ((rows.take h).drop l)))) []
      | _, _ => False
    | .at .nils => match bound ev 0 lo, bound ev 0 hi with
      | some l, some h => l = 0 ∧ h = 0 ∧ K (.at .nils) []
      | _, _ => False
    | _ => False
  | .ext x i => match ev x with
    | .at (.d (.tup ds)) => match ds[i]? with
      | some d => K (.at (.d d)) []
      | none => False
    | .tup ms => match ms[i]? with
      | some m => K m.toL []
      | none => False
    | _ => False
  | .call f xs => match pubs (fun x => (ev x).pub blk) xs with
    | some ds => ∃ r, Sat G P f ds r ∧ K (.at (.d r)) (if r.flat then [] else frz blk (xs.flatMap fun x => (ev x).slots))
    | none => False
  | .callv g xs => match (ev g).pub blk with
    | some (.fn f caps) => match pubs (fun x => (ev x).pub blk) xs with
      | some ds => ∃ r, Sat G P f (ds ++ caps) r ∧ K (.at (.d r)) (if r.flat then [] else frz blk ((ev g).slots ++ xs.flatMap fun x => (ev x).slots))
      | none => False
    | _ => False
  | .lenC n => K (.at (.d (.int .i64 (n : Int)))) []
  | .lenS x => match ev x with
    | .at (.d (.str s)) => K (.at (.d (.int .i64 (s.length : Int)))) []
    | _ => False
  | .lenL x => match ev x with
    | .at (.d (.slice rows)) => K (.at (.d (.int .i64 (rows.length : Int)))) []
    | .at (.row k n) => match blk k with
      | some (.row _ _ rs) => n = rs.length ∧ K (.at (.d (.int .i64 (n : Int)))) []
      | some (.frow rs) => n = rs.length ∧ K (.at (.d (.int .i64 (n : Int)))) []
      | _ => False
    | .at .nils => K (.at (.d (.int .i64 0))) []
    | _ => False
  | .append e s x y => match ev x, elems blk s (ev y) with
    | .at (.row k n), some news => match blk k with
      | some (.row e' s' rs) => n = rs.length ∧ e' = e ∧ s' = s ∧ news.all (fun r => r.length == s && r.all A.one) = true ∧ n + news.length ≤ 4294967296 ∧ ¬ k ∈ (ev y).slots ∧
          K (.at (.row k (n + news.length))) [(k, .row e s (rs ++ news))]
      | _ => False
    | _, _ => False
  | .max2 x y => match ev x, ev y with
    | .at (.d (.int k a)), .at (.d (.int _ b)) => K (.at (.d (.int k (if b > a then b else a)))) []
    | _, _ => False
  | .min2 x y => match ev x, ev y with
    | .at (.d (.int k a)), .at (.d (.int _ b)) => K (.at (.d (.int k (if b < a then b else a)))) []
    | _, _ => False
  | .isNilS neg x => match ev x with
    | .at .nils => K (.at (.d (.bool (true != neg)))) []
    | .at (.d (.slice rows)) => (rows = [] → K (.at (.d (.bool (true != neg)))) []) ∧ K (.at (.d (.bool (false != neg)))) []
    | _ => False
  | .slcA n s x => match ev x with
    | .at (.loc k 0) => match blk k with
      | some (.var cs) => match pubs A.pub0 cs with
        | some ds => ds.length = n * s ∧ K (.at (.d (.slice ((List.range n).map fun i => (ds.drop (i * s)).take s)))) [(k, .fvar ds)]
        | none => False
      | _ => False
    | _ => False
  | .callS f xs ks ns => ∃ l us, SatS G P f (xs.map ev) (grab blk ks) l us ∧ sharedOk blk (xs.map ev) ks ns us = true ∧ K l us
  | .callvS g xs ks ns => match ev g with
    | .at (.fn f cs) => ∃ l us, SatS G P f (xs.map ev ++ cs.map C.toL) (grab blk ks) l us ∧ sharedOk blk (ev g :: xs.map ev) ks ns us = true ∧ K l us
    | .at (.d (.fn f ds)) => ∃ l us, SatS G P f (xs.map ev ++ ds.map fun d => .at (.d d)) (grab blk ks) l us ∧ sharedOk blk (xs.map ev) ks ns us = true ∧ K l us
    | _ => False
  | .callF f xs => match pubs (fun x => (ev x).pub2 blk) xs with
    | some ds => ∃ r, Sat G P f ds r ∧ r.flat = true ∧ K (.at (.d r)) []
    | none => False
  | .mkMap k => blk k = none ∧ K (.at (.map k)) [(k, .mp [])]
  | .mapUpd x key v => match ev x, ev key, ev v with
    | .at (.map k), .at (.d (.str s)), .at a => a.one = true ∧ match blk k with
      | some (.mp kvs) => K (.at .any) [(k, .mp (putKV kvs s a))]
      | _ => False
    | _, _, _ => False
  | .lookup ok z x key => match ev x, ev key with
    | .at (.map k), .at (.d (.str s)) => match blk k with
      | some (.mp kvs) => match getKV kvs s with
        | some a => K (if ok then .tup [.at a, .at (.d (.bool true))] else .at a) []
        | none => K (if ok then .tup [.at z, .at (.d (.bool false))] else .at z) []
      | _ => False
    | _, _ => False
  | .rangeM k x => match ev x with
    | .at (.map j) => match blk j with
      | some (.mp kvs) => blk k = none ∧ K (.at (.loc k 0)) [(k, .iter j kvs.length [])]
      | _ => False
    | _ => False
  | .nextM x => match ev x with
    | .at (.loc k 0) => match blk k with
      | some (.iter j n seen) => match blk j with
        | some (.mp kvs) => kvs.length = n ∧ ((∀ i, i < n → i ∈ seen) → K (.at (.d (.tup [.bool false]))) []) ∧
            ∀ (i : Nat) (p : List UInt8 × A), kvs[i]? = some p → i ∉ seen → K (.tup [.at (.d (.bool true)), .at (.d (.str p.1)), .at p.2]) [(k, .iter j n (seen ++ [i]))]
        | _ => False
      | _ => False
    | _ => False
  | .entryM x => match ev x with
    | .at (.loc k 0) => match blk k with
      | some (.iter j n seen) => match blk j with
        | some (.mp kvs) => kvs.length = n ∧ match seen.getLast?.bind fun i => kvs[i]? with
          | some p => K (.tup [.at (.d (.str p.1)), .at p.2]) []
          | none => False
        | _ => False
      | _ => False
    | _ => False
  | .bind f x => match ev x with
    | .at (.loc k off) => K (.at (.bnd f k off)) []
    | _ => False
  | .callD f xs => ∃ ks ns l us, SatS G P f (xs.map ev) (grab blk ks) l us ∧ sharedOk blk (xs.map ev) ks ns us = true ∧ (ks ++ ns).all (fun k => (look us k).isSome) = true ∧ K l us
  | .callvD g xs => match ev g with
    | .at (.fn f cs) => ∃ ks ns l us, SatS G P f (xs.map ev ++ cs.map C.toL) (grab blk ks) l us ∧ sharedOk blk (ev g :: xs.map ev) ks ns us = true ∧ (ks ++ ns).all (fun k => (look us k).isSome) = true ∧ K l us
    | .at (.d (.fn f ds)) => ∃ ks ns l us, SatS G P f (xs.map ev ++ ds.map fun d => .at (.d d)) (grab blk ks) l us ∧ sharedOk blk (xs.map ev) ks ns us = true ∧ (ks ++ ns).all (fun k => (look us k).isSome) = true ∧ K l us
    | .at (.bnd f k off) => ∃ ks ns l us, SatS G P f (.at (.loc k off) :: xs.map ev) (grab blk ks) l us ∧ sharedOk blk (ev g :: xs.map ev) ks ns us = true ∧ (ks ++ ns).all (fun k => (look us k).isSome) = true ∧ K l us
    | _ => False
  | .cloneR f k e s x => match elems blk s (ev x) with
    | some rows => blk k = none ∧ rows.all (fun r => r.length == s && r.all A.one) = true ∧ rows.length ≤ 4294967296 ∧ CloneAt P f e s ∧ K (.at (.row k rows.length)) [(k, .row e s rows)]
    | none => False
  | .insR f e s x i y => match ev x, ev i, ev y with
    | .at (.row k n), .at (.d (.int .i64 q)), .at (.row k2 m) => match blk k, blk k2 with
      | some (.row e1 s1 rs), some (.row e2 s2 news) => n = rs.length ∧ m = news.length ∧ (e1 == e && s1 == s && e2 == e && s2 == s && k != k2 && rs.all (fun r => r.all A.one) && news.all fun r => r.all A.one) = true ∧ 0 < m ∧ 0 ≤ q ∧ q ≤ (n : Int) ∧ n + m ≤ 4294967296 ∧ InsAt P f e s ∧
          K (.at (.row k (n + m))) [(k, .row e s (rs.take q.toNat ++ news ++ rs.drop q.toNat))]
      | _, _ => False
    | _, _, _ => False
  | .appN k e s x y => match ev x, elems blk s (ev y) with
    | .at .nils, some news => blk k = none ∧ news.all (fun r => r.length == s && r.all A.one) = true ∧ news.length ≤ 4294967296 ∧ K (.at (.row k news.length)) [(k, .row e s news)]
    | .at (.row j n), some news => match blk j with
      | some (.row e' s' rs) => n = rs.length ∧ e' = e ∧ s' = s ∧ news.all (fun r => r.length == s && r.all A.one) = true ∧ n + news.length ≤ 4294967296 ∧ ¬ j ∈ (ev y).slots ∧
          K (.at (.row j (n + news.length))) [(j, .row e s (rs ++ news))]
      | _ => False
    | _, _ => False
end Go.Proofs.YtpfhfokfambdaaaGreatDoor.Ev

/-! The operations that only compute or read: the program's against the data's. -/
namespace Go.Proofs.YtpfhfokfambdaaaGreatDoor.Ev
open Go.RowKit (Below)

section
variable {G : World → Prop} {P : Program} {o : Oper} {a : Act} {w : World} {next : Act → World → Prop} {Q : Exit → Act → World → Prop}
theorem wp_val {v : Value} {w' : World} (hr : (execOp a.eval o).run P w = .ok (.value v) w') (h : next (a.put o.dst v) w') : o.wp P a w next Q := by
  unfold Oper.wp
  rw [hr]
  exact h

variable {G : World → Prop} {N0 : Base} {w0 : World} {nt : Nat} {st : St} {K : L → List (Nat × Blk) → Prop}
/-- What is owed for one operation. -/
def Owes (G : World → Prop) (P : Program) (o : Oper) (lk : LK) : Prop :=
  ∀ (N0 : Base) (w0 : World) (nt : Nat) (st : St) (a : Act) (w : World) (next : Act → World → Prop) (Q : Exit → Act → World → Prop) (K : L → List (Nat × Blk) → Prop),
    Rel G N0 w0 nt st a w → (∀ d, o.dst = some d → d < nt) → dsem G P lk st.ev st.blk K → (∀ l us a' w', K l us → Rel G N0 w0 nt (st.write o.dst l us) a' w' → next a' w') → o.wp P a w next Q

theorem owes_mov {x : Operand} {x' : X} (ho : o.op = .move x ∨ o.op = .assign x) (hx : chkX x x' = true) : Owes G P o (.mov x') := by
  intro N0 w0 nt st a w next Q K R hd hs hK
  refine wp_val (v := a.eval x) (w' := w) (by rcases ho with ho | ho <;> simp [execOp, ho]) ?_
  exact hK _ _ _ _ hs (R.value _ hd _ _ (fun E N hE ht => chkX_rv ht hx) (chkX_men R.twf hx))

/-- What a temporary known to be plain data holds. -/
theorem Rel.plain (R : Rel G N0 w0 nt st a w) {x : Operand} {x' : X} (hx : chkX x x' = true) {d : D} (he : st.ev x' = .at (.d d)) : ∃ N, Rv N w d (a.eval x) := by
  obtain ⟨E, N, hE, ht⟩ := R.env
  have := chkX_rv ht hx
  rw [he] at this
  exact ⟨N, this⟩
theorem Rel.bool (R : Rel G N0 w0 nt st a w) {x : Operand} {x' : X} (hx : chkX x x' = true) {q : Bool} (he : st.ev x' = .at (.d (.bool q))) : a.eval x = .bool q := by
  obtain ⟨N, h⟩ := R.plain hx he
  generalize a.eval x = v at h ⊢
  cases h; rfl
theorem Rel.int (R : Rel G N0 w0 nt st a w) {x : Operand} {x' : X} (hx : chkX x x' = true) {k : IntKind} {n : Int} (he : st.ev x' = .at (.d (.int k n))) : a.eval x = .int k n := by
  obtain ⟨N, h⟩ := R.plain hx he
  generalize a.eval x = v at h ⊢
  cases h; rfl
theorem Rel.str (R : Rel G N0 w0 nt st a w) {x : Operand} {x' : X} (hx : chkX x x' = true) {s : List UInt8} (he : st.ev x' = .at (.d (.str s))) : a.eval x = .string ⟨s.toArray⟩ := by
  obtain ⟨N, h⟩ := R.plain hx he
  generalize a.eval x = v at h ⊢
  cases h; rfl
/-- Plain data put. -/
theorem Rel.data (R : Rel G N0 w0 nt st a w) (dst : Option Nat) (hd : ∀ d, dst = some d → d < nt) (d : D) (v : Value) (hv : ∀ N, Rv N w d v) : Rel G N0 w0 nt (st.write dst (.at (.d d)) []) (a.put dst v) w :=
  R.value dst hd _ v (fun _ N _ _ => hv N) (fun _ h => h.elim)

theorem owes_pick {c x y : Operand} {c' x' y' : X} (ho : o.op = .pick c x y) (hc : chkX c c' = true) (hx : chkX x x' = true) (hy : chkX y y' = true) : Owes G P o (.pick c' x' y') := by
  intro N0 w0 nt st a w next Q K R hd hs hK
  simp only [dsem] at hs
  split at hs
  · rename_i q he
    have hb := R.bool hc he
    refine wp_val (v := if q then a.eval x else a.eval y) (w' := w) (by simp [execOp, ho, hb, asBool]) ?_
    refine hK _ _ _ _ hs (R.value _ hd _ _ (fun E N hE ht => ?_) ?_)
    · cases q
      · exact chkX_rv ht hy
      · exact chkX_rv ht hx
    · cases q
      · exact chkX_men R.twf hy
      · exact chkX_men R.twf hx
  · exact hs.elim

theorem run_binD {op : BinOp} {t : TypeId} {x y : Operand} {u v : Value} {l l' : L} {d : D} {E : Nat → Value} {N : Nat → Prop} (h : binD op l l' = some d) (hu : RvL E N w l u) (hv : RvL E N w l' v) :
    ∃ r, (do eqGuard op t x y u v; binOp op t u v : Sem Value).run P w = .ok r w ∧ ∀ N, Rv N w d r := by
  unfold binD at h
  split at h
  · rename_i k m k' n
    cases hu
    cases hv
    split at h
    · rename_i hk
      subst hk
      have hg : ∀ f : Unit → Sem Value, (eqGuard op t x y (.int k m) (.int k n) >>= f) = f () := by
        intro f
        unfold eqGuard
        cases op <;> rfl
      rw [hg]
      cases op <;> simp only [intBin] at h
      case quo => 
        split at h
        · cases h
        · rename_i hn
          cases h
          exact ⟨_, by simp [binOp, Op.intDiv, hn], fun N => .int _ _⟩
      case rem => 
        split at h
        · cases h
        · rename_i hn
          cases h
          exact ⟨_, by simp [binOp, Op.intDiv, hn], fun N => .int _ _⟩
      case shr =>
        split at h
        · rename_i hn
          cases h
          exact ⟨_, by rw [binOp_shr, shift_shr _ _ _ _ hn.1 (by cases k <;> simp [IntKind.bits] <;> omega)]; rfl, fun N => .int _ _⟩
        · cases h
      all_goals first
        | (cases h; done)
        | (cases h; exact ⟨_, by simp [binOp, Op.intArith, Op.intCmp]; rfl, fun N => by first | exact .int _ _ | exact .bool _⟩)
    · cases h
  · rename_i m n
    cases hu
    cases hv
    have hg : ∀ f : Unit → Sem Value, (eqGuard op t x y (.string ⟨m.toArray⟩) (.string ⟨n.toArray⟩) >>= f) = f () := by
      intro f
      unfold eqGuard
      cases op <;> rfl
    rw [hg]
    cases op <;> simp only [strBin] at h
    case add =>
      split at h
      · rename_i hlen
        cases h
        refine ⟨.string ⟨(m ++ n).toArray⟩, ?_, fun N => .str _⟩
        have h1 : ¬ (((ByteArray.mk m.toArray).size + (ByteArray.mk n.toArray).size : Nat) : Int) > IntKind.i64.max := by
          have e1 : (ByteArray.mk m.toArray).size = m.length := by simp [ByteArray.size]
          have e2 : (ByteArray.mk n.toArray).size = n.length := by simp [ByteArray.size]
          rw [e1, e2, IntKind.max_i64]
          omega
        have h2 : (ByteArray.mk m.toArray) ++ (ByteArray.mk n.toArray) = ⟨(m ++ n).toArray⟩ := by
          apply ByteArray.ext
          simp
        simp only [binOp, Op.stringOp, h1, if_false, h2]
        rfl
      · cases h
    all_goals first
      | (cases h; done)
      | (cases h; exact ⟨_, by simp only [binOp, Op.stringOp, ByteArray.toList_mk]; rfl, fun N => .bool _⟩)
  · cases h

theorem owes_bin {op : BinOp} {t t' : TypeId} {x y : Operand} {x' y' : X} (ho : o.op = .binOp op t x y t') (hx : chkX x x' = true) (hy : chkX y y' = true) : Owes G P o (.bin op x' y') := by
  intro N0 w0 nt st a w next Q K R hd hs hK
  simp only [dsem] at hs
  split at hs
  · rename_i d he
    obtain ⟨E, N, hE, ht⟩ := R.env
    obtain ⟨r, h1, h2⟩ := run_binD (P := P) (t := t) (x := x) (y := y) he (chkX_rv ht hx) (chkX_rv ht hy)
    refine wp_val (v := r) (w' := w) ?_ (hK _ _ _ _ hs (R.data _ hd _ _ h2))
    simp only [execOp, ho]
    rw [Sem.run_bind, h1]
    rfl
  · exact hs.elim

theorem run_equal_bool {t : TypeId} (hu : P.underlying t = some .bool) (p q : Bool) (w : World) : (Op.equal t (.bool p) (.bool q)).run P w = .ok (p == q) w := by
  show (Op.equalIn (9999 + 1) t (.bool p) (.bool q)).run P w = _
  generalize 9999 = d
  simp [Op.equalIn, run_underlying hu]
theorem owes_beq {op : BinOp} {neg : Bool} {t t' : TypeId} {x y : Operand} {x' y' : X} (ho : o.op = .binOp op t x y t') (hop : op = if neg then .neq else .eql) (hu : P.underlying t = some .bool) (hx : chkX x x' = true) (hy : chkX y y' = true) : Owes G P o (.beq neg x' y') := by
  intro N0 w0 nt st a w next Q K R hd hs hK
  simp only [dsem] at hs
  split at hs
  · rename_i p q h1 h2
    have e1 := R.bool hx h1
    have e2 := R.bool hy h2
    refine wp_val (v := .bool ((p == q) != neg)) (w' := w) ?_ (hK _ _ _ _ hs (R.data _ hd _ _ fun N => .bool _))
    have h3 := run_equal_bool hu p q w
    cases neg <;> simp only [Bool.false_eq_true, if_false, if_true] at hop <;> subst hop <;> simp [execOp, ho, e1, e2, eqGuard, binOp, h3]
  · exact hs.elim

theorem owes_not {t : TypeId} {x : Operand} {x' : X} (ho : o.op = .unOp .not t x) (hx : chkX x x' = true) : Owes G P o (.not x') := by
  intro N0 w0 nt st a w next Q K R hd hs hK
  simp only [dsem] at hs
  split at hs
  · rename_i p h1
    have e1 := R.bool hx h1
    exact wp_val (v := .bool !p) (w' := w) (by simp [execOp, ho, e1, Op.unary]) (hK _ _ _ _ hs (R.data _ hd _ _ fun N => .bool _))
  · exact hs.elim
theorem owes_neg {t : TypeId} {x : Operand} {x' : X} (ho : o.op = .unOp .neg t x) (hx : chkX x x' = true) : Owes G P o (.neg x') := by
  intro N0 w0 nt st a w next Q K R hd hs hK
  simp only [dsem] at hs
  split at hs
  · rename_i k n h1
    have e1 := R.int hx h1
    exact wp_val (v := .int k (k.wrap (0 - n))) (w' := w) (by simp [execOp, ho, e1, Op.unary, Op.intArith]) (hK _ _ _ _ hs (R.data _ hd _ _ fun N => .int _ _))
  · exact hs.elim
theorem owes_conv {s t : TypeId} {k : IntKind} {x : Operand} {x' : X} (ho : o.op = .convert s t x) {d : TypeDesc} (hs' : P.underlying s = some d) (ht' : P.underlying t = some (.int k)) (hx : chkX x x' = true) : Owes G P o (.conv k x') := by
  intro N0 w0 nt st a w next Q K R hd hs hK
  simp only [dsem] at hs
  split at hs
  · rename_i k' n h1
    have e1 := R.int hx h1
    refine wp_val (v := .int k (k.wrap n)) (w' := w) ?_ (hK _ _ _ _ hs (R.data _ hd _ _ fun N => .int _ _))
    simp [execOp, ho, e1, convert, run_underlying hs', run_underlying ht', Conv.intToInt]
  · exact hs.elim
theorem owes_convS {s t : TypeId} {x : Operand} {x' : X} (ho : o.op = .convert s t x) {d : TypeDesc} (hs' : P.underlying s = some d) (ht' : P.underlying t = some .string) (hx : chkX x x' = true) : Owes G P o (.convS x') := by
  intro N0 w0 nt st a w next Q K R hd hs hK
  simp only [dsem] at hs
  split at hs
  · rename_i s' h1
    have e1 := R.str hx h1
    refine wp_val (v := .string ⟨s'.toArray⟩) (w' := w) ?_ (hK _ _ _ _ hs (R.data _ hd _ _ fun N => .str _))
    simp [execOp, ho, e1, convert, run_underlying hs', run_underlying ht']
  · exact hs.elim
theorem owes_max2 {ts : Array TypeId} {x y : Operand} {x' y' : X} (ho : o.op = .call { callee := .builtin .max, args := #[x, y], argTypes := ts }) (hx : chkX x x' = true) (hy : chkX y y' = true) : Owes G P o (.max2 x' y') := by
  intro N0 w0 nt st a w next Q K R hd hs hK
  simp only [dsem] at hs
  split at hs
  · rename_i k p k' q h1 h2
    have e1 := R.int hx h1
    have e2 := R.int hy h2
    refine wp_val (v := .int k (if q > p then q else p)) (w' := w) ?_ (hK _ _ _ _ hs (R.data _ hd _ _ fun N => .int _ _))
    simp [execOp, ho, e1, e2, resolve, invoke, builtin, Builtin.max_, Builtin.max2, List.foldlM]
  · exact hs.elim
theorem owes_min2 {ts : Array TypeId} {x y : Operand} {x' y' : X} (ho : o.op = .call { callee := .builtin .min, args := #[x, y], argTypes := ts }) (hx : chkX x x' = true) (hy : chkX y y' = true) : Owes G P o (.min2 x' y') := by
  intro N0 w0 nt st a w next Q K R hd hs hK
  simp only [dsem] at hs
  split at hs
  · rename_i k p k' q h1 h2
    have e1 := R.int hx h1
    have e2 := R.int hy h2
    refine wp_val (v := .int k (if q < p then q else p)) (w' := w) ?_ (hK _ _ _ _ hs (R.data _ hd _ _ fun N => .int _ _))
    simp [execOp, ho, e1, e2, resolve, invoke, builtin, Builtin.min_, Builtin.min2, List.foldlM]
  · exact hs.elim
theorem owes_lenC {t : TypeId} {n : Nat} {x : Operand} (ho : o.op = .call { callee := .builtin .len, args := #[x], argTypes := #[t] }) {e : TypeId} (ht : P.underlying t = some (.array n e)) : Owes G P o (.lenC n) := by
  intro N0 w0 nt st a w next Q K R hd hs hK
  refine wp_val (v := .int .i64 n) (w' := w) ?_ (hK _ _ _ _ hs (R.data _ hd _ _ fun N => .int _ _))
  simp [execOp, ho, resolve, invoke, builtin, Builtin.len_, run_underlying ht, goInt]
theorem owes_lenS {t : TypeId} {x : Operand} {x' : X} (ho : o.op = .call { callee := .builtin .len, args := #[x], argTypes := #[t] }) (ht : P.underlying t = some .string) (hx : chkX x x' = true) : Owes G P o (.lenS x') := by
  intro N0 w0 nt st a w next Q K R hd hs hK
  simp only [dsem] at hs
  split at hs
  · rename_i s h1
    have e1 := R.str hx h1
    refine wp_val (v := .int .i64 s.length) (w' := w) ?_ (hK _ _ _ _ hs (R.data _ hd _ _ fun N => .int _ _))
    have e2 : (ByteArray.mk s.toArray).size = s.length := by simp [ByteArray.size]
    simp [execOp, ho, e1, resolve, invoke, builtin, Builtin.len_, run_underlying ht, goInt, e2]
  · exact hs.elim
theorem owes_idxS {t : TypeId} {x i : Operand} {x' i' : X} (ho : o.op = .index t x i) (ht : P.underlying t = some .string) (hx : chkX x x' = true) (hi : chkX i i' = true) : Owes G P o (.idxS x' i') := by
  intro N0 w0 nt st a w next Q K R hd hs hK
  simp only [dsem] at hs
  split at hs
  · rename_i s k n h1 h2
    obtain ⟨h0, hs⟩ := hs
    split at hs
    · rename_i b hb
      have e1 := R.str hx h1
      have e2 := R.int hi h2
      refine wp_val (v := .int .u8 b.toNat) (w' := w) ?_ (hK _ _ _ _ hs (R.data _ hd _ _ fun N => .int _ _))
      have hlt : n.toNat < s.length := (List.getElem?_eq_some_iff.1 hb).1
      have hb' : s[n.toNat] = b := (List.getElem?_eq_some_iff.1 hb).2
      have e3 : (ByteArray.mk s.toArray)[n.toNat]? = some b := by
        have hsz : n.toNat < (ByteArray.mk s.toArray).size := by simpa [ByteArray.size] using hlt
        rw [getElem?_pos (ByteArray.mk s.toArray) n.toNat hsz]
        congr 1
      simp [execOp, ho, e1, e2, Instr.index, asIntOf, run_underlying ht, h0, e3]
    · exact hs.elim
  · exact hs.elim
theorem owes_ext {x : Operand} {x' : X} {i : Nat} (ho : o.op = .extract x i) (hx : chkX x x' = true) : Owes G P o (.ext x' i) := by
  intro N0 w0 nt st a w next Q K R hd hs hK
  simp only [dsem] at hs
  split at hs
  · rename_i ds h1
    split at hs
    · rename_i d hdi
      obtain ⟨N, h⟩ := R.plain hx h1
      have hlt : i < ds.length := (List.getElem?_eq_some_iff.1 hdi).1
      have hv : ∃ vs : List Value, a.eval x = .tuple vs.toArray ∧ vs.length = ds.length := by
        generalize a.eval x = v at h
        cases h with
        | tup _ vs hl hv => exact ⟨vs, rfl, hl⟩
      obtain ⟨vs, e1, hl⟩ := hv
      refine wp_val (v := vs[i]'(by omega)) (w' := w) ?_ (hK _ _ _ _ hs (R.value _ hd _ _ (fun E N hE ht => ?_) (fun _ h => h.elim)))
      · simp [execOp, ho, e1, Instr.extract, show i < vs.length by omega]
      · have := chkX_rv ht hx
        rw [h1, e1] at this
        have h2 : Rv N w (.tup ds) (.tuple vs.toArray) := this
        generalize hval : Value.tuple vs.toArray = v at h2
        cases h2 with
        | tup _ vs' hl' hv' =>
          have : vs' = vs := by injection hval with e; exact (List.toArray_inj e).symm
          subst this
          exact hv' i d _ hdi (List.getElem?_eq_getElem (by omega))
    · exact hs.elim
  · rename_i ms h1
    split at hs
    · rename_i m hm
      have hlt : i < ms.length := (List.getElem?_eq_some_iff.1 hm).1
      obtain ⟨E, N, hE, hts⟩ := R.env
      have h := chkX_rv hts hx
      rw [h1] at h
      obtain ⟨vs, e1, e2, _⟩ := h
      refine wp_val (v := vs[i]'(by omega)) (w' := w) ?_ (hK _ _ _ _ hs (R.value _ hd _ _ (fun E N hE ht => ?_) (fun k hk => ?_)))
      · simp [execOp, ho, e1, Instr.extract, show i < vs.length by omega]
      · have h := chkX_rv ht hx
        rw [h1] at h
        obtain ⟨vs', f1, f2, f3⟩ := h
        have : vs = vs' := by rw [e1] at f1; injection f1 with e; exact List.toArray_inj e
        subst this
        have := f3 i m _ hm (List.getElem?_eq_getElem (by omega))
        cases m with
        | «at» x => exact this
        | agg cs => exact this
      · refine chkX_men R.twf hx k ?_
        rw [h1]
        refine ⟨m, List.mem_of_getElem? hm, ?_⟩
        cases m with
        | «at» x => exact hk
        | agg cs => exact hk
    · exact hs.elim
  · exact hs.elim
end
end Go.Proofs.YtpfhfokfambdaaaGreatDoor.Ev

/-! The operations that look into memory. -/
namespace Go.Proofs.YtpfhfokfambdaaaGreatDoor.Ev
open Go.RowKit (Below)

/-! ### Inversion -/
section
variable {N : Nat → Prop} {w : World}
theorem Rv.inv_ref {cells : List D} {v : Value} (h : Rv N w (.ref cells) v) : ∃ b o, v = .pointer (some ⟨b, o, none⟩) ∧ N b ∧ b < w.heap.size ∧
    ∀ i d, cells[i]? = some d → ∃ u, w.cell? ⟨b, o + i, none⟩ = some u ∧ Rv N w d u := by
  cases h with
  | ref _ b o c hb hs h1 h2 => exact ⟨b, o, rfl, hb, hs, fun i d hd => ⟨c i, h1 i (List.getElem?_eq_some_iff.1 hd).1, h2 i d hd⟩⟩
theorem Rv.mk_ref {cells : List D} {b o : Nat} (hb : N b) (hs : b < w.heap.size) (h : ∀ i d, cells[i]? = some d → ∃ u, w.cell? ⟨b, o + i, none⟩ = some u ∧ Rv N w d u) : Rv N w (.ref cells) (.pointer (some ⟨b, o, none⟩)) := by
  refine .ref cells b o (fun i => (w.cell? ⟨b, o + i, none⟩).getD undef) hb hs (fun i hi => ?_) (fun i d hd => ?_)
  · obtain ⟨u, h1, _⟩ := h i _ (List.getElem?_eq_getElem hi)
    rw [h1]; rfl
  · obtain ⟨u, h1, h2⟩ := h i d hd
    rw [h1]; exact h2
theorem Rv.inv_slice {rows : List (List D)} {v : Value} (h : Rv N w (.slice rows) v) : ∃ A cap, v = .slice A rows.length cap ∧ (rows ≠ [] → rows.length ≤ cap ∧ ∃ b o s, A = some ⟨b, o, none⟩ ∧ N b ∧ b < w.heap.size ∧
    (∀ (i : Nat) (r : List D), rows[i]? = some r → r.length = s) ∧ ∀ i j r d, rows[i]? = some r → r[j]? = some d → ∃ u, w.cell? ⟨b, o + (i * s + j), none⟩ = some u ∧ Rv N w d u) := by
  cases h with
  | sliceE A cap => exact ⟨A, cap, rfl, fun h => absurd rfl h⟩
  | sliceC _ b o cap s c hr hb hs hcap h0 h1 h2 =>
    refine ⟨_, cap, rfl, fun _ => ⟨hcap, b, o, s, rfl, hb, hs, h0, fun i j r d hi hj => ⟨c i j, h1 i j (List.getElem?_eq_some_iff.1 hi).1 ?_, h2 i j r d hi hj⟩⟩⟩
    rw [← h0 i r hi]
    exact (List.getElem?_eq_some_iff.1 hj).1
theorem Rv.mk_slice {rows : List (List D)} {b o s cap : Nat} (hb : N b) (hs : b < w.heap.size) (hcap : rows.length ≤ cap) (h0 : ∀ (i : Nat) (r : List D), rows[i]? = some r → r.length = s)
    (h : ∀ i j r d, rows[i]? = some r → r[j]? = some d → ∃ u, w.cell? ⟨b, o + (i * s + j), none⟩ = some u ∧ Rv N w d u) : Rv N w (.slice rows) (.slice (some ⟨b, o, none⟩) rows.length cap) := by
  by_cases hr : rows = []
  · subst hr; exact .sliceE _ _
  · refine .sliceC rows b o cap s (fun i j => (w.cell? ⟨b, o + (i * s + j), none⟩).getD undef) hr hb hs hcap h0 (fun i j hi hj => ?_) (fun i j r d hi hj => ?_)
    · have hri := List.getElem?_eq_getElem hi
      have hl := h0 i _ hri
      obtain ⟨u, h1, _⟩ := h i j _ _ hri (List.getElem?_eq_getElem (by omega))
      rw [h1]; rfl
    · obtain ⟨u, h1, h2⟩ := h i j r d hi hj
      rw [h1]; exact h2
theorem Rv.inv_agg {cells : List D} {v : Value} (h : Rv N w (.agg cells) v) : ∃ vs : List Value, v = .agg vs.toArray ∧ vs.length = cells.length ∧ ∀ (i : Nat) (d : D) (u : Value), cells[i]? = some d → vs[i]? = some u → Rv N w d u := by
  cases h with
  | agg _ vs h1 h2 => exact ⟨vs, rfl, h1, h2⟩
theorem Rv.inv_tup {cells : List D} {v : Value} (h : Rv N w (.tup cells) v) : ∃ vs : List Value, v = .tuple vs.toArray ∧ vs.length = cells.length ∧ ∀ (i : Nat) (d : D) (u : Value), cells[i]? = some d → vs[i]? = some u → Rv N w d u := by
  cases h with
  | tup _ vs h1 h2 => exact ⟨vs, rfl, h1, h2⟩
theorem Rv.inv_fn {f : FuncId} {cells : List D} {v : Value} (h : Rv N w (.fn f cells) v) : ∃ vs : List Value, v = .func (.func f) #[] vs.toArray ∧ vs.length = cells.length ∧ ∀ (i : Nat) (d : D) (u : Value), cells[i]? = some d → vs[i]? = some u → Rv N w d u := by
  cases h with
  | fn _ _ vs h1 h2 => exact ⟨vs, rfl, h1, h2⟩
end

section
variable {E : Nat → Value} {N : Nat → Prop} {w : World}
theorem map_d_getElem {ds : List D} {i : Nat} {a : A} (h : (ds.map A.d)[i]? = some a) : ∃ d, a = .d d ∧ ds[i]? = some d := by
  rw [List.getElem?_map, Option.map_eq_some_iff] at h
  obtain ⟨d, h1, h2⟩ := h
  exact ⟨d, h2.symm, h1⟩
theorem cells_rv {l : L} {v : Value} {cs : List A} (h : RvL E N w l v) (hc : l.cells = some cs) : ∃ vs : List Value, v.cells = vs.toArray ∧ vs.length = cs.length ∧
    (∀ (i : Nat) (a : A) (u : Value), cs[i]? = some a → vs[i]? = some u → RvA E N w a u) ∧ ∀ a ∈ cs, ∀ k, a.men k → l.men k := by
  unfold L.cells at hc
  split at hc
  · rename_i ds
    cases hc
    obtain ⟨vs, h1, h2, h3⟩ := Rv.inv_agg h
    refine ⟨vs, by rw [h1]; rfl, by simp [h2], fun i a u ha hu => ?_, fun a ha k hk => ?_⟩
    · obtain ⟨d, rfl, hd⟩ := map_d_getElem ha
      exact h3 i d u hd hu
    · obtain ⟨d, _, rfl⟩ := List.mem_map.1 ha
      exact hk.elim
  · cases hc
  · cases hc
  · rename_i a h1 h2 h3
    cases hc
    have hcells : v.cells = #[v] := by
      cases a with
      | d x =>
        have h : Rv N w x v := h
        cases h with
        | agg cells vs _ _ => exact absurd rfl (h1 cells)
        | _ => rfl
      | loc k off => obtain ⟨b, _, rfl⟩ := h; rfl
      | row k n => obtain ⟨⟨_, _, rfl⟩, _⟩ := h; rfl
      | rloc k n s i o => obtain ⟨⟨_, rfl⟩, _⟩ := h; rfl
      | nils => have : v = _ := h; subst this; rfl
      | fn f cs => obtain ⟨vs, rfl, _⟩ := h; rfl
      | map k => obtain ⟨b, _, rfl⟩ := h; rfl
      | bnd f k off => obtain ⟨b, _, rfl⟩ := h; rfl
      | any => exact absurd rfl h3
    refine ⟨[v], hcells, rfl, fun i b u hb hu => ?_, fun b hb k hk => ?_⟩
    · cases i with
      | zero => simp at hb hu; subst hb; subst hu; exact h
      | succ i => simp at hb
    · simp at hb; subst hb; exact hk
  · rename_i cs
    cases hc
    obtain ⟨vs, h1, h2, h3⟩ := h
    exact ⟨vs, by rw [h1]; rfl, h2, h3, fun a ha k hk => ⟨a, ha, hk⟩⟩
  · cases hc

theorem add_plain (g o j : Nat) : (⟨g, o, none⟩ : Addr).add j = ⟨g, o + j, none⟩ := by
  unfold Addr.add
  split
  · rename_i h; subst h; rfl
  · rfl
theorem cell_of_heap {b : Nat} {c : Array Value} {ty : TypeId} {fr : Nat × Nat} (h : w.heap[b]? = some (.cells c ty fr)) (i : Nat) : w.cell? ⟨b, i, none⟩ = c[i]? := by
  unfold World.cell?
  simp only
  rw [h]
  rfl
theorem own_header {B e s n : Nat} {v : Value} {xs : List Value} (h : w.ownsRow B e s v n xs) : ∃ Ad c, v = .slice Ad n c := by
  rcases h.2 with ⟨rfl, rfl⟩ | ⟨g, cap, cur, rfl, _⟩
  · exact ⟨_, _, rfl⟩
  · exact ⟨_, _, rfl⟩

section
variable {N0 : Base} {B : Nat} {blk : Nat → Option Blk}
/-- A slot's elements, found in memory. -/
theorem row_cells (hE : Env N0 B w blk E N) {k e s : Nat} {rs : List (List A)} (hk : blk k = some (.row e s rs)) {b : Nat} {m c : Nat} (he : E k = .slice (some ⟨b, 0, none⟩) m c)
    {i j : Nat} {r : List A} {a : A} (hr : rs[i]? = some r) (ha : r[j]? = some a) : ∃ u, w.cell? ⟨b, i * s + j, none⟩ = some u ∧ RvA E N w a u := by
  obtain ⟨xs, h1, h2, h3⟩ := hE.con k _ hk
  have hi : i < rs.length := (List.getElem?_eq_some_iff.1 hr).1
  have hj : j < s := by rw [← h2 i r hr]; exact (List.getElem?_eq_some_iff.1 ha).1
  have hlt : i * s + j < xs.length := by
    rw [h1.1]
    calc i * s + j < i * s + s := by omega
      _ = (i + 1) * s := by rw [Nat.add_mul, Nat.one_mul]
      _ ≤ rs.length * s := Nat.mul_le_mul_right _ hi
  have hx := List.getElem?_eq_getElem hlt
  refine ⟨_, ?_, h3 i j r a _ hr ha hx⟩
  have := h1.cells (g := b) (by rw [he]; rfl) (i * s + j) _ hx
  rwa [add_plain, Nat.zero_add] at this
theorem frow_elem (hE : Env N0 B w blk E N) {k : Nat} {rs : List (List D)} (hk : blk k = some (.frow rs)) {b : Nat} {m c : Nat} (he : E k = .slice (some ⟨b, 0, none⟩) m c)
    {i s : Nat} {r : List D} (hr : rs[i]? = some r) (hs : r.length = s) : N b ∧ b < w.heap.size ∧ ∀ j d, r[j]? = some d → ∃ u, w.cell? ⟨b, i * s + j, none⟩ = some u ∧ Rv N w d u := by
  obtain ⟨A', cap, h1, h2⟩ := Rv.inv_slice (hE.con k _ hk)
  obtain ⟨_, b', o', s', h3, h4, h5, h6, h7⟩ := h2 (by rintro rfl; simp at hr)
  rw [h1, h3] at he
  cases he
  have : s' = s := by rw [← h6 i r hr]; exact hs
  subst this
  refine ⟨h4, h5, fun j d hd => ?_⟩
  have := h7 i j r d hr hd
  simpa using this

theorem lies_rv (hE : Env N0 B w blk E N) {l : L} {v : Value} {cs : List A} (h : RvL E N w l v) (hl : lies blk l = some cs) : ∃ b o, v = .pointer (some ⟨b, o, none⟩) ∧
    (∀ (i : Nat) (a : A), cs[i]? = some a → ∃ u, w.cell? ⟨b, o + i, none⟩ = some u ∧ RvA E N w a u) ∧ ∀ a ∈ cs, ∀ k, a.men k → blk k ≠ none := by
  have hmap : ∀ {ds : List D} {a : A}, a ∈ ds.map A.d → ∀ k, a.men k → blk k ≠ none := by
    intro ds a ha k hk
    obtain ⟨d, _, rfl⟩ := List.mem_map.1 ha
    exact hk.elim
  unfold lies at hl
  split at hl
  · rename_i cells
    cases hl
    obtain ⟨b, o, h1, _, _, h2⟩ := Rv.inv_ref h
    refine ⟨b, o, h1, fun i a ha => ?_, fun a ha => hmap ha⟩
    obtain ⟨d, rfl, hd⟩ := map_d_getElem ha
    exact h2 i d hd
  · rename_i k off
    obtain ⟨b, he, rfl⟩ := h
    split at hl
    · rename_i cs0 hk
      cases hl
      obtain ⟨b', c, ty, h1, h2, h3, h4⟩ := hE.con k _ hk
      rw [h1] at he
      cases he
      refine ⟨b, off, rfl, fun i a ha => ?_, fun a ha k' hk' => hE.wf k _ k' hk ⟨a, List.mem_of_mem_drop ha, hk'⟩⟩
      rw [List.getElem?_drop] at ha
      have hlt : off + i < c.size := by rw [h3]; exact (List.getElem?_eq_some_iff.1 ha).1
      have hc := Array.getElem?_eq_getElem hlt
      exact ⟨_, by rw [cell_of_heap h2]; exact hc, h4 _ a _ ha hc⟩
    · rename_i ds hk
      cases hl
      obtain ⟨b', o', h1, _, _, h2⟩ := Rv.inv_ref (hE.con k _ hk)
      rw [h1] at he
      cases he
      refine ⟨b, off, rfl, fun i a ha => ?_, fun a ha => hmap ha⟩
      obtain ⟨d, rfl, hd⟩ := map_d_getElem ha
      rw [List.getElem?_drop] at hd
      have := h2 _ d hd
      rw [Nat.zero_add] at this
      exact this
    · cases hl
  · rename_i k n s i o
    obtain ⟨_, Ad, m, c, he, hn, hv⟩ := h
    split at hl
    · rename_i e s' rs hk
      split at hl
      · rename_i hc
        obtain ⟨hn', hs'⟩ := hc
        subst hs'
        obtain ⟨xs, h1, _⟩ := hE.con k _ hk
        obtain ⟨Ad', c', h2⟩ := own_header h1
        rw [h2] at he
        cases he
        obtain ⟨b, rfl, rfl⟩ := hv hn'
        rw [Option.map_eq_some_iff] at hl
        obtain ⟨r, hr, rfl⟩ := hl
        refine ⟨b, i * s' + o, rfl, fun j a ha => ?_, fun a ha k' hk' => hE.wf k _ k' hk ⟨r, List.mem_of_getElem? hr, a, List.mem_of_mem_drop ha, hk'⟩⟩
        rw [List.getElem?_drop] at ha
        have := row_cells hE hk h2 hr ha
        rwa [show i * s' + (o + j) = i * s' + o + j by omega] at this
      · cases hl
    · rename_i rs hk
      split at hl
      · rename_i hn'
        rw [Option.bind_eq_some_iff] at hl
        obtain ⟨r, hr, hl⟩ := hl
        split at hl
        · rename_i hs
          cases hl
          obtain ⟨A', cap, h1, _⟩ := Rv.inv_slice (hE.con k _ hk)
          rw [h1] at he
          cases he
          obtain ⟨b, rfl, rfl⟩ := hv hn'
          obtain ⟨_, _, h4⟩ := frow_elem hE hk h1 hr hs
          refine ⟨b, i * s + o, rfl, fun j a ha => ?_, fun a ha => hmap ha⟩
          obtain ⟨d, rfl, hd⟩ := map_d_getElem ha
          rw [List.getElem?_drop] at hd
          have := h4 _ d hd
          rwa [show i * s + (o + j) = i * s + o + j by omega] at this
        · cases hl
      · cases hl
    · cases hl
  · cases hl

/-- A type of one cell; a struct or an array, of n cells. -/
def tyOne (P : Program) (t : TypeId) : Bool := match P.underlying t with
  | some (.struct _) | some (.array _ _) | none => false
  | some _ => true
def tyAgg (P : Program) (t : TypeId) (n : Nat) : Bool := (match P.underlying t with
  | some (.struct _) | some (.array _ _) => true
  | _ => false) && match P.info? t with
  | some i => i.size == n
  | none => false
def tySize (P : Program) (t : TypeId) (n : Nat) : Bool := match P.info? t with
  | some i => i.size == n
  | none => false
def tyShape (P : Program) (t : TypeId) : Option Nat → Bool
  | none => tyOne P t
  | some n => tyAgg P t n
theorem run_isAgg_one {P : Program} {t : TypeId} (h : tyOne P t = true) (w : World) : (isAgg t).run P w = .ok false w := by
  unfold tyOne at h
  cases hu : P.underlying t with
  | none => rw [hu] at h; cases h
  | some d => rw [hu] at h; cases d <;> first | (cases h; done) | simp [isAgg, run_underlying hu]
theorem run_isAgg_agg {P : Program} {t : TypeId} {n : Nat} (h : tyAgg P t n = true) (w : World) : (isAgg t).run P w = .ok true w ∧ (sizeOf t).run P w = .ok n w := by
  unfold tyAgg at h
  rw [Bool.and_eq_true] at h
  obtain ⟨h1, h2⟩ := h
  constructor
  · cases hu : P.underlying t with
    | none => rw [hu] at h1; cases h1
    | some d => rw [hu] at h1; cases d <;> first | (cases h1; done) | simp [isAgg, run_underlying hu]
  · cases hi : P.info? t with
    | none => rw [hi] at h2; cases h2
    | some i =>
      rw [hi] at h2
      have : i.size = n := by simpa using h2
      simp [sizeOf, typeInfo, hi, this]
theorem run_sizeOf {P : Program} {t : TypeId} {n : Nat} (h : tySize P t n = true) (w : World) : (sizeOf t).run P w = .ok n w := by
  unfold tySize at h
  cases hi : P.info? t with
  | none => rw [hi] at h; cases h
  | some i =>
    rw [hi] at h
    have : i.size = n := by simpa using h
    simp [sizeOf, typeInfo, hi, this]
end
end

theorem run_load_one {P : Program} {w : World} {t : TypeId} {b off : Nat} {u : Value} (ht : tyOne P t = true) (hu : w.cell? ⟨b, off, none⟩ = some u) : (loadVar t ⟨b, off, none⟩).run P w = .ok u w := by
  simp [loadVar, run_isAgg_one ht, hu]
theorem run_load_agg {P : Program} {w : World} {t : TypeId} {n b off : Nat} (ht : tyAgg P t n = true) (hc : ∀ j, j < n → ∃ u, w.cell? ⟨b, off + j, none⟩ = some u) :
    (loadVar t ⟨b, off, none⟩).run P w = .ok (.agg ((List.range n).map fun j => (w.cell? ⟨b, off + j, none⟩).getD undef).toArray) w := by
  obtain ⟨ha1, ha2⟩ := run_isAgg_agg ht w
  have hrun := run_loadCells (P := P) w ⟨b, off, none⟩ n (fun j => (w.cell? ⟨b, off + j, none⟩).getD undef) (fun j hj => by
    obtain ⟨u, hu⟩ := hc j hj
    rw [add_plain, hu]; rfl)
  simp only [loadVar, Sem.run_bind, Sem.run_pure, Result.andThen_ok, ha1, ha2, hrun, if_true]

section
variable {G : World → Prop} {P : Program} {o : Oper}
theorem owes_load {t : TypeId} {n : Option Nat} {x : Operand} {x' : X} (ho : o.op = .load t x) (ht : tyShape P t n = true) (hx : chkX x x' = true) : Owes G P o (.load n x') := by
  intro N0 w0 nt st a w next Q K R hd hs hK
  simp only [dsem] at hs
  split at hs
  · rename_i cs hl
    obtain ⟨E, N, hE, hts⟩ := R.env
    obtain ⟨b, off, h1, h2, h3⟩ := lies_rv hE (chkX_rv hts hx) hl
    cases n with
    | none =>
      simp only at hs
      cases cs with
      | nil => exact hs.elim
      | cons y ys =>
        obtain ⟨u, hu, hr⟩ := h2 0 y rfl
        refine wp_val (v := u) (w' := w) ?_ (hK _ _ _ _ hs (R.value _ hd _ _ (fun E' N' hE' hts' => ?_) (fun k hk => h3 y List.mem_cons_self k hk)))
        · rw [Nat.add_zero] at hu
          simp [execOp, ho, h1, Instr.loadAt, Instr.sureAddr, loadVar, run_isAgg_one ht, hu]
        · obtain ⟨b', off', h1', h2', _⟩ := lies_rv hE' (chkX_rv hts' hx) hl
          rw [h1] at h1'
          cases h1'
          obtain ⟨u', hu', hr'⟩ := h2' 0 y rfl
          rw [hu] at hu'
          cases hu'
          exact hr'
    | some n =>
      simp only at hs
      obtain ⟨hn, hs⟩ := hs
      obtain ⟨ha1, ha2⟩ := run_isAgg_agg ht w
      have hlen : (cs.take n).length = n := by rw [List.length_take]; omega
      have hcell : ∀ j, j < n → w.cell? ⟨b, off + j, none⟩ = some ((w.cell? ⟨b, off + j, none⟩).getD undef) := by
        intro j hj
        obtain ⟨u, hu, _⟩ := h2 j cs[j] (List.getElem?_eq_getElem (by omega))
        rw [hu]; rfl
      have hrun := run_loadCells (P := P) w ⟨b, off, none⟩ n (fun j => (w.cell? ⟨b, off + j, none⟩).getD undef) (fun j hj => by rw [add_plain]; exact hcell j hj)
      refine wp_val (v := .agg ((List.range n).map fun j => (w.cell? ⟨b, off + j, none⟩).getD undef).toArray) (w' := w) ?_ (hK _ _ _ _ hs (R.value _ hd _ _ (fun E' N' hE' hts' => ?_) ?_))
      · simp only [execOp, ho, h1, Instr.loadAt, Instr.sureAddr, loadVar, Sem.run_bind, Sem.run_pure, Result.andThen_ok, ha1, ha2, hrun, if_true]
      · obtain ⟨b', off', h1', h2', _⟩ := lies_rv hE' (chkX_rv hts' hx) hl
        rw [h1] at h1'
        cases h1'
        refine ⟨_, rfl, by rw [List.length_map, List.length_range, hlen], fun i c u hc hu => ?_⟩
        rw [List.getElem?_take] at hc
        split at hc
        · rename_i hi
          obtain ⟨u', hu', hr'⟩ := h2' i c hc
          rw [List.getElem?_map, List.getElem?_range hi] at hu
          simp only [Option.map_some, Option.some.injEq] at hu
          rw [hu'] at hu
          simp only [Option.getD_some] at hu
          rw [← hu]; exact hr'
        · cases hc
      · rintro k ⟨c, hc, hk⟩
        exact h3 c (List.mem_of_mem_take hc) k hk
  · exact hs.elim
end
end Go.Proofs.YtpfhfokfambdaaaGreatDoor.Ev

/-! Fields, indexes, cuts, closures. -/
namespace Go.Proofs.YtpfhfokfambdaaaGreatDoor.Ev
open Go.RowKit (Below)

section
variable {E : Nat → Value} {N : Nat → Prop} {w : World}
theorem parts_rv {l : L} {v : Value} {cs : List A} (h : RvL E N w l v) (hc : l.parts = some cs) : ∃ vs : List Value, v = .agg vs.toArray ∧ vs.length = cs.length ∧
    (∀ (i : Nat) (a : A) (u : Value), cs[i]? = some a → vs[i]? = some u → RvA E N w a u) ∧ ∀ a ∈ cs, ∀ k, a.men k → l.men k := by
  unfold L.parts at hc
  split at hc
  · rename_i ds
    cases hc
    obtain ⟨vs, h1, h2, h3⟩ := Rv.inv_agg h
    refine ⟨vs, h1, by simp [h2], fun i a u ha hu => ?_, fun a ha k hk => ?_⟩
    · obtain ⟨d, rfl, hd⟩ := map_d_getElem ha
      exact h3 i d u hd hu
    · obtain ⟨d, _, rfl⟩ := List.mem_map.1 ha
      exact hk.elim
  · cases hc
    obtain ⟨vs, h1, h2, h3⟩ := h
    exact ⟨vs, h1, h2, h3, fun a ha k hk => ⟨a, ha, hk⟩⟩
  · cases hc
end

section
variable {P : Program} {w : World}
theorem run_part_one {t : TypeId} (h : tyOne P t = true) {vs : List Value} {off : Nat} {u : Value} (hu : vs[off]? = some u) : (part t vs.toArray off).run P w = .ok u w := by
  simp [part, run_isAgg_one h, hu]
theorem run_part_agg {t : TypeId} {n : Nat} (h : tyAgg P t n = true) {vs : List Value} {off : Nat} : (part t vs.toArray off).run P w = .ok (.agg ((vs.drop off).take n).toArray) w := by
  obtain ⟨h1, h2⟩ := run_isAgg_agg h w
  simp [part, h1, h2]

variable {o : Oper} {G : World → Prop} {N0 : Base} {w0 : World} {nt : Nat} {st : St} {a : Act} {next : Act → World → Prop} {Q : Exit → Act → World → Prop} {K : L → List (Nat × Blk) → Prop}
/-- A part of a struct or an array is put. -/
theorem wp_part (R : Rel G N0 w0 nt st a w) (hd : ∀ d, o.dst = some d → d < nt) (hK : ∀ l us a' w', K l us → Rel G N0 w0 nt (st.write o.dst l us) a' w' → next a' w')
    {x : Operand} {x' : X} (hx : chkX x x' = true) {cs : List A} (hp : (st.ev x').parts = some cs) {t : TypeId} {n : Option Nat} {off : Nat}
    (hr : ∀ vs : List Value, a.eval x = .agg vs.toArray → (execOp a.eval o).run P w = ((part t vs.toArray off).run P w).andThen fun v w => .ok (.value v) w)
    (hs : match n with
      | none => match cs.drop off with
        | a :: _ => K (.at a) []
        | [] => False
      | some n => off + n ≤ cs.length ∧ K (.agg ((cs.drop off).take n)) []) (ht : tyShape P t n = true) : o.wp P a w next Q := by
  obtain ⟨E, N, hE, hts⟩ := R.env
  obtain ⟨vs, h1, h2, h3, h4⟩ := parts_rv (chkX_rv hts hx) hp
  cases n with
  | none =>
    simp only at hs
    cases hdr : cs.drop off with
    | nil => rw [hdr] at hs; exact hs.elim
    | cons y ys =>
      rw [hdr] at hs
      have hy : cs[off]? = some y := by
        have := List.getElem?_drop (xs := cs) (i := off) (j := 0)
        rw [hdr] at this
        simpa using this.symm
      have hlt : off < vs.length := by rw [h2]; exact (List.getElem?_eq_some_iff.1 hy).1
      have hu := List.getElem?_eq_getElem hlt
      refine wp_val (v := vs[off]) (w' := w) (by rw [hr vs h1, run_part_one ht hu]; rfl) (hK _ _ _ _ hs (R.value _ hd _ _ (fun E' N' hE' hts' => ?_) (fun k hk => ?_)))
      · obtain ⟨vs', h1', _, h3', _⟩ := parts_rv (chkX_rv hts' hx) hp
        rw [h1] at h1'
        have : vs' = vs := by injection h1' with e; exact (List.toArray_inj e).symm
        subst this
        exact h3' off y _ hy hu
      · exact chkX_men R.twf hx k (h4 y (List.mem_of_getElem? hy) k hk)
  | some n =>
    simp only at hs
    obtain ⟨hn, hs⟩ := hs
    refine wp_val (v := .agg ((vs.drop off).take n).toArray) (w' := w) (by rw [hr vs h1, run_part_agg ht]; rfl) (hK _ _ _ _ hs (R.value _ hd _ _ (fun E' N' hE' hts' => ?_) (fun k hk => ?_)))
    · obtain ⟨vs', h1', _, h3', _⟩ := parts_rv (chkX_rv hts' hx) hp
      rw [h1] at h1'
      have : vs' = vs := by injection h1' with e; exact (List.toArray_inj e).symm
      subst this
      refine ⟨_, rfl, by simp [h2], fun i c u hc hu => ?_⟩
      rw [List.getElem?_take] at hc hu
      split at hc
      · rename_i hi
        rw [if_pos hi] at hu
        rw [List.getElem?_drop] at hc hu
        exact h3' _ c u hc hu
      · cases hc
    · obtain ⟨c, hc, hk⟩ := hk
      exact chkX_men R.twf hx k (h4 c (List.mem_of_mem_drop (List.mem_of_mem_take hc)) k hk)

theorem owes_field {t : TypeId} {i off : Nat} {n : Option Nat} {x : Operand} {x' : X} (ho : o.op = .field t x i) {fs : Array Field} (hu : P.underlying t = some (.struct fs)) {f : Field} (hf : fs[i]? = some f) (hoff : f.offset = off)
    (ht : tyShape P f.type n = true) (hx : chkX x x' = true) : Owes G P o (.field off n x') := by
  intro N0 w0 nt st a w next Q K R hd hs hK
  simp only [dsem] at hs
  split at hs
  · rename_i cs hp
    refine wp_part R hd hK hx hp (off := off) (fun vs h1 => ?_) hs ht
    simp [execOp, ho, h1, Instr.field, run_underlying hu, hf, asAgg, hoff]
  · exact hs.elim

theorem owes_idx {t e : TypeId} {len s : Nat} {n : Option Nat} {x i : Operand} {x' i' : X} (ho : o.op = .index t x i) (hu : P.underlying t = some (.array len e)) (hsz : tySize P e s = true)
    (ht : tyShape P e n = true) (hx : chkX x x' = true) (hi : chkX i i' = true) : Owes G P o (.idx len s n x' i') := by
  intro N0 w0 nt st a w next Q K R hd hs hK
  simp only [dsem] at hs
  split at hs
  · rename_i k j hj
    obtain ⟨h0, h1, hs⟩ := hs
    have e2 := R.int hi hj
    split at hs
    · rename_i cs hp
      refine wp_part R hd hK hx hp (off := j.toNat * s) (fun vs h2 => ?_) hs ht
      simp [execOp, ho, h2, e2, Instr.index, asIntOf, run_underlying hu, h0, h1, run_sizeOf hsz]
    · exact hs.elim
  · exact hs.elim

theorem owes_fieldA {t : TypeId} {i off m : Nat} {x : Operand} {x' : X} (ho : o.op = .fieldAddr t x i) {fs : Array Field} (hu : P.underlying t = some (.struct fs)) {f : Field} (hf : fs[i]? = some f) (hoff : f.offset = off)
    (hsz : tySize P f.type m = true) (hm : 0 < m) (hx : chkX x x' = true) : Owes G P o (.fieldA off x') := by
  intro N0 w0 nt st a w next Q K R hd hs hK
  have hr' : ∀ ad, a.eval x = .pointer (some ad) → (execOp a.eval o).run P w = .ok (.value (.pointer (some (ad.add off)))) w := by
    intro ad he
    have hm' : ¬ m = 0 := by omega
    simp [execOp, ho, he, Instr.fieldAt, run_underlying hu, hf, Instr.sureAddr, fieldPlace, run_sizeOf hsz, hm', hoff]
  have hr : ∀ b o', a.eval x = .pointer (some ⟨b, o', none⟩) → (execOp a.eval o).run P w = .ok (.value (.pointer (some ⟨b, o' + off, none⟩))) w := by
    intro b o' he
    rw [hr' _ he, add_plain]
  simp only [dsem] at hs
  have hev := fun E N hts => chkX_rv (E := E) (N := N) (w := w) (st := st) (a := a) hts hx
  have hmen := chkX_men R.twf hx
  obtain ⟨E, N, hE, hts⟩ := R.env
  have h0 := hev E N hts
  split at hs
  · rename_i cells he
    rw [he] at h0
    obtain ⟨b, o', h1, _⟩ := Rv.inv_ref h0
    refine wp_val (hr b o' h1) (hK _ _ _ _ hs (R.value _ hd _ _ (fun E' N' hE' hts' => ?_) (fun _ h => h.elim)))
    have h0' := hev E' N' hts'
    rw [he] at h0'
    obtain ⟨b', o'', h1', h2', h3', h4'⟩ := Rv.inv_ref h0'
    rw [h1] at h1'
    cases h1'
    refine Rv.mk_ref h2' h3' fun j d hd => ?_
    rw [List.getElem?_drop] at hd
    have := h4' _ d hd
    rwa [← Nat.add_assoc] at this
  · rename_i k o' he
    rw [he] at h0 hmen
    obtain ⟨b, _, h1⟩ := h0
    refine wp_val (hr b o' h1) (hK _ _ _ _ hs (R.value _ hd _ _ (fun E' N' hE' hts' => ?_) (fun j hj => hmen j hj)))
    have h0' := hev E' N' hts'
    rw [he] at h0'
    obtain ⟨b', h2', h1'⟩ := h0'
    rw [h1] at h1'
    cases h1'
    exact ⟨b, h2', rfl⟩
  · rename_i k n s i' o' he
    rw [he] at h0 hmen
    obtain ⟨⟨ad, h1⟩, _⟩ := h0
    refine wp_val (hr' ad h1) (hK _ _ _ _ hs (R.value _ hd _ _ (fun E' N' hE' hts' => ?_) (fun j hj => hmen j hj)))
    have h0' := hev E' N' hts'
    rw [he] at h0'
    obtain ⟨_, Ad, m', c, h2, h3, h4⟩ := h0'
    refine ⟨⟨_, rfl⟩, Ad, m', c, h2, h3, fun e => ?_⟩
    obtain ⟨b, h5, h6⟩ := h4 e
    rw [h1] at h6
    cases h6
    exact ⟨b, h5, by rw [add_plain, Nat.add_assoc]⟩
  · exact hs.elim

theorem owes_nilck {x : Operand} {x' : X} (ho : o.op = .nilCheck x) (hx : chkX x x' = true) : Owes G P o (.nilck x') := by
  intro N0 w0 nt st a w next Q K R hd hs hK
  simp only [dsem] at hs
  obtain ⟨E, N, hE, hts⟩ := R.env
  have h0 := chkX_rv (E := E) (N := N) (w := w) (st := st) (a := a) hts hx
  have key : ((∃ ad, a.eval x = .pointer (some ad)) ∨ ∃ f vs, a.eval x = .func (.func f) #[] vs) → K (st.ev x') [] → o.wp P a w next Q := by
    intro h hs
    refine wp_val (v := a.eval x) (w' := w) ?_ (hK _ _ _ _ hs (R.value _ hd _ _ (fun E N hE ht => chkX_rv ht hx) (chkX_men R.twf hx)))
    rcases h with ⟨ad, h⟩ | ⟨f, vs, h⟩ <;> simp [execOp, ho, h]
  split at hs
  · rename_i he
    rw [he] at h0
    obtain ⟨b, o', h1, _⟩ := Rv.inv_ref h0
    exact key (.inl ⟨_, h1⟩) hs
  · rename_i he
    rw [he] at h0
    obtain ⟨b, _, h1⟩ := h0
    exact key (.inl ⟨_, h1⟩) hs
  · rename_i he
    rw [he] at h0
    obtain ⟨⟨ad, h1⟩, _⟩ := h0
    exact key (.inl ⟨_, h1⟩) hs
  · rename_i he
    rw [he] at h0
    obtain ⟨vs, h1, _⟩ := Rv.inv_fn h0
    exact key (.inr ⟨_, _, h1⟩) hs
  · rename_i he
    rw [he] at h0
    obtain ⟨vs, h1, _⟩ := h0
    exact key (.inr ⟨_, _, h1⟩) hs
  · exact hs.elim

theorem owes_idxA {t e : TypeId} {s : Nat} {x i : Operand} {x' i' : X} (ho : o.op = .indexAddr t x i) (hu : P.underlying t = some (.slice e)) (hsz : tySize P e s = true)
    (hx : chkX x x' = true) (hi : chkX i i' = true) : Owes G P o (.idxA s x' i') := by
  intro N0 w0 nt st a w next Q K R hd hs hK
  simp only [dsem] at hs
  split at hs
  · rename_i k n hn
    obtain ⟨h0, hs⟩ := hs
    have e2 := R.int hi hn
    have hr : ∀ ad len cap, a.eval x = .slice (some ad) len cap → n < len → (execOp a.eval o).run P w = .ok (.value (.pointer (some (ad.add (n.toNat * s))))) w := by
      intro ad len cap he hlt
      simp [execOp, ho, he, e2, Instr.indexAt, asIntOf, run_underlying hu, h0, hlt, run_sizeOf hsz]
    have hev := fun E N hts => chkX_rv (E := E) (N := N) (w := w) (st := st) (a := a) hts hx
    have hmen := chkX_men R.twf hx
    obtain ⟨E, N, hE, hts⟩ := R.env
    have hv := hev E N hts
    split at hs
    · rename_i rows he
      rw [he] at hv
      split at hs
      · rename_i r hrow
        obtain ⟨hlen, hs⟩ := hs
        have hlt := (List.getElem?_eq_some_iff.1 hrow).1
        obtain ⟨Ad, cap, h1, h2⟩ := Rv.inv_slice hv
        obtain ⟨_, b, o', s', h3, _⟩ := h2 (by rintro rfl; simp at hlt)
        rw [h3] at h1
        refine wp_val (hr _ _ _ h1 (by omega)) (hK _ _ _ _ hs (R.value _ hd _ _ (fun E' N' hE' hts' => ?_) (fun _ h => h.elim)))
        have hv' := hev E' N' hts'
        rw [he] at hv'
        obtain ⟨Ad', cap', h1', h2'⟩ := Rv.inv_slice hv'
        obtain ⟨_, b', o'', s'', h3', h4', h5', h6', h7'⟩ := h2' (by rintro rfl; simp at hlt)
        rw [h1, h3'] at h1'
        cases h1'
        have hss : s'' = s := (h6' _ r hrow).symm.trans hlen
        subst hss
        rw [add_plain]
        refine Rv.mk_ref h4' h5' fun j d hd => ?_
        have := h7' _ j r d hrow hd
        rwa [← Nat.add_assoc] at this
      · exact hs.elim
    · rename_i k' m he
      rw [he] at hv hmen
      obtain ⟨_, Ad, m', c, h1, h2, h3⟩ := hv
      split at hs
      · rename_i e' s' rs hk
        obtain ⟨hm, hs', hlt, hs⟩ := hs
        subst hs'
        obtain ⟨xs, hx1, _⟩ := hE.con k' _ hk
        obtain ⟨Ad', c', hx2⟩ := own_header hx1
        rw [hx2] at h1
        cases h1
        have h4 := h3 hm
        have hx0 : ∃ b, Ad = some ⟨b, 0, none⟩ := by
          rw [hx2] at hx1
          rcases hx1.2 with ⟨h, h'⟩ | ⟨g, cap, cur, h, _⟩
          · omega
          · cases h; exact ⟨g, rfl⟩
        obtain ⟨b, rfl⟩ := hx0
        refine wp_val (hr _ _ _ h4 (by omega)) (hK _ _ _ _ hs (R.value _ hd _ _ (fun E' N' hE' hts' => ?_) (fun j hj => hmen j hj)))
        have hv' := hev E' N' hts'
        rw [he] at hv'
        obtain ⟨_, Ad', m'', c', h1', h2', h3'⟩ := hv'
        refine ⟨⟨_, rfl⟩, Ad', m'', c', h1', h2', fun e => ?_⟩
        have h5 := h3' e
        rw [h4] at h5
        cases h5
        exact ⟨b, rfl, by rw [add_plain, Nat.zero_add, Nat.add_zero]⟩
      · rename_i rs hk
        obtain ⟨hm, hs⟩ := hs
        split at hs
        · rename_i r hrow
          obtain ⟨hlen, hs⟩ := hs
          have hlt := (List.getElem?_eq_some_iff.1 hrow).1
          obtain ⟨A', cap, hx2, hx3⟩ := Rv.inv_slice (hE.con k' _ hk)
          obtain ⟨_, b, o', s', hx4, _⟩ := hx3 (by rintro rfl; simp at hlt)
          subst hx4
          rw [hx2] at h1
          cases h1
          have h4 := h3 hm
          refine wp_val (hr _ _ _ h4 (by omega)) (hK _ _ _ _ hs (R.value _ hd _ _ (fun E' N' hE' hts' => ?_) (fun _ h => h.elim)))
          have hv' := hev E' N' hts'
          rw [he] at hv'
          obtain ⟨_, Ad', m'', c', h1', h2', h3'⟩ := hv'
          obtain ⟨A'', cap', hy2, hy3⟩ := Rv.inv_slice (hE'.con k' _ hk)
          rw [hy2] at h1'
          cases h1'
          have h5 := h3' hm
          rw [h4] at h5
          cases h5
          obtain ⟨_, b', o'', s'', hy4, hy5, hy6, hy7, hy8⟩ := hy3 (by rintro rfl; simp at hlt)
          cases hy4
          have hss : s'' = s := (hy7 _ r hrow).symm.trans hlen
          subst hss
          rw [add_plain]
          refine Rv.mk_ref hy5 hy6 fun j d hd => ?_
          have := hy8 _ j r d hrow hd
          rwa [← Nat.add_assoc] at this
        · exact hs.elim
      · exact hs.elim
    · exact hs.elim
  · exact hs.elim

theorem owes_idxAA {t e : TypeId} {len s : Nat} {x i : Operand} {x' i' : X} (ho : o.op = .indexAddr t x i) (hu : P.underlying t = some (.array len e)) (hsz : tySize P e s = true)
    (hx : chkX x x' = true) (hi : chkX i i' = true) : Owes G P o (.idxAA len s x' i') := by
  intro N0 w0 nt st a w next Q K R hd hs hK
  simp only [dsem] at hs
  split at hs
  · rename_i k n hn
    obtain ⟨h0, hlt, hs⟩ := hs
    have e2 := R.int hi hn
    have hr : ∀ ad, a.eval x = .pointer (some ad) → (execOp a.eval o).run P w = .ok (.value (.pointer (some (ad.add (n.toNat * s))))) w := by
      intro ad he
      simp [execOp, ho, he, e2, Instr.indexAt, asIntOf, run_underlying hu, Instr.sureAddr, h0, hlt, run_sizeOf hsz]
    have hev := fun E N hts => chkX_rv (E := E) (N := N) (w := w) (st := st) (a := a) hts hx
    have hmen := chkX_men R.twf hx
    obtain ⟨E, N, hE, hts⟩ := R.env
    have hv := hev E N hts
    split at hs
    · rename_i cells he
      rw [he] at hv
      obtain ⟨b, o', h1, _⟩ := Rv.inv_ref hv
      refine wp_val (hr _ h1) (hK _ _ _ _ hs (R.value _ hd _ _ (fun E' N' hE' hts' => ?_) (fun _ h => h.elim)))
      have h0' := hev E' N' hts'
      rw [he] at h0'
      obtain ⟨b', o'', h1', h2', h3', h4'⟩ := Rv.inv_ref h0'
      rw [h1] at h1'
      cases h1'
      rw [add_plain]
      refine Rv.mk_ref h2' h3' fun j d hd => ?_
      rw [List.getElem?_drop] at hd
      have := h4' _ d hd
      rwa [← Nat.add_assoc] at this
    · rename_i k' o' he
      rw [he] at hv hmen
      obtain ⟨b, _, h1⟩ := hv
      refine wp_val (hr _ h1) (hK _ _ _ _ hs (R.value _ hd _ _ (fun E' N' hE' hts' => ?_) (fun j hj => hmen j hj)))
      have h0' := hev E' N' hts'
      rw [he] at h0'
      obtain ⟨b', h2', h1'⟩ := h0'
      rw [h1] at h1'
      cases h1'
      exact ⟨b, h2', by rw [add_plain]⟩
    · exact hs.elim
  · exact hs.elim
end
end Go.Proofs.YtpfhfokfambdaaaGreatDoor.Ev

/-! Cuts, closures, lengths, comparisons of structs. -/
namespace Go.Proofs.YtpfhfokfambdaaaGreatDoor.Ev
open Go.RowKit (Below)

def chkO : Option Operand → Option X → Bool
  | none, none => true
  | some o, some x => chkX o x
  | _, _ => false

section
variable {P : Program} {w : World} {o : Oper} {G : World → Prop} {N0 : Base} {w0 : World} {nt : Nat} {st : St} {a : Act} {next : Act → World → Prop} {Q : Exit → Act → World → Prop} {K : L → List (Nat × Blk) → Prop}

/-- The two bounds of a cut, as data and as the program has them. -/
theorem bounds_rv (R : Rel G N0 w0 nt st a w) {lo hi : Option Operand} {lo' hi' : Option X} (h1 : chkO lo lo' = true) (h2 : chkO hi hi' = true) {len l h : Nat} (hl : bound st.ev 0 lo' = some l) (hh : bound st.ev len hi' = some h) (hlh : l ≤ h)
    (b : Bool) {cap : Nat} (hhl : h ≤ cap) :
    (Instr.sliceBounds b len cap (lo.map a.eval) (hi.map a.eval) none).run P w = .ok (l, h, cap) w := by
  have hb : ∀ (x : Operand) (x' : X) (d y : Nat) (cap : Nat) (code : BoundsCode), chkX x x' = true → bound st.ev d (some x') = some y → y ≤ cap → (Instr.sliceBound (a.eval x) cap code).run P w = .ok y w := by
    intro x x' d y cap code hx hb hy
    simp only [bound] at hb
    split at hb
    · rename_i k n hn
      split at hb
      · rename_i h0
        cases hb
        rw [R.int hx hn]
        have : 0 ≤ n ∧ n ≤ (cap : Int) := ⟨h0, by omega⟩
        simp [Instr.sliceBound, asIntOf, this]
      · cases hb
    · cases hb
  have hL : (match lo.map a.eval with
      | some v => do let l ← Instr.sliceBound v h (if (none : Option Value).isSome then .slice3C else .sliceB); pure (l, h, cap)
      | none => do let l ← pure 0; pure (l, h, cap) : Sem (Nat × Nat × Nat)).run P w = .ok (l, h, cap) w := by
    cases lo with
    | none =>
      cases lo' with
      | none => simp only [bound] at hl; cases hl; rfl
      | some x => cases h1
    | some x =>
      cases lo' with
      | none => cases h1
      | some x' =>
        simp only [Option.map_some, Sem.run_bind, hb x x' 0 l h _ h1 hl hlh, Result.andThen_ok, Sem.run_pure]
  unfold Instr.sliceBounds
  simp only [Sem.run_bind, Sem.run_pure, Result.andThen_ok]
  cases hi with
  | none =>
    cases hi' with
    | none =>
      simp only [bound] at hh
      cases hh
      simp only [Option.map_none, Sem.run_bind, Sem.run_pure, Result.andThen_ok]
      exact hL
    | some x => cases h2
  | some x =>
    cases hi' with
    | none => cases h2
    | some x' =>
      simp only [Option.map_some, Sem.run_bind, hb x x' len h cap _ h2 hh hhl, Result.andThen_ok]
      exact hL

theorem owes_slcS {t : TypeId} {x : Operand} {lo hi : Option Operand} {x' : X} {lo' hi' : Option X} (ho : o.op = .slice t x lo hi none) (hu : P.underlying t = some .string) (hx : chkX x x' = true) (h1 : chkO lo lo' = true) (h2 : chkO hi hi' = true) : Owes G P o (.slcS x' lo' hi') := by
  intro N0 w0 nt st a w next Q K R hd hs hK
  simp only [dsem] at hs
  split at hs
  · rename_i s hn
    split at hs
    · rename_i l h hl hh
      obtain ⟨hlh, hhl, hs⟩ := hs
      have e1 := R.str hx hn
      have hb := bounds_rv (P := P) R h1 h2 hl hh hlh false (cap := s.length) hhl
      have e2 : (ByteArray.mk s.toArray).size = s.length := by simp [ByteArray.size]
      have e3 : (ByteArray.mk s.toArray).extract l h = ⟨((s.take h).drop l).toArray⟩ := by
        apply ByteArray.ext
        rw [ByteArray.data_extract]
        apply Array.ext'
        simp [List.drop_take]
      refine wp_val (v := .string ⟨((s.take h).drop l).toArray⟩) (w' := w) ?_ (hK _ _ _ _ hs (R.data _ hd _ _ fun N => .str _))
      simp only [execOp, ho, Instr.sliceAt, Sem.run_bind, run_underlying hu, Result.andThen_ok, Instr.slice, e1, Option.map_none, Option.isSome_none, Bool.false_eq_true, if_false, Sem.run_pure, e2, hb, e3]
    · exact hs.elim
  · exact hs.elim

theorem owes_slcL {t e : TypeId} {s : Nat} {x : Operand} {lo hi : Option Operand} {x' : X} {lo' hi' : Option X} (ho : o.op = .slice t x lo hi none) (hu : P.underlying t = some (.slice e)) (hsz : tySize P e s = true) (hx : chkX x x' = true) (h1 : chkO lo lo' = true) (h2 : chkO hi hi' = true) : Owes G P o (.slcL s x' lo' hi') := by
  intro N0 w0 nt st a w next Q K R hd hs hK
  simp only [dsem] at hs
  have hev := fun E N hts => chkX_rv (E := E) (N := N) (w := w) (st := st) (a := a) hts hx
  obtain ⟨E, N, hE, hts⟩ := R.env
  have hv := hev E N hts
  have hr : ∀ Ad len cap l h, a.eval x = .slice Ad len cap → len ≤ cap → bound st.ev 0 lo' = some l → bound st.ev len hi' = some h → l ≤ h → h ≤ len →
      (execOp a.eval o).run P w = .ok (.value (.slice (if cap = l then Ad else Ad.map (·.add (l * s))) (h - l) (cap - l))) w := by
    intro Ad len cap l h he hcap hl hh hlh hhl
    have hb := bounds_rv (P := P) R h1 h2 hl hh hlh true (cap := cap) (by omega)
    simp only [execOp, ho, Instr.sliceAt, Sem.run_bind, run_underlying hu, Result.andThen_ok, Instr.slice, he, Option.map_none, Sem.run_pure, hb, run_sizeOf hsz]
  split at hs
  · rename_i rows he
    split at hs
    · rename_i l h hl hh
      obtain ⟨hlh, hhl, hall, hs⟩ := hs
      rw [he] at hv
      obtain ⟨Ad, cap, e1, e2⟩ := Rv.inv_slice hv
      by_cases hne : rows = []
      · subst hne
        have hl0 : l = 0 := by simp at hhl; omega
        have hh0 : h = 0 := by simpa using hhl
        subst hl0
        subst hh0
        have hb := bounds_rv (P := P) R h1 h2 hl hh hlh true (cap := cap) (Nat.zero_le _)
        refine wp_val (v := .slice (if cap = 0 then Ad else Ad.map (·.add (0 * s))) (0 - 0) (cap - 0)) (w' := w) ?_ (hK _ _ _ _ hs (R.data _ hd _ _ fun N => .sliceE _ _))
        simp only [execOp, ho, Instr.sliceAt, Sem.run_bind, run_underlying hu, Result.andThen_ok, Instr.slice, e1, Option.map_none, Sem.run_pure, hb, run_sizeOf hsz]
      · obtain ⟨hc, b, o', s', rfl, _⟩ := e2 hne
        refine wp_val (hr _ _ _ _ _ e1 hc hl hh hlh hhl) (hK _ _ _ _ hs (R.value _ hd _ _ (fun E' N' hE' hts' => ?_) (fun _ h => h.elim)))
        have hv' := hev E' N' hts'
        rw [he] at hv'
        obtain ⟨Ad', cap', e1', e2'⟩ := Rv.inv_slice hv'
        obtain ⟨hc', b', o'', s'', rfl, h3, h4, h5, h6⟩ := e2' hne
        rw [e1] at e1'
        cases e1'
        have hlen : ((rows.take h).drop l).length = h - l := by rw [List.length_drop, List.length_take]; omega
        have hss : s'' = s := by
          cases rows with
          | nil => exact absurd rfl hne
          | cons r rs =>
            have := h5 0 r rfl
            simp only [List.all_cons, Bool.and_eq_true, beq_iff_eq] at hall
            omega
        subst hss
        show Rv N' w (.slice _) (.slice _ (h - l) (cap - l))
        rw [← hlen]
        by_cases hcl : cap = l
        · have : (rows.take h).drop l = [] := by
            apply List.eq_nil_of_length_eq_zero
            rw [hlen]
            omega
          rw [this]
          exact .sliceE _ _
        · rw [if_neg hcl]
          simp only [Option.map_some, add_plain]
          refine Rv.mk_slice (s := s'') h3 h4 (by rw [hlen]; omega) (fun i r hi => ?_) (fun i j r d hi hj => ?_)
          · exact h5 _ r (by rw [List.getElem?_drop, List.getElem?_take] at hi; split at hi; exact hi; cases hi)
          · have hi' : rows[l + i]? = some r := by rw [List.getElem?_drop, List.getElem?_take] at hi; split at hi; exact hi; cases hi
            have := h6 (l + i) j r d hi' hj
            rwa [Nat.add_mul, Nat.add_assoc, ← Nat.add_assoc] at this
    · exact hs.elim
  · rename_i he
    split at hs
    · rename_i l h hl hh
      obtain ⟨rfl, rfl, hs⟩ := hs
      rw [he] at hv
      have hv : a.eval x = .slice none 0 0 := hv
      refine wp_val (hr _ _ _ _ _ hv (Nat.le_refl _) hl hh (Nat.le_refl _) (Nat.le_refl _)) (hK _ _ _ _ hs (R.value _ hd _ _ (fun E' N' hE' hts' => ?_) (fun _ h => h.elim)))
      rfl
    · exact hs.elim
  · exact hs.elim

def chkXs : List Operand → List X → Bool
  | [], [] => true
  | o :: os, x :: xs => chkX o x && chkXs os xs
  | _, _ => false
theorem chkXs_get : ∀ {os : List Operand} {xs : List X}, chkXs os xs = true → os.length = xs.length ∧ ∀ (i : Nat) (o : Operand) (x : X), os[i]? = some o → xs[i]? = some x → chkX o x = true
  | [], [], _ => ⟨rfl, fun i o x h => by simp at h⟩
  | o :: os, x :: xs, h => by
    simp only [chkXs, Bool.and_eq_true] at h
    obtain ⟨h1, h2⟩ := chkXs_get h.2
    refine ⟨by simp [h1], fun i o' x' ho hx => ?_⟩
    cases i with
    | zero => simp at ho hx; subst ho; subst hx; exact h.1
    | succ i => simp at ho hx; exact h2 i o' x' ho hx
  | [], _ :: _, h => by simp [chkXs] at h
  | _ :: _, [], h => by simp [chkXs] at h
theorem pubs_get {α β : Type} {f : α → Option β} : ∀ {l : List α} {r : List β}, pubs f l = some r → l.length = r.length ∧ ∀ (i : Nat) (x : α), l[i]? = some x → ∃ y, r[i]? = some y ∧ f x = some y
  | [], r, h => by
    simp only [pubs, Option.some.injEq] at h
    subst h
    exact ⟨rfl, fun i x h => by simp at h⟩
  | a :: l, r, h => by
    simp only [pubs] at h
    split at h
    · rename_i d hd
      split at h
      · rename_i ds hds
        cases h
        obtain ⟨h1, h2⟩ := pubs_get hds
        refine ⟨by simp [h1], fun i x hx => ?_⟩
        cases i with
        | zero => simp at hx; subst hx; exact ⟨d, rfl, hd⟩
        | succ i => simp at hx ⊢; exact h2 i x hx
      · cases h
    · cases h

theorem mk_rv {E : Nat → Value} {N : Nat → Prop} {f : FuncId} {cs : List C} {v : Value} (h : RvA E N w (.fn f cs) v) : RvA E N w (A.mk f cs) v := by
  unfold A.mk
  split
  · rename_i ds hds
    obtain ⟨vs, h1, h2, h3⟩ := h
    obtain ⟨hl, hp⟩ := pubs_get hds
    subst h1
    refine Rv.fn f ds vs (by omega) fun i d u hd hu => ?_
    have hlt : i < cs.length := by rw [hl]; exact (List.getElem?_eq_some_iff.1 hd).1
    have hc := List.getElem?_eq_getElem hlt
    obtain ⟨d', g1, g2⟩ := hp i _ hc
    rw [hd] at g1
    cases g1
    have := h3 i _ u hc hu
    unfold C.pub0 at g2
    split at g2
    · rename_i x hx
      cases g2
      rw [hx] at this
      exact this
    · cases g2
  · exact h
theorem mk_men {f : FuncId} {cs : List C} {k : Nat} (h : (A.mk f cs).men k) : (A.fn f cs).men k := by
  unfold A.mk at h
  split at h
  · exact h.elim
  · exact h
theorem owes_fn {f : FuncId} {os : Array Operand} {xs : List X} (ho : o.op = .makeFunc (.func f) #[] os) (hx : chkXs os.toList xs = true) : Owes G P o (.fn f xs) := by
  intro N0 w0 nt st a w next Q K R hd hs hK
  simp only [dsem] at hs
  split at hs
  · rename_i cs hcs
    obtain ⟨hl1, hc⟩ := chkXs_get hx
    obtain ⟨hl2, hp⟩ := pubs_get hcs
    refine wp_val (v := .func (.func f) #[] (os.toList.map a.eval).toArray) (w' := w) ?_ (hK _ _ _ _ hs (R.value _ hd _ _ (fun E N hE hts => ?_) (fun k hk => ?_)))
    · have : os.map a.eval = (os.toList.map a.eval).toArray := by apply Array.ext'; simp
      simp [execOp, ho, Instr.makeFunc]
      exact this
    · refine mk_rv ⟨_, rfl, by rw [List.length_map]; omega, fun i c u hci hu => ?_⟩
      rw [List.getElem?_map, Option.map_eq_some_iff] at hu
      obtain ⟨op, hop, rfl⟩ := hu
      have hlt : i < xs.length := by rw [← hl1]; exact (List.getElem?_eq_some_iff.1 hop).1
      have hxi := List.getElem?_eq_getElem hlt
      have h1 := chkX_rv hts (hc i op _ hop hxi)
      obtain ⟨y, hy, hcap⟩ := hp i _ hxi
      rw [hci] at hy
      cases hy
      unfold capC at hcap
      split at hcap
      · rename_i d he
        cases hcap
        rw [he] at h1
        exact h1
      · rename_i k off he
        cases hcap
        rw [he] at h1
        exact h1
      · cases hcap
    · obtain ⟨c, hc', hk⟩ := mk_men hk
      obtain ⟨i, hi⟩ := List.mem_iff_getElem?.1 hc'
      have hlt : i < xs.length := by rw [hl2]; exact (List.getElem?_eq_some_iff.1 hi).1
      have hxi := List.getElem?_eq_getElem hlt
      obtain ⟨y, hy, hcap⟩ := hp i _ hxi
      rw [hi] at hy
      cases hy
      have hoi : ∃ op, os.toList[i]? = some op := ⟨_, List.getElem?_eq_getElem (by omega)⟩
      obtain ⟨op, hop⟩ := hoi
      have hm := chkX_men R.twf (hc i op _ hop hxi)
      unfold capC at hcap
      split at hcap
      · rename_i d he
        cases hcap
        exact hk.elim
      · rename_i k' off he
        cases hcap
        rw [he] at hm
        exact hm k hk
      · cases hcap
  · exact hs.elim

theorem owes_lenL {t e : TypeId} {x : Operand} {x' : X} (ho : o.op = .call { callee := .builtin .len, args := #[x], argTypes := #[t] }) (ht : P.underlying t = some (.slice e)) (hx : chkX x x' = true) : Owes G P o (.lenL x') := by
  intro N0 w0 nt st a w next Q K R hd hs hK
  have hr : ∀ Ad n c, a.eval x = .slice Ad n c → (execOp a.eval o).run P w = .ok (.value (.int .i64 n)) w := by
    intro Ad n c he
    simp [execOp, ho, he, resolve, invoke, builtin, Builtin.len_, run_underlying ht, goInt]
  simp only [dsem] at hs
  obtain ⟨E, N, hE, hts⟩ := R.env
  have hv := chkX_rv (E := E) (N := N) (w := w) (st := st) (a := a) hts hx
  split at hs
  · rename_i rows he
    rw [he] at hv
    obtain ⟨Ad, cap, e1, _⟩ := Rv.inv_slice hv
    exact wp_val (hr _ _ _ e1) (hK _ _ _ _ hs (R.data _ hd _ _ fun N => .int _ _))
  · rename_i k n he
    rw [he] at hv
    obtain ⟨⟨Ad, c, e1⟩, _⟩ := hv
    split at hs
    · obtain ⟨_, hs⟩ := hs
      exact wp_val (hr _ _ _ e1) (hK _ _ _ _ hs (R.data _ hd _ _ fun N => .int _ _))
    · obtain ⟨_, hs⟩ := hs
      exact wp_val (hr _ _ _ e1) (hK _ _ _ _ hs (R.data _ hd _ _ fun N => .int _ _))
    · exact hs.elim
  · rename_i he
    rw [he] at hv
    exact wp_val (hr _ _ _ hv) (hK _ _ _ _ hs (R.data _ hd _ _ fun N => .int _ _))
  · exact hs.elim
end
end Go.Proofs.YtpfhfokfambdaaaGreatDoor.Ev

/-! The operations that lay or write memory. -/
namespace Go.Proofs.YtpfhfokfambdaaaGreatDoor.Ev
open Go.RowKit (Below)

theorem splice_get {α : Type} {off : Nat} {new old : List α} (h : off + new.length ≤ old.length) (i : Nat) :
    (splice off new old)[i]? = if off ≤ i ∧ i < off + new.length then new[i - off]? else old[i]? := by
  unfold splice
  rw [List.append_assoc, List.getElem?_append, List.length_take, Nat.min_eq_left (by omega)]
  split
  · rename_i h1
    rw [List.getElem?_take, if_pos h1, if_neg (by omega)]
  · rename_i h1
    rw [List.getElem?_append]
    split
    · rename_i h2
      rw [if_pos (by omega)]
    · rename_i h2
      rw [if_neg (by omega), List.getElem?_drop]
      congr 1
      omega
theorem splice_length {α : Type} {off : Nat} {new old : List α} (h : off + new.length ≤ old.length) : (splice off new old).length = old.length := by
  unfold splice
  simp only [List.length_append, List.length_take, List.length_drop]
  omega

/-- Cells read as atoms, one by one. -/
def RvAs (E : Nat → Value) (N : Nat → Prop) (w : World) (as : List A) (vs : List Value) : Prop :=
  vs.length = as.length ∧ ∀ (i : Nat) (a : A) (u : Value), as[i]? = some a → vs[i]? = some u → RvA E N w a u
section
variable {E : Nat → Value} {N : Nat → Prop} {w : World}
theorem RvAs.splice {as as' : List A} {vs vs' : List Value} {off : Nat} (h : RvAs E N w as vs) (h' : RvAs E N w as' vs') (hl : off + as.length ≤ as'.length) : RvAs E N w (splice off as as') (splice off vs vs') := by
  have h1 := h.1
  have h2 := h'.1
  refine ⟨by rw [splice_length hl, splice_length (by omega)]; exact h2, fun i a u ha hu => ?_⟩
  rw [splice_get hl] at ha
  rw [splice_get (by omega)] at hu
  split at ha
  · rename_i hc
    rw [if_pos (by omega)] at hu
    exact h.2 _ a u ha hu
  · rename_i hc
    rw [if_neg (by omega)] at hu
    exact h'.2 _ a u ha hu
theorem one_rv {a : A} {u : Value} (h1 : a.one = true) (h : RvA E N w a u) : u.oneCell' = true := by
  cases a with
  | d x =>
    have h : Rv N w x u := h
    cases h <;> first | rfl | (simp [A.one] at h1)
  | loc k off => obtain ⟨b, _, rfl⟩ := h; rfl
  | row k n => obtain ⟨⟨_, _, rfl⟩, _⟩ := h; rfl
  | rloc k n s i o => obtain ⟨⟨_, rfl⟩, _⟩ := h; rfl
  | nils => have : u = _ := h; subst this; rfl
  | fn f cs => obtain ⟨vs, rfl, _⟩ := h; rfl
  | map k => obtain ⟨b, _, rfl⟩ := h; rfl
  | bnd f k off => obtain ⟨b, _, rfl⟩ := h; rfl
  | any => simp [A.one] at h1
theorem ones_rv {as : List A} {vs : List Value} (h1 : as.all A.one = true) (h : RvAs E N w as vs) : ∀ v ∈ vs, v.oneCell' = true := by
  intro v hv
  obtain ⟨i, hi⟩ := List.mem_iff_getElem?.1 hv
  have hlt : i < as.length := by rw [← h.1]; exact (List.getElem?_eq_some_iff.1 hi).1
  have ha := List.getElem?_eq_getElem hlt
  exact one_rv (List.all_eq_true.1 h1 _ (List.mem_of_getElem? ha)) (h.2 i _ v ha hi)
theorem below_alloc (w : World) (o : Obj) : Below w.heap.size w (w.alloc o) := (Below.refl _ _).alloc (Nat.le_refl _) _
end

section
variable {P : Program} {w : World} {o : Oper} {G : World → Prop} {N0 : Base} {w0 : World} {nt : Nat} {st : St} {a : Act} {next : Act → World → Prop} {Q : Exit → Act → World → Prop} {K : L → List (Nat × Blk) → Prop}

/-- A variable is laid. -/
theorem Rel.newVar (R : Rel G N0 w0 nt st a w) (dst : Option Nat) (hd : ∀ d, dst = some d → d < nt) {k : Nat} (hk : st.blk k = none) (cs : List A) (c : Array Value) (ty : TypeId)
    (hc : ∀ E N, Env N0 w0.heap.size w st.blk E N → (∀ i, RvL E N w (st.get i) (a.tmps.getD i undef)) → RvAs E N w cs c.toList)
    (hm : ∀ x ∈ cs, ∀ j, x.men j → st.blk j ≠ none) : Rel G N0 w0 nt (st.write dst (.at (.loc k 0)) [(k, .var cs)]) (a.put dst (.pointer (some ⟨w.heap.size, 0, none⟩))) (w.alloc (.cells c ty)) := by
  have hne : ∀ j, st.blk j ≠ none → k ≠ j := fun j hj e => hj (e ▸ hk)
  refine R.slot dst hd _ _ k (.var cs) ((below_alloc w _).mono R.below.size) (fun E N hE hts => ⟨.pointer (some ⟨w.heap.size, 0, none⟩), fun b hb _ => Go.RowKit.Below.heap_alloc w _ b hb, fun bl0 h => ?_, fun _ b hb => ?_, ?_, ?_⟩) (fun j hj => ?_) (fun j hj => ?_)
  · rw [hk] at h; cases h
  · cases hb
    exact ⟨fun h => Nat.lt_irrefl _ (hE.nlt _ h), R.below.size, by simp, .inr (Nat.le_refl _)⟩
  · obtain ⟨h1, h2⟩ := hc E N hE hts
    refine ⟨_, c, ty, rfl, heap_alloc_new w _, by simpa using h1, fun i x u hx hu => ?_⟩
    refine RvA.mono (fun b hb hlt => Go.RowKit.Below.heap_alloc w _ b hlt) (fun _ h _ => h) (fun j hj => upd_ne _ _ (hne j (hm x (List.mem_of_getElem? hx) j hj))) (h2 i x u hx (by simpa using hu))
  · exact ⟨w.heap.size, upd_same _ _ _, rfl⟩
  · obtain ⟨x, hx, hj⟩ := hj
    rw [upd_ne _ _ (hne j (hm x hx j hj))]
    exact hm x hx j hj
  · have : k = j := hj
    subst this
    rw [upd_same]; simp

theorem owes_box {t : TypeId} {k : Nat} {x : Operand} {x' : X} (ho : o.op = .box t x) (hx : chkX x x' = true) : Owes G P o (.box k x') := by
  intro N0 w0 nt st a w next Q K R hd hs hK
  simp only [dsem] at hs
  split at hs
  · rename_i cs hcs
    obtain ⟨hk, hs⟩ := hs
    refine wp_val (v := .pointer (some ⟨w.heap.size, 0, none⟩)) (w' := w.alloc (.cells (a.eval x).cells t)) ?_ (hK _ _ _ _ hs (R.newVar _ hd hk cs _ t (fun E N hE hts => ?_) ?_))
    · simp [execOp, ho, Instr.box, newVar, newRow]
    · obtain ⟨vs, h1, h2, h3, _⟩ := cells_rv (chkX_rv hts hx) hcs
      rw [h1]
      exact ⟨h2, h3⟩
    · intro y hy j hj
      obtain ⟨E, N, hE, hts⟩ := R.env
      obtain ⟨_, _, _, _, h4⟩ := cells_rv (chkX_rv hts hx) hcs
      exact chkX_men R.twf hx j (h4 y hy j hj)
  · exact hs.elim

theorem owes_alloc {t : TypeId} {k : Nat} {z : List A} (ho : o.op = .alloc t) {i : TypeInfo} (hi : P.info? t = some i) {zv : Value} (hz : i.zero = some zv) (hzz : atomsOk zv.cells.toList z = true) : Owes G P o (.alloc k z) := by
  intro N0 w0 nt st a w next Q K R hd hs hK
  simp only [dsem] at hs
  obtain ⟨hk, hs⟩ := hs
  refine wp_val (v := .pointer (some ⟨w.heap.size, 0, none⟩)) (w' := w.alloc (.cells zv.cells t)) ?_ (hK _ _ _ _ hs (R.newVar _ hd hk z _ t (fun E N hE hts => ?_) ?_))
  · simp [execOp, ho, Instr.alloc, zeroValue, typeInfo, hi, hz, newVar, newRow]
  · obtain ⟨h1, h2, _⟩ := atomsOk_rv (E := E) (N := N) (w := w) hzz
    exact ⟨h1, h2⟩
  · intro y hy j hj
    obtain ⟨E, N, hE, hts⟩ := R.env
    obtain ⟨_, _, h3⟩ := atomsOk_rv (E := E) (N := N) (w := w) hzz
    exact absurd hj (h3 y hy j)

theorem foldl_set (off : Nat) : ∀ (vs : List Value) (k : Nat) (cs : List Value), off + k + vs.length ≤ cs.length →
    ((vs.zipIdx k).foldl (fun (cs : Array Value) (x : Value × Nat) => cs.setIfInBounds (off + x.2) x.1) cs.toArray) = (splice (off + k) vs cs).toArray
  | [], k, cs, h => by simp [splice]
  | v :: vs, k, cs, h => by
    rw [List.zipIdx_cons, List.foldl_cons]
    simp only [List.length_cons] at h
    have e : cs.toArray.setIfInBounds (off + k) v = (cs.set (off + k) v).toArray := by apply Array.ext'; simp
    rw [e, foldl_set off vs (k + 1) _ (by simp; omega)]
    congr 1
    unfold splice
    rw [← Nat.add_assoc]
    have := list_seg_step cs (off + k) v vs (by omega)
    simpa [Nat.add_assoc] using this

def chkPs (place : Nat → Option (Nat × Nat)) : List (Nat × Operand) → List (Nat × Nat × X) → Bool
  | [], [] => true
  | (i, x) :: r, (off, n, x') :: r' => place i == some (off, n) && chkX x x' && chkPs place r r'
  | _, _ => false
theorem fill_rv {E : Nat → Value} {N : Nat → Prop} (hts : ∀ i, RvL E N w (st.get i) (a.tmps.getD i undef)) {place : Nat → Option (Nat × Nat)} : ∀ (ps : List (Nat × Operand)) (ps' : List (Nat × Nat × X)) (z : List A) (zs : List Value) (cs : List A),
    chkPs place ps ps' = true → RvAs E N w z zs → fillL st.ev ps' z = some cs →
    ∃ vs, Instr.fill place zs.toArray (ps.map fun x => (x.1, a.eval x.2)) = some vs.toArray ∧ RvAs E N w cs vs ∧ ∀ x ∈ cs, ∀ j, x.men j → (∃ y ∈ z, y.men j) ∨ ∃ (o : Operand) (x' : X), chkX o x' = true ∧ (st.ev x').men j
  | [], [], z, zs, cs, _, hz, hf => by
    simp only [fillL, Option.some.injEq] at hf
    subst hf
    exact ⟨zs, rfl, hz, fun x hx j hj => .inl ⟨x, hx, hj⟩⟩
  | (i, x) :: ps, (off, n, x') :: ps', z, zs, cs, hc, hz, hf => by
    simp only [chkPs, Bool.and_eq_true, beq_iff_eq] at hc
    obtain ⟨⟨hp, hx⟩, hr⟩ := hc
    simp only [fillL] at hf
    split at hf
    · rename_i ys hys
      split at hf
      · rename_i hl
        obtain ⟨us, h1, h2, h3, h4⟩ := cells_rv (chkX_rv hts hx) hys
        have hsz := hz.1
        have hz' : RvAs E N w (splice off ys z) (splice off us zs) := RvAs.splice ⟨h2, h3⟩ hz (by omega)
        obtain ⟨vs, g1, g2, g3⟩ := fill_rv hts ps ps' _ _ cs hr hz' hf
        refine ⟨vs, ?_, g2, fun y hy j hj => ?_⟩
        · simp only [List.map_cons, Instr.fill, hp, h1]
          have c1 : (us.toArray.size ≠ n || off + us.toArray.size > zs.toArray.size) = false := by
            simp only [List.size_toArray, ne_eq, gt_iff_lt, Bool.or_eq_false_iff, decide_eq_false_iff_not]
            omega
          rw [c1]
          simp only [Bool.false_eq_true, if_false]
          have := foldl_set off us 0 zs (by omega)
          rw [Nat.add_zero] at this
          rw [← g1, ← this]
          congr 1
          rw [← Array.foldl_toList]
          simp
        · rcases g3 y hy j hj with ⟨q, hq, hqj⟩ | h
          · unfold splice at hq
            rw [List.append_assoc, List.mem_append, List.mem_append] at hq
            rcases hq with hq | hq | hq
            · exact .inl ⟨q, List.mem_of_mem_take hq, hqj⟩
            · exact .inr ⟨x, x', hx, h4 q hq j hqj⟩
            · exact .inl ⟨q, List.mem_of_mem_drop hq, hqj⟩
          · exact .inr h
      · cases hf
    · cases hf
  | [], _ :: _, z, zs, cs, hc, hz, hf => by simp [chkPs] at hc
  | _ :: _, [], z, zs, cs, hc, hz, hf => by simp [chkPs] at hc

theorem owes_build {t : TypeId} {ps : Array (Nat × Operand)} {ps' : List (Nat × Nat × X)} {z : List A} {place : Nat → Option (Nat × Nat)} (ho : o.op = .build t ps)
    (hrun : ∀ (pv : Array (Nat × Value)) (w : World), ∃ zv : Value, atomsOk zv.cells.toList z = true ∧ ∀ vs, Instr.fill place zv.cells pv.toList = some vs → (Instr.build t pv).run P w = .ok (.agg vs) w)
    (hp : chkPs place ps.toList ps' = true) : Owes G P o (.build z ps') := by
  intro N0 w0 nt st a w next Q K R hd hs hK
  simp only [dsem] at hs
  split at hs
  · rename_i cs hcs
    obtain ⟨zv, hz, hrun⟩ := hrun (ps.map fun x => (x.1, a.eval x.2)) w
    have key : ∀ E N, (∀ i, RvL E N w (st.get i) (a.tmps.getD i undef)) → ∃ vs, Instr.fill place zv.cells ((ps.map fun x => (x.1, a.eval x.2)).toList) = some vs.toArray ∧ RvAs E N w cs vs ∧
        ∀ x ∈ cs, ∀ j, x.men j → st.blk j ≠ none := by
      intro E N hts
      obtain ⟨h1, h2, h3⟩ := atomsOk_rv (E := E) (N := N) (w := w) hz
      obtain ⟨vs, g1, g2, g3⟩ := fill_rv hts ps.toList ps' z zv.cells.toList cs hp ⟨h1, h2⟩ hcs
      refine ⟨vs, by simpa using g1, g2, fun x hx j hj => ?_⟩
      rcases g3 x hx j hj with ⟨y, hy, hyj⟩ | ⟨op, x', hx', hj'⟩
      · exact absurd hyj (h3 y hy j)
      · exact chkX_men R.twf hx' j hj'
    obtain ⟨E, N, hE, hts⟩ := R.env
    obtain ⟨vs, g1, g2, g3⟩ := key E N hts
    refine wp_val (v := .agg vs.toArray) (w' := w) ?_ (hK _ _ _ _ hs (R.value _ hd _ _ (fun E' N' hE' hts' => ?_) (fun j hj => ?_)))
    · have := hrun _ g1
      simp only [execOp, ho]
      rw [Sem.run_bind, this]
      rfl
    · obtain ⟨vs', g1', g2', _⟩ := key E' N' hts'
      rw [g1] at g1'
      have : vs' = vs := by injection g1' with e; exact (List.toArray_inj e).symm
      subst this
      exact ⟨vs', rfl, g2'.1, g2'.2⟩
    · obtain ⟨x, hx, hxj⟩ := hj
      exact g3 x hx j hxj
  · exact hs.elim
end
end Go.Proofs.YtpfhfokfambdaaaGreatDoor.Ev

/-! Rows of the call's own: literals, stores, append; new data. -/
namespace Go.Proofs.YtpfhfokfambdaaaGreatDoor.Ev
open Go.RowKit (Below)

theorem row_index {i j s n : Nat} (hi : i < n) (hj : j < s) : i * s + j < n * s :=
  calc i * s + j < i * s + s := by omega
    _ = (i + 1) * s := by rw [Nat.add_mul, Nat.one_mul]
    _ ≤ n * s := Nat.mul_le_mul_right _ hi
theorem row_apart {i i' j o n s : Nat} (hne : i ≠ i') (hj : j < s) (ho : o + n ≤ s) : ¬ (i' * s + o ≤ i * s + j ∧ i * s + j < i' * s + o + n) := by
  rintro ⟨h1, h2⟩
  rcases Nat.lt_or_gt_of_ne hne with h | h
  · have : (i + 1) * s ≤ i' * s := Nat.mul_le_mul_right _ h
    rw [Nat.add_mul, Nat.one_mul] at this
    omega
  · have : (i' + 1) * s ≤ i * s := Nat.mul_le_mul_right _ h
    rw [Nat.add_mul, Nat.one_mul] at this
    omega

section
variable {P : Program} {w : World} {o : Oper} {G : World → Prop} {N0 : Base} {w0 : World} {nt : Nat} {st : St} {a : Act} {next : Act → World → Prop} {Q : Exit → Act → World → Prop} {K : L → List (Nat × Blk) → Prop}

/-- Data in new memory. -/
theorem Rel.fresh (R : Rel G N0 w0 nt st a w) (dst : Option Nat) (hd : ∀ d, dst = some d → d < nt) {w' : World} (hb : Below w.heap.size w w') (d : D) (v : Value)
    (hv : ∀ N : Nat → Prop, (∀ b, N b → b < w.heap.size) → Rv (fun b => N b ∨ w.heap.size ≤ b) w' d v) : Rel G N0 w0 nt (st.write dst (.at (.d d)) []) (a.put dst v) w' := by
  obtain ⟨E, N, hE, hts⟩ := R.env
  have hE' := hE.ext hb.block hb.size
  have hE'' := hE'.more (N' := fun b => N b ∨ (w.heap.size ≤ b ∧ b < w'.heap.size)) (fun b h => .inl h) (fun b h hn => by
    rcases h with h | ⟨h1, h2⟩
    · exact absurd h hn
    · exact ⟨.inr (Nat.le_trans R.below.size h1), h2, fun k bl h3 h4 h5 => by have := (hE.live k bl b h3 h4 h5).2.2; omega⟩) (fun b h hn hf => by
    rcases h with h | ⟨h1, h2⟩
    · exact hn h
    · have := (hE.fo b hf).1; omega)
  have hts' : ∀ i, RvL E (fun b => N b ∨ (w.heap.size ≤ b ∧ b < w'.heap.size)) w' (st.get i) (a.tmps.getD i undef) := fun i =>
    RvL.mono (fun b _ hlt => hb.block b hlt) (fun b h _ => .inl h) (fun _ _ => rfl) (hts i)
  refine ⟨R.good, R.stab, R.below.trans (hb.mono R.below.size), ?_, ?_, ⟨E, _, hE'', fun i => ?_⟩, fun i k hk => ?_⟩
  · cases dst <;> exact R.defers
  · cases dst
    · exact R.size
    · simp [Act.put, R.size]
  · rw [get_write, getD_put _ _ _ _ (fun d h => by rw [R.size]; exact hd d h)]
    split
    · refine Rv.mono (w := w') (fun _ _ _ => rfl) (fun b h hlt => ?_) (hv N hE.nlt)
      rcases h with h | h
      · exact .inl h
      · exact .inr ⟨h, hlt⟩
    · exact hts' i
  · rw [get_write] at hk
    split at hk
    · exact hk.elim
    · exact R.twf i k hk

theorem owes_bytes {s t e : TypeId} {x : Operand} {x' : X} (ho : o.op = .convert s t x) {u : TypeDesc} (hs' : P.underlying s = some u) (ht : P.underlying t = some (.slice e)) (he : P.underlying e = some (.int .u8)) (hx : chkX x x' = true) : Owes G P o (.bytes x') := by
  intro N0 w0 nt st a w next Q K R hd hs hK
  simp only [dsem] at hs
  split at hs
  · rename_i l hl
    have e1 := R.str hx hl
    have hr := Lib.run_convert_string_bytes (P := P) w s t e ⟨l.toArray⟩ hs' ht he
    have e2 : (ByteArray.mk l.toArray).size = l.length := by simp [ByteArray.size]
    have hbel : Below w.heap.size w (Lib.bytesWorld w e ⟨l.toArray⟩) := ⟨rfl, rfl, rfl, by rw [Lib.bytesWorld_size]; omega, fun k hk => Lib.bytesWorld_at_old w e _ k hk⟩
    refine wp_val (v := .slice (some ⟨w.heap.size, 0, none⟩) l.length (grownCap w l.length 0 e)) (w' := Lib.bytesWorld w e ⟨l.toArray⟩) ?_ (hK _ _ _ _ hs (R.fresh _ hd hbel _ _ fun N hN => ?_))
    · simp only [execOp, ho, e1]
      rw [Sem.run_bind, hr, e2]
      rfl
    · have := Rv.mk_slice (N := fun b => N b ∨ w.heap.size ≤ b) (w := Lib.bytesWorld w e ⟨l.toArray⟩) (rows := l.map fun b => [D.int .u8 (b.toNat : Int)]) (b := w.heap.size) (o := 0) (s := 1) (cap := grownCap w l.length 0 e) (.inr (Nat.le_refl _)) (by rw [Lib.bytesWorld_size]; omega)
        (by rw [List.length_map]; exact grownCap_ge w l.length 0 e) (fun i r hi => by rw [List.getElem?_map, Option.map_eq_some_iff] at hi; obtain ⟨b, _, rfl⟩ := hi; rfl) (fun i j r d hi hj => ?_)
      · rw [List.length_map] at this; exact this
      · rw [List.getElem?_map, Option.map_eq_some_iff] at hi
        obtain ⟨b, hb, rfl⟩ := hi
        cases j with
        | zero =>
          simp at hj
          subst hj
          have hlt : i < l.length := (List.getElem?_eq_some_iff.1 hb).1
          have hc := Lib.bytesWorld_cell w e ⟨l.toArray⟩ i (by rw [e2]; exact hlt)
          refine ⟨_, by simpa using hc, ?_⟩
          have : l[i]?.getD 0 = b := by rw [hb]; rfl
          simp only [this]
          exact .int _ _
        | succ j => simp at hj
  · exact hs.elim

theorem owes_buildS {t e : TypeId} {k s n : Nat} {ps : Array (Nat × Operand)} {ps' : List (Nat × Nat × X)} {place : Nat → Option (Nat × Nat)} (ho : o.op = .buildSlice t n ps) (hn : n ≤ 16777216)
    (hrun : ∀ (pv : Array (Nat × Value)) (w : World), ∃ zs : List Value, zs.length = n * s ∧ ∀ vs : Array Value, Instr.fill place zs.toArray pv.toList = some vs → (Instr.buildSlice t n pv).run P w = .ok (.slice (some ⟨w.heap.size, 0, none⟩) n n) (w.alloc (.cells vs e)))
    (hp : chkPs place ps.toList ps' = true) : Owes G P o (.buildS k e s n ps') := by
  intro N0 w0 nt st a w next Q K R hd hs hK
  simp only [dsem] at hs
  split at hs
  · rename_i cs hcs
    obtain ⟨hk, hs⟩ := hs
    obtain ⟨zs, hz, hrun⟩ := hrun (ps.map fun x => (x.1, a.eval x.2)) w
    have key : ∀ E N, (∀ i, RvL E N w (st.get i) (a.tmps.getD i undef)) → ∃ vs, Instr.fill place zs.toArray ((ps.map fun x => (x.1, a.eval x.2)).toList) = some vs.toArray ∧ RvAs E N w cs vs ∧
        ∀ x ∈ cs, ∀ j, x.men j → st.blk j ≠ none := by
      intro E N hts
      obtain ⟨vs, g1, g2, g3⟩ := fill_rv hts ps.toList ps' (List.replicate (n * s) A.any) zs cs hp ⟨by simp [hz], fun i y u hy _ => by
        rw [List.getElem?_replicate] at hy
        split at hy
        · cases hy; trivial
        · cases hy⟩ hcs
      refine ⟨vs, by simpa using g1, g2, fun x hx j hj => ?_⟩
      rcases g3 x hx j hj with ⟨y, hy, hyj⟩ | ⟨op, x', hx', hj'⟩
      · have := List.eq_of_mem_replicate hy
        subst this
        exact hyj.elim
      · exact chkX_men R.twf hx' j hj'
    obtain ⟨E, N, hE, hts⟩ := R.env
    obtain ⟨vs, g1, g2, g3⟩ := key E N hts
    have hlcs : cs.length = n * s := by
      have : ∀ (ps : List (Nat × Nat × X)) (z cs : List A), fillL st.ev ps z = some cs → cs.length = z.length := by
        intro ps
        induction ps with
        | nil => intro z cs h; simp only [fillL, Option.some.injEq] at h; rw [h]
        | cons p ps ih =>
          intro z cs h
          obtain ⟨off, m, x⟩ := p
          simp only [fillL] at h
          split at h
          · split at h
            · rename_i ys hys hl
              rw [ih _ _ h, splice_length (by omega)]
            · cases h
          · cases h
      rw [this _ _ _ hcs, List.length_replicate]
    have hlvs : vs.length = n * s := by rw [g2.1, hlcs]
    have hne : ∀ j, st.blk j ≠ none → k ≠ j := fun j hj e => hj (e ▸ hk)
    have hrow : ∀ (i : Nat) (r : List A), ((List.range n).map fun i => (cs.drop (i * s)).take s)[i]? = some r → i < n ∧ r = (cs.drop (i * s)).take s := by
      intro i r h
      rw [List.getElem?_map, Option.map_eq_some_iff] at h
      obtain ⟨j, h1, h2⟩ := h
      have hlt : i < n := by have := (List.getElem?_eq_some_iff.1 h1).1; simpa using this
      rw [List.getElem?_range hlt] at h1
      cases h1
      exact ⟨hlt, h2.symm⟩
    have hmem : ∀ r ∈ ((List.range n).map fun i => (cs.drop (i * s)).take s), ∀ x ∈ r, x ∈ cs := by
      intro r hr x hx
      obtain ⟨i, _, rfl⟩ := List.mem_map.1 hr
      exact List.mem_of_mem_drop (List.mem_of_mem_take hx)
    refine wp_val (v := .slice (some ⟨w.heap.size, 0, none⟩) n n) (w' := w.alloc (.cells vs.toArray e)) ?_ (hK _ _ _ _ hs ?_)
    · have := hrun _ g1
      simp only [execOp, ho]
      rw [Sem.run_bind, this]
      rfl
    refine R.slot _ hd _ _ k _ ((below_alloc w _).mono R.below.size) (fun E' N' hE' hts' => ⟨.slice (some ⟨w.heap.size, 0, none⟩) n n, fun b hb _ => Go.RowKit.Below.heap_alloc w _ b hb, fun bl0 h => ?_, fun _ b hb => ?_, ?_, ?_⟩) (fun j hj => ?_) (fun j hj => ?_)
    · rw [hk] at h; cases h
    · cases hb
      exact ⟨fun h => Nat.lt_irrefl _ (hE'.nlt _ h), R.below.size, by simp, .inr (Nat.le_refl _)⟩
    · obtain ⟨vs', g1', g2', g3'⟩ := key E' N' hts'
      rw [g1] at g1'
      have : vs' = vs := by injection g1' with e; exact (List.toArray_inj e).symm
      subst this
      refine ⟨vs', ?_, fun i r hi => ?_, fun i j r x u hi hj hu => ?_⟩
      · have := World.ownsRow_lit (base := w0.heap.size) (e := e) (size := s) w vs'.toArray n R.below.size (by simp only [maxLen]; omega) (by simpa using hlvs)
        simpa using this
      · obtain ⟨hlt, rfl⟩ := hrow i r hi
        have h1 : (i + 1) * s ≤ n * s := Nat.mul_le_mul_right _ hlt
        rw [Nat.add_mul, Nat.one_mul] at h1
        rw [List.length_take, List.length_drop]
        omega
      · obtain ⟨hlt, rfl⟩ := hrow i r hi
        rw [List.getElem?_take] at hj
        split at hj
        · rw [List.getElem?_drop] at hj
          refine RvA.mono (fun b _ hlt => Go.RowKit.Below.heap_alloc w _ b hlt) (fun _ h _ => h) (fun j' hj' => upd_ne _ _ (hne j' (g3' x (List.mem_of_getElem? hj) j' hj'))) (g2'.2 _ x u hj hu)
        · cases hj
    · exact ⟨⟨_, _, rfl⟩, _, _, _, upd_same _ _ _, Nat.le_refl _, fun _ => rfl⟩
    · obtain ⟨r, hr, x, hx, hj⟩ := hj
      have := g3 x (hmem r hr x hx) j hj
      rw [upd_ne _ _ (hne j this)]
      exact this
    · have : k = j := hj
      subst this
      rw [upd_same]; simp
  · exact hs.elim
end
end Go.Proofs.YtpfhfokfambdaaaGreatDoor.Ev

/-! Stores and append. -/
namespace Go.Proofs.YtpfhfokfambdaaaGreatDoor.Ev
open Go.RowKit (Below)

section
variable {P : Program} {w : World} {o : Oper} {G : World → Prop} {N0 : Base} {w0 : World} {nt : Nat} {st : St} {a : Act} {next : Act → World → Prop} {Q : Exit → Act → World → Prop} {K : L → List (Nat × Blk) → Prop}

theorem below_setRow {B g : Nat} (hg : B ≤ g) (cs : Array Value) : Below B w (w.setRow g cs) :=
  ⟨rfl, rfl, rfl, by simp, fun k hk => setRow_other w g k cs (by omega)⟩

theorem owes_store {t : TypeId} {n : Nat} {x v : Operand} {x' v' : X} (ho : o.op = .store t x v) (hsz : tySize P t n = true) (hx : chkX x x' = true) (hv : chkX v v' = true) : Owes G P o (.store n x' v') := by
  intro N0 w0 nt st a w next Q K R hd hs hK
  simp only [dsem] at hs
  split at hs
  · rename_i cs hcs
    obtain ⟨hn, hone, hs⟩ := hs
    have key : ∀ E N, (∀ i, RvL E N w (st.get i) (a.tmps.getD i undef)) → ∃ vs : List Value, (a.eval v).cells = vs.toArray ∧ RvAs E N w cs vs ∧ ∀ y ∈ cs, ∀ j, y.men j → st.blk j ≠ none := by
      intro E N hts
      obtain ⟨vs, h1, h2, h3, h4⟩ := cells_rv (chkX_rv hts hv) hcs
      exact ⟨vs, h1, ⟨h2, h3⟩, fun y hy j hj => chkX_men R.twf hv j (h4 y hy j hj)⟩
    have hevx := fun E N hts => chkX_rv (E := E) (N := N) (w := w) (st := st) (a := a) hts hx
    obtain ⟨E, N, hE, hts⟩ := R.env
    obtain ⟨vs, g1, g2, g3⟩ := key E N hts
    have hlv : vs.length = n := by rw [g2.1, hn]
    have hone' := ones_rv hone g2
    have hrun : ∀ b off (cur : Array Value) ty, a.eval x = .pointer (some ⟨b, off, none⟩) → w.heap[b]? = some (.cells cur ty (0, 0)) → off + n ≤ cur.size →
        (execOp a.eval o).run P w = .ok .skip (w.setRow b (splice off vs cur.toList).toArray) := by
      intro b off cur ty he hh hl
      have h1 := run_storeCells_at P b off ty vs 0 cur w hh (by omega) hone'
      rw [Nat.add_zero] at h1
      have h2 : ¬ vs.toArray.size ≠ n := by simp [hlv]
      simp only [execOp, ho, Instr.storeAt, Instr.sureAddr, he, storeVar, Sem.run_bind, Sem.run_pure, Result.andThen_ok, run_sizeOf hsz, g1, h2, if_false, h1]
      rfl
    have hnext : ∀ {w' : World} {us : List (Nat × Blk)}, (execOp a.eval o).run P w = .ok .skip w' → K (.at .any) us → Rel G N0 w0 nt (st.write o.dst (.at .any) us) (a.put o.dst undef) w' → o.wp P a w next Q := by
      intro w' us hr hk hrel
      unfold Oper.wp
      rw [hr]
      exact hK _ _ _ _ hk hrel
    have hv0 := hevx E N hts
    split at hs
    · rename_i k off he
      rw [he] at hv0
      split at hs
      · rename_i old hk
        obtain ⟨hl, hs⟩ := hs
        obtain ⟨b, hb1, hb2⟩ := hv0
        obtain ⟨b', c, ty, c1, c2, c3, c4⟩ := hE.con k _ hk
        rw [c1] at hb1
        cases hb1
        have hlive := hE.live k _ b hk rfl (by rw [c1]; rfl)
        refine hnext (hrun b off c ty hb2 c2 (by omega)) hs (R.slot _ hd _ _ k _ (below_setRow hlive.2.1 _) (fun E' N' hE' hts' => ⟨E' k, fun b' _ h => ?_, fun _ _ => .inl rfl, fun _ b' hb' => ?_, ?_, ?_⟩) (fun j hj => ?_) (fun j hj => hj.elim))
        · obtain ⟨d1, d2, d3, d4, d5, d6, d7⟩ := hE'.con k _ hk
          have hbb : blkOf (E' k) = some b := by
            have := hevx E' N' hts'
            rw [he] at this
            obtain ⟨b2, e1, e2⟩ := this
            rw [hb2] at e2
            cases e2
            rw [e1]; rfl
          exact setRow_other _ _ _ _ fun e => h _ hk rfl (by rw [hbb, e])
        · obtain ⟨e1, e2, e3⟩ := hE'.live k _ b' hk rfl hb'
          exact ⟨e1, e2, by simpa using e3, .inl ⟨_, hk, rfl, hb'⟩⟩
        · have hbb : E' k = .pointer (some ⟨b, 0, none⟩) := by
            have := hevx E' N' hts'
            rw [he] at this
            obtain ⟨b2, e1, e2⟩ := this
            rw [hb2] at e2
            cases e2
            exact e1
          obtain ⟨b', c', ty', d1, d2, d3, d4⟩ := hE'.con k _ hk
          rw [hbb] at d1
          cases d1
          rw [c2] at d2
          cases d2
          obtain ⟨vs', g1', g2', _⟩ := key E' N' hts'
          rw [g1] at g1'
          have : vs' = vs := (List.toArray_inj g1').symm
          subst this
          have hsp : RvAs E' N' w (splice off cs old) (splice off vs' c.toList) := RvAs.splice g2' ⟨by simpa using c3, fun i y u hy hu => d4 i y u hy (by simpa using hu)⟩ (by omega)
          refine ⟨b, _, ty, hbb, setRow_heap w b c _ ty (0, 0) c2, by simpa using hsp.1, fun i y u hy hu => ?_⟩
          have h1 := hsp.2 i y u hy (by simpa using hu)
          have h2 : upd E' k (E' k) = E' := by funext j; unfold upd; split <;> simp_all
          rw [h2]
          refine RvA.mono (fun b' hb' hlt => setRow_other _ _ _ _ fun e => ?_) (fun _ h _ => h) (fun _ _ => rfl) h1
          subst e
          exact (hE'.live k _ b' hk rfl (by rw [hbb]; rfl)).1 hb'
        · trivial
        · obtain ⟨y, hy, hj⟩ := hj
          by_cases e : k = j
          · subst e; rw [upd_same]; simp
          · rw [upd_ne _ _ e]
            unfold splice at hy
            rw [List.append_assoc, List.mem_append, List.mem_append] at hy
            rcases hy with hy | hy | hy
            · exact hE.wf k _ j hk ⟨y, List.mem_of_mem_take hy, hj⟩
            · exact g3 y hy j hj
            · exact hE.wf k _ j hk ⟨y, List.mem_of_mem_drop hy, hj⟩
      · exact hs.elim
    · rename_i k m s i off he
      rw [he] at hv0
      split at hs
      · rename_i e s' rs hk
        obtain ⟨hm, hs', hi, hl, hn0, hs⟩ := hs
        subst hs'
        -- the pointer, in whatever environment
        have hptr : ∀ E' N', Env N0 w0.heap.size w st.blk E' N' → (∀ i, RvL E' N' w (st.get i) (a.tmps.getD i undef)) → ∃ b c, E' k = .slice (some ⟨b, 0, none⟩) rs.length c ∧ a.eval x = .pointer (some ⟨b, i * s' + off, none⟩) := by
          intro E' N' hE' hts'
          have h := hevx E' N' hts'
          rw [he] at h
          obtain ⟨_, Ad, m', c, h1, h2, h3⟩ := h
          obtain ⟨xs, h4, _⟩ := hE'.con k _ hk
          obtain ⟨Ad', c', h5⟩ := own_header h4
          rw [h5] at h1
          cases h1
          obtain ⟨b, rfl, h6⟩ := h3 hm
          exact ⟨b, c, h5, h6⟩
        obtain ⟨b, cap, p1, p2⟩ := hptr E N hE hts
        obtain ⟨xs, q1, q2, q3⟩ := hE.con k _ hk
        have hcur : ∃ cur cp, w.heap[b]? = some (.cells cur e (0, 0)) ∧ cur.size = cp * s' ∧ rs.length ≤ cp ∧ cp ≤ maxLen ∧ cur.toList.take (rs.length * s') = xs ∧ w0.heap.size ≤ b ∧ E k = .slice (some ⟨b, 0, none⟩) rs.length cp := by
          rcases q1.2 with ⟨h, _⟩ | ⟨g, cp, cur, h, h1, h2, h3, h4, h5, h6⟩
          · rw [p1] at h; cases h
          · rw [p1] at h
            cases h
            exact ⟨cur, _, h2, h5, h3, h4, h6, h1, p1⟩
        obtain ⟨cur, cp, r1, r2, r3, r4, r5, r6, r7⟩ := hcur
        have hrows : i * s' + s' ≤ rs.length * s' := by
          have : (i + 1) * s' ≤ rs.length * s' := Nat.mul_le_mul_right _ (by omega)
          rwa [Nat.add_mul, Nat.one_mul] at this
        have hcap : rs.length * s' ≤ cur.size := by rw [r2]; exact Nat.mul_le_mul_right _ r3
        refine hnext (hrun b (i * s' + off) cur e p2 r1 (by omega)) hs (R.slot _ hd _ _ k _ (below_setRow r6 _) (fun E' N' hE' hts' => ⟨E' k, fun b' _ h => ?_, fun _ _ => .inl rfl, fun _ b' hb' => ?_, ?_, ?_⟩) (fun j hj => ?_) (fun j hj => hj.elim))
        · obtain ⟨b2, c2, e1, e2⟩ := hptr E' N' hE' hts'
          rw [p2] at e2
          cases e2
          exact setRow_other _ _ _ _ fun e => h _ hk rfl (by rw [e1, e]; rfl)
        · obtain ⟨e1, e2, e3⟩ := hE'.live k _ b' hk rfl hb'
          exact ⟨e1, e2, by simpa using e3, .inl ⟨_, hk, rfl, hb'⟩⟩
        · obtain ⟨b2, c2, e1, e2⟩ := hptr E' N' hE' hts'
          rw [p2] at e2
          cases e2
          obtain ⟨xs', f1, f2, f3⟩ := hE'.con k _ hk
          have hxs : xs' = xs ∧ c2 = cp := by
            rcases f1.2 with ⟨h, _⟩ | ⟨g, cp', cur', h, h1, h2, h3, h4, h5, h6⟩
            · rw [e1] at h; cases h
            · rw [e1] at h
              cases h
              rw [r1] at h2
              cases h2
              refine ⟨by rw [← h6, ← r5], ?_⟩
              have : c2 * s' = cp * s' := by rw [← h5, ← r2]
              exact Nat.eq_of_mul_eq_mul_right (by omega) this
          obtain ⟨rfl, rfl⟩ := hxs
          obtain ⟨vs', g1', g2', _⟩ := key E' N' hts'
          rw [g1] at g1'
          have : vs' = vs := (List.toArray_inj g1').symm
          subst this
          have h2 : upd E' k (E' k) = E' := by funext j; unfold upd; split <;> simp_all
          rw [h2]
          have hlen : xs'.length = rs.length * s' := f1.1
          have hlv1 : vs'.length = n := hlv
          have hct : cur.toList.length = cur.size := Array.length_toList
          refine ⟨splice (i * s' + off) vs' xs', ⟨?_, .inr ⟨b, c2, _, by rw [e1, List.length_modify], r6, setRow_heap w b cur _ e (0, 0) r1, by rw [List.length_modify]; exact r3, r4, ?_, ?_⟩⟩, fun i' r hr => ?_, fun i' j r y u hr hy hu => ?_⟩
          · rw [splice_length (by omega), List.length_modify]; exact hlen
          · have : (splice (i * s' + off) vs' cur.toList).length = cur.toList.length := splice_length (by rw [hct, hlv1]; omega)
            simp only [List.size_toArray, this, Array.length_toList]
            exact r2
          · rw [List.length_modify, ← r5]
            apply List.ext_getElem?
            intro j
            rw [List.getElem?_take, splice_get (by rw [hct, hlv1]; omega), splice_get (by rw [List.length_take, hct, hlv1]; omega), List.getElem?_take]
            split <;> split <;> first | rfl | omega
          · rw [List.getElem?_modify] at hr
            split at hr
            · rename_i e'
              rw [Option.map_eq_map, Option.map_eq_some_iff] at hr
              obtain ⟨r0, hr0, rfl⟩ := hr
              have := f2 i' r0 hr0
              rw [splice_length (by omega)]
              exact this
            · simp only [Option.map_eq_map, Option.map_id'] at hr
              exact f2 i' r (by simpa using hr)
          · refine RvA.mono (w := w) (fun b' hb' hlt => setRow_other _ _ _ _ fun e => ?_) (fun _ h _ => h) (fun _ _ => rfl) ?_
            · subst e
              exact (hE'.live k _ b' hk rfl (by rw [e1]; rfl)).1 hb'
            rw [splice_get (by omega)] at hu
            rw [List.getElem?_modify] at hr
            split at hr
            · rename_i e'
              subst e'
              rw [Option.map_eq_map, Option.map_eq_some_iff] at hr
              obtain ⟨r0, hr0, rfl⟩ := hr
              have hl0 := f2 _ r0 hr0
              rw [splice_get (by omega)] at hy
              split at hy
              · rename_i hc
                rw [if_pos (by omega)] at hu
                rw [show i * s' + j - (i * s' + off) = j - off by omega] at hu
                exact g2'.2 _ y u hy hu
              · rename_i hc
                rw [if_neg (by omega)] at hu
                exact f3 _ j r0 y u hr0 hy hu
            · rename_i hne
              have hr' : rs[i']? = some r := by simpa using hr
              have hj : j < s' := by rw [← f2 i' r hr']; exact (List.getElem?_eq_some_iff.1 hy).1
              rw [if_neg (by rw [show vs'.length = n from hlv]; exact row_apart (fun e => hne e.symm) hj hl)] at hu
              exact f3 i' j r y u hr' hy hu
        · trivial
        · obtain ⟨r, hr, y, hy, hj⟩ := hj
          by_cases e' : k = j
          · subst e'; rw [upd_same]; simp
          · rw [upd_ne _ _ e']
            obtain ⟨i', hi'⟩ := List.mem_iff_getElem?.1 hr
            rw [List.getElem?_modify] at hi'
            split at hi'
            · rw [Option.map_eq_map, Option.map_eq_some_iff] at hi'
              obtain ⟨r0, hr0, rfl⟩ := hi'
              unfold splice at hy
              rw [List.append_assoc, List.mem_append, List.mem_append] at hy
              rcases hy with hy | hy | hy
              · exact hE.wf k _ j hk ⟨r0, List.mem_of_getElem? hr0, y, List.mem_of_mem_take hy, hj⟩
              · exact g3 y hy j hj
              · exact hE.wf k _ j hk ⟨r0, List.mem_of_getElem? hr0, y, List.mem_of_mem_drop hy, hj⟩
            · have hr' : rs[i']? = some r := by simpa using hi'
              exact hE.wf k _ j hk ⟨r, List.mem_of_getElem? hr', y, hy, hj⟩
      · exact hs.elim
    · exact hs.elim
  · exact hs.elim
end
end Go.Proofs.YtpfhfokfambdaaaGreatDoor.Ev

/-! append. -/
namespace Go.Proofs.YtpfhfokfambdaaaGreatDoor.Ev
open Go.RowKit (Below)

section
variable {E : Nat → Value} {N : Nat → Prop} {w : World} {N0 : Base} {B : Nat} {blk : Nat → Option Blk}
theorem elems_rv (hE : Env N0 B w blk E N) {s : Nat} {l : L} {v : Value} {news : List (List A)} (h : RvL E N w l v) (hl : elems blk s l = some news) (hall : ∀ r ∈ news, r.length = s) :
    ∃ Ad c, v = .slice Ad news.length c ∧ (news ≠ [] → ∃ b o, Ad = some ⟨b, o, none⟩ ∧
      ∀ (i j : Nat) (r : List A) (x : A), news[i]? = some r → r[j]? = some x → ∃ u, w.cell? ⟨b, o + (i * s + j), none⟩ = some u ∧ RvA E N w x u) ∧ ∀ r ∈ news, ∀ x ∈ r, ∀ k, x.men k → blk k ≠ none := by
  have hdata : ∀ (rows : List (List D)) (v : Value), Rv N w (.slice rows) v → news = rows.map (fun r => r.map A.d) → ∃ Ad c, v = .slice Ad news.length c ∧ (news ≠ [] → ∃ b o, Ad = some ⟨b, o, none⟩ ∧
      ∀ (i j : Nat) (r : List A) (x : A), news[i]? = some r → r[j]? = some x → ∃ u, w.cell? ⟨b, o + (i * s + j), none⟩ = some u ∧ RvA E N w x u) ∧ ∀ r ∈ news, ∀ x ∈ r, ∀ k, x.men k → blk k ≠ none := by
    intro rows v h hn
    subst hn
    obtain ⟨Ad, cap, h1, h2⟩ := Rv.inv_slice h
    refine ⟨Ad, cap, by rw [List.length_map]; exact h1, fun hne => ?_, fun r hr x hx k hk => ?_⟩
    · obtain ⟨_, b, o, s', h3, _, _, h4, h5⟩ := h2 (by rintro rfl; simp at hne)
      refine ⟨b, o, h3, fun i j r x hr hx => ?_⟩
      rw [List.getElem?_map, Option.map_eq_some_iff] at hr
      obtain ⟨r0, hr0, rfl⟩ := hr
      obtain ⟨d, rfl, hd⟩ := map_d_getElem hx
      have hs : s' = s := by
        rw [← h4 i r0 hr0]
        have := hall (r0.map A.d) (List.mem_map.2 ⟨r0, List.mem_of_getElem? hr0, rfl⟩)
        rwa [List.length_map] at this
      subst hs
      exact h5 i j r0 d hr0 hd
    · obtain ⟨r0, _, rfl⟩ := List.mem_map.1 hr
      obtain ⟨d, _, rfl⟩ := List.mem_map.1 hx
      exact hk.elim
  unfold elems at hl
  split at hl
  · cases hl
    exact hdata _ v h rfl
  · cases hl
    have h : v = .slice none 0 0 := h
    exact ⟨none, 0, h, fun hne => absurd rfl hne, fun r hr => by simp at hr⟩
  · rename_i k n
    obtain ⟨_, Ad, m, c, he, hn, hv⟩ := h
    split at hl
    · rename_i e s' rs hk
      split at hl
      · rename_i hc
        obtain ⟨hn', hs'⟩ := hc
        subst hs'
        cases hl
        obtain ⟨xs, h1, h2⟩ := hE.con k _ hk
        obtain ⟨Ad', c', h3⟩ := own_header h1
        rw [h3] at he
        cases he
        refine ⟨Ad, c, hv hn', fun hne => ?_, fun r hr x hx j hj => hE.wf k _ j hk ⟨r, hr, x, hx, hj⟩⟩
        have : ∃ b, Ad = some ⟨b, 0, none⟩ := by
          rw [h3] at h1
          rcases h1.2 with ⟨h, h'⟩ | ⟨g, cap, cur, h, _⟩
          · exact absurd (List.eq_nil_of_length_eq_zero h') hne
          · cases h; exact ⟨g, rfl⟩
        obtain ⟨b, rfl⟩ := this
        refine ⟨b, 0, rfl, fun i j r x hr hx => ?_⟩
        rw [Nat.zero_add]
        exact row_cells hE hk h3 hr hx
      · cases hl
    · rename_i rs hk
      split at hl
      · rename_i hn'
        cases hl
        obtain ⟨A', cap, h1, _⟩ := Rv.inv_slice (hE.con k _ hk)
        rw [h1] at he
        cases he
        have h4 := hv hn'
        refine hdata rs v ?_ rfl
        rw [h4, ← h1]
        exact hE.con k _ hk
      · cases hl
    · cases hl
  · cases hl
end

section
variable {G : World → Prop} {P : Program} {w : World} {o : Oper}
/-- Nothing is appended: the slice is handed on. -/
theorem run_append_none {t e : TypeId} {i : TypeInfo} (ht : P.underlying t = some (.slice e)) (hi : P.info? e = some i) (ty : TypeId) {Ad Ad' : Option Addr} {n cap c : Nat} (hc : n ≤ cap) :
    (Builtin.append_ #[t, t] ty #[.slice Ad n cap, .slice Ad' 0 c]).run P w = .ok (.slice Ad n cap) w := by
  cases Ad <;> cases Ad' <;> simp [Builtin.append_, run_underlying ht, sizeOf, typeInfo, hi, Builtin.lenOf, Builtin.firstCells, loadCells, loadCellsFrom, storeCells, hc]

theorem owes_append {t e : TypeId} {s bytes : Nat} {x y : Operand} {x' y' : X} (ho : o.op = .call { callee := .builtin .append, args := #[x, y], argTypes := #[t, t] }) (ht : P.underlying t = some (.slice e))
    {i : TypeInfo} (hi : P.info? e = some i) {z : Value} (hz : i.zero = some z) (hsize : i.size = s) (hby : i.bytes = bytes) (hzs : z.cells.size = s) (hs0 : 0 < s) (hbytes : bytes ≤ 32768)
    (hx : chkX x x' = true) (hy : chkX y y' = true) : Owes G P o (.append e s x' y') := by
  intro N0 w0 nt st a w next Q K R hd hs hK
  simp only [dsem] at hs
  split at hs
  · rename_i k n news he hnews
    split at hs
    · rename_i e' s' rs hk
      obtain ⟨hn, he', hs', hall, hlen, _, hs⟩ := hs
      subst he' hs' hn
      have hall1 : ∀ r ∈ news, r.length = s' := fun r hr => by
        have := List.all_eq_true.1 hall r hr
        rw [Bool.and_eq_true, beq_iff_eq] at this
        exact this.1
      have hall2 : ∀ r ∈ news, r.all A.one = true := fun r hr => by
        have := List.all_eq_true.1 hall r hr
        rw [Bool.and_eq_true] at this
        exact this.2
      have hevx := fun E N hts => chkX_rv (E := E) (N := N) (w := w) (st := st) (a := a) hts hx
      have hevy := fun E N hts => chkX_rv (E := E) (N := N) (w := w) (st := st) (a := a) hts hy
      -- the slice's own handle
      have hhead : ∀ E N, Env N0 w0.heap.size w st.blk E N → (∀ i, RvL E N w (st.get i) (a.tmps.getD i undef)) → a.eval x = E k ∧ ∃ Ad c, E k = .slice Ad rs.length c := by
        intro E N hE hts
        have h := hevx E N hts
        rw [he] at h
        obtain ⟨_, Ad, m, c, h1, h2, h3⟩ := h
        obtain ⟨xs, h4, _⟩ := hE.con k _ hk
        obtain ⟨Ad', c', h5⟩ := own_header h4
        have h6 := h5
        rw [h1] at h6
        cases h6
        exact ⟨by rw [h3 rfl, h1], Ad, c, h1⟩
      obtain ⟨E, N, hE, hts⟩ := R.env
      obtain ⟨hxv, Ad, cap, hek⟩ := hhead E N hE hts
      obtain ⟨xs, o1, o2, o3⟩ := hE.con k _ hk
      obtain ⟨Ad', c', y1, y2, y3⟩ := elems_rv hE (hevy E N hts) hnews hall1
      by_cases hne : news = []
      · -- nothing to append
        subst hne
        have hcap : rs.length ≤ cap := by
          rcases o1.2 with ⟨h, h'⟩ | ⟨g, cp, cur, h, _, _, h', _⟩
          · rw [h'] ; exact Nat.zero_le _
          · rw [hek] at h; cases h; exact h'
        have hr := run_append_none (P := P) (w := w) ht hi o.type (Ad := Ad) (Ad' := Ad') (c := c') hcap
        refine wp_val (v := .slice Ad rs.length cap) (w' := w) ?_ (hK _ _ _ _ hs (R.slot _ hd _ _ k _ (Below.refl _ _) (fun E' N' hE' hts' => ⟨E' k, fun _ _ _ => rfl, fun _ _ => .inl rfl, fun _ b hb => ?_, ?_, ?_⟩) (fun j hj => ?_) (fun j hj => ?_)))
        · simp only [execOp, ho, resolve, invoke, builtin, Sem.run_bind, Sem.run_pure, Result.andThen_ok, List.map_toArray, List.map_cons, List.map_nil, hxv, hek, y1, List.length_nil, hr]
        · obtain ⟨e1, e2, e3⟩ := hE'.live k _ b hk rfl hb
          exact ⟨e1, e2, e3, .inl ⟨_, hk, rfl, hb⟩⟩
        · have h2 : upd E' k (E' k) = E' := by funext j; unfold upd; split <;> simp_all
          rw [h2, List.append_nil]
          exact hE'.con k _ hk
        · obtain ⟨hxv', _⟩ := hhead E' N' hE' hts'
          refine ⟨⟨_, _, rfl⟩, Ad, rs.length, cap, ?_, by simp, fun _ => rfl⟩
          rw [upd_same, ← hxv', hxv, hek]
        · rw [List.append_nil] at hj
          by_cases e' : k = j
          · subst e'; rw [upd_same]; simp
          · rw [upd_ne _ _ e']; exact hE.wf k _ j hk hj
        · have : k = j := hj
          subst this
          rw [upd_same]; simp
      · -- something
        obtain ⟨b, off, rfl, yc⟩ := y2 hne
        have hm0 : 0 < news.length := List.length_pos_iff.2 hne
        let vals : List Value := (List.range (news.length * s')).map fun q => (w.cell? ⟨b, off + q, none⟩).getD undef
        have hvl : vals.length = news.length * s' := by simp [vals]
        have hvals : ∀ E' N', Env N0 w0.heap.size w st.blk E' N' → (∀ i, RvL E' N' w (st.get i) (a.tmps.getD i undef)) →
            ∀ (i j : Nat) (r : List A) (q : A), news[i]? = some r → r[j]? = some q → ∃ u, w.cell? ⟨b, off + (i * s' + j), none⟩ = some u ∧ RvA E' N' w q u := by
          intro E' N' hE' hts'
          obtain ⟨Ad2, c2, z1, z2, _⟩ := elems_rv hE' (hevy E' N' hts') hnews hall1
          obtain ⟨b2, o2, rfl, z3⟩ := z2 hne
          rw [y1] at z1
          cases z1
          exact z3
        have hcell : ∀ q, q < news.length * s' → ∃ r x, news[q / s']? = some r ∧ r[q % s']? = some x ∧ q / s' * s' + q % s' = q := by
          intro q hq
          have h1 : q / s' < news.length := Nat.div_lt_of_lt_mul (by rw [Nat.mul_comm]; exact hq)
          have h2 := List.getElem?_eq_getElem h1
          have h3 : q % s' < (news[q / s']).length := by rw [hall1 _ (List.mem_of_getElem? h2)]; exact Nat.mod_lt _ hs0
          exact ⟨_, _, h2, List.getElem?_eq_getElem h3, by rw [Nat.mul_comm]; exact Nat.div_add_mod q s'⟩
        have hvq : ∀ q, q < news.length * s' → vals[q]? = w.cell? ⟨b, off + q, none⟩ := by
          intro q hq
          obtain ⟨r, x, h1, h2, h3⟩ := hcell q hq
          obtain ⟨u, h4, _⟩ := yc _ _ r x h1 h2
          rw [h3] at h4
          simp only [vals, List.getElem?_map, List.getElem?_range hq, Option.map_some, h4, Option.getD_some]
        obtain ⟨v', w', hr, a1, a2, _, a4⟩ := run_append_own_at (P := P) w w0.heap.size t o.type e' i z s' bytes ht hi hz hsize hby hzs hs0 (E k) rs.length xs o1 ⟨b, off, none⟩ news.length c' vals hvl
          (fun j u hu => by
            have hj : j < news.length * s' := by rw [← hvl]; exact (List.getElem?_eq_some_iff.1 hu).1
            rw [hvq j hj] at hu
            rw [add_plain]; exact hu)
          (fun u hu => by
            obtain ⟨q, hq⟩ := List.mem_iff_getElem?.1 hu
            have hj : q < news.length * s' := by rw [← hvl]; exact (List.getElem?_eq_some_iff.1 hq).1
            rw [hvq q hj] at hq
            obtain ⟨r, x, h1, h2, h3⟩ := hcell q hj
            obtain ⟨u', h4, h5⟩ := yc _ _ r x h1 h2
            rw [h3, hq] at h4
            cases h4
            exact one_rv (List.all_eq_true.1 (hall2 r (List.mem_of_getElem? h1)) x (List.mem_of_getElem? h2)) h5)
          (by simp only [maxLen]; omega) (Nat.le_trans (Nat.mul_le_mul hlen hbytes) (by decide)) R.below.size
        obtain ⟨Av, cv, hv'⟩ := own_header a1
        have hblk : ∀ b', blkOf v' = some b' → (blkOf (E k) = some b' ∨ b' = w.heap.size) := by
          intro b' hb'
          have e1 : v'.ownBlock = blkOf v' := by rw [hv']; cases Av <;> rfl
          have e2 : (E k).ownBlock = blkOf (E k) := by rw [hek]; cases Ad <;> rfl
          rw [e1, e2] at a4
          rcases a4 with h | h
          · exact .inl (by rw [← h]; exact hb')
          · rw [hb'] at h; cases h; exact .inr rfl
        have hsame : ∀ b', b' < w.heap.size → blkOf (E k) ≠ some b' → w'.heap[b']? = w.heap[b']? := by
          intro b' hlt hne'
          have e2 : (E k).ownBlock = blkOf (E k) := by rw [hek]; cases Ad <;> rfl
          exact a2.block b' hlt (by rw [e2]; exact fun e => hne' e.symm)
        have hkeep : ∀ E' N', Env N0 w0.heap.size w st.blk E' N' → ∀ {x : A} {u : Value}, E' k = E k → RvA E' N' w x u → RvA (upd E' k v') N' w' x u := by
          intro E' N' hE' x u hee hxu
          refine RvA.grows (fun j => ?_) (RvA.mono (fun b' hb' hlt => hsame b' hlt fun h => (hE'.live k _ b' hk rfl (by rw [hee]; exact h)).1 hb') (fun _ h _ => h) (fun _ _ => rfl) hxu)
          by_cases e' : k = j
          · subst e'
            rw [upd_same]
            exact .inr ⟨Ad, rs.length, cap, Av, rs.length + news.length, cv, by rw [hee, hek], hv', by omega⟩
          · rw [upd_ne _ _ e']; exact .inl rfl
        have hbel : Below w0.heap.size w w' := ⟨a2.os, a2.tape, a2.output, a2.size, fun b' hb' => hsame b' (Nat.lt_of_lt_of_le hb' R.below.size) fun h => by have := (hE.live k _ b' hk rfl h).2.1; omega⟩
        refine wp_val (v := v') (w' := w') ?_ (hK _ _ _ _ hs (R.slot _ hd _ _ k _ hbel (fun E' N' hE' hts' => ?_) (fun j hj => ?_) (fun j hj => ?_)))
        · simp only [execOp, ho, resolve, invoke, builtin, Sem.run_bind, Sem.run_pure, Result.andThen_ok, List.map_toArray, List.map_cons, List.map_nil, hxv, y1, hr]
        · obtain ⟨hxv', _⟩ := hhead E' N' hE' hts'
          have hee : E' k = E k := by rw [← hxv', hxv]
          refine ⟨v', fun b' hlt h => hsame b' hlt (by rw [← hee]; exact h _ hk rfl), fun _ _ => .inr ⟨Ad, rs.length, cap, Av, rs.length + news.length, cv, by rw [hee, hek], hv', by omega⟩, fun _ b' hb' => ?_, ?_, ?_⟩
          · rcases hblk b' hb' with h | rfl
            · obtain ⟨e1, e2, e3⟩ := hE'.live k _ b' hk rfl (by rw [hee]; exact h)
              exact ⟨e1, e2, Nat.lt_of_lt_of_le e3 a2.size, .inl ⟨_, hk, rfl, by rw [hee]; exact h⟩⟩
            · have hlt : w.heap.size < w'.heap.size := by
                have := a1.lt w.heap.size (by rw [hv'] at hb' ⊢; cases Av <;> first | (cases hb'; done) | exact hb')
                exact this.2
              exact ⟨fun h => Nat.lt_irrefl _ (hE'.nlt _ h), R.below.size, hlt, .inr (Nat.le_refl _)⟩
          · obtain ⟨xs', f1, f2, f3⟩ := hE'.con k _ hk
            have hxs : xs' = xs := by
              rw [hee] at f1
              rcases f1.2 with ⟨h, h'⟩ | ⟨g, cp, cur, h, _, h2, _, _, _, h6⟩
              · have e1 : xs'.length = 0 := by rw [f1.1, h', Nat.zero_mul]
                have e2 : xs.length = 0 := by rw [o1.1, h', Nat.zero_mul]
                rw [List.eq_nil_of_length_eq_zero e1, List.eq_nil_of_length_eq_zero e2]
              · rcases o1.2 with ⟨h', _⟩ | ⟨g', cp', cur', h', _, h2', _, _, _, h6'⟩
                · rw [h'] at h; cases h
                · rw [h'] at h
                  cases h
                  rw [h2] at h2'
                  cases h2'
                  rw [← h6, ← h6']
            subst hxs
            refine ⟨xs' ++ vals, by rw [List.length_append]; exact a1, fun i r hi => ?_, fun i j r x u hr hx hu => ?_⟩
            · rw [List.getElem?_append] at hi
              split at hi
              · exact f2 i r hi
              · exact hall1 r (List.mem_of_getElem? hi)
            · have hlx : xs'.length = rs.length * s' := f1.1
              rw [List.getElem?_append] at hr
              split at hr
              · rename_i hlt
                have hj : j < s' := by rw [← f2 i r hr]; exact (List.getElem?_eq_some_iff.1 hx).1
                rw [List.getElem?_append_left (by rw [hlx]; exact row_index hlt hj)] at hu
                exact hkeep E' N' hE' hee (f3 i j r x u hr hx hu)
              · rename_i hge
                have hj : j < s' := by rw [← hall1 r (List.mem_of_getElem? hr)]; exact (List.getElem?_eq_some_iff.1 hx).1
                have hmul : rs.length * s' + (i - rs.length) * s' = i * s' := by rw [← Nat.add_mul]; congr 1; omega
                rw [List.getElem?_append_right (by rw [hlx]; omega), hlx, show i * s' + j - rs.length * s' = (i - rs.length) * s' + j by omega] at hu
                have hlt : i - rs.length < news.length := (List.getElem?_eq_some_iff.1 hr).1
                rw [hvq _ (row_index hlt hj)] at hu
                obtain ⟨u', h1, h2⟩ := hvals E' N' hE' hts' _ j r x hr hx
                rw [h1] at hu
                cases hu
                exact hkeep E' N' hE' hee h2
          · exact ⟨⟨Av, cv, hv'⟩, Av, _, cv, by rw [upd_same]; exact hv', Nat.le_refl _, fun _ => hv'⟩
        · obtain ⟨r, hr, x, hx, hj⟩ := hj
          by_cases e' : k = j
          · subst e'; rw [upd_same]; simp
          · rw [upd_ne _ _ e']
            rcases List.mem_append.1 hr with h | h
            · exact hE.wf k _ j hk ⟨r, h, x, hx, hj⟩
            · exact y3 r h x hx j hj
        · have : k = j := hj
          subst this
          rw [upd_same]; simp
    · exact hs.elim
  · exact hs.elim
end
end Go.Proofs.YtpfhfokfambdaaaGreatDoor.Ev

/-! Calls. -/
namespace Go.Proofs.YtpfhfokfambdaaaGreatDoor.Ev
open Go.RowKit (Below)

/-- The blocks that may be read, with those of some slots. -/
def Nadd (N : Nat → Prop) (E : Nat → Value) (blk : Nat → Option Blk) (ks : List Nat) (b : Nat) : Prop :=
  N b ∨ ∃ k bl, k ∈ ks ∧ blk k = some bl ∧ bl.live = true ∧ blkOf (E k) = some b

section
variable {E : Nat → Value} {N : Nat → Prop} {w : World} {N0 : Base} {B : Nat} {blk : Nat → Option Blk}
theorem Nadd.mono {ks ks' : List Nat} (h : ∀ k ∈ ks, k ∈ ks') {b : Nat} (hb : Nadd N E blk ks b) : Nadd N E blk ks' b := by
  rcases hb with h1 | ⟨k, bl, h1, h2⟩
  · exact .inl h1
  · exact .inr ⟨k, bl, h k h1, h2⟩
theorem Rv.wide {N' : Nat → Prop} (h : ∀ b, N b → N' b) {d : D} {v : Value} (hr : Rv N w d v) : Rv N' w d v := Rv.mono (fun _ _ _ => rfl) (fun b hb _ => h b hb) hr
theorem pub0_rv {x : A} {d : D} {v : Value} (h : x.pub0 = some d) (hr : RvA E N w x v) : Rv N w d v := by
  unfold A.pub0 at h
  split at h
  · cases h; exact hr
  · cases h
    have : v = .slice none 0 0 := hr
    subst this
    exact .sliceE _ _
  · cases h
/-- A slot that is handed out reads as data. -/
theorem frz_rv (hE : Env N0 B w blk E N) {k : Nat} {bl fb : Blk} (hk : blk k = some bl) (hf : bl.frz = some fb) : RvB E (Nadd N E blk [k]) w B (E k) fb ∧ fb.live = false ∧ ∀ j, ¬ fb.men j := by
  have hc := hE.con k bl hk
  cases bl with
  | var cs =>
    simp only [Blk.frz, Option.map_eq_some_iff] at hf
    obtain ⟨ds, hds, rfl⟩ := hf
    obtain ⟨b, c, ty, h1, h2, h3, h4⟩ := hc
    obtain ⟨hl, hp⟩ := pubs_get hds
    refine ⟨?_, rfl, fun j h => h⟩
    show Rv _ w (.ref ds) (E k)
    rw [h1]
    refine Rv.mk_ref (.inr ⟨k, _, List.mem_singleton.2 rfl, hk, rfl, by rw [h1]; rfl⟩) (Array.getElem?_eq_some_iff.1 h2).1 fun i d hd => ?_
    have hlt : i < cs.length := by rw [hl]; exact (List.getElem?_eq_some_iff.1 hd).1
    have hx := List.getElem?_eq_getElem hlt
    obtain ⟨y, hy, hpy⟩ := hp i _ hx
    rw [hd] at hy
    cases hy
    have hc := Array.getElem?_eq_getElem (show i < c.size by omega)
    exact ⟨_, by rw [Nat.zero_add, cell_of_heap h2]; exact hc, Rv.wide (fun _ h => .inl h) (pub0_rv hpy (h4 i _ _ hx hc))⟩
  | row e s rs =>
    simp only [Blk.frz, Option.map_eq_some_iff] at hf
    obtain ⟨rows, hrows, rfl⟩ := hf
    obtain ⟨hl, hp⟩ := pubs_get hrows
    refine ⟨?_, rfl, fun j h => h⟩
    show Rv _ w (.slice rows) (E k)
    obtain ⟨xs, h1, h2, h3⟩ := hc
    rcases h1.2 with ⟨h, h'⟩ | ⟨g, cp, cur, h, g1, g2, g3, _⟩
    · have : rows = [] := List.eq_nil_of_length_eq_zero (by omega)
      subst this
      rw [h]
      exact .sliceE _ _
    · rw [h, hl]
      refine Rv.mk_slice (s := s) (.inr ⟨k, _, List.mem_singleton.2 rfl, hk, rfl, by rw [h]; rfl⟩) (Array.getElem?_eq_some_iff.1 g2).1 (by omega) (fun i r hi => ?_) (fun i j r d hi hj => ?_)
      · have hlt : i < rs.length := by rw [hl]; exact (List.getElem?_eq_some_iff.1 hi).1
        have hx := List.getElem?_eq_getElem hlt
        obtain ⟨y, hy, hpy⟩ := hp i _ hx
        rw [hi] at hy
        cases hy
        rw [← (pubs_get hpy).1]
        exact h2 i _ hx
      · have hlt : i < rs.length := by rw [hl]; exact (List.getElem?_eq_some_iff.1 hi).1
        have hx := List.getElem?_eq_getElem hlt
        obtain ⟨y, hy, hpy⟩ := hp i _ hx
        rw [hi] at hy
        cases hy
        obtain ⟨hl2, hp2⟩ := pubs_get hpy
        have hlt2 : j < (rs[i]).length := by rw [hl2]; exact (List.getElem?_eq_some_iff.1 hj).1
        have hx2 := List.getElem?_eq_getElem hlt2
        obtain ⟨y2, hy2, hpy2⟩ := hp2 j _ hx2
        rw [hj] at hy2
        cases hy2
        obtain ⟨u, hu1, hu2⟩ := row_cells hE hk h hx hx2
        exact ⟨u, by rw [Nat.zero_add]; exact hu1, Rv.wide (fun _ h => .inl h) (pub0_rv hpy2 hu2)⟩
  | fvar ds =>
    simp only [Blk.frz, Option.some.injEq] at hf
    subst hf
    exact ⟨Rv.wide (fun _ h => .inl h) hc, rfl, fun j h => h⟩
  | frow rs =>
    simp only [Blk.frz, Option.some.injEq] at hf
    subst hf
    exact ⟨Rv.wide (fun _ h => .inl h) hc, rfl, fun j h => h⟩
  | mp kvs => cases hf
  | iter k n seen => cases hf
  | gone => cases hf

theorem C.pub_rv (hE : Env N0 B w blk E N) {c : C} {d : D} {v : Value} (h : c.pub blk = some d) (hr : RvC E N w c v) : Rv (Nadd N E blk c.slots) w d v ∧ ∀ k ∈ c.slots, ∃ bl fb, blk k = some bl ∧ bl.frz = some fb := by
  cases c with
  | d x => simp only [C.pub, Option.some.injEq] at h; subst h; exact ⟨Rv.wide (fun _ h => .inl h) hr, fun k hk => by simp [C.slots] at hk⟩
  | loc k off =>
    simp only [C.pub] at h
    split at h
    · rename_i ds hds
      cases h
      rw [Option.bind_eq_some_iff] at hds
      obtain ⟨bl, hk, hf⟩ := hds
      obtain ⟨h1, _⟩ := frz_rv hE hk hf
      obtain ⟨b, e1, e2⟩ := hr
      obtain ⟨b', o, e3, e4, e5, e6⟩ := Rv.inv_ref h1
      rw [e1] at e3
      cases e3
      refine ⟨?_, fun j hj => by simp only [C.slots, List.mem_singleton] at hj; subst hj; exact ⟨bl, _, hk, hf⟩⟩
      rw [e2]
      refine Rv.mk_ref e4 e5 fun i d hd => ?_
      rw [List.getElem?_drop] at hd
      have := e6 _ d hd
      rwa [Nat.zero_add] at this
    · cases h

theorem A.pub_rv (hE : Env N0 B w blk E N) {x : A} {d : D} {v : Value} (h : x.pub blk = some d) (hr : RvA E N w x v) : Rv (Nadd N E blk x.slots) w d v ∧ ∀ k ∈ x.slots, ∃ bl fb, blk k = some bl ∧ bl.frz = some fb := by
  cases x with
  | d x => simp only [A.pub, Option.some.injEq] at h; subst h; exact ⟨Rv.wide (fun _ h => .inl h) hr, fun k hk => by simp [A.slots] at hk⟩
  | nils =>
    simp only [A.pub, Option.some.injEq] at h
    subst h
    have : v = .slice none 0 0 := hr
    subst this
    exact ⟨.sliceE _ _, fun k hk => by simp [A.slots] at hk⟩
  | loc k off =>
    simp only [A.pub] at h
    split at h
    · rename_i ds hds
      cases h
      rw [Option.bind_eq_some_iff] at hds
      obtain ⟨bl, hk, hf⟩ := hds
      obtain ⟨h1, _⟩ := frz_rv hE hk hf
      obtain ⟨b, e1, e2⟩ := hr
      obtain ⟨b', o, e3, e4, e5, e6⟩ := Rv.inv_ref h1
      rw [e1] at e3
      cases e3
      refine ⟨?_, fun j hj => by simp only [A.slots, List.mem_singleton] at hj; subst hj; exact ⟨bl, _, hk, hf⟩⟩
      rw [e2]
      refine Rv.mk_ref e4 e5 fun i d hd => ?_
      rw [List.getElem?_drop] at hd
      have := e6 _ d hd
      rwa [Nat.zero_add] at this
    · cases h
  | row k n =>
    simp only [A.pub] at h
    split at h
    · rename_i rs hds
      split at h
      · rename_i hn
        cases h
        rw [Option.bind_eq_some_iff] at hds
        obtain ⟨bl, hk, hf⟩ := hds
        obtain ⟨h1, _⟩ := frz_rv hE hk hf
        refine ⟨?_, fun j hj => by simp only [A.slots, List.mem_singleton] at hj; subst hj; exact ⟨bl, _, hk, hf⟩⟩
        obtain ⟨_, Ad, m, c, e1, e2, e3⟩ := hr
        obtain ⟨Ad', cap, e4, _⟩ := Rv.inv_slice h1
        have e5 := e4
        rw [e1] at e5
        cases e5
        rw [e3 hn, ← e1]
        exact h1
      · cases h
    · cases h
  | rloc k n s i o =>
    simp only [A.pub] at h
    split at h
    · rename_i rs hds
      split at h
      · rename_i hn
        rw [Option.bind_eq_some_iff] at h
        obtain ⟨r, hr', h⟩ := h
        split at h
        · rename_i hs
          cases h
          rw [Option.bind_eq_some_iff] at hds
          obtain ⟨bl, hk, hf⟩ := hds
          obtain ⟨h1, _⟩ := frz_rv hE hk hf
          refine ⟨?_, fun j hj => by simp only [A.slots, List.mem_singleton] at hj; subst hj; exact ⟨bl, _, hk, hf⟩⟩
          obtain ⟨_, Ad, m, c, e1, e2, e3⟩ := hr
          obtain ⟨Ad', cap, e4, e5⟩ := Rv.inv_slice h1
          rw [e1] at e4
          cases e4
          obtain ⟨b, e6, e7⟩ := e3 hn
          obtain ⟨_, b', o', s', e8, e9, e10, e11, e12⟩ := e5 (by rintro rfl; simp at hr')
          rw [e6] at e8
          cases e8
          have : s' = s := (e11 i r hr').symm.trans hs
          subst this
          rw [e7]
          refine Rv.mk_ref e9 e10 fun j d hd => ?_
          rw [List.getElem?_drop] at hd
          have := e12 i _ r d hr' hd
          rwa [Nat.zero_add, ← Nat.add_assoc] at this
        · cases h
      · cases h
    · cases h
  | fn f cs =>
    simp only [A.pub, Option.map_eq_some_iff] at h
    obtain ⟨ds, hds, rfl⟩ := h
    obtain ⟨hl, hp⟩ := pubs_get hds
    obtain ⟨vs, e1, e2, e3⟩ := hr
    have key : ∀ (i : Nat) (c : C) (u : Value), cs[i]? = some c → vs[i]? = some u → ∃ d, ds[i]? = some d ∧ Rv (Nadd N E blk c.slots) w d u ∧ ∀ k ∈ c.slots, ∃ bl fb, blk k = some bl ∧ bl.frz = some fb := by
      intro i c u hc hu
      obtain ⟨y, hy, hpy⟩ := hp i c hc
      exact ⟨y, hy, C.pub_rv hE hpy (e3 i c u hc hu)⟩
    refine ⟨?_, fun k hk => ?_⟩
    · rw [e1]
      refine .fn f ds vs (by omega) fun i d u hd hu => ?_
      have hlt : i < cs.length := by rw [hl]; exact (List.getElem?_eq_some_iff.1 hd).1
      have hc := List.getElem?_eq_getElem hlt
      obtain ⟨d', hd', h1, _⟩ := key i _ u hc hu
      rw [hd] at hd'
      cases hd'
      exact Rv.wide (fun b hb => Nadd.mono (fun k hk => List.mem_flatMap.2 ⟨_, List.mem_of_getElem? hc, hk⟩) hb) h1
    · obtain ⟨c, hc, hk⟩ := List.mem_flatMap.1 hk
      obtain ⟨i, hi⟩ := List.mem_iff_getElem?.1 hc
      have hlt : i < vs.length := by rw [e2]; exact (List.getElem?_eq_some_iff.1 hi).1
      obtain ⟨_, _, _, h2⟩ := key i c _ hi (List.getElem?_eq_getElem hlt)
      exact h2 k hk
  | map k => simp [A.pub] at h
  | bnd f k off => simp [A.pub] at h
  | any => simp [A.pub] at h

theorem L.pub_rv (hE : Env N0 B w blk E N) {l : L} {d : D} {v : Value} (h : l.pub blk = some d) (hr : RvL E N w l v) : Rv (Nadd N E blk l.slots) w d v ∧ ∀ k ∈ l.slots, ∃ bl fb, blk k = some bl ∧ bl.frz = some fb := by
  cases l with
  | «at» x => exact A.pub_rv hE h hr
  | agg cs =>
    simp only [L.pub, Option.map_eq_some_iff] at h
    obtain ⟨ds, hds, rfl⟩ := h
    obtain ⟨hl, hp⟩ := pubs_get hds
    obtain ⟨vs, e1, e2, e3⟩ := hr
    have key : ∀ (i : Nat) (c : A) (u : Value), cs[i]? = some c → vs[i]? = some u → ∃ d, ds[i]? = some d ∧ Rv (Nadd N E blk c.slots) w d u ∧ ∀ k ∈ c.slots, ∃ bl fb, blk k = some bl ∧ bl.frz = some fb := by
      intro i c u hc hu
      obtain ⟨y, hy, hpy⟩ := hp i c hc
      exact ⟨y, hy, A.pub_rv hE hpy (e3 i c u hc hu)⟩
    refine ⟨?_, fun k hk => ?_⟩
    · rw [e1]
      refine .agg ds vs (by omega) fun i d u hd hu => ?_
      have hlt : i < cs.length := by rw [hl]; exact (List.getElem?_eq_some_iff.1 hd).1
      have hc := List.getElem?_eq_getElem hlt
      obtain ⟨d', hd', h1, _⟩ := key i _ u hc hu
      rw [hd] at hd'
      cases hd'
      exact Rv.wide (fun b hb => Nadd.mono (fun k hk => List.mem_flatMap.2 ⟨_, List.mem_of_getElem? hc, hk⟩) hb) h1
    · obtain ⟨c, hc, hk⟩ := List.mem_flatMap.1 hk
      obtain ⟨i, hi⟩ := List.mem_iff_getElem?.1 hc
      have hlt : i < vs.length := by rw [e2]; exact (List.getElem?_eq_some_iff.1 hi).1
      obtain ⟨_, _, _, h2⟩ := key i c _ hi (List.getElem?_eq_getElem hlt)
      exact h2 k hk
  | tup ms => cases h

theorem Rv.plain {N' : Nat → Prop} {w' : World} {d : D} {v : Value} (hp : d.plain = true) (h : Rv N w d v) : Rv N' w' d v := by
  cases h with
  | int k n => exact .int k n
  | bool b => exact .bool b
  | str s => exact .str s
  | nilp => exact .nilp
  | nilf => exact .nilf
  | nili => exact .nili
  | ifc t v => exact .ifc t v
  | _ => simp [D.plain] at hp
theorem Rv.flat {N' : Nat → Prop} {w' : World} {d : D} {v : Value} (hp : d.flat = true) (h : Rv N w d v) : Rv N' w' d v := by
  cases h with
  | agg cells vs h1 h2 =>
    have hp : cells.all D.plain = true := hp
    exact .agg cells vs h1 fun i d u hd hu => Rv.plain (List.all_eq_true.1 hp d (List.mem_of_getElem? hd)) (h2 i d u hd hu)
  | tup cells vs h1 h2 =>
    have hp : cells.all D.plain = true := hp
    exact .tup cells vs h1 fun i d u hd hu => Rv.plain (List.all_eq_true.1 hp d (List.mem_of_getElem? hd)) (h2 i d u hd hu)
  | int k n => exact .int k n
  | bool b => exact .bool b
  | str s => exact .str s
  | nilp => exact .nilp
  | nilf => exact .nilf
  | nili => exact .nili
  | ifc t v => exact .ifc t v
  | _ => simp [D.flat, D.plain] at hp

theorem look_frz (m : List (Nat × Blk)) (k : Nat) : ∀ ks : List Nat, look (frz blk ks ++ m) k = match (if k ∈ ks then (blk k).bind Blk.frz else none) with
    | some b => some b
    | none => look m k
  | [] => by simp [frz]
  | j :: ks => by
    have ih := look_frz m k ks
    simp only [frz]
    by_cases e : j = k
    · subst e
      cases hb : (blk j).bind Blk.frz with
      | some b => simp [look]
      | none =>
        simp only [hb] at ih ⊢
        rw [ih]
        simp
    · have e' : ¬ k = j := fun h => e h.symm
      cases hb : (blk j).bind Blk.frz with
      | some b => simp [look, e, e', ih]
      | none => simp [e', ih]

/-- Some slots are handed out. -/
theorem Env.freeze {m : List (Nat × Blk)} (hm : ∀ k, look m k = blk k) (hE : Env N0 B w blk E N) (ks : List Nat) (hf : ∀ k ∈ ks, ∃ bl fb, blk k = some bl ∧ bl.frz = some fb) :
    Env N0 B w (fun k => look (frz blk ks ++ m) k) E (Nadd N E blk ks) := by
  have hin : ∀ k ∈ ks, ∃ bl fb, blk k = some bl ∧ bl.frz = some fb ∧ look (frz blk ks ++ m) k = some fb := by
    intro k hk
    obtain ⟨bl, fb, h1, h2⟩ := hf k hk
    refine ⟨bl, fb, h1, h2, ?_⟩
    rw [look_frz, if_pos hk, h1]
    simp [h2]
  have hout : ∀ k, k ∉ ks → look (frz blk ks ++ m) k = blk k := by
    intro k hk
    rw [look_frz, if_neg hk]
    exact hm k
  have hdom : ∀ k, blk k ≠ none → look (frz blk ks ++ m) k ≠ none := by
    intro k hk
    by_cases h : k ∈ ks
    · obtain ⟨_, _, _, _, h1⟩ := hin k h
      rw [h1]; simp
    · rw [hout k h]; exact hk
  have hlive : ∀ k bl, look (frz blk ks ++ m) k = some bl → bl.live = true → k ∉ ks ∧ blk k = some bl := by
    intro k bl h1 h2
    by_cases h : k ∈ ks
    · obtain ⟨bl0, fb, e1, e2, e3⟩ := hin k h
      rw [h1] at e3
      cases e3
      rw [(frz_rv hE e1 e2).2.1] at h2
      cases h2
    · exact ⟨h, by rw [← hout k h]; exact h1⟩
  refine ⟨?_, ?_, ?_, ?_, ?_, ?_, fun l v h1 => RvL.mono (fun _ _ _ => rfl) (fun b hb _ => .inl hb) (fun _ _ => rfl) (hE.gh l v h1), fun k hk => hdom k (hE.fx k hk), fun b hb => ?_⟩
  · rintro b (h | ⟨k, bl, h1, h2, h3, h4⟩)
    · exact hE.nlt b h
    · exact (hE.live k bl b h2 h3 h4).2.2
  · rintro b (h | ⟨k, bl, h1, h2, h3, h4⟩)
    · exact hE.nsub b h
    · exact .inr (hE.live k bl b h2 h3 h4).2.1
  · intro k bl b h1 h2 h3
    obtain ⟨h4, h5⟩ := hlive k bl h1 h2
    obtain ⟨g1, g2⟩ := hE.live k bl b h5 h2 h3
    refine ⟨?_, g2⟩
    rintro (h | ⟨k', bl', a1, a2, a3, a4⟩)
    · exact g1 h
    · exact hE.dis k k' bl bl' b h5 a2 h2 a3 (fun e => h4 (e ▸ a1)) h3 a4
  · intro k k' bl bl' b h1 h2 h3 h4 hne
    exact hE.dis k k' bl bl' b (hlive k bl h1 h3).2 (hlive k' bl' h2 h4).2 h3 h4 hne
  · intro k bl h1
    by_cases h : k ∈ ks
    · obtain ⟨bl0, fb, e1, e2, e3⟩ := hin k h
      rw [h1] at e3
      cases e3
      exact RvB.mono (fun _ _ _ => rfl) (fun b hb _ => Nadd.mono (fun j hj => by simp at hj; subst hj; exact h) hb) (fun _ _ => rfl) (fun _ _ _ => rfl) (frz_rv hE e1 e2).1
    · rw [hout k h] at h1
      exact RvB.mono (fun _ _ _ => rfl) (fun b hb _ => .inl hb) (fun _ _ => rfl) (fun _ _ _ => rfl) (hE.con k bl h1)
  · intro k bl j h1 h2
    by_cases h : k ∈ ks
    · obtain ⟨bl0, fb, e1, e2, e3⟩ := hin k h
      rw [h1] at e3
      cases e3
      exact absurd h2 ((frz_rv hE e1 e2).2.2 j)
    · rw [hout k h] at h1
      exact hdom j (hE.wf k bl j h1 h2)
  · obtain ⟨a1, a2, a3, a4⟩ := hE.fo b hb
    refine ⟨a1, ?_, a3, fun k bl h1 h2 => a4 k bl (hlive k bl h1 h2).2 h2⟩
    rintro (h | ⟨k, bl, h1, h2, h3, h4⟩)
    · exact a2 h
    · exact a4 k bl h2 h3 h4
end

section
variable {G : World → Prop} {P : Program} {o : Oper} {w : World} {G : World → Prop} {N0 : Base} {w0 : World} {nt : Nat} {st : St} {a : Act} {next : Act → World → Prop} {Q : Exit → Act → World → Prop} {K : L → List (Nat × Blk) → Prop}

theorem run_callFunc {f : FuncId} (h : Callable P f) (args : Array Value) (w : World) : (callFunc f args).run P w = .ok (.enter f args) w := by
  obtain ⟨fn, h1, h2, h3⟩ := h
  cases hb : fn.body with
  | none => rw [hb] at h2; cases h2
  | some c =>
    have h4 : fn.name ≠ "runtime.NumGoroutine" := by simpa using h3
    simp [callFunc, h1, h4, hb]

/-- A call, its arguments handed out. -/
theorem wp_call (R : Rel G N0 w0 nt st a w) (hd : ∀ d, o.dst = some d → d < nt) {f : FuncId} {ds : List D} {r : D} (hsat : Sat G P f ds r) {vs : List Value} (hrun : (execOp a.eval o).run P w = .ok (.enter f vs.toArray) w)
    {ks : List Nat} (hargs : ∀ E N, Env N0 w0.heap.size w st.blk E N → (∀ i, RvL E N w (st.get i) (a.tmps.getD i undef)) → vs.length = ds.length ∧ (∀ (i : Nat) (d : D) (v : Value), ds[i]? = some d → vs[i]? = some v → Rv (Nadd N E st.blk ks) w d v) ∧
      ∀ k ∈ ks, ∃ bl fb, st.blk k = some bl ∧ bl.frz = some fb)
    (hK : ∀ a' w', Rel G N0 w0 nt (st.write o.dst (.at (.d r)) (if r.flat then [] else frz st.blk ks)) a' w' → next a' w') : o.wp P a w next Q := by
  obtain ⟨E, N, hE, hts⟩ := R.env
  obtain ⟨h1, h2, h3⟩ := hargs E N hE hts
  have hEf := hE.freeze (m := st.m) (fun _ => rfl) ks h3
  unfold Oper.wp
  rw [hrun, Oper.upon_enter]
  refine (hsat.2 (Nadd N E st.blk ks) w vs h1 h2 hEf.nlt (R.stab _ _ R.good R.below)).mono ?_
  rintro e w' ⟨v, rfl, hb, hr⟩
  simp only
  refine hK _ _ ?_
  by_cases hfl : r.flat = true
  · rw [if_pos hfl]
    exact R.fresh _ hd hb r v fun N' _ => Rv.flat hfl hr
  · rw [if_neg hfl]
    have hE' := hEf.ext hb.block hb.size
    have hE'' := hE'.more (N' := fun b => Nadd N E st.blk ks b ∨ (w.heap.size ≤ b ∧ b < w'.heap.size)) (fun b h => .inl h) (fun b h hn => by
      rcases h with h | ⟨g1, g2⟩
      · exact absurd h hn
      · exact ⟨.inr (Nat.le_trans R.below.size g1), g2, fun k bl h3 h4 h5 => by have := (hEf.live k bl b h3 h4 h5).2.2; omega⟩) (fun b h hn hf => by
      rcases h with h | ⟨g1, g2⟩
      · exact hn h
      · have := (hE.fo b hf).1; omega)
    refine ⟨R.good, R.stab, R.below.trans (hb.mono R.below.size), ?_, ?_, ⟨E, _, hE'', fun i => ?_⟩, fun i k hk => ?_⟩
    · cases o.dst <;> exact R.defers
    · cases o.dst
      · exact R.size
      · simp [Act.put, R.size]
    · rw [get_write, getD_put _ _ _ _ (fun d h => by rw [R.size]; exact hd d h)]
      split
      · refine Rv.mono (w := w') (fun _ _ _ => rfl) (fun b h hlt => ?_) hr
        rcases h with h | h
        · exact .inl h
        · exact .inr ⟨h, hlt⟩
      · exact RvL.mono (fun b _ hlt => hb.block b hlt) (fun b h _ => .inl (.inl h)) (fun _ _ => rfl) (hts i)
    · rw [get_write] at hk
      split at hk
      · exact hk.elim
      · have := R.twf i k hk
        show look (frz st.blk ks ++ st.m) k ≠ none
        rw [look_frz]
        split
        · simp
        · exact this

theorem pub_args {E : Nat → Value} {N : Nat → Prop} (hE : Env N0 w0.heap.size w st.blk E N) (hts : ∀ i, RvL E N w (st.get i) (a.tmps.getD i undef)) {os : List Operand} {xs : List X} {ds : List D} (hx : chkXs os xs = true)
    (hp : pubs (fun x => (st.ev x).pub st.blk) xs = some ds) : (os.map a.eval).length = ds.length ∧
      (∀ (i : Nat) (d : D) (v : Value), ds[i]? = some d → (os.map a.eval)[i]? = some v → Rv (Nadd N E st.blk (xs.flatMap fun x => (st.ev x).slots)) w d v) ∧
      ∀ k ∈ xs.flatMap (fun x => (st.ev x).slots), ∃ bl fb, st.blk k = some bl ∧ bl.frz = some fb := by
  obtain ⟨hl1, hc⟩ := chkXs_get hx
  obtain ⟨hl2, hp⟩ := pubs_get hp
  have key : ∀ (i : Nat) (x : X), xs[i]? = some x → ∃ op d, os[i]? = some op ∧ ds[i]? = some d ∧ Rv (Nadd N E st.blk (st.ev x).slots) w d (a.eval op) ∧ ∀ k ∈ (st.ev x).slots, ∃ bl fb, st.blk k = some bl ∧ bl.frz = some fb := by
    intro i x hxi
    have hlt : i < os.length := by rw [hl1]; exact (List.getElem?_eq_some_iff.1 hxi).1
    have ho := List.getElem?_eq_getElem hlt
    obtain ⟨d, hd, hpd⟩ := hp i x hxi
    exact ⟨_, d, ho, hd, L.pub_rv hE hpd (chkX_rv hts (hc i _ x ho hxi))⟩
  refine ⟨by rw [List.length_map]; omega, fun i d v hd hv => ?_, fun k hk => ?_⟩
  · have hlt : i < xs.length := by rw [hl2]; exact (List.getElem?_eq_some_iff.1 hd).1
    have hxi := List.getElem?_eq_getElem hlt
    obtain ⟨op, d', h1, h2, h3, _⟩ := key i _ hxi
    rw [hd] at h2
    cases h2
    rw [List.getElem?_map, h1] at hv
    cases hv
    exact Rv.wide (fun b hb => Nadd.mono (fun k hk => List.mem_flatMap.2 ⟨_, List.mem_of_getElem? hxi, hk⟩) hb) h3
  · obtain ⟨x, hx', hk⟩ := List.mem_flatMap.1 hk
    obtain ⟨i, hi⟩ := List.mem_iff_getElem?.1 hx'
    obtain ⟨_, _, _, _, _, h4⟩ := key i x hi
    exact h4 k hk

theorem owes_call {f : FuncId} {os : Array Operand} {ts : Array TypeId} {xs : List X} (ho : o.op = .call { callee := .value (.func f), args := os, argTypes := ts }) (hx : chkXs os.toList xs = true) : Owes G P o (.call f xs) := by
  intro N0 w0 nt st a w next Q K R hd hs hK
  simp only [dsem] at hs
  split at hs
  · rename_i ds hds
    obtain ⟨r, hsat, hs⟩ := hs
    refine wp_call (vs := os.toList.map a.eval) R hd hsat ?_ (fun E N hE hts => pub_args hE hts hx hds) fun a' w' hr => hK _ _ _ _ hs hr
    have : os.map a.eval = (os.toList.map a.eval).toArray := by apply Array.ext'; simp
    simp only [execOp, ho, resolve, Act.eval, Deferred.ofValue, Sem.run_bind, Sem.run_pure, Result.andThen_ok, invoke]
    rw [show (#[] ++ Array.map a.eval os ++ #[] : Array Value) = (os.toList.map a.eval).toArray by rw [this]; simp]
    exact run_callFunc hsat.1 _ _
  · exact hs.elim

theorem owes_callv {g : Operand} {os : Array Operand} {ts : Array TypeId} {g' : X} {xs : List X} (ho : o.op = .call { callee := .value g, args := os, argTypes := ts }) (hg : chkX g g' = true) (hx : chkXs os.toList xs = true) : Owes G P o (.callv g' xs) := by
  intro N0 w0 nt st a w next Q K R hd hs hK
  simp only [dsem] at hs
  split at hs
  · rename_i f caps hf
    split at hs
    · rename_i ds hds
      obtain ⟨r, hsat, hs⟩ := hs
      have hgv : ∀ E N, Env N0 w0.heap.size w st.blk E N → (∀ i, RvL E N w (st.get i) (a.tmps.getD i undef)) → Rv (Nadd N E st.blk (st.ev g').slots) w (.fn f caps) (a.eval g) ∧ ∀ k ∈ (st.ev g').slots, ∃ bl fb, st.blk k = some bl ∧ bl.frz = some fb :=
        fun E N hE hts => L.pub_rv hE hf (chkX_rv hts hg)
      obtain ⟨E, N, hE, hts⟩ := R.env
      obtain ⟨vs, e1, e2, _⟩ := Rv.inv_fn (hgv E N hE hts).1
      refine wp_call (vs := os.toList.map a.eval ++ vs) (ks := (st.ev g').slots ++ xs.flatMap fun x => (st.ev x).slots) R hd hsat ?_ (fun E' N' hE' hts' => ?_) fun a' w' hr => hK _ _ _ _ hs hr
      · have : os.map a.eval = (os.toList.map a.eval).toArray := by apply Array.ext'; simp
        simp only [execOp, ho, resolve, e1, Deferred.ofValue, Sem.run_bind, Sem.run_pure, Result.andThen_ok, invoke]
        rw [show (#[] ++ Array.map a.eval os ++ vs.toArray : Array Value) = (os.toList.map a.eval ++ vs).toArray by rw [this]; simp]
        exact run_callFunc hsat.1 _ _
      · obtain ⟨p1, p2, p3⟩ := pub_args hE' hts' hx hds
        obtain ⟨q1, q2⟩ := hgv E' N' hE' hts'
        obtain ⟨vs', e1', e2', e3'⟩ := Rv.inv_fn q1
        rw [e1] at e1'
        have : vs' = vs := by injection e1' with _ _ e; exact (List.toArray_inj e).symm
        subst this
        refine ⟨by rw [List.length_append, List.length_append]; omega, fun i d v hd hv => ?_, fun k hk => ?_⟩
        · rw [List.getElem?_append] at hd hv
          split at hd
          · rename_i hlt
            rw [if_pos (by omega)] at hv
            exact Rv.wide (fun b hb => Nadd.mono (fun k hk => List.mem_append_right _ hk) hb) (p2 i d v hd hv)
          · rename_i hge
            rw [if_neg (by omega), p1] at hv
            exact Rv.wide (fun b hb => Nadd.mono (fun k hk => List.mem_append_left _ hk) hb) (e3' _ d v hd hv)
        · rcases List.mem_append.1 hk with hk | hk
          · exact q2 k hk
          · exact p3 k hk
    · exact hs.elim
  · exact hs.elim
theorem owes_slcA {t e : TypeId} {n s : Nat} {x : Operand} {x' : X} (ho : o.op = .slice t x none none none) (hu : P.underlying t = some (.array n e)) (hsz : tySize P e s = true) (hx : chkX x x' = true) : Owes G P o (.slcA n s x') := by
  intro N0 w0 nt st a w next Q K R hd hs hK
  simp only [dsem] at hs
  split at hs
  · rename_i k he
    split at hs
    · rename_i cs hk
      split at hs
      · rename_i ds hds
        obtain ⟨hlen, hs⟩ := hs
        have hfrz : (Blk.var cs).frz = some (.fvar ds) := by simp [Blk.frz, hds]
        obtain ⟨E, N, hE, hts⟩ := R.env
        have hv := chkX_rv hts hx
        rw [he] at hv
        obtain ⟨b, e1, e2⟩ := hv
        have hEf := hE.freeze (blk := st.blk) (m := st.m) (fun _ => rfl) [k] (fun j hj => by simp at hj; subst hj; exact ⟨_, _, hk, hfrz⟩)
        have hfz : frz st.blk [k] = [(k, .fvar ds)] := by simp [frz, hk, hfrz]
        have href := (frz_rv hE hk hfrz).1
        refine wp_val (v := .slice (some ⟨b, 0, none⟩) n n) (w' := w) ?_ (hK _ _ _ _ hs ⟨R.good, R.stab, R.below, ?_, ?_, ⟨E, Nadd N E st.blk [k], ?_, fun i => ?_⟩, fun i j hj => ?_⟩)
        · have hadd : (⟨b, 0, none⟩ : Addr).add (0 * s) = ⟨b, 0, none⟩ := by rw [Nat.zero_mul]; rfl
          simp only [execOp, ho, e2, Instr.sliceAt, Sem.run_bind, run_underlying hu, Result.andThen_ok, Instr.sureAddr, Sem.run_pure, Option.map_none, Instr.sliceBounds, run_sizeOf hsz, hadd, ite_self, Nat.sub_zero]
        · cases o.dst <;> exact R.defers
        · cases o.dst
          · exact R.size
          · simp [Act.put, R.size]
        · rw [hfz] at hEf
          exact hEf
        · rw [get_write, getD_put _ _ _ _ (fun d h => by rw [R.size]; exact hd d h)]
          split
          · obtain ⟨b', o', f1, f2, f3, f4⟩ := Rv.inv_ref href
            rw [e1] at f1
            cases f1
            have hrow : ∀ (i : Nat) (r : List D), ((List.range n).map fun i => (ds.drop (i * s)).take s)[i]? = some r → i < n ∧ r = (ds.drop (i * s)).take s := by
              intro i r h
              rw [List.getElem?_map, Option.map_eq_some_iff] at h
              obtain ⟨j, h1, h2⟩ := h
              have hlt : i < n := by have := (List.getElem?_eq_some_iff.1 h1).1; simpa using this
              rw [List.getElem?_range hlt] at h1
              cases h1
              exact ⟨hlt, h2.symm⟩
            have := Rv.mk_slice (N := Nadd N E st.blk [k]) (w := w) (rows := (List.range n).map fun i => (ds.drop (i * s)).take s) (b := b) (o := 0) (s := s) (cap := n) f2 f3 (by simp) (fun i r hi => by
              obtain ⟨hlt, rfl⟩ := hrow i r hi
              have h1 : (i + 1) * s ≤ n * s := Nat.mul_le_mul_right _ hlt
              rw [Nat.add_mul, Nat.one_mul] at h1
              rw [List.length_take, List.length_drop]
              omega) (fun i j r d hi hj => by
              obtain ⟨hlt, rfl⟩ := hrow i r hi
              rw [List.getElem?_take] at hj
              split at hj
              · rw [List.getElem?_drop] at hj
                exact f4 _ d hj
              · cases hj)
            rw [List.length_map, List.length_range] at this
            exact this
          · exact RvL.mono (fun _ _ _ => rfl) (fun b h _ => .inl h) (fun _ _ => rfl) (hts i)
        · rw [get_write] at hj
          split at hj
          · exact hj.elim
          · have := R.twf i j hj
            show look ([(k, Blk.fvar ds)] ++ st.m) j ≠ none
            simp only [List.cons_append, List.nil_append, look]
            split
            · simp
            · exact this
      · exact hs.elim
    · exact hs.elim
  · exact hs.elim
theorem owes_isNilS {op : BinOp} {neg : Bool} {t t' : TypeId} {x : Operand} {x' : X} (ho : o.op = .binOp op t x (.const (.slice none 0 0)) t') (hop : op = if neg then .neq else .eql) {e : TypeId} (hu : P.underlying t = some (.slice e)) (hx : chkX x x' = true) : Owes G P o (.isNilS neg x') := by
  intro N0 w0 nt st a w next Q K R hd hs hK
  have hr : ∀ Ad n c, a.eval x = .slice Ad n c → (execOp a.eval o).run P w = .ok (.value (.bool (Ad.isNone != neg))) w := by
    intro Ad n c he
    have h1 : (Op.equal t (.slice Ad n c) (.slice none 0 0)).run P w = .ok Ad.isNone w := by
      show (Op.equalIn (9999 + 1) t _ _).run P w = _
      generalize 9999 = d
      cases Ad <;> simp [Op.equalIn, run_underlying hu]
    have h2 : a.eval (.const (.slice none 0 0)) = .slice none 0 0 := rfl
    cases neg <;> simp only [Bool.false_eq_true, if_false, if_true] at hop <;> subst hop <;> simp [execOp, ho, he, h2, eqGuard, binOp, h1]
  simp only [dsem] at hs
  obtain ⟨E, N, hE, hts⟩ := R.env
  have hv := chkX_rv (E := E) (N := N) (w := w) (st := st) (a := a) hts hx
  split at hs
  · rename_i he
    rw [he] at hv
    exact wp_val (hr _ _ _ hv) (hK _ _ _ _ hs (R.data _ hd _ _ fun N => .bool _))
  · rename_i rows he
    rw [he] at hv
    obtain ⟨Ad, cap, h1, h2⟩ := Rv.inv_slice hv
    cases Ad with
    | some ad => exact wp_val (hr _ _ _ h1) (hK _ _ _ _ hs.2 (R.data _ hd _ _ fun N => .bool _))
    | none =>
      have hnil : rows = [] := by
        by_cases h : rows = []
        · exact h
        · obtain ⟨_, b, o', s, h3, _⟩ := h2 h
          cases h3
      exact wp_val (hr _ _ _ h1) (hK _ _ _ _ (hs.1 hnil) (R.data _ hd _ _ fun N => .bool _))
  · exact hs.elim
end
end Go.Proofs.YtpfhfokfambdaaaGreatDoor.Ev

/-! Calls that share memory with the caller. -/
namespace Go.Proofs.YtpfhfokfambdaaaGreatDoor.Ev
open Go.RowKit (Below)

theorem look_grab (blk : Nat → Option Blk) (k : Nat) : ∀ ks : List Nat, look (grab blk ks) k = if k ∈ ks then blk k else none
  | [] => rfl
  | j :: r => by
    have ih := look_grab blk k r
    simp only [grab]
    by_cases e : j = k
    · subst e
      cases h : blk j with
      | some x => simp [look]
      | none => simp only [h] at ih ⊢; rw [ih]; simp
    · have e' : ¬ k = j := fun h => e h.symm
      cases h : blk j with
      | some x => simp [look, e, e', ih]
      | none => simp [e', ih]
theorem grab_keys {blk : Nat → Option Blk} : ∀ {ks : List Nat}, (∀ k ∈ ks, (blk k).isSome = true) → (grab blk ks).map (·.1) = ks
  | [], _ => rfl
  | j :: r, h => by
    have h1 := h j List.mem_cons_self
    rw [Option.isSome_iff_exists] at h1
    obtain ⟨b, hb⟩ := h1
    simp only [grab, hb, List.map_cons]
    rw [grab_keys fun k hk => h k (List.mem_cons_of_mem _ hk)]
theorem look_isSome {α : Type} : ∀ {m : List (Nat × α)} {k : Nat} {x : α}, look m k = some x → (k, x) ∈ m
  | [], k, x, h => by simp [look] at h
  | (j, y) :: r, k, x, h => by
    simp only [look] at h
    split at h
    · rename_i e; cases h; subst e; exact List.mem_cons_self
    · exact List.mem_cons_of_mem _ (look_isSome h)
theorem look_app {α : Type} (m : List (Nat × α)) (k : Nat) : ∀ us : List (Nat × α), look (us ++ m) k = match look us k with
    | some b => some b
    | none => look m k
  | [] => rfl
  | (j, y) :: r => by
    simp only [List.cons_append, look]
    split
    · rfl
    · exact look_app m k r

section
variable {G : World → Prop} {P : Program} {o : Oper} {w : World} {N0 : Base} {w0 : World} {nt : Nat} {st : St} {a : Act} {next : Act → World → Prop} {Q : Exit → Act → World → Prop} {K : L → List (Nat × Blk) → Prop}

/-- A call with shared memory. -/
theorem wp_callS (R : Rel G N0 w0 nt st a w) (hd : ∀ d, o.dst = some d → d < nt) {f : FuncId} {args : List L} {ks ns : List Nat} {l : L} {us : List (Nat × Blk)} (hsat : SatS G P f args (grab st.blk ks) l us)
    {vs : List Value} (hrun : (execOp a.eval o).run P w = .ok (.enter f vs.toArray) w)
    (hks : ∀ k ∈ ks, (st.blk k).isSome = true) (hns : ∀ k ∈ ns, st.blk k = none) (hshut : shut (grab st.blk ks) = true) (hus : ∀ p ∈ us, p.1 ∈ ks ∨ p.1 ∈ ns)
    (hargs : ∀ E N, Env N0 w0.heap.size w st.blk E N → (∀ i, RvL E N w (st.get i) (a.tmps.getD i undef)) → vs.length = args.length ∧ ∀ (i : Nat) (x : L) (v : Value), args[i]? = some x → vs[i]? = some v → RvL E N w x v ∧ ∀ k, x.men k → k ∈ ks)
    (hK : ∀ a' w', Rel G N0 w0 nt (st.write o.dst l us) a' w' → next a' w') : o.wp P a w next Q := by
  obtain ⟨E, N, hE, hts⟩ := R.env
  obtain ⟨h1, h2⟩ := hargs E N hE hts
  have hlk : ∀ k, look (grab st.blk ks) k = if k ∈ ks then st.blk k else none := fun k => look_grab st.blk k ks
  have hin : ∀ k bl, look (grab st.blk ks) k = some bl → k ∈ ks ∧ st.blk k = some bl := by
    intro k bl h
    rw [hlk] at h
    split at h
    · rename_i hk; exact ⟨hk, h⟩
    · cases h
  have hne : ∀ k ∈ ks, look (grab st.blk ks) k ≠ none := by
    intro k hk
    rw [hlk, if_pos hk]
    exact Option.isSome_iff_ne_none.1 (hks k hk)
  -- the base of the callee
  let Nc : Base := ⟨N0.n, fun x v => (∀ k, x.men k → k ∈ ks) ∧ RvL E N w x v, (grab st.blk ks).map (·.1),
    fun b => N0.fb b ∨ ∃ k bl, st.blk k = some bl ∧ bl.live = true ∧ k ∉ ks ∧ blkOf (E k) = some b, w, fun x v k h hk => by rw [grab_keys hks]; exact h.1 k hk⟩
  have hEc : Env Nc w0.heap.size w (look (grab st.blk ks)) E N := by
    refine ⟨hE.nlt, hE.nsub, fun k bl b g1 => hE.live k bl b (hin k bl g1).2, fun k k' bl bl' b g1 g2 => hE.dis k k' bl bl' b (hin k bl g1).2 (hin k' bl' g2).2, fun k bl g1 => hE.con k bl (hin k bl g1).2, fun k bl j g1 g2 => ?_, fun x v h => h.2, fun k hk => ?_, fun b hb => ?_⟩
    · simp only [shut, List.all_eq_true] at hshut
      have := hshut (k, bl) (look_isSome g1) j (Blk.men_slots g2)
      exact Option.isSome_iff_ne_none.1 this
    · have hk : k ∈ (grab st.blk ks).map (·.1) := hk
      rw [grab_keys hks] at hk
      exact hne k hk
    · rcases hb with hb | ⟨k, bl, g1, g2, g3, g4⟩
      · obtain ⟨a1, a2, a3, a4⟩ := hE.fo b hb
        exact ⟨a1, a2, rfl, fun k bl g1 => a4 k bl (hin k bl g1).2⟩
      · obtain ⟨a1, a2, a3⟩ := hE.live k bl b g1 g2 g4
        exact ⟨a3, a1, rfl, fun k' bl' e1 e2 => hE.dis k k' bl bl' b g1 (hin k' bl' e1).2 g2 e2 (fun e => g3 (e ▸ (hin k' bl' e1).1)) g4⟩
  unfold Oper.wp
  rw [hrun, Oper.upon_enter]
  refine (hsat.2 Nc w0 w E N vs h1 (fun i x v hx hv => ⟨(h2 i x v hx hv).1, fun k hk => hne k ((h2 i x v hx hv).2 k hk)⟩) rfl hEc R.below R.good).mono ?_
  rintro e w' ⟨v, E', N', rfl, hb, hE', hl, hlm⟩
  simp only
  refine hK _ _ ?_
  have hfx : ∀ k ∈ ks, look us k ≠ none := fun k hk => hE'.fx k (by show k ∈ (grab st.blk ks).map (·.1); rw [grab_keys hks]; exact hk)
  have hdom : ∀ k bl, look us k = some bl → st.blk k ≠ none → k ∈ ks := by
    intro k bl h h'
    rcases hus (k, bl) (look_isSome h) with h | h
    · exact h
    · exact absurd (hns k h) h'
  let E'' : Nat → Value := fun k => match look us k with
    | some _ => E' k
    | none => E k
  have e1 : ∀ k, look us k ≠ none → E'' k = E' k := by
    intro k hk
    show (match look us k with | some _ => E' k | none => E k) = _
    split
    · rfl
    · rename_i h; exact absurd h hk
  have e2 : ∀ k, look us k = none → E'' k = E k := by
    intro k hk
    show (match look us k with | some _ => E' k | none => E k) = _
    rw [hk]
  have e3 : ∀ k, st.blk k ≠ none → k ∉ ks → E'' k = E k := by
    intro k h h'
    refine e2 k ?_
    cases hu : look us k with
    | none => rfl
    | some bl => exact absurd (hdom k bl hu h) h'
  have hblk : (St.write st o.dst l us).blk = fun k => match look us k with
      | some b => some b
      | none => st.blk k := by
    funext k
    show look (us ++ st.m) k = _
    rw [look_app]
    cases look us k <;> rfl
  -- readings are carried over
  have evoC : ∀ c u, (∀ k, C.men k c → st.blk k ≠ none) → RvC E N w c u → RvC E'' N' w' c u := by
    intro c u hm h
    cases c with
    | d x => exact hE'.gh (.at (.d x)) u ⟨fun k hk => hk.elim, h⟩
    | loc k off =>
      by_cases hk : k ∈ ks
      · obtain ⟨b, g1, g2⟩ : RvA E' N' w' (.loc k off) u := hE'.gh (.at (.loc k off)) u ⟨fun j hj => by have : k = j := hj; rw [← this]; exact hk, h⟩
        exact ⟨b, by rw [e1 k (hfx k hk)]; exact g1, g2⟩
      · obtain ⟨b, g1, g2⟩ := h
        exact ⟨b, by rw [e3 k (hm k rfl) hk]; exact g1, g2⟩
  have evoA : ∀ x u, (∀ k, A.men k x → st.blk k ≠ none) → RvA E N w x u → RvA E'' N' w' x u := by
    intro x u hm h
    cases x with
    | d x => exact hE'.gh (.at (.d x)) u ⟨fun k hk => hk.elim, h⟩
    | loc k off => exact evoC (.loc k off) u hm h
    | row k n =>
      by_cases hk : k ∈ ks
      · obtain ⟨g0, Ad, m, c, g1, g2⟩ : RvA E' N' w' (.row k n) u := hE'.gh (.at (.row k n)) u ⟨fun j hj => by have : k = j := hj; rw [← this]; exact hk, h⟩
        exact ⟨g0, Ad, m, c, by rw [e1 k (hfx k hk)]; exact g1, g2⟩
      · obtain ⟨g0, Ad, m, c, g1, g2⟩ := h
        exact ⟨g0, Ad, m, c, by rw [e3 k (hm k rfl) hk]; exact g1, g2⟩
    | rloc k n s i off =>
      by_cases hk : k ∈ ks
      · obtain ⟨g0, Ad, m, c, g1, g2⟩ : RvA E' N' w' (.rloc k n s i off) u := hE'.gh (.at (.rloc k n s i off)) u ⟨fun j hj => by have : k = j := hj; rw [← this]; exact hk, h⟩
        exact ⟨g0, Ad, m, c, by rw [e1 k (hfx k hk)]; exact g1, g2⟩
      · obtain ⟨g0, Ad, m, c, g1, g2⟩ := h
        exact ⟨g0, Ad, m, c, by rw [e3 k (hm k rfl) hk]; exact g1, g2⟩
    | nils => exact h
    | map k =>
      by_cases hk : k ∈ ks
      · obtain ⟨b, g1, g2⟩ : RvA E' N' w' (.map k) u := hE'.gh (.at (.map k)) u ⟨fun j hj => by have : k = j := hj; rw [← this]; exact hk, h⟩
        exact ⟨b, by rw [e1 k (hfx k hk)]; exact g1, g2⟩
      · obtain ⟨b, g1, g2⟩ := h
        exact ⟨b, by rw [e3 k (hm k rfl) hk]; exact g1, g2⟩
    | bnd f k off =>
      by_cases hk : k ∈ ks
      · obtain ⟨b, g1, g2⟩ : RvA E' N' w' (.bnd f k off) u := hE'.gh (.at (.bnd f k off)) u ⟨fun j hj => by have : k = j := hj; rw [← this]; exact hk, h⟩
        exact ⟨b, by rw [e1 k (hfx k hk)]; exact g1, g2⟩
      · obtain ⟨b, g1, g2⟩ := h
        exact ⟨b, by rw [e3 k (hm k rfl) hk]; exact g1, g2⟩
    | fn f cs =>
      obtain ⟨us', g1, g2, g3⟩ := h
      exact ⟨us', g1, g2, fun i c u hc hu => evoC c u (fun k hk => hm k ⟨c, List.mem_of_getElem? hc, hk⟩) (g3 i c u hc hu)⟩
    | any => trivial
  have evoM : ∀ x u, (∀ k, M.men k x → st.blk k ≠ none) → RvM E N w x u → RvM E'' N' w' x u := by
    intro x u hm h
    cases x with
    | «at» x => exact evoA x u hm h
    | agg cs =>
      obtain ⟨us', g1, g2, g3⟩ := h
      exact ⟨us', g1, g2, fun i c u hc hu => evoA c u (fun k hk => hm k ⟨c, List.mem_of_getElem? hc, hk⟩) (g3 i c u hc hu)⟩
  have evoL : ∀ x u, (∀ k, L.men k x → st.blk k ≠ none) → RvL E N w x u → RvL E'' N' w' x u := by
    intro x u hm h
    cases x with
    | «at» x => exact evoA x u hm h
    | agg cs =>
      obtain ⟨us', g1, g2, g3⟩ := h
      exact ⟨us', g1, g2, fun i c u hc hu => evoA c u (fun k hk => hm k ⟨c, List.mem_of_getElem? hc, hk⟩) (g3 i c u hc hu)⟩
    | tup ms =>
      obtain ⟨us', g1, g2, g3⟩ := h
      exact ⟨us', g1, g2, fun i c u hc hu => evoM c u (fun k hk => hm k ⟨c, List.mem_of_getElem? hc, hk⟩) (g3 i c u hc hu)⟩
  have hfor : ∀ k bl b, look us k = none → st.blk k = some bl → bl.live = true → blkOf (E k) = some b → Nc.fb b := fun k bl b g1 g2 g3 g4 => .inr ⟨k, bl, g2, g3, fun hk => hfx k hk g1, g4⟩
  have hcase : ∀ {k bl}, (match look us k with
      | some b => some b
      | none => st.blk k) = some bl → look us k = some bl ∨ (look us k = none ∧ st.blk k = some bl) := by
    intro k bl h
    split at h
    · rename_i b hb; cases h; exact .inl hb
    · rename_i hb; exact .inr ⟨hb, h⟩
  have hsub : ∀ k, st.blk k ≠ none → (match look us k with
      | some b => some b
      | none => st.blk k) ≠ none := by
    intro k h
    split
    · simp
    · exact h
  have hsub' : ∀ k, look us k ≠ none → (match look us k with
      | some b => some b
      | none => st.blk k) ≠ none := by
    intro k h
    split
    · simp
    · rename_i h'; exact absurd h' h
  have hE'' : Env N0 w0.heap.size w' (St.write st o.dst l us).blk E'' N' := by
    rw [hblk]
    refine ⟨hE'.nlt, hE'.nsub, fun k bl b g1 g2 g3 => ?_, fun k k' bl bl' b g1 g2 g3 g4 hkk g5 => ?_, fun k bl g1 => ?_, fun k bl j g1 g2 => ?_, fun x u h => evoL x u (fun k hk => hE.fx k (N0.ok x u k h hk)) (hE.gh x u h), fun k hk => hsub k (hE.fx k hk), fun b hb => ?_⟩
    · rcases hcase g1 with g1 | ⟨g0, g1⟩
      · rw [e1 k (by rw [g1]; simp)] at g3
        exact hE'.live k bl b g1 g2 g3
      · rw [e2 k g0] at g3
        obtain ⟨a1, a2, _, _⟩ := hE'.fo b (hfor k bl b g0 g1 g2 g3)
        exact ⟨a2, (hE.live k bl b g1 g2 g3).2.1, a1⟩
    · rcases hcase g1 with g1 | ⟨g0, g1⟩
      · rw [e1 k (by rw [g1]; simp)] at g5
        rcases hcase g2 with g2 | ⟨g0', g2⟩
        · rw [e1 k' (by rw [g2]; simp)]
          exact hE'.dis k k' bl bl' b g1 g2 g3 g4 hkk g5
        · rw [e2 k' g0']
          intro g6
          exact (hE'.fo b (hfor k' bl' b g0' g2 g4 g6)).2.2.2 k bl g1 g3 g5
      · rw [e2 k g0] at g5
        rcases hcase g2 with g2 | ⟨g0', g2⟩
        · rw [e1 k' (by rw [g2]; simp)]
          exact (hE'.fo b (hfor k bl b g0 g1 g3 g5)).2.2.2 k' bl' g2 g4
        · rw [e2 k' g0']
          exact hE.dis k k' bl bl' b g1 g2 g3 g4 hkk g5
    · rcases hcase g1 with g1 | ⟨g0, g1⟩
      · rw [e1 k (by rw [g1]; simp)]
        exact RvB.mono (fun _ _ _ => rfl) (fun _ h _ => h) (fun j hj => e1 j (hE'.wf k bl j g1 hj)) (fun _ _ _ => rfl) (hE'.con k bl g1)
      · rw [e2 k g0]
        have hc := hE.con k bl g1
        have hheap : bl.live = true → ∀ b, blkOf (E k) = some b → w'.heap[b]? = w.heap[b]? := fun g2 b g3 => (hE'.fo b (hfor k bl b g0 g1 g2 g3)).2.2.1
        cases bl with
        | var cs =>
          obtain ⟨b, c, ty, c1, c2, c3, c4⟩ := hc
          exact ⟨b, c, ty, c1, by rw [hheap rfl b (by rw [c1]; rfl)]; exact c2, c3, fun i x u hx hu => evoA x u (fun j hj => hE.wf k _ j g1 ⟨x, List.mem_of_getElem? hx, hj⟩) (c4 i x u hx hu)⟩
        | row e s rs =>
          obtain ⟨xs, c1, c2, c3⟩ := hc
          exact ⟨xs, ownsRow_congr c1 (hheap rfl), c2, fun i j r x u hr hx hu => evoA x u (fun q hq => hE.wf k _ q g1 ⟨r, List.mem_of_getElem? hr, x, List.mem_of_getElem? hx, hq⟩) (c3 i j r x u hr hx hu)⟩
        | fvar ds => exact hE'.gh (.at (.d (.ref ds))) (E k) ⟨fun j hj => hj.elim, hc⟩
        | frow rs => exact hE'.gh (.at (.d (.slice rs))) (E k) ⟨fun j hj => hj.elim, hc⟩
        | mp kvs =>
          obtain ⟨b, es, c1, c2, c3, c4⟩ := hc
          exact ⟨b, es, c1, by rw [hheap rfl b (by rw [c1]; rfl)]; exact c2, c3, fun i p e hp he => let ⟨a1, a2, a3⟩ := c4 i p e hp he; ⟨a1, a2, evoA p.2 e.val (fun j hj => hE.wf k _ j g1 ⟨p, List.mem_of_getElem? hp, hj⟩) a3⟩⟩
        | iter j n seen =>
          obtain ⟨r, b, c1, c2, c3⟩ := hc
          obtain ⟨b', f1, f2⟩ := evoA (.map j) (E j) (fun q hq => by have : j = q := hq; subst this; exact hE.wf k _ j g1 rfl) ⟨b, c2, c2⟩
          rw [c2] at f2
          cases f2
          exact ⟨r, b, c1, f1, by rw [hheap rfl r (by rw [c1]; rfl)]; exact c3⟩
        | gone => trivial
    · rcases hcase g1 with g1 | ⟨g0, g1⟩
      · exact hsub' j (hE'.wf k bl j g1 g2)
      · exact hsub j (hE.wf k bl j g1 g2)
    · obtain ⟨a1, a2, a3, a4⟩ := hE'.fo b (.inl hb)
      refine ⟨a1, a2, a3.trans (hE.fo b hb).2.2.1, fun k bl g1 g2 => ?_⟩
      rcases hcase g1 with g1 | ⟨g0, g1⟩
      · rw [e1 k (by rw [g1]; simp)]
        exact a4 k bl g1 g2
      · rw [e2 k g0]
        exact (hE.fo b hb).2.2.2 k bl g1 g2
  refine ⟨R.good, R.stab, hb, ?_, ?_, ⟨E'', N', hE'', fun i => ?_⟩, fun i k hk => ?_⟩
  · cases o.dst <;> exact R.defers
  · cases o.dst
    · exact R.size
    · simp [Act.put, R.size]
  · rw [get_write, getD_put _ _ _ _ (fun d h => by rw [R.size]; exact hd d h)]
    split
    · exact RvL.mono (fun _ _ _ => rfl) (fun _ h _ => h) (fun k hk => e1 k (hlm k hk)) hl
    · exact evoL _ _ (R.twf i) (hts i)
  · rw [hblk]
    rw [get_write] at hk
    split at hk
    · exact hsub' k (hlm k hk)
    · exact hsub k (R.twf i k hk)

theorem sharedOk_parts {blk : Nat → Option Blk} {args : List L} {ks ns : List Nat} {us : List (Nat × Blk)} (h : sharedOk blk args ks ns us = true) :
    (∀ k ∈ ks, (blk k).isSome = true) ∧ (∀ k ∈ ns, blk k = none) ∧ (∀ x ∈ args, ∀ k, x.men k → k ∈ ks) ∧ shut (grab blk ks) = true ∧ ∀ p ∈ us, p.1 ∈ ks ∨ p.1 ∈ ns := by
  simp only [sharedOk, Bool.and_eq_true, List.all_eq_true, Bool.or_eq_true, List.contains_eq_mem, decide_eq_true_eq, Option.isNone_iff_eq_none] at h
  obtain ⟨⟨⟨⟨h1, h2⟩, h3⟩, h4⟩, h5⟩ := h
  exact ⟨h1, h2, fun x hx k hk => h3 x hx k (L.men_slots hk), h4, h5⟩
theorem args_rv {E : Nat → Value} {N : Nat → Prop} (hts : ∀ i, RvL E N w (st.get i) (a.tmps.getD i undef)) {os : List Operand} {xs : List X} (hx : chkXs os xs = true) :
    (os.map a.eval).length = (xs.map st.ev).length ∧ ∀ (i : Nat) (l : L) (v : Value), (xs.map st.ev)[i]? = some l → (os.map a.eval)[i]? = some v → RvL E N w l v := by
  obtain ⟨h1, h2⟩ := chkXs_get hx
  refine ⟨by simp [h1], fun i l v hl hv => ?_⟩
  rw [List.getElem?_map, Option.map_eq_some_iff] at hl hv
  obtain ⟨x, hx', rfl⟩ := hl
  obtain ⟨op, ho', rfl⟩ := hv
  exact chkX_rv hts (h2 i op x ho' hx')

theorem owes_callS {f : FuncId} {os : Array Operand} {ts : Array TypeId} {xs : List X} {ks ns : List Nat} (ho : o.op = .call { callee := .value (.func f), args := os, argTypes := ts }) (hx : chkXs os.toList xs = true) : Owes G P o (.callS f xs ks ns) := by
  intro N0 w0 nt st a w next Q K R hd hs hK
  simp only [dsem] at hs
  obtain ⟨l, us, hsat, hok, hs⟩ := hs
  obtain ⟨h1, h2, h3, h4, h5⟩ := sharedOk_parts hok
  refine wp_callS (vs := os.toList.map a.eval) R hd hsat ?_ h1 h2 h4 h5 (fun E N hE hts => ⟨(args_rv hts hx).1, fun i x v hx' hv => ⟨(args_rv hts hx).2 i x v hx' hv, h3 x (List.mem_of_getElem? hx')⟩⟩) fun a' w' hr => hK _ _ _ _ hs hr
  have : os.map a.eval = (os.toList.map a.eval).toArray := by apply Array.ext'; simp
  simp only [execOp, ho, resolve, Act.eval, Deferred.ofValue, Sem.run_bind, Sem.run_pure, Result.andThen_ok, invoke]
  rw [show (#[] ++ Array.map a.eval os ++ #[] : Array Value) = (os.toList.map a.eval).toArray by rw [this]; simp]
  exact run_callFunc hsat.1 _ _

theorem owes_callvS {g : Operand} {os : Array Operand} {ts : Array TypeId} {g' : X} {xs : List X} {ks ns : List Nat} (ho : o.op = .call { callee := .value g, args := os, argTypes := ts }) (hg : chkX g g' = true) (hx : chkXs os.toList xs = true) : Owes G P o (.callvS g' xs ks ns) := by
  intro N0 w0 nt st a w next Q K R hd hs hK
  simp only [dsem] at hs
  have hrun : ∀ {f : FuncId} {vs : List Value}, a.eval g = .func (.func f) #[] vs.toArray → Callable P f → (execOp a.eval o).run P w = .ok (.enter f (os.toList.map a.eval ++ vs).toArray) w := by
    intro f vs e hc
    have : os.map a.eval = (os.toList.map a.eval).toArray := by apply Array.ext'; simp
    simp only [execOp, ho, resolve, e, Deferred.ofValue, Sem.run_bind, Sem.run_pure, Result.andThen_ok, invoke]
    rw [show (#[] ++ Array.map a.eval os ++ vs.toArray : Array Value) = (os.toList.map a.eval ++ vs).toArray by rw [this]; simp]
    exact run_callFunc hc _ _
  obtain ⟨E, N, hE, hts⟩ := R.env
  have hgv := chkX_rv (E := E) (N := N) (w := w) (st := st) (a := a) hts hg
  have happ : ∀ {cs : List L} {vs : List Value} {E : Nat → Value} {N : Nat → Prop}, (∀ i, RvL E N w (st.get i) (a.tmps.getD i undef)) → vs.length = cs.length → (∀ (i : Nat) (x : L) (v : Value), cs[i]? = some x → vs[i]? = some v → RvL E N w x v) →
      (os.toList.map a.eval ++ vs).length = (xs.map st.ev ++ cs).length ∧ ∀ (i : Nat) (x : L) (v : Value), (xs.map st.ev ++ cs)[i]? = some x → (os.toList.map a.eval ++ vs)[i]? = some v → RvL E N w x v := by
    intro cs vs E N hts hl hc
    obtain ⟨g1, g2⟩ := args_rv hts hx
    refine ⟨by simp only [List.length_append]; omega, fun i x v hx' hv => ?_⟩
    rcases Nat.lt_or_ge i (xs.map st.ev).length with hlt | hge
    · rw [List.getElem?_append_left hlt] at hx'
      rw [List.getElem?_append_left (by omega)] at hv
      exact g2 i x v hx' hv
    · rw [List.getElem?_append_right hge] at hx'
      rw [List.getElem?_append_right (by omega), g1] at hv
      exact hc _ x v hx' hv
  split at hs
  · rename_i f cs he
    obtain ⟨l, us, hsat, hok, hs⟩ := hs
    obtain ⟨h1, h2, h3, h4, h5⟩ := sharedOk_parts hok
    have hgvs := hgv
    rw [he] at hgvs
    obtain ⟨vs, e1, e2, e3⟩ := hgvs
    refine wp_callS (vs := os.toList.map a.eval ++ vs) R hd hsat (hrun e1 hsat.1) h1 h2 h4 h5 (fun E N hE hts => ?_) fun a' w' hr => hK _ _ _ _ hs hr
    have hgv := chkX_rv (E := E) (N := N) (w := w) (st := st) (a := a) hts hg
    rw [he, e1] at hgv
    obtain ⟨vs', f1, f2, f3⟩ := hgv
    have f1 : vs = vs' := by
      have := f1
      simp only [Value.func.injEq, true_and] at this
      exact List.toArray_inj this
    subst f1
    obtain ⟨g1, g2⟩ := happ (cs := cs.map C.toL) (vs := vs) hts (by simp [e2]) (fun i x v hx' hv => by
      rw [List.getElem?_map, Option.map_eq_some_iff] at hx'
      obtain ⟨c, hc, rfl⟩ := hx'
      have := f3 i c v hc hv
      cases c <;> exact this)
    refine ⟨g1, fun i x v hx' hv => ⟨g2 i x v hx' hv, ?_⟩⟩
    rcases List.mem_append.1 (List.mem_of_getElem? hx') with hm | hm
    · exact h3 x (List.mem_cons_of_mem _ hm)
    · intro k hk
      obtain ⟨c, hc, rfl⟩ := List.mem_map.1 hm
      refine h3 _ List.mem_cons_self k ?_
      rw [he]
      refine ⟨c, hc, ?_⟩
      cases c
      · exact hk.elim
      · exact hk
  · rename_i f ds he
    obtain ⟨l, us, hsat, hok, hs⟩ := hs
    obtain ⟨h1, h2, h3, h4, h5⟩ := sharedOk_parts hok
    have hgvs := hgv
    rw [he] at hgvs
    obtain ⟨vs, e1, e2, e3⟩ := Rv.inv_fn hgvs
    refine wp_callS (vs := os.toList.map a.eval ++ vs) R hd hsat (hrun e1 hsat.1) h1 h2 h4 h5 (fun E N hE hts => ?_) fun a' w' hr => hK _ _ _ _ hs hr
    have hgv := chkX_rv (E := E) (N := N) (w := w) (st := st) (a := a) hts hg
    rw [he, e1] at hgv
    obtain ⟨vs', f1, f2, f3⟩ := Rv.inv_fn hgv
    have f1 : vs = vs' := by
      have := f1
      simp only [Value.func.injEq, true_and] at this
      exact List.toArray_inj this
    subst f1
    obtain ⟨g1, g2⟩ := happ (cs := ds.map fun d => .at (.d d)) (vs := vs) hts (by simp [e2]) (fun i x v hx' hv => by
      rw [List.getElem?_map, Option.map_eq_some_iff] at hx'
      obtain ⟨c, hc, rfl⟩ := hx'
      exact f3 i c v hc hv)
    refine ⟨g1, fun i x v hx' hv => ⟨g2 i x v hx' hv, ?_⟩⟩
    rcases List.mem_append.1 (List.mem_of_getElem? hx') with hm | hm
    · exact h3 x hm
    · intro k hk
      obtain ⟨c, hc, rfl⟩ := List.mem_map.1 hm
      exact hk.elim
  · exact hs.elim

theorem owes_callD {f : FuncId} {os : Array Operand} {ts : Array TypeId} {xs : List X} (ho : o.op = .call { callee := .value (.func f), args := os, argTypes := ts }) (hx : chkXs os.toList xs = true) : Owes G P o (.callD f xs) := by
  intro N0 w0 nt st a w next Q K R hd hs hK
  simp only [dsem] at hs
  obtain ⟨ks, ns, l, us, g1, g2, _, g3⟩ := hs
  exact owes_callS (ks := ks) (ns := ns) ho hx N0 w0 nt st a w next Q K R hd ⟨l, us, g1, g2, g3⟩ hK

theorem owes_callvD {g : Operand} {os : Array Operand} {ts : Array TypeId} {g' : X} {xs : List X} (ho : o.op = .call { callee := .value g, args := os, argTypes := ts }) (hg : chkX g g' = true) (hx : chkXs os.toList xs = true) : Owes G P o (.callvD g' xs) := by
  intro N0 w0 nt st a w next Q K R hd hs hK
  simp only [dsem] at hs
  split at hs
  · rename_i f cs he
    obtain ⟨ks, ns, l, us, g1, g2, _, g3⟩ := hs
    refine owes_callvS (ks := ks) (ns := ns) ho hg hx N0 w0 nt st a w next Q K R hd ?_ hK
    simp only [dsem, he]
    rw [he] at g2
    exact ⟨l, us, g1, g2, g3⟩
  · rename_i f ds he
    obtain ⟨ks, ns, l, us, g1, g2, _, g3⟩ := hs
    refine owes_callvS (ks := ks) (ns := ns) ho hg hx N0 w0 nt st a w next Q K R hd ?_ hK
    simp only [dsem, he]
    exact ⟨l, us, g1, g2, g3⟩
  · rename_i f k off he
    obtain ⟨ks, ns, l, us, hsat, hok, _, hs⟩ := hs
    obtain ⟨h1, h2, h3, h4, h5⟩ := sharedOk_parts hok
    obtain ⟨E, N, hE, hts⟩ := R.env
    have hgv := chkX_rv (E := E) (N := N) (w := w) (st := st) (a := a) hts hg
    rw [he] at hgv
    obtain ⟨b, e1, e2⟩ := hgv
    refine wp_callS (vs := .pointer (some ⟨b, off, none⟩) :: os.toList.map a.eval) R hd hsat ?_ h1 h2 h4 h5 (fun E1 N1 hE1 hts1 => ?_) fun a' w' hr => hK _ _ _ _ hs hr
    · have : os.map a.eval = (os.toList.map a.eval).toArray := by apply Array.ext'; simp
      simp only [execOp, ho, resolve, e2, Deferred.ofValue, Sem.run_bind, Sem.run_pure, Result.andThen_ok, invoke]
      rw [show (#[.pointer (some ⟨b, off, none⟩)] ++ Array.map a.eval os ++ #[] : Array Value) = (.pointer (some ⟨b, off, none⟩) :: os.toList.map a.eval).toArray by rw [this]; simp]
      exact run_callFunc hsat.1 _ _
    · have hgv := chkX_rv (E := E1) (N := N1) (w := w) (st := st) (a := a) hts1 hg
      rw [he, e2] at hgv
      obtain ⟨b1, f1, f2⟩ := hgv
      have hbb : b = b1 := by
        simp only [Value.func.injEq, true_and] at f2
        have := congrArg Array.toList f2.1
        simpa using this
      subst hbb
      obtain ⟨g1, g2⟩ := args_rv (xs := xs) hts1 hx
      refine ⟨by simp [g1], fun i x v hx' hv => ?_⟩
      cases i with
      | zero =>
        simp at hx' hv
        subst hx'; subst hv
        refine ⟨⟨b, f1, rfl⟩, fun j hj => h3 _ List.mem_cons_self j ?_⟩
        rw [he]
        exact hj
      | succ i =>
        simp only [List.getElem?_cons_succ] at hx' hv
        exact ⟨g2 i x v hx' hv, h3 x (List.mem_cons_of_mem _ (List.mem_of_getElem? hx'))⟩
  · exact hs.elim

theorem owes_bind {f : FuncId} {x : Operand} {x' : X} (ho : o.op = .makeFunc (.func f) #[x] #[]) (hx : chkX x x' = true) : Owes G P o (.bind f x') := by
  intro N0 w0 nt st a w next Q K R hd hs hK
  simp only [dsem] at hs
  split at hs
  · rename_i k off he
    refine wp_val (v := .func (.func f) #[a.eval x] #[]) (w' := w) (by simp [execOp, ho, Instr.makeFunc]) (hK _ _ _ _ hs (R.value _ hd _ _ (fun E N hE hts => ?_) (fun j hj => ?_)))
    · have := chkX_rv hts hx
      rw [he] at this
      obtain ⟨b, e1, e2⟩ := this
      exact ⟨b, e1, by rw [e2]⟩
    · exact chkX_men R.twf hx j (by rw [he]; exact hj)
  · exact hs.elim
end
end Go.Proofs.YtpfhfokfambdaaaGreatDoor.Ev

/-! Comparisons of structs, and with nil. -/
namespace Go.Proofs.YtpfhfokfambdaaaGreatDoor.Ev
open Go.RowKit (Below)

/-- The kinds of the cells of a comparable type, one behind the other. -/
def flatFs (P : Program) (f : TypeId → Option (List Nat)) : List Field → Nat → Option (List Nat)
  | [], _ => some []
  | fd :: fs, off => if fd.name ≠ "_" ∧ fd.offset = off then match f fd.type with
      | some ks => if 0 < ks.length ∧ ((ks.length = 1 ∧ tyOne P fd.type = true) ∨ tyAgg P fd.type ks.length = true) then match flatFs P f fs (off + ks.length) with
          | some r => some (ks ++ r)
          | none => none
        else none
      | none => none
    else none
def flatT (P : Program) : Nat → TypeId → Option (List Nat)
  | 0, _ => none
  | d + 1, t => match P.underlying t with
    | some (.int _) => some [0]
    | some .string => some [1]
    | some .bool => some [2]
    | some (.struct fs) => if P.stoodInHeld t then none else flatFs P (flatT P d) fs.toList 0
    | _ => none

theorem sames_append : ∀ {ks ks' : List Nat} {as bs : List A} {q : Bool}, sames (ks ++ ks') as bs = some q → ∃ q1 q2, sames ks (as.take ks.length) (bs.take ks.length) = some q1 ∧ sames ks' (as.drop ks.length) (bs.drop ks.length) = some q2 ∧ q = (q1 && q2)
  | [], ks', as, bs, q, h => ⟨true, q, by simp [sames], h, by simp⟩
  | k :: ks, ks', as, bs, q, h => by
    cases as with
    | nil => simp [sames] at h
    | cons a as =>
      cases bs with
      | nil => cases a <;> simp [sames] at h
      | cons b bs =>
        cases a <;> cases b <;> simp only [List.cons_append, sames] at h <;> first | (cases h; done) | skip
        rename_i x y
        split at h
        · rename_i p hp
          split at h
          · rename_i r hr
            cases h
            obtain ⟨q1, q2, h1, h2, rfl⟩ := sames_append hr
            exact ⟨p && q1, q2, by simp [sames, hp, h1], by simpa using h2, by rw [Bool.and_assoc]⟩
          · cases h
        · cases h
theorem sames_length : ∀ {ks : List Nat} {as bs : List A} {q : Bool}, sames ks as bs = some q → as.length = ks.length ∧ bs.length = ks.length
  | [], as, bs, q, h => by
    cases as <;> cases bs <;> simp [sames] at h ⊢
  | k :: ks, as, bs, q, h => by
    cases as with
    | nil => simp [sames] at h
    | cons a as =>
      cases bs with
      | nil => cases a <;> simp [sames] at h
      | cons b bs =>
        cases a <;> cases b <;> simp only [sames] at h <;> first | (cases h; done) | skip
        split at h
        · split at h
          · rename_i r hr
            have := sames_length hr
            simp [this.1, this.2]
          · cases h
        · cases h

section
variable {P : Program} {E : Nat → Value} {N : Nat → Prop} {w : World}
theorem RvAs.take {as : List A} {vs : List Value} (h : RvAs E N w as vs) (n : Nat) : RvAs E N w (as.take n) (vs.take n) := by
  refine ⟨by simp [h.1], fun i a u ha hu => ?_⟩
  rw [List.getElem?_take] at ha hu
  split at ha
  · rename_i hi
    rw [if_pos hi] at hu
    exact h.2 i a u ha hu
  · cases ha
theorem RvAs.drop {as : List A} {vs : List Value} (h : RvAs E N w as vs) (n : Nat) : RvAs E N w (as.drop n) (vs.drop n) := by
  refine ⟨by simp [h.1], fun i a u ha hu => ?_⟩
  rw [List.getElem?_drop] at ha hu
  exact h.2 _ a u ha hu

theorem sames_one {k : Nat} {as bs : List A} {q : Bool} (h : sames [k] as bs = some q) : ∃ d d', as = [.d d] ∧ bs = [.d d'] ∧ D.same k d d' = some q := by
  match as, bs, h with
  | [.d d], [.d d'], h =>
    refine ⟨d, d', rfl, rfl, ?_⟩
    simp only [sames] at h
    split at h
    · rename_i p hp
      simp only [Bool.and_true, Option.some.injEq] at h
      subst h
      exact hp
    · cases h
  | [], [], h => simp [sames] at h
  | [], _ :: _, h => simp [sames] at h
  | _ :: _, [], h => simp [sames] at h
  | a :: a' :: _, b :: bs, h => have := sames_length h; simp at this
  | a :: [], b :: b' :: _, h => have := sames_length h; simp at this
theorem one_value {d : D} {xs : List Value} (h : RvAs E N w [.d d] xs) : ∃ x, xs = [x] ∧ Rv N w d x := by
  match xs, h with
  | [x], h => exact ⟨x, rfl, h.2 0 _ x rfl rfl⟩
  | [], h => simp [RvAs] at h
  | _ :: _ :: _, h => simp [RvAs] at h
theorem eq_scalar {k : Nat} {t : TypeId} (hk : (k = 0 ∧ ∃ kd, P.underlying t = some (.int kd)) ∨ (k = 1 ∧ P.underlying t = some .string) ∨ (k = 2 ∧ P.underlying t = some .bool)) {as bs : List A} {xs ys : List Value}
    (h1 : RvAs E N w as xs) (h2 : RvAs E N w bs ys) {q : Bool} (hs : sames [k] as bs = some q) (e : Nat) : ∃ x y, xs = [x] ∧ ys = [y] ∧ (Op.equalIn (e + 1) t x y).run P w = .ok q w := by
  obtain ⟨d, d', rfl, rfl, hsd⟩ := sames_one hs
  have hs := hsd
  clear hsd
  obtain ⟨x, rfl, hx⟩ := one_value h1
  obtain ⟨y, rfl, hy⟩ := one_value h2
  refine ⟨x, y, rfl, rfl, ?_⟩
  unfold D.same at hs
  split at hs
  · rename_i k n k' m
    split at hs
    · rename_i hkk
      subst hkk
      cases hs
      cases hx
      cases hy
      rcases hk with ⟨_, kd, hu⟩ | ⟨h, _⟩ | ⟨h, _⟩
      · exact run_equalIn_int w e t _ kd _ _ hu
      · cases h
      · cases h
    · cases hs
  · cases hs
    cases hx
    cases hy
    rcases hk with ⟨h, _⟩ | ⟨h, _⟩ | ⟨_, hu⟩
    · cases h
    · cases h
    · exact run_equalIn_bool w e t _ _ hu
  · cases hs
    cases hx
    cases hy
    rcases hk with ⟨h, _⟩ | ⟨_, hu⟩ | ⟨h, _⟩
    · cases h
    · have := run_equalIn_string (P := P) w e t ⟨(by assumption : List UInt8).toArray⟩ ⟨(by assumption : List UInt8).toArray⟩ hu
      simp only [Op.equalIn, Sem.run_bind, run_underlying hu, Result.andThen_ok, Sem.run_pure, beq_toListBytes, ByteArray.toList_mk]
    · cases h
  · cases hs

/-- The value of a type that some cells make. -/
def MkVal (P : Program) (t : TypeId) (xs : List Value) (x : Value) : Prop := (tyOne P t = true ∧ xs = [x]) ∨ ((∃ n, tyAgg P t n = true) ∧ x = .agg xs.toArray)

theorem part_val {t : TypeId} {n off : Nat} {xs : List Value} (h : (n = 1 ∧ tyOne P t = true) ∨ tyAgg P t n = true) (hl : off + n ≤ xs.length) : ∃ x, (part t xs.toArray off).run P w = .ok x w ∧ MkVal P t ((xs.drop off).take n) x := by
  rcases h with ⟨rfl, h⟩ | h
  · have hu := List.getElem?_eq_getElem (show off < xs.length by omega)
    refine ⟨_, run_part_one h hu, .inl ⟨h, ?_⟩⟩
    rw [List.drop_eq_getElem_cons (by omega)]
    rfl
  · exact ⟨_, run_part_agg h, .inr ⟨⟨n, h⟩, rfl⟩⟩

theorem eq_fields {d : Nat} (ih : ∀ (t : TypeId) (ks : List Nat), flatT P d t = some ks → ∀ e, d ≤ e → ∀ (as bs : List A) (xs ys : List Value) (x y : Value) (q : Bool), RvAs E N w as xs → RvAs E N w bs ys → MkVal P t xs x → MkVal P t ys y → sames ks as bs = some q → (Op.equalIn e t x y).run P w = .ok q w)
    {e : Nat} (he : d ≤ e) {xs ys : List Value} {as bs : List A} (h1 : RvAs E N w as xs) (h2 : RvAs E N w bs ys) : ∀ (fs : List Field) (off : Nat) (ks : List Nat) (q : Bool), flatFs P (flatT P d) fs off = some ks → sames ks (as.drop off) (bs.drop off) = some q →
    (Op.eqFields e xs.toArray ys.toArray fs).run P w = .ok q w
  | [], off, ks, q, hf, hs => by
    simp only [flatFs, Option.some.injEq] at hf
    subst hf
    have : q = true := by
      generalize as.drop off = a at hs
      generalize bs.drop off = b at hs
      cases a <;> cases b <;> simp [sames] at hs
      exact hs.symm ▸ rfl
    subst this
    simp [Op.eqFields]
  | fd :: fs, off, ks, q, hf, hs => by
    simp only [flatFs] at hf
    split at hf
    · rename_i hc
      obtain ⟨hname, hoff⟩ := hc
      split at hf
      · rename_i k1 hk1
        split at hf
        · rename_i hsh
          obtain ⟨hpos, hsh⟩ := hsh
          split at hf
          · rename_i r hr
            cases hf
            obtain ⟨q1, q2, e1, e2, rfl⟩ := sames_append hs
            rw [List.drop_drop, List.drop_drop] at e2
            obtain ⟨l1, l2⟩ := sames_length e1
            rw [List.length_take, List.length_drop] at l1 l2
            have hxl := h1.1
            have hyl := h2.1
            obtain ⟨x, px, mx⟩ := part_val (w := w) (xs := xs) hsh (off := off) (by omega)
            obtain ⟨y, py, my⟩ := part_val (w := w) (xs := ys) hsh (off := off) (by omega)
            have hfirst := ih fd.type k1 hk1 e he _ _ _ _ _ _ _ ((h1.drop off).take k1.length) ((h2.drop off).take k1.length) mx my e1
            have hrest := eq_fields ih he h1 h2 fs (off + k1.length) r q2 hr e2
            simp only [Op.eqFields, if_pos hname, Sem.run_bind, hoff, px, py, Result.andThen_ok, hfirst]
            cases q1
            · simp
            · simpa using hrest
          · cases hf
        · cases hf
      · cases hf
    · cases hf

theorem eq_flat : ∀ (d : Nat) (t : TypeId) (ks : List Nat), flatT P d t = some ks → ∀ e, d ≤ e → ∀ (as bs : List A) (xs ys : List Value) (x y : Value) (q : Bool), RvAs E N w as xs → RvAs E N w bs ys → MkVal P t xs x → MkVal P t ys y → sames ks as bs = some q → (Op.equalIn e t x y).run P w = .ok q w
  | 0, t, ks, h, _, _, _, _, _, _, _, _, _ => by simp [flatT] at h
  | d + 1, t, ks, h, e, he, as, bs, xs, ys, x, y, q => by
    intro h1 h2 m1 m2 hs
    obtain ⟨e, rfl⟩ : ∃ e', e = e' + 1 := ⟨e - 1, by omega⟩
    have hsc : ∀ k, ks = [k] → tyOne P t = true → ((k = 0 ∧ ∃ kd, P.underlying t = some (.int kd)) ∨ (k = 1 ∧ P.underlying t = some .string) ∨ (k = 2 ∧ P.underlying t = some .bool)) → (Op.equalIn (e + 1) t x y).run P w = .ok q w := by
      intro k hk ht hkk
      subst hk
      obtain ⟨x', y', rfl, rfl, hr⟩ := eq_scalar hkk h1 h2 hs e
      have hno : ∀ n, tyAgg P t n = true → False := by
        intro n hn
        unfold tyOne at ht
        unfold tyAgg at hn
        rcases hkk with ⟨_, kd, hu⟩ | ⟨_, hu⟩ | ⟨_, hu⟩ <;> rw [hu] at hn <;> simp at hn
      rcases m1 with ⟨_, m1⟩ | ⟨⟨n, hn⟩, _⟩
      · rcases m2 with ⟨_, m2⟩ | ⟨⟨n, hn⟩, _⟩
        · cases m1
          cases m2
          exact hr
        · exact (hno n hn).elim
      · exact (hno n hn).elim
    simp only [flatT] at h
    split at h
    · rename_i kd hu
      cases h
      exact hsc 0 rfl (by simp [tyOne, hu]) (.inl ⟨rfl, kd, hu⟩)
    · rename_i hu
      cases h
      exact hsc 1 rfl (by simp [tyOne, hu]) (.inr (.inl ⟨rfl, hu⟩))
    · rename_i hu
      cases h
      exact hsc 2 rfl (by simp [tyOne, hu]) (.inr (.inr ⟨rfl, hu⟩))
    · rename_i fs hu
      split at h
      · cases h
      · rename_i hst
        have hfs : P.fieldsOf t = fs := by simp [Program.fieldsOf, hu]
        have hone : tyOne P t = false := by simp [tyOne, hu]
        rcases m1 with ⟨m1, _⟩ | ⟨_, rfl⟩
        · rw [hone] at m1; cases m1
        · rcases m2 with ⟨m2, _⟩ | ⟨_, rfl⟩
          · rw [hone] at m2; cases m2
          · rw [run_equalIn_struct w e t _ _ (by rw [hfs]; exact hu) (by simpa using hst), hfs]
            exact eq_fields (eq_flat d) (by omega) h1 h2 fs.toList 0 ks q h (by simpa using hs)
    · cases h
end

section
variable {G : World → Prop} {P : Program} {o : Oper}
theorem eqGuard_agg {op : BinOp} {t : TypeId} {x y : Operand} {xs ys : Array Value} {w : World} (hg : P.eqGuardType P.depth t = false) : (eqGuard op t x y (.agg xs) (.agg ys)).run P w = .ok () w := by
  unfold eqGuard
  cases op <;> simp [hg]

theorem owes_eqAgg {op : BinOp} {neg : Bool} {ks : List Nat} {t t' : TypeId} {x y : Operand} {x' y' : X} (ho : o.op = .binOp op t x y t') (hop : op = if neg then .neq else .eql) (hk : flatT P 20 t = some ks) {n : Nat} (hag : tyAgg P t n = true)
    (hg : P.eqGuardType P.depth t = false) (hx : chkX x x' = true) (hy : chkX y y' = true) : Owes G P o (.eqAgg neg ks x' y') := by
  intro N0 w0 nt st a w next Q K R hd hs hK
  simp only [dsem] at hs
  split at hs
  · rename_i as bs ha hb
    split at hs
    · rename_i q hq
      obtain ⟨E, N, hE, hts⟩ := R.env
      obtain ⟨xs, e1, e2, e3, _⟩ := parts_rv (chkX_rv hts hx) ha
      obtain ⟨ys, f1, f2, f3, _⟩ := parts_rv (chkX_rv hts hy) hb
      have hr := eq_flat (P := P) (E := E) (N := N) (w := w) 20 t ks hk (9999 + 1) (by omega) as bs _ _ _ _ _ ⟨e2, e3⟩ ⟨f2, f3⟩ (.inr ⟨⟨n, hag⟩, e1⟩) (.inr ⟨⟨n, hag⟩, f1⟩) hq
      have hr' : (Op.equal t (a.eval x) (a.eval y)).run P w = .ok q w := hr
      refine wp_val (v := .bool (q != neg)) (w' := w) ?_ (hK _ _ _ _ hs (R.data _ hd _ _ fun N => .bool _))
      have hguard : (eqGuard op t x y (a.eval x) (a.eval y)).run P w = .ok () w := by rw [e1, f1]; exact eqGuard_agg hg
      have hbin : (binOp op t (a.eval x) (a.eval y)).run P w = .ok (.bool (q != neg)) w := by
        rw [e1, f1] at hr' ⊢
        cases neg <;> simp only [Bool.false_eq_true, if_false, if_true] at hop <;> subst hop <;> simp [binOp, hr']
      simp only [execOp, ho, Sem.run_bind, hguard, Result.andThen_ok, hbin]
      rfl
    · exact hs.elim
  · exact hs.elim

theorem owes_isNil {op : BinOp} {neg : Bool} {t t' : TypeId} {x : Operand} {x' y' : X} (ho : o.op = .binOp op t x (.const .nilIface) t') (hop : op = if neg then .neq else .eql) {ms : Array (String × TypeId)} (hu : P.underlying t = some (.interface ms))
    (hx : chkX x x' = true) : Owes G P o (.isNil neg x' y') := by
  have hm : P.underlying t = some (.interface (P.methodsAt t)) := by
    rw [hu]
    simp [Program.methodsAt, hu]
  intro N0 w0 nt st a w next Q K R hd hs hK
  simp only [dsem] at hs
  have hguard : (eqGuard op t x (.const .nilIface) (a.eval x) .nilIface).run P w = .ok () w := by
    unfold eqGuard
    generalize a.eval x = v
    cases op <;> cases v <;> simp
  split at hs
  · rename_i h1 h2
    obtain ⟨N, h⟩ := R.plain hx h1
    have e1 : a.eval x = .nilIface := by generalize a.eval x = v at h ⊢; cases h; rfl
    refine wp_val (v := .bool (true != neg)) (w' := w) ?_ (hK _ _ _ _ hs (R.data _ hd _ _ fun N => .bool _))
    have hbin : (binOp op t (a.eval x) .nilIface).run P w = .ok (.bool (true != neg)) w := by
      rw [e1]
      cases neg <;> simp only [Bool.false_eq_true, if_false, if_true] at hop <;> subst hop
      · exact run_eql_nil_nil w t hm
      · exact run_neq_nil_nil w t hm
    simp only [execOp, ho, Sem.run_bind, Act.eval] at hguard hbin ⊢
    rw [hguard]
    simp only [Result.andThen_ok, hbin, Sem.run_pure]
  · rename_i h1 h2
    obtain ⟨N, h⟩ := R.plain hx h1
    have e1 : ∃ u z, a.eval x = .iface u z := by generalize a.eval x = v at h ⊢; cases h; exact ⟨_, _, rfl⟩
    obtain ⟨u, z, e1⟩ := e1
    refine wp_val (v := .bool (false != neg)) (w' := w) ?_ (hK _ _ _ _ hs (R.data _ hd _ _ fun N => .bool _))
    have hbin : (binOp op t (a.eval x) .nilIface).run P w = .ok (.bool (false != neg)) w := by
      rw [e1]
      cases neg <;> simp only [Bool.false_eq_true, if_false, if_true] at hop <;> subst hop
      · exact run_eql_held_nil w t u z hm
      · exact run_neq_held_nil w t u z hm
    simp only [execOp, ho, Sem.run_bind, Act.eval] at hguard hbin ⊢
    rw [hguard]
    simp only [Result.andThen_ok, hbin, Sem.run_pure]
  · exact hs.elim
end
end Go.Proofs.YtpfhfokfambdaaaGreatDoor.Ev

/-! Rows that are copied, and into which elements are put, by functions of the library. -/
namespace Go.Proofs.YtpfhfokfambdaaaGreatDoor.Ev
open Go.RowKit (Below)

theorem all_len {news : List (List A)} {s : Nat} (h : news.all (fun r => r.length == s && r.all A.one) = true) : (∀ r ∈ news, r.length = s) ∧ ∀ r ∈ news, r.all A.one = true := by
  constructor
  · intro r hr
    have := List.all_eq_true.1 h r hr
    rw [Bool.and_eq_true, beq_iff_eq] at this
    exact this.1
  · intro r hr
    have := List.all_eq_true.1 h r hr
    rw [Bool.and_eq_true] at this
    exact this.2
theorem div_cell {news : List (List A)} {s : Nat} (h : ∀ r ∈ news, r.length = s) {q : Nat} (hq : q < news.length * s) : ∃ r x, news[q / s]? = some r ∧ r[q % s]? = some x ∧ q / s * s + q % s = q := by
  have hs0 : 0 < s := by
    rcases Nat.eq_zero_or_pos s with h0 | h0
    · rw [h0, Nat.mul_zero] at hq; omega
    · exact h0
  have h1 : q / s < news.length := Nat.div_lt_of_lt_mul (by rw [Nat.mul_comm]; exact hq)
  have h2 := List.getElem?_eq_getElem h1
  have h3 : q % s < (news[q / s]).length := by rw [h _ (List.mem_of_getElem? h2)]; exact Nat.mod_lt _ hs0
  exact ⟨_, _, h2, List.getElem?_eq_getElem h3, by rw [Nat.mul_comm]; exact Nat.div_add_mod q s⟩
theorem rows_one {E : Nat → Value} {N : Nat → Prop} {w : World} {rs : List (List A)} {s : Nat} {xs : List Value} (hl : xs.length = rs.length * s) (h : ∀ r ∈ rs, r.length = s) (h1 : ∀ r ∈ rs, r.all A.one = true)
    (hv : ∀ (i j : Nat) (r : List A) (x : A) (u : Value), rs[i]? = some r → r[j]? = some x → xs[i * s + j]? = some u → RvA E N w x u) : ∀ u ∈ xs, u.oneCell' = true := by
  intro u hu
  obtain ⟨q, hq⟩ := List.mem_iff_getElem?.1 hu
  obtain ⟨r, x, g1, g2, g3⟩ := div_cell h (q := q) (by rw [← hl]; exact (List.getElem?_eq_some_iff.1 hq).1)
  exact one_rv (List.all_eq_true.1 (h1 r (List.mem_of_getElem? g1)) x (List.mem_of_getElem? g2)) (hv _ _ r x u g1 g2 (by rw [g3]; exact hq))
theorem ownsRow_same {w : World} {B e s n : Nat} {v : Value} {xs ys : List Value} (h1 : w.ownsRow B e s v n xs) (h2 : w.ownsRow B e s v n ys) : xs = ys := by
  rcases h1.2 with ⟨h, h'⟩ | ⟨g, cp, cur, h, _, g2, _, _, _, g6⟩
  · have e1 : xs.length = 0 := by rw [h1.1, h', Nat.zero_mul]
    have e2 : ys.length = 0 := by rw [h2.1, h', Nat.zero_mul]
    rw [List.eq_nil_of_length_eq_zero e1, List.eq_nil_of_length_eq_zero e2]
  · rcases h2.2 with ⟨h', _⟩ | ⟨g', cp', cur', h', _, k2, _, _, _, k6⟩
    · rw [h'] at h; cases h
    · rw [h'] at h
      cases h
      rw [g2] at k2
      cases k2
      rw [← g6, ← k6]

section
variable {P : Program} {G : World → Prop} {o : Oper}
theorem owes_cloneR {f : FuncId} {os : Array Operand} {ts : Array TypeId} {k e s : Nat} {x' : X} (ho : o.op = .call { callee := .value (.func f), args := os, argTypes := ts }) (hx : chkXs os.toList [x'] = true) : Owes G P o (.cloneR f k e s x') := by
  intro N0 w0 nt st a w next Q K R hd hs hK
  simp only [dsem] at hs
  split at hs
  · rename_i news hnews
    obtain ⟨hk, hall, hlen, hcl, hs⟩ := hs
    obtain ⟨hall1, hall2⟩ := all_len hall
    obtain ⟨hl1, hc⟩ := chkXs_get hx
    obtain ⟨x, hos⟩ : ∃ x, os.toList = [x] := List.length_eq_one_iff.1 (by rw [hl1]; rfl)
    have hxx : chkX x x' = true := hc 0 x x' (by rw [hos]; rfl) rfl
    have hos' : os = #[x] := by apply Array.ext'; simpa using hos
    obtain ⟨E, N, hE, hts⟩ := R.env
    have hev := fun E N hts => chkX_rv (E := E) (N := N) (w := w) (st := st) (a := a) hts hxx
    obtain ⟨Ad, c, y1, y2, y3⟩ := elems_rv hE (hev E N hts) hnews hall1
    let off : Nat := match Ad with | some ad => ad.off | none => 0
    let bb : Nat := match Ad with | some ad => ad.block | none => 0
    let vals : List Value := (List.range (news.length * s)).map fun q => (w.cell? ⟨bb, off + q, none⟩).getD undef
    have hvl : vals.length = news.length * s := by simp [vals]
    have hvals : ∀ E' N', Env N0 w0.heap.size w st.blk E' N' → (∀ i, RvL E' N' w (st.get i) (a.tmps.getD i undef)) →
        ∀ (i j : Nat) (r : List A) (q : A), news[i]? = some r → r[j]? = some q → ∃ u, w.cell? ⟨bb, off + (i * s + j), none⟩ = some u ∧ RvA E' N' w q u := by
      intro E' N' hE' hts' i j r q hr hq
      obtain ⟨Ad2, c2, z1, z2, _⟩ := elems_rv hE' (hev E' N' hts') hnews hall1
      rw [y1] at z1
      cases z1
      obtain ⟨b2, o2, hA2, z3⟩ := z2 (by intro h; rw [h] at hr; simp at hr)
      subst hA2
      exact z3 i j r q hr hq
    have hvq : ∀ q, q < news.length * s → vals[q]? = w.cell? ⟨bb, off + q, none⟩ := by
      intro q hq
      obtain ⟨r, x, h1, h2, h3⟩ := div_cell hall1 hq
      obtain ⟨u, h4, _⟩ := hvals E N hE hts _ _ r x h1 h2
      rw [h3] at h4
      simp only [vals, List.getElem?_map, List.getElem?_range hq, Option.map_some, h4, Option.getD_some]
    have hread : ∀ E' N', Env N0 w0.heap.size w st.blk E' N' → (∀ i, RvL E' N' w (st.get i) (a.tmps.getD i undef)) → ∀ (i j : Nat) (r : List A) (q : A) (u : Value), news[i]? = some r → r[j]? = some q → vals[i * s + j]? = some u → RvA E' N' w q u := by
      intro E' N' hE' hts' i j r q u hr hq hu
      have hlt : i * s + j < news.length * s := by rw [← hvl]; exact (List.getElem?_eq_some_iff.1 hu).1
      rw [hvq _ hlt] at hu
      obtain ⟨u', h1, h2⟩ := hvals E' N' hE' hts' i j r q hr hq
      rw [h1] at hu
      cases hu
      exact h2
    have hrun : (execOp a.eval o).run P w = .ok (.enter f #[.slice Ad news.length c]) w := by
      simp only [execOp, ho, hos', resolve, Act.eval, Deferred.ofValue, Sem.run_bind, Sem.run_pure, Result.andThen_ok, invoke]
      have : (#[] ++ Array.map a.eval #[x] ++ #[] : Array Value) = #[.slice Ad news.length c] := by simp [y1]
      rw [this]
      exact run_callFunc hcl.1 _ _
    unfold Oper.wp
    rw [hrun, Oper.upon_enter]
    refine (hcl.2 w Ad news.length c vals hvl hlen (rows_one hvl hall1 hall2 (hread E N hE hts)) ?_).mono ?_
    · rcases Nat.eq_zero_or_pos news.length with h0 | h0
      · exact .inl h0
      · have hne : news ≠ [] := by intro h; rw [h] at h0; simp at h0
        obtain ⟨b, o', hAd, z3⟩ := y2 hne
        refine .inr ⟨b, o', hAd, fun j u hu => ?_⟩
        have hlt : j < news.length * s := by rw [← hvl]; exact (List.getElem?_eq_some_iff.1 hu).1
        rw [hvq j hlt] at hu
        subst hAd
        exact hu
    · rintro x w' ⟨v, rfl, hown, hb⟩
      simp only
      obtain ⟨Av, cv, hv'⟩ := own_header hown
      have hos2 : Below w0.heap.size w w' := hb.mono R.below.size
      refine hK _ _ _ _ hs (R.slot _ hd _ _ k _ hos2 (fun E' N' hE' hts' => ⟨v, fun b hlt _ => hb.block b hlt, fun bl0 h => (by rw [hk] at h; cases h), fun _ b hbv => ?_, ?_, ?_⟩) (fun j hj => ?_) (fun j hj => ?_))
      · obtain ⟨g1, g2⟩ := hown.lt b (by rw [hv'] at hbv ⊢; cases Av <;> first | (cases hbv; done) | exact hbv)
        exact ⟨fun h => by have := hE'.nlt _ h; omega, Nat.le_trans R.below.size g1, g2, .inr g1⟩
      · refine ⟨vals, ?_, fun i r hi => hall1 r (List.mem_of_getElem? hi), fun i j r q u hr hq hu => ?_⟩
        · obtain ⟨g1, g2⟩ := hown
          refine ⟨g1, ?_⟩
          rcases g2 with g2 | ⟨g, cap, cur, q1, q2, q3⟩
          · exact .inl g2
          · exact .inr ⟨g, cap, cur, q1, Nat.le_trans R.below.size q2, q3⟩
        · have h1 := hread E' N' hE' hts' i j r q u hr hq hu
          refine RvA.mono (E := E') (fun b hb' hlt => hb.block b hlt) (fun _ h _ => h) (fun q' hq' => upd_ne _ _ fun h => ?_) h1
          subst h
          exact y3 r (List.mem_of_getElem? hr) q (List.mem_of_getElem? hq) k hq' hk
      · exact ⟨⟨Av, cv, hv'⟩, Av, _, cv, by rw [upd_same]; exact hv', Nat.le_refl _, fun _ => hv'⟩
      · obtain ⟨r, hr, x, hx, hj⟩ := hj
        by_cases e' : k = j
        · subst e'; rw [upd_same]; simp
        · rw [upd_ne _ _ e']; exact y3 r hr x hx j hj
      · have : k = j := hj
        subst this
        rw [upd_same]; simp
  · exact hs.elim

/-- Appended to a slice, or to none: then in a row of its own. -/
theorem owes_appN {t e : TypeId} {k s bytes : Nat} {x0 y0 : Operand} {x0' y0' : X} (ho : o.op = .call { callee := .builtin .append, args := #[x0, y0], argTypes := #[t, t] }) (ht : P.underlying t = some (.slice e))
    {i : TypeInfo} (hi : P.info? e = some i) {z : Value} (hz : i.zero = some z) (hsize : i.size = s) (hby : i.bytes = bytes) (hzs : z.cells.size = s) (hs0 : 0 < s) (hbytes : bytes ≤ 32768)
    (hx0 : chkX x0 x0' = true) (hxx : chkX y0 y0' = true) : Owes G P o (.appN k e s x0' y0') := by
  intro N0 w0 nt st a w next Q K R hd hs hK
  simp only [dsem] at hs
  split at hs
  rotate_left
  · rename_i j n news he hn
    refine owes_append ho ht hi hz hsize hby hzs hs0 hbytes hx0 hxx N0 w0 nt st a w next Q K R hd ?_ hK
    simp only [dsem]
    rw [he, hn]
    exact hs
  · exact hs.elim
  · rename_i news hnil hnews
    obtain ⟨hk, hall, hlen, hs⟩ := hs
    obtain ⟨hall1, hall2⟩ := all_len hall
    obtain ⟨E, N, hE, hts⟩ := R.env
    have hxnil : a.eval x0 = .slice none 0 0 := by
      have h := chkX_rv (E := E) (N := N) (w := w) (st := st) (a := a) hts hx0
      rw [hnil] at h
      exact h
    have hev := fun E N hts => chkX_rv (E := E) (N := N) (w := w) (st := st) (a := a) hts hxx
    obtain ⟨Ad, c, y1, y2, y3⟩ := elems_rv hE (hev E N hts) hnews hall1
    let off : Nat := match Ad with | some ad => ad.off | none => 0
    let bb : Nat := match Ad with | some ad => ad.block | none => 0
    let vals : List Value := (List.range (news.length * s)).map fun q => (w.cell? ⟨bb, off + q, none⟩).getD undef
    have hvl : vals.length = news.length * s := by simp [vals]
    have hvals : ∀ E' N', Env N0 w0.heap.size w st.blk E' N' → (∀ i, RvL E' N' w (st.get i) (a.tmps.getD i undef)) →
        ∀ (i j : Nat) (r : List A) (q : A), news[i]? = some r → r[j]? = some q → ∃ u, w.cell? ⟨bb, off + (i * s + j), none⟩ = some u ∧ RvA E' N' w q u := by
      intro E' N' hE' hts' i j r q hr hq
      obtain ⟨Ad2, c2, z1, z2, _⟩ := elems_rv hE' (hev E' N' hts') hnews hall1
      rw [y1] at z1
      cases z1
      obtain ⟨b2, o2, hA2, z3⟩ := z2 (by intro h; rw [h] at hr; simp at hr)
      subst hA2
      exact z3 i j r q hr hq
    have hvq : ∀ q, q < news.length * s → vals[q]? = w.cell? ⟨bb, off + q, none⟩ := by
      intro q hq
      obtain ⟨r, x, h1, h2, h3⟩ := div_cell hall1 hq
      obtain ⟨u, h4, _⟩ := hvals E N hE hts _ _ r x h1 h2
      rw [h3] at h4
      simp only [vals, List.getElem?_map, List.getElem?_range hq, Option.map_some, h4, Option.getD_some]
    have hread : ∀ E' N', Env N0 w0.heap.size w st.blk E' N' → (∀ i, RvL E' N' w (st.get i) (a.tmps.getD i undef)) → ∀ (i j : Nat) (r : List A) (q : A) (u : Value), news[i]? = some r → r[j]? = some q → vals[i * s + j]? = some u → RvA E' N' w q u := by
      intro E' N' hE' hts' i j r q u hr hq hu
      have hlt : i * s + j < news.length * s := by rw [← hvl]; exact (List.getElem?_eq_some_iff.1 hu).1
      rw [hvq _ hlt] at hu
      obtain ⟨u', h1, h2⟩ := hvals E' N' hE' hts' i j r q hr hq
      rw [h1] at hu
      cases hu
      exact h2
    have hgo : ∃ v w', (Builtin.append_ #[t, t] o.type #[.slice none 0 0, .slice Ad news.length c]).run P w = .ok v w' ∧ w'.ownsRow w.heap.size e s v news.length vals ∧ Below w.heap.size w w' := by
      rcases Nat.eq_zero_or_pos news.length with h0 | h0
      · have hr := run_append_none (P := P) (w := w) ht hi o.type (Ad := none) (Ad' := Ad) (n := 0) (cap := 0) (c := c) (Nat.le_refl 0)
        refine ⟨_, w, by rw [h0]; exact hr, ?_, Below.refl _ _⟩
        have hv0 : vals = [] := List.eq_nil_of_length_eq_zero (by rw [hvl, h0, Nat.zero_mul])
        rw [hv0, h0]
        exact World.ownsRow_nil w _ e s
      · have hne : news ≠ [] := by intro h; rw [h] at h0; simp at h0
        obtain ⟨b, o', hAd, z3⟩ := y2 hne
        subst hAd
        obtain ⟨v', w', hr, a1, a2, _, a4⟩ := run_append_own_at (P := P) w w.heap.size t o.type e i z s bytes ht hi hz hsize hby hzs hs0 (.slice none 0 0) 0 [] (World.ownsRow_nil w _ e s) ⟨b, o', none⟩ news.length c vals hvl
          (fun j u hu => by
            have hj : j < news.length * s := by rw [← hvl]; exact (List.getElem?_eq_some_iff.1 hu).1
            rw [hvq j hj] at hu
            rw [add_plain]; exact hu)
          (rows_one hvl hall1 hall2 (hread E N hE hts))
          (by simp only [maxLen]; omega) (Nat.le_trans (Nat.mul_le_mul (by omega) hbytes) (by decide : 4294967296 * 32768 ≤ _)) (Nat.le_refl _)
        rw [Nat.zero_add, List.nil_append] at a1
        exact ⟨v', w', hr, a1, ⟨a2.os, a2.tape, a2.output, a2.size, fun b' hb' => a2.block b' hb' (by intro h; cases h)⟩⟩
    obtain ⟨v, w', hr, hown, hb⟩ := hgo
    refine wp_val (v := v) (w' := w') (by simp only [execOp, ho, resolve, invoke, builtin, Sem.run_bind, Sem.run_pure, Result.andThen_ok, List.map_toArray, List.map_cons, List.map_nil, hxnil, y1, hr]) ?_
    · obtain ⟨Av, cv, hv'⟩ := own_header hown
      have hos2 : Below w0.heap.size w w' := hb.mono R.below.size
      refine hK _ _ _ _ hs (R.slot _ hd _ _ k _ hos2 (fun E' N' hE' hts' => ⟨v, fun b hlt _ => hb.block b hlt, fun bl0 h => (by rw [hk] at h; cases h), fun _ b hbv => ?_, ?_, ?_⟩) (fun j hj => ?_) (fun j hj => ?_))
      · obtain ⟨g1, g2⟩ := hown.lt b (by rw [hv'] at hbv ⊢; cases Av <;> first | (cases hbv; done) | exact hbv)
        exact ⟨fun h => by have := hE'.nlt _ h; omega, Nat.le_trans R.below.size g1, g2, .inr g1⟩
      · refine ⟨vals, ?_, fun i r hi => hall1 r (List.mem_of_getElem? hi), fun i j r q u hr hq hu => ?_⟩
        · obtain ⟨g1, g2⟩ := hown
          refine ⟨g1, ?_⟩
          rcases g2 with g2 | ⟨g, cap, cur, q1, q2, q3⟩
          · exact .inl g2
          · exact .inr ⟨g, cap, cur, q1, Nat.le_trans R.below.size q2, q3⟩
        · have h1 := hread E' N' hE' hts' i j r q u hr hq hu
          refine RvA.mono (E := E') (fun b hb' hlt => hb.block b hlt) (fun _ h _ => h) (fun q' hq' => upd_ne _ _ fun h => ?_) h1
          subst h
          exact y3 r (List.mem_of_getElem? hr) q (List.mem_of_getElem? hq) k hq' hk
      · exact ⟨⟨Av, cv, hv'⟩, Av, _, cv, by rw [upd_same]; exact hv', Nat.le_refl _, fun _ => hv'⟩
      · obtain ⟨r, hr, x, hx, hj⟩ := hj
        by_cases e' : k = j
        · subst e'; rw [upd_same]; simp
        · rw [upd_ne _ _ e']; exact y3 r hr x hx j hj
      · have : k = j := hj
        subst this
        rw [upd_same]; simp

theorem owes_insR {f : FuncId} {os : Array Operand} {ts : Array TypeId} {e s : Nat} {x' i' y' : X} (ho : o.op = .call { callee := .value (.func f), args := os, argTypes := ts }) (hx : chkXs os.toList [x', i', y'] = true) : Owes G P o (.insR f e s x' i' y') := by
  intro N0 w0 nt st a w next Q K R hd hs hK
  simp only [dsem] at hs
  split at hs
  · rename_i k n q k2 m h1 h2 h3
    split at hs
    · rename_i e1 s1 rs e2 s2 news hk hk2
      obtain ⟨hn, hm, hb, hm0, hq0, hqn, hlen, hins, hs⟩ := hs
      simp only [Bool.and_eq_true, beq_iff_eq, bne_iff_ne] at hb
      obtain ⟨⟨⟨⟨⟨⟨rfl, rfl⟩, rfl⟩, rfl⟩, hkk⟩, ha1⟩, ha2⟩ := hb
      subst hn hm
      have ha1 : ∀ r ∈ rs, r.all A.one = true := List.all_eq_true.1 ha1
      have ha2 : ∀ r ∈ news, r.all A.one = true := List.all_eq_true.1 ha2
      obtain ⟨hl1, hc⟩ := chkXs_get hx
      obtain ⟨x, i, y, hos⟩ : ∃ x i y, os.toList = [x, i, y] := by
        match h : os.toList with
        | [x, i, y] => exact ⟨x, i, y, rfl⟩
        | [] => rw [h] at hl1; simp at hl1
        | [_] => rw [h] at hl1; simp at hl1
        | [_, _] => rw [h] at hl1; simp at hl1
        | _ :: _ :: _ :: _ :: _ => rw [h] at hl1; simp at hl1
      have hxx : chkX x x' = true := hc 0 x x' (by rw [hos]; rfl) rfl
      have hii : chkX i i' = true := hc 1 i i' (by rw [hos]; rfl) rfl
      have hyy : chkX y y' = true := hc 2 y y' (by rw [hos]; rfl) rfl
      have hos' : os = #[x, i, y] := by apply Array.ext'; simpa using hos
      have hiv := R.int hii h2
      -- the handles
      have hhead : ∀ {X : Operand} {X' : Ev.X} {k : Nat} {rs : List (List A)} {e s : Nat}, chkX X X' = true → st.ev X' = .at (.row k rs.length) → st.blk k = some (.row e s rs) → ∀ E N, Env N0 w0.heap.size w st.blk E N → (∀ i, RvL E N w (st.get i) (a.tmps.getD i undef)) → a.eval X = E k ∧ ∃ Ad c, E k = .slice Ad rs.length c := by
        intro X X' k rs e s hX he hk E N hE hts
        have h := chkX_rv (E := E) (N := N) (w := w) (st := st) (a := a) hts hX
        rw [he] at h
        obtain ⟨_, Ad, m, c, h1, h2, h3⟩ := h
        obtain ⟨xs, h4, _⟩ := hE.con k _ hk
        obtain ⟨Ad', c', h5⟩ := own_header h4
        have h6 := h5
        rw [h1] at h6
        cases h6
        exact ⟨by rw [h3 rfl, h1], Ad, c, h1⟩
      obtain ⟨E, N, hE, hts⟩ := R.env
      obtain ⟨hxv, Ad, cap, hek⟩ := hhead hxx h1 hk E N hE hts
      obtain ⟨hyv, Ad2, cap2, hek2⟩ := hhead hyy h3 hk2 E N hE hts
      obtain ⟨xs, o1, o2, o3⟩ := hE.con k _ hk
      obtain ⟨ys, p1, p2, p3⟩ := hE.con k2 _ hk2
      have hr1 : ∀ r ∈ rs, r.length = s2 := fun r hr => by
        obtain ⟨q, hq⟩ := List.mem_iff_getElem?.1 hr
        exact o2 q r hq
      have hr2 : ∀ r ∈ news, r.length = s2 := fun r hr => by
        obtain ⟨q, hq⟩ := List.mem_iff_getElem?.1 hr
        exact p2 q r hq
      have hlq : q.toNat ≤ rs.length := by omega
      have hrun : (execOp a.eval o).run P w = .ok (.enter f #[E k, .int .i64 (q.toNat : Int), E k2]) w := by
        simp only [execOp, ho, hos', resolve, Act.eval, Deferred.ofValue, Sem.run_bind, Sem.run_pure, Result.andThen_ok, invoke]
        have : (#[] ++ Array.map a.eval #[x, i, y] ++ #[] : Array Value) = #[E k, .int .i64 (q.toNat : Int), E k2] := by
          simp [hxv, hyv, hiv, Int.toNat_of_nonneg hq0]
        rw [this]
        exact run_callFunc hins.1 _ _
      unfold Oper.wp
      rw [hrun, Oper.upon_enter]
      refine (hins.2 w w0.heap.size (E k) (E k2) rs.length news.length q.toNat xs ys o1 p1 R.below.size (fun b hb1 hb2 => hE.dis k k2 _ _ b hk hk2 rfl rfl hkk hb1 hb2) hm0 hlq hlen (rows_one o1.1 hr1 ha1 o3) (rows_one p1.1 hr2 ha2 p3)).mono ?_
      rintro z w' ⟨v', rfl, a1, hbel, hsame, hblk⟩
      simp only
      obtain ⟨Av, cv, hv'⟩ := own_header a1
      have hkeep : ∀ E' N', Env N0 w0.heap.size w st.blk E' N' → ∀ {x : A} {u : Value}, E' k = E k → RvA E' N' w x u → RvA (upd E' k v') N' w' x u := by
        intro E' N' hE' x u hee hxu
        refine RvA.grows (fun j => ?_) (RvA.mono (fun b' hb' hlt => hsame b' hlt fun h => (hE'.live k _ b' hk rfl (by rw [hee]; exact h)).1 hb') (fun _ h _ => h) (fun _ _ => rfl) hxu)
        by_cases e' : k = j
        · subst e'
          rw [upd_same]
          exact .inr ⟨Ad, rs.length, cap, Av, rs.length + news.length, cv, by rw [hee, hek], hv', by omega⟩
        · rw [upd_ne _ _ e']; exact .inl rfl
      refine hK _ _ _ _ hs (R.slot _ hd _ _ k _ hbel (fun E' N' hE' hts' => ?_) (fun j hj => ?_) (fun j hj => ?_))
      · obtain ⟨hxv', _⟩ := hhead hxx h1 hk E' N' hE' hts'
        obtain ⟨hyv', _⟩ := hhead hyy h3 hk2 E' N' hE' hts'
        have hee : E' k = E k := by rw [← hxv', hxv]
        have hee2 : E' k2 = E k2 := by rw [← hyv', hyv]
        refine ⟨v', fun b' hlt h => hsame b' hlt (by rw [← hee]; exact h _ hk rfl), fun _ _ => .inr ⟨Ad, rs.length, cap, Av, rs.length + news.length, cv, by rw [hee, hek], hv', by omega⟩, fun _ b' hb' => ?_, ?_, ?_⟩
        · rcases hblk b' hb' with h | h
          · obtain ⟨e1, e2, e3⟩ := hE'.live k _ b' hk rfl (by rw [hee]; exact h)
            exact ⟨e1, e2, Nat.lt_of_lt_of_le e3 hbel.size, .inl ⟨_, hk, rfl, by rw [hee]; exact h⟩⟩
          · have hlt : b' < w'.heap.size := (a1.lt b' (by rw [hv'] at hb' ⊢; cases Av <;> first | (cases hb'; done) | exact hb')).2
            exact ⟨fun h' => by have := hE'.nlt _ h'; omega, Nat.le_trans R.below.size h, hlt, .inr h⟩
        · obtain ⟨xs', f1, f2, f3⟩ := hE'.con k _ hk
          obtain ⟨ys', g1, g2, g3⟩ := hE'.con k2 _ hk2
          rw [hee] at f1
          rw [hee2] at g1
          have hxs := ownsRow_same f1 o1
          have hys := ownsRow_same g1 p1
          subst hxs hys
          have hlx : xs'.length = rs.length * s2 := f1.1
          have hly : ys'.length = news.length * s2 := g1.1
          have hqs : q.toNat * s2 ≤ rs.length * s2 := Nat.mul_le_mul_right _ hlq
          have htl : (rs.take q.toNat).length = q.toNat := by rw [List.length_take]; omega
          have htx : (xs'.take (q.toNat * s2)).length = q.toNat * s2 := by rw [List.length_take]; omega
          refine ⟨_, by rw [show (rs.take q.toNat ++ news ++ rs.drop q.toNat).length = rs.length + news.length by simp only [List.length_append, List.length_drop, htl]; omega]; exact a1, fun i r hi => ?_, fun i j r x u hr hx hu => ?_⟩
          · have hmem := List.mem_of_getElem? hi
            rw [List.mem_append, List.mem_append] at hmem
            rcases hmem with (h | h) | h
            · exact hr1 r (List.mem_of_mem_take h)
            · exact hr2 r h
            · exact hr1 r (List.mem_of_mem_drop h)
          · rw [List.append_assoc, List.getElem?_append] at hr
            rw [List.append_assoc] at hu
            split at hr
            · rename_i hlt
              rw [htl] at hlt
              rw [List.getElem?_take, if_pos hlt] at hr
              have hj : j < s2 := by rw [← f2 i r hr]; exact (List.getElem?_eq_some_iff.1 hx).1
              have hpos := row_index hlt hj
              rw [List.getElem?_append_left (by rw [htx]; exact hpos), List.getElem?_take, if_pos hpos] at hu
              exact hkeep E' N' hE' hee (f3 i j r x u hr hx hu)
            · rename_i hge
              rw [htl] at hge hr
              have hge : q.toNat ≤ i := by omega
              rw [List.getElem?_append_right (by rw [htx]; have := Nat.mul_le_mul_right s2 hge; omega), htx] at hu
              have hmul : i * s2 + j - q.toNat * s2 = (i - q.toNat) * s2 + j := by
                have : q.toNat * s2 + (i - q.toNat) * s2 = i * s2 := by rw [← Nat.add_mul]; congr 1; omega
                omega
              rw [hmul] at hu
              rw [List.getElem?_append] at hr
              split at hr
              · rename_i hlt
                have hj : j < s2 := by rw [← hr2 r (List.mem_of_getElem? hr)]; exact (List.getElem?_eq_some_iff.1 hx).1
                rw [List.getElem?_append_left (by rw [hly]; exact row_index hlt hj)] at hu
                exact hkeep E' N' hE' hee (g3 _ j r x u hr hx hu)
              · rename_i hge2
                have hge2 : news.length ≤ i - q.toNat := by omega
                rw [List.getElem?_append_right (by rw [hly]; have := Nat.mul_le_mul_right s2 hge2; omega), hly] at hu
                have hmul2 : (i - q.toNat) * s2 + j - news.length * s2 = (i - q.toNat - news.length) * s2 + j := by
                  have : news.length * s2 + (i - q.toNat - news.length) * s2 = (i - q.toNat) * s2 := by rw [← Nat.add_mul]; congr 1; omega
                  omega
                rw [hmul2, List.getElem?_drop] at hu
                rw [List.getElem?_drop] at hr
                have : q.toNat * s2 + ((i - q.toNat - news.length) * s2 + j) = (q.toNat + (i - q.toNat - news.length)) * s2 + j := by rw [Nat.add_mul]; omega
                rw [this] at hu
                exact hkeep E' N' hE' hee (f3 _ j r x u hr hx hu)
        · exact ⟨⟨Av, cv, hv'⟩, Av, _, cv, by rw [upd_same]; exact hv', Nat.le_refl _, fun _ => hv'⟩
      · obtain ⟨r, hr, x, hx, hj⟩ := hj
        by_cases e' : k = j
        · subst e'; rw [upd_same]; simp
        · rw [upd_ne _ _ e']
          rw [List.mem_append, List.mem_append] at hr
          rcases hr with (h | h) | h
          · exact hE.wf k _ j hk ⟨r, List.mem_of_mem_take h, x, hx, hj⟩
          · exact hE.wf k2 _ j hk2 ⟨r, h, x, hx, hj⟩
          · exact hE.wf k _ j hk ⟨r, List.mem_of_mem_drop h, x, hx, hj⟩
      · have : k = j := hj
        subst this
        rw [upd_same]; simp
    · exact hs.elim
  · exact hs.elim
end
end Go.Proofs.YtpfhfokfambdaaaGreatDoor.Ev
