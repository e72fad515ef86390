/- A part of the proof of a law of this seat: EvNM, EvP, EvQ, EvR, EvS, EvT, EvU, EvUS, EvV, EvW, EvX, EvY; no conditions. -/
import Derived.Maps.RangeRun
import Derived.Carry
import Derived.Test.YtpfhfokfambdaaaGreatDoorDca
/-! Maps of the call's own; calls that only read. -/
namespace Go.Proofs.YtpfhfokfambdaaaGreatDoor.Ev
open Go.RowKit (Below)
open Go.ChangeMaps (setBlock)

/-- The blocks that may be read, with all that are the call's own. -/
def Nall (N : Nat → Prop) (E : Nat → Value) (blk : Nat → Option Blk) (b : Nat) : Prop :=
  N b ∨ ∃ k bl, blk k = some bl ∧ bl.live = true ∧ blkOf (E k) = some b

section
variable {E : Nat → Value} {N : Nat → Prop} {w : World} {N0 : Base} {B : Nat} {blk : Nat → Option Blk}
theorem Nadd.all {ks : List Nat} {b : Nat} (h : Nadd N E blk ks b) : Nall N E blk b := by
  rcases h with h | ⟨k, bl, _, h1, h2, h3⟩
  · exact .inl h
  · exact .inr ⟨k, bl, h1, h2, h3⟩
theorem A.pub2_rv (hE : Env N0 B w blk E N) {x : A} {d : D} {v : Value} (h : x.pub2 blk = some d) (hr : RvA E N w x v) : Rv (Nall N E blk) w d v := by
  unfold A.pub2 at h
  split at h
  · rename_i d' hd
    cases h
    exact Rv.wide (fun b hb => Nadd.all hb) (A.pub_rv hE hd hr).1
  · split at h
    · rename_i k n hkn
      split at h
      · rename_i e s rs hk
        split at h
        · rename_i hn
          simp only [Option.map_eq_some_iff] at h
          obtain ⟨rows, hrows, rfl⟩ := h
          obtain ⟨hl, hp⟩ := pubs_get hrows
          have hc := hE.con k _ hk
          obtain ⟨xs, h1, h2, h3⟩ := hc
          obtain ⟨_, Ad, m, c, he, hm, heq⟩ := hr
          have key : ∀ (i j : Nat) (r : List A) (x : A) (u : Value), rs[i]? = some r → r[j]? = some x → xs[i * s + j]? = some u → ∃ ds d, rows[i]? = some ds ∧ ds[j]? = some d ∧ Rv (Nall N E blk) w d u := by
            intro i j r x u hr hx hu
            obtain ⟨ds, hds, hpr⟩ := hp i r hr
            obtain ⟨_, hp2⟩ := pubs_get hpr
            obtain ⟨d, hd, hpd⟩ := hp2 j x hx
            exact ⟨ds, d, hds, hd, Rv.wide (fun b hb => Nadd.all hb) (A.pub_rv hE hpd (h3 i j r x u hr hx hu)).1⟩
          rcases h1.2 with ⟨g, g'⟩ | ⟨g, cp, cur, g0, g1, g2, g3, _⟩
          · have : rows = [] := List.eq_nil_of_length_eq_zero (by omega)
            subst this
            rw [g] at he
            cases he
            rw [heq (by omega)]
            exact .sliceE _ _
          · rw [g0] at he
            cases he
            rw [heq hn, hl]
            refine Rv.mk_slice (s := s) (.inr ⟨k, _, hk, rfl, by rw [g0]; rfl⟩) (Array.getElem?_eq_some_iff.1 g2).1 (by omega) (fun i r hi => ?_) (fun i j r d hi hj => ?_)
            · have hlt : i < rs.length := by rw [hl]; exact (List.getElem?_eq_some_iff.1 hi).1
              have hx := List.getElem?_eq_getElem hlt
              obtain ⟨y, hy, hpy⟩ := hp i _ hx
              rw [hi] at hy
              cases hy
              rw [← (pubs_get hpy).1]
              exact h2 i _ hx
            · have hlt : i < rs.length := by rw [hl]; exact (List.getElem?_eq_some_iff.1 hi).1
              have hx := List.getElem?_eq_getElem hlt
              obtain ⟨y, hy, hpy⟩ := hp i _ hx
              rw [hi] at hy
              cases hy
              obtain ⟨hl2, hp2⟩ := pubs_get hpy
              have hlt2 : j < (rs[i]).length := by rw [hl2]; exact (List.getElem?_eq_some_iff.1 hj).1
              have hx2 := List.getElem?_eq_getElem hlt2
              obtain ⟨y2, hy2, hpy2⟩ := hp2 j _ hx2
              rw [hj] at hy2
              cases hy2
              obtain ⟨u, hu1, hu2⟩ := row_cells hE hk g0 hx hx2
              exact ⟨u, by rw [Nat.zero_add]; exact hu1, Rv.wide (fun b hb => Nadd.all hb) (A.pub_rv hE hpy2 hu2).1⟩
        · cases h
      · cases h
    · cases h
theorem L.pub2_rv (hE : Env N0 B w blk E N) {l : L} {d : D} {v : Value} (h : l.pub2 blk = some d) (hr : RvL E N w l v) : Rv (Nall N E blk) w d v := by
  cases l with
  | «at» x => exact A.pub2_rv hE h hr
  | tup ms => cases h
  | agg cs =>
    simp only [L.pub2, Option.map_eq_some_iff] at h
    obtain ⟨ds, hds, rfl⟩ := h
    obtain ⟨hl, hp⟩ := pubs_get hds
    obtain ⟨vs, e1, e2, e3⟩ := hr
    rw [e1]
    refine .agg ds vs (by omega) fun i d u hd hu => ?_
    have hlt : i < cs.length := by rw [hl]; exact (List.getElem?_eq_some_iff.1 hd).1
    have hc := List.getElem?_eq_getElem hlt
    obtain ⟨d', hd', hpd⟩ := hp i _ hc
    rw [hd] at hd'
    cases hd'
    exact A.pub2_rv hE hpd (e3 i _ u hc hu)

theorem getKV_get : ∀ {kvs : List (List UInt8 × A)} {s : List UInt8}, (∃ (i : Nat) (p : List UInt8 × A), getKV kvs s = some p.2 ∧ kvs[i]? = some p ∧ p.1 = s ∧ ∀ (j : Nat) (q : List UInt8 × A), j < i → kvs[j]? = some q → q.1 ≠ s) ∨ (getKV kvs s = none ∧ ∀ (j : Nat) (q : List UInt8 × A), kvs[j]? = some q → q.1 ≠ s)
  | [], s => .inr ⟨rfl, fun j q h => by simp at h⟩
  | (t, a) :: r, s => by
    simp only [getKV]
    by_cases e : t = s
    · subst e
      exact .inl ⟨0, (t, a), by simp, rfl, rfl, fun j q h => by omega⟩
    · rw [if_neg e]
      rcases getKV_get (kvs := r) (s := s) with ⟨i, p, h1, h2, h3, h4⟩ | ⟨h1, h2⟩
      · refine .inl ⟨i + 1, p, h1, by simpa using h2, h3, fun j q hj hq => ?_⟩
        cases j with
        | zero => simp at hq; subst hq; exact e
        | succ j => exact h4 j q (by omega) (by simpa using hq)
      · refine .inr ⟨h1, fun j q hq => ?_⟩
        cases j with
        | zero => simp at hq; subst hq; exact e
        | succ j => exact h2 j q (by simpa using hq)
theorem putKV_old : ∀ {kvs : List (List UInt8 × A)} {s : List UInt8} {a : A} {i : Nat}, (∃ p : List UInt8 × A, kvs[i]? = some p ∧ p.1 = s) → (∀ (j : Nat) (q : List UInt8 × A), j < i → kvs[j]? = some q → q.1 ≠ s) → putKV kvs s a = kvs.modify i fun p => (p.1, a)
  | [], s, a, i, ⟨p, hp, _⟩, _ => by simp at hp
  | (t, b) :: r, s, a, i, ⟨p, hp, hs⟩, h => by
    simp only [putKV]
    cases i with
    | zero => simp at hp; subst hp; simp only at hs; subst hs; simp
    | succ i =>
      rw [if_neg (h 0 (t, b) (by omega) rfl), putKV_old (i := i) ⟨p, by simpa using hp, hs⟩ fun j q hj hq => h (j + 1) q (by omega) (by simpa using hq)]
      simp
theorem putKV_new : ∀ {kvs : List (List UInt8 × A)} {s : List UInt8} {a : A}, (∀ (j : Nat) (q : List UInt8 × A), kvs[j]? = some q → q.1 ≠ s) → putKV kvs s a = kvs ++ [(s, a)]
  | [], s, a, _ => rfl
  | (t, b) :: r, s, a, h => by
    simp only [putKV]
    rw [if_neg (h 0 (t, b) rfl), putKV_new fun j q hq => h (j + 1) q (by simpa using hq)]
    rfl
end

section
variable {P : Program} {G : World → Prop} {o : Oper} {N0 : Base} {w0 : World} {nt : Nat} {st : St} {a : Act} {w : World} {next : Act → World → Prop} {Q : Exit → Act → World → Prop} {K : L → List (Nat × Blk) → Prop}

theorem owes_callF {f : FuncId} {os : Array Operand} {ts : Array TypeId} {xs : List X} (ho : o.op = .call { callee := .value (.func f), args := os, argTypes := ts }) (hx : chkXs os.toList xs = true) : Owes G P o (.callF f xs) := by
  intro N0 w0 nt st a w next Q K R hd hs hK
  simp only [dsem] at hs
  split at hs
  · rename_i ds hds
    obtain ⟨r, hsat, hfl, hs⟩ := hs
    obtain ⟨E, N, hE, hts⟩ := R.env
    obtain ⟨hl1, hc⟩ := chkXs_get hx
    obtain ⟨hl2, hp⟩ := pubs_get hds
    have hrun : (execOp a.eval o).run P w = .ok (.enter f (os.toList.map a.eval).toArray) w := by
      have : os.map a.eval = (os.toList.map a.eval).toArray := by apply Array.ext'; simp
      simp only [execOp, ho, resolve, Act.eval, Deferred.ofValue, Sem.run_bind, Sem.run_pure, Result.andThen_ok, invoke]
      rw [show (#[] ++ Array.map a.eval os ++ #[] : Array Value) = (os.toList.map a.eval).toArray by rw [this]; simp]
      exact run_callFunc hsat.1 _ _
    unfold Oper.wp
    rw [hrun, Oper.upon_enter]
    refine (hsat.2 (Nall N E st.blk) w (os.toList.map a.eval) (by rw [List.length_map]; omega) (fun i d v hd hv => ?_) (fun b hb => ?_) (R.stab _ _ R.good R.below)).mono ?_
    · have hlt : i < xs.length := by rw [hl2]; exact (List.getElem?_eq_some_iff.1 hd).1
      have hxi := List.getElem?_eq_getElem hlt
      rw [List.getElem?_map, Option.map_eq_some_iff] at hv
      obtain ⟨op, ho', rfl⟩ := hv
      obtain ⟨d', hd', hpd⟩ := hp i _ hxi
      rw [hd] at hd'
      cases hd'
      exact L.pub2_rv hE hpd (chkX_rv hts (hc i op _ ho' hxi))
    · rcases hb with hb | ⟨k, bl, h1, h2, h3⟩
      · exact hE.nlt b hb
      · exact (hE.live k bl b h1 h2 h3).2.2
    · rintro e w' ⟨v, rfl, hb, hr⟩
      exact hK _ _ _ _ hs (R.fresh _ hd hb r v fun N' _ => Rv.flat hfl hr)
  · exact hs.elim

theorem owes_mkMap {t : TypeId} {k : Nat} (ho : o.op = .makeMap t none) : Owes G P o (.mkMap k) := by
  intro N0 w0 nt st a w next Q K R hd hs hK
  simp only [dsem] at hs
  obtain ⟨hk, hs⟩ := hs
  refine wp_val (v := .map (some w.heap.size)) (w' := w.alloc (.map #[] 0)) (by simp only [execOp, ho, Option.map_none, Sem.run_bind]; rw [show (Instr.makeMap t none).run P w = .ok (.map (some w.heap.size)) (w.alloc (.map #[] 0)) from rfl]; rfl) (hK _ _ _ _ hs ?_)
  refine R.slot _ hd _ _ k (.mp []) ((below_alloc w _).mono R.below.size) (fun E N hE hts => ⟨.map (some w.heap.size), fun b hb _ => Go.RowKit.Below.heap_alloc w _ _ hb, fun bl0 h => ?_, fun _ b hb => ?_, ?_, ?_⟩) (fun j hj => ?_) (fun j hj => ?_)
  · rw [hk] at h; cases h
  · cases hb
    exact ⟨fun h => Nat.lt_irrefl _ (hE.nlt _ h), R.below.size, by simp, .inr (Nat.le_refl _)⟩
  · exact ⟨_, #[], rfl, heap_alloc_new w _, rfl, fun i p e hp => by simp at hp⟩
  · exact ⟨w.heap.size, upd_same _ _ _, rfl⟩
  · obtain ⟨x, hx, _⟩ := hj
    simp at hx
  · have : k = j := hj
    subst this
    rw [upd_same]; simp

theorem findNow_get {s : List UInt8} : ∀ {kvs : List (List UInt8 × A)} {es : List MapEntry} (i0 : Nat), es.length = kvs.length → (∀ (i : Nat) (p : List UInt8 × A) (e : MapEntry), kvs[i]? = some p → es[i]? = some e → e.key = .string ⟨p.1.toArray⟩) →
    (∀ (i : Nat) (e : MapEntry), es[i]? = some e → (∃ p : List UInt8 × A, kvs[i]? = some p ∧ p.1 = s) → (∀ (j : Nat) (q : List UInt8 × A), j < i → kvs[j]? = some q → q.1 ≠ s) → Instr.findNow .string (.string ⟨s.toArray⟩) es i0 = some (some (i0 + i, e.val))) ∧
    ((∀ (j : Nat) (q : List UInt8 × A), kvs[j]? = some q → q.1 ≠ s) → Instr.findNow .string (.string ⟨s.toArray⟩) es i0 = some none)
  | [], [], i0, _, _ => ⟨fun i e h => by simp at h, fun _ => rfl⟩
  | p :: kvs, e :: es, i0, hl, hk => by
    have hl' : es.length = kvs.length := by simpa using hl
    obtain ⟨ih1, ih2⟩ := findNow_get (s := s) (i0 + 1) hl' (fun i p e hp he => hk (i + 1) p e (by simpa using hp) (by simpa using he))
    have h0 := hk 0 p e rfl rfl
    have hsame : Instr.sameNow .string (.string ⟨s.toArray⟩) e.key = some (decide (s = p.1)) := by
      rw [h0]
      simp only [Instr.sameNow, Option.some.injEq, beq_toListBytes, ByteArray.toList_mk]
      by_cases e : s = p.1
      · subst e; simp
      · rw [decide_eq_false e]
        simpa using e
    refine ⟨fun i e' he hp hj => ?_, fun h => ?_⟩
    · cases i with
      | zero =>
        obtain ⟨q, hq, hqs⟩ := hp
        simp at hq he
        subst hq; subst he
        simp only [Instr.findNow, hsame, hqs, decide_true, Nat.add_zero]
      | succ i =>
        have hne := hj 0 p (by omega) rfl
        have := ih1 i e' (by simpa using he) (by obtain ⟨q, hq, hqs⟩ := hp; exact ⟨q, by simpa using hq, hqs⟩) fun j q h1 h2 => hj (j + 1) q (by omega) (by simpa using h2)
        simp only [Instr.findNow, hsame]
        rw [decide_eq_false (fun e => hne e.symm)]
        rw [this, show i0 + 1 + i = i0 + (i + 1) by omega]
    · have hne := h 0 p rfl
      simp only [Instr.findNow, hsame]
      rw [decide_eq_false (fun e => hne e.symm)]
      exact ih2 fun j q hq => h (j + 1) q (by simpa using hq)
  | [], _ :: _, _, hl, _ => by simp at hl
  | _ :: _, [], _, hl, _ => by simp at hl

theorem checkKey_str {kt : TypeId} (hu : P.underlying kt = some .string) (q : Bool) (v : Value) (w : World) : (Instr.checkKey q 10000 kt v).run P w = .ok () w := by
  unfold Instr.checkKey
  simp only [Sem.run_bind, run_underlying hu, Result.andThen_ok]
  rfl

theorem owes_lookup {t kt et : TypeId} {ok : Bool} {z : A} {x key : Operand} {x' key' : X} (ho : o.op = .lookup t x key ok) (hu : P.underlying t = some (.map kt et)) (hk : P.underlying kt = some .string) {zv : Value} (hz : ∀ w, (zeroValue et).run P w = .ok zv w) (hzz : atomOk zv z = true)
    (hx : chkX x x' = true) (hkx : chkX key key' = true) : Owes G P o (.lookup ok z x' key') := by
  intro N0 w0 nt st a w next Q K R hd hs hK
  simp only [dsem] at hs
  split at hs
  · rename_i k s h1 h2
    split at hs
    · rename_i kvs hb
      have hkey := R.str hkx h2
      obtain ⟨E, N, hE, hts⟩ := R.env
      have hxv := chkX_rv hts hx
      rw [h1] at hxv
      obtain ⟨b, e1, e2⟩ := hxv
      obtain ⟨b', es, c1, c2, c3, c4⟩ := hE.con k _ hb
      rw [e1] at c1
      cases c1
      have hl : es.toList.length = kvs.length := by simpa using c3
      have hfk : ∀ (i : Nat) (p : List UInt8 × A) (e : MapEntry), kvs[i]? = some p → es.toList[i]? = some e → e.key = .string ⟨p.1.toArray⟩ := fun i p e hp he => (c4 i p e hp (by simpa using he)).1
      obtain ⟨f1, f2⟩ := findNow_get (s := s) 0 hl hfk
      have hgo : (getObj b).run P w = .ok (.map es kvs.length) w := by simp [getObj, Sem.run, c2]
      rcases getKV_get (kvs := kvs) (s := s) with ⟨i, p, g1, g2, g3, g4⟩ | ⟨g1, g2⟩
      · rw [g1] at hs
        simp only at hs
        have hi : i < es.toList.length := by rw [hl]; exact (List.getElem?_eq_some_iff.1 g2).1
        have he := List.getElem?_eq_getElem hi
        have hf := f1 i _ he ⟨p, g2, g3⟩ g4
        have hv : ∀ E N, Env N0 w0.heap.size w st.blk E N → (∀ i, RvL E N w (st.get i) (a.tmps.getD i undef)) → RvA E N w p.2 (es.toList[i]).val := by
          intro E N hE hts
          have hxv := chkX_rv hts hx
          rw [h1] at hxv
          obtain ⟨b1, e1', e2'⟩ := hxv
          rw [e2] at e2'
          cases e2'
          obtain ⟨b2, es', d1, d2, _, d4⟩ := hE.con k _ hb
          rw [e1'] at d1
          cases d1
          rw [c2] at d2
          cases d2
          exact (d4 i p _ g2 (by simp)).2.2
        refine wp_val (v := if ok then .tuple #[(es.toList[i]).val, .bool true] else (es.toList[i]).val) (w' := w) ?_ (hK _ _ _ _ hs (R.value _ hd _ _ (fun E N hE hts => ?_) ?_))
        · simp only [execOp, ho, e2, hkey, Instr.lookup, Sem.run_bind, run_underlying hu, Result.andThen_ok, hgo, Sem.run_pure, checkKey_str hk, Instr.findKey, run_underlying hk, hf]
        · cases ok
          · exact hv E N hE hts
          · refine ⟨[_, _], rfl, rfl, fun j m u hm hu => ?_⟩
            match j with
            | 0 => simp at hm hu; subst hm; subst hu; exact hv E N hE hts
            | 1 => simp at hm hu; subst hm; subst hu; exact .bool true
            | j + 2 => simp at hm
        · intro j hj
          have hmen : p.2.men j := by
            cases ok
            · exact hj
            · obtain ⟨m, hm, hmj⟩ := hj
              simp at hm
              rcases hm with rfl | rfl
              · exact hmj
              · exact hmj.elim
          exact hE.wf k _ j hb ⟨p, List.mem_of_getElem? g2, hmen⟩
      · rw [g1] at hs
        simp only at hs
        have hf := f2 g2
        have hzrv := fun E N => atomOk_rv (E := E) (N := N) (w := w) hzz
        refine wp_val (v := if ok then .tuple #[zv, .bool false] else zv) (w' := w) ?_ (hK _ _ _ _ hs (R.value _ hd _ _ (fun E N hE hts => ?_) ?_))
        · simp only [execOp, ho, e2, hkey, Instr.lookup, Sem.run_bind, run_underlying hu, Result.andThen_ok, hgo, Sem.run_pure, checkKey_str hk, Instr.findKey, run_underlying hk, hf, hz]
        · cases ok
          · exact (hzrv E N).1
          · refine ⟨[_, _], rfl, rfl, fun j m u hm hu => ?_⟩
            match j with
            | 0 => simp at hm hu; subst hm; subst hu; exact (hzrv E N).1
            | 1 => simp at hm hu; subst hm; subst hu; exact .bool false
            | j + 2 => simp at hm
        · intro j hj
          have hmen : z.men j := by
            cases ok
            · exact hj
            · obtain ⟨m, hm, hmj⟩ := hj
              simp at hm
              rcases hm with rfl | rfl
              · exact hmj
              · exact hmj.elim
          exact absurd hmen ((hzrv E N).2 j)
    · exact hs.elim
  · exact hs.elim

theorem heap_setBlock_self {w : World} {b : Nat} {o o' : Obj} (h : w.heap[b]? = some o') : (setBlock w b o).heap[b]? = some o := by
  simp [setBlock, (Array.getElem?_eq_some_iff.1 h).1]
theorem heap_setBlock_ne {w : World} {b j : Nat} {o : Obj} (h : b ≠ j) : (setBlock w b o).heap[j]? = w.heap[j]? := by
  simp [setBlock, h]
theorem below_setBlock {w : World} {b B : Nat} (o : Obj) (h : B ≤ b) : Below B w (setBlock w b o) :=
  ⟨rfl, rfl, rfl, by simp [setBlock], fun k hk => heap_setBlock_ne (by omega)⟩

theorem owes_mapUpd {t kt et : TypeId} {x key v : Operand} {x' key' v' : X} (ho : o.op = .mapUpdate t x key v ∨ o.op = .insert t x key v) (hu : P.underlying t = some (.map kt et)) (hk : P.underlying kt = some .string)
    (hx : chkX x x' = true) (hkx : chkX key key' = true) (hvx : chkX v v' = true) : Owes G P o (.mapUpd x' key' v') := by
  intro N0 w0 nt st a w next Q K R hd hs hK
  simp only [dsem] at hs
  split at hs
  · rename_i k s av h1 h2 h3
    obtain ⟨hone, hs⟩ := hs
    split at hs
    · rename_i kvs hb
      have hkey := R.str hkx h2
      obtain ⟨E, N, hE, hts⟩ := R.env
      have hxv := chkX_rv hts hx
      rw [h1] at hxv
      obtain ⟨b, e1, e2⟩ := hxv
      obtain ⟨b', es, c1, c2, c3, c4⟩ := hE.con k _ hb
      rw [e1] at c1
      cases c1
      have hl : es.toList.length = kvs.length := by simpa using c3
      have hfk : ∀ (i : Nat) (p : List UInt8 × A) (e : MapEntry), kvs[i]? = some p → es.toList[i]? = some e → e.key = .string ⟨p.1.toArray⟩ := fun i p e hp he => (c4 i p e hp (by simpa using he)).1
      obtain ⟨f1, f2⟩ := findNow_get (s := s) 0 hl hfk
      have hgo : (getObj b).run P w = .ok (.map es kvs.length) w := by simp [getObj, Sem.run, c2]
      have hlive := hE.live k _ b hb rfl (by rw [e1]; rfl)
      have hav : ∀ E N, (∀ i, RvL E N w (st.get i) (a.tmps.getD i undef)) → RvA E N w av (a.eval v) := fun E N hts => by
        have := chkX_rv hts hvx
        rw [h3] at this
        exact this
      have hmav : ∀ j, av.men j → st.blk j ≠ none := fun j hj => chkX_men R.twf hvx j (by rw [h3]; exact hj)
      -- the world behind
      have fin : ∀ es' : Array MapEntry, (Instr.mapUpdate t (a.eval x) (a.eval key) (a.eval v)).run P w = .ok () (setBlock w b (.map es' (putKV kvs s av).length)) →
          es'.size = (putKV kvs s av).length → (∀ (i : Nat) (p : List UInt8 × A) (e : MapEntry), (putKV kvs s av)[i]? = some p → es'[i]? = some e → e.key = .string ⟨p.1.toArray⟩ ∧ e.born = i ∧
            ((p.2 = av ∧ e.val = a.eval v) ∨ ∃ (i' : Nat) (p' : List UInt8 × A) (e' : MapEntry), kvs[i']? = some p' ∧ es[i']? = some e' ∧ p'.2 = p.2 ∧ e'.val = e.val)) → o.wp P a w next Q := by
        intro es' hrun hsz hes
        have hex : (execOp a.eval o).run P w = .ok .skip (setBlock w b (.map es' (putKV kvs s av).length)) := by
          rcases ho with ho | ho <;> simp only [execOp, ho, Sem.run_bind, hrun, Result.andThen_ok, Sem.run_pure]
        unfold Oper.wp
        rw [hex]
        refine hK _ _ (a.put o.dst undef) _ hs ?_
        · refine R.slot _ hd _ _ k (.mp (putKV kvs s av)) (below_setBlock _ hlive.2.1) (fun E1 N1 hE1 hts1 => ?_) (fun j hj => ?_) (fun j hj => hj.elim)
          have hxv1 := chkX_rv hts1 hx
          rw [h1] at hxv1
          obtain ⟨b1, g1, g2⟩ := hxv1
          rw [e2] at g2
          cases g2
          obtain ⟨b2, es2, d1, d2, d3, d4⟩ := hE1.con k _ hb
          rw [g1] at d1
          cases d1
          rw [c2] at d2
          cases d2
          have hlive1 := hE1.live k _ b hb rfl (by rw [g1]; rfl)
          have hother : ∀ j : Nat, j ≠ b → (setBlock w b (.map es' (putKV kvs s av).length)).heap[j]? = w.heap[j]? := fun j hj => heap_setBlock_ne (fun e => hj e.symm)
          have hup : upd E1 k (E1 k) = E1 := by funext j; simp only [upd]; split <;> simp_all
          refine ⟨E1 k, fun j hj hne => hother j (fun e => hne _ hb rfl (by rw [g1, e]; rfl)), fun _ _ => .inl rfl, fun _ j hj => ?_, ?_, trivial⟩
          · rw [g1] at hj
            cases hj
            exact ⟨hlive1.1, hlive1.2.1, by simp [setBlock]; exact hlive1.2.2, .inl ⟨_, hb, rfl, by rw [g1]; rfl⟩⟩
          · rw [hup]
            have hN : ∀ j, N1 j → j < w.heap.size → (setBlock w b (.map es' (putKV kvs s av).length)).heap[j]? = w.heap[j]? := fun j hj _ => hother j (fun e => hlive1.1 (e ▸ hj))
            refine ⟨b, es', g1, heap_setBlock_self c2, hsz, fun i p e hp he => ?_⟩
            obtain ⟨q1, q2, q3⟩ := hes i p e hp he
            refine ⟨q1, q2, ?_⟩
            rcases q3 with ⟨q3, q4⟩ | ⟨i', p', e', q3, q4, q5, q6⟩
            · rw [q3, q4]
              exact RvA.mono hN (fun _ h _ => h) (fun _ _ => rfl) (hav E1 N1 hts1)
            · rw [← q5, ← q6]
              exact RvA.mono hN (fun _ h _ => h) (fun _ _ => rfl) (d4 i' p' e' q3 q4).2.2
          · obtain ⟨p, hp, hpj⟩ := hj
            have : st.blk j ≠ none := by
              obtain ⟨i, hi⟩ := List.mem_iff_getElem?.1 hp
              have hlt : i < es'.size := by rw [hsz]; exact (List.getElem?_eq_some_iff.1 hi).1
              obtain ⟨_, _, q3⟩ := hes i p _ hi (Array.getElem?_eq_getElem hlt)
              rcases q3 with ⟨q3, _⟩ | ⟨i', p', e', q3, _, q5, _⟩
              · exact hmav j (q3 ▸ hpj)
              · exact hE.wf k _ j hb ⟨p', List.mem_of_getElem? q3, by rw [q5]; exact hpj⟩
            by_cases e : k = j
            · subst e; rw [upd_same]; simp
            · rw [upd_ne _ _ e]; exact this
      have hso : ∀ o', (setObj b o').run P w = .ok () (setBlock w b o') := fun o' => by simp [setObj, Sem.run, c2, setBlock]
      rcases getKV_get (kvs := kvs) (s := s) with ⟨i, p, g1, g2, g3, g4⟩ | ⟨g1, g2⟩
      · have hi : i < es.size := by rw [c3]; exact (List.getElem?_eq_some_iff.1 g2).1
        have he : es.toList[i]? = some es[i] := by simp [hi]
        have hf := f1 i _ he ⟨p, g2, g3⟩ g4
        have hput := putKV_old (a := av) ⟨p, g2, g3⟩ g4
        have hpl : (putKV kvs s av).length = kvs.length := by rw [hput, List.length_modify]
        have hek := (c4 i p es[i] g2 (by simp [hi])).1
        have hkeep : ∀ w, (Instr.keyThatStays es[i].key (.string ⟨s.toArray⟩)).run P w = .ok (.string ⟨s.toArray⟩) w := by
          intro w
          rw [hek, g3]
          simp [Instr.keyThatStays, Instr.sameBits, beq_toListBytes]
        refine fin (es.modify i fun e => { e with key := .string ⟨s.toArray⟩, val := a.eval v }) ?_ (by rw [Array.size_modify, hpl, c3]) (fun i' p' e' hp' he' => ?_)
        · simp only [e2, hkey, Instr.mapUpdate, Sem.run_bind, run_underlying hu, Result.andThen_ok, hgo, checkKey_str hk, Instr.findKey, run_underlying hk, hf, Sem.run_pure]
          have : ((es[0 + i]?).map fun e => e.key).getD (.string ⟨s.toArray⟩) = es[i].key := by simp [hi]
          simp only [Nat.zero_add] at this ⊢
          simp only [this, hkeep, Result.andThen_ok, hso, hpl]
        · rw [hput] at hp'
          by_cases e : i = i'
          · subst e
            rw [List.getElem?_modify_eq, g2] at hp'
            rw [Array.getElem?_modify] at he'
            simp [hi] at hp' he'
            subst hp'; subst he'
            exact ⟨by rw [← g3], (c4 i p es[i] g2 (by simp [hi])).2.1, .inl ⟨rfl, rfl⟩⟩
          · have hp' : kvs[i']? = some p' := by
              rw [List.getElem?_modify] at hp'
              simpa [e] using hp'
            rw [Array.getElem?_modify, if_neg e] at he'
            obtain ⟨q1, q2, q3⟩ := c4 i' p' e' hp' he'
            exact ⟨q1, q2, .inr ⟨i', p', e', hp', he', rfl, rfl⟩⟩
      · have hf := f2 g2
        have hput := putKV_new (a := av) g2
        have hpl : (putKV kvs s av).length = kvs.length + 1 := by rw [hput]; simp
        refine fin (es.push { key := .string ⟨s.toArray⟩, val := a.eval v, born := kvs.length }) ?_ (by rw [Array.size_push, hpl, c3]) (fun i' p' e' hp' he' => ?_)
        · simp only [e2, hkey, Instr.mapUpdate, Sem.run_bind, run_underlying hu, Result.andThen_ok, hgo, checkKey_str hk, Instr.findKey, run_underlying hk, hf, Sem.run_pure, hso, hpl]
        · rw [hput] at hp'
          rw [Array.getElem?_push] at he'
          rw [List.getElem?_append] at hp'
          split at he'
          · rename_i e
            rw [if_neg (by omega)] at hp'
            have : i' - kvs.length = 0 := by omega
            rw [this] at hp'
            simp at hp' he'
            subst hp'; subst he'
            exact ⟨rfl, by simp only; omega, .inl ⟨rfl, rfl⟩⟩
          · rename_i e
            have hlt : i' < es.size := (Array.getElem?_eq_some_iff.1 he').1
            rw [if_pos (by omega)] at hp'
            obtain ⟨q1, q2, q3⟩ := c4 i' p' e' hp' he'
            exact ⟨q1, q2, .inr ⟨i', p', e', hp', he', rfl, rfl⟩⟩
    · exact hs.elim
  · exact hs.elim

theorem owes_rangeM {t kt et : TypeId} {k : Nat} {x : Operand} {x' : X} (ho : o.op = .range t x) (hu : P.underlying t = some (.map kt et)) (hx : chkX x x' = true) : Owes G P o (.rangeM k x') := by
  intro N0 w0 nt st a w next Q K R hd hs hK
  simp only [dsem] at hs
  split at hs
  · rename_i j h1
    split at hs
    · rename_i kvs hb
      obtain ⟨hk, hs⟩ := hs
      obtain ⟨E, N, hE, hts⟩ := R.env
      have hxv := chkX_rv hts hx
      rw [h1] at hxv
      obtain ⟨b, e1, e2⟩ := hxv
      obtain ⟨b', es, c1, c2, c3, c4⟩ := hE.con j _ hb
      rw [e1] at c1
      cases c1
      have hne : k ≠ j := fun e => by rw [e, hb] at hk; cases hk
      refine wp_val (v := .pointer (some ⟨w.heap.size, 0, none⟩)) (w' := w.alloc (.mapIter (some b) kvs.length #[] kvs.length)) ?_ (hK _ _ _ _ hs ?_)
      · simp only [execOp, ho, e2, Sem.run_bind, run_range_map w t kt et b es _ hu c2, Result.andThen_ok, Sem.run_pure]
      · refine R.slot _ hd _ _ k (.iter j kvs.length []) ((below_alloc w _).mono R.below.size) (fun E1 N1 hE1 hts1 => ⟨.pointer (some ⟨w.heap.size, 0, none⟩), fun b hb _ => Go.RowKit.Below.heap_alloc w _ _ hb, fun bl0 h => ?_, fun _ b hb => ?_, ?_, ?_⟩) (fun i hi => ?_) (fun i hi => ?_)
        · rw [hk] at h; cases h
        · cases hb
          exact ⟨fun h => Nat.lt_irrefl _ (hE1.nlt _ h), R.below.size, by simp, .inr (Nat.le_refl _)⟩
        · have hxv1 := chkX_rv hts1 hx
          rw [h1] at hxv1
          obtain ⟨b1, g1, g2⟩ := hxv1
          rw [e2] at g2
          cases g2
          exact ⟨_, b, rfl, by rw [upd_ne _ _ hne]; exact g1, heap_alloc_new w _⟩
        · exact ⟨w.heap.size, upd_same _ _ _, rfl⟩
        · have : j = i := hi
          subst this
          rw [upd_ne _ _ hne, hb]; simp
        · have : k = i := hi
          subst this
          rw [upd_same]; simp
    · exact hs.elim
  · exact hs.elim

theorem owes_nextM {x : Operand} {x' : X} (ho : o.op = .next x false) (hx : chkX x x' = true) : Owes G P o (.nextM x') := by
  intro N0 w0 nt st a w next Q K R hd hs hK
  simp only [dsem] at hs
  split at hs
  · rename_i k h1
    split at hs
    · rename_i j n seen hb
      split at hs
      · rename_i kvs hbj
        obtain ⟨hn, hs0, hs1⟩ := hs
        subst hn
        obtain ⟨E, N, hE, hts⟩ := R.env
        have hxv := chkX_rv hts hx
        rw [h1] at hxv
        obtain ⟨r, e1, e2⟩ := hxv
        obtain ⟨r', b, c1, c2, c3⟩ := hE.con k _ hb
        rw [e1] at c1
        cases c1
        obtain ⟨b', es, d1, d2, d3, d4⟩ := hE.con j _ hbj
        rw [c2] at d1
        cases d1
        have hborn : ∀ x ∈ es.toList, ∃ i p, kvs[i]? = some p ∧ es[i]? = some x ∧ x.born = i := by
          intro x hx
          obtain ⟨i, hi⟩ := List.mem_iff_getElem?.1 hx
          have hlt : i < kvs.length := by rw [← d3]; simpa using (List.getElem?_eq_some_iff.1 hi).1
          have hi' : es[i]? = some x := by simpa using hi
          exact ⟨i, _, List.getElem?_eq_getElem hlt, hi', (d4 i _ x (List.getElem?_eq_getElem hlt) hi').2.1⟩
        have hold : ∀ x ∈ es.toList, x.born < kvs.length := by
          intro x hx
          obtain ⟨i, p, q1, _, q3⟩ := hborn x hx
          rw [q3]
          exact (List.getElem?_eq_some_iff.1 q1).1
        have hmem : ∀ i (p : List UInt8 × A), kvs[i]? = some p → ∃ e, es[i]? = some e ∧ e ∈ es.toList ∧ e.born = i := by
          intro i p hp
          have hlt : i < es.size := by rw [d3]; exact (List.getElem?_eq_some_iff.1 hp).1
          exact ⟨es[i], by simp [hlt], by simp, (d4 i p _ hp (by simp [hlt])).2.1⟩
        rcases run_next_at (P := P) w o.type r b kvs.length kvs.length seen.toArray es kvs.length c3 d2 hold (Nat.le_refl _) with ⟨hz, hrun⟩ | ⟨e, he, w1, hw1, hrun⟩
        · refine wp_val (v := .tuple #[.bool false]) (w' := w) (by simp only [execOp, ho, e2, Sem.run_bind, hrun, Result.andThen_ok, Sem.run_pure]) (hK _ _ _ _ (hs0 fun i hi => ?_) (R.data _ hd _ _ fun N => .tup [.bool false] [.bool false] rfl fun i d v hd hv => ?_))
          · obtain ⟨e, _, he, hbe⟩ := hmem i _ (List.getElem?_eq_getElem hi)
            have hz' : leftOf es seen.toArray = #[] := Array.eq_empty_of_size_eq_zero hz
            unfold leftOf at hz'
            rw [Array.filter_eq_empty_iff] at hz'
            have := hz' e (by simpa using he)
            rw [hbe] at this
            simpa using this
          · match i with
            | 0 => simp at hd hv; subst hd; subst hv; exact .bool false
            | i + 1 => simp at hd
        · have he' : e ∈ es.toList ∧ e.born ∉ seen := by
            unfold leftOf at he
            simp at he
            simpa using he
          obtain ⟨i, p, q1, q2, q3⟩ := hborn e he'.1
          have hq := d4 i p e q1 q2
          have hlive := hE.live k _ r hb rfl (by rw [e1]; rfl)
          have hne : r ≠ b := fun h => by rw [h, d2] at c3; cases c3
          have hw1b : Below w.heap.size w w1 := by
            rcases hw1 with rfl | rfl
            · exact Below.refl _ _
            · exact (Below.refl _ _).drew
          have hw1h : ∀ j : Nat, w1.heap[j]? = w.heap[j]? := by rcases hw1 with rfl | rfl <;> exact fun _ => rfl
          have hw1s : w1.heap.size = w.heap.size := by rcases hw1 with rfl | rfl <;> rfl
          refine wp_val (v := .tuple #[.bool true, e.key, e.val]) (w' := setBlock w1 r (.mapIter (some b) kvs.length (seen.toArray.push e.born) kvs.length)) (by simp only [execOp, ho, e2, Sem.run_bind, hrun, Result.andThen_ok, Sem.run_pure])
            (hK _ _ _ _ (hs1 i p q1 (q3 ▸ he'.2)) ?_)
          have hother : ∀ j : Nat, j ≠ r → (setBlock w1 r (.mapIter (some b) kvs.length (seen.toArray.push e.born) kvs.length)).heap[j]? = w.heap[j]? := fun j hj => (heap_setBlock_ne (fun e => hj e.symm)).trans (hw1h j)
          refine R.slot _ hd _ _ k (.iter j kvs.length (seen ++ [i])) ((hw1b.mono R.below.size).trans (below_setBlock _ hlive.2.1)) (fun E1 N1 hE1 hts1 => ?_) (fun q hq => ?_) (fun q hq => ?_)
          · have hxv1 := chkX_rv hts1 hx
            rw [h1] at hxv1
            obtain ⟨r1, g1, g2⟩ := hxv1
            rw [e2] at g2
            cases g2
            have hlive1 := hE1.live k _ r hb rfl (by rw [g1]; rfl)
            obtain ⟨r2, b2, f1, f2, f3⟩ := hE1.con k _ hb
            rw [g1] at f1
            cases f1
            rw [c3] at f3
            cases f3
            obtain ⟨b3, es3, f4, f5, f6, f7⟩ := hE1.con j _ hbj
            rw [f2] at f4
            cases f4
            rw [d2] at f5
            cases f5
            have hup : upd E1 k (E1 k) = E1 := by funext j; simp only [upd]; split <;> simp_all
            refine ⟨E1 k, fun q hq hne => hother q (fun e => hne _ hb rfl (by rw [g1, e]; rfl)), fun _ _ => .inl rfl, fun _ q hq => ?_, ?_, ?_⟩
            · rw [g1] at hq
              cases hq
              exact ⟨hlive1.1, hlive1.2.1, by simp [setBlock, hw1s]; exact hlive1.2.2, .inl ⟨_, hb, rfl, by rw [g1]; rfl⟩⟩
            · rw [hup]
              refine ⟨r, b, g1, f2, ?_⟩
              rw [heap_setBlock_self (o' := .mapIter (some b) kvs.length seen.toArray kvs.length) (by rw [hw1h]; exact c3)]
              simp [q3]
            · rw [hup]
              refine ⟨[_, _, _], rfl, rfl, fun q m u hm hu => ?_⟩
              match q with
              | 0 => simp at hm hu; subst hm; subst hu; exact .bool true
              | 1 =>
                simp at hm hu
                subst hm; subst hu
                rw [hq.1]
                exact .str _
              | 2 =>
                simp at hm hu
                subst hm; subst hu
                exact RvA.mono (fun q hq _ => hother q (fun e => hlive1.1 (e ▸ hq))) (fun _ h _ => h) (fun _ _ => rfl) (f7 i p e q1 q2).2.2
              | q + 3 => simp at hm
          · have : j = q := hq
            subst this
            by_cases e : k = j
            · subst e; rw [upd_same]; simp
            · rw [upd_ne _ _ e, hbj]; simp
          · obtain ⟨m, hm, hmq⟩ := hq
            simp at hm
            rcases hm with rfl | rfl | rfl
            · exact hmq.elim
            · exact hmq.elim
            · by_cases e : k = q
              · subst e; rw [upd_same]; simp
              · rw [upd_ne _ _ e]
                exact hE.wf j _ q hbj ⟨p, List.mem_of_getElem? q1, hmq⟩
      · exact hs.elim
    · exact hs.elim
  · exact hs.elim

theorem owes_entryM {x : Operand} {x' : X} (ho : o.op = .entry x) (hx : chkX x x' = true) : Owes G P o (.entryM x') := by
  intro N0 w0 nt st a w next Q K R hd hs hK
  simp only [dsem] at hs
  split at hs
  · rename_i k h1
    split at hs
    · rename_i j n seen hb
      split at hs
      · rename_i kvs hbj
        obtain ⟨hn, hs⟩ := hs
        subst hn
        split at hs
        · rename_i p hp
          rw [Option.bind_eq_some_iff] at hp
          obtain ⟨i, hi, hp⟩ := hp
          obtain ⟨seen', rfl⟩ : ∃ s', seen = s' ++ [i] := List.getLast?_eq_some_iff.1 hi
          have hread : ∀ E N, Env N0 w0.heap.size w st.blk E N → (∀ i, RvL E N w (st.get i) (a.tmps.getD i undef)) → ∃ r b es e, a.eval x = .pointer (some ⟨r, 0, none⟩) ∧ w.heap[r]? = some (.mapIter (some b) kvs.length (seen'.toArray.push e.born) kvs.length) ∧
              w.heap[b]? = some (.map es kvs.length) ∧ e ∈ es.toList ∧ (es.toList.map (·.born)).Nodup ∧ e.key = .string ⟨p.1.toArray⟩ ∧ RvA E N w p.2 e.val ∧ es[i]? = some e := by
            intro E N hE hts
            have hxv := chkX_rv hts hx
            rw [h1] at hxv
            obtain ⟨r, e1, e2⟩ := hxv
            obtain ⟨r', b, c1, c2, c3⟩ := hE.con k _ hb
            rw [e1] at c1
            cases c1
            obtain ⟨b', es, d1, d2, d3, d4⟩ := hE.con j _ hbj
            rw [c2] at d1
            cases d1
            have hlt : i < es.size := by rw [d3]; exact (List.getElem?_eq_some_iff.1 hp).1
            obtain ⟨q1, q2, q3⟩ := d4 i p es[i] hp (by simp [hlt])
            have hnod : es.toList.map (·.born) = List.range kvs.length := by
              apply List.ext_getElem?
              intro q
              rw [List.getElem?_map]
              by_cases hq : q < kvs.length
              · rw [List.getElem?_range hq]
                have hq' : q < es.size := by omega
                have := (d4 q _ es[q] (List.getElem?_eq_getElem hq) (by simp [hq'])).2.1
                simp [hq', this]
              · rw [List.getElem?_eq_none (by simp; omega), List.getElem?_eq_none (by simp; omega)]
                rfl
            refine ⟨r, b, es, es[i], e2, ?_, d2, by simp, by rw [hnod]; exact List.nodup_range, q1, q3, by simp [hlt]⟩
            rw [c3, q2]
            simp
          obtain ⟨E, N, hE, hts⟩ := R.env
          obtain ⟨r, b, es, e, g1, g2, g3, g4, g5, g6, g7, g8⟩ := hread E N hE hts
          refine wp_val (v := .tuple #[e.key, e.val]) (w' := w) ?_ (hK _ _ _ _ hs (R.value _ hd _ _ (fun E1 N1 hE1 hts1 => ?_) (fun q hq => ?_)))
          · simp only [execOp, ho, g1, Sem.run_bind, run_entry_at w r b kvs.length seen'.toArray es kvs.length e g2 g3 g4 g5, Result.andThen_ok, Sem.run_pure]
          · obtain ⟨r1, b1, es1, e1, f1, f2, f3, f4, f5, f6, f7, f8⟩ := hread E1 N1 hE1 hts1
            rw [g1] at f1
            cases f1
            rw [g2] at f2
            simp only [Option.some.injEq, Obj.mapIter.injEq] at f2
            obtain ⟨rfl, _⟩ := f2.1
            rw [g3] at f3
            cases f3
            rw [g8] at f8
            cases f8
            refine ⟨[_, _], rfl, rfl, fun q m u hm hu => ?_⟩
            match q with
            | 0 =>
              simp at hm hu
              subst hm; subst hu
              rw [g6]
              exact .str _
            | 1 => simp at hm hu; subst hm; subst hu; exact f7
            | q + 2 => simp at hm
          · obtain ⟨m, hm, hmq⟩ := hq
            simp at hm
            rcases hm with rfl | rfl
            · exact hmq.elim
            · exact hE.wf j _ q hbj ⟨p, List.mem_of_getElem? hp, hmq⟩
        · exact hs.elim
      · exact hs.elim
    · exact hs.elim
  · exact hs.elim
end
end Go.Proofs.YtpfhfokfambdaaaGreatDoor.Ev

/-! An operation of the program held against one of the data's, by a Bool that the kernel reckons. -/
namespace Go.Proofs.YtpfhfokfambdaaaGreatDoor.Ev
open Go.RowKit (Below)

def sizeIs (P : Program) (t : TypeId) : Nat := match P.info? t with
  | some i => i.size
  | none => 0
def zeroOk (P : Program) (t : TypeId) (z : List A) : Bool := match P.info? t with
  | some i => match i.zero with
    | some v => atomsOk v.cells.toList z
    | none => false
  | none => false
def isInt (P : Program) (t : TypeId) (k : IntKind) : Bool := match P.underlying t with
  | some (.int k') => k == k'
  | _ => false
def isStr (P : Program) (t : TypeId) : Bool := match P.underlying t with
  | some .string => true
  | _ => false
def isBool (P : Program) (t : TypeId) : Bool := match P.underlying t with
  | some .bool => true
  | _ => false
def isSliceOf (P : Program) (t e : TypeId) : Bool := match P.underlying t with
  | some (.slice e') => e == e'
  | _ => false
def elemIs (P : Program) (t : TypeId) : Option TypeId := match P.underlying t with
  | some (.slice e) => some e
  | _ => none
def chkNeg (op : BinOp) (neg : Bool) : Bool := op == if neg then .neq else .eql

def chkBuild (P : Program) (t : TypeId) (ps : List (Nat × Operand)) (z : List A) (ps' : List (Nat × Nat × X)) : Bool := zeroOk P t z && match P.underlying t with
  | some (.struct fs) => fs.toList.all (fun f => (P.info? f.type).isSome) && chkPs (fun i => (fs[i]?).map fun f => (f.offset, sizeIs P f.type)) ps ps'
  | some (.array _ e) => (P.info? e).isSome && chkPs (fun i => some (i * sizeIs P e, sizeIs P e)) ps ps'
  | _ => false
def chkBuildS (P : Program) (t : TypeId) (n : Nat) (ps : List (Nat × Operand)) (e s n' : Nat) (ps' : List (Nat × Nat × X)) : Bool :=
  n == n' && decide (n ≤ 16777216) && decide (n * s ≤ 16777216) && (match P.info? e with
    | some i => i.size == s && (match i.zero with | some _ => true | none => n * s == 0)
    | none => false) && isSliceOf P t e && chkPs (fun i => some (i * s, s)) ps ps'
def chkFieldA (P : Program) (t : TypeId) (i off : Nat) : Bool := match P.underlying t with
  | some (.struct fs) => match fs[i]? with
    | some f => f.offset == off && decide (0 < sizeIs P f.type)
    | none => false
  | _ => false
def chkField (P : Program) (t : TypeId) (i off : Nat) (n : Option Nat) : Bool := match P.underlying t with
  | some (.struct fs) => match fs[i]? with
    | some f => f.offset == off && tyShape P f.type n
    | none => false
  | _ => false
def chkIdxA (P : Program) (t : TypeId) (s : Nat) : Bool := match P.underlying t with
  | some (.slice e) => tySize P e s
  | _ => false
def chkIdxAA (P : Program) (t : TypeId) (len s : Nat) : Bool := match P.underlying t with
  | some (.array len' e) => len == len' && tySize P e s
  | _ => false
def chkIdx (P : Program) (t : TypeId) (len s : Nat) (n : Option Nat) : Bool := match P.underlying t with
  | some (.array len' e) => len == len' && tySize P e s && tyShape P e n
  | _ => false
def chkLenC (P : Program) (t : TypeId) (n : Nat) : Bool := match P.underlying t with
  | some (.array len _) => len == n
  | _ => false
def chkAppend (P : Program) (t e s : Nat) : Bool := isSliceOf P t e && (match P.info? e with
  | some i => i.size == s && decide (0 < s) && decide (i.bytes ≤ 32768) && (match i.zero with
    | some z => z.cells.size == s
    | none => false)
  | none => false)
def chkIface (P : Program) (t : TypeId) : Bool := match P.underlying t with
  | some (.interface _) => true
  | _ => false
def chkMap (P : Program) (t : TypeId) : Bool := match P.underlying t with
  | some (.map k _) => isStr P k
  | _ => false
def chkLookup (P : Program) (t : TypeId) (z : A) : Bool := match P.underlying t with
  | some (.map k e) => isStr P k && (match P.info? e with
    | some i => match i.zero with
      | some v => atomOk v z
      | none => false
    | none => false)
  | _ => false
def chkCall (P : Program) (c : Call) (lk : LK) : Bool := match c.callee, lk with
  | .value (.func f), .call f' xs => f == f' && chkXs c.args.toList xs
  | .value g, .callv g' xs => chkX g g' && chkXs c.args.toList xs
  | .value (.func f), .callS f' xs _ _ => f == f' && chkXs c.args.toList xs
  | .value g, .callvS g' xs _ _ => chkX g g' && chkXs c.args.toList xs
  | .value (.func f), .callF f' xs => f == f' && chkXs c.args.toList xs
  | .value (.func f), .callD f' xs => f == f' && chkXs c.args.toList xs
  | .value g, .callvD g' xs => chkX g g' && chkXs c.args.toList xs
  | .value (.func f), .cloneR f' _ _ _ x' => f == f' && chkXs c.args.toList [x']
  | .value (.func f), .insR f' _ _ x' i' y' => f == f' && chkXs c.args.toList [x', i', y']
  | .builtin .len, .lenS x' => match c.args.toList, c.argTypes.toList with
    | [x], [t] => isStr P t && chkX x x'
    | _, _ => false
  | .builtin .len, .lenL x' => match c.args.toList, c.argTypes.toList with
    | [x], [t] => (elemIs P t).isSome && chkX x x'
    | _, _ => false
  | .builtin .len, .lenC n => match c.args.toList, c.argTypes.toList with
    | [_], [t] => chkLenC P t n
    | _, _ => false
  | .builtin .append, .append e s x' y' => match c.args.toList, c.argTypes.toList with
    | [x, y], [t, t'] => t == t' && chkAppend P t e s && chkX x x' && chkX y y'
    | _, _ => false
  | .builtin .append, .appN _ e s x' y' => match c.args.toList, c.argTypes.toList with
    | [x, y], [t, t'] => t == t' && chkAppend P t e s && chkX x x' && chkX y y'
    | _, _ => false
  | .builtin .max, .max2 x' y' => match c.args.toList with
    | [x, y] => chkX x x' && chkX y y'
    | _ => false
  | .builtin .min, .min2 x' y' => match c.args.toList with
    | [x, y] => chkX x x' && chkX y y'
    | _ => false
  | _, _ => false
def chkK (P : Program) (op : Op) (lk : LK) : Bool := match op, lk with
  | .move x, .mov x' | .assign x, .mov x' => chkX x x'
  | .pick c x y, .pick c' x' y' => chkX c c' && chkX x x' && chkX y y'
  | .alloc t, .alloc _ z => zeroOk P t z
  | .box _ x, .box _ x' => chkX x x'
  | .build t ps, .build z ps' => chkBuild P t ps.toList z ps'
  | .buildSlice t n ps, .buildS _ e s n' ps' => chkBuildS P t n ps.toList e s n' ps'
  | .load t x, .load n x' => tyShape P t n && chkX x x'
  | .store t x v, .store n x' v' => tySize P t n && chkX x x' && chkX v v'
  | .nilCheck x, .nilck x' => chkX x x'
  | .binOp op _ x y _, .bin op' x' y' => op == op' && chkX x x' && chkX y y'
  | .binOp op t x y _, .beq neg x' y' => chkNeg op neg && isBool P t && chkX x x' && chkX y y'
  | .binOp op t x y _, .eqAgg neg ks x' y' => chkNeg op neg && (flatT P 20 t == some ks) && tyAgg P t ks.length && !(P.eqGuardType P.depth t) && chkX x x' && chkX y y'
  | .binOp op t x (.const .nilIface) _, .isNil neg x' y' => chkNeg op neg && chkIface P t && chkX x x' && chkX (.const .nilIface) y'
  | .binOp op t x (.const (.slice none 0 0)) _, .isNilS neg x' => chkNeg op neg && (elemIs P t).isSome && chkX x x'
  | .unOp .not _ x, .not x' => chkX x x'
  | .unOp .neg _ x, .neg x' => chkX x x'
  | .convert s t x, .conv k x' => (P.underlying s).isSome && isInt P t k && chkX x x'
  | .convert s t x, .convS x' => (P.underlying s).isSome && isStr P t && chkX x x'
  | .convert s t x, .bytes x' => (P.underlying s).isSome && (match elemIs P t with
    | some e => isInt P e .u8
    | none => false) && chkX x x'
  | .makeFunc (.func f) first os, .fn f' xs => first.isEmpty && f == f' && chkXs os.toList xs
  | .fieldAddr t x i, .fieldA off x' => chkFieldA P t i off && chkX x x'
  | .field t x i, .field off n x' => chkField P t i off n && chkX x x'
  | .indexAddr t x i, .idxA s x' i' => chkIdxA P t s && chkX x x' && chkX i i'
  | .indexAddr t x i, .idxAA len s x' i' => chkIdxAA P t len s && chkX x x' && chkX i i'
  | .index t x i, .idx len s n x' i' => chkIdx P t len s n && chkX x x' && chkX i i'
  | .index t x i, .idxS x' i' => isStr P t && chkX x x' && chkX i i'
  | .slice t x lo hi none, .slcS x' lo' hi' => isStr P t && chkX x x' && chkO lo lo' && chkO hi hi'
  | .slice t x lo hi none, .slcL s x' lo' hi' => chkIdxA P t s && chkX x x' && chkO lo lo' && chkO hi hi'
  | .slice t x none none none, .slcA n s x' => chkIdxAA P t n s && chkX x x'
  | .extract x i, .ext x' i' => i == i' && chkX x x'
  | .makeMap _ none, .mkMap _ => true
  | .mapUpdate t x k v, .mapUpd x' k' v' | .insert t x k v, .mapUpd x' k' v' => chkMap P t && chkX x x' && chkX k k' && chkX v v'
  | .lookup t x k ok, .lookup ok' z x' k' => ok == ok' && chkLookup P t z && chkX x x' && chkX k k'
  | .range t x, .rangeM _ x' => chkMap P t && chkX x x'
  | .next x false, .nextM x' => chkX x x'
  | .entry x, .entryM x' => chkX x x'
  | .makeFunc (.func f) first os, .bind f' x' => os.isEmpty && f == f' && (match first.toList with
    | [x] => chkX x x'
    | _ => false)
  | .call c, lk => chkCall P c lk
  | _, _ => false

section
variable {G : World → Prop} {P : Program} {o : Oper}
theorem arr1 {α : Type} {a : Array α} {x : α} (h : a.toList = [x]) : a = #[x] := by apply Array.ext'; simpa using h
theorem arr2 {α : Type} {a : Array α} {x y : α} (h : a.toList = [x, y]) : a = #[x, y] := by apply Array.ext'; simpa using h
theorem isInt_u {t : TypeId} {k : IntKind} (h : isInt P t k = true) : P.underlying t = some (.int k) := by
  unfold isInt at h; split at h
  · rename_i k' hu; have : k = k' := by simpa using h
    subst this; exact hu
  · cases h
theorem isStr_u {t : TypeId} (h : isStr P t = true) : P.underlying t = some .string := by
  unfold isStr at h; split at h
  · assumption
  · cases h
theorem isBool_u {t : TypeId} (h : isBool P t = true) : P.underlying t = some .bool := by
  unfold isBool at h; split at h
  · assumption
  · cases h
theorem isSliceOf_u {t e : TypeId} (h : isSliceOf P t e = true) : P.underlying t = some (.slice e) := by
  unfold isSliceOf at h; split at h
  · rename_i e' hu; have : e = e' := by simpa using h
    subst this; exact hu
  · cases h
theorem elemIs_u {t e : TypeId} (h : elemIs P t = some e) : P.underlying t = some (.slice e) := by
  unfold elemIs at h; split at h
  · rename_i e' hu; cases h; exact hu
  · cases h
theorem chkMap_u {t : TypeId} (h : chkMap P t = true) : ∃ kt et, P.underlying t = some (.map kt et) ∧ P.underlying kt = some .string := by
  unfold chkMap at h; split at h
  · rename_i kt et hu; exact ⟨kt, et, hu, isStr_u h⟩
  · cases h
theorem some_u {t : TypeId} (h : (P.underlying t).isSome = true) : ∃ d, P.underlying t = some d := Option.isSome_iff_exists.1 h
theorem neg_u {op : BinOp} {neg : Bool} (h : chkNeg op neg = true) : op = if neg then .neq else .eql := by simpa [chkNeg] using h

theorem run_size {t : TypeId} (h : (P.info? t).isSome = true) (w : World) : (sizeOf t).run P w = .ok (sizeIs P t) w := by
  obtain ⟨i, hi⟩ := Option.isSome_iff_exists.1 h
  simp [sizeOf, typeInfo, hi, sizeIs]
theorem run_places : ∀ (l : List Field) (w : World), l.all (fun f => (P.info? f.type).isSome) = true →
    (l.mapM fun f => (do pure (f.offset, ← sizeOf f.type) : Sem (Nat × Nat))).run P w = .ok (l.map fun f => (f.offset, sizeIs P f.type)) w
  | [], w, _ => by simp [List.mapM_nil]
  | f :: l, w, h => by
    simp only [List.all_cons, Bool.and_eq_true] at h
    have ih := run_places l w h.2
    simp only [List.mapM_cons, Sem.run_bind, run_size h.1, Sem.run_pure, Result.andThen_ok, ih, List.map_cons]

theorem build_run {t : TypeId} {ps : Array (Nat × Operand)} {z : List A} {ps' : List (Nat × Nat × X)} (ho : o.op = .build t ps) (h : chkBuild P t ps.toList z ps' = true) : Owes G P o (.build z ps') := by
  unfold chkBuild at h
  rw [Bool.and_eq_true] at h
  obtain ⟨hz, h⟩ := h
  unfold zeroOk at hz
  split at hz
  · rename_i i hi
    split at hz
    · rename_i zv hzv
      split at h
      · rename_i fs hu
        rw [Bool.and_eq_true] at h
        refine owes_build ho (fun pv w => ⟨zv, hz, fun vs hv => ?_⟩) h.2
        have hpl := run_places (P := P) fs.toList w h.1
        have hpl' : (fs.mapM fun f => (do pure (f.offset, ← sizeOf f.type) : Sem (Nat × Nat))).run P w = .ok (fs.map fun f => (f.offset, sizeIs P f.type)) w := by
          rw [Array.mapM_eq_mapM_toList]
          rw [Sem.run_map, hpl]
          simp only [Result.andThen_ok]
          congr 1
          apply Array.ext'
          simp
        simp only [Instr.build, zeroValue, typeInfo, Sem.run_bind, run_program, Result.andThen_ok, hi, hzv, Sem.run_pure, run_underlying hu, hpl']
        have : (fun x : Nat => (Array.map (fun f : Field => (f.offset, sizeIs P f.type)) fs)[x]?) = (fun i : Nat => (fs[i]?).map fun f : Field => (f.offset, sizeIs P f.type)) := by
          funext i
          simp
        rw [this, hv]
        rfl
      · rename_i n e hu
        rw [Bool.and_eq_true] at h
        refine owes_build ho (fun pv w => ⟨zv, hz, fun vs hv => ?_⟩) h.2
        simp only [Instr.build, zeroValue, typeInfo, Sem.run_bind, run_program, Result.andThen_ok, hi, hzv, Sem.run_pure, run_underlying hu, run_size h.1]
        rw [hv]
        rfl
      · cases h
    · cases hz
  · cases hz

theorem buildS_run {t : TypeId} {n : Nat} {ps : Array (Nat × Operand)} {k e s n' : Nat} {ps' : List (Nat × Nat × X)} (ho : o.op = .buildSlice t n ps) (h : chkBuildS P t n ps.toList e s n' ps' = true) : Owes G P o (.buildS k e s n' ps') := by
  unfold chkBuildS at h
  simp only [Bool.and_eq_true, beq_iff_eq, decide_eq_true_eq] at h
  obtain ⟨⟨⟨⟨⟨rfl, h1⟩, h2⟩, h3⟩, h4⟩, h5⟩ := h
  have hu := isSliceOf_u h4
  split at h3
  · rename_i i hi
    rw [Bool.and_eq_true, beq_iff_eq] at h3
    obtain ⟨hs, hz⟩ := h3
    have hsz : tySize P e s = true := by simp [tySize, hi, hs]
    refine owes_buildS ho h1 (fun pv w => ?_) h5
    have hlim : ¬ n * s > 2 ^ 24 := by omega
    by_cases h0 : n * s = 0
    · refine ⟨[], by simp [h0], fun vs hv => ?_⟩
      have hlim0 : ¬ 0 > 2 ^ 24 := by omega
      simp only [Instr.buildSlice, Sem.run_bind, run_underlying hu, Result.andThen_ok, run_sizeOf hsz, h0, hlim0, if_false, if_true, Sem.run_pure]
      have e1 : (Array.map (fun x => (#[] : Array Value)[x % (#[] : Array Value).size]!) (Array.range 0)) = #[] := by simp
      rw [e1]
      have hv' : Instr.fill (fun i => some (i * s, s)) #[] pv.toList = some vs := hv
      rw [hv']
      simp [newRow]
    · split at hz
      · rename_i zv hzv
        refine ⟨((Array.range (n * s)).map (fun x => zv.cells[x % zv.cells.size]!)).toList, by simp, fun vs hv => ?_⟩
        simp only [Instr.buildSlice, Sem.run_bind, run_underlying hu, Result.andThen_ok, run_sizeOf hsz, hlim, if_false, h0, Sem.run_pure, zeroValue, typeInfo, run_program, hi, hzv]
        rw [Array.toArray_toList] at hv
        rw [hv]
        simp [newRow]
      · exact absurd (by simpa using hz) h0
  · cases h3

theorem owes_of_call {c : Call} {lk : LK} (ho : o.op = .call c) (h : chkCall P c lk = true) : Owes G P o lk := by
  obtain ⟨callee, args, ts⟩ := c
  unfold chkCall at h
  split at h
  · rename_i f f' xs hc
    simp only at hc h
    subst hc
    simp only [Bool.and_eq_true, beq_iff_eq] at h
    obtain ⟨rfl, h⟩ := h
    exact owes_call ho h
  · rename_i g g' xs hc
    simp only at hc h
    subst hc
    rw [Bool.and_eq_true] at h
    exact owes_callv ho h.1 h.2
  · rename_i f f' xs _ _ hc
    simp only at hc h
    subst hc
    simp only [Bool.and_eq_true, beq_iff_eq] at h
    obtain ⟨rfl, h⟩ := h
    exact owes_callS ho h
  · rename_i g g' xs _ _ hc
    simp only at hc h
    subst hc
    rw [Bool.and_eq_true] at h
    exact owes_callvS ho h.1 h.2
  · rename_i f f' xs hc
    simp only at hc h
    subst hc
    simp only [Bool.and_eq_true, beq_iff_eq] at h
    obtain ⟨rfl, h⟩ := h
    exact owes_callF ho h
  · rename_i f f' xs hc
    simp only at hc h
    subst hc
    simp only [Bool.and_eq_true, beq_iff_eq] at h
    obtain ⟨rfl, h⟩ := h
    exact owes_callD ho h
  · rename_i g g' xs hc
    simp only at hc h
    subst hc
    rw [Bool.and_eq_true] at h
    exact owes_callvD ho h.1 h.2
  · rename_i f f' _ _ _ x' hc
    simp only at hc h
    subst hc
    simp only [Bool.and_eq_true, beq_iff_eq] at h
    obtain ⟨rfl, h⟩ := h
    exact owes_cloneR ho h
  · rename_i f f' _ _ x' i' y' hc
    simp only at hc h
    subst hc
    simp only [Bool.and_eq_true, beq_iff_eq] at h
    obtain ⟨rfl, h⟩ := h
    exact owes_insR ho h
  · rename_i x' hc
    simp only at hc h
    subst hc
    split at h
    · rename_i x t h1 h2
      rw [Bool.and_eq_true] at h
      rw [arr1 h1, arr1 h2] at ho
      exact owes_lenS ho (isStr_u h.1) h.2
    · cases h
  · rename_i x' hc
    simp only at hc h
    subst hc
    split at h
    · rename_i x t h1 h2
      rw [Bool.and_eq_true] at h
      rw [arr1 h1, arr1 h2] at ho
      obtain ⟨e, he⟩ := Option.isSome_iff_exists.1 h.1
      exact owes_lenL ho (elemIs_u he) h.2
    · cases h
  · rename_i n hc
    simp only at hc h
    subst hc
    split at h
    · rename_i x t h1 h2
      rw [arr1 h1, arr1 h2] at ho
      unfold chkLenC at h
      split at h
      · rename_i len e hu
        have : len = n := by simpa using h
        subst this
        exact owes_lenC ho hu
      · cases h
    · cases h
  · rename_i e s x' y' hc
    simp only at hc h
    subst hc
    split at h
    · rename_i x y t t' h1 h2
      simp only [Bool.and_eq_true, beq_iff_eq] at h
      obtain ⟨⟨⟨rfl, h3⟩, h4⟩, h5⟩ := h
      rw [arr2 h1, arr2 h2] at ho
      unfold chkAppend at h3
      rw [Bool.and_eq_true] at h3
      obtain ⟨h6, h7⟩ := h3
      split at h7
      · rename_i i hi
        simp only [Bool.and_eq_true, beq_iff_eq, decide_eq_true_eq] at h7
        obtain ⟨⟨⟨g1, g2⟩, g3⟩, g4⟩ := h7
        split at g4
        · rename_i z hz
          exact owes_append ho (isSliceOf_u h6) hi hz g1 rfl (by simpa using g4) g2 g3 h4 h5
        · cases g4
      · cases h7
    · cases h
  · rename_i e s x' y' hc
    simp only at hc h
    subst hc
    split at h
    · rename_i x y t t' h1 h2
      simp only [Bool.and_eq_true, beq_iff_eq] at h
      obtain ⟨⟨⟨rfl, h3⟩, h4⟩, h5⟩ := h
      rw [arr2 h1, arr2 h2] at ho
      unfold chkAppend at h3
      rw [Bool.and_eq_true] at h3
      obtain ⟨h6, h7⟩ := h3
      split at h7
      · rename_i i hi
        simp only [Bool.and_eq_true, beq_iff_eq, decide_eq_true_eq] at h7
        obtain ⟨⟨⟨g1, g2⟩, g3⟩, g4⟩ := h7
        split at g4
        · rename_i z hz
          exact owes_appN ho (isSliceOf_u h6) hi hz g1 rfl (by simpa using g4) g2 g3 h4 h5
        · cases g4
      · cases h7
    · cases h
  · rename_i x' y' hc
    simp only at hc h
    subst hc
    split at h
    · rename_i x y h1
      rw [Bool.and_eq_true] at h
      rw [arr2 h1] at ho
      exact owes_max2 ho h.1 h.2
    · cases h
  · rename_i x' y' hc
    simp only at hc h
    subst hc
    split at h
    · rename_i x y h1
      rw [Bool.and_eq_true] at h
      rw [arr2 h1] at ho
      exact owes_min2 ho h.1 h.2
    · cases h
  · cases h

theorem owes_of_chk {lk : LK} (h : chkK P o.op lk = true) : Owes G P o lk := by
  unfold chkK at h
  split at h
  · rename_i x x' ho; exact owes_mov (.inl ho) h
  · rename_i x x' ho; exact owes_mov (.inr ho) h
  · rename_i ho
    simp only [Bool.and_eq_true] at h
    exact owes_pick ho h.1.1 h.1.2 h.2
  · rename_i ho
    unfold zeroOk at h
    split at h
    · rename_i i hi
      split at h
      · rename_i v hv
        exact owes_alloc ho hi hv h
      · cases h
    · cases h
  · rename_i ho; exact owes_box ho h
  · rename_i ho; exact build_run ho h
  · rename_i ho; exact buildS_run ho h
  · rename_i ho
    simp only [Bool.and_eq_true] at h
    exact owes_load ho h.1 h.2
  · rename_i ho
    simp only [Bool.and_eq_true] at h
    exact owes_store ho h.1.1 h.1.2 h.2
  · rename_i ho; exact owes_nilck ho h
  · rename_i ho
    simp only [Bool.and_eq_true, beq_iff_eq] at h
    obtain ⟨⟨rfl, h1⟩, h2⟩ := h
    exact owes_bin ho h1 h2
  · rename_i ho
    simp only [Bool.and_eq_true] at h
    exact owes_beq ho (neg_u h.1.1.1) (isBool_u h.1.1.2) h.1.2 h.2
  · rename_i ho
    simp only [Bool.and_eq_true, beq_iff_eq, Bool.not_eq_true'] at h
    obtain ⟨⟨⟨⟨⟨h1, h2⟩, h3⟩, h4⟩, h5⟩, h6⟩ := h
    exact owes_eqAgg ho (neg_u h1) h2 h3 h4 h5 h6
  · rename_i ho
    simp only [Bool.and_eq_true] at h
    obtain ⟨⟨⟨h1, h2⟩, h3⟩, h4⟩ := h
    unfold chkIface at h2
    split at h2
    · rename_i ms hu
      exact owes_isNil ho (neg_u h1) hu h3
    · cases h2
  · rename_i ho
    simp only [Bool.and_eq_true] at h
    obtain ⟨e, he⟩ := Option.isSome_iff_exists.1 h.1.2
    exact owes_isNilS ho (neg_u h.1.1) (elemIs_u he) h.2
  · rename_i ho; exact owes_not ho h
  · rename_i ho; exact owes_neg ho h
  · rename_i ho
    simp only [Bool.and_eq_true] at h
    obtain ⟨d, hd⟩ := some_u h.1.1
    exact owes_conv ho hd (isInt_u h.1.2) h.2
  · rename_i ho
    simp only [Bool.and_eq_true] at h
    obtain ⟨d, hd⟩ := some_u h.1.1
    exact owes_convS ho hd (isStr_u h.1.2) h.2
  · rename_i ho
    simp only [Bool.and_eq_true] at h
    obtain ⟨⟨h1, h2⟩, h3⟩ := h
    obtain ⟨d, hd⟩ := some_u h1
    split at h2
    · rename_i e he
      exact owes_bytes ho hd (elemIs_u he) (isInt_u h2) h3
    · cases h2
  · rename_i f first os f' xs ho
    simp only [Bool.and_eq_true, beq_iff_eq] at h
    obtain ⟨⟨h1, rfl⟩, h2⟩ := h
    have : first = #[] := by simpa using h1
    subst this
    exact owes_fn ho h2
  · rename_i ho
    simp only [Bool.and_eq_true] at h
    obtain ⟨h1, h2⟩ := h
    unfold chkFieldA at h1
    split at h1
    · rename_i fs hu
      split at h1
      · rename_i f hf
        simp only [Bool.and_eq_true, beq_iff_eq, decide_eq_true_eq] at h1
        have hsz : tySize P f.type (sizeIs P f.type) = true := by
          unfold sizeIs at h1 ⊢
          unfold tySize
          split
          · rename_i i hi; simp [hi]
          · rename_i hi; rw [hi] at h1; simp at h1
        exact owes_fieldA ho hu hf h1.1 hsz h1.2 h2
      · cases h1
    · cases h1
  · rename_i ho
    simp only [Bool.and_eq_true] at h
    obtain ⟨h1, h2⟩ := h
    unfold chkField at h1
    split at h1
    · rename_i fs hu
      split at h1
      · rename_i f hf
        simp only [Bool.and_eq_true, beq_iff_eq] at h1
        exact owes_field ho hu hf h1.1 h1.2 h2
      · cases h1
    · cases h1
  · rename_i ho
    simp only [Bool.and_eq_true] at h
    obtain ⟨⟨h1, h2⟩, h3⟩ := h
    unfold chkIdxA at h1
    split at h1
    · rename_i e hu; exact owes_idxA ho hu h1 h2 h3
    · cases h1
  · rename_i ho
    simp only [Bool.and_eq_true] at h
    obtain ⟨⟨h1, h2⟩, h3⟩ := h
    unfold chkIdxAA at h1
    split at h1
    · rename_i len' e hu
      simp only [Bool.and_eq_true, beq_iff_eq] at h1
      obtain ⟨rfl, h4⟩ := h1
      exact owes_idxAA ho hu h4 h2 h3
    · cases h1
  · rename_i ho
    simp only [Bool.and_eq_true] at h
    obtain ⟨⟨h1, h2⟩, h3⟩ := h
    unfold chkIdx at h1
    split at h1
    · rename_i len' e hu
      simp only [Bool.and_eq_true, beq_iff_eq] at h1
      obtain ⟨⟨rfl, h4⟩, h5⟩ := h1
      exact owes_idx ho hu h4 h5 h2 h3
    · cases h1
  · rename_i ho
    simp only [Bool.and_eq_true] at h
    exact owes_idxS ho (isStr_u h.1.1) h.1.2 h.2
  · rename_i ho
    simp only [Bool.and_eq_true] at h
    exact owes_slcS ho (isStr_u h.1.1.1) h.1.1.2 h.1.2 h.2
  · rename_i ho
    simp only [Bool.and_eq_true] at h
    obtain ⟨⟨⟨h1, h2⟩, h3⟩, h4⟩ := h
    unfold chkIdxA at h1
    split at h1
    · rename_i e hu; exact owes_slcL ho hu h1 h2 h3 h4
    · cases h1
  · rename_i ho
    simp only [Bool.and_eq_true] at h
    obtain ⟨h1, h2⟩ := h
    unfold chkIdxAA at h1
    split at h1
    · rename_i len' e hu
      simp only [Bool.and_eq_true, beq_iff_eq] at h1
      obtain ⟨rfl, h4⟩ := h1
      exact owes_slcA ho hu h4 h2
    · cases h1
  · rename_i ho
    simp only [Bool.and_eq_true, beq_iff_eq] at h
    obtain ⟨rfl, h⟩ := h
    exact owes_ext ho h
  · rename_i ho
    exact owes_mkMap ho
  · rename_i ho
    simp only [Bool.and_eq_true] at h
    obtain ⟨kt, et, hu, hk⟩ := chkMap_u h.1.1.1
    exact owes_mapUpd (.inl ho) hu hk h.1.1.2 h.1.2 h.2
  · rename_i ho
    simp only [Bool.and_eq_true] at h
    obtain ⟨kt, et, hu, hk⟩ := chkMap_u h.1.1.1
    exact owes_mapUpd (.inr ho) hu hk h.1.1.2 h.1.2 h.2
  · rename_i ho
    simp only [Bool.and_eq_true, beq_iff_eq] at h
    obtain ⟨⟨⟨rfl, h1⟩, h2⟩, h3⟩ := h
    unfold chkLookup at h1
    split at h1
    · rename_i kt et hu
      rw [Bool.and_eq_true] at h1
      obtain ⟨hk, h1⟩ := h1
      split at h1
      · rename_i i hi
        split at h1
        · rename_i v hv
          exact owes_lookup ho hu (isStr_u hk) (fun w => by simp [zeroValue, typeInfo, hi, hv]) h1 h2 h3
        · cases h1
      · cases h1
    · cases h1
  · rename_i ho
    simp only [Bool.and_eq_true] at h
    obtain ⟨kt, et, hu, hk⟩ := chkMap_u h.1
    exact owes_rangeM ho hu h.2
  · rename_i ho
    exact owes_nextM ho h
  · rename_i ho
    exact owes_entryM ho h
  · rename_i f first os f' x' ho
    simp only [Bool.and_eq_true, beq_iff_eq] at h
    obtain ⟨⟨h1, rfl⟩, h2⟩ := h
    have : os = #[] := by simpa using h1
    subst this
    split at h2
    · rename_i x hf
      rw [arr1 hf] at ho
      exact owes_bind ho h2
    · cases h2
  · rename_i ho
    exact owes_of_call ho h
  · cases h
end
end Go.Proofs.YtpfhfokfambdaaaGreatDoor.Ev

/-! Regions in the text's order. -/
namespace Go.Proofs.YtpfhfokfambdaaaGreatDoor.Ev
open Go.RowKit (Below)

/-- An operation, its temporary, and what it waits for (a temporary that must hold this bool; else it is passed over). -/
structure LOp where
  dst : Option Nat
  g : Option (Nat × Bool)
  k : LK

/-- What an operation leaves that was passed over. -/
abbrev L.no : L := .at (.d (.tup []))

def dop (G : World → Prop) (P : Program) (o : LOp) (st : St) (K : St → Prop) : Prop :=
  match o.g with
  | none => dsem G P o.k st.ev st.blk fun l us => K (st.write o.dst l us)
  | some (t, b) => match st.get t with
    | .at (.d (.bool q)) => if q = b then dsem G P o.k st.ev st.blk fun l us => K (st.write o.dst l us) else K (st.write o.dst .no [])
    | .at (.d (.tup [])) => K (st.write o.dst .no [])
    | _ => False
def dops (G : World → Prop) (P : Program) : List LOp → St → (St → Prop) → Prop
  | [], st, K => K st
  | o :: r, st, K => dop G P o st fun st' => dops G P r st' K

def chkG (ops : Array Oper) : Option (Nat × Bool) → Option (Nat × Bool) → Bool
  | none, none => true
  | some (j, b), some (t, b') => b == b' && ((ops[j]?).bind (·.dst)) == some t
  | _, _ => false
def chkOp (P : Program) (nt : Nat) (ops : Array Oper) (o : Oper) (lo : LOp) : Bool :=
  o.dst == lo.dst && (match lo.dst with
    | some d => decide (d < nt)
    | none => true) && chkG ops o.guard lo.g && chkK P o.op lo.k
def chkOps (P : Program) (nt : Nat) (ops : Array Oper) : List Oper → List LOp → Bool
  | [], [] => true
  | o :: os, lo :: los => chkOp P nt ops o lo && chkOps P nt ops os los
  | _, _ => false

section
variable {P : Program} {G : World → Prop} {N0 : Base} {w0 : World} {nt : Nat} {st : St} {a : Act} {w : World} {ops : Array Oper}

theorem Rel.skip (R : Rel G N0 w0 nt st a w) (dst : Option Nat) (hd : ∀ d, dst = some d → d < nt) : Rel G N0 w0 nt (st.write dst .no []) (a.put dst undef) w :=
  R.value dst hd _ undef (fun _ _ _ _ => .tup [] [] rfl (fun i d v h => by simp at h)) (fun _ h => h.elim)

theorem chkOp_parts {o : Oper} {lo : LOp} (h : chkOp P nt ops o lo = true) : o.dst = lo.dst ∧ (∀ d, o.dst = some d → d < nt) ∧ chkG ops o.guard lo.g = true ∧ chkK P o.op lo.k = true := by
  simp only [chkOp, Bool.and_eq_true, beq_iff_eq] at h
  obtain ⟨⟨⟨h1, h2⟩, h3⟩, h4⟩ := h
  refine ⟨h1, fun d hd => ?_, h3, h4⟩
  rw [h1] at hd
  rw [hd] at h2
  simpa using h2

/-- Whether an operation runs. -/
theorem wanted_of (R : Rel G N0 w0 nt st a w) {o : Oper} {lo : LOp} (hg : chkG ops o.guard lo.g = true) :
    match lo.g with
    | none => Region.wanted o (yielded ops a.tmps) = true
    | some (t, b) => (∀ q, st.get t = .at (.d (.bool q)) → Region.wanted o (yielded ops a.tmps) = (q == b)) ∧ (st.get t = .no → Region.wanted o (yielded ops a.tmps) = false) := by
  unfold chkG at hg
  split at hg
  · rename_i h1 h2
    rw [h2]
    simp [Region.wanted, h1]
  · rename_i j b t b' h1 h2
    simp only [Bool.and_eq_true, beq_iff_eq] at hg
    obtain ⟨rfl, h3⟩ := hg
    rw [h2]
    obtain ⟨E, N, hE, hts⟩ := R.env
    have h4 := hts t
    refine ⟨fun q hq => ?_, fun hq => ?_⟩
    rotate_left
    · rw [hq] at h4
      have h4 : Rv N w (.tup []) (a.tmps.getD t undef) := h4
      have h5 : a.tmps.getD t undef = .tuple #[] := by
        generalize a.tmps.getD t undef = v at h4 ⊢
        cases h4 with
        | tup ds vs h _ => cases vs with
          | nil => rfl
          | cons _ _ => simp at h
      have h6 : a.tmps[t]? = some (.tuple #[]) ∨ a.tmps[t]? = none := by
        rw [Array.getD_eq_getD_getElem?] at h5
        cases hx : a.tmps[t]? with
        | none => exact .inr rfl
        | some v => rw [hx] at h5; simp at h5; rw [h5]; exact .inl rfl
      rcases h6 with h6 | h6 <;> simp only [Region.wanted, h1, yielded, h3, Option.bind_some, h6] <;> rfl
    rw [hq] at h4
    have h4 : Rv N w (.bool q) (a.tmps.getD t undef) := h4
    have h5 : a.tmps.getD t undef = .bool q := by generalize a.tmps.getD t undef = v at h4 ⊢; cases h4; rfl
    have h6 : a.tmps[t]? = some (.bool q) := by
      rw [Array.getD_eq_getD_getElem?] at h5
      cases hx : a.tmps[t]? with
      | none => rw [hx] at h5; cases h5
      | some v => rw [hx] at h5; simp at h5; rw [h5]
    simp only [Region.wanted, h1, yielded, h3, Option.bind_some, h6]
    cases q <;> cases b <;> rfl
  · cases hg

/-- One operation, wherever it stands. -/
theorem op_sound {o : Oper} {lo : LOp} (hc : chkOp P nt ops o lo = true) (R : Rel G N0 w0 nt st a w) {K : St → Prop} (hs : dop G P lo st K) {next : Act → World → Prop} {Q : Exit → Act → World → Prop}
    (hK : ∀ st' a' w', K st' → Rel G N0 w0 nt st' a' w' → next a' w') :
    if Region.wanted o (yielded ops a.tmps) then o.wp P a w next Q else next (a.put o.dst undef) w := by
  obtain ⟨h1, h2, h3, h4⟩ := chkOp_parts hc
  have hw := wanted_of R h3
  have how := owes_of_chk (G := G) h4
  have hrun : (dsem G P lo.k st.ev st.blk fun l us => K (st.write lo.dst l us)) → o.wp P a w next Q := fun hs =>
    how N0 w0 nt st a w next Q _ R h2 hs fun l us a' w' hk hr => hK _ a' w' hk (by rw [← h1]; exact hr)
  unfold dop at hs
  split at hs
  · rename_i hg
    rw [hg] at hw
    simp only at hw
    rw [hw, if_pos rfl]
    exact hrun hs
  · rename_i t b hg
    rw [hg] at hw
    simp only at hw
    split at hs
    · rename_i q hq
      rw [hw.1 q hq]
      split at hs
      · rename_i hqb
        subst hqb
        rw [if_pos (by simp)]
        exact hrun hs
      · rename_i hqb
        rw [if_neg (by simpa using hqb)]
        refine hK _ _ _ hs ?_
        rw [h1]
        exact R.skip _ (fun d hd => h2 d (by rw [h1]; exact hd))
    · rename_i hq
      rw [hw.2 hq, if_neg (by simp)]
      refine hK _ _ _ hs ?_
      rw [h1]
      exact R.skip _ (fun d hd => h2 d (by rw [h1]; exact hd))
    · exact hs.elim

theorem ops_sound {Q : Exit → Act → World → Prop} : ∀ (os : List Oper) (los : List LOp) {st : St} {a : Act} {w : World} {K : St → Prop}, chkOps P nt ops os los = true → Rel G N0 w0 nt st a w → dops G P los st K →
    (∀ st' a' w', K st' → Rel G N0 w0 nt st' a' w' → Q .normal a' w') → wpList P ops Q os a w
  | [], [], st, a, w, K, _, R, hs, hK => hK _ _ _ hs R
  | o :: os, lo :: los, st, a, w, K, hc, R, hs, hK => by
    simp only [chkOps, Bool.and_eq_true] at hc
    refine wpList_step fun K' hK' => ?_
    exact op_sound hc.1 R hs fun st' a' w' hk hr => hK' _ _ (ops_sound os los hc.2 hr hk hK)
  | [], _ :: _, _, _, _, _, hc, _, _, _ => by simp [chkOps] at hc
  | _ :: _, [], _, _, _, _, hc, _, _, _ => by simp [chkOps] at hc
end
end Go.Proofs.YtpfhfokfambdaaaGreatDoor.Ev

/-! What an operation looks at; that it has one outcome. -/
namespace Go.Proofs.YtpfhfokfambdaaaGreatDoor.Ev

/-- The operands of an operation; the slots that it lays. -/
def LK.xs : LK → List X
  | .mov x | .box _ x | .load _ x | .nilck x | .not x | .neg x | .conv _ x | .convS x | .bytes x | .fieldA _ x | .field _ _ x | .ext x _ | .lenS x | .lenL x | .isNilS _ x | .slcA _ _ x | .rangeM _ x | .nextM x | .entryM x | .bind _ x | .cloneR _ _ _ _ x => [x]
  | .pick c a b => [c, a, b]
  | .alloc .. | .lenC _ | .mkMap _ => []
  | .build _ ps | .buildS _ _ _ _ ps => ps.map fun p => p.2.2
  | .store _ x v | .lookup _ _ x v => [x, v]
  | .mapUpd x k v | .insR _ _ _ x k v => [x, k, v]
  | .bin _ x y | .eqAgg _ _ x y | .beq _ x y | .isNil _ x y | .idxA _ x y | .idxAA _ _ x y | .idx _ _ _ x y | .idxS x y | .append _ _ x y | .appN _ _ _ x y | .max2 x y | .min2 x y => [x, y]
  | .fn _ xs | .call _ xs | .callS _ xs _ _ | .callF _ xs | .callD _ xs => xs
  | .callv g xs | .callvS g xs _ _ | .callvD g xs => g :: xs
  | .slcS x lo hi | .slcL _ x lo hi => x :: lo.toList ++ hi.toList
def LK.own : LK → List Nat
  | .alloc k _ | .box k _ | .buildS k .. | .mkMap k | .rangeM k _ | .cloneR _ k _ _ _ | .appN k _ _ _ _ => [k]
  | .callS _ _ ks ns | .callvS _ _ ks ns => ks ++ ns
  | _ => []

theorem pubs_congr {α β : Type} {f g : α → Option β} : ∀ {l : List α}, (∀ x ∈ l, f x = g x) → pubs f l = pubs g l
  | [], _ => rfl
  | a :: l, h => by
    simp only [pubs]
    rw [h a List.mem_cons_self, pubs_congr (fun x hx => h x (List.mem_cons_of_mem _ hx))]

theorem flatMap_congr' {α : Type} {f g : α → List Nat} : ∀ {l : List α}, (∀ x ∈ l, f x = g x) → l.flatMap f = l.flatMap g
  | [], _ => rfl
  | a :: l, h => by
    simp only [List.flatMap_cons]
    rw [h a List.mem_cons_self, flatMap_congr' fun x hx => h x (List.mem_cons_of_mem _ hx)]

section
variable {blk blk' : Nat → Option Blk} {ev ev' : X → L}
theorem C.pub_local {c : C} (h : ∀ k ∈ c.slots, blk' k = blk k) : c.pub blk' = c.pub blk := by
  cases c with
  | d x => rfl
  | loc k off => simp only [C.pub, h k (by simp [C.slots])]
theorem A.pub_local {x : A} (h : ∀ k ∈ x.slots, blk' k = blk k) : x.pub blk' = x.pub blk := by
  cases x with
  | loc k off => simp only [A.pub, h k (by simp [A.slots])]
  | row k n => simp only [A.pub, h k (by simp [A.slots])]
  | rloc k n s i o => simp only [A.pub, h k (by simp [A.slots])]
  | fn f cs =>
    simp only [A.pub]
    rw [pubs_congr fun c hc => C.pub_local fun k hk => h k (List.mem_flatMap.2 ⟨c, hc, hk⟩)]
  | _ => rfl
theorem L.pub_local {l : L} (h : ∀ k ∈ l.slots, blk' k = blk k) : l.pub blk' = l.pub blk := by
  cases l with
  | «at» x => exact A.pub_local h
  | agg cs =>
    simp only [L.pub]
    rw [pubs_congr fun c hc => A.pub_local fun k hk => h k (List.mem_flatMap.2 ⟨c, hc, hk⟩)]
  | tup ms => rfl
theorem frz_local : ∀ {ks : List Nat}, (∀ k ∈ ks, blk' k = blk k) → frz blk' ks = frz blk ks
  | [], _ => rfl
  | k :: ks, h => by
    simp only [frz]
    rw [h k List.mem_cons_self, frz_local fun j hj => h j (List.mem_cons_of_mem _ hj)]
theorem lies_local {l : L} (h : ∀ k ∈ l.slots, blk' k = blk k) : lies blk' l = lies blk l := by
  cases l with
  | «at» x =>
    cases x with
    | loc k off => simp only [lies, h k (by simp [L.slots, A.slots])]
    | rloc k n s i o => simp only [lies, h k (by simp [L.slots, A.slots])]
    | d x => cases x <;> rfl
    | _ => rfl
  | agg cs => rfl
  | tup ms => rfl
theorem elems_local {s : Nat} {l : L} (h : ∀ k ∈ l.slots, blk' k = blk k) : elems blk' s l = elems blk s l := by
  cases l with
  | «at» x =>
    cases x with
    | row k n => simp only [elems, h k (by simp [L.slots, A.slots])]
    | d x => cases x <;> rfl
    | _ => rfl
  | agg cs => rfl
  | tup ms => rfl
theorem fillL_local : ∀ {ps : List (Nat × Nat × X)} {z : List A}, (∀ x ∈ ps.map (fun p => p.2.2), ev' x = ev x) → fillL ev' ps z = fillL ev ps z
  | [], z, _ => rfl
  | (off, n, x) :: ps, z, h => by
    simp only [fillL]
    rw [h x (by simp)]
    have ih : ∀ z, fillL ev' ps z = fillL ev ps z := fun z => fillL_local fun y hy => h y (by simp only [List.map_cons, List.mem_cons]; exact .inr hy)
    simp only [ih]
theorem grab_local : ∀ {ks : List Nat}, (∀ k ∈ ks, blk' k = blk k) → grab blk' ks = grab blk ks
  | [], _ => rfl
  | k :: ks, h => by
    simp only [grab]
    rw [h k List.mem_cons_self, grab_local fun j hj => h j (List.mem_cons_of_mem _ hj)]
theorem all_local {p : Option Blk → Bool} {ks : List Nat} (h : ∀ k ∈ ks, blk' k = blk k) : ks.all (fun k => p (blk' k)) = ks.all fun k => p (blk k) := by
  induction ks with
  | nil => rfl
  | cons k ks ih =>
    simp only [List.all_cons]
    rw [h k List.mem_cons_self, ih fun j hj => h j (List.mem_cons_of_mem _ hj)]
theorem shared_local {ks ns : List Nat} {args : List L} {us : List (Nat × Blk)} (h : ∀ k ∈ ks ++ ns, blk' k = blk k) : sharedOk blk' args ks ns us = sharedOk blk args ks ns us := by
  unfold sharedOk
  rw [all_local (p := Option.isSome) fun k hk => h k (List.mem_append_left _ hk), all_local (p := Option.isNone) fun k hk => h k (List.mem_append_right _ hk), grab_local fun k hk => h k (List.mem_append_left _ hk)]
theorem bound_local {d : Nat} {x : Option X} (h : ∀ y ∈ x.toList, ev' y = ev y) : bound ev' d x = bound ev d x := by
  cases x with
  | none => rfl
  | some y => simp only [bound]; rw [h y (by simp)]

/-- It has one outcome, and looks no further than its operands and their slots. -/
def LK.det : LK → Bool
  | .isNilS .. | .nextM .. | .entryM .. => false
  | _ => true
/-- It shares slots that are chosen with its contract. -/
def LK.dyn : LK → Bool
  | .callD .. | .callvD .. => true
  | _ => false
/-- It reads what the cells of its slots name. -/
def LK.deep : LK → Bool
  | .callF .. => true
  | _ => false
/-- The slots that some slots name. -/
def nest (blk : Nat → Option Blk) (ks : List Nat) : List Nat := ks.flatMap fun k => match blk k with
  | some b => b.slots
  | none => []
theorem A.pub2_local {x : A} (h : ∀ k ∈ x.slots, blk' k = blk k) (hn : ∀ k ∈ nest blk x.slots, blk' k = blk k) : x.pub2 blk' = x.pub2 blk := by
  unfold A.pub2
  rw [A.pub_local h]
  cases x with
  | row k n =>
    have hk := h k (by simp [A.slots])
    simp only [hk]
    cases hb : blk k with
    | none => rfl
    | some b =>
      cases b with
      | row e s rs =>
        have : pubs (pubs (A.pub blk')) rs = pubs (pubs (A.pub blk)) rs := pubs_congr fun r hr => pubs_congr fun x hx => A.pub_local fun q hq =>
          hn q (List.mem_flatMap.2 ⟨k, by simp [A.slots], by rw [hb]; exact List.mem_flatMap.2 ⟨r, hr, List.mem_flatMap.2 ⟨x, hx, hq⟩⟩⟩)
        simp only [this]
      | _ => rfl
  | _ => rfl
theorem nest_mono {ks ks' : List Nat} (h : ∀ k ∈ ks, k ∈ ks') : ∀ k ∈ nest blk ks, k ∈ nest blk ks' := by
  intro k hk
  obtain ⟨j, hj, hk⟩ := List.mem_flatMap.1 hk
  exact List.mem_flatMap.2 ⟨j, h j hj, hk⟩
theorem L.pub2_local {l : L} (h : ∀ k ∈ l.slots, blk' k = blk k) (hn : ∀ k ∈ nest blk l.slots, blk' k = blk k) : l.pub2 blk' = l.pub2 blk := by
  cases l with
  | «at» x => exact A.pub2_local h hn
  | agg cs =>
    simp only [L.pub2]
    rw [pubs_congr fun c hc => A.pub2_local (fun k hk => h k (List.mem_flatMap.2 ⟨c, hc, hk⟩)) fun k hk => hn k (nest_mono (fun j hj => List.mem_flatMap.2 ⟨c, hc, hj⟩) k hk)]
  | tup ms => rfl
/-- An operation looks at its operands, and at the slots that they and it name; at nothing else. -/
theorem dsem_local {G : World → Prop} {P : Program} {lk : LK} {K : L → List (Nat × Blk) → Prop} (hdet : lk.det = true) (hdyn : lk.dyn = false) (h4 : lk.deep = true → ∀ x ∈ lk.xs, ∀ k ∈ nest blk (ev x).slots, blk' k = blk k) (h1 : ∀ x ∈ lk.xs, ev' x = ev x) (h2 : ∀ x ∈ lk.xs, ∀ k ∈ (ev x).slots, blk' k = blk k) (h3 : ∀ k ∈ lk.own, blk' k = blk k)
    (h : dsem G P lk ev blk K) : dsem G P lk ev' blk' K := by
  have hslot : ∀ x ∈ lk.xs, ∀ {k n : Nat}, ev x = .at (.loc k n) → blk' k = blk k := fun x hx k n e => h2 x hx k (by rw [e]; simp [L.slots, A.slots])
  have hslotr : ∀ x ∈ lk.xs, ∀ {k n : Nat}, ev x = .at (.row k n) → blk' k = blk k := fun x hx k n e => h2 x hx k (by rw [e]; simp [L.slots, A.slots])
  have hslotl : ∀ x ∈ lk.xs, ∀ {k n s i o : Nat}, ev x = .at (.rloc k n s i o) → blk' k = blk k := fun x hx k n s i o e => h2 x hx k (by rw [e]; simp [L.slots, A.slots])
  cases lk with
  | mov x => simp only [dsem] at h ⊢; rw [h1 x (by simp [LK.xs])]; exact h
  | pick c a b => simp only [dsem] at h ⊢; rw [h1 c (by simp [LK.xs]), h1 a (by simp [LK.xs]), h1 b (by simp [LK.xs])]; exact h
  | alloc k z => simp only [dsem] at h ⊢; rw [h3 k (by simp [LK.own])]; exact h
  | box k x => simp only [dsem] at h ⊢; rw [h1 x (by simp [LK.xs]), h3 k (by simp [LK.own])]; exact h
  | build z ps => simp only [dsem] at h ⊢; rw [fillL_local (ev := ev) (ev' := ev') h1]; exact h
  | buildS k e s n ps => simp only [dsem] at h ⊢; rw [fillL_local (ev := ev) (ev' := ev') h1, h3 k (by simp [LK.own])]; exact h
  | load n x => simp only [dsem] at h ⊢; rw [h1 x (by simp [LK.xs]), lies_local (h2 x (by simp [LK.xs]))]; exact h
  | store n x v =>
    simp only [dsem] at h ⊢
    rw [h1 x (by simp [LK.xs]), h1 v (by simp [LK.xs])]
    split at h
    · rename_i cs hcs
      refine ⟨h.1, h.2.1, ?_⟩
      have h := h.2.2
      split at h
      · rename_i k off he
        rw [hslot x (by simp [LK.xs]) he]
        exact h
      · rename_i k m s i o he
        rw [hslotl x (by simp [LK.xs]) he]
        exact h
      · exact h.elim
    · exact h.elim
  | nilck x => simp only [dsem] at h ⊢; rw [h1 x (by simp [LK.xs])]; exact h
  | bin op x y => simp only [dsem] at h ⊢; rw [h1 x (by simp [LK.xs]), h1 y (by simp [LK.xs])]; exact h
  | eqAgg neg ks x y => simp only [dsem] at h ⊢; rw [h1 x (by simp [LK.xs]), h1 y (by simp [LK.xs])]; exact h
  | beq neg x y => simp only [dsem] at h ⊢; rw [h1 x (by simp [LK.xs]), h1 y (by simp [LK.xs])]; exact h
  | isNil neg x y => simp only [dsem] at h ⊢; rw [h1 x (by simp [LK.xs]), h1 y (by simp [LK.xs])]; exact h
  | not x => simp only [dsem] at h ⊢; rw [h1 x (by simp [LK.xs])]; exact h
  | neg x => simp only [dsem] at h ⊢; rw [h1 x (by simp [LK.xs])]; exact h
  | conv k x => simp only [dsem] at h ⊢; rw [h1 x (by simp [LK.xs])]; exact h
  | convS x => simp only [dsem] at h ⊢; rw [h1 x (by simp [LK.xs])]; exact h
  | bytes x => simp only [dsem] at h ⊢; rw [h1 x (by simp [LK.xs])]; exact h
  | fn f xs => simp only [dsem] at h ⊢; rw [pubs_congr fun x hx => by rw [h1 x hx]]; exact h
  | fieldA off x => simp only [dsem] at h ⊢; rw [h1 x (by simp [LK.xs])]; exact h
  | field off n x => simp only [dsem] at h ⊢; rw [h1 x (by simp [LK.xs])]; exact h
  | idxA s x i =>
    simp only [dsem] at h ⊢
    rw [h1 x (by simp [LK.xs]), h1 i (by simp [LK.xs])]
    split at h
    · rename_i kd n hi
      refine ⟨h.1, ?_⟩
      have h := h.2
      split at h
      · exact h
      · rename_i k m he
        rw [hslotr x (by simp [LK.xs]) he]
        exact h
      · exact h.elim
    · exact h.elim
  | idxAA len s x i => simp only [dsem] at h ⊢; rw [h1 x (by simp [LK.xs]), h1 i (by simp [LK.xs])]; exact h
  | idx len s n x i => simp only [dsem] at h ⊢; rw [h1 x (by simp [LK.xs]), h1 i (by simp [LK.xs])]; exact h
  | idxS x i => simp only [dsem] at h ⊢; rw [h1 x (by simp [LK.xs]), h1 i (by simp [LK.xs])]; exact h
  | slcS x lo hi =>
    simp only [dsem] at h ⊢
    have e1 : ∀ d, bound ev' d lo = bound ev d lo := fun d => bound_local fun y hy => h1 y (by simp only [LK.xs, List.cons_append, List.mem_cons, List.mem_append]; exact .inr (.inl hy))
    have e2 : ∀ d, bound ev' d hi = bound ev d hi := fun d => bound_local fun y hy => h1 y (by simp only [LK.xs, List.cons_append, List.mem_cons, List.mem_append]; exact .inr (.inr hy))
    rw [h1 x (by simp [LK.xs])]
    simp only [e1, e2]
    exact h
  | slcL s x lo hi =>
    simp only [dsem] at h ⊢
    have e1 : ∀ d, bound ev' d lo = bound ev d lo := fun d => bound_local fun y hy => h1 y (by simp only [LK.xs, List.cons_append, List.mem_cons, List.mem_append]; exact .inr (.inl hy))
    have e2 : ∀ d, bound ev' d hi = bound ev d hi := fun d => bound_local fun y hy => h1 y (by simp only [LK.xs, List.cons_append, List.mem_cons, List.mem_append]; exact .inr (.inr hy))
    rw [h1 x (by simp [LK.xs])]
    simp only [e1, e2]
    exact h
  | ext x i => simp only [dsem] at h ⊢; rw [h1 x (by simp [LK.xs])]; exact h
  | call f xs =>
    simp only [dsem] at h ⊢
    have hx : ∀ x ∈ xs, ev' x = ev x := h1
    have e1 : pubs (fun x => (ev' x).pub blk') xs = pubs (fun x => (ev x).pub blk) xs := pubs_congr fun x hx' => by rw [hx x hx']; exact L.pub_local (h2 x hx')
    have e2 : xs.flatMap (fun x => (ev' x).slots) = xs.flatMap (fun x => (ev x).slots) := flatMap_congr' fun x hx' => by rw [hx x hx']
    have e3 : frz blk' (xs.flatMap fun x => (ev x).slots) = frz blk (xs.flatMap fun x => (ev x).slots) := frz_local fun k hk => by
      obtain ⟨x, hx', hk⟩ := List.mem_flatMap.1 hk
      exact h2 x hx' k hk
    rw [e1, e2, e3]
    exact h
  | callv g xs =>
    simp only [dsem] at h ⊢
    have hg : ev' g = ev g := h1 g (by simp [LK.xs])
    have hx : ∀ x ∈ xs, ev' x = ev x := fun x hx' => h1 x (by simp [LK.xs, hx'])
    have hk2 : ∀ x ∈ xs, ∀ k ∈ (ev x).slots, blk' k = blk k := fun x hx' => h2 x (by simp [LK.xs, hx'])
    have e0 : (ev' g).pub blk' = (ev g).pub blk := by rw [hg]; exact L.pub_local (h2 g (by simp [LK.xs]))
    have e1 : pubs (fun x => (ev' x).pub blk') xs = pubs (fun x => (ev x).pub blk) xs := pubs_congr fun x hx' => by rw [hx x hx']; exact L.pub_local (hk2 x hx')
    have e2 : xs.flatMap (fun x => (ev' x).slots) = xs.flatMap (fun x => (ev x).slots) := flatMap_congr' fun x hx' => by rw [hx x hx']
    have e3 : frz blk' ((ev g).slots ++ xs.flatMap fun x => (ev x).slots) = frz blk ((ev g).slots ++ xs.flatMap fun x => (ev x).slots) := frz_local fun k hk => by
      rcases List.mem_append.1 hk with hk | hk
      · exact h2 g (by simp [LK.xs]) k hk
      · obtain ⟨x, hx', hk⟩ := List.mem_flatMap.1 hk
        exact hk2 x hx' k hk
    rw [e0, e1, e2, hg, e3]
    exact h
  | lenC n => exact h
  | lenS x => simp only [dsem] at h ⊢; rw [h1 x (by simp [LK.xs])]; exact h
  | lenL x =>
    simp only [dsem] at h ⊢
    rw [h1 x (by simp [LK.xs])]
    split at h
    · exact h
    · rename_i k n he
      rw [hslotr x (by simp [LK.xs]) he]
      exact h
    · exact h
    · exact h.elim
  | append e s x y =>
    simp only [dsem] at h ⊢
    rw [h1 x (by simp [LK.xs]), h1 y (by simp [LK.xs]), elems_local (h2 y (by simp [LK.xs]))]
    split at h
    · rename_i k n news he hn
      rw [hslotr x (by simp [LK.xs]) he]
      exact h
    · exact h.elim
  | appN k e s x y =>
    simp only [dsem] at h ⊢
    rw [h1 x (by simp [LK.xs]), h1 y (by simp [LK.xs]), elems_local (h2 y (by simp [LK.xs])), h3 k (by simp [LK.own])]
    split at h
    · exact h
    · rename_i k n news he hn
      rw [hslotr x (by simp [LK.xs]) he]
      exact h
    · exact h.elim
  | max2 x y => simp only [dsem] at h ⊢; rw [h1 x (by simp [LK.xs]), h1 y (by simp [LK.xs])]; exact h
  | min2 x y => simp only [dsem] at h ⊢; rw [h1 x (by simp [LK.xs]), h1 y (by simp [LK.xs])]; exact h
  | isNilS neg x => simp only [dsem] at h ⊢; rw [h1 x (by simp [LK.xs])]; exact h
  | callS f xs ks ns =>
    simp only [dsem] at h ⊢
    obtain ⟨l, us, h4, h5, h6⟩ := h
    rw [List.map_congr_left (f := ev') (g := ev) (l := xs) h1, grab_local fun k hk => h3 k (List.mem_append_left _ hk)]
    exact ⟨l, us, h4, by rw [shared_local h3]; exact h5, h6⟩
  | callvS g xs ks ns =>
    simp only [dsem] at h ⊢
    rw [h1 g (by simp [LK.xs]), List.map_congr_left (f := ev') (g := ev) (l := xs) fun x hx => h1 x (by simp [LK.xs, hx]), grab_local fun k hk => h3 k (List.mem_append_left _ hk)]
    split at h
    · obtain ⟨l, us, h4, h5, h6⟩ := h
      exact ⟨l, us, h4, by rw [shared_local h3]; exact h5, h6⟩
    · obtain ⟨l, us, h4, h5, h6⟩ := h
      exact ⟨l, us, h4, by rw [shared_local h3]; exact h5, h6⟩
    · exact h.elim
  | slcA n s x =>
    simp only [dsem] at h ⊢
    rw [h1 x (by simp [LK.xs])]
    split at h
    · rename_i k he
      rw [hslot x (by simp [LK.xs]) he]
      exact h
    · exact h.elim
  | callF f xs =>
    simp only [dsem] at h ⊢
    have e1 : pubs (fun x => (ev' x).pub2 blk') xs = pubs (fun x => (ev x).pub2 blk) xs := pubs_congr fun x hx => by rw [h1 x hx]; exact L.pub2_local (h2 x hx) (h4 rfl x hx)
    rw [e1]
    exact h
  | nextM x => cases hdet
  | entryM x => cases hdet
  | cloneR f k e s x => simp only [dsem] at h ⊢; rw [h1 x (by simp [LK.xs]), h3 k (by simp [LK.own]), elems_local (h2 x (by simp [LK.xs]))]; exact h
  | insR f e s x i y =>
    simp only [dsem] at h ⊢
    rw [h1 x (by simp [LK.xs]), h1 i (by simp [LK.xs]), h1 y (by simp [LK.xs])]
    split at h
    · rename_i k n q k2 m he _ hy
      rw [hslotr x (by simp [LK.xs]) he, hslotr y (by simp [LK.xs]) hy]
      exact h
    · exact h.elim
  | callD f xs => cases hdyn
  | callvD g xs => cases hdyn
  | bind f x => simp only [dsem] at h ⊢; rw [h1 x (by simp [LK.xs])]; exact h
  | mkMap k => simp only [dsem] at h ⊢; rw [h3 k (by simp [LK.own])]; exact h
  | mapUpd x key v =>
    simp only [dsem] at h ⊢
    rw [h1 x (by simp [LK.xs]), h1 key (by simp [LK.xs]), h1 v (by simp [LK.xs])]
    split at h
    · rename_i k s' a he _ _
      rw [h2 x (by simp [LK.xs]) k (by rw [he]; simp [L.slots, A.slots])]
      exact h
    · exact h.elim
  | lookup ok z x key =>
    simp only [dsem] at h ⊢
    rw [h1 x (by simp [LK.xs]), h1 key (by simp [LK.xs])]
    split at h
    · rename_i k s' he _
      rw [h2 x (by simp [LK.xs]) k (by rw [he]; simp [L.slots, A.slots])]
      exact h
    · exact h.elim
  | rangeM k x =>
    simp only [dsem] at h ⊢
    rw [h1 x (by simp [LK.xs]), h3 k (by simp [LK.own])]
    split at h
    · rename_i j he
      rw [h2 x (by simp [LK.xs]) j (by rw [he]; simp [L.slots, A.slots])]
      exact h
    · exact h.elim

/-- An operation has one outcome. -/
theorem dsem_wit {G : World → Prop} {P : Program} {lk : LK} {K : L → List (Nat × Blk) → Prop} (hdet : lk.det = true) (h : dsem G P lk ev blk K) : ∃ l us, K l us ∧ ∀ K' : L → List (Nat × Blk) → Prop, K' l us → dsem G P lk ev blk K' := by
  cases lk
  case isNilS => simp [LK.det] at hdet
  case nextM => simp [LK.det] at hdet
  case entryM => simp [LK.det] at hdet
  all_goals simp only [dsem] at h ⊢
  all_goals
    repeat' (first
      | exact h.elim
      | exact h.2.elim
      | exact h.2.2.elim
      | exact ⟨_, _, h, fun _ hk => hk⟩
      | exact ⟨_, _, h.2, fun _ hk => ⟨h.1, hk⟩⟩
      | exact ⟨_, _, h.2.2, fun _ hk => ⟨h.1, h.2.1, hk⟩⟩
      | exact ⟨_, _, h.2.2.2, fun _ hk => ⟨h.1, h.2.1, h.2.2.1, hk⟩⟩
      | exact ⟨_, _, h.2.2.2.2, fun _ hk => ⟨h.1, h.2.1, h.2.2.1, h.2.2.2.1, hk⟩⟩
      | exact ⟨_, _, h.2.2.2.2.2, fun _ hk => ⟨h.1, h.2.1, h.2.2.1, h.2.2.2.1, h.2.2.2.2.1, hk⟩⟩
      | exact ⟨_, _, h.2.2.2.2.2.2, fun _ hk => ⟨h.1, h.2.1, h.2.2.1, h.2.2.2.1, h.2.2.2.2.1, h.2.2.2.2.2.1, hk⟩⟩
      | exact ⟨_, _, h.2.2.2.2.2.2.2, fun _ hk => ⟨h.1, h.2.1, h.2.2.1, h.2.2.2.1, h.2.2.2.2.1, h.2.2.2.2.2.1, h.2.2.2.2.2.2.1, hk⟩⟩
      | exact ⟨_, _, h.2.2.2.2.2.2.2.2, fun _ hk => ⟨h.1, h.2.1, h.2.2.1, h.2.2.2.1, h.2.2.2.2.1, h.2.2.2.2.2.1, h.2.2.2.2.2.2.1, h.2.2.2.2.2.2.2.1, hk⟩⟩
      | (obtain ⟨r, h1, h2⟩ := h; exact ⟨_, _, h2, fun _ hk => ⟨r, h1, hk⟩⟩)
      | (obtain ⟨r, h1, h2, h3⟩ := h; exact ⟨_, _, h3, fun _ hk => ⟨r, h1, h2, hk⟩⟩)
      | (obtain ⟨ks, ns, l, us, h1, h2, h3, h4⟩ := h; exact ⟨_, _, h4, fun _ hk => ⟨ks, ns, l, us, h1, h2, h3, hk⟩⟩)
      | (obtain ⟨l, us, h1, h2, h3⟩ := h; exact ⟨_, _, h3, fun _ hk => ⟨l, us, h1, h2, hk⟩⟩)
      | split at h
      | (obtain ⟨h0, h⟩ := h; split at h)
      | (obtain ⟨h0, h0', h⟩ := h; split at h))
theorem dsem_dyn {G : World → Prop} {P : Program} {lk : LK} {l : L} {us : List (Nat × Blk)} (hdyn : lk.dyn = true) (h1 : ∀ x ∈ lk.xs, ev' x = ev x) (hus : ∀ k ∈ us.map (·.1), blk' k = blk k)
    (h : dsem G P lk ev blk fun l' us' => l' = l ∧ us' = us) {K : L → List (Nat × Blk) → Prop} (hK : K l us) : dsem G P lk ev' blk' K := by
  have cov : ∀ {ks ns : List Nat}, (ks ++ ns).all (fun k => (look us k).isSome) = true → ∀ k ∈ ks ++ ns, blk' k = blk k := by
    intro ks ns h k hk
    have := List.all_eq_true.1 h k hk
    obtain ⟨b, hb⟩ := Option.isSome_iff_exists.1 this
    exact hus k (List.mem_map.2 ⟨(k, b), look_isSome hb, rfl⟩)
  cases lk <;> try (cases hdyn; done)
  case callD f xs =>
    simp only [dsem] at h ⊢
    obtain ⟨ks, ns, l', us', g1, g2, g3, rfl, rfl⟩ := h
    have hc := cov g3
    rw [List.map_congr_left (f := ev') (g := ev) (l := xs) h1]
    exact ⟨ks, ns, _, _, by rw [grab_local fun k hk => hc k (List.mem_append_left _ hk)]; exact g1, by rw [shared_local hc]; exact g2, g3, hK⟩
  case callvD g xs =>
    simp only [dsem] at h ⊢
    rw [h1 g (by simp [LK.xs]), List.map_congr_left (f := ev') (g := ev) (l := xs) fun x hx => h1 x (by simp [LK.xs, hx])]
    split at h
    · obtain ⟨ks, ns, l', us', g1, g2, g3, rfl, rfl⟩ := h
      have hc := cov g3
      exact ⟨ks, ns, _, _, by rw [grab_local fun k hk => hc k (List.mem_append_left _ hk)]; exact g1, by rw [shared_local hc]; exact g2, g3, hK⟩
    · obtain ⟨ks, ns, l', us', g1, g2, g3, rfl, rfl⟩ := h
      have hc := cov g3
      exact ⟨ks, ns, _, _, by rw [grab_local fun k hk => hc k (List.mem_append_left _ hk)]; exact g1, by rw [shared_local hc]; exact g2, g3, hK⟩
    · obtain ⟨ks, ns, l', us', g1, g2, g3, rfl, rfl⟩ := h
      have hc := cov g3
      exact ⟨ks, ns, _, _, by rw [grab_local fun k hk => hc k (List.mem_append_left _ hk)]; exact g1, by rw [shared_local hc]; exact g2, g3, hK⟩
    · exact h.elim
theorem dsem_mono {G : World → Prop} {P : Program} {lk : LK} {K K' : L → List (Nat × Blk) → Prop} (hK : ∀ l us, K l us → K' l us) (h : dsem G P lk ev blk K) : dsem G P lk ev blk K' := by
  by_cases hd : lk.det = true
  · obtain ⟨l, us, h1, h2⟩ := dsem_wit hd h
    exact h2 _ (hK _ _ h1)
  · cases lk
    case isNilS =>
      simp only [dsem] at h ⊢
      split at h
      · exact hK _ _ h
      · exact ⟨fun e => hK _ _ (h.1 e), hK _ _ h.2⟩
      · exact h
    case entryM =>
      simp only [dsem] at h ⊢
      split at h
      · split at h
        · split at h
          · refine ⟨h.1, ?_⟩
            have h := h.2
            split at h
            · exact hK _ _ h
            · exact h
          · exact h
        · exact h
      · exact h
    case nextM =>
      simp only [dsem] at h ⊢
      split at h
      · split at h
        · split at h
          · exact ⟨h.1, fun e => hK _ _ (h.2.1 e), fun i p g1 g2 => hK _ _ (h.2.2 i p g1 g2)⟩
          · exact h
        · exact h
      · exact h
    all_goals exact absurd rfl hd
end
end Go.Proofs.YtpfhfokfambdaaaGreatDoor.Ev

/-! Regions whose order is drawn: what is found in the text's order is found in every order, where operations that touch one another are ordered. -/
namespace Go.Proofs.YtpfhfokfambdaaaGreatDoor.Ev

def X.tmp? : X → Option Nat
  | .t i => some i
  | .c _ => none
/-- The temporaries that an operation looks at. -/
def LOp.tmps (o : LOp) : List Nat := o.k.xs.filterMap X.tmp? ++ (match o.g with
  | some (t, _) => [t]
  | none => [])
/-- The slots that it looks at. -/
def rsOf (lk : LK) (ev : X → L) (blk : Nat → Option Blk) : List Nat := lk.xs.flatMap (fun x => (ev x).slots) ++ lk.own ++ if lk.deep then nest blk (lk.xs.flatMap fun x => (ev x).slots) else []
def okLog (anc : Nat) (r w : List Nat) (log : List (Nat × List Nat × List Nat)) : Bool :=
  log.all fun e => anc.testBit e.1 || ((r ++ w).all (fun k => !e.2.2.contains k) && w.all fun k => !e.2.1.contains k)
def ddraw (G : World → Prop) (P : Program) (anc : List Nat) : Nat → List (Nat × List Nat × List Nat) → List LOp → St → (St → Prop) → Prop
  | _, _, [], st, K => K st
  | i, log, o :: r, st, K => match o.g with
    | none => dsem G P o.k st.ev st.blk fun l us => okLog (anc.getD i 0) (rsOf o.k st.ev st.blk) (us.map (·.1)) log = true ∧ ddraw G P anc (i + 1) ((i, rsOf o.k st.ev st.blk, us.map (·.1)) :: log) r (st.write o.dst l us) K
    | some (t, b) => match st.get t with
      | .at (.d (.bool q)) => if q = b then dsem G P o.k st.ev st.blk fun l us => okLog (anc.getD i 0) (rsOf o.k st.ev st.blk) (us.map (·.1)) log = true ∧ ddraw G P anc (i + 1) ((i, rsOf o.k st.ev st.blk, us.map (·.1)) :: log) r (st.write o.dst l us) K
          else ddraw G P anc (i + 1) ((i, [], []) :: log) r (st.write o.dst .no []) K
      | .at (.d (.tup [])) => ddraw G P anc (i + 1) ((i, [], []) :: log) r (st.write o.dst .no []) K
      | _ => False
/-- Temporaries that are written and looked at are ordered. -/
def apartT (x y : LOp) : Bool := (match x.dst with
    | some d => !(y.tmps.contains d) && y.dst != some d
    | none => true) && (match y.dst with
    | some d => !(x.tmps.contains d)
    | none => true)
def chkT (anc : List Nat) (los : List LOp) : Bool := los.all (fun o => o.k.det) && (List.range los.length).all fun i => (List.range i).all fun j => (anc.getD i 0).testBit j || (match los[j]?, los[i]? with
  | some x, some y => apartT x y
  | _, _ => false)
def needsOf (o : Oper) : List Nat := (o.after.toList.filter fun e => Region.binds .any e).map (·.on)
def ancOk (ops : Array Oper) (anc : List Nat) : Bool := (List.range ops.size).all fun i => match ops[i]? with
  | some o => (needsOf o).all (fun n => decide (n < i)) && (List.range i).all fun b => !(anc.getD i 0).testBit b || (needsOf o).any fun n => n == b || (decide (b < n) && (anc.getD n 0).testBit b)
  | none => false

/-- What an operation found and wrote, in the text's order. -/
structure Wr where
  dst : Option Nat
  l : L
  us : List (Nat × Blk)
  rs : List Nat
def St.wr (st : St) (w : Wr) : St := st.write w.dst w.l w.us
def guardAt (o : LOp) (st : St) : Option Bool := match o.g with
  | none => some true
  | some (t, b) => match st.get t with
    | .at (.d (.bool q)) => some (q == b)
    | .at (.d (.tup [])) => some false
    | _ => none
def Stp (G : World → Prop) (P : Program) (o : LOp) (st : St) (w : Wr) : Prop := w.dst = o.dst ∧
  ((guardAt o st = some true ∧ (∀ K : L → List (Nat × Blk) → Prop, K w.l w.us → dsem G P o.k st.ev st.blk K) ∧ w.rs = rsOf o.k st.ev st.blk) ∨ (guardAt o st = some false ∧ w.l = .no ∧ w.us = []))

section
variable {G : World → Prop} {P : Program} {o : LOp} {st st' : St} {w : Wr}
theorem Stp.dop (h : Stp G P o st w) {K : St → Prop} (hK : K (st.wr w)) : dop G P o st K := by
  obtain ⟨hd, h⟩ := h
  unfold St.wr at hK
  rw [hd] at hK
  unfold Ev.dop
  unfold guardAt at h
  split at h
  · rename_i hg
    try rw [hg]
    rcases h with ⟨_, h, _⟩ | ⟨h, _⟩
    · exact h _ hK
    · cases h
  · rename_i t b hg
    try rw [hg]
    try simp only
    split at h
    · rename_i q hq
      try rw [hq]
      show if q = b then _ else _
      rcases h with ⟨h0, h, _⟩ | ⟨h0, h1, h2⟩
      · rw [if_pos (by simpa using h0)]
        exact h _ hK
      · rw [if_neg (by simpa using h0)]
        rw [h1, h2] at hK
        exact hK
    · rename_i hq
      try rw [hq]
      rcases h with ⟨h, _⟩ | ⟨_, h1, h2⟩
      · cases h
      · rw [h1, h2] at hK
        exact hK
    · rcases h with ⟨h, _⟩ | ⟨h, _⟩ <;> cases h
theorem ev_tmps {o : LOp} (h : ∀ t ∈ o.tmps, st'.get t = st.get t) : ∀ x ∈ o.k.xs, st'.ev x = st.ev x := by
  intro x hx
  cases x with
  | c l => rfl
  | t i => exact h i (List.mem_append_left _ (List.mem_filterMap.2 ⟨.t i, hx, rfl⟩))
theorem Stp.local (hdet : o.k.det = true) (h : Stp G P o st w) (ht : ∀ t ∈ o.tmps, st'.get t = st.get t) (hk : ∀ k ∈ w.rs, st'.blk k = st.blk k) (hus : ∀ k ∈ w.us.map (·.1), st'.blk k = st.blk k) : Stp G P o st' w := by
  obtain ⟨hd, h⟩ := h
  have hg : guardAt o st' = guardAt o st := by
    unfold guardAt
    split
    · rfl
    · rename_i t b hg
      rw [ht t (by simp [LOp.tmps, hg])]
  refine ⟨hd, ?_⟩
  rw [hg]
  rcases h with ⟨h0, h1, h2⟩ | h
  · have hev := ev_tmps ht
    rw [h2] at hk
    have hks : ∀ k ∈ o.k.xs.flatMap (fun x => (st.ev x).slots), st'.blk k = st.blk k := fun k hkk => hk k (List.mem_append_left _ (List.mem_append_left _ hkk))
    have hnest : o.k.deep = true → ∀ k ∈ nest st.blk (o.k.xs.flatMap fun x => (st.ev x).slots), st'.blk k = st.blk k := fun hdp k hkk => hk k (List.mem_append_right _ (by rw [if_pos hdp]; exact hkk))
    refine .inl ⟨h0, fun K hK => ?_, ?_⟩
    · cases hdyn : o.k.dyn with
      | true => exact dsem_dyn hdyn hev hus (h1 _ ⟨rfl, rfl⟩) hK
      | false => exact dsem_local hdet hdyn (fun hdp x hx k hkk => hnest hdp k (nest_mono (fun j hj => List.mem_flatMap.2 ⟨x, hx, hj⟩) k hkk)) hev (fun x hx k hkk => hks k (List.mem_flatMap.2 ⟨x, hx, hkk⟩)) (fun k hkk => hk k (List.mem_append_left _ (List.mem_append_right _ hkk))) (h1 K hK)
    · rw [h2]
      unfold rsOf
      have e1 : o.k.xs.flatMap (fun x => (st'.ev x).slots) = o.k.xs.flatMap (fun x => (st.ev x).slots) := flatMap_congr' fun x hx => by rw [hev x hx]
      rw [e1]
      congr 1
      split
      · unfold nest
        exact (flatMap_congr' fun k hkk => by rw [hks k hkk]).symm
      · rfl
  · exact .inr h

/-- Of two operations, the earlier first: they are ordered, or neither writes what the other touches. -/
def Free (x y : Wr) : Prop := (∀ k ∈ x.us.map (·.1), k ∉ y.rs ∧ k ∉ y.us.map (·.1)) ∧ ∀ k ∈ y.us.map (·.1), k ∉ x.rs

theorem okLog_of {anc : Nat} {r w : List Nat} {log : List (Nat × List Nat × List Nat)} (h : okLog anc r w log = true) {j : Nat} {rj wj : List Nat} (hm : (j, rj, wj) ∈ log) :
    anc.testBit j = true ∨ ((∀ k ∈ wj, k ∉ r ∧ k ∉ w) ∧ ∀ k ∈ w, k ∉ rj) := by
  have := List.all_eq_true.1 h _ hm
  simp only [Bool.or_eq_true, Bool.and_eq_true, List.all_eq_true, Bool.not_eq_true', List.contains_eq_mem, decide_eq_false_iff_not, List.mem_append] at this
  rcases this with h | ⟨h1, h2⟩
  · exact .inl h
  · exact .inr ⟨fun k hk => ⟨fun hr => h1 k (.inl hr) hk, fun hw => h1 k (.inr hw) hk⟩, fun k hk => h2 k hk⟩

def Ext (G : World → Prop) (P : Program) (anc : List Nat) (K : St → Prop) (los : List LOp) (i : Nat) (log : List (Nat × List Nat × List Nat)) (st : St) : Prop :=
  ∃ ws : List Wr, ws.length = los.length ∧ K (ws.foldl St.wr st) ∧
      (∀ (j : Nat) (lo : LOp) (w : Wr), los[j]? = some lo → ws[j]? = some w → Stp G P lo ((ws.take j).foldl St.wr st) w ∧
        ∀ (j' : Nat) (rj wj : List Nat), (j', rj, wj) ∈ log → (anc.getD (i + j) 0).testBit j' = true ∨ ((∀ k ∈ wj, k ∉ w.rs ∧ k ∉ w.us.map (·.1)) ∧ ∀ k ∈ w.us.map (·.1), k ∉ rj)) ∧
      ∀ (j j' : Nat) (x y : Wr), j < j' → ws[j]? = some x → ws[j']? = some y → (anc.getD (i + j') 0).testBit (i + j) = true ∨ Free x y
theorem ddraw_ext {anc : List Nat} {K : St → Prop} : ∀ (los : List LOp) (i : Nat) (log : List (Nat × List Nat × List Nat)) (st : St), los.all (fun o => o.k.det) = true → ddraw G P anc i log los st K → Ext G P anc K los i log st
  | [], i, log, st, _, h => ⟨[], rfl, h, fun j lo w hl => by simp at hl, fun j j' x y _ hx => by simp at hx⟩
  | o :: r, i, log, st, hdet, h => by
    simp only [List.all_cons, Bool.and_eq_true] at hdet
    have step : ∀ (w : Wr), Stp G P o st w → (∀ (j' : Nat) (rj wj : List Nat), (j', rj, wj) ∈ log → (anc.getD i 0).testBit j' = true ∨ ((∀ k ∈ wj, k ∉ w.rs ∧ k ∉ w.us.map (·.1)) ∧ ∀ k ∈ w.us.map (·.1), k ∉ rj)) →
        ddraw G P anc (i + 1) ((i, w.rs, w.us.map (·.1)) :: log) r (st.wr w) K → Ext G P anc K (o :: r) i log st := by
      intro w hstp hlog hrest
      obtain ⟨ws, h1, h2, h3, h4⟩ := ddraw_ext r (i + 1) _ _ hdet.2 hrest
      refine ⟨w :: ws, by simp [h1], h2, fun j lo w' hl hw => ?_, fun j j' x y hlt hx hy => ?_⟩
      · cases j with
        | zero =>
          simp at hl hw
          subst hl
          subst hw
          exact ⟨hstp, hlog⟩
        | succ j =>
          simp at hl hw
          obtain ⟨g1, g2⟩ := h3 j lo w' hl hw
          refine ⟨g1, fun j' rj wj hm => ?_⟩
          have := g2 j' rj wj (List.mem_cons_of_mem _ hm)
          rwa [show i + 1 + j = i + (j + 1) by omega] at this
      · cases j' with
        | zero => omega
        | succ j' =>
          simp at hy
          cases j with
          | zero =>
            simp at hx
            subst hx
            have hlt' : j' < r.length := by rw [← h1]; exact (List.getElem?_eq_some_iff.1 hy).1
            obtain ⟨_, g2⟩ := h3 j' _ y (List.getElem?_eq_getElem hlt') hy
            have := g2 i w.rs (w.us.map (·.1)) List.mem_cons_self
            rw [show i + 1 + j' = i + (j' + 1) by omega] at this
            rcases this with h | ⟨a1, a2⟩
            · exact .inl h
            · exact .inr ⟨a1, a2⟩
          | succ j =>
            simp at hx
            have := h4 j j' x y (by omega) hx hy
            rwa [show i + 1 + j' = i + (j' + 1) by omega, show i + 1 + j = i + (j + 1) by omega] at this
    have run : (guardAt o st = some true) → (dsem G P o.k st.ev st.blk fun l us => okLog (anc.getD i 0) (rsOf o.k st.ev st.blk) (us.map (·.1)) log = true ∧ ddraw G P anc (i + 1) ((i, rsOf o.k st.ev st.blk, us.map (·.1)) :: log) r (st.write o.dst l us) K) → Ext G P anc K (o :: r) i log st := by
      intro hg h
      obtain ⟨l, us, ⟨h1, h2⟩, h3⟩ := dsem_wit hdet.1 h
      exact step ⟨o.dst, l, us, rsOf o.k st.ev st.blk⟩ ⟨rfl, .inl ⟨hg, h3, rfl⟩⟩ (fun j' rj wj hm => okLog_of h1 hm) h2
    simp only [ddraw] at h
    split at h
    · rename_i hg
      exact run (by simp [guardAt, hg]) h
    · rename_i t b hg
      split at h
      · rename_i q hq
        split at h
        · rename_i hqb
          exact run (by simp [guardAt, hg, hq, hqb]) h
        · rename_i hqb
          exact step ⟨o.dst, .no, [], []⟩ ⟨rfl, .inr ⟨by simp [guardAt, hg, hq, hqb], rfl, rfl⟩⟩ (fun j' rj wj hm => .inr ⟨fun k _ => ⟨by simp, by simp⟩, fun k hk => by simp at hk⟩) h
      · rename_i hq
        exact step ⟨o.dst, .no, [], []⟩ ⟨rfl, .inr ⟨by simp [guardAt, hg, hq], rfl, rfl⟩⟩ (fun j' rj wj hm => .inr ⟨fun k _ => ⟨by simp, by simp⟩, fun k hk => by simp at hk⟩) h
      · exact h.elim
end

/-! ### Some of the writes, in the text's order -/
def applyS (S : Nat → Bool) : List Wr → Nat → St → St
  | [], _, st => st
  | w :: r, i, st => applyS S r (i + 1) (if S i then st.wr w else st)

section
variable {S S' : Nat → Bool}
theorem get_wr (st : St) (w : Wr) (t : Nat) : (st.wr w).get t = if w.dst = some t then w.l else st.get t := get_write st w.dst w.l w.us t
theorem look_append {α : Type} : ∀ (l l' : List (Nat × α)) (k : Nat), look (l ++ l') k = match look l k with
    | some x => some x
    | none => look l' k
  | [], l', k => rfl
  | (i, x) :: r, l', k => by
    simp only [List.cons_append, look]
    split
    · rfl
    · exact look_append r l' k
theorem look_none {α : Type} : ∀ {l : List (Nat × α)} {k : Nat}, k ∉ l.map (·.1) → look l k = none
  | [], _, _ => rfl
  | (i, x) :: r, k, h => by
    simp only [List.map_cons, List.mem_cons, not_or] at h
    simp only [look]
    rw [if_neg fun e => h.1 e.symm]
    exact look_none h.2
theorem blk_wr (st : St) (w : Wr) (k : Nat) : (st.wr w).blk k = match look w.us k with
    | some b => some b
    | none => st.blk k := by
  show look (w.us ++ st.m) k = _
  rw [look_append]
  cases look w.us k <;> rfl

theorem applyS_get {t : Nat} : ∀ (ws : List Wr) (i : Nat) (st st' : St), st.get t = st'.get t → (∀ (j : Nat) (w : Wr), ws[j]? = some w → S (i + j) ≠ S' (i + j) → w.dst ≠ some t) → (applyS S ws i st).get t = (applyS S' ws i st').get t
  | [], _, _, _, h, _ => h
  | w :: r, i, st, st', h, hd => by
    simp only [applyS]
    refine applyS_get r (i + 1) _ _ ?_ (fun j w' hw hne => hd (j + 1) w' (by simpa using hw) (by rwa [show i + (j + 1) = i + 1 + j by omega]))
    have h0 := hd 0 w rfl
    rw [Nat.add_zero] at h0
    cases h1 : S i <;> cases h2 : S' i
    · exact h
    · simp only [Bool.false_eq_true, if_false, if_true]
      rw [get_wr, if_neg (h0 (by rw [h1, h2]; simp))]
      exact h
    · simp only [Bool.false_eq_true, if_false, if_true]
      rw [get_wr, if_neg (h0 (by rw [h1, h2]; simp))]
      exact h
    · simp only [if_true]
      rw [get_wr, get_wr, h]
theorem applyS_blk {k : Nat} : ∀ (ws : List Wr) (i : Nat) (st st' : St), st.blk k = st'.blk k → (∀ (j : Nat) (w : Wr), ws[j]? = some w → S (i + j) ≠ S' (i + j) → k ∉ w.us.map (·.1)) → (applyS S ws i st).blk k = (applyS S' ws i st').blk k
  | [], _, _, _, h, _ => h
  | w :: r, i, st, st', h, hd => by
    simp only [applyS]
    refine applyS_blk r (i + 1) _ _ ?_ (fun j w' hw hne => hd (j + 1) w' (by simpa using hw) (by rwa [show i + (j + 1) = i + 1 + j by omega]))
    have h0 := hd 0 w rfl
    rw [Nat.add_zero] at h0
    cases h1 : S i <;> cases h2 : S' i
    · exact h
    · simp only [Bool.false_eq_true, if_false, if_true]
      rw [blk_wr, look_none (h0 (by rw [h1, h2]; simp))]
      exact h
    · simp only [Bool.false_eq_true, if_false, if_true]
      rw [blk_wr, look_none (h0 (by rw [h1, h2]; simp))]
      exact h
    · simp only [if_true]
      rw [blk_wr, blk_wr, h]
/-- One write more, behind all that touch it. -/
theorem applyS_add_get {n : Nat} {w : Wr} {t : Nat} : ∀ (ws : List Wr) (i : Nat) (st : St), ws[n]? = some w → S (i + n) = false → (∀ j, S' j = (S j || j == i + n)) → (∀ (j : Nat) (w' : Wr), n < j → ws[j]? = some w' → S (i + j) = true → w.dst = some t → w'.dst ≠ some t) →
    (applyS S' ws i st).get t = ((applyS S ws i st).wr w).get t
  | [], i, st, hw, _, _, _ => by simp at hw
  | w0 :: r, i, st, hw, hn, hS, hd => by
    simp only [applyS]
    cases n with
    | zero =>
      simp at hw
      subst hw
      rw [Nat.add_zero] at hn hS
      have h1 : S' i = true := by rw [hS]; simp
      rw [hn, h1]
      simp only [Bool.false_eq_true, if_true, if_false]
      rw [get_wr]
      by_cases hdt : w0.dst = some t
      · rw [if_pos hdt]
        have : ∀ (ws : List Wr) (i' : Nat) (st : St), st.get t = w0.l → i < i' → (∀ (j : Nat) (w' : Wr), ws[j]? = some w' → S (i' + j) = true → w'.dst ≠ some t) → (applyS S' ws i' st).get t = w0.l := by
          intro ws
          induction ws with
          | nil => intro i' st h _ _; exact h
          | cons x xs ih =>
            intro i' st h hi hx
            simp only [applyS]
            refine ih (i' + 1) _ ?_ (by omega) (fun j w' hw' hs => hx (j + 1) w' (by simpa using hw') (by rwa [show i' + (j + 1) = i' + 1 + j by omega]))
            split
            · rename_i hs
              rw [hS] at hs
              have : S i' = true := by
                have : (i' == i) = false := by simp; omega
                rw [this] at hs
                simpa using hs
              rw [get_wr, if_neg (hx 0 x rfl this)]
              exact h
            · exact h
        refine this r (i + 1) _ (by rw [get_wr, if_pos hdt]) (by omega) fun j w' hw' hs => hd (j + 1) w' (by omega) (by simpa using hw') (by rwa [show i + (j + 1) = i + 1 + j by omega]) hdt
      · rw [if_neg hdt]
        have hsame : ∀ j, S' (i + 1 + j) = S (i + 1 + j) := by
          intro j
          rw [hS]
          have : (i + 1 + j == i) = false := by simp; omega
          rw [this, Bool.or_false]
        refine applyS_get (S := S') (S' := S) r (i + 1) _ _ (by rw [get_wr, if_neg hdt]) (fun j w' hw' hne => absurd (hsame j) hne)
    | succ n =>
      simp at hw
      have h1 : S' i = S i := by
        rw [hS]
        have : (i == i + (n + 1)) = false := by simp
        rw [this, Bool.or_false]
      rw [h1]
      exact applyS_add_get r (i + 1) _ hw (by rwa [show i + 1 + n = i + (n + 1) by omega]) (fun j => by rw [hS, show i + 1 + n = i + (n + 1) by omega]) (fun j w' hlt hw' hs => hd (j + 1) w' (by omega) (by simpa using hw') (by rwa [show i + (j + 1) = i + 1 + j by omega]))
theorem applyS_add_blk {n : Nat} {w : Wr} {k : Nat} : ∀ (ws : List Wr) (i : Nat) (st : St), ws[n]? = some w → S (i + n) = false → (∀ j, S' j = (S j || j == i + n)) → (∀ (j : Nat) (w' : Wr), n < j → ws[j]? = some w' → S (i + j) = true → k ∈ w.us.map (·.1) → k ∉ w'.us.map (·.1)) →
    (applyS S' ws i st).blk k = ((applyS S ws i st).wr w).blk k
  | [], i, st, hw, _, _, _ => by simp at hw
  | w0 :: r, i, st, hw, hn, hS, hd => by
    simp only [applyS]
    cases n with
    | zero =>
      simp at hw
      subst hw
      rw [Nat.add_zero] at hn hS
      have h1 : S' i = true := by rw [hS]; simp
      rw [hn, h1]
      simp only [Bool.false_eq_true, if_true, if_false]
      rw [blk_wr]
      by_cases hdt : k ∈ w0.us.map (·.1)
      · have : ∀ (ws : List Wr) (i' : Nat) (st : St), i < i' → (∀ (j : Nat) (w' : Wr), ws[j]? = some w' → S (i' + j) = true → k ∉ w'.us.map (·.1)) → (applyS S' ws i' st).blk k = st.blk k := by
          intro ws
          induction ws with
          | nil => intro i' st _ _; rfl
          | cons x xs ih =>
            intro i' st hi hx
            simp only [applyS]
            rw [ih (i' + 1) _ (by omega) (fun j w' hw' hs => hx (j + 1) w' (by simpa using hw') (by rwa [show i' + (j + 1) = i' + 1 + j by omega]))]
            split
            · rename_i hs
              rw [hS] at hs
              have : S i' = true := by
                have : (i' == i) = false := by simp; omega
                rw [this] at hs
                simpa using hs
              rw [blk_wr, look_none (hx 0 x rfl this)]
            · rfl
        rw [this r (i + 1) _ (by omega) fun j w' hw' hs => hd (j + 1) w' (by omega) (by simpa using hw') (by rwa [show i + (j + 1) = i + 1 + j by omega]) hdt, blk_wr]
        cases hlk : look w0.us k with
        | some b => rfl
        | none =>
          exfalso
          have : ∀ (l : List (Nat × Blk)), k ∈ l.map (·.1) → look l k ≠ none := by
            intro l
            induction l with
            | nil => intro h; simp at h
            | cons p ps ih =>
              intro h
              obtain ⟨i, x⟩ := p
              simp only [look]
              split
              · simp
              · rename_i hne
                simp only [List.map_cons, List.mem_cons] at h
                rcases h with h | h
                · exact absurd h.symm hne
                · exact ih h
          exact this _ hdt hlk
      · rw [look_none hdt]
        have hsame : ∀ j, S' (i + 1 + j) = S (i + 1 + j) := by
          intro j
          rw [hS]
          have : (i + 1 + j == i) = false := by simp; omega
          rw [this, Bool.or_false]
        refine applyS_blk (S := S') (S' := S) r (i + 1) _ _ (by rw [blk_wr, look_none hdt]) (fun j w' hw' hne => absurd (hsame j) hne)
    | succ n =>
      simp at hw
      have h1 : S' i = S i := by
        rw [hS]
        have : (i == i + (n + 1)) = false := by simp
        rw [this, Bool.or_false]
      rw [h1]
      exact applyS_add_blk r (i + 1) _ hw (by rwa [show i + 1 + n = i + (n + 1) by omega]) (fun j => by rw [hS, show i + 1 + n = i + (n + 1) by omega]) (fun j w' hlt hw' hs => hd (j + 1) w' (by omega) (by simpa using hw') (by rwa [show i + (j + 1) = i + 1 + j by omega]))
/-- The first i of them. -/
theorem applyS_take : ∀ (ws : List Wr) (n i : Nat) (st : St), applyS (fun j => decide (j < i + n)) ws i st = (ws.take n).foldl St.wr st
  | [], n, i, st => by cases n <;> rfl
  | w :: r, 0, i, st => by
    simp only [applyS, List.take_zero, List.foldl_nil, Nat.add_zero, Nat.lt_irrefl, decide_false, Bool.false_eq_true, if_false]
    have : ∀ (ws : List Wr) (i' : Nat) (st : St), i ≤ i' → applyS (fun j => decide (j < i)) ws i' st = st := by
      intro ws
      induction ws with
      | nil => intro _ _ _; rfl
      | cons x xs ih =>
        intro i' st h
        simp only [applyS]
        rw [if_neg (by simp; omega)]
        exact ih _ _ (by omega)
    exact this r (i + 1) st (by omega)
  | w :: r, n + 1, i, st => by
    simp only [applyS, List.take_succ_cons, List.foldl_cons]
    rw [if_pos (by simp)]
    have := applyS_take r n (i + 1) (st.wr w)
    rwa [show i + 1 + n = i + (n + 1) by omega] at this
end
end Go.Proofs.YtpfhfokfambdaaaGreatDoor.Ev

/-! Regions whose order is drawn: their law. -/
namespace Go.Proofs.YtpfhfokfambdaaaGreatDoor.Ev
open Go.RowKit (Below)

theorem Rel.congr {G : World → Prop} {N0 : Base} {w0 : World} {nt : Nat} {st st' : St} {a : Act} {w : World} (R : Rel G N0 w0 nt st a w) (h1 : ∀ i, st'.get i = st.get i) (h2 : ∀ k, st'.blk k = st.blk k) : Rel G N0 w0 nt st' a w := by
  have e : st'.blk = st.blk := funext h2
  obtain ⟨E, N, hE, hts⟩ := R.env
  exact ⟨R.good, R.stab, R.below, R.defers, R.size, ⟨E, N, by rw [e]; exact hE, fun i => by rw [h1]; exact hts i⟩, fun i k hk => by rw [h2]; rw [h1] at hk; exact R.twf i k hk⟩

theorem chkOps_get {P : Program} {nt : Nat} {ops : Array Oper} : ∀ {os : List Oper} {los : List LOp}, chkOps P nt ops os los = true → os.length = los.length ∧ ∀ (i : Nat) (o : Oper) (lo : LOp), os[i]? = some o → los[i]? = some lo → chkOp P nt ops o lo = true
  | [], [], _ => ⟨rfl, fun i o lo h => by simp at h⟩
  | o :: os, lo :: los, h => by
    simp only [chkOps, Bool.and_eq_true] at h
    obtain ⟨h1, h2⟩ := chkOps_get h.2
    refine ⟨by simp [h1], fun i o' lo' ho hl => ?_⟩
    cases i with
    | zero => simp at ho hl; subst ho; subst hl; exact h.1
    | succ i => simp at ho hl; exact h2 i o' lo' ho hl
  | [], _ :: _, h => by simp [chkOps] at h
  | _ :: _, [], h => by simp [chkOps] at h

theorem applyS_none {S : Nat → Bool} (h : ∀ j, S j = false) : ∀ (ws : List Wr) (i : Nat) (st : St), applyS S ws i st = st
  | [], _, _ => rfl
  | w :: r, i, st => by
    simp only [applyS]
    rw [h i]
    exact applyS_none h r (i + 1) st

section
variable {ops : Array Oper} {anc : List Nat}
theorem anc_closed (ha : ancOk ops anc = true) {S : Nat → Bool} (hcl : ∀ (i : Nat) (o : Oper), ops[i]? = some o → S i = true → ∀ n ∈ needsOf o, S n = true) : ∀ (i : Nat) (o : Oper), ops[i]? = some o → (∀ n ∈ needsOf o, S n = true) →
    ∀ b, b < i → (anc.getD i 0).testBit b = true → S b = true := by
  intro i
  induction i using Nat.strongRecOn with
  | _ i ih =>
    intro o ho hn b hb hbit
    have hlt : i < ops.size := (Array.getElem?_eq_some_iff.1 ho).1
    have h := List.all_eq_true.1 ha i (List.mem_range.2 hlt)
    rw [ho] at h
    simp only [Bool.and_eq_true, List.all_eq_true, decide_eq_true_eq, List.mem_range, Bool.or_eq_true, Bool.not_eq_true', List.any_eq_true, beq_iff_eq] at h
    obtain ⟨h1, h2⟩ := h
    rcases h2 b hb with h3 | ⟨n, hn1, h3⟩
    · rw [hbit] at h3; cases h3
    · rcases h3 with rfl | ⟨h3, h4⟩
      · exact hn _ hn1
      · have hni := h1 n hn1
        have hon : ∃ on, ops[n]? = some on := ⟨_, Array.getElem?_eq_getElem (by omega)⟩
        obtain ⟨on, hon⟩ := hon
        exact ih n hni on hon (hcl n on hon (hn n hn1)) b h3 h4

theorem mem_needs {o : Oper} {n : Nat} : n ∈ needsOf o ↔ ∃ e ∈ o.after, Region.binds .any e = true ∧ e.on = n := by
  unfold needsOf
  simp only [List.mem_map, List.mem_filter, Array.mem_toList_iff]
  constructor
  · rintro ⟨e, ⟨h1, h2⟩, h3⟩; exact ⟨e, h1, h2, h3⟩
  · rintro ⟨e, h1, h2, h3⟩; exact ⟨e, ⟨h1, h2⟩, h3⟩

variable {P : Program} {G : World → Prop} {N0 : Base} {w0 : World} {nt : Nat} {los : List LOp}

theorem draw_any (hc : chkOps P nt ops ops.toList los = true) (ht : chkT anc los = true) (ha : ancOk ops anc = true) {st0 : St} {ws : List Wr} (hwl : ws.length = los.length)
    (hstp : ∀ (j : Nat) (lo : LOp) (w : Wr), los[j]? = some lo → ws[j]? = some w → Stp G P lo ((ws.take j).foldl St.wr st0) w)
    (hfree : ∀ (j j' : Nat) (x y : Wr), j < j' → ws[j]? = some x → ws[j']? = some y → (anc.getD j' 0).testBit j = true ∨ Free x y)
    {Q : Exit → Act → World → Prop} (hQ : ∀ a w, Rel G N0 w0 nt (ws.foldl St.wr st0) a w → Q .normal a w) :
    ∀ (fuel : Nat) (listed : Array Bool) (a : Act) (w : World), listed.size = ops.size → listed.toList.count false ≤ fuel → (∀ (i : Nat) (o : Oper), ops[i]? = some o → listed.getD i false = true → ∀ n ∈ needsOf o, listed.getD n false = true) →
      Rel G N0 w0 nt (applyS (fun i => listed.getD i false) ws 0 st0) a w → wpAny P .any ops Q fuel listed a w := by
  obtain ⟨hol, hcg⟩ := chkOps_get hc
  rw [Array.length_toList] at hol
  -- whatever is not ordered is apart
  have hT : ∀ j i (x y : LOp), j < i → los[j]? = some x → los[i]? = some y → (anc.getD i 0).testBit j = true ∨ apartT x y = true := by
    intro j i x y hji hx hy
    have hi : i < los.length := (List.getElem?_eq_some_iff.1 hy).1
    have h := List.all_eq_true.1 (Bool.and_eq_true_iff.1 ht).2 i (List.mem_range.2 hi)
    have h := List.all_eq_true.1 h j (List.mem_range.2 hji)
    rw [hx, hy, Bool.or_eq_true] at h
    exact h
  -- no operation is left
  have hdone : ∀ (listed : Array Bool), listed.size = ops.size → Region.ready .any ops listed = [] → ∀ i, i < ops.size → listed.getD i false = true := by
    intro listed hsz hr i
    induction i using Nat.strongRecOn with
    | _ i ih =>
      intro hi
      cases hb : listed.getD i false with
      | true => rfl
      | false =>
        exfalso
        have ho := Array.getElem?_eq_getElem hi
        have : i ∈ Region.ready .any ops listed := by
          rw [mem_ready]
          refine ⟨?_, _, ho, fun e he hbd => ?_⟩
          · rw [Array.getD_eq_getD_getElem?, Array.getElem?_eq_getElem (by omega)] at hb ⊢
            exact hb
          · have h := List.all_eq_true.1 ha i (List.mem_range.2 hi)
            rw [ho] at h
            simp only [Bool.and_eq_true, List.all_eq_true, decide_eq_true_eq] at h
            have hlt := h.1 e.on (mem_needs.2 ⟨e, he, hbd, rfl⟩)
            exact ih e.on hlt (by omega)
        rw [hr] at this
        cases this
  have hfin : ∀ (listed : Array Bool) (a : Act) (w : World), listed.size = ops.size → Region.ready .any ops listed = [] → Rel G N0 w0 nt (applyS (fun i => listed.getD i false) ws 0 st0) a w → Q .normal a w := by
    intro listed a w hsz hr R
    have hall := hdone listed hsz hr
    have e := applyS_take ws ws.length 0 st0
    rw [List.take_length] at e
    refine hQ a w (R.congr (fun t => ?_) (fun k => ?_))
    · rw [← e]
      refine applyS_get ws 0 st0 st0 rfl fun j w' hw hne => absurd ?_ hne
      have hj : j < ws.length := (List.getElem?_eq_some_iff.1 hw).1
      simp only [Nat.zero_add]
      rw [hall j (by omega)]
      simp [hj]
    · rw [← e]
      refine applyS_blk ws 0 st0 st0 rfl fun j w' hw hne => absurd ?_ hne
      have hj : j < ws.length := (List.getElem?_eq_some_iff.1 hw).1
      simp only [Nat.zero_add]
      rw [hall j (by omega)]
      simp [hj]
  intro fuel
  induction fuel with
  | zero =>
    intro listed a w hsz hcnt hcl R
    have hr : Region.ready .any ops listed = [] := by
      cases hr : Region.ready .any ops listed with
      | nil => rfl
      | cons i r =>
        exfalso
        have : i ∈ Region.ready .any ops listed := by rw [hr]; exact List.mem_cons_self
        rw [mem_ready] at this
        obtain ⟨h0, o, ho, _⟩ := this
        have hi : i < ops.size := (Array.getElem?_eq_some_iff.1 ho).1
        have hmem : false ∈ listed.toList := by
          rw [Array.getD_eq_getD_getElem?, Array.getElem?_eq_getElem (by omega)] at h0
          simp only [Option.getD_some] at h0
          rw [← h0]
          simp
        have := List.count_pos_iff.2 hmem
        omega
    exact ⟨hr, hfin listed a w hsz hr R⟩
  | succ fuel ihf =>
    intro listed a w hsz hcnt hcl R
    refine ⟨fun hr => hfin listed a w hsz hr R, fun i hi => ?_⟩
    rw [mem_ready] at hi
    obtain ⟨h0, o, ho, hall⟩ := hi
    have hlt : i < ops.size := (Array.getElem?_eq_some_iff.1 ho).1
    have hSi : listed.getD i false = false := by
      rw [Array.getD_eq_getD_getElem?, Array.getElem?_eq_getElem (by omega)] at h0 ⊢
      exact h0
    have hneeds : ∀ n ∈ needsOf o, listed.getD n false = true := by
      intro n hn
      obtain ⟨e, he, hb, rfl⟩ := mem_needs.1 hn
      exact hall e he hb
    have hlo := List.getElem?_eq_getElem (show i < los.length by omega)
    have hw := List.getElem?_eq_getElem (show i < ws.length by omega)
    have hchk := hcg i o _ (by simpa using ho) hlo
    have hst := hstp i _ _ hlo hw
    have hanc := anc_closed (anc := anc) ha (S := fun j => listed.getD j false) hcl
    -- what was not listed in time does not touch it; what was listed early neither
    have hbefore : ∀ j, j < i → listed.getD j false = false → (anc.getD i 0).testBit j = false := by
      intro j hj hjn
      cases hb : (anc.getD i 0).testBit j with
      | false => rfl
      | true => rw [hanc i o ho hneeds j hj hb] at hjn; cases hjn
    have hafter : ∀ j, i < j → listed.getD j false = true → (anc.getD j 0).testBit i = false := by
      intro j hj hjn
      cases hb : (anc.getD j 0).testBit i with
      | false => rfl
      | true =>
        have hjs : j < ops.size := by
          rcases Nat.lt_or_ge j ops.size with h | h
          · exact h
          · rw [Array.getD_eq_getD_getElem?, Array.getElem?_eq_none (by omega)] at hjn
            cases hjn
        have hoj := Array.getElem?_eq_getElem hjs
        rw [hanc j _ hoj (hcl j _ hoj hjn) i hj hb] at hSi
        cases hSi
    have hsj : ∀ (j : Nat) (w' : Wr), ws[j]? = some w' → ∃ lo' : LOp, los[j]? = some lo' ∧ w'.dst = lo'.dst := by
      intro j w' hw'
      have hj : j < los.length := by rw [← hwl]; exact (List.getElem?_eq_some_iff.1 hw').1
      have hl := List.getElem?_eq_getElem hj
      exact ⟨_, hl, (hstp j _ w' hl hw').1⟩
    have hdiff : ∀ j, (fun j => listed.getD j false) (0 + j) ≠ (fun j => decide (j < 0 + i)) (0 + j) → (j < i ∧ listed.getD j false = false) ∨ (i < j ∧ listed.getD j false = true) := by
      intro j hne
      simp only [Nat.zero_add] at hne
      by_cases hj : j < i
      · refine .inl ⟨hj, ?_⟩
        cases hb : listed.getD j false with
        | false => rfl
        | true => rw [hb] at hne; simp [hj] at hne
      · have hjt : listed.getD j false = true := by
          cases hb : listed.getD j false with
          | true => rfl
          | false => rw [hb] at hne; simp [hj] at hne
        refine .inr ⟨?_, hjt⟩
        rcases Nat.lt_or_ge i j with h | h
        · exact h
        · have : i = j := by omega
          subst this
          rw [hSi] at hjt
          cases hjt
    have e := applyS_take ws i 0 st0
    have hloc : Stp G P los[i] (applyS (fun j => listed.getD j false) ws 0 st0) ws[i] := by
      refine Stp.local (List.all_eq_true.1 (Bool.and_eq_true_iff.1 ht).1 _ (List.mem_of_getElem? hlo)) hst (fun t htt => ?_) (fun k hk => ?_) (fun k hk => ?_)
      · rw [← e]
        refine applyS_get ws 0 st0 st0 rfl fun j w' hw' hne hd => ?_
        obtain ⟨lo', hl', hd'⟩ := hsj j w' hw'
        rw [hd'] at hd
        rcases hdiff j hne with ⟨hj, hjn⟩ | ⟨hj, hjn⟩
        · rcases hT j i lo' _ hj hl' hlo with h | h
          · rw [hbefore j hj hjn] at h; cases h
          · unfold apartT at h
            rw [hd] at h
            simp only [Bool.and_eq_true, Bool.not_eq_true', List.contains_eq_mem, decide_eq_false_iff_not] at h
            exact h.1.1 htt
        · rcases hT i j _ lo' hj hlo hl' with h | h
          · rw [hafter j hj hjn] at h; cases h
          · unfold apartT at h
            rw [hd] at h
            simp only [Bool.and_eq_true, Bool.not_eq_true', List.contains_eq_mem, decide_eq_false_iff_not] at h
            exact h.2 htt
      · rw [← e]
        refine applyS_blk ws 0 st0 st0 rfl fun j w' hw' hne hd => ?_
        rcases hdiff j hne with ⟨hj, hjn⟩ | ⟨hj, hjn⟩
        · rcases hfree j i w' _ hj hw' hw with h | h
          · rw [hbefore j hj hjn] at h; cases h
          · exact (h.1 k hd).1 hk
        · rcases hfree i j _ w' hj hw hw' with h | h
          · rw [hafter j hj hjn] at h; cases h
          · exact h.2 k hd hk
      · rw [← e]
        refine applyS_blk ws 0 st0 st0 rfl fun j w' hw' hne hd => ?_
        rcases hdiff j hne with ⟨hj, hjn⟩ | ⟨hj, hjn⟩
        · rcases hfree j i w' _ hj hw' hw with h | h
          · rw [hbefore j hj hjn] at h; cases h
          · exact (h.1 k hd).2 hk
        · rcases hfree i j _ w' hj hw hw' with h | h
          · rw [hafter j hj hjn] at h; cases h
          · exact (h.1 k hk).2 hd
    unfold wpOp
    rw [ho]
    simp only
    have hnext := op_sound hchk R (hloc.dop (K := fun st' => ∃ u : Unit, st' = (applyS (fun j => listed.getD j false) ws 0 st0).wr ws[i]) ⟨(), rfl⟩) (next := wpAny P .any ops Q fuel (listed.setIfInBounds i true)) (Q := Q) (by
      rintro st' a' w' ⟨_, rfl⟩ hr
      have hS' : ∀ j, (listed.setIfInBounds i true).getD j false = (listed.getD j false || j == 0 + i) := by
        intro j
        rw [Nat.zero_add]
        by_cases hj : j = i
        · subst hj
          simp [show j < listed.size by omega]
        · rw [getD_set_ne false (fun e => hj e.symm)]
          have : (j == i) = false := by simpa using hj
          rw [this, Bool.or_false]
      refine ihf _ a' w' (by simpa using hsz) ?_ (fun j oj hoj hjl n hn => ?_) (hr.congr (fun t => ?_) (fun k => ?_))
      · rw [Array.toList_setIfInBounds, List.count_set (by rw [Array.length_toList]; omega)]
        have hle : listed.toList[i]'(by rw [Array.length_toList]; omega) = false := by
          rw [Array.getD_eq_getD_getElem?, Array.getElem?_eq_getElem (by omega)] at h0
          simpa using h0
        have hpos : 0 < listed.toList.count false := List.count_pos_iff.2 (by rw [← hle]; exact List.getElem_mem _)
        rw [hle]
        have e1 : (if (false == false) = true then 1 else 0) = 1 := rfl
        have e2 : (if (true == false) = true then 1 else 0) = 0 := rfl
        rw [e1, e2]
        omega
      · rw [hS'] at hjl ⊢
        rw [Nat.zero_add] at hjl ⊢
        rcases Bool.or_eq_true_iff.1 hjl with h | h
        · rw [hcl j oj hoj h n hn]; rfl
        · have : j = i := by simpa using h
          subst this
          rw [ho] at hoj
          cases hoj
          rw [hneeds n hn]; rfl
      · refine applyS_add_get ws 0 st0 hw (by rw [Nat.zero_add]; exact hSi) hS' fun j w' hj hw' hjl hd hd' => ?_
        rw [Nat.zero_add] at hjl
        obtain ⟨lo', hl', he'⟩ := hsj j w' hw'
        rw [he'] at hd'
        rw [hst.1] at hd
        rcases hT i j _ lo' hj hlo hl' with h | h
        · rw [hafter j hj hjl] at h; cases h
        · unfold apartT at h
          rw [hd] at h
          simp only [Bool.and_eq_true, bne_iff_ne, ne_eq] at h
          exact h.1.2 hd'
      · refine applyS_add_blk ws 0 st0 hw (by rw [Nat.zero_add]; exact hSi) hS' fun j w' hj hw' hjl hd hd' => ?_
        rw [Nat.zero_add] at hjl
        rcases hfree i j _ w' hj hw hw' with h | h
        · rw [hafter j hj hjl] at h; cases h
        · exact (h.1 k hd).2 hd')
    by_cases hwant : Region.wanted o (yielded ops a.tmps) = true
    · rw [if_pos hwant] at hnext ⊢
      exact .inl hnext
    · rw [if_neg hwant] at hnext ⊢
      exact hnext

theorem draw_sound (hm : P.follows .mixedOrders = true) (hc : chkOps P nt ops ops.toList los = true) (ht : chkT anc los = true) (ha : ancOk ops anc = true) {st : St} {a : Act} {w : World} (R : Rel G N0 w0 nt st a w) {K : St → Prop} (hs : ddraw G P anc 0 [] los st K)
    {id : Nat} {Q : Exit → Act → World → Prop} (hK : ∀ st' a' w', K st' → Rel G N0 w0 nt st' a' w' → Q .normal a' w') : (Code.region id ops true).wp P Q a w := by
  obtain ⟨ws, h1, h2, h3, h4⟩ := ddraw_ext los 0 [] st (Bool.and_eq_true_iff.1 ht).1 hs
  refine wp_region_any hm ?_
  refine draw_any (N0 := N0) (w0 := w0) hc ht ha (st0 := st) h1 (fun j lo w hl hw => (h3 j lo w hl hw).1) (fun j j' x y hlt hx hy => by simpa using h4 j j' x y hlt hx hy) (fun a' w' hr => hK _ a' w' h2 hr) ops.size _ a _ (by simp) (by simp) (fun i o ho hi => ?_) ?_
  · rw [Array.getD_eq_getD_getElem?, Array.getElem?_replicate] at hi
    split at hi <;> cases hi
  · have e : applyS (fun i => (Array.replicate ops.size false).getD i false) ws 0 st = st := applyS_none (fun j => by
      rw [Array.getD_eq_getD_getElem?, Array.getElem?_replicate]
      split <;> rfl) ws 0 st
    rw [e]
    exact R.ext ((Below.refl _ _).drew)
end
end Go.Proofs.YtpfhfokfambdaaaGreatDoor.Ev

/-! Code, and functions: the law of the data-level walk. -/
namespace Go.Proofs.YtpfhfokfambdaaaGreatDoor.Ev
open Go.RowKit (Below)

/-- Only these temporaries and slots are kept in mind. -/
def picks {α : Type} (l : List (Nat × α)) : List Nat → List (Nat × α)
  | [] => []
  | k :: r => match look l k with
    | some x => (k, x) :: picks l r
    | none => picks l r
def St.keep (st : St) (ts ks : List Nat) : St := ⟨picks st.t ts, picks st.m ks⟩
def St.closed (st : St) : Bool := (st.t.all fun p => p.2.slots.all fun k => (look st.m k).isSome) && st.m.all fun p => p.2.slots.all fun k => (look st.m k).isSome

theorem look_picks {α : Type} (l : List (Nat × α)) (k : Nat) : ∀ ks : List Nat, look (picks l ks) k = if k ∈ ks then look l k else none
  | [] => by simp [picks, look]
  | j :: r => by
    have ih := look_picks l k r
    simp only [picks]
    by_cases e : j = k
    · subst e
      cases h : look l j with
      | some x => simp [look]
      | none => simp only [h] at ih ⊢; rw [ih]; simp
    · have e' : ¬ k = j := fun h => e h.symm
      cases h : look l j with
      | some x => simp [look, e, e', ih]
      | none => simp [e', ih]
theorem look_mem {α : Type} : ∀ {l : List (Nat × α)} {k : Nat} {x : α}, look l k = some x → (k, x) ∈ l
  | [], k, x, h => by simp [look] at h
  | (j, y) :: r, k, x, h => by
    simp only [look] at h
    split at h
    · rename_i e; cases h; subst e; exact List.mem_cons_self
    · exact List.mem_cons_of_mem _ (look_mem h)

inductive LC where
  | skip
  | dead
  | region (los : List LOp)
  | draw (anc : List Nat) (los : List LOp)
  | seq (x y : LC)
  | cond (c : X) (x y : LC)
  | block (id : Nat) (x : LC)
  | loop (x : LC)
  | exit (id : Nat)
  | ret
  | keep (ts ks : List Nat) (x : LC)
  | own (t k e s : Nat) (x : LC)
  | tail (ts ks : List Nat) (x : LC)
  | lift (t : Nat) (x : LC)
  | liftB (k : Nat) (x : LC)
  | weak (ks : List Nat) (x : LC)
  | tailW (ks : List Nat) (x : LC)
  | ownC (k i j e s : Nat) (x : LC)
/-- Constants, short. -/
abbrev X.i (n : Int) : X := .c (.at (.d (.int .i64 n)))
abbrev X.b (q : Bool) : X := .c (.at (.d (.bool q)))
abbrev X.s (l : List UInt8) : X := .c (.at (.d (.str l)))
inductive LE where
  | norm
  | exit (id : Nat)
  | ret
def LE.out : LE → Exit
  | .norm => .normal
  | .exit i => .exit i
  | .ret => .ret

def chkC (P : Program) (nt : Nat) : LC → Code → Bool
  | .keep _ _ x, c => chkC P nt x c
  | .own _ _ _ _ x, c => chkC P nt x c
  | .tail _ _ x, c => chkC P nt x c
  | .lift _ x, c => chkC P nt x c
  | .liftB _ x, c => chkC P nt x c
  | .weak _ x, c => chkC P nt x c
  | .tailW _ x, c => chkC P nt x c
  | .ownC _ _ _ _ _ x, c => chkC P nt x c
  | .dead, _ => true
  | .skip, .skip => true
  | .region los, .region _ ops false => chkOps P nt ops ops.toList los
  | .draw anc los, .region _ ops true => chkOps P nt ops ops.toList los && chkT anc los && ancOk ops anc
  | .seq x y, .seq a b => chkC P nt x a && chkC P nt y b
  | .cond c x y, .cond c' a b => chkX c' c && chkC P nt x a && chkC P nt y b
  | .block id x, .block id' a => id == id' && chkC P nt x a
  | .loop x, .loop a => chkC P nt x a
  | .exit id, .exit id' => id == id'
  | .ret, .ret => true
  | _, _ => false

/-- No slot of these is let go. -/
def LC.holds (fx : List Nat) : LC → Bool
  | .keep _ ks x => fx.all (fun k => ks.contains k) && x.holds fx
  | .tail _ ks x => fx.all (fun k => ks.contains k) && x.holds fx
  | .own _ _ _ _ x => x.holds fx
  | .lift _ x => x.holds fx
  | .liftB _ x => x.holds fx
  | .weak ks x => fx.all (fun k => !ks.contains k) && x.holds fx
  | .tailW ks x => fx.all (fun k => !ks.contains k) && x.holds fx
  | .ownC _ _ _ _ _ x => x.holds fx
  | .seq x y => x.holds fx && y.holds fx
  | .cond _ x y => x.holds fx && y.holds fx
  | .block _ x => x.holds fx
  | .loop x => x.holds fx
  | _ => true
theorem LC.holds_nil : ∀ lc : LC, lc.holds [] = true
  | .keep _ _ x => by simp [LC.holds, x.holds_nil]
  | .tail _ _ x => by simp [LC.holds, x.holds_nil]
  | .own _ _ _ _ x => by simp [LC.holds, x.holds_nil]
  | .lift _ x => by simp [LC.holds, x.holds_nil]
  | .liftB _ x => by simp [LC.holds, x.holds_nil]
  | .weak _ x => by simp [LC.holds, x.holds_nil]
  | .tailW _ x => by simp [LC.holds, x.holds_nil]
  | .ownC _ _ _ _ _ x => by simp [LC.holds, x.holds_nil]
  | .seq x y => by simp [LC.holds, x.holds_nil, y.holds_nil]
  | .cond _ x y => by simp [LC.holds, x.holds_nil, y.holds_nil]
  | .block _ x => by simp [LC.holds, x.holds_nil]
  | .loop x => by simp [LC.holds, x.holds_nil]
  | .skip | .dead | .region _ | .draw _ _ | .exit _ | .ret => rfl
theorem holds_out {fx ks : List Nat} (h : fx.all (fun k => !ks.contains k) = true) : ∀ k ∈ fx, k ∉ ks := by
  simpa using h
theorem holds_ks {fx ks : List Nat} (h : fx.all (fun k => ks.contains k) = true) : ∀ k ∈ fx, k ∈ ks := by
  simpa using h

/-- A slot's cells as data. -/
def liftBlk (blk : Nat → Option Blk) : Blk → Option Blk
  | .var cs => (pubs (A.pub blk) cs).map fun ds => .var (ds.map .d)
  | .row e s rs => (pubs (pubs (A.pub blk)) rs).map fun rs => .row e s (rs.map fun r => r.map .d)
  | _ => none

/-- The state told anew: temporaries may be forgotten, and these slots. -/
structure Leq (ks : List Nat) (st' st : St) : Prop where
  get : ∀ i, st'.get i = .at .any ∨ st'.get i = st.get i
  blk : ∀ k, (k ∈ ks ∧ st'.blk k = none) ∨ st'.blk k = st.blk k
  twf : ∀ i k, (st'.get i).men k → st'.blk k ≠ none
  wf : ∀ k bl j, st'.blk k = some bl → bl.men j → st'.blk j ≠ none
/-- The walk over data. -/
def dwp (G : World → Prop) (P : Program) : LC → St → (LE → St → Prop) → Prop
  | .skip, st, Q => Q .norm st
  | .dead, _, _ => False
  | .region los, st, Q => dops G P los st (Q .norm)
  | .draw anc los, st, Q => ddraw G P anc 0 [] los st (Q .norm)
  | .seq x y, st, Q => dwp G P x st fun e st' => match e with
    | .norm => dwp G P y st' Q
    | .exit i => Q (.exit i) st'
    | .ret => Q .ret st'
  | .cond c x y, st, Q => match st.ev c with
    | .at (.d (.bool q)) => if q = true then dwp G P x st Q else dwp G P y st Q
    | _ => False
  | .block id x, st, Q => dwp G P x st fun e st' => match e with
    | .exit i => if i = id then Q .norm st' else Q (.exit i) st'
    | .norm => Q .norm st'
    | .ret => Q .ret st'
  | .loop x, st, Q => ∃ (I : St → Prop) (μ : St → Nat), I st ∧ ∀ st', I st' → dwp G P x st' fun e st'' => match e with
    | .norm => I st'' ∧ μ st'' < μ st'
    | .exit i => Q (.exit i) st''
    | .ret => Q .ret st''
  | .exit id, st, Q => Q (.exit id) st
  | .ret, st, Q => Q .ret st
  | .keep ts ks x, st, Q => (st.keep ts ks).closed = true ∧ dwp G P x (st.keep ts ks) Q
  | .own t k e s x, st, Q => match st.get t with
    | .at .nils => st.blk k = none ∧ dwp G P x ⟨(t, .at (.row k 0)) :: st.t, (k, .row e s []) :: st.m⟩ Q
    | _ => dwp G P x st Q
  | .lift t x, st, Q => match (st.get t).pub st.blk with
    | some d => dwp G P x ⟨(t, .at (.d d)) :: st.t, frz st.blk (st.get t).slots ++ st.m⟩ Q
    | none => False
  | .liftB k x, st, Q => match st.blk k with
    | some bl => ¬ k ∈ bl.slots ∧ match liftBlk st.blk bl with
      | some bl' => dwp G P x ⟨st.t, (k, bl') :: (frz st.blk bl.slots ++ st.m)⟩ Q
      | none => False
    | none => False
  | .weak ks x, st, Q => ∃ st', Leq ks st' st ∧ dwp G P x st' Q
  | .tailW ks x, st, Q => dwp G P x st fun e st' => match e with
    | .norm => ∃ st'', Leq ks st'' st' ∧ Q .norm st''
    | .exit i => Q (.exit i) st'
    | .ret => Q .ret st'
  | .ownC k i j e s x, st, Q => match st.blk k with
    | some (.var cs) => match cs[i]? with
      | some .nils => st.blk j = none ∧ dwp G P x ⟨st.t, (k, .var (cs.set i (.row j 0))) :: (j, .row e s []) :: st.m⟩ Q
      | _ => dwp G P x st Q
    | _ => dwp G P x st Q
  | .tail ts ks x, st, Q => dwp G P x st fun e st' => match e with
    | .norm => (st'.keep ts ks).closed = true ∧ Q .norm (st'.keep ts ks)
    | .exit i => Q (.exit i) st'
    | .ret => Q .ret st'

/-- A piece of code that is unfolded at a written-out state alone. -/
abbrev Unf (c d : LC) : Prop := ∀ (G : World → Prop) (P : Program) (t : List (Nat × L)) (m : List (Nat × Blk)) (Q : LE → St → Prop), dwp G P c ⟨t, m⟩ Q = dwp G P d ⟨t, m⟩ Q

section
variable {P : Program} {G : World → Prop} {N0 : Base} {w0 : World} {nt : Nat} {st : St} {a : Act} {w : World}

theorem Rel.keep (R : Rel G N0 w0 nt st a w) {ts ks : List Nat} (hfx : ∀ k ∈ N0.fx, k ∈ ks) (hcl : (st.keep ts ks).closed = true) : Rel G N0 w0 nt (st.keep ts ks) a w := by
  have hget : ∀ i, (st.keep ts ks).get i = if i ∈ ts then st.get i else .at .any := by
    intro i
    simp only [St.get, St.keep, look_picks]
    split <;> rfl
  have hblk : ∀ k, (st.keep ts ks).blk k = if k ∈ ks then st.blk k else none := fun k => look_picks st.m k ks
  have hsub : ∀ k bl, (st.keep ts ks).blk k = some bl → st.blk k = some bl := by
    intro k bl h
    rw [hblk] at h
    split at h
    · exact h
    · cases h
  simp only [St.closed, Bool.and_eq_true, List.all_eq_true] at hcl
  obtain ⟨c1, c2⟩ := hcl
  obtain ⟨E, N, hE, hts⟩ := R.env
  refine ⟨R.good, R.stab, R.below, R.defers, R.size, ⟨E, N, ⟨hE.nlt, hE.nsub, fun k bl b h1 => hE.live k bl b (hsub k bl h1), fun k k' bl bl' b h1 h2 => hE.dis k k' bl bl' b (hsub k bl h1) (hsub k' bl' h2), fun k bl h1 => hE.con k bl (hsub k bl h1), fun k bl j h1 h2 => ?_, hE.gh, fun k hk => by rw [hblk, if_pos (hfx k hk)]; exact hE.fx k hk, fun b hb => let ⟨a1, a2, a3, a4⟩ := hE.fo b hb; ⟨a1, a2, a3, fun k bl h1 => a4 k bl (hsub k bl h1)⟩⟩, fun i => ?_⟩, fun i k hk => ?_⟩
  · have := c2 (k, bl) (look_mem h1) j (Blk.men_slots h2)
    rw [Option.isSome_iff_ne_none] at this
    exact this
  · rw [hget]
    split
    · exact hts i
    · trivial
  · have hk' := L.men_slots hk
    cases hl : look (st.keep ts ks).t i with
    | none =>
      have : (st.keep ts ks).get i = .at .any := by simp [St.get, hl]
      rw [this] at hk
      exact hk.elim
    | some l =>
      have he : (st.keep ts ks).get i = l := by simp [St.get, hl]
      rw [he] at hk'
      have := c1 (i, l) (look_mem hl) k hk'
      rw [Option.isSome_iff_ne_none] at this
      exact this

theorem Rel.own (R : Rel G N0 w0 nt st a w) {t k e s : Nat} (ht : st.get t = .at .nils) (hk : st.blk k = none) : Rel G N0 w0 nt ⟨(t, .at (.row k 0)) :: st.t, (k, .row e s []) :: st.m⟩ a w := by
  obtain ⟨E, N, hE, hts⟩ := R.env
  have hblk : St.blk ⟨(t, .at (.row k 0)) :: st.t, (k, .row e s []) :: st.m⟩ = upd st.blk k (some (.row e s [])) := by
    funext j
    simp only [St.blk, look, upd]
  have hget : ∀ i, St.get ⟨(t, .at (.row k 0)) :: st.t, (k, .row e s []) :: st.m⟩ i = if t = i then .at (.row k 0) else st.get i := by
    intro i
    simp only [St.get, look]
    split <;> rfl
  have hE' := hE.upd (w' := w) k (.slice none 0 0) (.row e s []) (Nat.le_refl _) (fun _ _ _ => rfl) (fun bl0 h => by rw [hk] at h; cases h) (fun _ b hb => by simp [blkOf] at hb)
    ⟨[], World.ownsRow_nil w _ e s, fun i r h => by simp at h, fun i j r x u h => by simp at h⟩ (fun j hj => by obtain ⟨r, hr, _⟩ := hj; simp at hr)
  refine ⟨R.good, R.stab, R.below, R.defers, R.size, ⟨upd E k (.slice none 0 0), N, by rw [hblk]; exact hE', fun i => ?_⟩, fun i j hj => ?_⟩
  · rw [hget]
    split
    · rename_i e'
      subst e'
      have h := hts t
      rw [ht] at h
      have h : a.tmps.getD t undef = .slice none 0 0 := h
      rw [h]
      exact ⟨⟨none, 0, rfl⟩, none, 0, 0, upd_same _ _ _, Nat.le_refl _, fun _ => rfl⟩
    · exact RvL.upd (w' := w) hE k _ (hts i) (R.twf i) (fun _ _ _ => rfl) (fun bl0 h => by rw [hk] at h; cases h)
  · rw [hblk]
    rw [hget] at hj
    split at hj
    · have : k = j := hj
      subst this
      rw [upd_same]; simp
    · by_cases e' : k = j
      · subst e'; rw [upd_same]; simp
      · rw [upd_ne _ _ e']; exact R.twf i j hj

theorem Rel.weak (R : Rel G N0 w0 nt st a w) {ks : List Nat} {st' : St} (hfx : ∀ k ∈ N0.fx, k ∉ ks) (h : Leq ks st' st) : Rel G N0 w0 nt st' a w := by
  obtain ⟨E, N, hE, hts⟩ := R.env
  have hsub : ∀ k bl, st'.blk k = some bl → st.blk k = some bl := by
    intro k bl hk
    rcases h.blk k with ⟨_, h1⟩ | h1
    · rw [h1] at hk; cases hk
    · rw [← h1]; exact hk
  refine ⟨R.good, R.stab, R.below, R.defers, R.size, ⟨E, N, ⟨hE.nlt, hE.nsub, fun k bl b h1 => hE.live k bl b (hsub k bl h1), fun k k' bl bl' b h1 h2 => hE.dis k k' bl bl' b (hsub k bl h1) (hsub k' bl' h2), fun k bl h1 => hE.con k bl (hsub k bl h1), h.wf, hE.gh, fun k hk => ?_, fun b hb => let ⟨a1, a2, a3, a4⟩ := hE.fo b hb; ⟨a1, a2, a3, fun k bl h1 => a4 k bl (hsub k bl h1)⟩⟩, fun i => ?_⟩, h.twf⟩
  · rcases h.blk k with ⟨h1, _⟩ | h1
    · exact absurd h1 (hfx k hk)
    · rw [h1]; exact hE.fx k hk
  · rcases h.get i with h1 | h1
    · rw [h1]; trivial
    · rw [h1]; exact hts i

theorem Rel.ownC (R : Rel G N0 w0 nt st a w) {k i j e s : Nat} {cs : List A} (hk : st.blk k = some (.var cs)) (hi : cs[i]? = some .nils) (hj : st.blk j = none) : Rel G N0 w0 nt ⟨st.t, (k, .var (cs.set i (.row j 0))) :: (j, .row e s []) :: st.m⟩ a w := by
  obtain ⟨E, N, hE, hts⟩ := R.env
  have hne : k ≠ j := fun h => by rw [h, hj] at hk; cases hk
  have hE' := hE.upd (w' := w) j (.slice none 0 0) (.row e s []) (Nat.le_refl _) (fun _ _ _ => rfl) (fun bl0 h => by rw [hj] at h; cases h) (fun _ b hb => by simp [blkOf] at hb)
    ⟨[], World.ownsRow_nil w _ e s, fun i r h => by simp at h, fun i j r x u h => by simp at h⟩ (fun j hj => by obtain ⟨r, hr, _⟩ := hj; simp at hr)
  have hkk : upd st.blk j (some (.row e s [])) k = some (.var cs) := by rw [upd_ne _ _ (fun h => hne h.symm)]; exact hk
  have hup : ∀ (F : Nat → Value), upd F k (F k) = F := fun F => by funext q; simp only [upd]; split <;> simp_all
  have hEk : upd E j (.slice none 0 0) k = E k := upd_ne _ _ (fun h => hne h.symm)
  have hE'' := hE'.upd (w' := w) k (upd E j (.slice none 0 0) k) (.var (cs.set i (.row j 0))) (Nat.le_refl _) (fun _ _ _ => rfl) (fun _ _ => .inl rfl) (fun _ b hb => by
      obtain ⟨g1, g2, g3⟩ := hE'.live k _ b hkk rfl hb
      exact ⟨g1, g2, g3, .inl ⟨_, hkk, rfl, hb⟩⟩) (by
      rw [hup]
      obtain ⟨b, c, ty, h1, h2, h3, h4⟩ := hE'.con k _ hkk
      refine ⟨b, c, ty, h1, h2, by rw [List.length_set]; exact h3, fun q x u hx hu => ?_⟩
      rw [List.getElem?_set] at hx
      split at hx
      · rename_i hq
        subst hq
        split at hx
        · cases hx
          have : u = .slice none 0 0 := h4 i _ u hi hu
          subst this
          exact ⟨⟨none, 0, rfl⟩, none, 0, 0, upd_same _ _ _, Nat.le_refl _, fun _ => rfl⟩
        · cases hx
      · exact h4 q x u hx hu) (fun q hq => by
      obtain ⟨x, hx, hxq⟩ := hq
      rcases List.mem_or_eq_of_mem_set hx with hx | hx
      · have := hE'.wf k _ q hkk ⟨x, hx, hxq⟩
        by_cases e' : k = q
        · subst e'; rw [upd_same]; simp
        · rw [upd_ne _ _ e']; exact this
      · subst hx
        have : j = q := hxq
        subst this
        rw [upd_ne _ _ hne, upd_same]; simp)
  have hblk : St.blk ⟨st.t, (k, .var (cs.set i (.row j 0))) :: (j, .row e s []) :: st.m⟩ = upd (upd st.blk j (some (.row e s []))) k (some (.var (cs.set i (.row j 0)))) := by
    funext q
    simp only [St.blk, look, upd]
  rw [hup] at hE''
  refine ⟨R.good, R.stab, R.below, R.defers, R.size, ⟨upd E j (.slice none 0 0), N, by rw [hblk]; exact hE'', fun q => RvL.upd (w' := w) hE j _ (hts q) (R.twf q) (fun _ _ _ => rfl) (fun bl0 h => by rw [hj] at h; cases h)⟩, fun q p hp => ?_⟩
  have := R.twf q p hp
  rw [hblk]
  by_cases e1 : k = p
  · subst e1; rw [upd_same]; simp
  · rw [upd_ne _ _ e1]
    by_cases e2 : j = p
    · subst e2; rw [upd_same]; simp
    · rw [upd_ne _ _ e2]; exact this

theorem Rel.lift (R : Rel G N0 w0 nt st a w) {t : Nat} {d : D} (hp : (st.get t).pub st.blk = some d) : Rel G N0 w0 nt ⟨(t, .at (.d d)) :: st.t, frz st.blk (st.get t).slots ++ st.m⟩ a w := by
  obtain ⟨E, N, hE, hts⟩ := R.env
  obtain ⟨h1, h2⟩ := L.pub_rv hE hp (hts t)
  have hEf := hE.freeze (blk := st.blk) (m := st.m) (fun _ => rfl) (st.get t).slots h2
  have hget : ∀ i, St.get ⟨(t, .at (.d d)) :: st.t, frz st.blk (st.get t).slots ++ st.m⟩ i = if t = i then .at (.d d) else st.get i := by
    intro i
    simp only [St.get, look]
    split <;> rfl
  refine ⟨R.good, R.stab, R.below, R.defers, R.size, ⟨E, _, hEf, fun i => ?_⟩, fun i k hk => ?_⟩
  · rw [hget]
    split
    · rename_i e; subst e; exact h1
    · exact RvL.mono (fun _ _ _ => rfl) (fun b h _ => .inl h) (fun _ _ => rfl) (hts i)
  · rw [hget] at hk
    split at hk
    · exact hk.elim
    · have := R.twf i k hk
      show look (frz st.blk (st.get t).slots ++ st.m) k ≠ none
      rw [look_frz]
      split
      · simp
      · exact this

theorem liftBlk_rv {E : Nat → Value} {N : Nat → Prop} {B : Nat} {blk : Nat → Option Blk} (hE : Env N0 B w blk E N) {k : Nat} {bl bl' : Blk} (hk : blk k = some bl) (hl : liftBlk blk bl = some bl') :
    RvB E (Nadd N E blk bl.slots) w B (E k) bl' ∧ bl.live = true ∧ (∀ j, ¬ bl'.men j) ∧ ∀ j ∈ bl.slots, ∃ b fb, blk j = some b ∧ b.frz = some fb := by
  have hc := hE.con k bl hk
  cases bl with
  | var cs =>
    simp only [liftBlk, Option.map_eq_some_iff] at hl
    obtain ⟨ds, hds, rfl⟩ := hl
    obtain ⟨b, c, ty, h1, h2, h3, h4⟩ := hc
    obtain ⟨hlen, hp⟩ := pubs_get hds
    have key : ∀ (i : Nat) (x : A), cs[i]? = some x → ∃ d u, ds[i]? = some d ∧ c[i]? = some u ∧ Rv (Nadd N E blk x.slots) w d u ∧ ∀ j ∈ x.slots, ∃ b fb, blk j = some b ∧ b.frz = some fb := by
      intro i x hx
      obtain ⟨d, hd, hpd⟩ := hp i x hx
      have hlt : i < c.size := by rw [h3]; exact (List.getElem?_eq_some_iff.1 hx).1
      have hu := Array.getElem?_eq_getElem hlt
      exact ⟨d, _, hd, hu, A.pub_rv hE hpd (h4 i x _ hx hu)⟩
    refine ⟨⟨b, c, ty, h1, h2, by rw [h3, hlen]; simp, fun i x u hx hu => ?_⟩, rfl, fun j ⟨x, hx, hj⟩ => ?_, fun j hj => ?_⟩
    · rw [List.getElem?_map, Option.map_eq_some_iff] at hx
      obtain ⟨d, hd, rfl⟩ := hx
      have hlt : i < cs.length := by rw [hlen]; exact (List.getElem?_eq_some_iff.1 hd).1
      obtain ⟨d', u', g1, g2, g3, _⟩ := key i _ (List.getElem?_eq_getElem hlt)
      rw [hd] at g1; cases g1
      rw [hu] at g2; cases g2
      exact Rv.wide (fun b hb => Nadd.mono (fun j hj => List.mem_flatMap.2 ⟨_, List.getElem_mem hlt, hj⟩) hb) g3
    · obtain ⟨d, _, rfl⟩ := List.mem_map.1 hx
      exact hj.elim
    · obtain ⟨x, hx, hj⟩ := List.mem_flatMap.1 hj
      obtain ⟨i, hi⟩ := List.mem_iff_getElem?.1 hx
      obtain ⟨_, _, _, _, _, g4⟩ := key i x hi
      exact g4 j hj
  | row e s rs =>
    simp only [liftBlk, Option.map_eq_some_iff] at hl
    obtain ⟨rows, hrows, rfl⟩ := hl
    obtain ⟨hlen, hp⟩ := pubs_get hrows
    obtain ⟨xs, h1, h2, h3⟩ := hc
    have key : ∀ (i j : Nat) (r : List A) (x : A), rs[i]? = some r → r[j]? = some x → ∃ ds d u, rows[i]? = some ds ∧ ds[j]? = some d ∧ xs[i * s + j]? = some u ∧ Rv (Nadd N E blk x.slots) w d u ∧ ∀ q ∈ x.slots, ∃ b fb, blk q = some b ∧ b.frz = some fb := by
      intro i j r x hr hx
      obtain ⟨ds, hds, hpr⟩ := hp i r hr
      obtain ⟨hl2, hp2⟩ := pubs_get hpr
      obtain ⟨d, hd, hpd⟩ := hp2 j x hx
      have hrl := h2 i r hr
      have hj : j < s := by rw [← hrl]; exact (List.getElem?_eq_some_iff.1 hx).1
      have hi : i < rs.length := (List.getElem?_eq_some_iff.1 hr).1
      have hxl : xs.length = rs.length * s := h1.1
      have hlt : i * s + j < xs.length := by
        rw [hxl]
        have : (i + 1) * s ≤ rs.length * s := Nat.mul_le_mul_right _ hi
        rw [Nat.add_mul, Nat.one_mul] at this
        omega
      have hu := List.getElem?_eq_getElem hlt
      exact ⟨ds, d, _, hds, hd, hu, A.pub_rv hE hpd (h3 i j r x _ hr hx hu)⟩
    have hrow : ∀ (i : Nat) (r' : List A), (rows.map fun r => r.map A.d)[i]? = some r' → ∃ r ds, rs[i]? = some r ∧ rows[i]? = some ds ∧ r' = ds.map A.d ∧ r.length = ds.length := by
      intro i r' h
      rw [List.getElem?_map, Option.map_eq_some_iff] at h
      obtain ⟨ds, hds, rfl⟩ := h
      have hlt : i < rs.length := by rw [hlen]; exact (List.getElem?_eq_some_iff.1 hds).1
      have hr := List.getElem?_eq_getElem hlt
      obtain ⟨ds', hds', hpr⟩ := hp i _ hr
      rw [hds] at hds'; cases hds'
      exact ⟨_, ds, hr, hds, rfl, (pubs_get hpr).1⟩
    refine ⟨⟨xs, by simpa [hlen] using h1, fun i r' hr' => ?_, fun i j r' x u hr' hx hu => ?_⟩, rfl, fun j ⟨r, hr, x, hx, hj⟩ => ?_, fun j hj => ?_⟩
    · obtain ⟨r, ds, g1, g2, rfl, g3⟩ := hrow i r' hr'
      rw [List.length_map, ← g3]
      exact h2 i r g1
    · obtain ⟨r, ds, g1, g2, rfl, g3⟩ := hrow i r' hr'
      rw [List.getElem?_map, Option.map_eq_some_iff] at hx
      obtain ⟨d, hd, rfl⟩ := hx
      have hlt : j < r.length := by rw [g3]; exact (List.getElem?_eq_some_iff.1 hd).1
      obtain ⟨ds', d', u', q1, q2, q3, q4, _⟩ := key i j r _ g1 (List.getElem?_eq_getElem hlt)
      rw [g2] at q1; cases q1
      rw [hd] at q2; cases q2
      rw [hu] at q3; cases q3
      exact Rv.wide (fun b hb => Nadd.mono (fun q hq => List.mem_flatMap.2 ⟨r, List.mem_of_getElem? g1, List.mem_flatMap.2 ⟨_, List.getElem_mem hlt, hq⟩⟩) hb) q4
    · obtain ⟨ds, _, rfl⟩ := List.mem_map.1 hr
      obtain ⟨d, _, rfl⟩ := List.mem_map.1 hx
      exact hj.elim
    · obtain ⟨r, hr, hj⟩ := List.mem_flatMap.1 hj
      obtain ⟨x, hx, hj⟩ := List.mem_flatMap.1 hj
      obtain ⟨i, hi⟩ := List.mem_iff_getElem?.1 hr
      obtain ⟨i', hi'⟩ := List.mem_iff_getElem?.1 hx
      obtain ⟨_, _, _, _, _, _, _, g⟩ := key i i' r x hi hi'
      exact g j hj
  | _ => cases hl

theorem Rel.liftB (R : Rel G N0 w0 nt st a w) {k : Nat} {bl bl' : Blk} (hk : st.blk k = some bl) (hn : ¬ k ∈ bl.slots) (hl : liftBlk st.blk bl = some bl') : Rel G N0 w0 nt ⟨st.t, (k, bl') :: (frz st.blk bl.slots ++ st.m)⟩ a w := by
  obtain ⟨E, N, hE, hts⟩ := R.env
  obtain ⟨h1, h2, h3, h4⟩ := liftBlk_rv hE hk hl
  have hEf := hE.freeze (blk := st.blk) (m := st.m) (fun _ => rfl) bl.slots h4
  have hkf : look (frz st.blk bl.slots ++ st.m) k = some bl := by
    rw [look_frz, if_neg hn]
    exact hk
  have hup := hEf.upd (w' := w) k (E k) bl' (Nat.le_refl _) (fun _ _ _ => rfl) (fun _ _ => .inl rfl) (fun _ b hb => by
    obtain ⟨g1, g2, g3⟩ := hEf.live k bl b hkf h2 hb
    exact ⟨g1, g2, g3, .inl ⟨bl, hkf, h2, hb⟩⟩) (by
    have : upd E k (E k) = E := by funext j; simp only [upd]; split <;> simp_all
    rw [this]; exact h1) (fun j hj => absurd hj (h3 j))
  have e1 : upd E k (E k) = E := by funext j; simp only [upd]; split <;> simp_all
  have e2 : St.blk ⟨st.t, (k, bl') :: (frz st.blk bl.slots ++ st.m)⟩ = upd (fun j => look (frz st.blk bl.slots ++ st.m) j) k (some bl') := by
    funext j
    simp only [St.blk, look, upd]
  rw [e1] at hup
  refine ⟨R.good, R.stab, R.below, R.defers, R.size, ⟨E, _, by rw [e2]; exact hup, fun i => RvL.mono (N' := Nadd N E st.blk bl.slots) (fun _ _ _ => rfl) (fun b h _ => Or.inl h) (fun _ _ => rfl) (hts i)⟩, fun i j hj => ?_⟩
  have := R.twf i j hj
  rw [e2]
  by_cases e : k = j
  · subst e; rw [upd_same]; simp
  · rw [upd_ne _ _ e]
    show look (frz st.blk bl.slots ++ st.m) j ≠ none
    rw [look_frz]
    split
    · simp
    · exact this

theorem code_sound (hm : P.follows .mixedOrders = true) : ∀ (lc : LC) (c : Code) {st : St} {a : Act} {w : World} {Q : LE → St → Prop}, chkC P nt lc c = true → lc.holds N0.fx = true → Rel G N0 w0 nt st a w → dwp G P lc st Q →
    c.wp P (fun e a' w' => ∃ le st', Q le st' ∧ e = le.out ∧ Rel G N0 w0 nt st' a' w') a w
  | .keep ts ks x, c, st, a, w, Q, hc, hf, R, h => by
    rw [chkC] at hc
    simp only [LC.holds, Bool.and_eq_true] at hf
    exact code_sound hm x c hc hf.2 (R.keep (holds_ks hf.1) h.1) h.2
  | .own t k e s x, c, st, a, w, Q, hc, hf, R, h => by
    rw [chkC] at hc
    simp only [dwp] at h
    split at h
    · rename_i ht
      exact code_sound hm x c hc hf (R.own ht h.1) h.2
    · exact code_sound hm x c hc hf R h
  | .lift t x, c, st, a, w, Q, hc, hf, R, h => by
    rw [chkC] at hc
    simp only [dwp] at h
    split at h
    · rename_i d hd
      exact code_sound hm x c hc hf (R.lift hd) h
    · exact h.elim
  | .liftB k x, c, st, a, w, Q, hc, hf, R, h => by
    rw [chkC] at hc
    simp only [dwp] at h
    split at h
    · rename_i bl hbl
      obtain ⟨h0, h⟩ := h
      split at h
      · rename_i bl' hl
        exact code_sound hm x c hc hf (R.liftB hbl h0 hl) h
      · exact h.elim
    · exact h.elim
  | .weak ks x, c, st, a, w, Q, hc, hf, R, h => by
    rw [chkC] at hc
    simp only [LC.holds, Bool.and_eq_true] at hf
    obtain ⟨st', h1, h2⟩ := h
    exact code_sound hm x c hc hf.2 (R.weak (holds_out hf.1) h1) h2
  | .tailW ks x, c, st, a, w, Q, hc, hf, R, h => by
    rw [chkC] at hc
    simp only [LC.holds, Bool.and_eq_true] at hf
    refine wp_mono (code_sound hm x c hc hf.2 R h) ?_
    rintro e a' w' ⟨le, st', hq, rfl, hr⟩
    cases le with
    | norm =>
      obtain ⟨st'', h1, h2⟩ := hq
      exact ⟨.norm, _, h2, rfl, hr.weak (holds_out hf.1) h1⟩
    | exit i => exact ⟨.exit i, st', hq, rfl, hr⟩
    | ret => exact ⟨.ret, st', hq, rfl, hr⟩
  | .ownC k i j e s x, c, st, a, w, Q, hc, hf, R, h => by
    rw [chkC] at hc
    simp only [dwp] at h
    split at h
    · rename_i cs hk
      split at h
      · rename_i hi
        exact code_sound hm x c hc hf (R.ownC hk hi h.1) h.2
      · exact code_sound hm x c hc hf R h
    · exact code_sound hm x c hc hf R h
  | .tail ts ks x, c, st, a, w, Q, hc, hf, R, h => by
    rw [chkC] at hc
    simp only [LC.holds, Bool.and_eq_true] at hf
    refine wp_mono (code_sound hm x c hc hf.2 R h) ?_
    rintro e a' w' ⟨le, st', hq, rfl, hr⟩
    cases le with
    | norm => exact ⟨.norm, _, hq.2, rfl, hr.keep (holds_ks hf.1) hq.1⟩
    | exit i => exact ⟨.exit i, st', hq, rfl, hr⟩
    | ret => exact ⟨.ret, st', hq, rfl, hr⟩
  | .dead, _, _, _, _, _, _, _, _, h => h.elim
  | .skip, c, st, a, w, Q, hc, hf, R, h => by
    cases c <;> simp only [chkC] at hc <;> first | (cases hc; done) | skip
    exact wp_skip ⟨.norm, st, h, rfl, R⟩
  | .region los, c, st, a, w, Q, hc, hf, R, h => by
    cases c with
    | region id ops b =>
      cases b with
      | true => exact absurd hc (by simp [chkC])
      | false =>
        have hc : chkOps P nt ops ops.toList los = true := by rw [chkC] at hc; exact hc
        exact wp_region_list (ops_sound ops.toList los hc R h fun st' a' w' hk hr => ⟨.norm, st', hk, rfl, hr⟩)
    | _ => exact absurd hc (by simp [chkC])
  | .draw anc los, c, st, a, w, Q, hc, hf, R, h => by
    cases c with
    | region id ops b =>
      cases b with
      | false => exact absurd hc (by simp [chkC])
      | true =>
        have hc : (chkOps P nt ops ops.toList los && chkT anc los && ancOk ops anc) = true := by rw [chkC] at hc; exact hc
        simp only [Bool.and_eq_true] at hc
        exact draw_sound hm hc.1.1 hc.1.2 hc.2 R h fun st' a' w' hk hr => ⟨.norm, st', hk, rfl, hr⟩
    | _ => exact absurd hc (by simp [chkC])
  | .seq x y, c, st, a, w, Q, hc, hf, R, h => by
    cases c <;> simp only [chkC, Bool.and_eq_true] at hc <;> first | (cases hc; done) | skip
    rename_i c1 c2
    simp only [LC.holds, Bool.and_eq_true] at hf
    refine wp_seq (wp_mono (code_sound hm x c1 hc.1 hf.1 R h) ?_)
    rintro e a' w' ⟨le, st', hq, rfl, hr⟩
    cases le with
    | norm => exact code_sound hm y c2 hc.2 hf.2 hr hq
    | exit i => exact ⟨.exit i, st', hq, rfl, hr⟩
    | ret => exact ⟨.ret, st', hq, rfl, hr⟩
  | .cond cx x y, c, st, a, w, Q, hc, hf, R, h => by
    cases c <;> simp only [chkC, Bool.and_eq_true] at hc <;> first | (cases hc; done) | skip
    rename_i co c1 c2
    simp only [LC.holds, Bool.and_eq_true] at hf
    simp only [dwp] at h
    split at h
    · rename_i q hq
      have hb := R.bool hc.1.1 hq
      exact wp_cond_split hb (fun e => code_sound hm x c1 hc.1.2 hf.1 R (by rw [if_pos e] at h; exact h)) (fun e => code_sound hm y c2 hc.2 hf.2 R (by rw [if_neg (by rw [e]; simp)] at h; exact h))
    · exact h.elim
  | .block id x, c, st, a, w, Q, hc, hf, R, h => by
    cases c <;> simp only [chkC, Bool.and_eq_true, beq_iff_eq] at hc <;> first | (cases hc; done) | skip
    rename_i id' c1
    obtain ⟨rfl, hc⟩ := hc
    rw [LC.holds] at hf
    refine wp_block (wp_mono (code_sound hm x c1 hc hf R h) ?_)
    rintro e a' w' ⟨le, st', hq, rfl, hr⟩
    cases le with
    | norm => exact ⟨.norm, st', hq, rfl, hr⟩
    | exit i =>
      simp only at hq
      show Exit.inBlock id _ (.exit i) a' w'
      simp only [Exit.inBlock]
      split
      · rename_i e
        rw [if_pos e] at hq
        exact ⟨.norm, st', hq, rfl, hr⟩
      · rename_i e
        rw [if_neg e] at hq
        exact ⟨.exit i, st', hq, rfl, hr⟩
    | ret => exact ⟨.ret, st', hq, rfl, hr⟩
  | .loop x, c, st, a, w, Q, hc, hf, R, h => by
    cases c <;> simp only [chkC] at hc <;> first | (cases hc; done) | skip
    rename_i c1
    rw [LC.holds] at hf
    obtain ⟨I, μ, h0, hr⟩ := h
    -- the least measure of the states that the world bears out
    let good (a : Act) (w : World) (n : Nat) : Prop := ∃ st, I st ∧ Rel G N0 w0 nt st a w ∧ μ st = n
    have : ∀ n a w, good a w n → ∃ m, good a w m ∧ ∀ m', good a w m' → m ≤ m' := by
      intro n a w hn
      induction n using Nat.strongRecOn with
      | _ n ih =>
        by_cases hlt : ∃ m, m < n ∧ good a w m
        · obtain ⟨m, h1, h2⟩ := hlt
          exact ih m h1 h2
        · refine ⟨n, hn, fun m' hm' => ?_⟩
          rcases Nat.lt_or_ge m' n with h | h
          · exact absurd ⟨m', h, hm'⟩ hlt
          · exact h
    classical
    let least (a : Act) (w : World) : Nat := if h : ∃ m, good a w m ∧ ∀ m', good a w m' → m ≤ m' then Classical.choose h else 0
    have hleast : ∀ a w n, good a w n → good a w (least a w) ∧ least a w ≤ n := by
      intro a w n hn
      have h := this n a w hn
      have e : least a w = Classical.choose h := dif_pos h
      rw [e]
      exact ⟨(Classical.choose_spec h).1, (Classical.choose_spec h).2 n hn⟩
    refine wp_loop (fun a w => ∃ n, good a w n) least ⟨_, st, h0, R, rfl⟩ ?_
    rintro a1 w1 ⟨n, hn⟩
    obtain ⟨⟨st1, i1, r1, e1⟩, _⟩ := hleast a1 w1 n hn
    refine wp_mono (code_sound hm x c1 hc hf r1 (hr st1 i1)) ?_
    rintro e a' w' ⟨le, st', hq, rfl, hrel⟩
    cases le with
    | norm =>
      obtain ⟨g1, g2⟩ := hq
      have hg : good a' w' (μ st') := ⟨st', g1, hrel, rfl⟩
      exact ⟨⟨_, hg⟩, by have := (hleast a' w' _ hg).2; omega⟩
    | exit i => exact ⟨.exit i, st', hq, rfl, hrel⟩
    | ret => exact ⟨.ret, st', hq, rfl, hrel⟩
  | .exit id, c, st, a, w, Q, hc, hf, R, h => by
    cases c <;> simp only [chkC, beq_iff_eq] at hc <;> first | (cases hc; done) | skip
    subst hc
    exact wp_exit ⟨.exit id, st, h, rfl, R⟩
  | .ret, c, st, a, w, Q, hc, hf, R, h => by
    cases c <;> simp only [chkC] at hc <;> first | (cases hc; done) | skip
    exact wp_ret ⟨.ret, st, h, rfl, R⟩
end

/-! ### Functions -/
/-- A walk of its own. -/
def Base.of (N : Nat → Prop) (w : World) : Base := ⟨N, fun _ _ => False, [], fun _ => False, w, fun _ _ _ h _ => h.elim⟩
def chkRes (P : Program) : List ResultVar → List (Nat × Option (Option Nat)) → Bool
  | [], [] => true
  | .tmp t :: r, (t', none) :: r' => t == t' && chkRes P r r'
  | .cell t ty :: r, (t', some n) :: r' => t == t' && tyShape P ty n && chkRes P r r'
  | _, _ => false
/-- A function of the program held against its data-level code. -/
def chkF (P : Program) (fn : Func) (np : Nat) (rs : List (Nat × Option (Option Nat))) (lc : LC) : Bool :=
  (match fn.body with
    | some c => chkC P fn.ntmps lc c
    | none => false) && chkRes P fn.results.toList rs && decide (np ≤ fn.ntmps) && P.follows .mixedOrders && !(fn.name == "runtime.NumGoroutine")
def initT : List D → Nat → List (Nat × L)
  | [], _ => []
  | d :: ds, i => (i, .at (.d d)) :: initT ds (i + 1)
/-- A result: of a temporary, or of the cells behind one. -/
def outR (st : St) : Nat × Option (Option Nat) → Option D
  | (t, none) => (st.get t).pub st.blk
  | (t, some n) => match n, lies st.blk (st.get t) with
    | none, some (x :: _) => x.pub st.blk
    | some n, some cs => if n ≤ cs.length then L.pub st.blk (.agg (cs.take n)) else none
    | _, _ => none
def outD (rs : List (Nat × Option (Option Nat))) (st : St) : Option D := match rs with
  | [r] => outR st r
  | rs => (pubs (outR st) rs).map .tup

theorem look_initT : ∀ (ds : List D) (i j : Nat), look (initT ds i) j = if i ≤ j then (ds[j - i]?).map fun d => .at (.d d) else none
  | [], i, j => by simp [initT, look]
  | d :: ds, i, j => by
    have ih := look_initT ds (i + 1) j
    simp only [initT, look]
    by_cases e : i = j
    · subst e; simp
    · rw [if_neg e, ih]
      by_cases h : i ≤ j
      · rw [if_pos h, if_pos (by omega), show j - i = (j - (i + 1)) + 1 by omega, List.getElem?_cons_succ]
      · rw [if_neg h, if_neg (by omega)]

def resF (tmps : Array Value) : ResultVar → Sem Value
  | .tmp t => pure (tmps.getD t undef)
  | .cell a t => do loadVar t (← asAddr (tmps.getD a undef))
theorem results_eq (fn : Func) (tmps : Array Value) : results fn tmps = (fn.results.mapM (resF tmps) >>= fun vs => pure (if h : vs.size = 1 then vs[0] else .tuple vs)) := by
  unfold results
  congr 1

theorem sat_of {G : World → Prop} (hG : ∀ w w', G w → Below w.heap.size w w' → G w') {P : Program} {f : FuncId} {fn : Func} {rs : List (Nat × Option (Option Nat))} {lc : LC} {args : List D} {r : D} (hf : P.funcs[f]? = some fn) {np : Nat} (hc : chkF P fn np rs lc = true)
    (h : dwp G P lc ⟨initT args 0, []⟩ fun e st => match e with
      | .exit _ => False
      | _ => outD rs st = some r) (hnp : args.length = np := by rfl) : Sat G P f args r := by
  subst hnp
  simp only [chkF, Bool.and_eq_true, Bool.not_eq_true', decide_eq_true_eq] at hc
  obtain ⟨⟨⟨⟨h1, h2⟩, h3⟩, h4⟩, h5⟩ := hc
  split at h1
  · rename_i c hb
    refine ⟨⟨fn, hf, by rw [hb]; rfl, h5⟩, fun N w vs hl hv hN hg => ?_⟩
    refine calls_of_wp hf hb ?_
    have R : Rel G (Base.of N w) w fn.ntmps ⟨initT args 0, []⟩ { tmps := vs.toArray ++ Array.replicate (fn.ntmps - vs.toArray.size) undef, defers := [] } w := by
      refine ⟨hg, hG, Below.refl _ _, rfl, by simp; omega, ⟨fun _ => undef, N, ⟨hN, fun b hb => .inl hb, fun k bl b hk => by simp [St.blk, look] at hk, fun k k' bl bl' b hk => by simp [St.blk, look] at hk, fun k bl hk => by simp [St.blk, look] at hk, fun k bl j hk => by simp [St.blk, look] at hk, fun _ _ h => h.elim, fun k hk => by simp [Base.of] at hk, fun _ h => h.elim⟩, fun i => ?_⟩, fun i k hk => ?_⟩
      · simp only [St.get, look_initT, Nat.zero_le, if_true, Nat.sub_zero]
        cases hd : args[i]? with
        | none => trivial
        | some d =>
          have hi : i < vs.length := by rw [hl]; exact (List.getElem?_eq_some_iff.1 hd).1
          have hvi := List.getElem?_eq_getElem hi
          have := hv i d _ hd hvi
          show Rv N w d _
          rw [Array.getD_eq_getD_getElem?, Array.getElem?_append_left (by simpa using hi)]
          simpa [hi] using this
      · simp only [St.get, look_initT, Nat.zero_le, if_true, Nat.sub_zero] at hk
        cases hd : args[i]? <;> rw [hd] at hk <;> exact hk.elim
    refine wp_mono (code_sound h4 lc c h1 lc.holds_nil R h) ?_
    rintro e a' w' ⟨le, st', hq, rfl, hr⟩
    have key : outD rs st' = some r → a'.defers = [] ∧ ∃ v, (results fn a'.tmps).run P w' = .ok v w' ∧ (∃ v', Ending.returned v = .returned v' ∧ Below w.heap.size w w' ∧ Rv (fun b => N b ∨ w.heap.size ≤ b) w' r v') := by
      intro ho
      obtain ⟨E, N1, hE, hts⟩ := hr.env
      have hwide : ∀ {ks : List Nat} {d : D} {v : Value}, Rv (Nadd N1 E st'.blk ks) w' d v → Rv (fun b => N b ∨ w.heap.size ≤ b) w' d v := by
        intro ks d v hrv
        refine Rv.wide (fun b hb => ?_) hrv
        rcases hb with hb | ⟨k, bl, _, h1, h2, h3⟩
        · exact hE.nsub b hb
        · exact .inr (hE.live k bl b h1 h2 h3).2.1
      -- one result
      have hone : ∀ (x : ResultVar) (r : Nat × Option (Option Nat)) (d : D), chkRes P [x] [r] = true → outR st' r = some d → ∃ v, (resF a'.tmps x).run P w' = .ok v w' ∧ Rv (fun b => N b ∨ w.heap.size ≤ b) w' d v := by
        intro x r d hx hd
        obtain ⟨t', c⟩ := r
        cases x with
        | tmp t =>
          cases c with
          | some n => simp [chkRes] at hx
          | none =>
            simp only [chkRes, Bool.and_true, beq_iff_eq] at hx
            subst hx
            exact ⟨_, rfl, hwide (L.pub_rv hE hd (hts t)).1⟩
        | cell t ty =>
          cases c with
          | none => simp [chkRes] at hx
          | some n =>
            simp only [chkRes, Bool.and_true, Bool.and_eq_true, beq_iff_eq] at hx
            obtain ⟨rfl, hty⟩ := hx
            simp only [outR] at hd
            split at hd
            · rename_i y ys hl
              obtain ⟨b, off, g1, g2, _⟩ := lies_rv hE (hts t) hl
              obtain ⟨u, hu, hru⟩ := g2 0 y rfl
              rw [Nat.add_zero] at hu
              refine ⟨u, ?_, hwide (A.pub_rv hE hd hru).1⟩
              simp only [resF, g1, asAddr, Sem.run_bind, Sem.run_pure, Result.andThen_ok]
              exact run_load_one hty hu
            · rename_i n cs hl
              split at hd
              · rename_i hn
                obtain ⟨b, off, g1, g2, _⟩ := lies_rv hE (hts t) hl
                have hc : ∀ j, j < n → ∃ u, w'.cell? ⟨b, off + j, none⟩ = some u := fun j hj => by
                  obtain ⟨u, hu, _⟩ := g2 j _ (List.getElem?_eq_getElem (show j < cs.length by omega))
                  exact ⟨u, hu⟩
                refine ⟨_, ?_, hwide (L.pub_rv (l := .agg (cs.take n)) hE hd ⟨(List.range n).map fun j => (w'.cell? ⟨b, off + j, none⟩).getD undef, rfl, by simp; omega, fun i c u hci hu => ?_⟩).1⟩
                · simp only [resF, g1, asAddr, Sem.run_bind, Sem.run_pure, Result.andThen_ok]
                  exact run_load_agg hty hc
                · rw [List.getElem?_take] at hci
                  split at hci
                  · rename_i hi
                    obtain ⟨u', hu', hr'⟩ := g2 i c hci
                    rw [List.getElem?_map, List.getElem?_range hi] at hu
                    simp only [Option.map_some, Option.some.injEq] at hu
                    rw [hu'] at hu
                    simp only [Option.getD_some] at hu
                    rw [← hu]; exact hr'
                  · cases hci
              · cases hd
            · cases hd
      have hres : ∀ (l : List ResultVar) (rs : List (Nat × Option (Option Nat))) (ds : List D), chkRes P l rs = true → pubs (outR st') rs = some ds → ∃ vs : List Value, (l.mapM (resF a'.tmps)).run P w' = .ok vs w' ∧ vs.length = ds.length ∧ ∀ (i : Nat) (d : D) (v : Value), ds[i]? = some d → vs[i]? = some v → Rv (fun b => N b ∨ w.heap.size ≤ b) w' d v := by
        intro l
        induction l with
        | nil =>
          intro rs ds h hd
          cases rs with
          | nil =>
            simp only [pubs, Option.some.injEq] at hd
            subst hd
            exact ⟨[], by simp [List.mapM_nil], rfl, fun i d v h => by simp at h⟩
          | cons _ _ => simp [chkRes] at h
        | cons x l ih =>
          intro rs ds h hd
          cases rs with
          | nil => cases x <;> simp [chkRes] at h
          | cons r rs =>
            have hsplit : chkRes P [x] [r] = true ∧ chkRes P l rs = true := by
              obtain ⟨t', c⟩ := r
              cases x <;> cases c <;> simp only [chkRes, Bool.and_eq_true, Bool.and_true] at h ⊢ <;> first | (cases h; done) | exact h | exact ⟨h.1, h.2⟩
            simp only [pubs] at hd
            split at hd
            · rename_i d0 hd0
              split at hd
              · rename_i ds0 hds0
                cases hd
                obtain ⟨v0, k1, k2⟩ := hone x r d0 hsplit.1 hd0
                obtain ⟨vs, k3, k4, k5⟩ := ih rs ds0 hsplit.2 hds0
                refine ⟨v0 :: vs, by simp only [List.mapM_cons, Sem.run_bind, k1, k3, Sem.run_pure, Result.andThen_ok], by simp [k4], fun i d v hi hv => ?_⟩
                cases i with
                | zero => simp at hi hv; subst hi; subst hv; exact k2
                | succ i => simp at hi hv; exact k5 i d v hi hv
              · cases hd
            · cases hd
      have hrun : ∀ vs : List Value, (fn.results.toList.mapM (resF a'.tmps)).run P w' = .ok vs w' → (results fn a'.tmps).run P w' = .ok (if h : vs.toArray.size = 1 then vs.toArray[0] else .tuple vs.toArray) w' := by
        intro vs h
        rw [results_eq, Array.mapM_eq_mapM_toList, Sem.run_bind, Sem.run_map, h]
        rfl
      unfold outD at ho
      split at ho
      · rename_i q
        obtain ⟨vs, k1, k2, k3⟩ := hres fn.results.toList [q] [r] h2 (by simp [pubs, ho])
        have hv : ∃ v, vs = [v] := by
          match vs, k2 with
          | [v], _ => exact ⟨v, rfl⟩
        obtain ⟨v, rfl⟩ := hv
        refine ⟨hr.defers, _, hrun _ k1, _, rfl, hr.below, ?_⟩
        exact k3 0 _ v rfl rfl
      · rename_i hne
        rw [Option.map_eq_some_iff] at ho
        obtain ⟨ds, hds, rfl⟩ := ho
        obtain ⟨vs, k1, k2, k3⟩ := hres fn.results.toList rs ds h2 hds
        refine ⟨hr.defers, _, hrun _ k1, _, rfl, hr.below, ?_⟩
        have hl := (pubs_get hds).1
        have hsz : ¬ vs.toArray.size = 1 := by
          simp only [List.size_toArray]
          intro h
          obtain ⟨t, ht⟩ := List.length_eq_one_iff.1 (show rs.length = 1 by omega)
          exact hne t ht
        rw [dif_neg hsz]
        exact .tup ds vs k2 k3
    cases le with
    | norm =>
      obtain ⟨k1, v, k2, v', k3, k4, k5⟩ := key hq
      exact ⟨k1, v, k2, v', k3, k4, k5⟩
    | ret =>
      obtain ⟨k1, v, k2, v', k3, k4, k5⟩ := key hq
      exact ⟨k1, v, k2, v', k3, k4, k5⟩
    | exit i => exact hq.elim
  · cases h1
end Go.Proofs.YtpfhfokfambdaaaGreatDoor.Ev

/-! Contracts with shared memory, by a walk. -/
namespace Go.Proofs.YtpfhfokfambdaaaGreatDoor.Ev
open Go.RowKit (Below)

def initL : List L → Nat → List (Nat × L)
  | [], _ => []
  | l :: ls, i => (i, l) :: initL ls (i + 1)
/-- A result, where it may name slots. -/
def outS1 (st : St) : Nat × Option (Option Nat) → Option L
  | (t, none) => some (st.get t)
  | (t, some n) => match n, lies st.blk (st.get t) with
    | none, some (x :: _) => some (.at x)
    | some n, some cs => if n ≤ cs.length then some (.agg (cs.take n)) else none
    | _, _ => none
def outS (rs : List (Nat × Option (Option Nat))) (st : St) : Option L := match rs with
  | [r] => outS1 st r
  | rs => (pubs (fun r => (outS1 st r).bind L.toM) rs).map .tup
def closedS (m0 : List (Nat × Blk)) (l : L) (us : List (Nat × Blk)) : Bool :=
  m0.all (fun p => (look us p.1).isSome) && l.slots.all (fun k => (look us k).isSome) && shut us

theorem look_initL : ∀ (ls : List L) (i j : Nat), look (initL ls i) j = if i ≤ j then ls[j - i]? else none
  | [], i, j => by simp [initL, look]
  | d :: ds, i, j => by
    have ih := look_initL ds (i + 1) j
    simp only [initL, look]
    by_cases e : i = j
    · subst e; simp
    · rw [if_neg e, ih]
      by_cases h : i ≤ j
      · rw [if_pos h, if_pos (by omega), show j - i = (j - (i + 1)) + 1 by omega, List.getElem?_cons_succ]
      · rw [if_neg h, if_neg (by omega)]
theorem look_some_of_mem {α : Type} : ∀ {m : List (Nat × α)} {p : Nat × α}, p ∈ m → look m p.1 ≠ none
  | (j, y) :: r, p, h => by
    simp only [look]
    split
    · simp
    · rename_i e
      rcases List.mem_cons.1 h with rfl | h
      · exact absurd rfl e
      · exact look_some_of_mem h

theorem satS_of {G : World → Prop} (hG : ∀ w w', G w → Below w.heap.size w w' → G w') {P : Program} {f : FuncId} {fn : Func} {rs : List (Nat × Option (Option Nat))} {lc : LC} {args : List L} {m0 : List (Nat × Blk)} {l : L} {us : List (Nat × Blk)}
    (hf : P.funcs[f]? = some fn) {np : Nat} (hc : chkF P fn np rs lc = true) (hh : lc.holds (m0.map (·.1)) = true) (hs : closedS m0 l us = true)
    (h : dwp G P lc ⟨initL args 0, m0⟩ fun e st => match e with
      | .exit _ => False
      | _ => outS rs st = some l ∧ ∀ p ∈ us, st.blk p.1 = some p.2) (hnp : args.length = np := by rfl) : SatS G P f args m0 l us := by
  subst hnp
  simp only [chkF, Bool.and_eq_true, Bool.not_eq_true', decide_eq_true_eq] at hc
  obtain ⟨⟨⟨⟨h1, h2⟩, h3⟩, h4⟩, h5⟩ := hc
  simp only [closedS, Bool.and_eq_true, List.all_eq_true] at hs
  obtain ⟨⟨s1, s2⟩, s3⟩ := hs
  split at h1
  · rename_i c hb
    refine ⟨⟨fn, hf, by rw [hb]; rfl, h5⟩, fun N0 w0 w E N vs hl hv hfx hE hbel hg => ?_⟩
    refine calls_of_wp hf hb ?_
    have R : Rel G N0 w0 fn.ntmps ⟨initL args 0, m0⟩ { tmps := vs.toArray ++ Array.replicate (fn.ntmps - vs.toArray.size) undef, defers := [] } w := by
      refine ⟨hg, hG, hbel, rfl, by simp; omega, ⟨E, N, hE, fun i => ?_⟩, fun i k hk => ?_⟩
      · simp only [St.get, look_initL, Nat.zero_le, if_true, Nat.sub_zero]
        cases hd : args[i]? with
        | none => trivial
        | some d =>
          have hi : i < vs.length := by rw [hl]; exact (List.getElem?_eq_some_iff.1 hd).1
          have hvi := List.getElem?_eq_getElem hi
          have := (hv i d _ hd hvi).1
          show RvL E N w d _
          rw [Array.getD_eq_getD_getElem?, Array.getElem?_append_left (by simpa using hi)]
          simpa [hi] using this
      · simp only [St.get, look_initL, Nat.zero_le, if_true, Nat.sub_zero] at hk
        cases hd : args[i]? with
        | none => rw [hd] at hk; exact hk.elim
        | some d =>
          rw [hd] at hk
          have hi : i < vs.length := by rw [hl]; exact (List.getElem?_eq_some_iff.1 hd).1
          exact (hv i d _ hd (List.getElem?_eq_getElem hi)).2 k hk
    refine wp_mono (code_sound h4 lc c h1 (by rw [hfx]; exact hh) R h) ?_
    rintro e a' w' ⟨le, st', hq, rfl, hr⟩
    have key : (outS rs st' = some l ∧ ∀ p ∈ us, st'.blk p.1 = some p.2) → a'.defers = [] ∧ ∃ v, (results fn a'.tmps).run P w' = .ok v w' ∧ (∃ v' E' N', Ending.returned v = .returned v' ∧ Below w0.heap.size w0 w' ∧ Env N0 w0.heap.size w' (look us) E' N' ∧ RvL E' N' w' l v' ∧ ∀ k, l.men k → look us k ≠ none) := by
      rintro ⟨ho, hus⟩
      obtain ⟨E1, N1, hE1, hts⟩ := hr.env
      have hsub : ∀ k bl, look us k = some bl → st'.blk k = some bl := fun k bl hk => hus (k, bl) (look_isSome hk)
      have hEu : Env N0 w0.heap.size w' (look us) E1 N1 := by
        refine ⟨hE1.nlt, hE1.nsub, fun k bl b g1 => hE1.live k bl b (hsub k bl g1), fun k k' bl bl' b g1 g2 => hE1.dis k k' bl bl' b (hsub k bl g1) (hsub k' bl' g2), fun k bl g1 => hE1.con k bl (hsub k bl g1), fun k bl j g1 g2 => ?_, hE1.gh, fun k hk => ?_, fun b hb => ?_⟩
        · simp only [shut, List.all_eq_true] at s3
          exact Option.isSome_iff_ne_none.1 (s3 (k, bl) (look_isSome g1) j (Blk.men_slots g2))
        · rw [hfx] at hk
          obtain ⟨p, hp, rfl⟩ := List.mem_map.1 hk
          exact Option.isSome_iff_ne_none.1 (s1 p hp)
        · obtain ⟨a1, a2, a3, a4⟩ := hE1.fo b hb
          exact ⟨a1, a2, a3, fun k bl g1 => a4 k bl (hsub k bl g1)⟩
      have hlm : ∀ k, l.men k → look us k ≠ none := fun k hk => Option.isSome_iff_ne_none.1 (s2 k (L.men_slots hk))
      -- one result
      have hone : ∀ (x : ResultVar) (r : Nat × Option (Option Nat)) (y : L), chkRes P [x] [r] = true → outS1 st' r = some y → ∃ v, (resF a'.tmps x).run P w' = .ok v w' ∧ RvL E1 N1 w' y v := by
        intro x r y hx hd
        obtain ⟨t', c⟩ := r
        cases x with
        | tmp t =>
          cases c with
          | some n => simp [chkRes] at hx
          | none =>
            simp only [chkRes, Bool.and_true, beq_iff_eq] at hx
            subst hx
            cases hd
            exact ⟨_, rfl, hts t⟩
        | cell t ty =>
          cases c with
          | none => simp [chkRes] at hx
          | some n =>
            simp only [chkRes, Bool.and_true, Bool.and_eq_true, beq_iff_eq] at hx
            obtain ⟨rfl, hty⟩ := hx
            simp only [outS1] at hd
            split at hd
            · rename_i y ys hl
              cases hd
              obtain ⟨b, off, g1, g2, _⟩ := lies_rv hE1 (hts t) hl
              obtain ⟨u, hu, hru⟩ := g2 0 y rfl
              rw [Nat.add_zero] at hu
              refine ⟨u, ?_, hru⟩
              simp only [resF, g1, asAddr, Sem.run_bind, Sem.run_pure, Result.andThen_ok]
              exact run_load_one hty hu
            · rename_i n cs hl
              split at hd
              · rename_i hn
                cases hd
                obtain ⟨b, off, g1, g2, _⟩ := lies_rv hE1 (hts t) hl
                have hc : ∀ j, j < n → ∃ u, w'.cell? ⟨b, off + j, none⟩ = some u := fun j hj => by
                  obtain ⟨u, hu, _⟩ := g2 j _ (List.getElem?_eq_getElem (show j < cs.length by omega))
                  exact ⟨u, hu⟩
                refine ⟨_, ?_, ⟨(List.range n).map fun j => (w'.cell? ⟨b, off + j, none⟩).getD undef, rfl, by simp; omega, fun i c u hci hu => ?_⟩⟩
                · simp only [resF, g1, asAddr, Sem.run_bind, Sem.run_pure, Result.andThen_ok]
                  exact run_load_agg hty hc
                · rw [List.getElem?_take] at hci
                  split at hci
                  · rename_i hi
                    obtain ⟨u', hu', hr'⟩ := g2 i c hci
                    rw [List.getElem?_map, List.getElem?_range hi] at hu
                    simp only [Option.map_some, Option.some.injEq] at hu
                    rw [hu'] at hu
                    simp only [Option.getD_some] at hu
                    rw [← hu]; exact hr'
                  · cases hci
              · cases hd
            · cases hd
      have hres : ∀ (xs : List ResultVar) (rs : List (Nat × Option (Option Nat))) (ds : List M), chkRes P xs rs = true → pubs (fun r => (outS1 st' r).bind L.toM) rs = some ds → ∃ vs, (xs.mapM (resF a'.tmps)).run P w' = .ok vs w' ∧ vs.length = ds.length ∧ ∀ (i : Nat) (d : M) (v : Value), ds[i]? = some d → vs[i]? = some v → RvM E1 N1 w' d v := by
        intro xs
        induction xs with
        | nil =>
          intro rs ds h hd
          cases rs with
          | nil => cases hd; exact ⟨[], rfl, rfl, fun i d v h => by simp at h⟩
          | cons r rs => simp [chkRes] at h
        | cons x xs ih =>
          intro rs ds h hd
          cases rs with
          | nil => cases x <;> simp [chkRes] at h
          | cons r rs =>
            have hsplit : chkRes P [x] [r] = true ∧ chkRes P xs rs = true := by
              obtain ⟨t', c⟩ := r
              cases x <;> cases c <;> simp only [chkRes, Bool.and_eq_true, Bool.and_true] at h ⊢ <;> first | (cases h; done) | exact h | exact ⟨h.1, h.2⟩
            simp only [pubs] at hd
            split at hd
            · rename_i d0 hd0
              split at hd
              · rename_i ds0 hds0
                cases hd
                rw [Option.bind_eq_some_iff] at hd0
                obtain ⟨y, hy, hyd⟩ := hd0
                obtain ⟨v0, k1, k2⟩ := hone x r y hsplit.1 hy
                have k2 : RvM E1 N1 w' d0 v0 := by
                  unfold L.toM at hyd
                  split at hyd
                  · cases hyd; exact k2
                  · cases hyd; exact k2
                  · cases hyd
                obtain ⟨vs, k3, k4, k5⟩ := ih rs ds0 hsplit.2 hds0
                refine ⟨v0 :: vs, by simp only [List.mapM_cons, Sem.run_bind, k1, k3, Sem.run_pure, Result.andThen_ok], by simp [k4], fun i d v hi hv => ?_⟩
                cases i with
                | zero => simp at hi hv; subst hi; subst hv; exact k2
                | succ i => simp at hi hv; exact k5 i d v hi hv
              · cases hd
            · cases hd
      have hrun : ∀ vs : List Value, (fn.results.toList.mapM (resF a'.tmps)).run P w' = .ok vs w' → (results fn a'.tmps).run P w' = .ok (if h : vs.toArray.size = 1 then vs.toArray[0] else .tuple vs.toArray) w' := by
        intro vs h
        rw [results_eq, Array.mapM_eq_mapM_toList, Sem.run_bind, Sem.run_map, h]
        rfl
      unfold outS at ho
      split at ho
      · rename_i q
        cases hx : fn.results.toList with
        | nil => rw [hx] at h2; simp [chkRes] at h2
        | cons x xs =>
          rw [hx] at h2
          have hxs : xs = [] := by
            obtain ⟨t', c⟩ := q
            cases xs with
            | nil => rfl
            | cons y ys => cases x <;> cases c <;> simp [chkRes] at h2
          subst hxs
          obtain ⟨v, k1, k2⟩ := hone x q l h2 ho
          refine ⟨hr.defers, v, ?_, v, E1, N1, rfl, hr.below, hEu, k2, hlm⟩
          have := hrun [v] (by rw [hx]; simp only [List.mapM_cons, List.mapM_nil, Sem.run_bind, k1, Sem.run_pure, Result.andThen_ok])
          simpa using this
      · rename_i hne
        rw [Option.map_eq_some_iff] at ho
        obtain ⟨ds, hds, rfl⟩ := ho
        obtain ⟨vs, k1, k2, k3⟩ := hres fn.results.toList rs ds h2 hds
        refine ⟨hr.defers, _, hrun _ k1, _, E1, N1, rfl, hr.below, hEu, ?_, hlm⟩
        have hl := (pubs_get hds).1
        have hsz : ¬ vs.toArray.size = 1 := by
          simp only [List.size_toArray]
          intro h
          obtain ⟨t, ht⟩ := List.length_eq_one_iff.1 (show rs.length = 1 by omega)
          exact hne t ht
        rw [dif_neg hsz]
        exact ⟨vs, rfl, k2, k3⟩
    cases le with
    | norm =>
      obtain ⟨k1, v, k2, k3⟩ := key hq
      exact ⟨k1, v, k2, k3⟩
    | ret =>
      obtain ⟨k1, v, k2, k3⟩ := key hq
      exact ⟨k1, v, k2, k3⟩
    | exit i => exact hq.elim
  · cases h1
end Go.Proofs.YtpfhfokfambdaaaGreatDoor.Ev

/-! The rules by which 'simp' walks over data: they fire at a state that is written out, so never under a continuation. -/
namespace Go.Proofs.YtpfhfokfambdaaaGreatDoor.Ev

def getL : List (Nat × L) → Nat → L
  | [], _ => .at .any
  | (i, l) :: r, k => if i = k then l else getL r k
theorem get_getL : ∀ (t : List (Nat × L)) (k : Nat), (look t k).getD (.at .any) = getL t k
  | [], _ => rfl
  | (i, l) :: r, k => by
    simp only [look, getL]
    split
    · rfl
    · exact get_getL r k

section
variable (G : World → Prop) (P : Program) (t : List (Nat × L)) (m : List (Nat × Blk))
@[simp] theorem w_write0 (d : Nat) (l : L) : St.write ⟨t, m⟩ (some d) l [] = ⟨(d, l) :: t, m⟩ := rfl
@[simp] theorem w_write1 (d k : Nat) (l : L) (b : Blk) : St.write ⟨t, m⟩ (some d) l [(k, b)] = ⟨(d, l) :: t, (k, b) :: m⟩ := rfl
@[simp] theorem w_writen (k : Nat) (l : L) (b : Blk) : St.write ⟨t, m⟩ none l [(k, b)] = ⟨t, (k, b) :: m⟩ := rfl
@[simp] theorem w_write_frz (d : Nat) (l : L) (blk : Nat → Option Blk) (ks : List Nat) : St.write ⟨t, m⟩ (some d) l (frz blk ks) = ⟨(d, l) :: t, frz blk ks ++ m⟩ := rfl
@[simp] theorem w_ev_t (i : Nat) : St.ev ⟨t, m⟩ (.t i) = getL t i := get_getL t i
@[simp] theorem w_ev_c (l : L) : St.ev ⟨t, m⟩ (.c l) = l := rfl
@[simp] theorem w_get (i : Nat) : St.get ⟨t, m⟩ i = getL t i := get_getL t i
@[simp] theorem w_blk (k : Nat) : St.blk ⟨t, m⟩ k = look m k := rfl
@[simp] theorem w_keep (ts ks : List Nat) : St.keep ⟨t, m⟩ ts ks = ⟨picks t ts, picks m ks⟩ := rfl
theorem w_closed : St.closed ⟨t, m⟩ = ((t.all fun p => p.2.slots.all fun k => (look m k).isSome) && m.all fun p => p.2.slots.all fun k => (look m k).isSome) := rfl
@[simp] theorem w_getL_nil (k : Nat) : getL [] k = .at .any := rfl
@[simp] theorem w_getL_cons (i : Nat) (l : L) (r : List (Nat × L)) (k : Nat) : getL ((i, l) :: r) k = if i = k then l else getL r k := rfl
@[simp] theorem w_look_nil {α : Type} (k : Nat) : look ([] : List (Nat × α)) k = none := rfl
@[simp] theorem w_look_cons {α : Type} (i : Nat) (x : α) (r : List (Nat × α)) (k : Nat) : look ((i, x) :: r) k = if i = k then some x else look r k := rfl

@[simp] theorem w_ops_nil (K : St → Prop) : dops G P [] ⟨t, m⟩ K = K ⟨t, m⟩ := (rfl)
@[simp] theorem w_ops_cons (d : Option Nat) (k : LK) (r : List LOp) (K : St → Prop) : dops G P (⟨d, none, k⟩ :: r) ⟨t, m⟩ K = dsem G P k (St.ev ⟨t, m⟩) (St.blk ⟨t, m⟩) fun l us => dops G P r (St.write ⟨t, m⟩ d l us) K := (rfl)
@[simp] theorem w_ops_guard (d : Option Nat) (g : Nat) (b : Bool) (k : LK) (r : List LOp) (K : St → Prop) : dops G P (⟨d, some (g, b), k⟩ :: r) ⟨t, m⟩ K = match St.get ⟨t, m⟩ g with
    | .at (.d (.bool q)) => if q = b then dsem G P k (St.ev ⟨t, m⟩) (St.blk ⟨t, m⟩) fun l us => dops G P r (St.write ⟨t, m⟩ d l us) K else dops G P r (St.write ⟨t, m⟩ d .no []) K
    | .at (.d (.tup [])) => dops G P r (St.write ⟨t, m⟩ d .no []) K
    | _ => False := (rfl)
@[simp] theorem w_draw_nil (anc : List Nat) (i : Nat) (log : List (Nat × List Nat × List Nat)) (K : St → Prop) : ddraw G P anc i log [] ⟨t, m⟩ K = K ⟨t, m⟩ := (rfl)
@[simp] theorem w_draw_cons (anc : List Nat) (i : Nat) (log : List (Nat × List Nat × List Nat)) (d : Option Nat) (k : LK) (r : List LOp) (K : St → Prop) : ddraw G P anc i log (⟨d, none, k⟩ :: r) ⟨t, m⟩ K =
    dsem G P k (St.ev ⟨t, m⟩) (St.blk ⟨t, m⟩) fun l us => okLog (anc.getD i 0) (rsOf k (St.ev ⟨t, m⟩) (St.blk ⟨t, m⟩)) (us.map (·.1)) log = true ∧ ddraw G P anc (i + 1) ((i, rsOf k (St.ev ⟨t, m⟩) (St.blk ⟨t, m⟩), us.map (·.1)) :: log) r (St.write ⟨t, m⟩ d l us) K := (rfl)
@[simp] theorem w_draw_guard (anc : List Nat) (i : Nat) (log : List (Nat × List Nat × List Nat)) (d : Option Nat) (g : Nat) (b : Bool) (k : LK) (r : List LOp) (K : St → Prop) : ddraw G P anc i log (⟨d, some (g, b), k⟩ :: r) ⟨t, m⟩ K = match St.get ⟨t, m⟩ g with
    | .at (.d (.bool q)) => if q = b then dsem G P k (St.ev ⟨t, m⟩) (St.blk ⟨t, m⟩) fun l us => okLog (anc.getD i 0) (rsOf k (St.ev ⟨t, m⟩) (St.blk ⟨t, m⟩)) (us.map (·.1)) log = true ∧ ddraw G P anc (i + 1) ((i, rsOf k (St.ev ⟨t, m⟩) (St.blk ⟨t, m⟩), us.map (·.1)) :: log) r (St.write ⟨t, m⟩ d l us) K
        else ddraw G P anc (i + 1) ((i, [], []) :: log) r (St.write ⟨t, m⟩ d .no []) K
    | .at (.d (.tup [])) => ddraw G P anc (i + 1) ((i, [], []) :: log) r (St.write ⟨t, m⟩ d .no []) K
    | _ => False := (rfl)

variable (Q : LE → St → Prop)
@[simp] theorem w_skip : dwp G P .skip ⟨t, m⟩ Q = Q .norm ⟨t, m⟩ := (rfl)
@[simp] theorem w_dead : dwp G P .dead ⟨t, m⟩ Q = False := (rfl)
@[simp] theorem w_ret : dwp G P .ret ⟨t, m⟩ Q = Q .ret ⟨t, m⟩ := (rfl)
@[simp] theorem w_exit (id : Nat) : dwp G P (.exit id) ⟨t, m⟩ Q = Q (.exit id) ⟨t, m⟩ := (rfl)
@[simp] theorem w_region (los : List LOp) : dwp G P (.region los) ⟨t, m⟩ Q = dops G P los ⟨t, m⟩ (Q .norm) := (rfl)
@[simp] theorem w_draw (anc : List Nat) (los : List LOp) : dwp G P (.draw anc los) ⟨t, m⟩ Q = ddraw G P anc 0 [] los ⟨t, m⟩ (Q .norm) := (rfl)
@[simp] theorem w_seq (x y : LC) : dwp G P (.seq x y) ⟨t, m⟩ Q = dwp G P x ⟨t, m⟩ fun e st' => match e with
    | .norm => dwp G P y st' Q
    | .exit i => Q (.exit i) st'
    | .ret => Q .ret st' := (rfl)
@[simp] theorem w_cond (c : X) (x y : LC) : dwp G P (.cond c x y) ⟨t, m⟩ Q = match St.ev ⟨t, m⟩ c with
    | .at (.d (.bool q)) => if q = true then dwp G P x ⟨t, m⟩ Q else dwp G P y ⟨t, m⟩ Q
    | _ => False := (rfl)
@[simp] theorem w_block (id : Nat) (x : LC) : dwp G P (.block id x) ⟨t, m⟩ Q = dwp G P x ⟨t, m⟩ fun e st' => match e with
    | .exit i => if i = id then Q .norm st' else Q (.exit i) st'
    | .norm => Q .norm st'
    | .ret => Q .ret st' := (rfl)
@[simp] theorem w_keepc (ts ks : List Nat) (x : LC) : dwp G P (.keep ts ks x) ⟨t, m⟩ Q = (St.closed (St.keep ⟨t, m⟩ ts ks) = true ∧ dwp G P x (St.keep ⟨t, m⟩ ts ks) Q) := (rfl)
@[simp] theorem w_tail (ts ks : List Nat) (x : LC) : dwp G P (.tail ts ks x) ⟨t, m⟩ Q = dwp G P x ⟨t, m⟩ fun e st' => match e with
    | .norm => (st'.keep ts ks).closed = true ∧ Q .norm (st'.keep ts ks)
    | .exit i => Q (.exit i) st'
    | .ret => Q .ret st' := (rfl)
@[simp] theorem w_lift (v : Nat) (x : LC) : dwp G P (.lift v x) ⟨t, m⟩ Q = match (St.get ⟨t, m⟩ v).pub (St.blk ⟨t, m⟩) with
    | some d => dwp G P x ⟨(v, .at (.d d)) :: t, frz (St.blk ⟨t, m⟩) (St.get ⟨t, m⟩ v).slots ++ m⟩ Q
    | none => False := (rfl)
@[simp] theorem w_liftB (k : Nat) (x : LC) : dwp G P (.liftB k x) ⟨t, m⟩ Q = match St.blk ⟨t, m⟩ k with
    | some bl => ¬ k ∈ bl.slots ∧ match liftBlk (St.blk ⟨t, m⟩) bl with
      | some bl' => dwp G P x ⟨t, (k, bl') :: (frz (St.blk ⟨t, m⟩) bl.slots ++ m)⟩ Q
      | none => False
    | none => False := (rfl)
@[simp] theorem w_own (v k e s : Nat) (x : LC) : dwp G P (.own v k e s x) ⟨t, m⟩ Q = (match St.get ⟨t, m⟩ v with
    | .at .nils => St.blk ⟨t, m⟩ k = none ∧ dwp G P x ⟨(v, .at (.row k 0)) :: t, (k, .row e s []) :: m⟩ Q
    | _ => dwp G P x ⟨t, m⟩ Q) := (rfl)
@[simp] theorem w_weak (ks : List Nat) (x : LC) : dwp G P (.weak ks x) ⟨t, m⟩ Q = ∃ st', Leq ks st' ⟨t, m⟩ ∧ dwp G P x st' Q := (rfl)
@[simp] theorem w_tailW (ks : List Nat) (x : LC) : dwp G P (.tailW ks x) ⟨t, m⟩ Q = dwp G P x ⟨t, m⟩ fun e st' => match e with
    | .norm => ∃ st'', Leq ks st'' st' ∧ Q .norm st''
    | .exit i => Q (.exit i) st'
    | .ret => Q .ret st' := (rfl)
@[simp] theorem w_ownC (k i j e s : Nat) (x : LC) : dwp G P (.ownC k i j e s x) ⟨t, m⟩ Q = match St.blk ⟨t, m⟩ k with
    | some (.var cs) => match cs[i]? with
      | some .nils => St.blk ⟨t, m⟩ j = none ∧ dwp G P x ⟨t, (k, .var (cs.set i (.row j 0))) :: (j, .row e s []) :: m⟩ Q
      | _ => dwp G P x ⟨t, m⟩ Q
    | _ => dwp G P x ⟨t, m⟩ Q := (rfl)
/-- A loop: an invariant and a measure. -/
theorem w_loop {G : World → Prop} {P : Program} {x : LC} {st : St} {Q : LE → St → Prop} (I : St → Prop) (μ : St → Nat) (h0 : I st) (h : ∀ st', I st' → dwp G P x st' fun e st'' => match e with
    | .norm => I st'' ∧ μ st'' < μ st'
    | .exit i => Q (.exit i) st''
    | .ret => Q .ret st'') : dwp G P (.loop x) st Q := ⟨I, μ, h0, h⟩
end

theorem dop_mono {G : World → Prop} {P : Program} {o : LOp} {st : St} {K K' : St → Prop} (hK : ∀ st, K st → K' st) (h : dop G P o st K) : dop G P o st K' := by
  unfold dop at h ⊢
  split
  · rename_i hg
    rw [hg] at h
    exact dsem_mono (fun l us hk => hK _ hk) h
  · rename_i g b hg
    rw [hg] at h
    simp only at h
    split
    · rename_i q hq
      rw [hq] at h
      simp only at h
      split
      · rename_i e
        rw [if_pos e] at h
        exact dsem_mono (fun l us hk => hK _ hk) h
      · rename_i e
        rw [if_neg e] at h
        exact hK _ h
    · rename_i hq
      rw [hq] at h
      exact hK _ h
    · rename_i hne hno
      split at h
      · rename_i q hq; exact absurd hq (hne q)
      · rename_i hq; exact absurd hq hno
      · exact h
theorem dops_mono {G : World → Prop} {P : Program} {K K' : St → Prop} (hK : ∀ st, K st → K' st) : ∀ (los : List LOp) (st : St), dops G P los st K → dops G P los st K'
  | [], st, h => hK st h
  | _ :: r, _, h => dop_mono (fun st' h' => dops_mono hK r st' h') h
theorem ddraw_mono {G : World → Prop} {P : Program} {anc : List Nat} {K K' : St → Prop} (hK : ∀ st, K st → K' st) : ∀ (los : List LOp) (i : Nat) (log : List (Nat × List Nat × List Nat)) (st : St), ddraw G P anc i log los st K → ddraw G P anc i log los st K'
  | [], i, log, st, h => hK st h
  | o :: r, i, log, st, h => by
    unfold ddraw at h ⊢
    split
    · rename_i hg
      rw [hg] at h
      exact dsem_mono (fun l us hk => ⟨hk.1, ddraw_mono hK r _ _ _ hk.2⟩) h
    · rename_i g b hg
      rw [hg] at h
      simp only at h
      split
      · rename_i q hq
        rw [hq] at h
        simp only at h
        split
        · rename_i e
          rw [if_pos e] at h
          exact dsem_mono (fun l us hk => ⟨hk.1, ddraw_mono hK r _ _ _ hk.2⟩) h
        · rename_i e
          rw [if_neg e] at h
          exact ddraw_mono hK r _ _ _ h
      · rename_i hq
        rw [hq] at h
        exact ddraw_mono hK r _ _ _ h
      · rename_i hne hno
        split at h
        · rename_i q hq; exact absurd hq (hne q)
        · rename_i hq; exact absurd hq hno
        · exact h
theorem dwp_mono (G : World → Prop) (P : Program) : ∀ (x : LC) (st : St) (Q Q' : LE → St → Prop), (∀ e st, Q e st → Q' e st) → dwp G P x st Q → dwp G P x st Q'
  | .skip, st, Q, Q', h, hx => h _ _ hx
  | .dead, st, Q, Q', h, hx => hx.elim
  | .ret, st, Q, Q', h, hx => h _ _ hx
  | .exit id, st, Q, Q', h, hx => h _ _ hx
  | .region los, st, Q, Q', h, hx => dops_mono (h .norm) los st hx
  | .draw anc los, st, Q, Q', h, hx => ddraw_mono (h .norm) los _ _ st hx
  | .seq x y, st, Q, Q', h, hx => dwp_mono G P x st _ _ (fun e st' hq => by
      cases e with
      | norm => exact dwp_mono G P y st' Q Q' h hq
      | exit i => exact h _ _ hq
      | ret => exact h _ _ hq) hx
  | .cond c x y, st, Q, Q', h, hx => by
    simp only [dwp] at hx ⊢
    split
    · rename_i q hq
      rw [hq] at hx
      simp only at hx
      split
      · rename_i e; rw [if_pos e] at hx; exact dwp_mono G P x st Q Q' h hx
      · rename_i e; rw [if_neg e] at hx; exact dwp_mono G P y st Q Q' h hx
    · rename_i hne
      split at hx
      · rename_i q hq; exact absurd hq (hne q)
      · exact hx
  | .block id x, st, Q, Q', h, hx => dwp_mono G P x st _ _ (fun e st' hq => by
      cases e with
      | norm => exact h _ _ hq
      | exit i =>
        simp only at hq ⊢
        split
        · rename_i e; rw [if_pos e] at hq; exact h _ _ hq
        · rename_i e; rw [if_neg e] at hq; exact h _ _ hq
      | ret => exact h _ _ hq) hx
  | .loop x, st, Q, Q', h, hx => by
    obtain ⟨I, μ, h0, hr⟩ := hx
    exact ⟨I, μ, h0, fun st' hi => dwp_mono G P x st' _ _ (fun e st'' hq => by
      cases e with
      | norm => exact hq
      | exit i => exact h _ _ hq
      | ret => exact h _ _ hq) (hr st' hi)⟩
  | .keep ts ks x, st, Q, Q', h, hx => ⟨hx.1, dwp_mono G P x _ Q Q' h hx.2⟩
  | .own t k e s x, st, Q, Q', h, hx => by
    simp only [dwp] at hx ⊢
    split
    · rename_i ht
      rw [ht] at hx
      exact ⟨hx.1, dwp_mono G P x _ Q Q' h hx.2⟩
    · rename_i hne
      split at hx
      · rename_i ht; exact absurd ht hne
      · exact dwp_mono G P x _ Q Q' h hx
  | .lift t x, st, Q, Q', h, hx => by
    simp only [dwp] at hx ⊢
    split
    · rename_i d hd
      rw [hd] at hx
      exact dwp_mono G P x _ Q Q' h hx
    · rename_i hd
      rw [hd] at hx
      exact hx
  | .liftB k x, st, Q, Q', h, hx => by
    simp only [dwp] at hx ⊢
    split
    · rename_i bl hbl
      rw [hbl] at hx
      simp only at hx
      refine ⟨hx.1, ?_⟩
      have hx := hx.2
      split
      · rename_i bl' hl
        rw [hl] at hx
        exact dwp_mono G P x _ Q Q' h hx
      · rename_i hl
        rw [hl] at hx
        exact hx
    · rename_i hbl
      rw [hbl] at hx
      exact hx
  | .weak ks x, st, Q, Q', h, hx => let ⟨st', h1, h2⟩ := hx; ⟨st', h1, dwp_mono G P x _ Q Q' h h2⟩
  | .tailW ks x, st, Q, Q', h, hx => dwp_mono G P x st _ _ (fun e st' hq => by
      cases e with
      | norm => obtain ⟨st'', h1, h2⟩ := hq; exact ⟨st'', h1, h _ _ h2⟩
      | exit i => exact h _ _ hq
      | ret => exact h _ _ hq) hx
  | .ownC k i j e s x, st, Q, Q', h, hx => by
    simp only [dwp] at hx ⊢
    split
    · rename_i cs hk
      rw [hk] at hx
      simp only at hx
      split
      · rename_i hi
        rw [hi] at hx
        exact ⟨hx.1, dwp_mono G P x _ Q Q' h hx.2⟩
      · rename_i hne
        split at hx
        · rename_i hi; exact absurd hi hne
        · exact dwp_mono G P x _ Q Q' h hx
    · rename_i hne
      split at hx
      · rename_i cs hk; exact absurd hk (hne cs)
      · exact dwp_mono G P x _ Q Q' h hx
  | .tail ts ks x, st, Q, Q', h, hx => dwp_mono G P x st _ _ (fun e st' hq => by
      cases e with
      | norm => exact ⟨hq.1, h _ _ hq.2⟩
      | exit i => exact h _ _ hq
      | ret => exact h _ _ hq) hx
/-- A loop whose states are told by a parameter. -/
theorem w_loopP {α : Type} {G : World → Prop} {P : Program} {x : LC} {st : St} {Q : LE → St → Prop} (S : α → St) (I : α → Prop) (μ : α → Nat) (a0 : α) (hs : st = S a0) (h0 : I a0) (h : ∀ a, I a → dwp G P x (S a) fun e st'' => match e with
    | .norm => ∃ a', st'' = S a' ∧ I a' ∧ μ a' < μ a
    | .exit i => Q (.exit i) st''
    | .ret => Q .ret st'') : dwp G P (.loop x) st Q := by
  let good (st : St) (n : Nat) : Prop := ∃ a, st = S a ∧ I a ∧ μ a = n
  classical
  let least (st : St) : Nat := if h : ∃ m, good st m ∧ ∀ m', good st m' → m ≤ m' then Classical.choose h else 0
  have hex : ∀ n st, good st n → ∃ m, good st m ∧ ∀ m', good st m' → m ≤ m' := by
    intro n st hn
    induction n using Nat.strongRecOn with
    | _ n ih =>
      by_cases hlt : ∃ m, m < n ∧ good st m
      · obtain ⟨m, h1, h2⟩ := hlt
        exact ih m h1 h2
      · refine ⟨n, hn, fun m' hm' => ?_⟩
        rcases Nat.lt_or_ge m' n with h | h
        · exact absurd ⟨m', h, hm'⟩ hlt
        · exact h
  have hleast : ∀ st n, good st n → good st (least st) ∧ least st ≤ n := by
    intro st n hn
    have h := hex n st hn
    have e : least st = Classical.choose h := dif_pos h
    rw [e]
    exact ⟨(Classical.choose_spec h).1, (Classical.choose_spec h).2 n hn⟩
  refine w_loop (fun st => ∃ n, good st n) least ⟨_, a0, hs, h0, rfl⟩ ?_
  rintro st' ⟨n, hn⟩
  obtain ⟨⟨a, e1, e2, e3⟩, _⟩ := hleast st' n hn
  subst e1
  refine dwp_mono G P x _ _ _ (fun e st'' hq => ?_) (h a e2)
  cases e with
  | norm =>
    obtain ⟨a', g1, g2, g3⟩ := hq
    have hg : good st'' (μ a') := ⟨a', g1, g2, rfl⟩
    exact ⟨⟨_, hg⟩, by have := (hleast st'' _ hg).2; omega⟩
  | exit i => exact hq
  | ret => exact hq
/-- Shorthands. -/
abbrev L.n (k : Int) : L := .at (.d (.int .i64 k))
abbrev L.bo (q : Bool) : L := .at (.d (.bool q))
abbrev L.s (l : List UInt8) : L := .at (.d (.str l))
abbrev L.sl (rows : List (List D)) : L := .at (.d (.slice rows))
theorem w_outT (t : List (Nat × L)) (m : List (Nat × Blk)) (i : Nat) : outR ⟨t, m⟩ (i, none) = (getL t i).pub (St.blk ⟨t, m⟩) := by
  show (St.get ⟨t, m⟩ i).pub _ = _
  rw [w_get]
theorem w_outC (t : List (Nat × L)) (m : List (Nat × Blk)) (i : Nat) (n : Option Nat) : outR ⟨t, m⟩ (i, some n) = (match n, lies (St.blk ⟨t, m⟩) (getL t i) with
    | none, some (x :: _) => x.pub (St.blk ⟨t, m⟩)
    | some n, some cs => if n ≤ cs.length then L.pub (St.blk ⟨t, m⟩) (.agg (cs.take n)) else none
    | _, _ => none) := by
  show (match n, lies _ (St.get ⟨t, m⟩ i) with
    | none, some (x :: _) => x.pub (St.blk ⟨t, m⟩)
    | some n, some cs => if n ≤ cs.length then L.pub (St.blk ⟨t, m⟩) (.agg (cs.take n)) else none
    | _, _ => none) = _
  rw [w_get]
theorem w_out1 (st : St) (r : Nat × Option (Option Nat)) : outD [r] st = outR st r := rfl
theorem w_out2 (st : St) (r r' : Nat × Option (Option Nat)) : outD [r, r'] st = (pubs (outR st) [r, r']).map .tup := rfl
theorem w_out3 (st : St) (r r' r'' : Nat × Option (Option Nat)) : outD [r, r', r''] st = (pubs (outR st) [r, r', r'']).map .tup := rfl
/- the rules -/
attribute [simp] Nat.testBit_eq_decide_div_mod_eq
attribute [simp] w_outT w_outC w_out1 w_out2 w_out3 w_closed
attribute [simp] dsem.eq_1 dsem.eq_2 dsem.eq_3 dsem.eq_4 dsem.eq_5 dsem.eq_6 dsem.eq_7 dsem.eq_8 dsem.eq_9 dsem.eq_10 dsem.eq_11 dsem.eq_12 dsem.eq_13 dsem.eq_14 dsem.eq_15 dsem.eq_16 dsem.eq_17 dsem.eq_18 dsem.eq_19 dsem.eq_20 dsem.eq_21 dsem.eq_22 dsem.eq_23 dsem.eq_24 dsem.eq_25 dsem.eq_26 dsem.eq_27 dsem.eq_28 dsem.eq_29 dsem.eq_30 dsem.eq_31 dsem.eq_32 dsem.eq_33 dsem.eq_34 dsem.eq_35 dsem.eq_36 dsem.eq_37 dsem.eq_38 dsem.eq_39 dsem.eq_40 dsem.eq_41 dsem.eq_42 dsem.eq_43 dsem.eq_44 dsem.eq_45 dsem.eq_46 dsem.eq_47 dsem.eq_48 dsem.eq_49 dsem.eq_50 dsem.eq_51 dsem.eq_52 dsem.eq_53 lies.eq_1 lies.eq_2 lies.eq_3 lies.eq_4 elems.eq_1 elems.eq_2 elems.eq_3 elems.eq_4 binD.eq_1 binD.eq_2 binD.eq_3 intBin.eq_1 intBin.eq_2 intBin.eq_3 intBin.eq_4 intBin.eq_5 intBin.eq_6 intBin.eq_7 intBin.eq_8 intBin.eq_9 intBin.eq_10 intBin.eq_11 intBin.eq_12 intBin.eq_13 strBin.eq_1 strBin.eq_2 strBin.eq_3 strBin.eq_4 strBin.eq_5 strBin.eq_6 strBin.eq_7 strBin.eq_8 L.cells.eq_1 L.cells.eq_2 L.cells.eq_3 L.cells.eq_4 L.cells.eq_5 L.cells.eq_6 L.parts.eq_1 L.parts.eq_2 L.parts.eq_3 A.one.eq_1 A.one.eq_2 A.one.eq_3 A.one.eq_4 splice fillL.eq_1 fillL.eq_2 sames.eq_1 sames.eq_2 sames.eq_3 D.same.eq_1 D.same.eq_2 D.same.eq_3 D.same.eq_4 capC.eq_1 capC.eq_2 capC.eq_3 bound.eq_1 bound.eq_2 pubs.eq_1 pubs.eq_2 A.pub.eq_1 A.pub.eq_2 A.pub.eq_3 A.pub.eq_4 A.pub.eq_5 A.pub.eq_6 A.pub.eq_7 A.pub.eq_8 A.pub.eq_9 A.pub0.eq_1 A.pub0.eq_2 A.pub0.eq_3 C.pub.eq_1 C.pub.eq_2 L.pub.eq_1 L.pub.eq_2 L.pub.eq_3 Blk.frz.eq_1 Blk.frz.eq_2 Blk.frz.eq_3 Blk.frz.eq_4 Blk.frz.eq_5 frz.eq_1 frz.eq_2 D.flat.eq_1 D.flat.eq_2 D.flat.eq_3 D.plain.eq_1 D.plain.eq_2 D.plain.eq_3 D.plain.eq_4 D.plain.eq_5 D.plain.eq_6 L.slots.eq_1 L.slots.eq_2 L.slots.eq_3 M.slots.eq_1 M.slots.eq_2 A.slots.eq_1 A.slots.eq_2 A.slots.eq_3 A.slots.eq_4 A.slots.eq_5 A.slots.eq_6 A.slots.eq_7 C.slots.eq_1 C.slots.eq_2 Blk.slots.eq_1 Blk.slots.eq_2 Blk.slots.eq_3 Blk.slots.eq_4 Blk.slots.eq_5 picks.eq_1 picks.eq_2 okLog rsOf LK.xs.eq_1 LK.xs.eq_2 LK.xs.eq_3 LK.xs.eq_4 LK.xs.eq_5 LK.xs.eq_6 LK.xs.eq_7 LK.xs.eq_8 LK.xs.eq_9 LK.xs.eq_10 LK.xs.eq_11 LK.xs.eq_12 LK.xs.eq_13 LK.xs.eq_14 LK.xs.eq_15 LK.xs.eq_16 LK.xs.eq_17 LK.xs.eq_18 LK.xs.eq_19 LK.xs.eq_20 LK.xs.eq_21 LK.xs.eq_22 LK.xs.eq_23 LK.xs.eq_24 LK.xs.eq_25 LK.xs.eq_26 LK.xs.eq_27 LK.xs.eq_28 LK.xs.eq_29 LK.xs.eq_30 LK.xs.eq_31 LK.xs.eq_32 LK.xs.eq_33 LK.xs.eq_34 LK.xs.eq_35 LK.xs.eq_36 LK.xs.eq_37 LK.xs.eq_38 LK.xs.eq_39 LK.xs.eq_40 LK.xs.eq_41 LK.xs.eq_42 LK.xs.eq_43 LK.xs.eq_44 LK.xs.eq_45 LK.xs.eq_46 LK.xs.eq_47 LK.xs.eq_48 LK.xs.eq_49 LK.xs.eq_50 LK.xs.eq_51 LK.xs.eq_52 LK.xs.eq_53 LK.own.eq_1 LK.own.eq_2 LK.own.eq_3 LK.own.eq_4 LK.own.eq_5 LK.own.eq_6 LK.own.eq_7 LK.own.eq_8 LK.own.eq_9 LK.own.eq_10 initL.eq_1 initL.eq_2 A.mk C.pub0.eq_1 C.pub0.eq_2 liftBlk.eq_1 liftBlk.eq_2 closedS shut sharedOk grab.eq_1 grab.eq_2 C.toL.eq_1 C.toL.eq_2 initT.eq_1 initT.eq_2 LK.deep.eq_1 LK.deep.eq_2 nest A.pub2 L.pub2.eq_1 L.pub2.eq_2 M.toL.eq_1 M.toL.eq_2 L.toM.eq_1 L.toM.eq_2 getKV.eq_1 getKV.eq_2 putKV.eq_1 putKV.eq_2
end Go.Proofs.YtpfhfokfambdaaaGreatDoor.Ev

/-! A run of data-level code: what it finds, the walk finds. -/
set_option linter.unusedSimpArgs false
namespace Go.Proofs.YtpfhfokfambdaaaGreatDoor.Ev
open Go.RowKit (Below)

def gd {α : Type} (b : Bool) (x : Option α) : Option α := match b with
  | true => x
  | false => none
theorem gd_some {α : Type} {b : Bool} {x : Option α} {y : α} (h : gd b x = some y) : b = true ∧ x = some y := by
  cases b
  · cases h
  · exact ⟨rfl, h⟩
theorem gd_iff {α : Type} {b : Bool} {x : Option α} {y : α} : gd b x = some y ↔ b = true ∧ x = some y := by
  cases b <;> simp [gd]
/-- What an operation does that calls nothing and draws nothing. -/
def dget (lk : LK) (ev : X → L) (blk : Nat → Option Blk) : Option (L × List (Nat × Blk)) :=
  match lk with
  | .mov x => some ((ev x), [])
  | .pick c a b => match ev c with
    | .at (.d (.bool q)) => some ((if q then ev a else ev b), [])
    | _ => none
  | .alloc k z => gd (((blk k).isNone : Bool)) <| some ((.at (.loc k 0)), [(k, .var z)])
  | .box k x => match (ev x).cells with
    | some cs => gd (((blk k).isNone : Bool)) <| some ((.at (.loc k 0)), [(k, .var cs)])
    | none => none
  | .build z ps => match fillL ev ps z with
    | some cs => some ((.agg cs), [])
    | none => none
  | .buildS k e s n ps => match fillL ev ps (List.replicate (n * s) A.any) with
    | some cs => gd (((blk k).isNone : Bool)) <| some ((.at (.row k n)), [(k, .row e s ((List.range n).map fun i => (cs.drop (i * s)).take s))])
    | none => none
  | .load n x => match lies blk (ev x) with
    | some cs => match n with
      | none => match cs with
        | a :: _ => some ((.at a), [])
        | [] => none
      | some n => gd ((decide (n ≤ cs.length) : Bool)) <| some ((.agg (cs.take n)), [])
    | none => none
  | .store n x v => match (ev v).cells with
    | some cs => gd ((decide (cs.length = n) : Bool) && (decide (cs.all A.one = true) : Bool)) <| match ev x with
      | .at (.loc k off) => match blk k with
        | some (.var old) => gd ((decide (off + n ≤ old.length) : Bool)) <| some ((.at .any), [(k, .var (splice off cs old))])
        | _ => none
      | .at (.rloc k m s i o) => match blk k with
        | some (.row e s' rs) => gd ((decide (m = rs.length) : Bool) && (decide (s' = s) : Bool) && (decide (i < m) : Bool) && (decide (o + n ≤ s) : Bool) && (decide (0 < n) : Bool)) <| some ((.at .any), [(k, .row e s' (rs.modify i (splice o cs)))])
        | _ => none
      | _ => none
    | none => none
  | .nilck x => match ev x with
    | .at (.d (.ref _)) | .at (.loc ..) | .at (.rloc ..) | .at (.d (.fn ..)) | .at (.fn ..) => some ((ev x), [])
    | _ => none
  | .bin op x y => match binD op (ev x) (ev y) with
    | some d => some ((.at (.d d)), [])
    | none => none
  | .eqAgg neg ks x y => match (ev x).parts, (ev y).parts with
    | some a, some b => match sames ks a b with
      | some q => some ((.at (.d (.bool (q != neg)))), [])
      | none => none
    | _, _ => none
  | .beq neg x y => match ev x, ev y with
    | .at (.d (.bool a)), .at (.d (.bool b)) => some ((.at (.d (.bool ((a == b) != neg)))), [])
    | _, _ => none
  | .isNil neg x y => match ev x, ev y with
    | .at (.d .nili), .at (.d .nili) => some ((.at (.d (.bool (true != neg)))), [])
    | .at (.d .ifc), .at (.d .nili) => some ((.at (.d (.bool (false != neg)))), [])
    | _, _ => none
  | .not x => match ev x with
    | .at (.d (.bool q)) => some ((.at (.d (.bool !q))), [])
    | _ => none
  | .neg x => match ev x with
    | .at (.d (.int k n)) => some ((.at (.d (.int k (k.wrap (0 - n))))), [])
    | _ => none
  | .conv k x => match ev x with
    | .at (.d (.int _ n)) => some ((.at (.d (.int k (k.wrap n)))), [])
    | _ => none
  | .convS x => match ev x with
    | .at (.d (.str s)) => some ((.at (.d (.str s))), [])
    | _ => none
  | .bytes x => match ev x with
    | .at (.d (.str s)) => some ((.at (.d (.slice (s.map fun b => [D.int .u8 (b.toNat : Int)])))), [])
    | _ => none
  | .fn f xs => match pubs (fun x => capC (ev x)) xs with
    | some cs => some ((.at (A.mk f cs)), [])
    | none => none
  | .fieldA off x => match ev x with
    | .at (.d (.ref cells)) => some ((.at (.d (.ref (cells.drop off)))), [])
    | .at (.loc k o) => some ((.at (.loc k (o + off))), [])
    | .at (.rloc k n s i o) => some ((.at (.rloc k n s i (o + off))), [])
    | _ => none
  | .field off n x => match (ev x).parts with
    | some cs => match n with
      | none => match cs.drop off with
        | a :: _ => some ((.at a), [])
        | [] => none
      | some n => gd ((decide (off + n ≤ cs.length) : Bool)) <| some ((.agg ((cs.drop off).take n)), [])
    | none => none
  | .idxA s x i => match ev i with
    | .at (.d (.int _ n)) => gd ((decide (0 ≤ n) : Bool)) <| match ev x with
      | .at (.d (.slice rows)) => match rows[n.toNat]? with
        | some r => gd ((decide (r.length = s) : Bool)) <| some ((.at (.d (.ref r))), [])
        | none => none
      | .at (.row k m) => match blk k with
        | some (.row _ s' rs) => gd ((decide (m = rs.length) : Bool) && (decide (s' = s) : Bool) && (decide (n.toNat < m) : Bool)) <| some ((.at (.rloc k m s n.toNat 0)), [])
        | some (.frow rs) => gd ((decide (m = rs.length) : Bool)) <| match rs[n.toNat]? with
          | some r => gd ((decide (r.length = s) : Bool)) <| some ((.at (.d (.ref r))), [])
          | none => none
        | _ => none
      | _ => none
    | _ => none
  | .idxAA len s x i => match ev i with
    | .at (.d (.int _ n)) => gd ((decide (0 ≤ n) : Bool) && (decide (n < len) : Bool)) <| match ev x with
      | .at (.d (.ref cells)) => some ((.at (.d (.ref (cells.drop (n.toNat * s))))), [])
      | .at (.loc k o) => some ((.at (.loc k (o + n.toNat * s))), [])
      | _ => none
    | _ => none
  | .idx len s n x i => match ev i with
    | .at (.d (.int _ j)) => gd ((decide (0 ≤ j) : Bool) && (decide (j < len) : Bool)) <| match (ev x).parts with
      | some cs => match n with
        | none => match cs.drop (j.toNat * s) with
          | a :: _ => some ((.at a), [])
          | [] => none
        | some n => gd ((decide (j.toNat * s + n ≤ cs.length) : Bool)) <| some ((.agg ((cs.drop (j.toNat * s)).take n)), [])
      | none => none
    | _ => none
  | .idxS x i => match ev x, ev i with
    | .at (.d (.str s)), .at (.d (.int _ n)) => gd ((decide (0 ≤ n) : Bool)) <| match s[n.toNat]? with
      | some b => some ((.at (.d (.int .u8 (b.toNat : Int)))), [])
      | none => none
    | _, _ => none
  | .slcS x lo hi => match ev x with
    | .at (.d (.str s)) => match bound ev 0 lo, bound ev s.length hi with
      | some l, some h => gd ((decide (l ≤ h) : Bool) && (decide (h ≤ s.length) : Bool)) <| some ((.at (.d (.str ((s.take h).drop l)))), [])
      | _, _ => none
    | _ => none
  | .slcL s x lo hi => match ev x with
    | .at (.d (.slice rows)) => match bound ev 0 lo, bound ev rows.length hi with
      | some l, some h => gd ((decide (l ≤ h) : Bool) && (decide (h ≤ rows.length) : Bool) && (decide (rows.all (fun r => r.length == s) = true) : Bool)) <| some ((.at (.d (.slice ((rows.take h).drop l)))), [])
      | _, _ => none
    | .at .nils => match bound ev 0 lo, bound ev 0 hi with
      | some l, some h => gd ((decide (l = 0) : Bool) && (decide (h = 0) : Bool)) <| some ((.at .nils), [])
      | _, _ => none
    | _ => none
  | .ext x i => match ev x with
    | .at (.d (.tup ds)) => match ds[i]? with
      | some d => some ((.at (.d d)), [])
      | none => none
    | .tup ms => match ms[i]? with
      | some m => some (m.toL, [])
      | none => none
    | _ => none
  | .lenC n => some ((.at (.d (.int .i64 (n : Int)))), [])
  | .lenS x => match ev x with
    | .at (.d (.str s)) => some ((.at (.d (.int .i64 (s.length : Int)))), [])
    | _ => none
  | .lenL x => match ev x with
    | .at (.d (.slice rows)) => some ((.at (.d (.int .i64 (rows.length : Int)))), [])
    | .at (.row k n) => match blk k with
      | some (.row _ _ rs) => gd ((decide (n = rs.length) : Bool)) <| some ((.at (.d (.int .i64 (n : Int)))), [])
      | some (.frow rs) => gd ((decide (n = rs.length) : Bool)) <| some ((.at (.d (.int .i64 (n : Int)))), [])
      | _ => none
    | .at .nils => some ((.at (.d (.int .i64 0))), [])
    | _ => none
  | .append e s x y => match ev x, elems blk s (ev y) with
    | .at (.row k n), some news => match blk k with
      | some (.row e' s' rs) => gd ((decide (n = rs.length) : Bool) && (decide (e' = e) : Bool) && (decide (s' = s) : Bool) && (decide (news.all (fun r => r.length == s && r.all A.one) = true) : Bool) && (decide (n + news.length ≤ 4294967296) : Bool) && !((ev y).slots.contains k)) <|
          some ((.at (.row k (n + news.length))), [(k, .row e s (rs ++ news))])
      | _ => none
    | _, _ => none
  | .max2 x y => match ev x, ev y with
    | .at (.d (.int k a)), .at (.d (.int _ b)) => some ((.at (.d (.int k (if b > a then b else a)))), [])
    | _, _ => none
  | .min2 x y => match ev x, ev y with
    | .at (.d (.int k a)), .at (.d (.int _ b)) => some ((.at (.d (.int k (if b < a then b else a)))), [])
    | _, _ => none
  | .slcA n s x => match ev x with
    | .at (.loc k 0) => match blk k with
      | some (.var cs) => match pubs A.pub0 cs with
        | some ds => gd ((decide (ds.length = n * s) : Bool)) <| some ((.at (.d (.slice ((List.range n).map fun i => (ds.drop (i * s)).take s)))), [(k, .fvar ds)])
        | none => none
      | _ => none
    | _ => none
  | .mkMap k => gd (((blk k).isNone : Bool)) <| some ((.at (.map k)), [(k, .mp [])])
  | .mapUpd x key v => match ev x, ev key, ev v with
    | .at (.map k), .at (.d (.str s)), .at a => gd ((decide (a.one = true) : Bool)) <| match blk k with
      | some (.mp kvs) => some ((.at .any), [(k, .mp (putKV kvs s a))])
      | _ => none
    | _, _, _ => none
  | .lookup ok z x key => match ev x, ev key with
    | .at (.map k), .at (.d (.str s)) => match blk k with
      | some (.mp kvs) => match getKV kvs s with
        | some a => some ((if ok then .tup [.at a, .at (.d (.bool true))] else .at a), [])
        | none => some ((if ok then .tup [.at z, .at (.d (.bool false))] else .at z), [])
      | _ => none
    | _, _ => none
  | .rangeM k x => match ev x with
    | .at (.map j) => match blk j with
      | some (.mp kvs) => gd (((blk k).isNone : Bool)) <| some ((.at (.loc k 0)), [(k, .iter j kvs.length [])])
      | _ => none
    | _ => none
  | .entryM x => match ev x with
    | .at (.loc k 0) => match blk k with
      | some (.iter j n seen) => match blk j with
        | some (.mp kvs) => gd ((decide (kvs.length = n) : Bool)) <| match seen.getLast?.bind fun i => kvs[i]? with
          | some p => some ((.tup [.at (.d (.str p.1)), .at p.2]), [])
          | none => none
        | _ => none
      | _ => none
    | _ => none
  | .bind f x => match ev x with
    | .at (.loc k off) => some ((.at (.bnd f k off)), [])
    | _ => none
  | .appN k e s x y => match ev x, elems blk s (ev y) with
    | .at .nils, some news => gd (((blk k).isNone : Bool) && (decide (news.all (fun r => r.length == s && r.all A.one) = true) : Bool) && (decide (news.length ≤ 4294967296) : Bool)) <| some ((.at (.row k news.length)), [(k, .row e s news)])
    | .at (.row j n), some news => match blk j with
      | some (.row e' s' rs) => gd ((decide (n = rs.length) : Bool) && (decide (e' = e) : Bool) && (decide (s' = s) : Bool) && (decide (news.all (fun r => r.length == s && r.all A.one) = true) : Bool) && (decide (n + news.length ≤ 4294967296) : Bool) && !((ev y).slots.contains j)) <|
          some ((.at (.row j (n + news.length))), [(j, .row e s (rs ++ news))])
      | _ => none
    | _, _ => none
  | .isNilS neg x => match ev x with
    | .at .nils => some (.at (.d (.bool (true != neg))), [])
    | .at (.d (.slice (_ :: _))) => some (.at (.d (.bool (false != neg))), [])
    | _ => none
  | .nextM x => match ev x with
    | .at (.loc k 0) => match blk k with
      | some (.iter j n seen) => match blk j with
        | some (.mp kvs) => gd (decide (kvs.length = n)) <| match (List.range n).filter fun i => !seen.contains i with
          | [] => some (.at (.d (.tup [.bool false])), [])
          | [i] => match kvs[i]? with
            | some p => some (.tup [.at (.d (.bool true)), .at (.d (.str p.1)), .at p.2], [(k, .iter j n (seen ++ [i]))])
            | none => none
          | _ => none
        | _ => none
      | _ => none
    | _ => none
  | _ => none

theorem mem_unseen {n : Nat} {seen : List Nat} {i : Nat} : i ∈ (List.range n).filter (fun i => !seen.contains i) ↔ i < n ∧ ¬ i ∈ seen := by
  simp
set_option maxHeartbeats 1000000 in
theorem dget_sound {G : World → Prop} {P : Program} {lk : LK} {ev : X → L} {blk : Nat → Option Blk} {l : L} {us : List (Nat × Blk)} {K : L → List (Nat × Blk) → Prop} (h : dget lk ev blk = some (l, us)) (hK : K l us) : dsem G P lk ev blk K := by
  cases lk
  case nextM x =>
    simp only [dget] at h
    simp only [dsem]
    repeat' (split at h)
    all_goals simp only [gd_iff, Option.some.injEq, Prod.mk.injEq, reduceCtorEq, and_false, Bool.and_eq_true, decide_eq_true_eq, Option.isNone_iff_eq_none, Bool.not_eq_true'] at h
    · rename_i e1 _ j n seen e2 _ kvs e3 _ e4
      obtain ⟨h1, rfl, rfl⟩ := h
      simp only [e1, e2, e3]
      refine ⟨h1, fun _ => hK, fun i p hp hi => ?_⟩
      have h3 := mem_unseen (n := kvs.length) (seen := seen) (i := i)
      rw [h1, e4] at h3
      exact absurd (h3.2 ⟨by rw [← h1]; exact (List.getElem?_eq_some_iff.1 hp).1, hi⟩) (by simp)
    · rename_i e1 _ j n seen e2 _ kvs e3 _ i0 e4 _ p0 e5
      obtain ⟨h1, rfl, rfl⟩ := h
      simp only [e1, e2, e3]
      refine ⟨h1, fun hall => ?_, fun i p hp hi => ?_⟩
      · have h3 := mem_unseen (n := n) (seen := seen) (i := i0)
        rw [e4] at h3
        have h4 := h3.1 (by simp)
        exact absurd (hall _ h4.1) h4.2
      · have h3 := mem_unseen (n := n) (seen := seen) (i := i)
        rw [e4] at h3
        have h4 := List.mem_singleton.1 (h3.2 ⟨by rw [← h1]; exact (List.getElem?_eq_some_iff.1 hp).1, hi⟩)
        subst h4
        rw [e5] at hp
        cases hp
        exact hK
  case isNilS ng x =>
    simp only [dget] at h
    simp only [dsem]
    repeat' (split at h)
    all_goals simp only [Option.some.injEq, Prod.mk.injEq, reduceCtorEq] at h
    · rename_i e1
      obtain ⟨rfl, rfl⟩ := h
      simp only [e1]
      exact hK
    · rename_i e1
      obtain ⟨rfl, rfl⟩ := h
      simp only [e1]
      first | exact hK | exact ⟨fun h => nomatch h, hK⟩ | simpa using hK
  case call => simp [dget] at h
  case callv => simp [dget] at h
  case callS => simp [dget] at h
  case callvS => simp [dget] at h
  case callF => simp [dget] at h
  case callD => simp [dget] at h
  case callvD => simp [dget] at h
  case cloneR => simp [dget] at h
  case insR => simp [dget] at h
  all_goals simp only [dget] at h
  all_goals simp only [dsem]
  all_goals repeat' (split at h)
  all_goals simp only [gd_iff, Option.some.injEq, Prod.mk.injEq, reduceCtorEq, and_false, Bool.and_eq_true, decide_eq_true_eq, Option.isNone_iff_eq_none, Bool.not_eq_true'] at h
  all_goals (first
    | (obtain ⟨rfl, rfl⟩ := h)
    | (obtain ⟨h1, rfl, rfl⟩ := h)
    | (obtain ⟨h1, h2, rfl, rfl⟩ := h)
    | (obtain ⟨h1, h2, h3, rfl, rfl⟩ := h))
  all_goals (first
    | exact hK
    | (simp only [*]; done)
    | (simp only [*]; exact hK)
    | (simp [*]; done)
    | (simp_all; done)
    | (split <;> first | exact hK | (exfalso; simp_all; done))
    | skip)
  · rename_i e1 _ _ _ _ _ _ e2 _ _ _ _ e3
    simp only [e1, e2, e3]
    exact ⟨h1.1, h1.2, h2.1.1.1.1, h2.1.1.1.2, h2.1.1.2, h2.1.2, h2.2, hK⟩
  · rename_i e1 _ _ _ e2 _ _ _ _ e3
    simp only [e1, e2, e3]
    exact ⟨h1, h2.1.1, h2.1.2, h2.2, hK⟩
  · rename_i e1 e2 _ _ _ _ e3
    simp only [e1, e2, e3]
    refine ⟨h1.1.1.1.1.1, h1.1.1.1.1.2, h1.1.1.1.2, h1.1.1.2, h1.1.2, ?_, hK⟩
    have := h1.2
    simpa using this
  · rename_i e1 e2 _ _ _ _ e3
    simp only [e1, e2, e3]
    refine ⟨h1.1.1.1.1.1, h1.1.1.1.1.2, h1.1.1.1.2, h1.1.1.2, h1.1.2, ?_, hK⟩
    have := h1.2
    simpa using this
end Go.Proofs.YtpfhfokfambdaaaGreatDoor.Ev

/-! Slots renamed: a contract with shared memory holds under other names. -/
namespace Go.Proofs.YtpfhfokfambdaaaGreatDoor.Ev
open Go.RowKit (Below)

def C.ren (f : Nat → Nat) : C → C
  | .d x => .d x
  | .loc k o => .loc (f k) o
def A.ren (f : Nat → Nat) : A → A
  | .d x => .d x
  | .loc k o => .loc (f k) o
  | .row k n => .row (f k) n
  | .rloc k n s i o => .rloc (f k) n s i o
  | .nils => .nils
  | .fn g cs => .fn g (cs.map (C.ren f))
  | .map k => .map (f k)
  | .bnd g k o => .bnd g (f k) o
  | .any => .any
def M.ren (f : Nat → Nat) : M → M
  | .at a => .at (a.ren f)
  | .agg cs => .agg (cs.map (A.ren f))
def L.ren (f : Nat → Nat) : L → L
  | .at a => .at (a.ren f)
  | .agg cs => .agg (cs.map (A.ren f))
  | .tup ms => .tup (ms.map (M.ren f))
def Blk.ren (f : Nat → Nat) : Blk → Blk
  | .var cs => .var (cs.map (A.ren f))
  | .row e s rs => .row e s (rs.map fun r => r.map (A.ren f))
  | .fvar ds => .fvar ds
  | .frow rs => .frow rs
  | .mp kvs => .mp (kvs.map fun p => (p.1, p.2.ren f))
  | .iter k n seen => .iter (f k) n seen
  | .gone => .gone
def rens (f : Nat → Nat) (m : List (Nat × Blk)) : List (Nat × Blk) := m.map fun p => (f p.1, p.2.ren f)

section
variable {f g : Nat → Nat}
theorem C.ren_ren {c : C} (h : ∀ k ∈ c.slots, g (f k) = k) : (c.ren f).ren g = c := by
  cases c with
  | d x => rfl
  | loc k o => simp only [C.ren, h k (by simp [C.slots])]
theorem map_back {α : Type} {h h' : α → α} : ∀ {l : List α}, (∀ x ∈ l, h' (h x) = x) → l.map (h' ∘ h) = l
  | [], _ => rfl
  | a :: l, H => by rw [List.map_cons, Function.comp, H a List.mem_cons_self]; exact congrArg _ (map_back fun x hx => H x (List.mem_cons_of_mem _ hx))
theorem A.ren_ren {a : A} (h : ∀ k ∈ a.slots, g (f k) = k) : (a.ren f).ren g = a := by
  cases a with
  | fn q cs =>
    simp only [A.ren, List.map_map]
    rw [map_back fun c hc => C.ren_ren fun k hk => h k (List.mem_flatMap.2 ⟨c, hc, hk⟩)]
  | d x => rfl
  | nils => rfl
  | any => rfl
  | _ => simp only [A.ren, h _ (by simp [A.slots]; try rfl)]
theorem M.ren_ren {a : M} (h : ∀ k ∈ a.slots, g (f k) = k) : (a.ren f).ren g = a := by
  cases a with
  | «at» x => simp only [M.ren, A.ren_ren (a := x) h]
  | agg cs =>
    simp only [M.ren, List.map_map]
    rw [map_back fun c hc => A.ren_ren fun k hk => h k (List.mem_flatMap.2 ⟨c, hc, hk⟩)]
theorem L.ren_ren {a : L} (h : ∀ k ∈ a.slots, g (f k) = k) : (a.ren f).ren g = a := by
  cases a with
  | «at» x => simp only [L.ren, A.ren_ren (a := x) h]
  | agg cs =>
    simp only [L.ren, List.map_map]
    rw [map_back fun c hc => A.ren_ren fun k hk => h k (List.mem_flatMap.2 ⟨c, hc, hk⟩)]
  | tup ms =>
    simp only [L.ren, List.map_map]
    rw [map_back fun c hc => M.ren_ren fun k hk => h k (List.mem_flatMap.2 ⟨c, hc, hk⟩)]
theorem Blk.ren_ren {b : Blk} (h : ∀ k ∈ b.slots, g (f k) = k) : (b.ren f).ren g = b := by
  cases b with
  | var cs =>
    simp only [Blk.ren, List.map_map]
    rw [map_back fun c hc => A.ren_ren fun k hk => h k (List.mem_flatMap.2 ⟨c, hc, hk⟩)]
  | row e s rs =>
    simp only [Blk.ren, List.map_map]
    rw [map_back fun r hr => by
      rw [List.map_map]
      exact map_back fun c hc => A.ren_ren fun k hk => h k (List.mem_flatMap.2 ⟨r, hr, List.mem_flatMap.2 ⟨c, hc, hk⟩⟩)]
  | mp kvs =>
    simp only [Blk.ren, List.map_map]
    rw [map_back fun p hp => by
      rw [A.ren_ren fun k hk => h k (List.mem_flatMap.2 ⟨p, hp, hk⟩)]]
  | iter k n seen => simp only [Blk.ren, h k (by simp [Blk.slots])]
  | _ => rfl

/-- What the renamed names. -/
theorem C.men_ren {c : C} {k : Nat} (h : (c.ren f).men k) : ∃ j, c.men j ∧ f j = k := by
  cases c with
  | d x => exact h.elim
  | loc j o => exact ⟨j, rfl, h⟩
theorem A.men_ren {a : A} {k : Nat} (h : (a.ren f).men k) : ∃ j, a.men j ∧ f j = k := by
  cases a with
  | fn q cs =>
    obtain ⟨c, hc, hk⟩ := h
    obtain ⟨c0, h0, rfl⟩ := List.mem_map.1 hc
    obtain ⟨j, h1, h2⟩ := C.men_ren hk
    exact ⟨j, ⟨c0, h0, h1⟩, h2⟩
  | d x => exact h.elim
  | nils => exact h.elim
  | any => exact h.elim
  | _ => exact ⟨_, rfl, h⟩
theorem M.men_ren {a : M} {k : Nat} (h : (a.ren f).men k) : ∃ j, a.men j ∧ f j = k := by
  cases a with
  | «at» x => exact A.men_ren h
  | agg cs =>
    obtain ⟨c, hc, hk⟩ := h
    obtain ⟨c0, h0, rfl⟩ := List.mem_map.1 hc
    obtain ⟨j, h1, h2⟩ := A.men_ren hk
    exact ⟨j, ⟨c0, h0, h1⟩, h2⟩
theorem L.men_ren {a : L} {k : Nat} (h : (a.ren f).men k) : ∃ j, a.men j ∧ f j = k := by
  cases a with
  | «at» x => exact A.men_ren h
  | agg cs =>
    obtain ⟨c, hc, hk⟩ := h
    obtain ⟨c0, h0, rfl⟩ := List.mem_map.1 hc
    obtain ⟨j, h1, h2⟩ := A.men_ren hk
    exact ⟨j, ⟨c0, h0, h1⟩, h2⟩
  | tup cs =>
    obtain ⟨c, hc, hk⟩ := h
    obtain ⟨c0, h0, rfl⟩ := List.mem_map.1 hc
    obtain ⟨j, h1, h2⟩ := M.men_ren hk
    exact ⟨j, ⟨c0, h0, h1⟩, h2⟩
theorem Blk.men_ren {b : Blk} {k : Nat} (h : (b.ren f).men k) : ∃ j, b.men j ∧ f j = k := by
  cases b with
  | var cs =>
    obtain ⟨c, hc, hk⟩ := h
    obtain ⟨c0, h0, rfl⟩ := List.mem_map.1 hc
    obtain ⟨j, h1, h2⟩ := A.men_ren hk
    exact ⟨j, ⟨c0, h0, h1⟩, h2⟩
  | row e s rs =>
    obtain ⟨r, hr, c, hc, hk⟩ := h
    obtain ⟨r0, h0, rfl⟩ := List.mem_map.1 hr
    obtain ⟨c0, h0', rfl⟩ := List.mem_map.1 hc
    obtain ⟨j, h1, h2⟩ := A.men_ren hk
    exact ⟨j, ⟨r0, h0, c0, h0', h1⟩, h2⟩
  | mp kvs =>
    obtain ⟨c, hc, hk⟩ := h
    obtain ⟨c0, h0, rfl⟩ := List.mem_map.1 hc
    obtain ⟨j, h1, h2⟩ := A.men_ren hk
    exact ⟨j, ⟨c0, h0, h1⟩, h2⟩
  | iter j n seen => exact ⟨j, rfl, h⟩
  | _ => exact h.elim

variable {E : Nat → Value} {N : Nat → Prop} {w : World}
theorem RvC.ren (f : Nat → Nat) {c : C} {v : Value} : RvC E N w (c.ren f) v ↔ RvC (fun k => E (f k)) N w c v := by
  cases c <;> exact Iff.rfl
theorem RvA.ren (f : Nat → Nat) {a : A} {v : Value} : RvA E N w (a.ren f) v ↔ RvA (fun k => E (f k)) N w a v := by
  cases a with
  | fn q cs =>
    constructor
    · rintro ⟨vs, h1, h2, h3⟩
      exact ⟨vs, h1, by rw [h2, List.length_map], fun i c u hc hu => (RvC.ren f).1 (h3 i (c.ren f) u (by rw [List.getElem?_map, hc]; rfl) hu)⟩
    · rintro ⟨vs, h1, h2, h3⟩
      refine ⟨vs, h1, by rw [h2, List.length_map], fun i c u hc hu => ?_⟩
      rw [List.getElem?_map, Option.map_eq_some_iff] at hc
      obtain ⟨c0, hc0, rfl⟩ := hc
      exact (RvC.ren f).2 (h3 i c0 u hc0 hu)
  | _ => exact Iff.rfl
theorem RvAs.ren (f : Nat → Nat) {cs : List A} {vs : List Value} : (∀ (i : Nat) (a : A) (u : Value), (cs.map (A.ren f))[i]? = some a → vs[i]? = some u → RvA E N w a u) ↔ ∀ (i : Nat) (a : A) (u : Value), cs[i]? = some a → vs[i]? = some u → RvA (fun k => E (f k)) N w a u := by
  constructor
  · intro h i a u ha hu
    exact (RvA.ren f).1 (h i (a.ren f) u (by rw [List.getElem?_map, ha]; rfl) hu)
  · intro h i a u ha hu
    rw [List.getElem?_map, Option.map_eq_some_iff] at ha
    obtain ⟨c0, hc0, rfl⟩ := ha
    exact (RvA.ren f).2 (h i c0 u hc0 hu)
theorem RvM.ren (f : Nat → Nat) {a : M} {v : Value} : RvM E N w (a.ren f) v ↔ RvM (fun k => E (f k)) N w a v := by
  cases a with
  | «at» x => exact RvA.ren f
  | agg cs =>
    constructor
    · rintro ⟨vs, h1, h2, h3⟩
      exact ⟨vs, h1, by rw [h2, List.length_map], (RvAs.ren f).1 h3⟩
    · rintro ⟨vs, h1, h2, h3⟩
      exact ⟨vs, h1, by rw [h2, List.length_map], (RvAs.ren f).2 h3⟩
theorem RvL.ren (f : Nat → Nat) {a : L} {v : Value} : RvL E N w (a.ren f) v ↔ RvL (fun k => E (f k)) N w a v := by
  cases a with
  | «at» x => exact RvA.ren f
  | agg cs =>
    constructor
    · rintro ⟨vs, h1, h2, h3⟩
      exact ⟨vs, h1, by rw [h2, List.length_map], (RvAs.ren f).1 h3⟩
    · rintro ⟨vs, h1, h2, h3⟩
      exact ⟨vs, h1, by rw [h2, List.length_map], (RvAs.ren f).2 h3⟩
  | tup ms =>
    constructor
    · rintro ⟨vs, h1, h2, h3⟩
      exact ⟨vs, h1, by rw [h2, List.length_map], fun i m u hm hu => (RvM.ren f).1 (h3 i (m.ren f) u (by rw [List.getElem?_map, hm]; rfl) hu)⟩
    · rintro ⟨vs, h1, h2, h3⟩
      refine ⟨vs, h1, by rw [h2, List.length_map], fun i m u hm hu => ?_⟩
      rw [List.getElem?_map, Option.map_eq_some_iff] at hm
      obtain ⟨c0, hc0, rfl⟩ := hm
      exact (RvM.ren f).2 (h3 i c0 u hc0 hu)
theorem RvB.ren (f : Nat → Nat) {B : Nat} {b : Blk} {v : Value} : RvB E N w B v (b.ren f) ↔ RvB (fun k => E (f k)) N w B v b := by
  cases b with
  | var cs =>
    constructor
    · rintro ⟨b, c, ty, h1, h2, h3, h4⟩
      refine ⟨b, c, ty, h1, h2, by rw [h3, List.length_map], fun i a u ha hu => (RvA.ren f).1 (h4 i (a.ren f) u (by rw [List.getElem?_map, ha]; rfl) hu)⟩
    · rintro ⟨b, c, ty, h1, h2, h3, h4⟩
      refine ⟨b, c, ty, h1, h2, by rw [h3, List.length_map], fun i a u ha hu => ?_⟩
      rw [List.getElem?_map, Option.map_eq_some_iff] at ha
      obtain ⟨c0, hc0, rfl⟩ := ha
      exact (RvA.ren f).2 (h4 i c0 u hc0 hu)
  | row e s rs =>
    constructor
    · rintro ⟨xs, h1, h2, h3⟩
      refine ⟨xs, by simpa using h1, fun i r hr => ?_, fun i j r a u hr ha hu => ?_⟩
      · have := h2 i (r.map (A.ren f)) (by rw [List.getElem?_map, hr]; rfl)
        simpa using this
      · exact (RvA.ren f).1 (h3 i j (r.map (A.ren f)) (a.ren f) u (by rw [List.getElem?_map, hr]; rfl) (by rw [List.getElem?_map, ha]; rfl) hu)
    · rintro ⟨xs, h1, h2, h3⟩
      refine ⟨xs, by simpa using h1, fun i r hr => ?_, fun i j r a u hr ha hu => ?_⟩
      · rw [List.getElem?_map, Option.map_eq_some_iff] at hr
        obtain ⟨r0, hr0, rfl⟩ := hr
        rw [List.length_map]
        exact h2 i r0 hr0
      · rw [List.getElem?_map, Option.map_eq_some_iff] at hr
        obtain ⟨r0, hr0, rfl⟩ := hr
        rw [List.getElem?_map, Option.map_eq_some_iff] at ha
        obtain ⟨a0, ha0, rfl⟩ := ha
        exact (RvA.ren f).2 (h3 i j r0 a0 u hr0 ha0 hu)
  | mp kvs =>
    constructor
    · rintro ⟨b, es, h1, h2, h3, h4⟩
      refine ⟨b, es, h1, by simpa using h2, by simpa using h3, fun i p e hp he => ?_⟩
      obtain ⟨a1, a2, a3⟩ := h4 i (p.1, p.2.ren f) e (by rw [List.getElem?_map, hp]; rfl) he
      exact ⟨a1, a2, (RvA.ren f).1 a3⟩
    · rintro ⟨b, es, h1, h2, h3, h4⟩
      refine ⟨b, es, h1, by simpa using h2, by simpa using h3, fun i p e hp he => ?_⟩
      rw [List.getElem?_map, Option.map_eq_some_iff] at hp
      obtain ⟨p0, hp0, rfl⟩ := hp
      obtain ⟨a1, a2, a3⟩ := h4 i p0 e hp0 he
      exact ⟨a1, a2, (RvA.ren f).2 a3⟩
  | _ => exact Iff.rfl

theorem look_rens (hinj : ∀ k, g (f k) = k) : ∀ (m : List (Nat × Blk)) (k : Nat), look (rens f m) (f k) = (look m k).map (Blk.ren f)
  | [], k => rfl
  | (j, b) :: m, k => by
    have ih := look_rens hinj m k
    simp only [rens, List.map_cons, look] at ih ⊢
    by_cases e : j = k
    · subst e; simp
    · have : ¬ f j = f k := fun h => e (by rw [← hinj j, h, hinj])
      rw [if_neg e, if_neg this]
      exact ih

/-- A renaming and its way back. -/
structure Swap (f g : Nat → Nat) : Prop where
  gf : ∀ k, g (f k) = k
  fg : ∀ k, f (g k) = k
theorem Swap.symm (h : Swap f g) : Swap g f := ⟨h.fg, h.gf⟩

theorem L.ren_id (h : Swap f g) {l : L} : (l.ren f).ren g = l := L.ren_ren fun k _ => h.gf k
theorem Blk.ren_id (h : Swap f g) {b : Blk} : (b.ren f).ren g = b := Blk.ren_ren fun k _ => h.gf k
theorem rens_id (h : Swap f g) {m : List (Nat × Blk)} : rens g (rens f m) = m := by
  simp only [rens, List.map_map]
  exact map_back fun p _ => by simp only [Blk.ren_id h, h.gf]

def Base.ren (N0 : Base) (f g : Nat → Nat) (h : Swap f g) : Base where
  n := N0.n
  gh l v := N0.gh (l.ren f) v
  fx := N0.fx.map g
  fb := N0.fb
  fw := N0.fw
  ok l v k hl hk := by
    have := N0.ok (l.ren f) v (f k) hl (by
      have h2 : ((l.ren f).ren g).men k := by rw [L.ren_id h]; exact hk
      obtain ⟨j, h3, h4⟩ := L.men_ren h2
      have : f k = j := by rw [← h4, h.fg]
      rw [this]; exact h3)
    exact List.mem_map.2 ⟨f k, this, h.gf k⟩

/-- The environment, its slots renamed. -/
theorem Env.ren (h : Swap f g) {N0 : Base} {B : Nat} {m : List (Nat × Blk)} (hE : Env N0 B w (look (rens f m)) E N) : Env (N0.ren f g h) B w (look m) (fun k => E (f k)) N where
  nlt := hE.nlt
  nsub := hE.nsub
  live k bl b h1 h2 h3 := by
    have := look_rens h.gf m k
    rw [h1] at this
    exact hE.live (f k) _ b this (by cases bl <;> simp_all [Blk.ren, Blk.live]) h3
  dis k k' bl bl' b h1 h2 h3 h4 hne h5 := by
    have g1 := look_rens h.gf m k
    have g2 := look_rens h.gf m k'
    rw [h1] at g1
    rw [h2] at g2
    exact hE.dis (f k) (f k') _ _ b g1 g2 (by cases bl <;> simp_all [Blk.ren, Blk.live]) (by cases bl' <;> simp_all [Blk.ren, Blk.live]) (fun e => hne (by rw [← h.gf k, e, h.gf])) h5
  con k bl h1 := by
    have := look_rens h.gf m k
    rw [h1] at this
    exact (RvB.ren f).1 (hE.con (f k) _ this)
  wf k bl j h1 h2 := by
    have g1 := look_rens h.gf m k
    rw [h1] at g1
    have g2 := hE.wf (f k) (bl.ren f) (f j) g1 (by
      have h3 : ((bl.ren f).ren g).men j := by rw [Blk.ren_id h]; exact h2
      obtain ⟨i, h4, h5⟩ := Blk.men_ren h3
      have : f j = i := by rw [← h5, h.fg]
      rw [this]; exact h4)
    rw [look_rens h.gf] at g2
    intro e
    rw [e] at g2
    exact g2 rfl
  gh l v h1 := (RvL.ren f).1 (hE.gh _ v h1)
  fx k hk := by
    obtain ⟨j, h1, rfl⟩ := List.mem_map.1 hk
    have g2 := hE.fx j h1
    rw [← h.fg j, look_rens h.gf] at g2
    intro e
    rw [e] at g2
    exact g2 rfl
  fo b hb := by
    obtain ⟨a1, a2, a3, a4⟩ := hE.fo b hb
    refine ⟨a1, a2, a3, fun k bl h1 h2 => ?_⟩
    have g1 := look_rens h.gf m k
    rw [h1] at g1
    exact a4 (f k) _ g1 (by cases bl <;> simp_all [Blk.ren, Blk.live])
/-- The way back. -/
theorem Env.unren (h : Swap f g) {N0 : Base} {B : Nat} {m : List (Nat × Blk)} (hE : Env (N0.ren f g h) B w (look m) E N) : Env N0 B w (look (rens f m)) (fun k => E (g k)) N := by
  have h0 : Env (N0.ren f g h) B w (look (rens g (rens f m))) E N := by rw [rens_id h]; exact hE
  have h1 := h0.ren h.symm
  refine ⟨h1.nlt, h1.nsub, h1.live, h1.dis, h1.con, h1.wf, fun l v hl => ?_, fun k hk => ?_, h1.fo⟩
  · refine h1.gh l v ?_
    show N0.gh ((l.ren g).ren f) v
    rw [L.ren_id h.symm]; exact hl
  · refine h1.fx k ?_
    show k ∈ (N0.fx.map g).map f
    rw [List.map_map]
    exact List.mem_map.2 ⟨k, hk, h.fg k⟩

theorem SatS.ren {G : World → Prop} {P : Program} {q : FuncId} {args : List L} {m0 us : List (Nat × Blk)} {l : L} (h : Swap f g) (H : SatS G P q args m0 l us) : SatS G P q (args.map (L.ren f)) (rens f m0) (l.ren f) (rens f us) := by
  refine ⟨H.1, fun N0 w0 w E N vs hl hv hfx hE hb hg => ?_⟩
  rw [List.length_map] at hl
  have := H.2 (N0.ren f g h) w0 w (fun k => E (f k)) N vs hl (fun i x v hx hvi => ?_) ?_ (hE.ren h) hb hg
  · refine Calls.mono this ?_
    rintro e w' ⟨v, E', N', h1, h2, h3, h4, h5⟩
    refine ⟨v, fun k => E' (g k), N', h1, h2, h3.unren h, (RvL.ren f).2 (by
      have : (fun k => E' (g (f k))) = E' := by funext k; rw [h.gf]
      rw [this]; exact h4), fun k hk => ?_⟩
    obtain ⟨j, h6, rfl⟩ := L.men_ren hk
    rw [look_rens h.gf]
    have := h5 j h6
    cases hj : look us j with
    | none => exact absurd hj this
    | some b => simp
  · obtain ⟨a1, a2⟩ := hv i (x.ren f) v (by rw [List.getElem?_map, hx]; rfl) hvi
    refine ⟨(RvL.ren f).1 a1, fun k hk => ?_⟩
    have := a2 (f k) (by
      have h3 : ((x.ren f).ren g).men k := by rw [L.ren_id h]; exact hk
      obtain ⟨i, h4, h5⟩ := L.men_ren h3
      have : f k = i := by rw [← h5, h.fg]
      rw [this]; exact h4)
    rw [look_rens h.gf] at this
    intro e
    rw [e] at this
    exact this rfl
  · show N0.fx.map g = _
    rw [hfx]
    simp only [rens, List.map_map]
    exact List.map_congr_left fun p _ => by simp only [Function.comp, h.gf]
end
/-! ### Lending: a function that reads data may read what is one's own, if its result leads to new memory alone -/
def A.bare : A → Bool
  | .d x => x.plain
  | .row .. | .nils | .loc .. | .any => true
  | _ => false
def M.bare : M → Bool
  | .at a => a.bare
  | .agg cs => cs.all A.bare
def L.bare : L → Bool
  | .at a => a.bare
  | .agg cs => cs.all A.bare
  | .tup ms => ms.all M.bare
def Blk.bare : Blk → Bool
  | .var cs => cs.all A.bare
  | .row _ _ rs => rs.all fun r => r.all A.bare
  | .gone => true
  | _ => false
section
variable {E E' : Nat → Value} {N N' : Nat → Prop} {w : World}
theorem Rv.plainN {d : D} {v : Value} (hp : d.plain = true) (h : Rv N w d v) : Rv N' w d v := by
  cases h with
  | int k n => exact .int k n
  | bool b => exact .bool b
  | str s => exact .str s
  | nilp => exact .nilp
  | nilf => exact .nilf
  | nili => exact .nili
  | ifc t v => exact .ifc t v
  | _ => simp [D.plain] at hp
theorem RvA.bare {a : A} {v : Value} (hb : a.bare = true) (hE : ∀ k, a.men k → E' k = E k) (h : RvA E N w a v) : RvA E' N' w a v := by
  cases a with
  | d x => exact Rv.plainN hb h
  | loc k off => obtain ⟨b, h1, h2⟩ := h; exact ⟨b, by rw [hE k rfl]; exact h1, h2⟩
  | row k n => obtain ⟨h0, Ad, m, c, he, h⟩ := h; exact ⟨h0, Ad, m, c, by rw [hE k rfl]; exact he, h⟩
  | nils => exact h
  | any => trivial
  | _ => simp [A.bare] at hb
theorem RvM.bare {a : M} {v : Value} (hb : a.bare = true) (hE : ∀ k, a.men k → E' k = E k) (h : RvM E N w a v) : RvM E' N' w a v := by
  cases a with
  | «at» a => exact RvA.bare hb hE h
  | agg cs =>
    obtain ⟨vs, h1, h2, h3⟩ := h
    exact ⟨vs, h1, h2, fun i a u ha hu => RvA.bare (List.all_eq_true.1 hb a (List.mem_of_getElem? ha)) (fun k hk => hE k ⟨a, List.mem_of_getElem? ha, hk⟩) (h3 i a u ha hu)⟩
theorem RvL.bare {a : L} {v : Value} (hb : a.bare = true) (hE : ∀ k, a.men k → E' k = E k) (h : RvL E N w a v) : RvL E' N' w a v := by
  cases a with
  | «at» a => exact RvA.bare hb hE h
  | agg cs =>
    obtain ⟨vs, h1, h2, h3⟩ := h
    exact ⟨vs, h1, h2, fun i a u ha hu => RvA.bare (List.all_eq_true.1 hb a (List.mem_of_getElem? ha)) (fun k hk => hE k ⟨a, List.mem_of_getElem? ha, hk⟩) (h3 i a u ha hu)⟩
  | tup ms =>
    obtain ⟨vs, h1, h2, h3⟩ := h
    exact ⟨vs, h1, h2, fun i a u ha hu => RvM.bare (List.all_eq_true.1 hb a (List.mem_of_getElem? ha)) (fun k hk => hE k ⟨a, List.mem_of_getElem? ha, hk⟩) (h3 i a u ha hu)⟩
theorem RvB.bare {B B' : Nat} (hB : B' ≤ B) {a : Blk} {v : Value} (hb : a.bare = true) (hE : ∀ k, a.men k → E' k = E k) (h : RvB E N w B v a) : RvB E' N' w B' v a := by
  cases a with
  | var cs =>
    obtain ⟨b, c, ty, h1, h2, h3, h4⟩ := h
    exact ⟨b, c, ty, h1, h2, h3, fun i a u ha hu => RvA.bare (List.all_eq_true.1 hb a (List.mem_of_getElem? ha)) (fun k hk => hE k ⟨a, List.mem_of_getElem? ha, hk⟩) (h4 i a u ha hu)⟩
  | row e s rs =>
    obtain ⟨xs, h1, h2, h3⟩ := h
    refine ⟨xs, ?_, h2, fun i j r a u hr ha hu => RvA.bare (List.all_eq_true.1 (List.all_eq_true.1 hb r (List.mem_of_getElem? hr)) a (List.mem_of_getElem? ha)) (fun k hk => hE k ⟨r, List.mem_of_getElem? hr, a, List.mem_of_getElem? ha, hk⟩) (h3 i j r a u hr ha hu)⟩
    obtain ⟨g1, g2⟩ := h1
    refine ⟨g1, ?_⟩
    rcases g2 with g2 | ⟨g, cap, cur, q1, q2, q3⟩
    · exact .inl g2
    · exact .inr ⟨g, cap, cur, q1, Nat.le_trans hB q2, q3⟩
  | gone => trivial
  | _ => simp [Blk.bare] at hb
end
/-- What the lender asks for. -/
def lendOk (m0 : List (Nat × Blk)) (l : L) (us : List (Nat × Blk)) : Bool :=
  l.bare && us.all (fun p => p.2.bare && (look m0 p.1).isNone) && l.slots.all (fun k => (look us k).isSome) && shut us && shut m0
theorem SatS.lend {G : World → Prop} (hG : ∀ w w', G w → Below w.heap.size w w' → G w') {P : Program} {q : FuncId} {args : List L} {ds : List D} {m0 us : List (Nat × Blk)} {l : L}
    (H : SatS G P q (ds.map fun d => .at (.d d)) [] l us) (hd : pubs (fun x => x.pub2 (look m0)) args = some ds) (hok : lendOk m0 l us = true) : SatS G P q args m0 l (us ++ m0) := by
  simp only [lendOk, Bool.and_eq_true, List.all_eq_true, Option.isNone_iff_eq_none] at hok
  obtain ⟨⟨⟨⟨k1, k2⟩, k3⟩, k4⟩, k5⟩ := hok
  simp only [shut, List.all_eq_true] at k4 k5
  refine ⟨H.1, fun N0 w0 w E N vs hl hv hfx hE hb hg => ?_⟩
  obtain ⟨hl2, hp⟩ := pubs_get hd
  have hnlt : ∀ b, Nall N E (look m0) b → b < w.heap.size := fun b hb' => by
    rcases hb' with hb' | ⟨k, bl, h1, h2, h3⟩
    · exact hE.nlt b hb'
    · exact (hE.live k bl b h1 h2 h3).2.2
  have := H.2 (Base.of (Nall N E (look m0)) w) w w E (Nall N E (look m0)) vs (by rw [List.length_map, hl, hl2]) (fun i x v hx hvi => ?_) rfl
    ⟨hnlt, fun b hb' => .inl hb', fun k bl b hk => by simp [look] at hk, fun k k' bl bl' b hk => by simp [look] at hk, fun k bl hk => by simp [look] at hk, fun k bl j hk => by simp [look] at hk, fun _ _ h => h.elim, fun k hk => by simp [Base.of] at hk, fun _ h => h.elim⟩ (Below.refl _ _) (hG _ _ hg hb)
  · refine Calls.mono this ?_
    rintro e w' ⟨v, E', N', h1, h2, h3, h4, h5⟩
    refine ⟨v, fun k => if (look us k).isSome then E' k else E k, N, h1, hb.trans (h2.mono hb.size), ?_, ?_, fun k hk => ?_⟩
    · have hus : ∀ k bl, look us k = some bl → look m0 k = none := fun k bl hk => (k2 (k, bl) (look_isSome hk)).2
      have hsplit : ∀ k bl, look (us ++ m0) k = some bl → (look us k = some bl) ∨ (look us k = none ∧ look m0 k = some bl) := fun k bl hk => by
        rw [look_app] at hk
        cases h6 : look us k with
        | some x => rw [h6] at hk; exact .inl hk
        | none => rw [h6] at hk; exact .inr ⟨rfl, hk⟩
      have hm0 : ∀ k bl, look m0 k = some bl → look us k = none := fun k bl hk => by
        cases h6 : look us k with
        | some x => rw [hus k x h6] at hk; cases hk
        | none => rfl
      have hEo : ∀ k bl, look m0 k = some bl → (if (look us k).isSome then E' k else E k) = E k := fun k bl hk => by rw [hm0 k bl hk]; rfl
      have hEn : ∀ k bl, look us k = some bl → (if (look us k).isSome then E' k else E k) = E' k := fun k bl hk => by rw [hk]; rfl
      refine ⟨fun b hb' => Nat.lt_of_lt_of_le (hE.nlt b hb') h2.size, hE.nsub, ?_, ?_, ?_, ?_, ?_, ?_, ?_⟩
      · intro k bl b g1 g2 g3
        rcases hsplit k bl g1 with g | ⟨g0, g⟩
        · rw [hEn k bl g] at g3
          obtain ⟨a1, a2, a3⟩ := h3.live k bl b g g2 g3
          exact ⟨fun hn => by have := hE.nlt b hn; omega, Nat.le_trans hb.size a2, a3⟩
        · rw [hEo k bl g] at g3
          obtain ⟨a1, a2, a3⟩ := hE.live k bl b g g2 g3
          exact ⟨a1, a2, Nat.lt_of_lt_of_le a3 h2.size⟩
      · intro k k' bl bl' b g1 g2 g3 g4 hne g5 g6
        rcases hsplit k bl g1 with g | ⟨g0, g⟩ <;> rcases hsplit k' bl' g2 with g' | ⟨g0', g'⟩
        · rw [hEn k bl g] at g5
          rw [hEn k' bl' g'] at g6
          exact h3.dis k k' bl bl' b g g' g3 g4 hne g5 g6
        · rw [hEn k bl g] at g5
          rw [hEo k' bl' g'] at g6
          have a1 := (h3.live k bl b g g3 g5).2.1
          have a2 := (hE.live k' bl' b g' g4 g6).2.2
          omega
        · rw [hEo k bl g] at g5
          rw [hEn k' bl' g'] at g6
          have a1 := (h3.live k' bl' b g' g4 g6).2.1
          have a2 := (hE.live k bl b g g3 g5).2.2
          omega
        · rw [hEo k bl g] at g5
          rw [hEo k' bl' g'] at g6
          exact hE.dis k k' bl bl' b g g' g3 g4 hne g5 g6
      · intro k bl g1
        rcases hsplit k bl g1 with g | ⟨g0, g⟩
        · simp only [hEn k bl g]
          refine RvB.bare hb.size (k2 (k, bl) (look_isSome g)).1 (fun j hj => ?_) (h3.con k bl g)
          have := k4 (k, bl) (look_isSome g) j (Blk.men_slots hj)
          simp only [this, if_true]
        · simp only [hEo k bl g]
          refine RvB.mono (fun b _ hlt => h2.block b hlt) (fun _ h _ => h) (fun j hj => ?_) (fun a1 b a2 => h2.block b (hE.live k bl b g a1 a2).2.2) (hE.con k bl g)
          have h7 := k5 (k, bl) (look_isSome g) j (Blk.men_slots hj)
          obtain ⟨bj, hbj⟩ := Option.isSome_iff_exists.1 h7
          exact hEo j bj hbj
      · intro k bl j g1 g2
        rw [look_app]
        rcases hsplit k bl g1 with g | ⟨g0, g⟩
        · have h7 := k4 (k, bl) (look_isSome g) j (Blk.men_slots g2)
          obtain ⟨bj, hbj⟩ := Option.isSome_iff_exists.1 h7
          rw [hbj]; simp
        · have h7 := k5 (k, bl) (look_isSome g) j (Blk.men_slots g2)
          obtain ⟨bj, hbj⟩ := Option.isSome_iff_exists.1 h7
          rw [hm0 j bj hbj, hbj]; simp
      · intro l' v' g1
        refine RvL.mono (fun b _ hlt => h2.block b hlt) (fun _ h _ => h) (fun j hj => ?_) (hE.gh l' v' g1)
        have h6 := hE.fx j (N0.ok l' v' j g1 hj)
        obtain ⟨bj, hbj⟩ := Option.ne_none_iff_exists'.1 h6
        exact hEo j bj hbj
      · intro k hk
        rw [look_app]
        have h6 := hE.fx k hk
        obtain ⟨bj, hbj⟩ := Option.ne_none_iff_exists'.1 h6
        rw [hm0 k bj hbj, hbj]; simp
      · intro b hb'
        obtain ⟨a1, a2, a3, a4⟩ := hE.fo b hb'
        refine ⟨Nat.lt_of_lt_of_le a1 h2.size, a2, (h2.block b a1).trans a3, fun k bl g1 g2 => ?_⟩
        rcases hsplit k bl g1 with g | ⟨g0, g⟩
        · rw [hEn k bl g]
          intro g3
          have := (h3.live k bl b g g2 g3).2.1
          omega
        · rw [hEo k bl g]
          exact a4 k bl g g2
    · refine RvL.bare k1 (fun j hj => ?_) h4
      have := k3 j (L.men_slots hj)
      simp only [this, if_true]
    · rw [look_app]
      have h7 := k3 k (L.men_slots hk)
      obtain ⟨bj, hbj⟩ := Option.isSome_iff_exists.1 h7
      rw [hbj]; simp
  · rw [List.getElem?_map, Option.map_eq_some_iff] at hx
    obtain ⟨d, hdi, rfl⟩ := hx
    have hlt : i < args.length := by rw [hl2]; exact (List.getElem?_eq_some_iff.1 hdi).1
    have hai := List.getElem?_eq_getElem hlt
    obtain ⟨d', hd', hpd⟩ := hp i _ hai
    rw [hdi] at hd'
    cases hd'
    exact ⟨L.pub2_rv hE hpd (hv i _ v hai hvi).1, fun k hk => hk.elim⟩
end Go.Proofs.YtpfhfokfambdaaaGreatDoor.Ev

/-! A run of data-level code, function by function; what it finds is a contract. -/
namespace Go.Proofs.YtpfhfokfambdaaaGreatDoor.Ev
open Go.RowKit (Below)

/-! ### Forcing: the kernel is to carry values, not what would compute them -/
section
variable {α : Type}
def fNat (n : Nat) (K : Nat → α) : α := match n with
  | 0 => K 0
  | m + 1 => K (Nat.succ m)
def fInt (i : Int) (K : Int → α) : α := match i with
  | .ofNat n => fNat n fun n => K (.ofNat n)
  | .negSucc n => fNat n fun n => K (.negSucc n)
def fBool (b : Bool) (K : Bool → α) : α := match b with
  | true => K true
  | false => K false
def fStr : List UInt8 → (List UInt8 → α) → α
  | [], K => K []
  | u :: r, K => fNat u.toNat fun n => fStr r fun r => K (UInt8.ofNat n :: r)
mutual
def fD : D → (D → α) → α
  | .int k n, K => fInt n fun n => K (.int k n)
  | .bool b, K => fBool b fun b => K (.bool b)
  | .str s, K => fStr s fun s => K (.str s)
  | .nilp, K => K .nilp
  | .nilf, K => K .nilf
  | .nili, K => K .nili
  | .ifc, K => K .ifc
  | .ref cs, K => fDs cs fun cs => K (.ref cs)
  | .slice rs, K => fRows rs fun rs => K (.slice rs)
  | .fn f cs, K => fNat f fun f => fDs cs fun cs => K (.fn f cs)
  | .agg cs, K => fDs cs fun cs => K (.agg cs)
  | .tup cs, K => fDs cs fun cs => K (.tup cs)
def fDs : List D → (List D → α) → α
  | [], K => K []
  | d :: r, K => fD d fun d => fDs r fun r => K (d :: r)
def fRows : List (List D) → (List (List D) → α) → α
  | [], K => K []
  | d :: r, K => fDs d fun d => fRows r fun r => K (d :: r)
end
theorem fNat_eq (n : Nat) (K : Nat → α) : fNat n K = K n := by cases n <;> rfl
theorem fInt_eq (n : Int) (K : Int → α) : fInt n K = K n := by cases n <;> simp [fInt, fNat_eq]
theorem fBool_eq (n : Bool) (K : Bool → α) : fBool n K = K n := by cases n <;> rfl
theorem fStr_eq : ∀ (s : List UInt8) (K : List UInt8 → α), fStr s K = K s
  | [], K => rfl
  | u :: r, K => by simp [fStr, fNat_eq, fStr_eq r]
mutual
theorem fD_eq : ∀ (d : D) (K : D → α), fD d K = K d
  | .int k n, K => by simp [fD, fInt_eq]
  | .bool b, K => by simp [fD, fBool_eq]
  | .str s, K => by simp [fD, fStr_eq]
  | .nilp, K => by simp [fD]
  | .nilf, K => by simp [fD]
  | .nili, K => by simp [fD]
  | .ifc, K => by simp [fD]
  | .ref cs, K => by simp [fD, fDs_eq cs]
  | .slice rs, K => by simp [fD, fRows_eq rs]
  | .fn f cs, K => by simp [fD, fNat_eq, fDs_eq cs]
  | .agg cs, K => by simp [fD, fDs_eq cs]
  | .tup cs, K => by simp [fD, fDs_eq cs]
theorem fDs_eq : ∀ (d : List D) (K : List D → α), fDs d K = K d
  | [], K => by simp [fDs]
  | d :: r, K => by simp [fDs, fD_eq d, fDs_eq r]
theorem fRows_eq : ∀ (d : List (List D)) (K : List (List D) → α), fRows d K = K d
  | [], K => by simp [fRows]
  | d :: r, K => by simp [fRows, fDs_eq d, fRows_eq r]
end
/-- A list's spine, and its members by e. -/
def fLi {β : Type} (e : β → (β → α) → α) : List β → (List β → α) → α
  | [], K => K []
  | x :: r, K => e x fun x => fLi e r fun r => K (x :: r)
theorem fLi_eq {β : Type} {e : β → (β → α) → α} (h : ∀ x K, e x K = K x) : ∀ (l : List β) (K : List β → α), fLi e l K = K l
  | [], K => rfl
  | x :: r, K => by simp [fLi, h, fLi_eq h r]
def fC (c : C) (K : C → α) : α := match c with
  | .d x => fD x fun x => K (.d x)
  | .loc k o => fNat k fun k => fNat o fun o => K (.loc k o)
theorem fC_eq (c : C) (K : C → α) : fC c K = K c := by cases c <;> simp [fC, fD_eq, fNat_eq]
def fA (a : A) (K : A → α) : α := match a with
  | .d x => fD x fun x => K (.d x)
  | .loc k o => fNat k fun k => fNat o fun o => K (.loc k o)
  | .row k n => fNat k fun k => fNat n fun n => K (.row k n)
  | .rloc k n s i o => fNat k fun k => fNat n fun n => fNat s fun s => fNat i fun i => fNat o fun o => K (.rloc k n s i o)
  | .nils => K .nils
  | .fn g cs => fNat g fun g => fLi fC cs fun cs => K (.fn g cs)
  | .map k => fNat k fun k => K (.map k)
  | .bnd g k o => fNat g fun g => fNat k fun k => fNat o fun o => K (.bnd g k o)
  | .any => K .any
theorem fA_eq (a : A) (K : A → α) : fA a K = K a := by cases a <;> simp [fA, fD_eq, fNat_eq, fLi_eq fC_eq]
def fM (a : M) (K : M → α) : α := match a with
  | .at a => fA a fun a => K (.at a)
  | .agg cs => fLi fA cs fun cs => K (.agg cs)
theorem fM_eq (a : M) (K : M → α) : fM a K = K a := by cases a <;> simp [fM, fA_eq, fLi_eq fA_eq]
def fL (a : L) (K : L → α) : α := match a with
  | .at a => fA a fun a => K (.at a)
  | .agg cs => fLi fA cs fun cs => K (.agg cs)
  | .tup ms => fLi fM ms fun ms => K (.tup ms)
theorem fL_eq (a : L) (K : L → α) : fL a K = K a := by cases a <;> simp [fL, fA_eq, fLi_eq fA_eq, fLi_eq fM_eq]
def fKV (p : List UInt8 × A) (K : List UInt8 × A → α) : α := match p with
  | (s, a) => fStr s fun s => fA a fun a => K (s, a)
theorem fKV_eq (p : List UInt8 × A) (K : List UInt8 × A → α) : fKV p K = K p := by cases p; simp [fKV, fStr_eq, fA_eq]
def fBlk (b : Blk) (K : Blk → α) : α := match b with
  | .var cs => fLi fA cs fun cs => K (.var cs)
  | .row e s rs => fNat e fun e => fNat s fun s => fLi (fLi fA) rs fun rs => K (.row e s rs)
  | .fvar ds => fDs ds fun ds => K (.fvar ds)
  | .frow rs => fRows rs fun rs => K (.frow rs)
  | .mp kvs => fLi fKV kvs fun kvs => K (.mp kvs)
  | .iter k n seen => fNat k fun k => fNat n fun n => fLi fNat seen fun seen => K (.iter k n seen)
  | .gone => K .gone
theorem fBlk_eq (b : Blk) (K : Blk → α) : fBlk b K = K b := by
  cases b <;> simp [fBlk, fLi_eq fA_eq, fLi_eq (fLi_eq fA_eq), fNat_eq, fDs_eq, fRows_eq, fLi_eq fKV_eq, fLi_eq fNat_eq]
def fUs (us : List (Nat × Blk)) (K : List (Nat × Blk) → α) : α := fLi (fun p K => match p with | (k, b) => fNat k fun k => fBlk b fun b => K (k, b)) us K
theorem fUs_eq (us : List (Nat × Blk)) (K : List (Nat × Blk) → α) : fUs us K = K us := fLi_eq (fun p K => by cases p; simp [fNat_eq, fBlk_eq]) us K
/-- Values that are carried already: their spine alone. -/
def sA (a : A) (K : A → α) : α := match a with
  | .d x => K (.d x)
  | .row k n => fNat n fun n => K (.row k n)
  | .rloc k n s i o => fNat n fun n => fNat i fun i => fNat o fun o => K (.rloc k n s i o)
  | .loc k o => fNat o fun o => K (.loc k o)
  | .nils => K .nils
  | .fn g cs => K (.fn g cs)
  | .map k => K (.map k)
  | .bnd g k o => K (.bnd g k o)
  | .any => K .any
theorem sA_eq (a : A) (K : A → α) : sA a K = K a := by cases a <;> simp [sA, fNat_eq]
def sM (a : M) (K : M → α) : α := match a with
  | .at a => sA a fun a => K (.at a)
  | .agg cs => fLi sA cs fun cs => K (.agg cs)
theorem sM_eq (a : M) (K : M → α) : sM a K = K a := by cases a <;> simp [sM, sA_eq, fLi_eq sA_eq]
def sL (a : L) (K : L → α) : α := match a with
  | .at a => sA a fun a => K (.at a)
  | .agg cs => fLi sA cs fun cs => K (.agg cs)
  | .tup ms => fLi sM ms fun ms => K (.tup ms)
theorem sL_eq (a : L) (K : L → α) : sL a K = K a := by cases a <;> simp [sL, sA_eq, fLi_eq sA_eq, fLi_eq sM_eq]
/-- One list before another. -/
def fApp {β : Type} : List β → List β → (List β → α) → α
  | [], m, K => K m
  | x :: r, m, K => fApp r m fun m => K (x :: m)
theorem fApp_eq {β : Type} : ∀ (l m : List β) (K : List β → α), fApp l m K = K (l ++ m)
  | [], m, K => rfl
  | x :: r, m, K => by simp [fApp, fApp_eq r]
end
/-- Operations whose value is carried already. -/
def LK.light : LK → Bool
  | .mov _ | .pick .. | .load .. | .nilck _ | .ext .. | .fieldA .. | .field .. | .idxA .. | .idxAA .. | .idx .. | .call .. | .callF .. | .callD .. | .callv .. | .callvD .. | .lookup .. | .entryM _ | .alloc .. | .box .. => true
  | _ => false

/-! ### What a call finds -/
structure Orc where
  call : FuncId → List D → Option D
  calls : FuncId → List L → List (Nat × Blk) → Option (L × List (Nat × Blk))
  clone : FuncId → Nat → Nat → Bool
  ins : FuncId → Nat → Nat → Bool
  lends : FuncId → Bool
structure Orc.Ok (G : World → Prop) (P : Program) (o : Orc) : Prop where
  call : ∀ f ds r, o.call f ds = some r → Sat G P f ds r
  calls : ∀ f args m0 l us, o.calls f args m0 = some (l, us) → SatS G P f args m0 l us
  clone : ∀ f e s, o.clone f e s = true → CloneAt P f e s
  ins : ∀ f e s, o.ins f e s = true → InsAt P f e s

def reach (blk : Nat → Option Blk) : Nat → List Nat → List Nat → List Nat
  | 0, _, done => done
  | _ + 1, [], done => done
  | n + 1, k :: r, done => if done.contains k then reach blk n r done else match blk k with
    | some b => reach blk n (b.slots ++ r) (done ++ [k])
    | none => reach blk n r (done ++ [k])
def sw (a b k : Nat) : Nat := if k = a then b else if k = b then a else k
def perm : List (Nat × Nat) → Nat → Nat
  | [], k => k
  | (a, b) :: r, k => perm r (sw a b k)
def unperm : List (Nat × Nat) → Nat → Nat
  | [], k => k
  | (a, b) :: r, k => sw a b (unperm r k)
theorem sw_sw (a b k : Nat) : sw a b (sw a b k) = k := by
  simp only [sw]
  by_cases h1 : k = a
  · subst h1; by_cases h2 : b = k <;> simp [h2]
  · by_cases h2 : k = b
    · subst h2; simp [h1]
    · simp [h1, h2]
theorem perm_swap : ∀ l : List (Nat × Nat), Swap (perm l) (unperm l)
  | [] => ⟨fun _ => rfl, fun _ => rfl⟩
  | (a, b) :: r => ⟨fun k => by simp only [perm, unperm]; rw [(perm_swap r).gf, sw_sw], fun k => by simp only [perm, unperm]; rw [sw_sw, (perm_swap r).fg]⟩
def place : List Nat → Nat → List (Nat × Nat) → List (Nat × Nat)
  | [], _, s => s
  | k :: r, t, s => place r (t + 1) (s ++ [(perm s k, t)])
def maxl (m : List (Nat × Blk)) : Nat := m.foldl (fun a p => if a < p.1 then p.1 else a) 2000000

/-- A call with shared memory: its slots under names that no function uses, what is new under names that are free. -/
def runD (o : Orc) (st : St) (sh : List L) (f : FuncId) (args : List L) : Option (L × List (Nat × Blk)) :=
  fLi fNat (reach st.blk 10000 (sh.flatMap L.slots) []) fun ks =>
  fLi (fun p K => match p with | (a, b) => fNat a fun a => fNat b fun b => K (a, b)) (place ks 1000000 []) fun s1 =>
  fLi fL (args.map (L.ren (perm s1))) fun args' =>
  fUs (rens (perm s1) (grab st.blk ks)) fun m0 =>
  match o.calls f args' m0 with
  | some (l, us) =>
    fUs (rens (unperm s1) us) fun us1 =>
    fLi fNat ((us1.map (·.1)).filter fun k => !ks.contains k) fun ns0 =>
    fLi (fun p K => match p with | (a, b) => fNat a fun a => fNat b fun b => K (a, b)) (place ns0 (maxl st.m + 1) []) fun s2 =>
    fUs (rens (perm s2) us1) fun us2 =>
    fL ((l.ren (unperm s1)).ren (perm s2)) fun l2 =>
    fLi fNat (ns0.map (perm s2)) fun ns =>
    gd (ks.all (fun k => perm s2 k == k) && (sharedOk st.blk sh ks ns us2 && ((ks ++ ns).all (fun k => (look us2 k).isSome) && args.all fun x => x.slots.all fun k => ks.contains k))) (some (l2, us2))
  | none => none

/-- A call that only reads what is one's own, and gives new memory. -/
def runL (o : Orc) (st : St) (sh : List L) (f : FuncId) (args : List L) : Option (L × List (Nat × Blk)) :=
  fLi fNat (reach st.blk 10000 (sh.flatMap L.slots) []) fun ks =>
  fUs (grab st.blk ks) fun m0 =>
  match pubs (fun x => x.pub2 (look m0)) args with
  | some ds => fDs ds fun ds => match o.calls f (ds.map fun d => .at (.d d)) [] with
    | some (l, us) =>
      fLi fNat (us.map (·.1)) fun ns0 =>
      fLi (fun p K => match p with | (a, b) => fNat a fun a => fNat b fun b => K (a, b)) (place ns0 (maxl st.m + 1) []) fun s2 =>
      fUs (rens (perm s2) us) fun us2 =>
      fL (l.ren (perm s2)) fun l2 =>
      fLi fNat (ns0.map (perm s2)) fun ns =>
      fUs (us2 ++ m0) fun us3 =>
      gd (lendOk m0 l2 us2 && (sharedOk st.blk sh ks ns us3 && (ks ++ ns).all (fun k => (look us3 k).isSome))) (some (l2, us3))
    | none => none
  | none => none
def runC (o : Orc) (st : St) (sh : List L) (f : FuncId) (args : List L) : Option (L × List (Nat × Blk)) := match o.lends f with
  | true => runL o st sh f args
  | false => runD o st sh f args

def runK (o : Orc) (lk : LK) (st : St) : Option (L × List (Nat × Blk)) := match lk with
  | .call f xs => match pubs (fun x => (st.ev x).pub st.blk) xs with
    | some ds => fDs ds fun ds => match o.call f ds with
      | some r => some (.at (.d r), if r.flat then [] else frz st.blk (xs.flatMap fun x => (st.ev x).slots))
      | none => none
    | none => none
  | .callv g xs => match (st.ev g).pub st.blk with
    | some (.fn f caps) => match pubs (fun x => (st.ev x).pub st.blk) xs with
      | some ds => fDs (ds ++ caps) fun ds => match o.call f ds with
        | some r => some (.at (.d r), if r.flat then [] else frz st.blk ((st.ev g).slots ++ xs.flatMap fun x => (st.ev x).slots))
        | none => none
      | none => none
    | _ => none
  | .callF f xs => match pubs (fun x => (st.ev x).pub2 st.blk) xs with
    | some ds => fDs ds fun ds => match o.call f ds with
      | some r => gd r.flat (some (.at (.d r), []))
      | none => none
    | none => none
  | .callD f xs => runC o st (xs.map st.ev) f (xs.map st.ev)
  | .callvD g xs => match st.ev g with
    | .at (.fn f cs) => runC o st (st.ev g :: xs.map st.ev) f (xs.map st.ev ++ cs.map C.toL)
    | .at (.d (.fn f ds)) => runC o st (xs.map st.ev) f (xs.map st.ev ++ ds.map fun d => .at (.d d))
    | .at (.bnd f k off) => runC o st (st.ev g :: xs.map st.ev) f (.at (.loc k off) :: xs.map st.ev)
    | _ => none
  | .cloneR f k e s x => match elems st.blk s (st.ev x) with
    | some rows => gd ((st.blk k).isNone && (rows.all (fun r => r.length == s && r.all A.one) && (decide (rows.length ≤ 4294967296) && o.clone f e s))) (some (.at (.row k rows.length), [(k, .row e s rows)]))
    | none => none
  | .insR f e s x i y => match st.ev x, st.ev i, st.ev y with
    | .at (.row k n), .at (.d (.int .i64 q)), .at (.row k2 m) => match st.blk k, st.blk k2 with
      | some (.row e1 s1 rs), some (.row e2 s2 news) => gd (n == rs.length && (m == news.length && ((e1 == e && s1 == s && e2 == e && s2 == s && k != k2 && rs.all (fun r => r.all A.one) && news.all fun r => r.all A.one) &&
          (decide (0 < m) && (decide (0 ≤ q) && (decide (q ≤ (n : Int)) && (decide (n + m ≤ 4294967296) && o.ins f e s)))))))
          (some (.at (.row k (n + m)), [(k, .row e s (rs.take q.toNat ++ news ++ rs.drop q.toNat))]))
      | _, _ => none
    | _, _, _ => none
  | lk => dget lk st.ev st.blk

section
variable {G : World → Prop} {P : Program} {o : Orc}
theorem C.ren_fix {τ : Nat → Nat} {c : C} (h : ∀ k ∈ c.slots, τ k = k) : c.ren τ = c := by
  cases c with
  | d x => rfl
  | loc k o => simp only [C.ren, h k (by simp [C.slots])]
theorem map_fix {α : Type} {h : α → α} : ∀ {l : List α}, (∀ x ∈ l, h x = x) → l.map h = l
  | [], _ => rfl
  | a :: l, H => by rw [List.map_cons, H a List.mem_cons_self, map_fix fun x hx => H x (List.mem_cons_of_mem _ hx)]
theorem A.ren_fix {τ : Nat → Nat} {a : A} (h : ∀ k ∈ a.slots, τ k = k) : a.ren τ = a := by
  cases a with
  | fn q cs =>
    simp only [A.ren]
    rw [map_fix fun c hc => C.ren_fix fun k hk => h k (List.mem_flatMap.2 ⟨c, hc, hk⟩)]
  | d x => rfl
  | nils => rfl
  | any => rfl
  | _ => simp only [A.ren, h _ (by simp [A.slots]; try rfl)]
theorem M.ren_fix {τ : Nat → Nat} {a : M} (h : ∀ k ∈ a.slots, τ k = k) : a.ren τ = a := by
  cases a with
  | «at» x => simp only [M.ren, A.ren_fix (a := x) h]
  | agg cs =>
    simp only [M.ren]
    rw [map_fix fun c hc => A.ren_fix fun k hk => h k (List.mem_flatMap.2 ⟨c, hc, hk⟩)]
theorem L.ren_fix {τ : Nat → Nat} {a : L} (h : ∀ k ∈ a.slots, τ k = k) : a.ren τ = a := by
  cases a with
  | «at» x => simp only [L.ren, A.ren_fix (a := x) h]
  | agg cs =>
    simp only [L.ren]
    rw [map_fix fun c hc => A.ren_fix fun k hk => h k (List.mem_flatMap.2 ⟨c, hc, hk⟩)]
  | tup ms =>
    simp only [L.ren]
    rw [map_fix fun c hc => M.ren_fix fun k hk => h k (List.mem_flatMap.2 ⟨c, hc, hk⟩)]
theorem Blk.ren_fix {τ : Nat → Nat} {b : Blk} (h : ∀ k ∈ b.slots, τ k = k) : b.ren τ = b := by
  cases b with
  | var cs =>
    simp only [Blk.ren]
    rw [map_fix fun c hc => A.ren_fix fun k hk => h k (List.mem_flatMap.2 ⟨c, hc, hk⟩)]
  | row e s rs =>
    simp only [Blk.ren]
    rw [map_fix fun r hr => map_fix fun c hc => A.ren_fix fun k hk => h k (List.mem_flatMap.2 ⟨r, hr, List.mem_flatMap.2 ⟨c, hc, hk⟩⟩)]
  | mp kvs =>
    simp only [Blk.ren]
    rw [map_fix fun p hp => by rw [A.ren_fix fun k hk => h k (List.mem_flatMap.2 ⟨p, hp, hk⟩)]]
  | iter k n seen => simp only [Blk.ren, h k (by simp [Blk.slots])]
  | _ => rfl
theorem grab_mem {blk : Nat → Option Blk} : ∀ {ks : List Nat} {p : Nat × Blk}, p ∈ grab blk ks → p.1 ∈ ks
  | [], p, h => by simp [grab] at h
  | k :: r, p, h => by
    simp only [grab] at h
    split at h
    · rcases List.mem_cons.1 h with rfl | h
      · exact List.mem_cons_self
      · exact List.mem_cons_of_mem _ (grab_mem h)
    · exact List.mem_cons_of_mem _ (grab_mem h)
theorem look_grab_mem {blk : Nat → Option Blk} {ks : List Nat} {k : Nat} (h : (look (grab blk ks) k).isSome = true) : k ∈ ks := by
  obtain ⟨b, hb⟩ := Option.isSome_iff_exists.1 h
  exact grab_mem (look_mem hb)

theorem runD_sound (ho : o.Ok G P) {st : St} {sh : List L} {f : FuncId} {args : List L} {l : L} {us : List (Nat × Blk)} (h : runD o st sh f args = some (l, us)) :
    ∃ ks ns, SatS G P f args (grab st.blk ks) l us ∧ sharedOk st.blk sh ks ns us = true ∧ (ks ++ ns).all (fun k => (look us k).isSome) = true := by
  have hp : ∀ (x : Nat × Nat) (K : Nat × Nat → Option (L × List (Nat × Blk))), (match x with | (a, b) => fNat a fun a => fNat b fun b => K (a, b)) = K x := fun x K => by cases x; simp [fNat_eq]
  simp only [runD, fLi_eq fNat_eq, fLi_eq fL_eq, fUs_eq, fLi_eq hp, fL_eq] at h
  generalize reach st.blk 10000 (sh.flatMap L.slots) [] = ks at h
  generalize place ks 1000000 [] = s1 at h
  split at h
  · rename_i l0 us0 hc
    generalize hns : (List.filter (fun k => !ks.contains k) (List.map (fun x => x.fst) (rens (unperm s1) us0))) = ns0 at h
    generalize place ns0 (maxl st.m + 1) [] = s2 at h
    rw [gd_iff] at h
    obtain ⟨h1, h2⟩ := h
    simp only [Bool.and_eq_true] at h1
    obtain ⟨h1, h3, h4, h5⟩ := h1
    cases h2
    refine ⟨ks, ns0.map (perm s2), ?_, h3, h4⟩
    have H := ((ho.calls _ _ _ _ _ hc).ren (perm_swap s1).symm).ren (perm_swap s2)
    have hfix : ∀ k ∈ ks, perm s2 k = k := by simpa using h1
    have harg : ∀ x ∈ args, ∀ k ∈ x.slots, k ∈ ks := by simpa using h5
    have hshut : shut (grab st.blk ks) = true := by
      simp only [sharedOk, Bool.and_eq_true] at h3
      exact h3.1.2
    have e1 : ((args.map (L.ren (perm s1))).map (L.ren (unperm s1))).map (L.ren (perm s2)) = args := by
      have e0 : (args.map (L.ren (perm s1))).map (L.ren (unperm s1)) = args := by
        rw [List.map_map]
        exact map_back fun x _ => L.ren_id (perm_swap s1)
      rw [e0]
      exact map_fix fun x hx => L.ren_fix fun k hk => hfix k (harg x hx k hk)
    have e2 : rens (perm s2) (rens (unperm s1) (rens (perm s1) (grab st.blk ks))) = grab st.blk ks := by
      rw [rens_id (perm_swap s1)]
      refine map_fix fun p hp => ?_
      have h6 : p.1 ∈ ks := grab_mem hp
      have h7 : p.2.ren (perm s2) = p.2 := Blk.ren_fix fun k hk => hfix k (by
        simp only [shut, List.all_eq_true] at hshut
        exact look_grab_mem (hshut p hp k hk))
      rw [hfix _ h6, h7]
    rw [e1, e2] at H
    exact H
  · cases h

theorem runL_sound (hG : ∀ w w', G w → Below w.heap.size w w' → G w') (ho : o.Ok G P) {st : St} {sh : List L} {f : FuncId} {args : List L} {l : L} {us : List (Nat × Blk)} (h : runL o st sh f args = some (l, us)) :
    ∃ ks ns, SatS G P f args (grab st.blk ks) l us ∧ sharedOk st.blk sh ks ns us = true ∧ (ks ++ ns).all (fun k => (look us k).isSome) = true := by
  have hp : ∀ (x : Nat × Nat) (K : Nat × Nat → Option (L × List (Nat × Blk))), (match x with | (a, b) => fNat a fun a => fNat b fun b => K (a, b)) = K x := fun x K => by cases x; simp [fNat_eq]
  simp only [runL, fLi_eq fNat_eq, fUs_eq, fLi_eq hp, fL_eq, fDs_eq] at h
  generalize reach st.blk 10000 (sh.flatMap L.slots) [] = ks at h
  split at h
  · rename_i ds hds
    split at h
    · rename_i l0 us0 hc
      generalize place _ (maxl st.m + 1) [] = s2 at h
      rw [gd_iff] at h
      obtain ⟨h1, h2⟩ := h
      simp only [Bool.and_eq_true] at h1
      obtain ⟨h1, h3, h4⟩ := h1
      cases h2
      have H := (ho.calls _ _ _ _ _ hc).ren (perm_swap s2)
      have e1 : (ds.map fun d => L.at (.d d)).map (L.ren (perm s2)) = ds.map fun d => L.at (.d d) := by
        rw [List.map_map]; rfl
      rw [e1] at H
      exact ⟨ks, _, SatS.lend hG H hds h1, h3, h4⟩
    · cases h
  · cases h
theorem runC_sound (hG : ∀ w w', G w → Below w.heap.size w w' → G w') (ho : o.Ok G P) {st : St} {sh : List L} {f : FuncId} {args : List L} {l : L} {us : List (Nat × Blk)} (h : runC o st sh f args = some (l, us)) :
    ∃ ks ns, SatS G P f args (grab st.blk ks) l us ∧ sharedOk st.blk sh ks ns us = true ∧ (ks ++ ns).all (fun k => (look us k).isSome) = true := by
  unfold runC at h
  split at h
  · exact runL_sound hG ho h
  · exact runD_sound ho h

theorem runK_sound (hG : ∀ w w', G w → Below w.heap.size w w' → G w') (ho : o.Ok G P) {lk : LK} {st : St} {l : L} {us : List (Nat × Blk)} {K : L → List (Nat × Blk) → Prop} (h : runK o lk st = some (l, us)) (hK : K l us) : dsem G P lk st.ev st.blk K := by
  unfold runK at h
  split at h
  · rename_i f xs
    simp only [dsem]
    split at h
    · rename_i ds hds
      rw [fDs_eq] at h
      split at h
      · rename_i r hr
        cases h
        rw [hds]
        exact ⟨r, ho.call _ _ _ hr, hK⟩
      · cases h
    · cases h
  · rename_i g xs
    simp only [dsem]
    split at h
    · rename_i f caps hg
      split at h
      · rename_i ds hds
        rw [fDs_eq] at h
        split at h
        · rename_i r hr
          cases h
          rw [hg, hds]
          exact ⟨r, ho.call _ _ _ hr, hK⟩
        · cases h
      · cases h
    · cases h
  · rename_i f xs
    simp only [dsem]
    split at h
    · rename_i ds hds
      rw [fDs_eq] at h
      split at h
      · rename_i r hr
        rw [gd_iff] at h
        obtain ⟨h1, h2⟩ := h
        cases h2
        rw [hds]
        exact ⟨r, ho.call _ _ _ hr, h1, hK⟩
      · cases h
    · cases h
  · rename_i f xs
    simp only [dsem]
    obtain ⟨ks, ns, h1, h2, h3⟩ := runC_sound hG ho h
    exact ⟨ks, ns, l, us, h1, h2, h3, hK⟩
  · rename_i g xs
    simp only [dsem]
    split at h
    · rename_i f cs hg
      obtain ⟨ks, ns, h1, h2, h3⟩ := runC_sound hG ho h
      rw [hg] at h2 ⊢
      exact ⟨ks, ns, l, us, h1, h2, h3, hK⟩
    · rename_i f cs hg
      obtain ⟨ks, ns, h1, h2, h3⟩ := runC_sound hG ho h
      rw [hg]
      exact ⟨ks, ns, l, us, h1, h2, h3, hK⟩
    · rename_i f k off hg
      obtain ⟨ks, ns, h1, h2, h3⟩ := runC_sound hG ho h
      rw [hg] at h2 ⊢
      exact ⟨ks, ns, l, us, h1, h2, h3, hK⟩
    · cases h
  · rename_i f k e s x
    simp only [dsem]
    split at h
    · rename_i rows hr
      rw [gd_iff] at h
      obtain ⟨h1, h2⟩ := h
      cases h2
      simp only [Bool.and_eq_true, decide_eq_true_eq, Option.isNone_iff_eq_none] at h1
      rw [hr]
      exact ⟨h1.1, h1.2.1, h1.2.2.1, ho.clone _ _ _ h1.2.2.2, hK⟩
    · cases h
  · rename_i f e s x i y
    simp only [dsem]
    split at h
    · rename_i k n q k2 m e1 e2 e3
      split at h
      · rename_i t1 s1 rs t2 s2 news b1 b2
        rw [gd_iff] at h
        obtain ⟨h1, h2⟩ := h
        cases h2
        rw [e1, e2, e3]
        simp only [b1, b2]
        have h1' : (n == rs.length) = true ∧ (m == news.length) = true ∧ (t1 == e && s1 == s && t2 == e && s2 == s && k != k2 && rs.all (fun r => r.all A.one) && news.all fun r => r.all A.one) = true ∧ decide (0 < m) = true ∧ decide (0 ≤ q) = true ∧ decide (q ≤ (n : Int)) = true ∧ decide (n + m ≤ 4294967296) = true ∧ o.ins f e s = true := by
          simp only [Bool.and_eq_true, decide_eq_true_eq, beq_iff_eq] at h1 ⊢
          exact h1
        obtain ⟨g1, g2, g3, g4, g5, g6, g7, g8⟩ := h1'
        exact ⟨by simpa using g1, by simpa using g2, g3, by simpa using g4, by simpa using g5, by simpa using g6, by simpa using g7, ho.ins _ _ _ g8, hK⟩
      · cases h
    · cases h
  · exact dget_sound h hK
end
end Go.Proofs.YtpfhfokfambdaaaGreatDoor.Ev
