/- The laws of a judgement on the machine's code over named slots: own work, for the walks. -/
import Derived.Test.YthbcjjhlebhghaaC2
namespace Go.Proofs.Ythbcjjhlebhghaa.Walk
open Go

/-! ### Worlds -/
/-- From w to w' no block of w has changed but those of S. -/
structure Fr (S : List (Option Nat)) (w w' : World) : Prop where
  os : w'.os = w.os
  tape : w'.tape = w.tape
  output : w'.output = w.output
  size : w.heap.size ≤ w'.heap.size
  block : ∀ k, k < w.heap.size → some k ∉ S → w'.heap[k]? = w.heap[k]?
theorem Fr.refl (S : List (Option Nat)) (w : World) : Fr S w w := ⟨rfl, rfl, rfl, Nat.le_refl _, fun _ _ _ => rfl⟩
theorem Fr.trans {S S' S'' : List (Option Nat)} {w w1 w2 : World} (h : Fr S w w1) (k : Fr S' w1 w2) (h1 : ∀ k, k < w.heap.size → some k ∈ S → some k ∈ S'') (h2 : ∀ k, k < w.heap.size → some k ∈ S' → some k ∈ S'') : Fr S'' w w2 :=
  ⟨k.os.trans h.os, k.tape.trans h.tape, k.output.trans h.output, Nat.le_trans h.size k.size, fun i hi hn =>
    (k.block i (Nat.lt_of_lt_of_le hi h.size) (fun hm => hn (h2 i hi hm))).trans (h.block i hi (fun hm => hn (h1 i hi hm)))⟩
theorem Fr.weak {S S' : List (Option Nat)} {w w1 : World} (h : Fr S w w1) (h1 : ∀ k, k < w.heap.size → some k ∈ S → some k ∈ S') : Fr S' w w1 :=
  ⟨h.os, h.tape, h.output, h.size, fun i hi hn => h.block i hi (fun hm => hn (h1 i hi hm))⟩
theorem Fr.drew (S : List (Option Nat)) (w : World) : Fr S w w.drew := ⟨rfl, rfl, rfl, Nat.le_refl _, fun _ _ _ => rfl⟩
theorem Fr.alloc (S : List (Option Nat)) (w : World) (o : Obj) : Fr S w (w.alloc o) :=
  ⟨rfl, rfl, rfl, by show w.heap.size ≤ (w.heap.push o).size; simp, fun k hk _ => by show (w.heap.push o)[k]? = _; rw [Array.getElem?_push, if_neg (Nat.ne_of_lt hk)]⟩
theorem alloc_at (w : World) (o : Obj) : (w.alloc o).heap[w.heap.size]? = some o := by show (w.heap.push o)[w.heap.size]? = _; simp
theorem alloc_size (w : World) (o : Obj) : (w.alloc o).heap.size = w.heap.size + 1 := by show (w.heap.push o).size = _; simp
theorem Fr.at {S : List (Option Nat)} {w w' : World} (h : Fr S w w') {b : Nat} {o : Obj} (hb : w.heap[b]? = some o) (hn : some b ∉ S) : w'.heap[b]? = some o :=
  (h.block b (Array.getElem?_eq_some_iff.1 hb).1 hn).trans hb
theorem at_lt {w : World} {b : Nat} {o : Obj} (hb : w.heap[b]? = some o) : b < w.heap.size := (Array.getElem?_eq_some_iff.1 hb).1
/-- A block is laid anew. -/
def layW (w : World) (b : Nat) (o : Obj) : World := { w with heap := w.heap.setIfInBounds b o }
theorem Fr.laid (w : World) (b : Nat) (o : Obj) : Fr [some b] w (layW w b o) :=
  ⟨rfl, rfl, rfl, by show w.heap.size ≤ (w.heap.setIfInBounds b o).size; simp, fun k hk hn => by
    show (w.heap.setIfInBounds b o)[k]? = _
    rw [Array.getElem?_setIfInBounds_ne (fun (e : b = k) => hn (by simp [e]))]⟩
theorem lay_at {w : World} {b : Nat} {o o' : Obj} (hb : w.heap[b]? = some o') : (layW w b o).heap[b]? = some o := by
  show (w.heap.setIfInBounds b o)[b]? = _
  simp [at_lt hb]

/-! ### Cells -/
def ints (k : IntKind) (l : List Int) : List Value := l.map (Value.int k)
theorem ints_length (k : IntKind) (l : List Int) : (ints k l).length = l.length := by simp [ints]
/-- Cells of a value: a part, and the same with that part another. -/
structure Lens (cs : List Value) (off : Nat) (m m' : List Value) (cs' : List Value) : Prop where
  mk' :: (out : ∃ pre post, cs = pre ++ (m ++ post) ∧ cs' = pre ++ (m' ++ post) ∧ pre.length = off)
theorem Lens.all (m m' : List Value) : Lens m 0 m m' m' := ⟨[], [], by simp, by simp, rfl⟩
theorem Lens.head (m m' r : List Value) : Lens (m ++ r) 0 m m' (m' ++ r) := ⟨[], r, rfl, rfl, rfl⟩
theorem Lens.skip {a r m m' r' : List Value} {o k off : Nat} (ha : a.length = k) (h : Lens r o m m' r') (ho : k + o = off) : Lens (a ++ r) off m m' (a ++ r') := by
  obtain ⟨pre, post, h1, h2, h3⟩ := h
  exact ⟨a ++ pre, post, by simp [h1], by simp [h2], by simp [ha, h3, ho]⟩
theorem Lens.cons {c : Value} {r m m' r' : List Value} {o off : Nat} (h : Lens r o m m' r') (ho : o + 1 = off) : Lens (c :: r) off m m' (c :: r') := by
  obtain ⟨pre, post, h1, h2, h3⟩ := h
  exact ⟨c :: pre, post, by simp [h1], by simp [h2], by simp [h3, ho]⟩
theorem Lens.one (c c' : Value) (r : List Value) : Lens (c :: r) 0 [c] [c'] (c' :: r) := ⟨[], r, rfl, rfl, rfl⟩
theorem Lens.comp {cs m n n' m' cs' : List Value} {o1 o2 off : Nat} (h : Lens cs o1 m m' cs') (k : Lens m o2 n n' m') (ho : o1 + o2 = off) : Lens cs off n n' cs' := by
  obtain ⟨pre, post, h1, h2, h3⟩ := h
  obtain ⟨pre', post', k1, k2, k3⟩ := k
  exact ⟨pre ++ pre', post' ++ post, by simp [h1, k1], by simp [h2, k2], by simp [h3, k3, ho]⟩
theorem set_split {α : Type} : ∀ (l : List α) (i : Nat) (hi : i < l.length) (x : α), l = l.take i ++ (l[i] :: l.drop (i + 1)) ∧ l.set i x = l.take i ++ (x :: l.drop (i + 1))
  | [], i, hi, x => by simp at hi
  | a :: r, 0, hi, x => by simp
  | a :: r, i + 1, hi, x => by
    have := set_split r i (by simpa using hi) x
    simp only [List.getElem_cons_succ, List.take_succ_cons, List.drop_succ_cons, List.cons_append, List.set_cons_succ]
    exact ⟨by rw [← this.1], by rw [← this.2]⟩
theorem Lens.int {k : IntKind} {l : List Int} {i : Nat} (hi : i < l.length) (x : Int) : Lens (ints k l) i [.int k (l.getD i 0)] [.int k x] (ints k (l.set i x)) := by
  obtain ⟨h1, h2⟩ := set_split l i hi x
  refine ⟨ints k (l.take i), ints k (l.drop (i + 1)), ?_, ?_, by simp [ints]; omega⟩
  · have e : l.getD i 0 = l[i] := by simp [List.getD_eq_getElem?_getD, hi]
    rw [e]
    have h := congrArg (ints k) h1
    rw [h]
    simp only [ints, List.map_append, List.map_cons, List.singleton_append]
  · rw [h2]; simp only [ints, List.map_append, List.map_cons, List.singleton_append]
theorem flat_len {α : Type} {enc : α → List Value} {sz : Nat} (he : ∀ x, (enc x).length = sz) : ∀ l : List α, (l.flatMap enc).length = l.length * sz
  | [] => by simp
  | a :: r => by simp only [List.flatMap_cons, List.length_append, he, flat_len he r, List.length_cons, Nat.add_mul, Nat.one_mul]; omega
theorem Lens.elem {α : Type} {enc : α → List Value} {sz : Nat} (he : ∀ x, (enc x).length = sz) {l : List α} {i off : Nat} (d : α) (hi : i < l.length) (x : α) (ho : i * sz = off) :
    Lens (l.flatMap enc) off (enc (l.getD i d)) (enc x) ((l.set i x).flatMap enc) := by
  obtain ⟨h1, h2⟩ := set_split l i hi x
  refine ⟨(l.take i).flatMap enc, (l.drop (i + 1)).flatMap enc, ?_, ?_, ?_⟩
  · have e : l.getD i d = l[i] := by simp [List.getD_eq_getElem?_getD, hi]
    rw [e]
    have h := congrArg (List.flatMap enc) h1
    rw [h]
    simp only [List.flatMap_append, List.flatMap_cons]
  · rw [h2]; simp only [List.flatMap_append, List.flatMap_cons]
  · rw [flat_len he, List.length_take, Nat.min_eq_left (Nat.le_of_lt hi), ho]
/-- n elements from the i-th on. -/
theorem Lens.range {α : Type} {enc : α → List Value} {sz : Nat} (he : ∀ x, (enc x).length = sz) {l : List α} {i n off : Nat} (hi : i + n ≤ l.length) (ho : i * sz = off) (m : List α) (hm : m.length = n) :
    Lens (l.flatMap enc) off (((l.drop i).take n).flatMap enc) (m.flatMap enc) ((l.take i ++ (m ++ l.drop (i + n))).flatMap enc) := by
  refine ⟨(l.take i).flatMap enc, (l.drop (i + n)).flatMap enc, ?_, by simp, ?_⟩
  · rw [← List.flatMap_append, ← List.flatMap_append]
    congr 1
    rw [← List.drop_drop, List.take_append_drop, List.take_append_drop]
  · rw [flat_len he, List.length_take, Nat.min_eq_left (by omega), ho]
theorem ints_flat (k : IntKind) (l : List Int) : ints k l = l.flatMap (fun x => [Value.int k x]) := by
  induction l with
  | nil => rfl
  | cons a r ih => simp [ints] at ih ⊢; exact ih

def one : Value → Bool
  | .agg _ => false
  | .tuple _ => false
  | _ => true
theorem ints_one (k : IntKind) (l : List Int) : ∀ c ∈ ints k l, one c = true := by
  intro c hc
  obtain ⟨x, _, rfl⟩ := List.mem_map.1 hc
  rfl

/-! ### Reading and writing variables -/
section
variable {P : Program} {w : World}
theorem cell_of {b : Nat} {cs : List Value} {T : TypeId} {fr : Nat × Nat} (hb : w.heap[b]? = some (.cells cs.toArray T fr)) (o : Nat) : w.cell? ⟨b, o, none⟩ = cs[o]? := by
  simp [World.cell?, hb]
theorem run_load {a : Addr} {v : Value} (h : w.cell? a = some v) : (load a).run P w = .ok v w := by
  simp [load, Sem.run, h]
theorem add_none (b o i : Nat) : (⟨b, o, none⟩ : Addr).add i = ⟨b, o + i, none⟩ := by unfold Addr.add; split <;> simp_all
theorem run_loadCellsFrom (b o : Nat) : ∀ (m : List Value) (i : Nat) (acc : Array Value), (∀ j, j < m.length → w.cell? ⟨b, o + (i + j), none⟩ = m[j]?) →
    (loadCellsFrom ⟨b, o, none⟩ i m.length acc).run P w = .ok (acc ++ m.toArray) w
  | [], i, acc, h => by simp [loadCellsFrom]
  | c :: r, i, acc, h => by
    have h0 := h 0 (by simp)
    simp only [Nat.add_zero, List.getElem?_cons_zero] at h0
    simp only [List.length_cons, loadCellsFrom]
    rw [Sem.run_bind, add_none, run_load h0, Result.andThen_ok, run_loadCellsFrom b o r (i + 1) (acc.push c)]
    · simp
    · intro j hj
      have := h (j + 1) (by simpa using hj)
      simp only [List.getElem?_cons_succ] at this
      rw [show i + 1 + j = i + (j + 1) by omega]; exact this
theorem run_loadCells {b o : Nat} {cs m m' cs' : List Value} {T : TypeId} {fr : Nat × Nat} {n : Nat} (hb : w.heap[b]? = some (.cells cs.toArray T fr)) (hl : Lens cs o m m' cs') (hn : m.length = n) :
    (loadCells ⟨b, o, none⟩ n).run P w = .ok m.toArray w := by
  subst hn
  unfold loadCells
  rw [run_loadCellsFrom b o m 0 #[]]
  · simp
  · intro j hj
    obtain ⟨pre, post, h1, _, h3⟩ := hl
    rw [cell_of hb, h1, List.getElem?_append_right (by omega), List.getElem?_append_left (by omega)]
    congr 1
    omega
theorem run_underlying' {t : TypeId} {d : TypeDesc} (hu : P.underlying t = some d) : (underlying t).run P w = .ok d w := by
  exact run_underlying hu w
/-- The variable of one cell. -/
theorem loadVar_one {t : TypeId} {d : TypeDesc} {b o : Nat} {cs m' cs' : List Value} {v : Value} {T : TypeId} {fr : Nat × Nat} (hu : P.underlying t = some d) (hd : (match d with | .struct _ | .array _ _ => true | _ => false) = false)
    (hb : w.heap[b]? = some (.cells cs.toArray T fr)) (hl : Lens cs o [v] m' cs') : (loadVar t ⟨b, o, none⟩).run P w = .ok v w := by
  have hc : w.cell? ⟨b, o, none⟩ = some v := by
    obtain ⟨pre, post, h1, _, h3⟩ := hl
    rw [cell_of hb, h1, List.getElem?_append_right (by omega)]
    simp [h3]
  unfold loadVar isAgg
  rw [Sem.run_bind, Sem.run_bind, run_underlying hu, Result.andThen_ok]
  have hl := run_load (P := P) hc
  cases d <;> simp at hd <;> exact hl
theorem loadVar_agg {t : TypeId} {d : TypeDesc} {b o : Nat} {cs m m' cs' : List Value} {T : TypeId} {fr : Nat × Nat} (hu : P.underlying t = some d) (hd : (match d with | .struct _ | .array _ _ => true | _ => false) = true)
    (hs : ∀ w, (sizeOf t).run P w = .ok m.length w)
    (hb : w.heap[b]? = some (.cells cs.toArray T fr)) (hl : Lens cs o m m' cs') : (loadVar t ⟨b, o, none⟩).run P w = .ok (.agg m.toArray) w := by
  have h := run_loadCells (P := P) hb hl rfl
  unfold loadVar isAgg
  rw [Sem.run_bind, Sem.run_bind, run_underlying hu, Result.andThen_ok]
  cases d <;> simp at hd <;> simp [hs, h]

def unfrozen (fr : Nat × Nat) (n : Nat) : Prop := n ≤ fr.1 ∨ fr.2 ≤ fr.1
theorem frozen_of {b : Nat} {cs : List Value} {T : TypeId} {fr : Nat × Nat} (hb : w.heap[b]? = some (.cells cs.toArray T fr)) (hf : unfrozen fr cs.length) {o : Nat} (ho : o < cs.length) : w.frozen? ⟨b, o, none⟩ = false := by
  obtain ⟨lo, hi⟩ := fr
  simp only [World.frozen?, hb]
  unfold unfrozen at hf
  simp only at hf
  rw [Bool.and_eq_false_iff]
  simp only [decide_eq_false_iff_not]
  omega
theorem world_ext {w w' : World} (h1 : w.heap = w'.heap) (h2 : w.tape = w'.tape) (h3 : w.drawn = w'.drawn) (h4 : w.os = w'.os) (h5 : w.output = w'.output) : w = w' := by
  cases w; cases w'; simp at *; exact ⟨h1, h2, h3, h4, h5⟩
theorem setCell_lay {b : Nat} {cs : List Value} {T : TypeId} {fr : Nat × Nat} (hb : w.heap[b]? = some (.cells cs.toArray T fr)) (o : Nat) (v : Value) : w.setCell ⟨b, o, none⟩ v = layW w b (.cells (cs.set o v).toArray T fr) := by
  have hlt := at_lt hb
  refine world_ext ?_ rfl rfl rfl rfl
  simp only [World.setCell, layW]
  refine Array.ext_getElem? fun i => ?_
  rw [Array.getElem?_modify, Array.getElem?_setIfInBounds]
  by_cases hi : b = i
  · subst hi
    rw [if_pos rfl, if_pos rfl, if_pos hlt, hb]
    simp
  · rw [if_neg hi, if_neg hi]
theorem lay_lay (b : Nat) (o o' : Obj) : layW (layW w b o) b o' = layW w b o' := by
  refine world_ext ?_ rfl rfl rfl rfl
  show (w.heap.setIfInBounds b o).setIfInBounds b o' = w.heap.setIfInBounds b o'
  refine Array.ext_getElem? fun i => ?_
  rw [Array.getElem?_setIfInBounds, Array.getElem?_setIfInBounds, Array.getElem?_setIfInBounds, Array.size_setIfInBounds]
  split <;> rfl
theorem lay_self {b : Nat} {o : Obj} (hb : w.heap[b]? = some o) : layW w b o = w := by
  refine world_ext ?_ rfl rfl rfl rfl
  show w.heap.setIfInBounds b o = w.heap
  refine Array.ext_getElem? fun i => ?_
  rw [Array.getElem?_setIfInBounds]
  by_cases hi : b = i
  · subst hi
    rw [if_pos rfl, if_pos (at_lt hb), hb]
  · rw [if_neg hi]
theorem run_storeCells (b o : Nat) (T : TypeId) (fr : Nat × Nat) : ∀ (m : List Value) (i : Nat) (w : World) (pre old post : List Value), old.length = m.length → (∀ c ∈ m, one c = true) →
    w.heap[b]? = some (.cells (pre ++ (old ++ post)).toArray T fr) → pre.length = o + i → unfrozen fr (pre ++ (old ++ post)).length →
    (storeCells ⟨b, o, none⟩ m i).run P w = .ok () (layW w b (.cells (pre ++ (m ++ post)).toArray T fr))
  | [], i, w, pre, old, post, hlen, _, hb, hpre, hf => by
    have : old = [] := List.eq_nil_of_length_eq_zero (by simpa using hlen)
    subst this
    simp only [storeCells]
    rw [lay_self (by simpa using hb)]
    rfl
  | c :: r, i, w, pre, old, post, hlen, hone, hb, hpre, hf => by
    cases old with
    | nil => simp at hlen
    | cons d old =>
      simp only [storeCells]
      have hc1 : one c = true := hone c (by simp)
      have hst : (store ((⟨b, o, none⟩ : Addr).add i) c).run P w = .ok () (layW w b (.cells ((pre ++ [c]) ++ (old ++ post)).toArray T fr)) := by
        rw [add_none]
        have hcell : w.cell? ⟨b, o + i, none⟩ = some d := by
          rw [cell_of hb, List.getElem?_append_right (by omega)]; simp [hpre]
        have hfz : w.frozen? ⟨b, o + i, none⟩ = false := frozen_of hb hf (by simp; omega)
        have e : (store (⟨b, o + i, none⟩ : Addr) c).run P w = .ok () (w.setCell ⟨b, o + i, none⟩ c) := by
          unfold store
          cases c <;> simp [one] at hc1 <;> simp [Sem.run, hcell, hfz]
        rw [e, setCell_lay hb]
        congr 4
        rw [← hpre]
        simp
      rw [Sem.run_bind, hst, Result.andThen_ok]
      have := run_storeCells b o T fr r (i + 1) (layW w b (.cells ((pre ++ [c]) ++ (old ++ post)).toArray T fr)) (pre ++ [c]) old post (by simpa using hlen) (fun x hx => hone x (by simp [hx]))
        (lay_at hb) (by simp [hpre]; omega) (by
          have e : (pre ++ [c] ++ (old ++ post)).length = (pre ++ (d :: old ++ post)).length := by simp
          rw [e]; exact hf)
      rw [this, lay_lay]
      simp
/-- A store. -/
theorem storeVar_run {t : TypeId} {b o : Nat} {cs m m' cs' : List Value} {T : TypeId} {fr : Nat × Nat} {v : Value} (hs : ∀ w, (sizeOf t).run P w = .ok m'.length w)
    (hb : w.heap[b]? = some (.cells cs.toArray T fr)) (hl : Lens cs o m m' cs') (hm : m.length = m'.length) (hv : v.cells = m'.toArray) (h1 : ∀ c ∈ m', one c = true) (hf : unfrozen fr cs.length) :
    (storeVar t ⟨b, o, none⟩ v).run P w = .ok () (layW w b (.cells cs'.toArray T fr)) := by
  obtain ⟨pre, post, e1, e2, e3⟩ := hl
  subst e1
  unfold storeVar
  rw [Sem.run_bind, hs, Result.andThen_ok]
  simp only [hv, List.size_toArray, ne_eq, not_true_eq_false, if_false]
  rw [run_storeCells b o T fr m' 0 w pre m post hm h1 hb (by omega) hf, e2]
end

/-! ### The operations -/
section
variable {P : Program} {w : World} {ρ : Operand → Value} {d : Option Tmp} {ty : TypeId} {pos : String} {af : Array Edge} {g : Option (Nat × Bool)}
theorem ex_load {t : TypeId} {x : Operand} {ad : Addr} {v : Value} (hx : ρ x = .pointer (some ad)) (h : (loadVar t ad).run P w = .ok v w) :
    (execOp ρ ⟨d, .load t x, ty, pos, af, g⟩).run P w = .ok (.value v) w := by
  simp only [execOp, hx, Instr.loadAt, Instr.sureAddr]
  rw [Sem.run_bind]
  show ((loadVar t ad).run P w).andThen _ = _
  rw [h]; rfl
theorem ex_store {t : TypeId} {x y : Operand} {ad : Addr} {v : Value} {w' : World} (hx : ρ x = .pointer (some ad)) (hy : ρ y = v) (h : (storeVar t ad v).run P w = .ok () w') :
    (execOp ρ ⟨d, .store t x y, ty, pos, af, g⟩).run P w = .ok .skip w' := by
  simp only [execOp, hx, hy, Instr.storeAt, Instr.sureAddr]
  rw [Sem.run_bind]
  show ((storeVar t ad v).run P w).andThen _ = _
  rw [h]; rfl
theorem ex_box {t : TypeId} {x : Operand} {v : Value} (hx : ρ x = v) :
    (execOp ρ ⟨d, .box t x, ty, pos, af, g⟩).run P w = .ok (.value (.pointer (some ⟨w.heap.size, 0, none⟩))) (w.alloc (.cells v.cells t)) := by
  simp only [execOp, hx, Instr.box, newVar, newRow]
  rfl
theorem ex_alloc {t : TypeId} {z : Value} (hz : ∀ w, (zeroValue t).run P w = .ok z w) :
    (execOp ρ ⟨d, .alloc t, ty, pos, af, g⟩).run P w = .ok (.value (.pointer (some ⟨w.heap.size, 0, none⟩))) (w.alloc (.cells z.cells t)) := by
  simp only [execOp, Instr.alloc]
  rw [Sem.run_bind, Sem.run_bind, hz]
  rfl
theorem ex_call {c : Call} {f : FuncId} {args : List Value} (hc : c.callee = .value (.func f)) (ha : (c.args.map ρ) = args.toArray) (hρ : ρ (.func f) = .func (.func f) #[] #[])
    (h : ∀ a w, (callFunc f a).run P w = .ok (.enter f a) w) : (execOp ρ ⟨d, .call c, ty, pos, af, g⟩).run P w = .ok (.enter f args.toArray) w := by
  simp only [execOp, resolve, hc, ha, hρ, Deferred.ofValue]
  rw [Sem.run_bind]
  show ((invoke (.fn (.func f) #[]) (#[] ++ args.toArray)).run P w) = _
  simp only [invoke]
  rw [h]
  simp
end
end Go.Proofs.Ythbcjjhlebhghaa.Walk
