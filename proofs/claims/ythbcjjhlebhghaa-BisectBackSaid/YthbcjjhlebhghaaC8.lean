/- The laws of a judgement on the machine's code over named slots: own work, for the walks. -/
import Derived.Test.YthbcjjhlebhghaaC7
import Derived.Laws.RangeString
namespace Go.Proofs.Ythbcjjhlebhghaa.Walk
open Go
section
variable {P : Program} {w : World} {ρ : Operand → Value} {d : Option Tmp} {ty : TypeId} {pos : String} {af : Array Edge} {g : Option (Nat × Bool)}
theorem fold_lens : ∀ (m' m pre post : List Value) (k off : Nat), off + k = pre.length → m.length = m'.length →
    (m'.zipIdx k).foldl (fun (cs : Array Value) (x : Value × Nat) => cs.setIfInBounds (off + x.2) x.1) (pre ++ (m ++ post)).toArray = (pre ++ (m' ++ post)).toArray := by
  intro m'
  induction m' with
  | nil => intro m pre post k off _ h; have : m = [] := List.eq_nil_of_length_eq_zero (by simpa using h); subst this; rfl
  | cons c m' ih =>
    intro m pre post k off h1 h2
    cases m with
    | nil => simp at h2
    | cons x m =>
      rw [List.zipIdx_cons, List.foldl_cons]
      have e : (pre ++ (x :: m ++ post)).toArray.setIfInBounds (off + k) c = ((pre ++ [c]) ++ (m ++ post)).toArray := by
        rw [List.setIfInBounds_toArray, h1]; simp
      rw [e, ih m (pre ++ [c]) post (k + 1) off (by simp; omega) (by simpa using h2)]
      simp
inductive Fill (place : Nat → Option (Nat × Nat)) : List Value → List (Nat × Value) → List Value → Prop where
  | nil (cs : List Value) : Fill place cs [] cs
  | cons {cs m m' cs1 cs2 : List Value} {i off n : Nat} {v : Value} {rest : List (Nat × Value)} : place i = some (off, n) → v.cells = m'.toArray → Lens cs off m m' cs1 → m.length = n → m'.length = n →
      Fill place cs1 rest cs2 → Fill place cs ((i, v) :: rest) cs2
theorem Fill.eq {place : Nat → Option (Nat × Nat)} {cs cs' : List Value} {l : List (Nat × Value)} (h : Fill place cs l cs') : Instr.fill place cs.toArray l = some cs'.toArray := by
  induction h with
  | nil => rfl
  | @cons cs m m' cs1 cs2 i off n v rest hp hv hl hm hm' _ ih =>
    obtain ⟨pre, post, h1, h2, h3⟩ := hl
    simp only [Instr.fill, hp, hv]
    rw [if_neg, ← ih, h1, h2]
    · congr 1
      have := fold_lens m' m pre post 0 off (by omega) (by omega)
      rw [← this]
      have e2 : List.mapIdx (fun i a => (a, i)) m' = m'.zipIdx := by apply List.ext_getElem? ; intro i; simp [List.getElem?_mapIdx, List.getElem?_zipIdx]
      simp [Array.zipIdx, e2]
    · simp only [h1, List.size_toArray, List.length_append]; simp; omega
theorem ex_build {t : TypeId} {ps : Array (Nat × Operand)} {vs : List (Nat × Value)} {flds : Array Field} {z : Value} {cs cs' : List Value} {pl : Array (Nat × Nat)} (hu : P.underlying t = some (.struct flds))
    (hp : (ps.toList.map fun (i, x) => (i, ρ x)) = vs) (hz : ∀ w, (zeroValue t).run P w = .ok z w) (hc : z.cells = cs.toArray)
    (hpl : ∀ w, (flds.mapM (fun (f : Field) => (do pure (f.offset, ← sizeOf f.type) : Sem (Nat × Nat)))).run P w = .ok pl w) (hf : Fill (pl[·]?) cs vs cs') :
    (execOp ρ ⟨d, .build t ps, ty, pos, af, g⟩).run P w = .ok (.value (.agg cs'.toArray)) w := by
  have hp' : (ps.map fun (i, x) => (i, ρ x)).toList = vs := by rw [← hp]; simp
  simp only [execOp, Instr.build, Sem.run_bind, hz, Result.andThen_ok, run_underlying hu, hpl, hp', hc, hf.eq]
  rfl
theorem ex_buildArr0 {t T : TypeId} {N : Nat} {z : Value} {cs : List Value} (hu : P.underlying t = some (.array N T)) (hsz : ∀ w, (sizeOf T).run P w = .ok 1 w) (hz : ∀ w, (zeroValue t).run P w = .ok z w) (hc : z.cells = cs.toArray) :
    (execOp ρ ⟨d, .build t #[], ty, pos, af, g⟩).run P w = .ok (.value (.agg cs.toArray)) w := by
  simp only [execOp, Instr.build, Sem.run_bind, hz, Result.andThen_ok, run_underlying hu, hsz, hc]
  simp [Instr.fill]
theorem ex_buildRow {t T : TypeId} {x : Operand} {v z : Value} (hu : P.underlying t = some (.slice T)) (hsz : ∀ w, (sizeOf T).run P w = .ok 1 w) (hz : ∀ w, (zeroValue T).run P w = .ok z w) (hzc : z.cells = #[z]) (hx : ρ x = v) (hv : v.cells = #[v]) :
    ∃ u w', (execOp ρ ⟨d, .buildSlice t 1 #[(0, x)], ty, pos, af, g⟩).run P w = .ok (.value u) w' ∧ ∃ b, u = .slice (some ⟨b, 0, none⟩) 1 1 ∧ New w (.cells [v].toArray T (0, 0)) b w' := by
  refine ⟨_, _, ?_, w.heap.size, rfl, New.mk_ _ _⟩
  have hr : (Array.range (1 * 1)).map (z.cells[· % z.cells.size]!) = [z].toArray := by rw [hzc]; apply Array.ext'; simp [List.range, List.range.loop]
  have hf : Instr.fill (fun i => some (i * 1, 1)) [z].toArray [(0, v)] = some [v].toArray :=
    Fill.eq (Fill.cons (m := [z]) (m' := [v]) rfl hv (Lens.one _ _ _) rfl rfl (Fill.nil _))
  have hb : (Instr.buildSlice t 1 #[(0, v)]).run P w = .ok (.slice (some ⟨w.heap.size, 0, none⟩) 1 1) (w.alloc (.cells [v].toArray T (0, 0))) := by
    simp only [Instr.buildSlice, Sem.run_bind, run_underlying hu, Result.andThen_ok, hsz]
    rw [if_neg (by decide), if_neg (by decide)]
    simp only [Sem.run_bind, hz, Result.andThen_ok, pure_bind, bind_assoc, Sem.run_pure, hr, hf]
    rfl
  have e : ((#[(0, x)] : Array (Nat × Operand)).map fun (i, x) => (i, ρ x)) = #[(0, v)] := by simp [hx]
  simp only [execOp, e, Sem.run_bind, hb, Result.andThen_ok]
  rfl
theorem ex_indexAddr1 {t T : TypeId} {sz : Nat} {x y : Operand} {cap b : Nat} {k : IntKind} {i : Int} (ht : P.underlying t = some (.slice T)) (hsz : ∀ w, (sizeOf T).run P w = .ok sz w) (hx : ρ x = .slice (some ⟨b, 0, none⟩) 1 cap)
    (hy : ρ y = .int k i) (h0 : 0 ≤ i) (h1 : i < 1) : (execOp ρ ⟨d, .indexAddr t x y, ty, pos, af, g⟩).run P w = .ok (.value (.pointer (some ⟨b, 0, none⟩))) w := by
  obtain rfl : i = 0 := by omega
  have := ex_indexAddr (P := P) (w := w) (d := d) (ty := ty) (pos := pos) (af := af) (g := g) ht hsz hx rfl hy h0 (n := 1) (by omega)
  simpa using this
/-- Range over a string. -/
theorem ex_rangeStr {t : TypeId} {x : Operand} {s : ByteArray} (hu : P.underlying t = some .string) (hx : ρ x = .string s) :
    ∃ v w', (execOp ρ ⟨d, .range t x, ty, pos, af, g⟩).run P w = .ok (.value v) w' ∧ ∃ b, v = .pointer (some ⟨b, 0, none⟩) ∧ New w (.stringIter s 0) b w' := by
  refine ⟨_, _, ?_, w.heap.size, rfl, New.mk_ _ _⟩
  simp only [execOp, hx, Sem.run_bind, run_range_string w t s hu, Result.andThen_ok]
  rfl
theorem ex_nextT {x : Operand} {b i : Nat} {s : ByteArray} (hx : ρ x = .pointer (some ⟨b, 0, none⟩)) (hb : w.heap[b]? = some (.stringIter s i)) (hi : decide (i < s.size) = true) :
    ∃ v w', (execOp ρ ⟨d, .next x true, ty, pos, af, g⟩).run P w = .ok (.value v) w' ∧ (v = .tuple #[.bool true, .int .i64 ((i : Nat) : Int), .int .i32 (((Utf8.decode s i).1 : Nat) : Int)] ∧ Fr [some b] w w' ∧ w'.heap[b]? = some (.stringIter s (i + (Utf8.decode s i).2))) := by
  refine ⟨_, layW w b (.stringIter s (i + (Utf8.decode s i).2)), ?_, rfl, Fr.laid _ _ _, lay_at hb⟩
  have hlt := at_lt hb
  simp only [execOp, hx, Instr.next, getObj, setObj, Sem.run_bind, Sem.run, hb, Result.andThen, of_decide_eq_true hi, if_true, hlt]
  rfl
theorem ex_nextF {x : Operand} {b i : Nat} {s : ByteArray} (hx : ρ x = .pointer (some ⟨b, 0, none⟩)) (hb : w.heap[b]? = some (.stringIter s i)) (hi : decide (i < s.size) = false) :
    (execOp ρ ⟨d, .next x true, ty, pos, af, g⟩).run P w = .ok (.value (.tuple #[.bool false])) w := by
  simp only [execOp, hx, Instr.next, getObj, Sem.run_bind, Sem.run, hb, Result.andThen, of_decide_eq_false hi, if_false]
  rfl
end
end Go.Proofs.Ythbcjjhlebhghaa.Walk
