/- The laws of a judgement on the machine's code over named slots: own work, for the walks. -/
import Derived.Test.YthbcjjhlebhghaaC3
import Derived.Laws.AppendOwn
import Derived.Laws.AppendOwnNone
import Derived.Maps.AppendAt
import Derived.Laws.MakeOwn
import Derived.Stop.BytesEq
import Derived.Laws.BytesArg
namespace Go.Proofs.Ythbcjjhlebhghaa.Walk
open Go

/-! ### Footprints -/
def ablk (A : Option Addr) : Option Nat := A.map (·.block)
def rblk (A : Option Addr) (n : Nat) : Option Nat := if n = 0 then none else ablk A
def Ap (x y : Option Nat) : Prop := ∀ k, x = some k → y ≠ some k
def Lt (x : Option Nat) (m : Nat) : Prop := ∀ k, x = some k → k < m
def Ge (x : Option Nat) (m : Nat) : Prop := ∀ k, x = some k → m ≤ k
theorem Ap.new {x y : Option Nat} {m : Nat} (h : Lt x m) (g : Ge y m) : Ap x y := fun k hk hy => by have := h k hk; have := g k hy; omega
theorem Ap.symm {x y : Option Nat} (h : Ap x y) : Ap y x := fun k hk hx => h k hx hk
theorem Ap.none (y : Option Nat) : Ap none y := fun k hk => by cases hk
theorem Lt.one {b m : Nat} (h : b < m) : Lt (some b) m := fun k hk => by cases hk; exact h
theorem Ge.one {b m : Nat} (h : m ≤ b) : Ge (some b) m := fun k hk => by cases hk; exact h
theorem Lt.mono {x : Option Nat} {m m' : Nat} (h : Lt x m) (hm : m ≤ m') : Lt x m' := fun k hk => Nat.lt_of_lt_of_le (h k hk) hm
theorem Ge.mono {x : Option Nat} {m m' : Nat} (h : Ge x m) (hm : m' ≤ m) : Ge x m' := fun k hk => Nat.le_trans hm (h k hk)
theorem Ap.rblk {A : Option Addr} {n : Nat} {y : Option Nat} (h : Ap (ablk A) y) : Ap (rblk A n) y := by
  unfold Walk.rblk; split; exact Ap.none _; exact h
theorem Ge.rblk {A : Option Addr} {n m : Nat} (h : Ge (ablk A) m) : Ge (rblk A n) m := by
  unfold Walk.rblk; split; exact (fun k hk => by cases hk); exact h
/-- x is nothing, or new from m on, or one of those of l. -/
def Src (x : Option Nat) (m : Nat) (l : List (Option Nat)) : Prop := x = none ∨ (∃ k, x = some k ∧ m ≤ k) ∨ x ∈ l
theorem Src.ap {x y : Option Nat} {m : Nat} {l : List (Option Nat)} (h : Src x m l) (hy : Lt y m) (hl : ∀ z ∈ l, Ap z y) : Ap x y := by
  rcases h with rfl | ⟨k, rfl, hk⟩ | h
  · exact Ap.none _
  · exact (Ap.new hy (Ge.one hk)).symm
  · exact hl x h
theorem Src.ge {x : Option Nat} {m m' : Nat} {l : List (Option Nat)} (h : Src x m l) (hm : m' ≤ m) (hl : ∀ z ∈ l, Ge z m') : Ge x m' := by
  rcases h with rfl | ⟨k, rfl, hk⟩ | h
  · intro k hk; cases hk
  · exact Ge.one (Nat.le_trans hm hk)
  · exact hl x h
theorem Src.of_ge {x : Option Nat} {m : Nat} (l : List (Option Nat)) (h : Ge x m) : Src x m l := by
  cases x with
  | none => exact .inl rfl
  | some k => exact .inr (.inl ⟨k, rfl, h k rfl⟩)
theorem Src.trans {x : Option Nat} {m m' : Nat} {l l' : List (Option Nat)} (h : Src x m l) (hm : m' ≤ m) (hl : ∀ z ∈ l, Src z m' l') : Src x m' l' := by
  rcases h with rfl | ⟨k, rfl, hk⟩ | h
  · exact .inl rfl
  · exact .inr (.inl ⟨k, rfl, Nat.le_trans hm hk⟩)
  · exact hl x h
def ApL (x : Option Nat) : List (Option Nat) → Prop
  | [] => True
  | y :: r => Ap x y ∧ ApL x r
theorem ApL.not {x : Option Nat} : ∀ {S : List (Option Nat)}, ApL x S → ∀ k, x = some k → some k ∉ S
  | [], _, k, _, h => by cases h
  | y :: r, hs, k, hk, h => by
    rcases List.mem_cons.1 h with h | h
    · exact hs.1 k hk h.symm
    · exact ApL.not hs.2 k hk h

/-! ### Slices that are read -/
structure Rd (w : World) (sz : Nat) (A : Option Addr) (n cap : Nat) (cs : List Value) : Prop where
  le : n ≤ cap
  max : cap ≤ 9223372036854775807
  len : cs.length = n * sz
  mem : n = 0 ∨ ∃ b o pre post T fr, A = some ⟨b, o, none⟩ ∧ w.heap[b]? = some (.cells (pre ++ (cs ++ post)).toArray T fr) ∧ pre.length = o
theorem Rd.fr {w w' : World} {sz : Nat} {A : Option Addr} {n cap : Nat} {cs : List Value} {S : List (Option Nat)} (h : Rd w sz A n cap cs) (F : Fr S w w') (ap : ApL (rblk A n) S) : Rd w' sz A n cap cs := by
  refine ⟨h.le, h.max, h.len, ?_⟩
  rcases h.mem with h0 | ⟨b, o, pre, post, T, fr, hA, hb, ho⟩
  · exact .inl h0
  · by_cases hn : n = 0
    · exact .inl hn
    · exact .inr ⟨b, o, pre, post, T, fr, hA, F.at hb (ap.not b (by simp [rblk, hn, hA, ablk])), ho⟩
theorem Rd.lt {w : World} {sz : Nat} {A : Option Addr} {n cap : Nat} {cs : List Value} (h : Rd w sz A n cap cs) : Lt (rblk A n) w.heap.size := by
  intro k hk
  rcases h.mem with h0 | ⟨b, o, pre, post, T, fr, hA, hb, ho⟩
  · simp [rblk, h0] at hk
  · unfold rblk at hk
    split at hk
    · cases hk
    · simp [ablk, hA] at hk; subst hk; exact at_lt hb
theorem Rd.nil (w : World) (sz : Nat) : Rd w sz none 0 0 [] := ⟨Nat.le_refl _, by omega, by simp, .inl rfl⟩
/-- An element's place, and what lies there. -/
theorem Rd.place {w : World} {sz : Nat} {A : Option Addr} {n cap : Nat} {cs : List Value} (h : Rd w sz A n cap cs) (hn : 0 < n) : ∃ b o, A = some ⟨b, o, none⟩ := by
  rcases h.mem with h0 | ⟨b, o, pre, post, T, fr, hA, hb, ho⟩
  · omega
  · exact ⟨b, o, hA⟩
theorem Rd.lens {w : World} {sz : Nat} {A : Option Addr} {n cap b o off : Nat} {cs m m' cs' : List Value} (h : Rd w sz A n cap cs) (hn : 0 < n) (hA : A = some ⟨b, o, none⟩) (hl : Lens cs off m m' cs') :
    ∃ all all' T fr, w.heap[b]? = some (.cells all.toArray T fr) ∧ Lens all (o + off) m m' all' := by
  rcases h.mem with h0 | ⟨b', o', pre, post, T, fr, hA', hb, ho⟩
  · omega
  · rw [hA] at hA'
    simp only [Option.some.injEq, Addr.mk.injEq, and_true] at hA'
    obtain ⟨rfl, rfl⟩ := hA'
    exact ⟨_, _, T, fr, hb, Lens.comp (Lens.skip ho (Lens.head cs cs' post) (Nat.add_zero _)) hl rfl⟩
def lget (l : List Int) (i : Int) : Int := l.getD i.toNat 0
theorem Rd.loadInt {P : Program} {w : World} {A : Option Addr} {cap b o : Nat} {k : IntKind} {l : List Int} {t : TypeId} (h : Rd w 1 A l.length cap (ints k l)) (hA : A = some ⟨b, o, none⟩) {i : Int} (h0 : 0 ≤ i) (h1 : i < l.length)
    (hu : P.underlying t = some (.int k)) : (loadVar t ⟨b, o + i.toNat * 1, none⟩).run P w = .ok (.int k (lget l i)) w := by
  obtain ⟨all, all', T, fr, hb, hl⟩ := h.lens (by omega) hA (Lens.int (k := k) (l := l) (i := i.toNat) (by omega) 0)
  rw [Nat.mul_one]
  exact loadVar_one hu rfl hb hl
theorem Rd.loadCells {P : Program} {w : World} {sz : Nat} {A : Option Addr} {n cap b o : Nat} {cs : List Value} (h : Rd w sz A n cap cs) (hA : A = some ⟨b, o, none⟩) (hn : 0 < n) : (loadCells ⟨b, o, none⟩ (n * sz)).run P w = .ok cs.toArray w := by
  obtain ⟨all, all', T, fr, hb, hl⟩ := h.lens hn hA (Lens.all cs cs)
  exact run_loadCells hb hl h.len
theorem Rd.cells {w : World} {sz : Nat} {A : Option Addr} {n cap b o : Nat} {cs : List Value} (h : Rd w sz A n cap cs) (hA : A = some ⟨b, o, none⟩) (hn : 0 < n) : ∀ j u, cs[j]? = some u → w.cell? ((⟨b, o, none⟩ : Addr).add j) = some u := by
  intro j u hj
  obtain ⟨all, all', T, fr, hb, hl⟩ := h.lens hn hA (Lens.all cs cs)
  obtain ⟨pre, post, h1, _, h3⟩ := hl
  have hjl : j < cs.length := by
    rcases Nat.lt_or_ge j cs.length with h | h
    · exact h
    · simp [List.getElem?_eq_none h] at hj
  rw [add_none, cell_of hb, h1, List.getElem?_append_right (by omega), List.getElem?_append_left (by omega)]
  rw [show o + j - pre.length = j by omega]; exact hj

/-! ### Slices of the call's own -/
def Own (w : World) (T : TypeId) (sz : Nat) (A : Option Addr) (n cap : Nat) (cs : List Value) : Prop := w.ownsRow 0 T sz (.slice A n cap) n cs
theorem Own.nil (w : World) (T : TypeId) (sz : Nat) : Own w T sz none 0 0 [] := World.ownsRow_nil _ _ _ _
theorem Own.fr {w w' : World} {T : TypeId} {sz : Nat} {A : Option Addr} {n cap : Nat} {cs : List Value} {S : List (Option Nat)} (h : Own w T sz A n cap cs) (F : Fr S w w') (ap : ApL (ablk A) S) : Own w' T sz A n cap cs := by
  refine ⟨h.1, ?_⟩
  rcases h.2 with h2 | ⟨g, cap', cur, hv, hg, hh, r⟩
  · exact .inl h2
  · have hv' := hv
    simp only [Value.slice.injEq] at hv
    obtain ⟨rfl, _, rfl⟩ := hv
    exact .inr ⟨g, cap, cur, hv', hg, F.at hh (ap.not g rfl), r⟩
theorem Own.lt {w : World} {T : TypeId} {sz : Nat} {A : Option Addr} {n cap : Nat} {cs : List Value} (h : Own w T sz A n cap cs) : Lt (ablk A) w.heap.size := by
  intro k hk
  rcases h.2 with ⟨h2, _⟩ | ⟨g, cap', cur, hv, hg, hh, r⟩
  · simp only [Value.slice.injEq] at h2
    simp [ablk, h2.1] at hk
  · simp only [Value.slice.injEq] at hv
    obtain ⟨rfl, _, rfl⟩ := hv
    simp [ablk] at hk; subst hk; exact at_lt hh
theorem Own.rd {w : World} {T : TypeId} {sz : Nat} {A : Option Addr} {n cap : Nat} {cs : List Value} (h : Own w T sz A n cap cs) : Rd w sz A n cap cs := by
  rcases h.2 with ⟨h2, h3⟩ | ⟨g, cap', cur, hv, hg, hh, hle, hmax, hcs, ht⟩
  · simp only [Value.slice.injEq] at h2
    obtain ⟨rfl, rfl, rfl⟩ := h2
    exact ⟨Nat.le_refl _, by omega, h.1, .inl rfl⟩
  · simp only [Value.slice.injEq] at hv
    obtain ⟨rfl, _, rfl⟩ := hv
    refine ⟨hle, by simpa [maxLen] using hmax, h.1, .inr ⟨g, 0, [], cur.toList.drop (n * sz), T, (0, 0), rfl, ?_, rfl⟩⟩
    rw [hh, ← ht]
    simp
theorem Own.apR {w : World} {T : TypeId} {sz : Nat} {A : Option Addr} {n cap : Nat} {cs : List Value} (h : Own w T sz A n cap cs) {y : Option Nat} (ap : Ap (ablk A) y) : Ap (rblk A n) y := ap.rblk
/-- A block laid with nothing but it. -/
theorem Own.made {w : World} {T : TypeId} {sz n cap b : Nat} {cs sp : List Value} (hb : w.heap[b]? = some (.cells (cs ++ sp).toArray T (0, 0))) (hl : cs.length = n * sz) (hc : (cs ++ sp).length = cap * sz) (hle : n ≤ cap) (hm : cap ≤ 9223372036854775807) :
    Own w T sz (some ⟨b, 0, none⟩) n cap cs := by
  refine ⟨hl, .inr ⟨b, cap, _, rfl, Nat.zero_le _, hb, hle, by simpa [maxLen] using hm, by simpa using hc, ?_⟩⟩
  rw [← hl]; simp
theorem Own.place {w : World} {T : TypeId} {sz : Nat} {A : Option Addr} {n cap : Nat} {cs : List Value} (h : Own w T sz A n cap cs) (hn : 0 < n) : ∃ b, A = some ⟨b, 0, none⟩ := by
  rcases h.2 with ⟨h2, h3⟩ | ⟨g, cap', cur, hv, _⟩
  · omega
  · simp only [Value.slice.injEq] at hv
    exact ⟨g, hv.1⟩
/-- A store into an element. -/
theorem Own.store {P : Program} {w : World} {T t : TypeId} {sz : Nat} {n cap b off : Nat} {cs m m' cs' : List Value} {v : Value} (h : Own w T sz (some ⟨b, 0, none⟩) n cap cs) (hl : Lens cs off m m' cs') (hm : m.length = m'.length)
    (hs : ∀ w, (sizeOf t).run P w = .ok m'.length w) (hv : v.cells = m'.toArray) (h1 : ∀ c ∈ m', one c = true) :
    ∃ w', (storeVar t ⟨b, off, none⟩ v).run P w = .ok () w' ∧ Fr [some b] w w' ∧ Own w' T sz (some ⟨b, 0, none⟩) n cap cs' := by
  rcases h.2 with ⟨h2, h3⟩ | ⟨g, cap', cur, hv', hg, hh, hle, hmax, hcs, ht⟩
  · simp at h2
  · simp only [Value.slice.injEq, Option.some.injEq, Addr.mk.injEq, and_true] at hv'
    obtain ⟨rfl, _, rfl⟩ := hv'
    have hsplit : cur.toList = cs ++ cur.toList.drop (n * sz) := by conv => lhs; rw [← List.take_append_drop (n * sz) cur.toList, ht]
    have hb : w.heap[b]? = some (.cells (cs ++ cur.toList.drop (n * sz)).toArray T (0, 0)) := by rw [hh, ← hsplit]
    have hl' := Lens.comp (Lens.head cs cs' (cur.toList.drop (n * sz))) hl (Nat.zero_add off)
    refine ⟨_, storeVar_run hs hb hl' hm hv h1 (.inr (Nat.le_refl _)), Fr.laid _ _ _, ?_⟩
    have hlen : cs'.length = cs.length := by
      obtain ⟨pre, post, e1, e2, _⟩ := hl
      rw [e1, e2]; simp [hm]
    refine Own.made (lay_at hb) (by rw [hlen]; exact h.1) ?_ hle (by simpa [maxLen] using hmax)
    have : (cs ++ cur.toList.drop (n * sz)).length = cap * sz := by rw [← hsplit]; simpa using hcs
    rw [List.length_append, hlen, ← List.length_append]; exact this
theorem Own.takeN {w : World} {T : TypeId} {sz : Nat} {A : Option Addr} {n cap m : Nat} {cs : List Value} (h : Own w T sz A n cap cs) (hm : m ≤ n) : Own w T sz A m cap (cs.take (m * sz)) := by
  have hmn : m * sz ≤ n * sz := Nat.mul_le_mul_right _ hm
  have h1 := h.1
  rcases h.2 with ⟨h2, h3⟩ | ⟨g, cap', cur, hv', hg, hh, hle, hmax, hcs, ht⟩
  · simp only [Value.slice.injEq] at h2
    obtain ⟨rfl, rfl, rfl⟩ := h2
    obtain rfl : m = 0 := by omega
    refine ⟨by simp, .inl ⟨rfl, rfl⟩⟩
  · simp only [Value.slice.injEq] at hv'
    obtain ⟨rfl, _, rfl⟩ := hv'
    refine ⟨by rw [List.length_take]; omega, .inr ⟨g, cap, cur, rfl, hg, hh, by omega, hmax, hcs, ?_⟩⟩
    rw [← ht, List.take_take, Nat.min_eq_left hmn]

/-! ### append -/
theorem zeros_size (z : Value) : True := trivial
structure Appended (w : World) (T : TypeId) (sz : Nat) (A : Option Addr) (n : Nat) (cs : List Value) (v : Value) (w' : World) : Prop where
  mk' :: (out : ∃ A' cap', v = .slice A' n cap' ∧ Own w' T sz A' n cap' cs ∧ Fr [ablk A] w w' ∧ Src (ablk A') w.heap.size [ablk A])
theorem own_of_row {w : World} {T : TypeId} {sz n : Nat} {v : Value} {cs : List Value} (h : w.ownsRow 0 T sz v n cs) : ∃ A cap, v = .slice A n cap ∧ Own w T sz A n cap cs := by
  rcases h.2 with ⟨rfl, rfl⟩ | ⟨g, cap', cur, rfl, r⟩
  · exact ⟨none, 0, rfl, h⟩
  · exact ⟨_, _, rfl, h⟩
/-- append, onto what is the call's own, of what is read. -/
theorem run_append {P : Program} {w : World} {t ty T : TypeId} {i : TypeInfo} {z : Value} {sz bytes : Nat} (ht : P.underlying t = some (.slice T)) (hi : P.info? T = some i) (hz : i.zero = some z)
    (hsize : i.size = sz) (hby : i.bytes = bytes) (hzs : z.cells.size = sz) (hsz : 0 < sz) {A A2 : Option Addr} {n cap m c : Nat} {cs cs2 : List Value} (hown : Own w T sz A n cap cs) (hrd : Rd w sz A2 m c cs2) (h1 : ∀ u ∈ cs2, one u = true)
    (hbytes : (n + m) * bytes ≤ 140737488355328) (h63 : n + m ≤ 9223372036854775807) :
    ∃ v w', (Builtin.append_ #[t, t] ty #[.slice A n cap, .slice A2 m c]).run P w = .ok v w' ∧ Appended w T sz A (n + m) (cs ++ cs2) v w' := by
  by_cases hm : m = 0
  · subst hm
    have hcs2 : cs2 = [] := List.eq_nil_of_length_eq_zero (by simpa using hrd.len)
    subst hcs2
    refine ⟨.slice A n cap, w, ?_, ⟨A, cap, by simp, by simpa using hown, Fr.refl _ _, .inr (.inr (by simp))⟩⟩
    have hle := hown.rd.le
    have hfc : (Builtin.firstCells sz 0 (.slice A2 0 c)).run P w = .ok #[] w := by
      cases A2 <;> simp [Builtin.firstCells, loadCells, loadCellsFrom]
    cases A with
    | none => simp [Builtin.append_, run_underlying ht, sizeOf, typeInfo, hi, hsize, Builtin.lenOf, hle, hfc]
    | some a => simp [Builtin.append_, run_underlying ht, sizeOf, typeInfo, hi, hsize, Builtin.lenOf, hle, hfc, storeCells]
  · obtain ⟨b, o, hA⟩ := hrd.place (by omega)
    subst hA
    obtain ⟨v, w', hr, how, hg, _, hat⟩ := run_append_own_at (P := P) w 0 t ty T i z sz bytes ht hi hz hsize hby hzs hsz (.slice A n cap) n cs hown ⟨b, o, none⟩ m c cs2 hrd.len (hrd.cells rfl (by omega))
      (fun u hu => by have := h1 u hu; cases u <;> first | rfl | simp [one] at this) (by simpa [maxLen] using h63) hbytes (Nat.zero_le _)
    obtain ⟨A', cap', rfl, how'⟩ := own_of_row how
    have hown' : Value.ownBlock (.slice A n cap) = ablk A := by cases A <;> rfl
    rw [hown'] at hg
    refine ⟨_, _, hr, ⟨A', cap', rfl, how', ⟨hg.os, hg.tape, hg.output, hg.size, fun k hk hn => hg.block k hk (fun e => hn (by simp [e]))⟩, ?_⟩⟩
    have hA' : Value.ownBlock (.slice A' (n + m) cap') = ablk A' := by cases A' <;> rfl
    rw [hA', hown'] at hat
    rcases hat with hat | hat
    · exact .inr (.inr (by simp [hat]))
    · exact .inr (.inl ⟨_, hat, Nat.le_refl _⟩)

/-! ### The operations on slices, arrays and strings, as they run -/
section
variable {P : Program} {w : World} {ρ : Operand → Value} {d : Option Tmp} {ty : TypeId} {pos : String} {af : Array Edge} {g : Option (Nat × Bool)}
theorem ex_builtin {b : Builtin} {args : Array Operand} {ats : Array TypeId} {vs : Array Value} {v : Value} {w' : World} (ha : args.map ρ = vs)
    (h : (builtin b ats ty (args.map fun | .const _ => true | _ => false) vs).run P w = .ok (.value v) w') :
    (execOp ρ ⟨d, .call { callee := .builtin b, args := args, argTypes := ats }, ty, pos, af, g⟩).run P w = .ok (.value v) w' := by
  simp only [execOp, resolve, ha]
  rw [Sem.run_bind]
  exact h
theorem ex_append {s x : Operand} {t T : TypeId} {z : Value} {sz bytes : Nat} (ht : P.underlying t = some (.slice T)) (hi : (P.info? T).map (fun i => (i.zero, i.size, i.bytes)) = some (some z, sz, bytes))
    (hzs : z.cells.size = sz) (hsz : 0 < sz) {A A2 : Option Addr} {n cap m c : Nat} {cs cs2 : List Value} (hs : ρ s = .slice A n cap) (hx : ρ x = .slice A2 m c)
    (hown : Own w T sz A n cap cs) (hrd : Rd w sz A2 m c cs2) (h1 : ∀ u ∈ cs2, one u = true) (hbytes : (n + m) * bytes ≤ 140737488355328) (h63 : n + m ≤ 9223372036854775807) :
    ∃ v w', (execOp ρ ⟨d, .call { callee := .builtin .append, args := #[s, x], argTypes := #[t, t] }, ty, pos, af, g⟩).run P w = .ok (.value v) w' ∧ Appended w T sz A (n + m) (cs ++ cs2) v w' := by
  obtain ⟨i, hi1, hi2⟩ := Option.map_eq_some_iff.1 hi
  simp only [Prod.mk.injEq] at hi2
  obtain ⟨v, w', hr, hA⟩ := run_append (ty := ty) (P := P) ht hi1 hi2.1 hi2.2.1 hi2.2.2 hzs hsz hown hrd h1 hbytes h63
  refine ⟨v, w', ex_builtin (vs := #[.slice A n cap, .slice A2 m c]) (by simp [hs, hx]) ?_, hA⟩
  simp only [builtin]
  rw [Sem.run_bind, hr]
  rfl

/-- A new block, and all else as it was. -/
structure New (w : World) (o : Obj) (b : Nat) (w' : World) : Prop where
  fr : Fr [] w w'
  ge : w.heap.size ≤ b
  lt : b < w'.heap.size
  at_ : w'.heap[b]? = some o
theorem New.mk_ (w : World) (o : Obj) : New w o w.heap.size (w.alloc o) := ⟨Fr.alloc _ _ _, Nat.le_refl _, by rw [alloc_size]; omega, alloc_at _ _⟩
theorem ex_box' {t : TypeId} {x : Operand} {u : Value} {cs : List Value} (hx : ρ x = u) (hc : u.cells = cs.toArray) :
    ∃ v w', (execOp ρ ⟨d, .box t x, ty, pos, af, g⟩).run P w = .ok (.value v) w' ∧ ∃ b, v = .pointer (some ⟨b, 0, none⟩) ∧ New w (.cells cs.toArray t (0, 0)) b w' := by
  refine ⟨_, _, ex_box hx, w.heap.size, rfl, ?_⟩
  rw [hc]; exact New.mk_ _ _
theorem ex_alloc' {t : TypeId} {z : Value} {cs : List Value} (hz : ∀ w, (zeroValue t).run P w = .ok z w) (hc : z.cells = cs.toArray) :
    ∃ v w', (execOp ρ ⟨d, .alloc t, ty, pos, af, g⟩).run P w = .ok (.value v) w' ∧ ∃ b, v = .pointer (some ⟨b, 0, none⟩) ∧ New w (.cells cs.toArray t (0, 0)) b w' := by
  refine ⟨_, _, ex_alloc hz, w.heap.size, rfl, ?_⟩
  rw [hc]; exact New.mk_ _ _
/-- A new slice of the call's own. -/
def NewOwn (w : World) (T : TypeId) (sz n : Nat) (cs : List Value) (v : Value) (w' : World) : Prop :=
  ∃ A cap, v = .slice A n cap ∧ Own w' T sz A n cap cs ∧ Fr [] w w' ∧ Ge (ablk A) w.heap.size
theorem ex_buildSlice {t T : TypeId} {n sz : Nat} {ps : Array (Nat × Operand)} {vs : Array (Nat × Value)} {cs : List Value} (hp : (ps.map fun (i, x) => (i, ρ x)) = vs)
    (h : ∀ w, (Instr.buildSlice t n vs).run P w = .ok (.slice (some ⟨w.heap.size, 0, none⟩) n n) (w.alloc (.cells cs.toArray T))) (hl : cs.length = n * sz) (hn : Nat.ble n 9223372036854775807 = true) :
    ∃ v w', (execOp ρ ⟨d, .buildSlice t n ps, ty, pos, af, g⟩).run P w = .ok (.value v) w' ∧ NewOwn w T sz n cs v w' := by
  refine ⟨_, w.alloc (.cells cs.toArray T), ?_, some ⟨w.heap.size, 0, none⟩, n, rfl, ?_, Fr.alloc _ _ _, Ge.one (Nat.le_refl _)⟩
  · simp only [execOp, hp]
    rw [Sem.run_bind, h]
    rfl
  · exact Own.made (sp := []) (by simpa using alloc_at w _) hl (by simpa using hl) (Nat.le_refl _) (Nat.le_of_ble_eq_true hn)
theorem flatten_replicate_len (zc : List Value) : ∀ n : Nat, (List.replicate n zc).flatten.length = n * zc.length
  | 0 => by simp
  | n + 1 => by rw [List.replicate_succ, List.flatten_cons, List.length_append, flatten_replicate_len zc n, Nat.add_mul]; omega
theorem flatten_replicate_get (zc : List Value) (hz : 0 < zc.length) : ∀ (n j : Nat), j < n * zc.length → (List.replicate n zc).flatten[j]? = zc[j % zc.length]?
  | 0, j, h => by simp at h
  | n + 1, j, h => by
    rw [List.replicate_succ, List.flatten_cons]
    by_cases hj : j < zc.length
    · rw [List.getElem?_append_left hj, Nat.mod_eq_of_lt hj]
    · rw [List.getElem?_append_right (by omega), flatten_replicate_get zc hz n (j - zc.length) (by rw [Nat.add_mul] at h; omega), ← Nat.mod_eq_sub_mod (by omega)]
theorem made_flat (zc : List Value) (hz : 0 < zc.length) (n : Nat) : madeCells zc.toArray (n * zc.length) = (List.replicate n zc).flatten.toArray := by
  apply Array.ext_getElem?
  intro j
  have e : (List.replicate n zc).flatten.toArray[j]? = (List.replicate n zc).flatten[j]? := List.getElem?_toArray
  rw [e]
  unfold madeCells
  by_cases hj : j < n * zc.length
  · rw [flatten_replicate_get zc hz _ _ hj]
    have hm : j % zc.length < zc.length := Nat.mod_lt _ hz
    simp [Array.getElem?_range, hj, hm]
  · rw [List.getElem?_eq_none (by rw [flatten_replicate_len]; omega)]
    simp [Array.getElem?_range, hj]
theorem ex_make {t T : TypeId} {sz bytes : Nat} {x y : Operand} {z : Value} {zc : List Value} {l c : Int} (ht : P.underlying t = some (.slice T)) (hi : (P.info? T).map (fun i => (i.zero, i.size, i.bytes)) = some (some z, sz, bytes))
    (hz : z.cells = zc.toArray) (hzs : zc.length = sz) (hsz : 0 < sz) (hx : ρ x = .int .i64 l) (hy : ρ y = .int .i64 c) (h0 : 0 ≤ l) (h1 : l ≤ c) (h2 : (bytes : Int) * c ≤ 281474976710656) (h3 : c ≤ 9223372036854775807) :
    ∃ v w', (execOp ρ ⟨d, .makeSlice t x y, ty, pos, af, g⟩).run P w = .ok (.value v) w' ∧ NewOwn w T sz l.toNat (List.replicate l.toNat zc).flatten v w' := by
  obtain ⟨i, hi1, hi2⟩ := Option.map_eq_some_iff.1 hi
  simp only [Prod.mk.injEq] at hi2
  obtain ⟨hiz, his, hib⟩ := hi2
  subst his
  have hr := run_make (P := P) w t T i z ht hi1 hiz .i64 .i64 l c h0 h1 (by rw [hib]; exact h2) h3
  rw [hz, ← hzs, made_flat zc (by omega) c.toNat] at hr
  have e : (List.replicate c.toNat zc).flatten = (List.replicate l.toNat zc).flatten ++ (List.replicate (c.toNat - l.toNat) zc).flatten := by
    rw [← List.flatten_append, List.replicate_append_replicate, show l.toNat + (c.toNat - l.toNat) = c.toNat by omega]
  rw [e] at hr
  refine ⟨_, w.alloc (.cells ((List.replicate l.toNat zc).flatten ++ (List.replicate (c.toNat - l.toNat) zc).flatten).toArray T), ?_, some ⟨w.heap.size, 0, none⟩, c.toNat, rfl, Own.made (sp := (List.replicate (c.toNat - l.toNat) zc).flatten) (alloc_at w _) ?_ ?_ (by omega) (by omega), Fr.alloc _ _ _, Ge.one (Nat.le_refl _)⟩
  · simp only [execOp, hx, hy]
    rw [Sem.run_bind, hr]; rfl
  · rw [flatten_replicate_len, hzs]
  · rw [← e, flatten_replicate_len, hzs]
theorem ints_replicate (k : IntKind) (n : Nat) : (List.replicate n [Value.int k 0]).flatten = ints k (List.replicate n 0) := by
  induction n with
  | zero => rfl
  | succ n ih => rw [List.replicate_succ, List.flatten_cons, ih, List.replicate_succ]; rfl

/-! Slicing -/
def lsub {α : Type} (l : List α) (lo hi : Int) : List α := (l.drop lo.toNat).take (hi.toNat - lo.toNat)
theorem lsub_length {α : Type} {l : List α} {lo hi : Int} (h0 : 0 ≤ lo) (h1 : lo ≤ hi) (h2 : hi ≤ l.length) : (lsub l lo hi).length = hi.toNat - lo.toNat := by
  unfold lsub; rw [List.length_take, List.length_drop]; omega
/-- A piece of a slice that is read. -/
def Piece (w : World) (sz : Nat) (A : Option Addr) (n : Nat) (m : Nat) (cs : List Value) (v : Value) (w' : World) : Prop :=
  w' = w ∧ ∃ A' cap', v = .slice A' m cap' ∧ Rd w sz A' m cap' cs ∧ Src (rblk A' m) w.heap.size [rblk A n]
theorem Rd.piece {w : World} {sz : Nat} {A : Option Addr} {n cap lo hi : Nat} {cs : List Value} (h : Rd w sz A n cap cs) (h1 : lo ≤ hi) (h2 : hi ≤ n) :
    Rd w sz (if cap = lo then A else A.map (·.add (lo * sz))) (hi - lo) (cap - lo) ((cs.drop (lo * sz)).take ((hi - lo) * sz)) := by
  have hle := h.le
  have hmx := h.max
  have hlen := h.len
  have hmul : (hi - lo) * sz + lo * sz = hi * sz := by rw [← Nat.add_mul]; congr 1; omega
  have hmul2 : hi * sz ≤ n * sz := Nat.mul_le_mul_right _ h2
  refine ⟨by omega, by omega, by rw [List.length_take, List.length_drop]; omega, ?_⟩
  by_cases h0 : hi - lo = 0
  · exact .inl h0
  · rcases h.mem with hn | ⟨b, o, pre, post, T, fr, hA, hb, ho⟩
    · omega
    · refine .inr ⟨b, o + lo * sz, pre ++ cs.take (lo * sz), cs.drop (hi * sz) ++ post, T, fr, ?_, ?_, ?_⟩
      · rw [if_neg (by omega), hA]
        simp [add_none]
      · rw [hb]
        congr 3
        rw [List.append_assoc]
        congr 1
        rw [← List.append_assoc, ← List.append_assoc]
        congr 1
        have e1 : cs.drop (hi * sz) = (cs.drop (lo * sz)).drop ((hi - lo) * sz) := by rw [List.drop_drop]; congr 1; omega
        rw [e1, List.append_assoc, List.take_append_drop, List.take_append_drop]
      · rw [List.length_append, List.length_take, ho, hlen, Nat.min_eq_left]
        exact Nat.mul_le_mul_right _ (by omega)
theorem Rd.piece_src {w : World} {sz : Nat} {A : Option Addr} {n cap lo m : Nat} {cs : List Value} (h : Rd w sz A n cap cs) (hm : lo + m ≤ n) : Src (rblk (if cap = lo then A else A.map (·.add (lo * sz))) m) w.heap.size [rblk A n] := by
  by_cases h0 : m = 0
  · exact .inl (by simp [rblk, h0])
  · refine .inr (.inr ?_)
    have hle := h.le
    have e : ablk (if cap = lo then A else A.map (·.add (lo * sz))) = ablk A := by
      rw [if_neg (by omega)]
      cases A with
      | none => rfl
      | some a => simp only [ablk, Option.map_some, Addr.add]; split <;> rfl
    have hn : n ≠ 0 := by omega
    simp [rblk, h0, hn, e]
def sliceVal (A : Option Addr) (cap sz lo m : Nat) : Value := .slice (if cap = lo then A else A.map (·.add (lo * sz))) m (cap - lo)
theorem run_sliceBound {v : Value} {y : Nat} {c : BoundsCode} {k : IntKind} {i : Int} (hv : v = .int k i) (h0 : 0 ≤ i) (h1 : i ≤ y) : (Instr.sliceBound v y c).run P w = .ok i.toNat w := by
  subst hv
  unfold Instr.sliceBound
  simp [asIntOf, h0, h1]
theorem ex_slice {k1 k2 : IntKind} {t T : TypeId} {sz : Nat} {x : Operand} {lo hi : Option Operand} {A : Option Addr} {n cap : Nat} {cs : List Value} {l h : Int} (ht : P.underlying t = some (.slice T)) (hsz : ∀ w, (sizeOf T).run P w = .ok sz w)
    (hx : ρ x = .slice A n cap) (hlo : lo.map ρ = some (.int k1 l) ∨ (lo = none ∧ l = 0)) (hhi : hi.map ρ = some (.int k2 h) ∨ (hi = none ∧ h = n)) (h0 : 0 ≤ l) (h1 : l ≤ h) (h2 : h ≤ n) (hrd : Rd w sz A n cap cs) :
    ∃ v w', (execOp ρ ⟨d, .slice t x lo hi none, ty, pos, af, g⟩).run P w = .ok (.value v) w' ∧ Piece w sz A n (h.toNat - l.toNat) ((cs.drop (l.toNat * sz)).take ((h.toNat - l.toNat) * sz)) v w' := by
  have hle := hrd.le
  have hb : (Instr.sliceBounds true n cap (lo.map ρ) (hi.map ρ) none).run P w = .ok (l.toNat, h.toNat, cap) w := by
    unfold Instr.sliceBounds
    rcases hhi with hhi | ⟨hhi, hhn⟩
    · rw [hhi]
      simp only [Option.map]
      rcases hlo with hlo | ⟨hlo, hl0⟩
      · cases lo with
        | none => simp at hlo
        | some lo => simp at hlo; simp [hlo, run_sliceBound (P := P) (w := w) rfl (show 0 ≤ h by omega) (show h ≤ cap by omega), run_sliceBound (P := P) (w := w) rfl h0 (show l ≤ h.toNat by omega)]
      · subst hlo; subst hl0
        simp [run_sliceBound (P := P) (w := w) rfl (show 0 ≤ h by omega) (show h ≤ cap by omega)]
    · subst hhi
      rcases hlo with hlo | ⟨hlo, hl0⟩
      · cases lo with
        | none => simp at hlo
        | some lo => simp at hlo; simp [hlo, hhn, run_sliceBound (P := P) (w := w) rfl h0 (show l ≤ n by omega)]
      · subst hlo; subst hl0
        simp [hhn]
  refine ⟨sliceVal A cap sz l.toNat (h.toNat - l.toNat), w, ?_, rfl, _, _, rfl, hrd.piece (by omega) (by omega), hrd.piece_src (by omega)⟩
  simp only [execOp, Instr.sliceAt, hx]
  rw [Sem.run_bind, Sem.run_bind, run_underlying ht, Result.andThen_ok]
  simp only [Instr.slice]
  rw [Sem.run_bind, run_underlying ht, Result.andThen_ok]
  simp only [Option.map_none]
  rw [Sem.run_bind, hb, Result.andThen_ok, Sem.run_bind, hsz, Result.andThen_ok]
  rfl
/-- A piece of an array that lies in a block: read. -/
theorem Rd.ofLens {w : World} {sz n b off lo m : Nat} {cs all m' all' : List Value} {T : TypeId} {fr : Nat × Nat} (hb : w.heap[b]? = some (.cells all.toArray T fr)) (hl : Lens all off cs m' all') (hlen : cs.length = n * sz) (h1 : lo + m ≤ n) (hn : n ≤ 9223372036854775807) :
    Rd w sz (some (if n = lo then ⟨b, off, none⟩ else (⟨b, off, none⟩ : Addr).add (lo * sz))) m (n - lo) ((cs.drop (lo * sz)).take (m * sz)) := by
  have hall : Rd w sz (some ⟨b, off, none⟩) n n cs := by
    obtain ⟨pre, post, e1, e2, e3⟩ := hl
    refine ⟨Nat.le_refl _, hn, hlen, .inr ⟨b, off, pre, post, T, fr, rfl, by rw [hb, e1], e3⟩⟩
  have := hall.piece (lo := lo) (hi := lo + m) (by omega) h1
  rw [show lo + m - lo = m by omega] at this
  have e : (if n = lo then some ⟨b, off, none⟩ else (some ⟨b, off, none⟩ : Option Addr).map (·.add (lo * sz))) = some (if n = lo then ⟨b, off, none⟩ else (⟨b, off, none⟩ : Addr).add (lo * sz)) := by split <;> rfl
  rw [e] at this
  exact this
theorem ex_sliceArr {k1 k2 : IntKind} {t T : TypeId} {sz n : Nat} {x : Operand} {lo hi : Option Operand} {b off : Nat} {l h : Int} (ht : P.underlying t = some (.array n T)) (hsz : ∀ w, (sizeOf T).run P w = .ok sz w)
    (hx : ρ x = .pointer (some ⟨b, off, none⟩)) (hlo : lo.map ρ = some (.int k1 l) ∨ (lo = none ∧ l = 0)) (hhi : hi.map ρ = some (.int k2 h) ∨ (hi = none ∧ h = n)) (h0 : 0 ≤ l) (h1 : l ≤ h) (h2 : h ≤ n) :
    (execOp ρ ⟨d, .slice t x lo hi none, ty, pos, af, g⟩).run P w = .ok (.value (.slice (some (if n = l.toNat then ⟨b, off, none⟩ else (⟨b, off, none⟩ : Addr).add (l.toNat * sz))) (h.toNat - l.toNat) (n - l.toNat))) w := by
  have hb : (Instr.sliceBounds false n n (lo.map ρ) (hi.map ρ) none).run P w = .ok (l.toNat, h.toNat, n) w := by
    unfold Instr.sliceBounds
    rcases hhi with hhi | ⟨hhi, hhn⟩
    · rw [hhi]
      rcases hlo with hlo | ⟨hlo, hl0⟩
      · cases lo with
        | none => simp at hlo
        | some lo => simp at hlo; simp [hlo, run_sliceBound (P := P) (w := w) rfl (show 0 ≤ h by omega) (show h ≤ n by omega), run_sliceBound (P := P) (w := w) rfl h0 (show l ≤ h.toNat by omega)]
      · subst hlo; subst hl0
        simp [run_sliceBound (P := P) (w := w) rfl (show 0 ≤ h by omega) (show h ≤ n by omega)]
    · subst hhi
      rcases hlo with hlo | ⟨hlo, hl0⟩
      · cases lo with
        | none => simp at hlo
        | some lo => simp at hlo; simp [hlo, hhn, run_sliceBound (P := P) (w := w) rfl h0 (show l ≤ n by omega)]
      · subst hlo; subst hl0
        simp [hhn]
  simp only [execOp, Instr.sliceAt, hx]
  rw [Sem.run_bind, Sem.run_bind, run_underlying ht, Result.andThen_ok]
  simp only [Instr.sureAddr, Option.map_none]
  rw [Sem.run_bind]
  show ((Instr.sliceBounds false n n (lo.map ρ) (hi.map ρ) none >>= _).run P w).andThen _ = _
  rw [Sem.run_bind, hb, Result.andThen_ok, Sem.run_bind, hsz, Result.andThen_ok]
  rfl

/-! Indexing -/
theorem ex_indexAddr {t T : TypeId} {sz : Nat} {x y : Operand} {A : Option Addr} {n cap b o : Nat} {k : IntKind} {i : Int} (ht : P.underlying t = some (.slice T)) (hsz : ∀ w, (sizeOf T).run P w = .ok sz w) (hx : ρ x = .slice A n cap) (hA : A = some ⟨b, o, none⟩)
    (hy : ρ y = .int k i) (h0 : 0 ≤ i) (h1 : i < n) : (execOp ρ ⟨d, .indexAddr t x y, ty, pos, af, g⟩).run P w = .ok (.value (.pointer (some ⟨b, o + i.toNat * sz, none⟩))) w := by
  subst hA
  simp only [execOp, Instr.indexAt, hx, hy, asIntOf]
  simp [run_underlying ht, h0, h1, hsz, add_none]
theorem ex_indexAddrArr {t T : TypeId} {sz n : Nat} {x y : Operand} {b o : Nat} {k : IntKind} {i : Int} (ht : P.underlying t = some (.array n T)) (hsz : ∀ w, (sizeOf T).run P w = .ok sz w) (hx : ρ x = .pointer (some ⟨b, o, none⟩))
    (hy : ρ y = .int k i) (h0 : 0 ≤ i) (h1 : i < n) : (execOp ρ ⟨d, .indexAddr t x y, ty, pos, af, g⟩).run P w = .ok (.value (.pointer (some ⟨b, o + i.toNat * sz, none⟩))) w := by
  simp only [execOp, Instr.indexAt, hx, hy, asIntOf, Instr.sureAddr]
  simp [run_underlying ht, h0, h1, hsz, add_none]
theorem part_one {t : TypeId} {dsc : TypeDesc} {cs m' cs' : List Value} {off : Nat} {v : Value} (hu : P.underlying t = some dsc) (hd : (match dsc with | .struct _ | .array _ _ => true | _ => false) = false) (hl : Lens cs off [v] m' cs') :
    (part t cs.toArray off).run P w = .ok v w := by
  have hc : cs[off]? = some v := by
    obtain ⟨pre, post, h1, _, h3⟩ := hl
    rw [h1, List.getElem?_append_right (by omega)]
    simp [h3]
  unfold part isAgg
  rw [Sem.run_bind, Sem.run_bind, run_underlying hu, Result.andThen_ok]
  cases dsc <;> simp at hd <;> simp [hc]
theorem part_agg {t : TypeId} {dsc : TypeDesc} {cs m m' cs' : List Value} {off n : Nat} (hu : P.underlying t = some dsc) (hd : (match dsc with | .struct _ | .array _ _ => true | _ => false) = true) (hs : ∀ w, (sizeOf t).run P w = .ok n w) (hn : m.length = n)
    (hl : Lens cs off m m' cs') : (part t cs.toArray off).run P w = .ok (.agg m.toArray) w := by
  have hc : (cs.drop off).take n = m := by
    obtain ⟨pre, post, h1, _, h3⟩ := hl
    subst hn
    subst h3
    rw [h1]
    simp
  unfold part isAgg
  rw [Sem.run_bind, Sem.run_bind, run_underlying hu, Result.andThen_ok]
  cases dsc <;> simp at hd <;> simp [hs, hc]
theorem ex_index {t T : TypeId} {sz n : Nat} {x y : Operand} {cs : List Value} {k : IntKind} {i : Int} {v : Value} (ht : P.underlying t = some (.array n T)) (hsz : ∀ w, (sizeOf T).run P w = .ok sz w) (hx : ρ x = .agg cs.toArray) (hy : ρ y = .int k i) (h0 : 0 ≤ i) (h1 : i < n)
    (hp : (part T cs.toArray (i.toNat * sz)).run P w = .ok v w) : (execOp ρ ⟨d, .index t x y, ty, pos, af, g⟩).run P w = .ok (.value v) w := by
  simp only [execOp, Instr.index, hx, hy, asIntOf]
  simp [run_underlying ht, h0, h1, hsz, hp]
def sget (s : ByteArray) (i : Int) : Int := (s.data.toList.getD i.toNat 0).toNat
theorem ex_indexStr {t : TypeId} {x y : Operand} {s : ByteArray} {k : IntKind} {i : Int} (ht : P.underlying t = some .string) (hx : ρ x = .string s) (hy : ρ y = .int k i) (h0 : 0 ≤ i) (h1 : i < s.size) :
    (execOp ρ ⟨d, .index t x y, ty, pos, af, g⟩).run P w = .ok (.value (.int .u8 (sget s i))) w := by
  have hlt : i.toNat < s.size := by omega
  have e : s[i.toNat]? = some (s[i.toNat]) := getElem?_pos s i.toNat hlt
  have e2 : s.data.toList.getD i.toNat 0 = s[i.toNat] := by
    have h3 : i.toNat < s.data.toList.length := by simpa using hlt
    rw [List.getD_eq_getElem?_getD, List.getElem?_eq_getElem h3]
    rfl
  simp only [execOp, Instr.index, hx, hy, asIntOf]
  simp only [Sem.run_bind, Sem.run_pure, Result.andThen_ok, run_underlying ht, h0, if_true, e, sget, e2]
def ssub (s : ByteArray) (lo hi : Int) : ByteArray := s.extract lo.toNat hi.toNat
theorem ex_sliceStr {k1 k2 : IntKind} {t : TypeId} {x : Operand} {lo hi : Option Operand} {s : ByteArray} {l h : Int} (ht : P.underlying t = some .string) (hx : ρ x = .string s) (hlo : lo.map ρ = some (.int k1 l) ∨ (lo = none ∧ l = 0)) (hhi : hi.map ρ = some (.int k2 h) ∨ (hi = none ∧ h = s.size))
    (h0 : 0 ≤ l) (h1 : l ≤ h) (h2 : h ≤ s.size) : (execOp ρ ⟨d, .slice t x lo hi none, ty, pos, af, g⟩).run P w = .ok (.value (.string (ssub s l h))) w := by
  have hb : (Instr.sliceBounds false s.size s.size (lo.map ρ) (hi.map ρ) none).run P w = .ok (l.toNat, h.toNat, s.size) w := by
    unfold Instr.sliceBounds
    rcases hhi with hhi | ⟨hhi, hhn⟩
    · rw [hhi]
      rcases hlo with hlo | ⟨hlo, hl0⟩
      · cases lo with
        | none => simp at hlo
        | some lo => simp at hlo; simp [hlo, run_sliceBound (P := P) (w := w) rfl (show 0 ≤ h by omega) (show h ≤ s.size by omega), run_sliceBound (P := P) (w := w) rfl h0 (show l ≤ h.toNat by omega)]
      · subst hlo; subst hl0
        simp [run_sliceBound (P := P) (w := w) rfl (show 0 ≤ h by omega) (show h ≤ s.size by omega)]
    · subst hhi
      rcases hlo with hlo | ⟨hlo, hl0⟩
      · cases lo with
        | none => simp at hlo
        | some lo => simp at hlo; simp [hlo, hhn, run_sliceBound (P := P) (w := w) rfl h0 (show l ≤ s.size by omega)]
      · subst hlo; subst hl0
        simp [hhn]
  simp only [execOp, Instr.sliceAt, hx]
  rw [Sem.run_bind, Sem.run_bind, run_underlying ht, Result.andThen_ok]
  simp only [Option.map_none, Instr.slice]
  rw [Sem.run_bind, run_underlying ht, Result.andThen_ok]
  simp only [Option.isSome_none, Bool.false_eq_true, if_false]
  rw [Sem.run_bind, hb, Result.andThen_ok]
  rfl

/-! copy -/
theorem run_firstCells {sz m c : Nat} {A : Option Addr} {cs : List Value} {n : Nat} (hrd : Rd w sz A m c cs) (hn : n ≤ m) : (Builtin.firstCells sz n (.slice A m c)).run P w = .ok (cs.take (n * sz)).toArray w := by
  by_cases h0 : n = 0
  · subst h0
    cases A <;> simp [Builtin.firstCells, loadCells, loadCellsFrom]
  · obtain ⟨b, o, hA⟩ := hrd.place (by omega)
    have hp := hrd.piece (lo := 0) (hi := n) (by omega) hn
    simp only [Nat.zero_mul, Nat.sub_zero, List.drop_zero] at hp
    have hcap : ¬ c = 0 := by have := hrd.le; omega
    rw [if_neg hcap] at hp
    have e : A.map (·.add 0) = A := by subst hA; simp [add_none]
    rw [e] at hp
    subst hA
    exact hp.loadCells rfl (by omega)
/-- copy onto a place whose cells are known. -/
theorem run_copy {t u T : TypeId} {sz b o dl dc m c : Nat} {A2 : Option Addr} {all old all' cs2 : List Value} {TT : TypeId} (ht : P.underlying t = some (.slice T)) (hsz : ∀ w, (sizeOf T).run P w = .ok sz w) (hb : w.heap[b]? = some (.cells all.toArray TT (0, 0)))
    (hrd : Rd w sz A2 m c cs2) (h1 : ∀ x ∈ cs2, one x = true) (hl : Lens all o old (cs2.take (Nat.min m dl * sz)) all') (hlen : old.length = Nat.min m dl * sz) :
    (Builtin.copy_ #[t, u] ty #[.slice (some ⟨b, o, none⟩) dl dc, .slice A2 m c]).run P w = .ok (.int .i64 (Nat.min m dl : Nat)) (layW w b (.cells all'.toArray TT (0, 0))) := by
  obtain ⟨pre, post, e1, e2, e3⟩ := hl
  subst e1
  have hfc := run_firstCells (P := P) hrd (Nat.min_le_left m dl)
  have hlen2 : (cs2.take (Nat.min m dl * sz)).length = Nat.min m dl * sz := by
    rw [List.length_take, hrd.len]; exact Nat.min_eq_left (Nat.mul_le_mul_right _ (Nat.min_le_left m dl))
  have hst := run_storeCells (P := P) b o TT (0, 0) (cs2.take (Nat.min m dl * sz)) 0 w pre old post (by rw [hlen, hlen2]) (fun x hx => h1 x (List.mem_of_mem_take hx)) hb (by omega) (.inr (Nat.le_refl _))
  simp only [Builtin.copy_]
  simp [run_underlying ht, Builtin.lenOf, hsz, hfc, hst, e2, goInt]
theorem ex_copy {dd s : Operand} {t u T : TypeId} {sz b o dl dc m c : Nat} {A2 : Option Addr} {all old all' cs2 : List Value} {TT : TypeId} (ht : P.underlying t = some (.slice T)) (hsz : ∀ w, (sizeOf T).run P w = .ok sz w) (hb : w.heap[b]? = some (.cells all.toArray TT (0, 0)))
    (hd : ρ dd = .slice (some ⟨b, o, none⟩) dl dc) (hs : ρ s = .slice A2 m c) (hrd : Rd w sz A2 m c cs2) (h1 : ∀ x ∈ cs2, one x = true) (hl : Lens all o old (cs2.take (Nat.min m dl * sz)) all') (hlen : old.length = Nat.min m dl * sz) :
    ∃ v w', (execOp ρ ⟨d, .call { callee := .builtin .copy, args := #[dd, s], argTypes := #[t, u] }, ty, pos, af, g⟩).run P w = .ok (.value v) w' ∧ v = .int .i64 (Nat.min m dl : Nat) ∧ Fr [some b] w w' ∧ w'.heap[b]? = some (.cells all'.toArray TT (0, 0)) := by
  refine ⟨_, _, ex_builtin (vs := #[.slice (some ⟨b, o, none⟩) dl dc, .slice A2 m c]) (by simp [hd, hs]) ?_, rfl, Fr.laid _ _ _, lay_at hb⟩
  simp only [builtin]
  rw [Sem.run_bind, run_copy ht hsz hb hrd h1 hl hlen]
  rfl

/-! conversions -/
def bytesOf (s : ByteArray) : List Int := s.data.toList.map fun b => (b.toNat : Int)
theorem bytesOf_length (s : ByteArray) : (bytesOf s).length = s.size := by simp [bytesOf]
def strOf (l : List Int) : ByteArray := ⟨(l.map fun n => UInt8.ofNat n.toNat).toArray⟩
theorem strOf_size (l : List Int) : (strOf l).size = l.length := by simp [strOf, ByteArray.size]
theorem freeze_at {w : World} {b n : Nat} {c : Array Value} {T : TypeId} (hb : w.heap[b]? = some (.cells c T (0, 0))) : (w.freeze ⟨b, n, none⟩ 1).heap[b]? = some (.cells c T (n, n + 1)) := by
  simp only [World.freeze, Nat.succ_ne_zero, if_false, Array.getElem?_modify, if_true, hb]
  simp
theorem ex_strBytes {t u T : TypeId} {x : Operand} {s : ByteArray} (ht : P.underlying u = some (.slice T)) (hs : P.underlying t = some .string) (hT : P.underlying T = some (.int .u8)) (hx : ρ x = .string s) (hsize : s.size ≤ 9223372036854775807) :
    ∃ v w', (execOp ρ ⟨d, .convert t u x, ty, pos, af, g⟩).run P w = .ok (.value v) w' ∧ ∃ A cap, v = .slice A s.size cap ∧ Rd w' 1 A s.size cap (ints .u8 (bytesOf s)) ∧ Fr [] w w' ∧ Ge (rblk A s.size) w.heap.size := by
  let cap := (Question.appendCap s.size 0 T).cut (w.tape w.drawn (.appendCap s.size 0 T))
  have hc1 : s.size ≤ cap := by show s.size ≤ s.size + _ % _; omega
  have hc2 : cap ≤ 9223372036854775807 := by
    show s.size + _ % (2 ^ 63 - s.size) ≤ _
    have := Nat.mod_lt (w.tape w.drawn (.appendCap s.size 0 T)) (show 0 < 2 ^ 63 - s.size by omega)
    omega
  let cs : List Value := ints .u8 (bytesOf s) ++ List.replicate (cap - s.size) (.int .u8 0)
  have hcs : (s.data.map fun b => Value.int .u8 (b.toNat : Int)) ++ Array.replicate (cap - s.size) (.int .u8 0) = cs.toArray := by
    apply Array.ext'
    simp [cs, ints, bytesOf]
  have hlen : cs.length = cap := by simp [cs, ints, bytesOf]; omega
  let w1 : World := w.drew.alloc (.cells cs.toArray T)
  have hb1 : w1.heap[w.heap.size]? = some (.cells cs.toArray T (0, 0)) := alloc_at w.drew _
  refine ⟨.slice (some ⟨w.heap.size, 0, none⟩) s.size cap, w1.freeze ⟨w.heap.size, cap, none⟩ 1, ?_, some ⟨w.heap.size, 0, none⟩, cap, rfl, ⟨hc1, hc2, by simp [ints, bytesOf], .inr ⟨w.heap.size, 0, [], List.replicate (cap - s.size) (.int .u8 0), T, (cap, cap + 1), rfl, ?_, rfl⟩⟩, ?_, ?_⟩
  · have hst : (Conv.stringToBytes T s).run P w = .ok (.slice (some ⟨w.heap.size, 0, none⟩) s.size cap) (w1.freeze ⟨w.heap.size, cap, none⟩ 1) := by
      unfold Conv.stringToBytes
      rw [Sem.run_bind]
      have h1 : (choose (.appendCap s.size 0 T)).run P w = .ok cap w.drew := rfl
      rw [h1, Result.andThen_ok]
      simp only []
      rw [hcs, Sem.run_bind]
      have h2 : (newRow T cs.toArray).run P w.drew = .ok ⟨w.heap.size, 0, none⟩ w1 := rfl
      rw [h2, Result.andThen_ok, Sem.run_bind]
      have h3 : (markStringish ⟨w.heap.size, 0, none⟩).run P w1 = .ok () (w1.freeze ⟨w.heap.size, cap, none⟩ 1) := by
        unfold markStringish
        rw [Sem.run_bind]
        have h4 : (shape w.heap.size).run P w1 = .ok (some (T, cap)) w1 := by
          show Result.ok (w1.shape? w.heap.size) w1 = _
          simp [World.shape?, hb1, hlen]
        rw [h4]
        rfl
      rw [h3]
      rfl
    simp only [execOp, hx]
    rw [Sem.run_bind]
    have hcv : (convert t u (.string s)).run P w = (Conv.stringToBytes T s).run P w := by
      simp [convert, run_underlying hs, run_underlying ht, run_underlying hT]
    rw [hcv, hst]
    rfl
  · have := freeze_at (n := cap) hb1
    simpa [cs] using this
  · have hF : Fr [] w w1 := (Fr.drew [] w).trans (Fr.alloc [] w.drew _) (fun _ _ h => h) (fun _ _ h => h)
    refine ⟨?_, ?_, ?_, ?_, fun k hk _ => ?_⟩
    · show (if 1 = 0 then w1 else _ : World).os = _; exact hF.os
    · show (if 1 = 0 then w1 else _ : World).tape = _; exact hF.tape
    · show (if 1 = 0 then w1 else _ : World).output = _; exact hF.output
    · have : (w1.freeze ⟨w.heap.size, cap, none⟩ 1).heap.size = w1.heap.size := by simp [World.freeze]
      rw [this]; exact hF.size
    · have : (w1.freeze ⟨w.heap.size, cap, none⟩ 1).heap[k]? = w1.heap[k]? := by
        simp only [World.freeze, Nat.succ_ne_zero, if_false, Array.getElem?_modify]
        rw [if_neg (by omega)]
      rw [this]; exact hF.block k hk (by simp)
  · have : Ge (ablk (some (⟨w.heap.size, 0, none⟩ : Addr))) w.heap.size := Ge.one (Nat.le_refl _)
    exact this.rblk
theorem ex_bytesStr {t u T : TypeId} {x : Operand} {A : Option Addr} {cap : Nat} {l : List Int} (ht : P.underlying t = some (.slice T)) (hs : P.underlying u = some .string) (hT : P.underlying T = some (.int .u8)) (hx : ρ x = .slice A l.length cap) (hrd : Rd w 1 A l.length cap (ints .u8 l)) :
    (execOp ρ ⟨d, .convert t u x, ty, pos, af, g⟩).run P w = .ok (.value (.string (strOf l))) w := by
  have key : (convert t u (.slice A l.length cap)).run P w = .ok (.string (strOf l)) w := by
    by_cases h0 : l.length = 0
    · have hl : l = [] := List.eq_nil_of_length_eq_zero h0
      subst hl
      rw [run_convert_bytes_string w t u T A _ cap ht hT hs]
      cases A <;> simp [Conv.bytesToString, loadCells, loadCellsFrom] <;> rfl
    · obtain ⟨b, o, hA⟩ := hrd.place (by omega)
      subst hA
      rw [run_convert_bytes_arg w t T ht hT b o l.length cap l rfl (fun i hi => by
        obtain ⟨all, all', TT, fr, hb, hl⟩ := hrd.lens (by omega) rfl (Lens.int (k := .u8) (l := l) (i := i) hi 0)
        obtain ⟨pre, post, e1, _, e3⟩ := hl
        rw [cell_of hb, e1, List.getElem?_append_right (by omega)]
        simp [e3]) u hs]
      rfl
  simp only [execOp, hx]
  rw [Sem.run_bind, key]
  rfl
/-- A slice as an array. -/
theorem ex_arrPtr {t T : TypeId} {n : Nat} {x : Operand} {A : Option Addr} {m cap : Nat} (ht : P.underlying t = some (.array n T)) (hx : ρ x = .slice A m cap) (h : n ≤ m) :
    (execOp ρ ⟨d, .sliceToArrayPointer t x, ty, pos, af, g⟩).run P w = .ok (.value (.pointer A)) w := by
  simp only [execOp, Instr.arrayAt, hx]
  simp [run_underlying ht, Nat.not_lt.2 h]
theorem Rd.loadArr {t T : TypeId} {sz n m cap b o : Nat} {cs : List Value} (hrd : Rd w sz (some ⟨b, o, none⟩) m cap cs) (hu : P.underlying t = some (.array n T)) (hs : ∀ w, (sizeOf t).run P w = .ok (n * sz) w) (hn : n ≤ m) (h0 : 0 < n) :
    (loadVar t ⟨b, o, none⟩).run P w = .ok (.agg (cs.take (n * sz)).toArray) w := by
  have hp := hrd.piece (lo := 0) (hi := n) (by omega) hn
  have hcap : ¬ cap = 0 := by have := hrd.le; omega
  simp only [Nat.zero_mul, Nat.sub_zero, List.drop_zero, if_neg hcap, Option.map_some, add_none, Nat.add_zero] at hp
  obtain ⟨all, all', TT, fr, hb, hl⟩ := hp.lens (by omega) rfl (Lens.all _ [])
  exact loadVar_agg hu rfl (by rw [hp.len]; exact hs) hb hl

/-! == on arrays of integers -/
theorem all_range_eqI : ∀ (xs ys : List Int), xs.length = ys.length → ((List.range xs.length).all fun i => xs.getD i 0 == ys.getD i 0) = (xs == ys)
  | [], [], _ => rfl
  | x :: xs, y :: ys, h => by
    have ih := all_range_eqI xs ys (by simpa using h)
    rw [List.length_cons, List.range_succ_eq_map, List.all_cons, List.all_map]
    simp only [List.getD_cons_zero, Function.comp_def, List.getD_cons_succ, ih]
    simp [List.cons_beq_cons]
  | [], _ :: _, h => by simp at h
  | _ :: _, [], h => by simp at h
theorem run_equalIn_ints (dd : Nat) (t e : TypeId) (n : Nat) (k : IntKind) (ht : P.underlying t = some (.array n e)) (he : P.underlying e = some (.int k)) (hsz : ∀ w, (sizeOf e).run P w = .ok 1 w)
    (xs ys : List Int) (hx : xs.length = n) (hy : ys.length = n) : (Op.equalIn (dd + 2) t (.agg (ints k xs).toArray) (.agg (ints k ys).toArray)).run P w = .ok (xs == ys) w := by
  rw [← all_range_eqI xs ys (hx.trans hy.symm), hx, List.range_eq_range', Op.equalIn]
  simp only [Sem.run_bind, run_underlying ht, Result.andThen_ok, hsz, Std.Legacy.Range.forIn_eq_forIn_range', Std.Legacy.Range.size, Nat.sub_zero, Nat.add_sub_cancel, Nat.div_one]
  have hl : ∀ i ∈ List.range' 0 n 1, i < n := fun i hi => by simpa using (List.mem_range'_1.1 hi).2
  generalize List.range' 0 n 1 = l at hl ⊢
  induction l with
  | nil => simp
  | cons i l ih =>
    have hi : i < n := hl i (by simp)
    have pp : ∀ zs : List Int, zs.length = n → (part e (ints k zs).toArray (i * 1)).run P w = .ok (.int k (zs.getD i 0)) w := fun zs hz => by
      rw [Nat.mul_one]
      exact part_one he rfl (Lens.int (k := k) (l := zs) (by omega) 0)
    have pe : (Op.equalIn (dd + 1) e (.int k (xs.getD i 0)) (.int k (ys.getD i 0))).run P w = .ok (xs.getD i 0 == ys.getD i 0) w := by
      rw [run_equalIn_int w dd e k k _ _ he]
      try simp
    simp only [List.forIn_cons, Sem.run_bind, pp xs hx, pp ys hy, pe, Result.andThen_ok, List.all_cons]
    cases hb : (xs.getD i 0 == ys.getD i 0)
    · simp
    · simp only [Bool.not_true, Bool.false_eq_true, if_false, Sem.run_pure, Result.andThen_ok, Bool.true_and]
      exact ih fun j hj => hl j (by simp [hj])
end
end Go.Proofs.Ythbcjjhlebhghaa.Walk
