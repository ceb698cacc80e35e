/- The laws of a judgement on the machine's code over named slots: own work, for the walks. -/
import Derived.Test.YthbcjjhlebhghaaC4
namespace Go.Proofs.Ythbcjjhlebhghaa.Walk
open Go

/-! ### The model's steps -/
inductive Ex (σ ρ : Type) where
  | go (s : σ)
  | ret (r : ρ)
theorem of_let {α β : Type} {e : α} {f : α → Option β} {r : β} (h : (some e).bind f = some r) : ∃ x, e = x ∧ f x = some r := ⟨e, rfl, h⟩
theorem of_bind {α β : Type} {m : Option α} {f : α → Option β} {r : β} (h : m.bind f = some r) : ∃ x, m = some x ∧ f x = some r := Option.bind_eq_some_iff.1 h
theorem of_guard {α : Type} {p : Prop} [Decidable p] {A : Option α} {r : α} (h : (if p then A else none) = some r) : p ∧ A = some r := by
  by_cases hp : p
  · exact ⟨hp, by rw [if_pos hp] at h; exact h⟩
  · rw [if_neg hp] at h; cases h
theorem of_ite {α : Type} {p : Prop} [Decidable p] {A B : Option α} {r : α} (h : (if p then A else B) = some r) : (p ∧ A = some r) ∨ (¬ p ∧ B = some r) := by
  by_cases hp : p
  · exact .inl ⟨hp, by rw [if_pos hp] at h; exact h⟩
  · exact .inr ⟨hp, by rw [if_neg hp] at h; exact h⟩
theorem of_cond {α : Type} {b : Bool} {A B : Option α} {r : α} (h : (cond b A B) = some r) : (b = true ∧ A = some r) ∨ (b = false ∧ B = some r) := by
  cases b
  · exact .inr ⟨rfl, h⟩
  · exact .inl ⟨rfl, h⟩

/-! Integers as the machine reckons them -/
def wadd (k : IntKind) (a b : Int) : Int := k.wrap (a + b)
def wsub (k : IntKind) (a b : Int) : Int := k.wrap (a - b)
def wmul (k : IntKind) (a b : Int) : Int := k.wrap (a * b)
def wquo (k : IntKind) (a b : Int) : Int := k.wrap (a.tdiv b)
def wrem (_k : IntKind) (a b : Int) : Int := a.tmod b
def wand (k : IntKind) (a b : Int) : Int := k.wrap ((BitVec.ofInt k.bits a &&& BitVec.ofInt k.bits b).toNat : Int)
def wor (k : IntKind) (a b : Int) : Int := k.wrap ((BitVec.ofInt k.bits a ||| BitVec.ofInt k.bits b).toNat : Int)
def wxor (k : IntKind) (a b : Int) : Int := k.wrap ((BitVec.ofInt k.bits a ^^^ BitVec.ofInt k.bits b).toNat : Int)
def wandn (k : IntKind) (a b : Int) : Int := k.wrap ((BitVec.ofInt k.bits a &&& ~~~ BitVec.ofInt k.bits b).toNat : Int)
def wshl (k : IntKind) (a n : Int) : Int := k.wrap (a * 2 ^ (min n.toNat k.bits))
def wshr (k : IntKind) (a n : Int) : Int := a.fdiv (2 ^ (min n.toNat k.bits))
def wmin (a b : Int) : Int := if b < a then b else a
def wmax (a b : Int) : Int := if b > a then b else a
def vget {n : Nat} (v : Vector Int n) (i : Int) : Int := v.toList.getD i.toNat 0
def vset {n : Nat} (v : Vector Int n) (i x : Int) : Vector Int n := v.setIfInBounds i.toNat x
def lset (l : List Int) (i x : Int) : List Int := l.set i.toNat x
theorem ivl (k : IntKind) {n : Nat} (v : Vector Int n) : (ints k v.toList).length = n := by rw [ints_length, Vector.length_toList]
theorem Lens.vec {k : IntKind} {n : Nat} {v : Vector Int n} {i : Int} (h0 : 0 ≤ i) (h1 : i < n) (x : Int) : Lens (ints k v.toList) (i.toNat * 1) [.int k (vget v i)] [.int k x] (ints k (vset v i x).toList) := by
  rw [Nat.mul_one, vset, Vector.toList_setIfInBounds]
  exact Lens.int (by rw [Vector.length_toList]; omega) x
theorem Lens.vecN {k : IntKind} {n : Nat} {v : Vector Int n} (i : Nat) (h1 : i < n) (x : Int) : Lens (ints k v.toList) i [.int k (vget v i)] [.int k x] (ints k (vset v i x).toList) := by
  rw [vset, Vector.toList_setIfInBounds]
  exact Lens.int (by rw [Vector.length_toList]; exact h1) x
theorem Lens.row {k : IntKind} {l : List Int} {i : Int} (h0 : 0 ≤ i) (h1 : i < l.length) (x : Int) : Lens (ints k l) (i.toNat * 1) [.int k (lget l i)] [.int k x] (ints k (lset l i x)) := by
  rw [Nat.mul_one]
  exact Lens.int (by omega) x

/-! Frames of a whole call -/
def In0 (x : Option Nat) (m : Nat) (S : List (Option Nat)) : Prop := ∀ k, x = some k → k < m → some k ∈ S
theorem In0.ge {x : Option Nat} {m : Nat} {S : List (Option Nat)} (h : Ge x m) : In0 x m S := fun k hk hlt => by have := h k hk; omega
theorem In0.mem {x : Option Nat} {m : Nat} {S : List (Option Nat)} (h : x ∈ S) : In0 x m S := fun k hk _ => hk ▸ h
def In0L (m : Nat) (S : List (Option Nat)) : List (Option Nat) → Prop
  | [] => True
  | x :: r => In0 x m S ∧ In0L m S r
theorem In0L.mem {m : Nat} {S : List (Option Nat)} : ∀ {l : List (Option Nat)}, In0L m S l → ∀ x ∈ l, In0 x m S
  | [], _, x, hx => by cases hx
  | y :: r, h, x, hx => by
    rcases List.mem_cons.1 hx with rfl | hx
    · exact h.1
    · exact In0L.mem h.2 x hx
theorem In0.src {x : Option Nat} {m m' : Nat} {S l : List (Option Nat)} (h : Src x m' l) (hm : m ≤ m') (hl : In0L m S l) : In0 x m S := by
  rcases h with rfl | ⟨k, rfl, hk⟩ | h
  · intro k hk; cases hk
  · exact In0.ge (Ge.one (Nat.le_trans hm hk))
  · exact hl.mem x h
theorem Fr.step {S0 S : List (Option Nat)} {w0 w1 w2 : World} (h : Fr S0 w0 w1) (k : Fr S w1 w2) (hs : In0L w0.heap.size S0 S) : Fr S0 w0 w2 :=
  h.trans k (fun _ _ hm => hm) (fun k hk hm => hs.mem (some k) hm k rfl hk)
def ApAll (y : Option Nat) : List (Option Nat) → Prop
  | [] => True
  | x :: r => Ap x y ∧ ApAll y r
theorem ApAll.mem {y : Option Nat} : ∀ {l : List (Option Nat)}, ApAll y l → ∀ x ∈ l, Ap x y
  | [], _, x, hx => by cases hx
  | z :: r, h, x, hx => by
    rcases List.mem_cons.1 hx with rfl | hx
    · exact h.1
    · exact ApAll.mem h.2 x hx
theorem Src.ap' {x y : Option Nat} {m : Nat} {l : List (Option Nat)} (h : Src x m l) (hy : Lt y m) (hl : ApAll y l) : Ap x y := h.ap hy hl.mem
def SrcAll (m : Nat) (l' : List (Option Nat)) : List (Option Nat) → Prop
  | [] => True
  | x :: r => Src x m l' ∧ SrcAll m l' r
theorem SrcAll.mem {m : Nat} {l' : List (Option Nat)} : ∀ {l : List (Option Nat)}, SrcAll m l' l → ∀ x ∈ l, Src x m l'
  | [], _, x, hx => by cases hx
  | z :: r, h, x, hx => by
    rcases List.mem_cons.1 hx with rfl | hx
    · exact h.1
    · exact SrcAll.mem h.2 x hx
theorem Src.trans' {x : Option Nat} {m m' : Nat} {l l' : List (Option Nat)} (h : Src x m l) (hm : m' ≤ m) (hl : SrcAll m' l' l) : Src x m' l' := h.trans hm hl.mem
theorem Src.self {x : Option Nat} {m : Nat} {l : List (Option Nat)} (h : x ∈ l) : Src x m l := .inr (.inr h)
theorem Src.new {x : Option Nat} {m : Nat} (l : List (Option Nat)) (h : Ge x m) : Src x m l := Src.of_ge l h
theorem Src.none (m : Nat) (l : List (Option Nat)) : Src none m l := .inl rfl
theorem Src.rblk {A : Option Addr} {n m : Nat} {l : List (Option Nat)} (h : Src (ablk A) m l) : Src (rblk A n) m l := by
  unfold Walk.rblk; split; exact .inl rfl; exact h

section
variable {P : Program} {n : Nat} {K : Post} {E : Env} {w : World} {ops : Array Oper} {f : Nat} {p : Pend} {L : Array Bool}
/-! Operations whose run is told by a law -/
theorem WL.op {o : Oper} {rest : List Oper} {S : Value → World → Prop} (hw : E.want ops o = some true) (hs : noSel o = true) (hv : E.all o.op.operands.toList = true)
    (h : ∃ v w', (execOp E.rho o).run P w = .ok (.value v) w' ∧ S v w') (k : ∀ v w', S v w' → ∃ E', E.putd n o.dst v = some E' ∧ WL P n ops rest K E' w') : WL P n ops (o :: rest) K E w := by
  obtain ⟨v, w', hr, hS⟩ := h
  obtain ⟨E', he, hk⟩ := k v w' hS
  exact WL.value v hw hs hv hr he hk
theorem WL.opS {o : Oper} {rest : List Oper} {S : World → Prop} (hw : E.want ops o = some true) (hs : noSel o = true) (hv : E.all o.op.operands.toList = true)
    (h : ∃ w', (execOp E.rho o).run P w = .ok .skip w' ∧ S w') (k : ∀ w', S w' → ∃ E', E.putd n o.dst undef = some E' ∧ WL P n ops rest K E' w') : WL P n ops (o :: rest) K E w := by
  obtain ⟨w', hr, hS⟩ := h
  obtain ⟨E', he, hk⟩ := k w' hS
  exact WL.store hw hs hv hr he hk
theorem WD.op {o : Oper} {S : Value → World → Prop} (i : Nat) (hb : effB ops L i = true) (hi : ops[i]? = some o) (hw : E.want ops o = some true) (hs : noSel o = true) (hv : E.all o.op.operands.toList = true)
    (h : ∃ v w', (execOp E.rho o).run P w = .ok (.value v) w' ∧ S v w') (k : ∀ v w', S v w' → ∃ E', E.putd n o.dst v = some E' ∧ (p.drop i).now w' ∧ WD P n ops f (p.drop i) (L.setIfInBounds i true) K E' w') : WD P n ops (f + 1) p L K E w := by
  obtain ⟨v, w', hr, hS⟩ := h
  obtain ⟨E', he, hp, hk⟩ := k v w' hS
  exact WD.value i v hb hi hw hs hv hr he hp hk
theorem WD.opS {o : Oper} {S : World → Prop} (i : Nat) (hb : effB ops L i = true) (hi : ops[i]? = some o) (hw : E.want ops o = some true) (hs : noSel o = true) (hv : E.all o.op.operands.toList = true)
    (h : ∃ w', (execOp E.rho o).run P w = .ok .skip w' ∧ S w') (k : ∀ w', S w' → ∃ E', E.putd n o.dst undef = some E' ∧ (p.drop i).now w' ∧ WD P n ops f (p.drop i) (L.setIfInBounds i true) K E' w') : WD P n ops (f + 1) p L K E w := by
  obtain ⟨w', hr, hS⟩ := h
  obtain ⟨E', he, hp, hk⟩ := k w' hS
  exact WD.store i hb hi hw hs hv hr he hp hk
/-- A quiet load. -/
theorem WD.load {o : Oper} {E' : Env} (i : Nat) (D S : List Nat) (v : Value) (hi : ops[i]? = some o) (hb : quietB ops L i D S (p.map (·.1)) = true)
    (hw : E.want ops o = some true) (hv : E.all o.op.operands.toList = true) (he : E.putd n o.dst v = some E') (hr : (execOp E.rho o).run P w = .ok (.value v) w)
    (k : WD P n ops f ((D, fun w => (execOp E.rho o).run P w = .ok (.value v) w) :: p) (L.setIfInBounds i true) K E' w) : WD P n ops (f + 1) p L K E w :=
  WD.quiet i D S v (fun w => (execOp E.rho o).run P w = .ok (.value v) w) hi hb hw hv he (fun _ h => h) hr k

def joinK (J : Env → World → Prop) (K : Post) : Post := fun e E w =>
  match e with
  | .normal => J E w
  | e => K e E w
theorem W.join1 {x y : Code} (J : Env → World → Prop) (hy : ∀ E w, J E w → W P n y K E w) (hx : (∀ E w, J E w → W P n y K E w) → W P n (.seq x y) K E w) : W P n (.seq x y) K E w := hx hy
theorem W.join2 {x c y : Code} (J : Env → World → Prop) (hy : ∀ E w, J E w → W P n y K E w) (hx : (∀ E w, J E w → W P n y K E w) → W P n (.seq x (.seq c y)) K E w) : W P n (.seq x (.seq c y)) K E w := hx hy
/-- A loop whose rounds are counted. -/
def WR (P : Program) (n : Nat) (c : Code) (k : Nat) (K : Post) (E : Env) (w : World) : Prop := ∀ a, Fits n E a → Code.rounds P c (lift n K) k a w
def roundK (P : Program) (n : Nat) (c : Code) (k : Nat) (K : Post) : Post := fun e E w =>
  match e with
  | .normal => WR P n c k K E w
  | e => K e E w
theorem W.rounds {c : Code} (k : Nat) (h : WR P n c k K E w) : W P n (.loop c) K E w := fun a ha => wp_loop_rounds k (h a ha)
theorem WR.succ {c : Code} {k : Nat} (h : W P n c (roundK P n c k K) E w) : WR P n c (k + 1) K E w := by
  intro a ha
  rw [rounds_succ]
  refine wp_mono (h a ha) ?_
  intro e a w hl
  obtain ⟨h1, h2, E, hf, hk⟩ := lift_elim hl
  cases e with
  | normal => exact hk a hf
  | panic c => exact absurd rfl (h1 c)
  | outgrown => exact absurd rfl h2
  | _ => exact ⟨E, hf, hk⟩

/-! Stores -/
variable {ρ : Operand → Value} {d : Option Tmp} {ty : TypeId} {pos : String} {af : Array Edge} {g : Option (Nat × Bool)}
theorem ex_storeObj {t T : TypeId} {x y : Operand} {v : Value} {b o N : Nat} {cs m m' cs' : List Value} (hx : ρ x = .pointer (some ⟨b, o, none⟩)) (hy : ρ y = v) (hs : ∀ w, (sizeOf t).run P w = .ok N w)
    (hb : w.heap[b]? = some (.cells cs.toArray T (0, 0))) (hl : Lens cs o m m' cs') (hm : m.length = N) (hm' : m'.length = N) (hv : v.cells = m'.toArray) (h1 : ∀ c ∈ m', one c = true) :
    ∃ w', (execOp ρ ⟨d, .store t x y, ty, pos, af, g⟩).run P w = .ok .skip w' ∧ (Fr [some b] w w' ∧ w'.heap[b]? = some (.cells cs'.toArray T (0, 0))) :=
  ⟨_, ex_store hx hy (storeVar_run (by rw [hm']; exact hs) hb hl (hm.trans hm'.symm) hv h1 (.inr (Nat.le_refl _))), Fr.laid _ _ _, lay_at hb⟩
theorem ex_storeOwn {t T : TypeId} {x y : Operand} {v : Value} {b o sz nn cap N : Nat} {cs m m' cs' : List Value} (hx : ρ x = .pointer (some ⟨b, o, none⟩)) (hy : ρ y = v) (hs : ∀ w, (sizeOf t).run P w = .ok N w)
    (hown : Own w T sz (some ⟨b, 0, none⟩) nn cap cs) (hl : Lens cs o m m' cs') (hm : m.length = N) (hm' : m'.length = N) (hv : v.cells = m'.toArray) (h1 : ∀ c ∈ m', one c = true) :
    ∃ w', (execOp ρ ⟨d, .store t x y, ty, pos, af, g⟩).run P w = .ok .skip w' ∧ (Fr [some b] w w' ∧ Own w' T sz (some ⟨b, 0, none⟩) nn cap cs') := by
  obtain ⟨w', hr, hF, ho⟩ := Own.store (P := P) hown hl (hm.trans hm'.symm) (by rw [hm']; exact hs) hv h1
  exact ⟨w', ex_store hx hy hr, hF, ho⟩
theorem ex_shl {t u : TypeId} {x y : Operand} {k k' : IntKind} {a b : Int} (hx : ρ x = .int k a) (hy : ρ y = .int k' b) (h : 0 ≤ b) : (execOp ρ ⟨d, .binOp .shl t x y u, ty, pos, af, g⟩).run P w = .ok (.value (.int k (wshl k a b))) w := by
  have hb : ¬ b < 0 := by omega
  simp only [execOp, hx, hy, eqGuard, binOp, Op.shift, hb, if_false]
  rfl
theorem ex_shr {t u : TypeId} {x y : Operand} {k k' : IntKind} {a b : Int} (hx : ρ x = .int k a) (hy : ρ y = .int k' b) (h : 0 ≤ b) : (execOp ρ ⟨d, .binOp .shr t x y u, ty, pos, af, g⟩).run P w = .ok (.value (.int k (wshr k a b))) w := by
  have hb : ¬ b < 0 := by omega
  simp only [execOp, hx, hy, eqGuard, binOp, Op.shift, hb, if_false]
  rfl
theorem ex_eqArr {op : BinOp} {neg : Bool} {t u e : TypeId} {nn : Nat} {x y : Operand} {k : IntKind} {xs ys : Vector Int nn} (hop : (op = .eql ∧ neg = false) ∨ (op = .neq ∧ neg = true)) (ht : P.underlying t = some (.array nn e)) (he : P.underlying e = some (.int k)) (hsz : ∀ w, (sizeOf e).run P w = .ok 1 w)
    (hgt : P.eqGuardType P.depth t = false) (hx : ρ x = .agg (ints k xs.toList).toArray) (hy : ρ y = .agg (ints k ys.toList).toArray) :
    (execOp ρ ⟨d, .binOp op t x y u, ty, pos, af, g⟩).run P w = .ok (.value (.bool (xor neg (xs.toList == ys.toList)))) w := by
  have heq := run_equalIn_ints (P := P) (w := w) 9998 t e nn k ht he hsz xs.toList ys.toList Vector.length_toList Vector.length_toList
  have hg0 : (eqGuard op t x y (.agg (ints k xs.toList).toArray) (.agg (ints k ys.toList).toArray)).run P w = .ok () w := by
    rcases hop with ⟨rfl, _⟩ | ⟨rfl, _⟩ <;> (unfold eqGuard; simp [program, Sem.run, hgt])
  rcases hop with ⟨rfl, rfl⟩ | ⟨rfl, rfl⟩
  · simp only [execOp, hx, hy, binOp, Op.equal, Op.maxDepth]
    simp only [Sem.run_bind, hg0, Result.andThen_ok, heq, Sem.run_pure]
    simp
  · simp only [execOp, hx, hy, binOp, Op.equal, Op.maxDepth]
    simp only [Sem.run_bind, hg0, Result.andThen_ok, heq, Sem.run_pure]
    simp
end
end Go.Proofs.Ythbcjjhlebhghaa.Walk
namespace Go.Proofs.Ythbcjjhlebhghaa.Walk
open Go
/-! Laws on slices of integers, as the teller writes them: the new list has a name of its own -/
section
variable {P : Program} {n : Nat} {K : Post} {E : Env} {w : World}
variable {ρ : Operand → Value} {d : Option Tmp} {ty : TypeId} {pos : String} {af : Array Edge} {g : Option (Nat × Bool)}
theorem ints_drop (k : IntKind) (l : List Int) (i : Nat) : (ints k l).drop i = ints k (l.drop i) := by simp [ints]
theorem ints_take (k : IntKind) (l : List Int) (i : Nat) : (ints k l).take i = ints k (l.take i) := by simp [ints]
theorem ints_append (k : IntKind) (l l' : List Int) : ints k l ++ ints k l' = ints k (l ++ l') := by simp [ints]
theorem ex_sliceI {k1 k2 : IntKind} {t T : TypeId} {x : Operand} {lo hi : Option Operand} {A : Option Addr} {cap : Nat} {k : IntKind} {l l2 : List Int} {i j : Int} (ht : P.underlying t = some (.slice T)) (hsz : ∀ w, (sizeOf T).run P w = .ok 1 w)
    (hx : ρ x = .slice A l.length cap) (hlo : lo.map ρ = some (.int k1 i) ∨ (lo = none ∧ i = 0)) (hhi : hi.map ρ = some (.int k2 j) ∨ (hi = none ∧ j = l.length)) (h0 : 0 ≤ i) (h1 : i ≤ j) (h2 : j ≤ l.length) (hrd : Rd w 1 A l.length cap (ints k l)) (hl : lsub l i j = l2) :
    ∃ A' cap', (execOp ρ ⟨d, .slice t x lo hi none, ty, pos, af, g⟩).run P w = .ok (.value (.slice A' l2.length cap')) w ∧ Rd w 1 A' l2.length cap' (ints k l2) ∧ Src (rblk A' l2.length) w.heap.size [rblk A l.length] := by
  obtain ⟨v, w', hr, rfl, A', cap', rfl, h3, h4⟩ := ex_slice (d := d) (ty := ty) (pos := pos) (af := af) (g := g) ht hsz hx hlo hhi h0 h1 h2 hrd
  have hn : j.toNat - i.toNat = l2.length := by rw [← hl, lsub_length h0 h1 h2]
  rw [hn] at hr h3 h4
  refine ⟨A', cap', hr, ?_, h4⟩
  rw [Nat.mul_one, Nat.mul_one, ints_drop, ints_take] at h3
  have e2 : (l.drop i.toNat).take l2.length = l2 := by rw [← hn]; exact hl
  rw [e2] at h3
  exact h3
theorem ex_sliceArrI {k1 k2 : IntKind} {t T : TypeId} {N : Nat} {x : Operand} {lo hi : Option Operand} {b off : Nat} {k : IntKind} {v : Vector Int N} {l2 : List Int} {i j : Int} {all m' all' : List Value} {TT : TypeId} {fr : Nat × Nat} (ht : P.underlying t = some (.array N T)) (hsz : ∀ w, (sizeOf T).run P w = .ok 1 w)
    (hx : ρ x = .pointer (some ⟨b, off, none⟩)) (hlo : lo.map ρ = some (.int k1 i) ∨ (lo = none ∧ i = 0)) (hhi : hi.map ρ = some (.int k2 j) ∨ (hi = none ∧ j = N)) (h0 : 0 ≤ i) (h1 : i ≤ j) (h2 : j ≤ N) (hN : Nat.ble N 9223372036854775807 = true)
    (hb : w.heap[b]? = some (.cells all.toArray TT fr)) (hle : Lens all off (ints k v.toList) m' all') (hl : lsub v.toList i j = l2) :
    ∃ o' cap', (execOp ρ ⟨d, .slice t x lo hi none, ty, pos, af, g⟩).run P w = .ok (.value (.slice (some ⟨b, o', none⟩) l2.length cap')) w ∧ Rd w 1 (some ⟨b, o', none⟩) l2.length cap' (ints k l2) ∧ o' = (if N = i.toNat then off else off + i.toNat * 1) := by
  have hr := ex_sliceArr (P := P) (w := w) (d := d) (ty := ty) (pos := pos) (af := af) (g := g) ht hsz hx hlo hhi h0 h1 h2
  have hn : j.toNat - i.toNat = l2.length := by rw [← hl, lsub_length h0 h1 (by rw [Vector.length_toList]; exact h2)]
  have hrd := Rd.ofLens (sz := 1) (n := N) (lo := i.toNat) (m := j.toNat - i.toNat) hb hle (by rw [ivl, Nat.mul_one]) (by omega) (Nat.le_of_ble_eq_true hN)
  have ea : (if N = i.toNat then (⟨b, off, none⟩ : Addr) else (⟨b, off, none⟩ : Addr).add (i.toNat * 1)) = ⟨b, (if N = i.toNat then off else off + i.toNat * 1), none⟩ := by split <;> simp [add_none]
  rw [ea] at hr hrd
  rw [hn] at hr hrd
  refine ⟨_, _, hr, ?_, rfl⟩
  have e3 : (((ints k v.toList).drop (i.toNat * 1)).take (l2.length * 1)) = ints k l2 := by
    rw [Nat.mul_one, Nat.mul_one, ints_drop, ints_take]
    congr 1
    rw [← hn]; exact hl
  rw [e3] at hrd
  exact hrd
theorem ex_appendI {s x : Operand} {t T : TypeId} {k : IntKind} {bytes : Nat} (ht : P.underlying t = some (.slice T)) (hi : (P.info? T).map (fun i => (i.zero, i.size, i.bytes)) = some (some (.int k 0), 1, bytes))
    {A A2 : Option Addr} {cap c : Nat} {l l2 l3 : List Int} (hs : ρ s = .slice A l.length cap) (hx : ρ x = .slice A2 l2.length c)
    (hown : Own w T 1 A l.length cap (ints k l)) (hrd : Rd w 1 A2 l2.length c (ints k l2)) (hl : l ++ l2 = l3) (hbytes : (l3.length : Int) * bytes ≤ 140737488355328) (hb0 : 0 < bytes := by decide) :
    ∃ v w', (execOp ρ ⟨d, .call { callee := .builtin .append, args := #[s, x], argTypes := #[t, t] }, ty, pos, af, g⟩).run P w = .ok (.value v) w' ∧
      (∃ A' cap', v = .slice A' l3.length cap' ∧ Own w' T 1 A' l3.length cap' (ints k l3) ∧ Fr [ablk A] w w' ∧ Src (ablk A') w.heap.size [ablk A]) := by
  have hlen : l.length + l2.length = l3.length := by rw [← hl, List.length_append]
  have hb1 : (l.length + l2.length) * bytes ≤ 140737488355328 := by rw [hlen]; exact Int.ofNat_le.1 (by rw [Int.natCast_mul]; exact hbytes)
  have hb2 : l.length + l2.length ≤ 9223372036854775807 := by
    have : (l.length + l2.length) * 1 ≤ (l.length + l2.length) * bytes := Nat.mul_le_mul_left _ hb0
    omega
  obtain ⟨v, w', hr, A', cap', rfl, h3, h4, h5⟩ := ex_append (d := d) (ty := ty) (pos := pos) (af := af) (g := g) ht hi rfl (by decide) hs hx hown hrd (fun u hu => ints_one k l2 u hu) hb1 hb2
  rw [hlen, ints_append, hl] at h3
  exact ⟨_, w', hr, A', cap', by rw [hlen], h3, h4, h5⟩
theorem ex_makeI {t T : TypeId} {bytes : Nat} {x y : Operand} {k : IntKind} {l c : Int} {l2 : List Int} (ht : P.underlying t = some (.slice T)) (hi : (P.info? T).map (fun i => (i.zero, i.size, i.bytes)) = some (some (.int k 0), 1, bytes))
    (hx : ρ x = .int .i64 l) (hy : ρ y = .int .i64 c) (h0 : 0 ≤ l) (h1 : l ≤ c) (h2 : (bytes : Int) * c ≤ 281474976710656) (h3 : c ≤ 9223372036854775807) (hl : List.replicate l.toNat 0 = l2) :
    ∃ v w', (execOp ρ ⟨d, .makeSlice t x y, ty, pos, af, g⟩).run P w = .ok (.value v) w' ∧ (∃ A' cap', v = .slice A' l2.length cap' ∧ Own w' T 1 A' l2.length cap' (ints k l2) ∧ Fr [] w w' ∧ Src (ablk A') w.heap.size []) := by
  obtain ⟨v, w', hr, A', cap', rfl, h4, h5, h6⟩ := ex_make (d := d) (ty := ty) (pos := pos) (af := af) (g := g) (zc := [.int k 0]) ht hi rfl rfl (by decide) hx hy h0 h1 h2 h3
  have hn : l.toNat = l2.length := by rw [← hl]; simp
  rw [ints_replicate, hl, hn] at h4
  exact ⟨_, w', hr, A', cap', by rw [hn], h4, h5, Src.new _ h6⟩
theorem ex_buildSliceI {t T : TypeId} {N : Nat} {ps : Array (Nat × Operand)} {vs : Array (Nat × Value)} {k : IntKind} {l2 : List Int} (hp : (ps.map fun (i, x) => (i, ρ x)) = vs)
    (h : ∀ w, (Instr.buildSlice t N vs).run P w = .ok (.slice (some ⟨w.heap.size, 0, none⟩) N N) (w.alloc (.cells (ints k l2).toArray T))) (hl : l2.length = N) (hn : Nat.ble N 9223372036854775807 = true) :
    ∃ v w', (execOp ρ ⟨d, .buildSlice t N ps, ty, pos, af, g⟩).run P w = .ok (.value v) w' ∧ (∃ A' cap', v = .slice A' l2.length cap' ∧ Own w' T 1 A' l2.length cap' (ints k l2) ∧ Fr [] w w' ∧ Src (ablk A') w.heap.size []) := by
  obtain ⟨v, w', hr, A', cap', rfl, h4, h5, h6⟩ := ex_buildSlice (d := d) (ty := ty) (pos := pos) (af := af) (g := g) (sz := 1) hp h (by rw [ints_length, hl, Nat.mul_one]) hn
  rw [← hl] at h4
  exact ⟨_, w', hr, A', cap', by rw [hl], h4, h5, Src.new _ h6⟩
theorem ex_strBytesI {t u T : TypeId} {x : Operand} {s : ByteArray} {l2 : List Int} (ht : P.underlying u = some (.slice T)) (hs : P.underlying t = some .string) (hT : P.underlying T = some (.int .u8)) (hx : ρ x = .string s) (hl : bytesOf s = l2) (hsize : (l2.length : Int) ≤ 9223372036854775807) :
    ∃ v w', (execOp ρ ⟨d, .convert t u x, ty, pos, af, g⟩).run P w = .ok (.value v) w' ∧ (∃ A' cap', v = .slice A' l2.length cap' ∧ Rd w' 1 A' l2.length cap' (ints .u8 l2) ∧ Fr [] w w' ∧ Src (rblk A' l2.length) w.heap.size []) := by
  have hn : s.size = l2.length := by rw [← hl, bytesOf_length]
  obtain ⟨v, w', hr, A', cap', rfl, h4, h5, h6⟩ := ex_strBytes (d := d) (ty := ty) (pos := pos) (af := af) (g := g) ht hs hT hx (by omega)
  rw [hl, hn] at h4
  rw [hn] at h6
  exact ⟨_, w', hr, A', cap', by rw [hn], h4, h5, Src.new _ h6⟩
theorem ex_indexI {t T : TypeId} {N : Nat} {x y : Operand} {k kk : IntKind} {v : Vector Int N} {i : Int} (ht : P.underlying t = some (.array N T)) (hT : P.underlying T = some (.int k)) (hsz : ∀ w, (sizeOf T).run P w = .ok 1 w) (hx : ρ x = .agg (ints k v.toList).toArray) (hy : ρ y = .int kk i) (h0 : 0 ≤ i) (h1 : i < N) :
    (execOp ρ ⟨d, .index t x y, ty, pos, af, g⟩).run P w = .ok (.value (.int k (vget v i))) w :=
  ex_index ht hsz hx hy h0 h1 (part_one hT rfl (Lens.vec h0 h1 0))
/-- copy onto a piece of an array in a block. -/
theorem ex_copyArr {dd s : Operand} {t u T : TypeId} {k : IntKind} {b o' off N dl dc m c : Nat} {i : Int} {A2 : Option Addr} {all all' : List Value} {v v2 : Vector Int N} {ld l : List Int} {TT : TypeId} (ht : P.underlying t = some (.slice T)) (hsz : ∀ w, (sizeOf T).run P w = .ok 1 w) (hb : w.heap[b]? = some (.cells all.toArray TT (0, 0)))
    (hd : ρ dd = .slice (some ⟨b, o', none⟩) ld.length dc) (hs : ρ s = .slice A2 l.length c) (hrd : Rd w 1 A2 l.length c (ints k l)) (ho : o' = (if N = i.toNat then off else off + i.toNat * 1)) (h0 : 0 ≤ i) (h1 : i ≤ N) (hld : ld.length ≤ N - i.toNat)
    (hle : Lens all off (ints k v.toList) (ints k v2.toList) all') (hv : v2.toList = v.toList.take i.toNat ++ (l.take (Nat.min l.length ld.length) ++ v.toList.drop (i.toNat + Nat.min l.length ld.length))) :
    ∃ x w', (execOp ρ ⟨d, .call { callee := .builtin .copy, args := #[dd, s], argTypes := #[t, u] }, ty, pos, af, g⟩).run P w = .ok (.value x) w' ∧ (x = .int .i64 (Nat.min l.length ld.length : Nat) ∧ Fr [some b] w w' ∧ w'.heap[b]? = some (.cells all'.toArray TT (0, 0))) := by
  have hvl : v.toList.length = N := Vector.length_toList
  by_cases hN : N = i.toNat
  · have hz : ld.length = 0 := by omega
    have hmin : Nat.min l.length ld.length = 0 := by rw [hz]; exact Nat.min_zero _
    have e : v2.toList = v.toList := by rw [hv, hmin]; simp
    have eall : all' = all := by
      obtain ⟨pre, post, e1, e2, _⟩ := hle
      rw [e1, e2, e]
    subst eall
    exact ex_copy (d := d) (ty := ty) (pos := pos) (af := af) (g := g) (sz := 1) (old := []) ht hsz hb hd hs hrd (fun x hx => ints_one k l x hx) ⟨all'.take o' , all'.drop o', by simp, by simp [hmin], by
      rw [ho, if_pos hN, List.length_take]
      obtain ⟨pre, post, e1, e2, e3⟩ := hle
      rw [e1, List.length_append]; omega⟩ (by simp [hmin])
  · rw [if_neg hN] at ho
    subst ho
    have hml : Nat.min l.length ld.length ≤ l.length := Nat.min_le_left _ _
    have hmd : Nat.min l.length ld.length ≤ ld.length := Nat.min_le_right _ _
    have hl2 : Lens (ints k v.toList) (i.toNat * 1) (ints k ((v.toList.drop i.toNat).take (Nat.min l.length ld.length))) (ints k (l.take (Nat.min l.length ld.length))) (ints k v2.toList) := by
      have := Lens.range (enc := fun x => [Value.int k x]) (sz := 1) (fun _ => rfl) (l := v.toList) (i := i.toNat) (n := Nat.min l.length ld.length) (off := i.toNat * 1) (by rw [hvl]; omega) rfl (l.take (Nat.min l.length ld.length)) (by rw [List.length_take]; exact Nat.min_eq_left hml)
      rw [hv, ints_flat, ints_flat, ints_flat, ints_flat]
      exact this
    refine ex_copy (d := d) (ty := ty) (pos := pos) (af := af) (g := g) (sz := 1) (old := ints k ((v.toList.drop i.toNat).take (Nat.min l.length ld.length))) ht hsz hb hd hs hrd (fun x hx => ints_one k l x hx) ?_ ?_
    · have := Lens.comp hle hl2 rfl
      rw [Nat.mul_one (Nat.min l.length ld.length), ints_take]
      exact this
    · rw [ints_length, List.length_take, List.length_drop, hvl, Nat.mul_one, Nat.min_eq_left]
      omega
end
end Go.Proofs.Ythbcjjhlebhghaa.Walk
