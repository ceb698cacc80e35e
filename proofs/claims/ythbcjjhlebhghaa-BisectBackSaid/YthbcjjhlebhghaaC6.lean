/- The laws of a judgement on the machine's code over named slots: own work, for the walks. -/
import Derived.Test.YthbcjjhlebhghaaC5
namespace Go.Proofs.Ythbcjjhlebhghaa.Walk
open Go
section
variable {P : Program} {n : Nat} {K : Post} {E : Env} {w : World} {ops : Array Oper} {f : Nat} {p : Pend} {L : Array Bool}
theorem WL.opQ {o : Oper} {rest : List Oper} {Q : Value → Prop} (hw : E.want ops o = some true) (hs : noSel o = true) (hv : E.all o.op.operands.toList = true)
    (h : ∃ v, (execOp E.rho o).run P w = .ok (.value v) w ∧ Q v) (k : ∀ v, Q v → ∃ E', E.putd n o.dst v = some E' ∧ WL P n ops rest K E' w) : WL P n ops (o :: rest) K E w := by
  obtain ⟨v, hr, hQ⟩ := h
  obtain ⟨E', he, hk⟩ := k v hQ
  exact WL.value v hw hs hv hr he hk
theorem WD.opQ {o : Oper} {Q : Value → Prop} (i : Nat) (D S : List Nat) (hi : ops[i]? = some o) (hb : quietB ops L i D S (p.map (·.1)) = true) (hw : E.want ops o = some true) (hv : E.all o.op.operands.toList = true)
    (h : ∃ v, (execOp E.rho o).run P w = .ok (.value v) w ∧ Q v)
    (k : ∀ v, Q v → ∃ E', E.putd n o.dst v = some E' ∧ WD P n ops f ((D, fun w => (execOp E.rho o).run P w = .ok (.value v) w) :: p) (L.setIfInBounds i true) K E' w) : WD P n ops (f + 1) p L K E w := by
  obtain ⟨v, hr, hQ⟩ := h
  obtain ⟨E', he, hk⟩ := k v hQ
  exact WD.load i D S v hi hb hw hv he hr hk
theorem W.regionDw {id N : Nat} {l : List Oper} (hm : P.follows .mixedOrders = true) (hN : Nat.beq l.length N = true) (h : ∀ w', Fr [] w w' → WD P n l.toArray N [] (Array.replicate N false) K E w') : W P n (.region id l.toArray true) K E w := by
  have hN' : l.length = N := Nat.eq_of_beq_eq_true hN
  refine W.regionD hm ?_
  have := h w.drew (Fr.drew _ _)
  rw [show l.toArray.size = N by simpa using hN']
  exact this
theorem WD.end_ (hr : (Region.ready .any ops L).isEmpty = true) (h : K .normal E w) : WD P n ops f p L K E w := WD.done (List.isEmpty_iff.1 hr) h
variable {ρ : Operand → Value} {d : Option Tmp} {ty : TypeId} {pos : String} {af : Array Edge} {g : Option (Nat × Bool)}
theorem one_sing {v : Value} (h : one v = true) : ∀ c ∈ [v], one c = true := fun c hc => by simp at hc; subst hc; exact h
theorem one_app {a b : List Value} (ha : ∀ c ∈ a, one c = true) (hb : ∀ c ∈ b, one c = true) : ∀ c ∈ a ++ b, one c = true := fun c hc => by
  rcases List.mem_append.1 hc with h | h
  · exact ha c h
  · exact hb c h
theorem len_app {a b : List Value} {m k s : Nat} (ha : a.length = m) (hb : b.length = k) (h : m + k = s) : (a ++ b).length = s := by rw [List.length_append, ha, hb, h]
theorem ex_loadOne {t T : TypeId} {dsc : TypeDesc} {x : Operand} {b o : Nat} {cs m' cs' : List Value} {v : Value} {fr : Nat × Nat} (hu : P.underlying t = some dsc) (hd : (match dsc with | .struct _ | .array _ _ => true | _ => false) = false) (hx : ρ x = .pointer (some ⟨b, o, none⟩))
    (hb : w.heap[b]? = some (.cells cs.toArray T fr)) (hl : Lens cs o [v] m' cs') : (execOp ρ ⟨d, .load t x, ty, pos, af, g⟩).run P w = .ok (.value v) w := ex_load hx (loadVar_one hu hd hb hl)
theorem ex_loadAgg {t T : TypeId} {dsc : TypeDesc} {x : Operand} {b o N : Nat} {cs m m' cs' : List Value} {fr : Nat × Nat} (hu : P.underlying t = some dsc) (hd : (match dsc with | .struct _ | .array _ _ => true | _ => false) = true) (hs : ∀ w, (sizeOf t).run P w = .ok N w) (hm : m.length = N) (hx : ρ x = .pointer (some ⟨b, o, none⟩))
    (hb : w.heap[b]? = some (.cells cs.toArray T fr)) (hl : Lens cs o m m' cs') : (execOp ρ ⟨d, .load t x, ty, pos, af, g⟩).run P w = .ok (.value (.agg m.toArray)) w := ex_load hx (loadVar_agg hu hd (by rw [hm]; exact hs) hb hl)
theorem ex_loadElI {t : TypeId} {x : Operand} {A : Option Addr} {cap b o : Nat} {k : IntKind} {l : List Int} {i : Int} (hu : P.underlying t = some (.int k)) (hx : ρ x = .pointer (some ⟨b, o + i.toNat * 1, none⟩)) (h : Rd w 1 A l.length cap (ints k l)) (hA : A = some ⟨b, o, none⟩) (h0 : 0 ≤ i) (h1 : i < l.length) :
    (execOp ρ ⟨d, .load t x, ty, pos, af, g⟩).run P w = .ok (.value (.int k (lget l i))) w := ex_load hx (h.loadInt hA h0 h1 hu)
theorem ex_sliceQ {k1 k2 : IntKind} {t T : TypeId} {x : Operand} {lo hi : Option Operand} {A : Option Addr} {cap : Nat} {k : IntKind} {l l2 : List Int} {i j : Int} (ht : P.underlying t = some (.slice T)) (hsz : ∀ w, (sizeOf T).run P w = .ok 1 w)
    (hx : ρ x = .slice A l.length cap) (hlo : lo.map ρ = some (.int k1 i) ∨ (lo = none ∧ i = 0)) (hhi : hi.map ρ = some (.int k2 j) ∨ (hi = none ∧ j = l.length)) (hc : 0 ≤ i ∧ i ≤ j ∧ j ≤ l.length) (hrd : Rd w 1 A l.length cap (ints k l)) (hl : lsub l i j = l2) :
    ∃ v, (execOp ρ ⟨d, .slice t x lo hi none, ty, pos, af, g⟩).run P w = .ok (.value v) w ∧ ∃ A' cap', v = .slice A' l2.length cap' ∧ Rd w 1 A' l2.length cap' (ints k l2) ∧ Src (rblk A' l2.length) w.heap.size [rblk A l.length] := by
  obtain ⟨A', cap', hr, h1, h2⟩ := ex_sliceI (d := d) (ty := ty) (pos := pos) (af := af) (g := g) ht hsz hx hlo hhi hc.1 hc.2.1 hc.2.2 hrd hl
  exact ⟨_, hr, A', cap', rfl, h1, h2⟩
theorem ex_sliceArrQ {k1 k2 : IntKind} {t T : TypeId} {N : Nat} {x : Operand} {lo hi : Option Operand} {b off : Nat} {k : IntKind} {v : Vector Int N} {l2 : List Int} {i j : Int} {all m' all' : List Value} {TT : TypeId} {fr : Nat × Nat} (ht : P.underlying t = some (.array N T)) (hsz : ∀ w, (sizeOf T).run P w = .ok 1 w)
    (hx : ρ x = .pointer (some ⟨b, off, none⟩)) (hlo : lo.map ρ = some (.int k1 i) ∨ (lo = none ∧ i = 0)) (hhi : hi.map ρ = some (.int k2 j) ∨ (hi = none ∧ j = N)) (hc : 0 ≤ i ∧ i ≤ j ∧ j ≤ N) (hN : Nat.ble N 9223372036854775807 = true)
    (hb : w.heap[b]? = some (.cells all.toArray TT fr)) (hle : Lens all off (ints k v.toList) m' all') (hl : lsub v.toList i j = l2) :
    ∃ u, (execOp ρ ⟨d, .slice t x lo hi none, ty, pos, af, g⟩).run P w = .ok (.value u) w ∧ ∃ o' cap', u = .slice (some ⟨b, o', none⟩) l2.length cap' ∧ Rd w 1 (some ⟨b, o', none⟩) l2.length cap' (ints k l2) ∧ o' = (if N = i.toNat then off else off + i.toNat * 1) ∧ Src (rblk (some ⟨b, o', none⟩) l2.length) w.heap.size [some b] := by
  obtain ⟨o', cap', hr, h1, h2⟩ := ex_sliceArrI (d := d) (ty := ty) (pos := pos) (af := af) (g := g) ht hsz hx hlo hhi hc.1 hc.2.1 hc.2.2 hN hb hle hl
  exact ⟨_, hr, o', cap', rfl, h1, h2, Src.rblk (Src.self (by simp [ablk]))⟩
theorem ex_eqArrI {t u e : TypeId} {nn : Nat} {x y : Operand} {k : IntKind} {xs ys : Vector Int nn} (ht : P.underlying t = some (.array nn e)) (he : P.underlying e = some (.int k)) (hsz : ∀ w, (sizeOf e).run P w = .ok 1 w)
    (hgt : P.eqGuardType P.depth t = false) (hx : ρ x = .agg (ints k xs.toList).toArray) (hy : ρ y = .agg (ints k ys.toList).toArray) :
    (execOp ρ ⟨d, .binOp .eql t x y u, ty, pos, af, g⟩).run P w = .ok (.value (.bool (xs.toList == ys.toList))) w := by
  have := ex_eqArr (w := w) (d := d) (ty := ty) (pos := pos) (af := af) (g := g) (u := u) (neg := false) (.inl ⟨rfl, rfl⟩) ht he hsz hgt hx hy
  simpa using this
theorem ex_neqArrI {t u e : TypeId} {nn : Nat} {x y : Operand} {k : IntKind} {xs ys : Vector Int nn} (ht : P.underlying t = some (.array nn e)) (he : P.underlying e = some (.int k)) (hsz : ∀ w, (sizeOf e).run P w = .ok 1 w)
    (hgt : P.eqGuardType P.depth t = false) (hx : ρ x = .agg (ints k xs.toList).toArray) (hy : ρ y = .agg (ints k ys.toList).toArray) :
    (execOp ρ ⟨d, .binOp .neq t x y u, ty, pos, af, g⟩).run P w = .ok (.value (.bool (!(xs.toList == ys.toList)))) w := by
  have := ex_eqArr (w := w) (d := d) (ty := ty) (pos := pos) (af := af) (g := g) (u := u) (neg := true) (.inr ⟨rfl, rfl⟩) ht he hsz hgt hx hy
  simpa using this
theorem ex_quo {t u : TypeId} {x y : Operand} {k : IntKind} {a b : Int} (hx : ρ x = .int k a) (hy : ρ y = .int k b) (h : b ≠ 0) : (execOp ρ ⟨d, .binOp .quo t x y u, ty, pos, af, g⟩).run P w = .ok (.value (.int k (wquo k a b))) w := by
  simp only [execOp, hx, hy, eqGuard, binOp, Op.intDiv, h, if_false, ne_eq, not_true_eq_false]
  rfl
theorem ex_rem {t u : TypeId} {x y : Operand} {k : IntKind} {a b : Int} (hx : ρ x = .int k a) (hy : ρ y = .int k b) (h : b ≠ 0) : (execOp ρ ⟨d, .binOp .rem t x y u, ty, pos, af, g⟩).run P w = .ok (.value (.int k (wrem k a b))) w := by
  simp only [execOp, hx, hy, eqGuard, binOp, Op.intDiv, h, if_false, ne_eq, not_true_eq_false]
  rfl
/-- copy onto a slice of the call's own. -/
def lcopy (l l2 : List Int) : List Int := l2.take (Nat.min l2.length l.length) ++ l.drop (Nat.min l2.length l.length)
theorem lcopy_length (l l2 : List Int) : (lcopy l l2).length = l.length := by
  simp only [lcopy, List.length_append, List.length_take, List.length_drop]
  show min (min l2.length l.length) l2.length + (l.length - min l2.length l.length) = l.length
  omega
theorem ex_copyOwn {dd s : Operand} {t u T : TypeId} {k : IntKind} {c cap : Nat} {A A2 : Option Addr} {l l2 l3 : List Int} (ht : P.underlying t = some (.slice T)) (hsz : ∀ w, (sizeOf T).run P w = .ok 1 w)
    (hd : ρ dd = .slice A l.length cap) (hs : ρ s = .slice A2 l2.length c) (hown : Own w T 1 A l.length cap (ints k l)) (hrd : Rd w 1 A2 l2.length c (ints k l2)) (hl : lcopy l l2 = l3) :
    ∃ x w', (execOp ρ ⟨d, .call { callee := .builtin .copy, args := #[dd, s], argTypes := #[t, u] }, ty, pos, af, g⟩).run P w = .ok (.value x) w' ∧ (x = .int .i64 (Nat.min l2.length l.length : Nat) ∧ Fr [ablk A] w w' ∧ Own w' T 1 A l3.length cap (ints k l3)) := by
  have hn3 : l3.length = l.length := by rw [← hl, lcopy_length]
  rcases hown.2 with ⟨h2, h3⟩ | ⟨gg, cap', cur, hv, hg, hh, hle, hmax, hcs, htk⟩
  · simp only [Value.slice.injEq] at h2
    obtain ⟨rfl, hl0, rfl⟩ := h2
    have e1 : l = [] := List.eq_nil_of_length_eq_zero h3
    subst e1
    have e3 : l3 = [] := List.eq_nil_of_length_eq_zero (by simpa using hn3)
    subst e3
    refine ⟨.int .i64 (Nat.min l2.length 0 : Nat), w, ex_builtin (vs := #[.slice none 0 0, .slice A2 l2.length c]) (by simp [hd, hs]) ?_, rfl, Fr.refl _ _, by simpa using hown⟩
    have hfc := run_firstCells (P := P) (n := 0) hrd (Nat.zero_le _)
    simp only [builtin, Builtin.copy_]
    simp [run_underlying ht, Builtin.lenOf, hsz, hfc, goInt]
  · simp only [Value.slice.injEq] at hv
    obtain ⟨rfl, _, rfl⟩ := hv
    rw [Nat.mul_one] at htk
    have hsplit : cur.toList = ints k l ++ cur.toList.drop l.length := by conv => lhs; rw [← List.take_append_drop l.length cur.toList, htk]
    have hb : w.heap[gg]? = some (.cells (ints k l ++ cur.toList.drop l.length).toArray T (0, 0)) := by rw [hh, ← hsplit]
    have hmn : Nat.min l2.length l.length ≤ l.length := Nat.min_le_right _ _
    have hm2 : Nat.min l2.length l.length ≤ l2.length := Nat.min_le_left _ _
    have hlens : Lens (ints k l ++ cur.toList.drop l.length) 0 (ints k (l.take (Nat.min l2.length l.length))) (ints k (l2.take (Nat.min l2.length l.length))) (ints k l3 ++ cur.toList.drop l.length) := by
      refine ⟨[], ints k (l.drop (Nat.min l2.length l.length)) ++ cur.toList.drop l.length, ?_, ?_, rfl⟩
      · rw [List.nil_append, ← List.append_assoc, ints_append, List.take_append_drop]
      · rw [List.nil_append, ← List.append_assoc, ints_append, ← hl]; rfl
    obtain ⟨x, w', hr, hx, hF, hb'⟩ := ex_copy (d := d) (ty := ty) (pos := pos) (af := af) (g := g) (sz := 1) (all' := ints k l3 ++ cur.toList.drop l.length) (old := ints k (l.take (Nat.min l2.length l.length))) ht hsz hb hd hs hrd (fun x hx => ints_one k l2 x hx)
      (by rw [Nat.mul_one, ints_take]; exact hlens) (by rw [ints_length, List.length_take, Nat.mul_one]; exact Nat.min_eq_left hmn)
    refine ⟨x, w', hr, hx, hF, ?_⟩
    refine Own.made hb' (by rw [ints_length, Nat.mul_one]) ?_ (by omega) (by simpa [maxLen] using hmax)
    rw [List.length_append, ints_length, hn3]
    have : (ints k l ++ cur.toList.drop l.length).length = cap * 1 := by rw [← hsplit]; simpa using hcs
    rw [List.length_append, ints_length] at this
    exact this
theorem Fr.noblk {w w' : World} (h : Fr [ablk (Option.none)] w w') : Fr [] w w' := h.weak (fun k _ hk => by simp [ablk] at hk)
theorem Src.noblk {x : Option Nat} {m : Nat} (h : Src x m [ablk (Option.none)]) : Src x m [] := by
  rcases h with h | h | h
  · exact .inl h
  · exact .inr (.inl h)
  · simp [ablk] at h; exact .inl h
theorem Src.ofOwn {A : Option Addr} {m : Nat} (l : List (Option Nat)) (h : ablk A ∈ l) : Src (ablk A) m l := .inr (.inr h)
theorem ex_callI {c : Call} {f : FuncId} {args : List Value} (hc : c.callee = .value (.func f)) (ha : (c.args.toList.map ρ) = args) (hρ : ρ (.func f) = .func (.func f) #[] #[])
    (h : ∀ a w, (callFunc f a).run P w = .ok (.enter f a) w) : (execOp ρ ⟨d, .call c, ty, pos, af, g⟩).run P w = .ok (.enter f args.toArray) w := ex_call hc (by rw [← ha]; apply Array.ext'; simp) hρ h
end
end Go.Proofs.Ythbcjjhlebhghaa.Walk
namespace Go.Proofs.Ythbcjjhlebhghaa.Walk
open Go
section
variable {P : Program} {n : Nat} {K : Post} {E : Env} {w : World} {ops : Array Oper} {f : Nat} {p : Pend} {L : Array Bool}
theorem WL.opU {o : Oper} {rest : List Oper} {Q : Value → Prop} (hw : E.want ops o = some true) (hs : noSel o = true) (hv : E.all o.op.operands.toList = true)
    (h : ∃ v, (∀ w, (execOp E.rho o).run P w = .ok (.value v) w) ∧ Q v) (k : ∀ v, Q v → ∃ E', E.putd n o.dst v = some E' ∧ WL P n ops rest K E' w) : WL P n ops (o :: rest) K E w := by
  obtain ⟨v, hr, hQ⟩ := h
  obtain ⟨E', he, hk⟩ := k v hQ
  exact WL.value v hw hs hv (hr w) he hk
theorem WD.opU {o : Oper} {Q : Value → Prop} (i : Nat) (hi : ops[i]? = some o) (hb : quietB ops L i [] [] (p.map (·.1)) = true) (hw : E.want ops o = some true) (hv : E.all o.op.operands.toList = true)
    (h : ∃ v, (∀ w, (execOp E.rho o).run P w = .ok (.value v) w) ∧ Q v)
    (k : ∀ v, Q v → ∃ E', E.putd n o.dst v = some E' ∧ WD P n ops f p (L.setIfInBounds i true) K E' w) : WD P n ops (f + 1) p L K E w := by
  obtain ⟨v, hr, hQ⟩ := h
  obtain ⟨E', he, hk⟩ := k v hQ
  exact WD.quiet i [] [] v (fun _ => True) hi hb hw hv he (fun w _ => hr w) trivial hk.lessT
theorem WD.valU {o : Oper} {E' : Env} (i : Nat) (v : Value) (hi : ops[i]? = some o) (hb : quietB ops L i [] [] (p.map (·.1)) = true) (hw : E.want ops o = some true) (hv : E.all o.op.operands.toList = true)
    (hr : ∀ w, (execOp E.rho o).run P w = .ok (.value v) w) (he : E.putd n o.dst v = some E') (hk : WD P n ops f p (L.setIfInBounds i true) K E' w) : WD P n ops (f + 1) p L K E w :=
  WD.quiet i [] [] v (fun _ => True) hi hb hw hv he (fun w _ => hr w) trivial hk.lessT
variable {ρ : Operand → Value} {d : Option Tmp} {ty : TypeId} {pos : String} {af : Array Edge} {g : Option (Nat × Bool)}
theorem ex_sliceU {k1 k2 : IntKind} {t T : TypeId} {x : Operand} {lo hi : Option Operand} {A : Option Addr} {cap : Nat} {k : IntKind} {l l2 : List Int} {i j : Int} (ht : P.underlying t = some (.slice T)) (hsz : ∀ w, (sizeOf T).run P w = .ok 1 w)
    (hx : ρ x = .slice A l.length cap) (hlo : lo.map ρ = some (.int k1 i) ∨ (lo = none ∧ i = 0)) (hhi : hi.map ρ = some (.int k2 j) ∨ (hi = none ∧ j = l.length)) (hc : 0 ≤ i ∧ i ≤ j ∧ j ≤ l.length) (hrd : Rd w 1 A l.length cap (ints k l)) (hl : lsub l i j = l2) :
    ∃ v, (∀ w, (execOp ρ ⟨d, .slice t x lo hi none, ty, pos, af, g⟩).run P w = .ok (.value v) w) ∧ ∃ A' cap', v = .slice A' l2.length cap' ∧ Rd w 1 A' l2.length cap' (ints k l2) ∧ Src (rblk A' l2.length) w.heap.size [rblk A l.length] := by
  have hp := hrd.piece (lo := i.toNat) (hi := j.toNat) (by omega) (by omega)
  have hs := hrd.piece_src (lo := i.toNat) (m := j.toNat - i.toNat) (by omega)
  have hn : j.toNat - i.toNat = l2.length := by rw [← hl, lsub_length hc.1 hc.2.1 hc.2.2]
  rw [hn] at hp hs
  refine ⟨.slice (if cap = i.toNat then A else A.map (·.add (i.toNat * 1))) l2.length (cap - i.toNat), fun w' => ?_, _, _, rfl, ?_, hs⟩
  · have hle := hrd.le
    have hrd' : Rd (w'.alloc (.cells (ints k l).toArray T)) 1 (some ⟨w'.heap.size, 0, none⟩) l.length cap (ints k l) := ⟨hrd.le, hrd.max, hrd.len, .inr ⟨w'.heap.size, 0, [], [], T, (0, 0), rfl, by simpa using alloc_at w' _, rfl⟩⟩
    -- the run asks of the value alone
    have hb : (Instr.sliceBounds true l.length cap (lo.map ρ) (hi.map ρ) none).run P w' = .ok (i.toNat, j.toNat, cap) w' := by
      unfold Instr.sliceBounds
      rcases hhi with hhi | ⟨hhi, hhn⟩
      · rw [hhi]
        rcases hlo with hlo | ⟨hlo, hl0⟩
        · cases lo with
          | none => simp at hlo
          | some lo => simp at hlo; simp [hlo, run_sliceBound (P := P) (w := w') rfl (show 0 ≤ j by omega) (show j ≤ cap by omega), run_sliceBound (P := P) (w := w') rfl hc.1 (show i ≤ j.toNat by omega)]
        · subst hlo; subst hl0
          simp [run_sliceBound (P := P) (w := w') rfl (show 0 ≤ j by omega) (show j ≤ cap by omega)]
      · subst hhi
        rcases hlo with hlo | ⟨hlo, hl0⟩
        · cases lo with
          | none => simp at hlo
          | some lo => simp at hlo; simp [hlo, hhn, run_sliceBound (P := P) (w := w') rfl hc.1 (show i ≤ l.length by omega)]
        · subst hlo; subst hl0
          simp [hhn]
    simp only [execOp, Instr.sliceAt, hx]
    rw [Sem.run_bind, Sem.run_bind, run_underlying ht, Result.andThen_ok]
    simp only [Instr.slice]
    rw [Sem.run_bind, run_underlying ht, Result.andThen_ok]
    simp only [Option.map_none]
    rw [Sem.run_bind, hb, Result.andThen_ok, Sem.run_bind, hsz, Result.andThen_ok]
    simp only [hn]
    rfl
  · have e3 : (((ints k l).drop (i.toNat * 1)).take (l2.length * 1)) = ints k l2 := by
      rw [Nat.mul_one, Nat.mul_one, ints_drop, ints_take]
      congr 1
      rw [← hn]; exact hl
    rw [e3] at hp
    exact hp
theorem ex_sliceArrU {k1 k2 : IntKind} {t T : TypeId} {N : Nat} {x : Operand} {lo hi : Option Operand} {b off : Nat} {k : IntKind} {v : Vector Int N} {l2 : List Int} {i j : Int} {all m' all' : List Value} {TT : TypeId} {fr : Nat × Nat} (ht : P.underlying t = some (.array N T)) (hsz : ∀ w, (sizeOf T).run P w = .ok 1 w)
    (hx : ρ x = .pointer (some ⟨b, off, none⟩)) (hlo : lo.map ρ = some (.int k1 i) ∨ (lo = none ∧ i = 0)) (hhi : hi.map ρ = some (.int k2 j) ∨ (hi = none ∧ j = N)) (hc : 0 ≤ i ∧ i ≤ j ∧ j ≤ N) (hN : Nat.ble N 9223372036854775807 = true)
    (hb : w.heap[b]? = some (.cells all.toArray TT fr)) (hle : Lens all off (ints k v.toList) m' all') (hl : lsub v.toList i j = l2) :
    ∃ u, (∀ w, (execOp ρ ⟨d, .slice t x lo hi none, ty, pos, af, g⟩).run P w = .ok (.value u) w) ∧ ∃ o' cap', u = .slice (some ⟨b, o', none⟩) l2.length cap' ∧ Rd w 1 (some ⟨b, o', none⟩) l2.length cap' (ints k l2) ∧ o' = (if N = i.toNat then off else off + i.toNat * 1) ∧ Src (rblk (some ⟨b, o', none⟩) l2.length) w.heap.size [some b] := by
  obtain ⟨o', cap', hr, h1, h2⟩ := ex_sliceArrI (d := d) (ty := ty) (pos := pos) (af := af) (g := g) ht hsz hx hlo hhi hc.1 hc.2.1 hc.2.2 hN hb hle hl
  refine ⟨.slice (some ⟨b, o', none⟩) l2.length cap', fun w' => ?_, o', cap', rfl, h1, h2, Src.rblk (Src.self (by simp [ablk]))⟩
  have hr1 := ex_sliceArr (P := P) (w := w) (d := d) (ty := ty) (pos := pos) (af := af) (g := g) ht hsz hx hlo hhi hc.1 hc.2.1 hc.2.2
  have hr2 := ex_sliceArr (P := P) (w := w') (d := d) (ty := ty) (pos := pos) (af := af) (g := g) ht hsz hx hlo hhi hc.1 hc.2.1 hc.2.2
  rw [hr1] at hr
  simp only [Result.ok.injEq, Next.value.injEq, and_true] at hr
  rw [hr2, hr]
end
end Go.Proofs.Ythbcjjhlebhghaa.Walk
