/- The laws of a judgement on the machine's code over named slots: own work, for the walks. -/
import Derived.Test.YthbcjjhlebhghaaC6
namespace Go.Proofs.Ythbcjjhlebhghaa.Walk
open Go
def vcopy {N : Nat} (v : Vector Int N) (i : Int) (ld l : List Int) : Vector Int N :=
  Vector.ofFn fun t => if i.toNat ≤ t.1 ∧ t.1 < i.toNat + Nat.min l.length ld.length then l.getD (t.1 - i.toNat) 0 else vget v t.1
def lvec (N : Nat) (l : List Int) : Vector Int N := Vector.ofFn fun t => l.getD t.1 0
theorem lvec_toList {N : Nat} {l : List Int} (h : N ≤ l.length) : (lvec N l).toList = l.take N := by
  apply List.ext_getElem
  · rw [Vector.length_toList, List.length_take]; omega
  · intro i h1 h2
    rw [Vector.length_toList] at h1
    simp [lvec, List.getElem?_eq_getElem (show i < l.length by omega)]
theorem vcopy_toList {N : Nat} {v : Vector Int N} {i : Int} {ld l : List Int} (h0 : 0 ≤ i) (h1 : i ≤ N) (h2 : ld.length ≤ N - i.toNat) :
    (vcopy v i ld l).toList = v.toList.take i.toNat ++ (l.take (Nat.min l.length ld.length) ++ v.toList.drop (i.toNat + Nat.min l.length ld.length)) := by
  have hm1 : Nat.min l.length ld.length ≤ l.length := Nat.min_le_left _ _
  have hm2 : Nat.min l.length ld.length ≤ ld.length := Nat.min_le_right _ _
  have hv : v.toList.length = N := Vector.length_toList
  generalize hm : Nat.min l.length ld.length = m at *
  apply List.ext_getElem
  · simp only [List.length_append, List.length_take, List.length_drop, Vector.length_toList]
    omega
  · intro t ht1 ht2
    rw [Vector.length_toList] at ht1
    have e1 : (vcopy v i ld l).toList[t]'(by rw [Vector.length_toList]; exact ht1) = if i.toNat ≤ t ∧ t < i.toNat + m then l.getD (t - i.toNat) 0 else vget v t := by
      simp only [vcopy, Vector.getElem_toList, Vector.getElem_ofFn, hm]
    rw [e1]
    by_cases hc1 : t < i.toNat
    · rw [if_neg (by omega), List.getElem_append_left (by rw [List.length_take]; omega), List.getElem_take]
      simp [vget, List.getElem?_eq_getElem (show t < v.toList.length by omega)]
    · rw [List.getElem_append_right (by rw [List.length_take]; omega)]
      simp only [List.length_take, hv, Nat.min_eq_left (show i.toNat ≤ N by omega)]
      by_cases hc2 : t < i.toNat + m
      · rw [if_pos ⟨by omega, hc2⟩, List.getElem_append_left (by rw [List.length_take]; omega), List.getElem_take]
        simp [List.getElem?_eq_getElem (show t - i.toNat < l.length by omega)]
      · rw [if_neg (by omega), List.getElem_append_right (by rw [List.length_take]; omega)]
        simp only [List.length_take, Nat.min_eq_left hm1, List.getElem_drop]
        have : i.toNat + m + (t - i.toNat - m) = t := by omega
        simp only [vget, this, Int.toNat_natCast, List.getD_eq_getElem?_getD, List.getElem?_eq_getElem (show t < v.toList.length by omega), Option.getD_some]
section
variable {P : Program} {n : Nat} {K : Post} {E : Env} {w : World} {ops : Array Oper} {f : Nat} {p : Pend} {L : Array Bool}
theorem WL.env {E' : Env} {l : List Oper} (h : E = E') (k : WL P n ops l K E' w) : WL P n ops l K E w := h ▸ k
theorem WD.env {E' : Env} (h : E = E') (k : WD P n ops f p L K E' w) : WD P n ops f p L K E w := h ▸ k
theorem lset_len {l l2 : List Int} {i x : Int} (h : lset l i x = l2) : l.length = l2.length := by rw [← h]; simp [lset]
theorem lcopy_len {l l1 l2 : List Int} (h : lcopy l l1 = l2) : l.length = l2.length := by rw [← h, lcopy_length]
theorem W.joinN {c : Code} (J : Env → World → Prop) (hy : ∀ E w, J E w → K .normal E w) (hx : (∀ E w, J E w → K .normal E w) → W P n c K E w) : W P n c K E w := hx hy
theorem W.cutN {c : Code} (J : Env → World → Prop) (h : W P n c (joinK J K) E w) (k : ∀ E w, J E w → K .normal E w) : W P n c K E w :=
  h.mono fun e E w hq => by
    cases e with
    | normal => exact k E w hq
    | _ => exact hq
variable {ρ : Operand → Value} {d : Option Tmp} {ty : TypeId} {pos : String} {af : Array Edge} {g : Option (Nat × Bool)}
theorem ex_copyArrI {dd s : Operand} {t u T : TypeId} {k : IntKind} {b o' off N dc c : Nat} {i j : Int} {A2 : Option Addr} {all all' : List Value} {v v2 : Vector Int N} {ld l : List Int} {TT : TypeId} (ht : P.underlying t = some (.slice T)) (hsz : ∀ w, (sizeOf T).run P w = .ok 1 w) (hb : w.heap[b]? = some (.cells all.toArray TT (0, 0)))
    (hd : ρ dd = .slice (some ⟨b, o', none⟩) ld.length dc) (hs : ρ s = .slice A2 l.length c) (hrd : Rd w 1 A2 l.length c (ints k l)) (ho : o' = (if N = i.toNat then off else off + i.toNat * 1)) (hc : 0 ≤ i ∧ i ≤ j ∧ j ≤ N) (hl : lsub v.toList i j = ld) (hv : vcopy v i ld l = v2)
    (hle : Lens all off (ints k v.toList) (ints k v2.toList) all') :
    ∃ x w', (execOp ρ ⟨d, .call { callee := .builtin .copy, args := #[dd, s], argTypes := #[t, u] }, ty, pos, af, g⟩).run P w = .ok (.value x) w' ∧ (x = .int .i64 (Nat.min l.length ld.length : Nat) ∧ Fr [some b] w w' ∧ w'.heap[b]? = some (.cells all'.toArray TT (0, 0))) := by
  have hld : ld.length ≤ N - i.toNat := by
    rw [← hl, lsub_length hc.1 hc.2.1 (by rw [Vector.length_toList]; exact hc.2.2)]; omega
  exact ex_copyArr (d := d) (ty := ty) (pos := pos) (af := af) (g := g) (dl := 0) (m := 0) ht hsz hb hd hs hrd ho hc.1 (by omega) hld hle (by rw [← hv]; exact vcopy_toList hc.1 (by omega) hld)
theorem ex_arrPtrI {t T : TypeId} {N : Nat} {x : Operand} {A : Option Addr} {l : List Int} {cap b o : Nat} (ht : P.underlying t = some (.array N T)) (hx : ρ x = .slice A l.length cap) (hA : A = some ⟨b, o, none⟩) (h : (N : Int) ≤ (l.length : Int)) :
    (execOp ρ ⟨d, .sliceToArrayPointer t x, ty, pos, af, g⟩).run P w = .ok (.value (.pointer (some ⟨b, o, none⟩))) w := by
  rw [← hA]; exact ex_arrPtr ht hx (by omega)
theorem ex_loadArrI {t T : TypeId} {N : Nat} {x : Operand} {A : Option Addr} {l : List Int} {cap b o : Nat} {k : IntKind} {v : Vector Int N} (hu : P.underlying t = some (.array N T)) (hs : ∀ w, (sizeOf t).run P w = .ok N w) (hx : ρ x = .pointer (some ⟨b, o, none⟩)) (hrd : Rd w 1 A l.length cap (ints k l)) (h0 : 0 < N)
    (hA : A = some ⟨b, o, none⟩) (h : (N : Int) ≤ (l.length : Int)) (hl : lvec N l = v) : (execOp ρ ⟨d, .load t x, ty, pos, af, g⟩).run P w = .ok (.value (.agg (ints k v.toList).toArray)) w := by
  subst hA
  have := Rd.loadArr (P := P) hrd hu (by rw [Nat.mul_one]; exact hs) (by omega) h0
  rw [Nat.mul_one, ints_take, ← lvec_toList (by omega), hl] at this
  exact ex_load hx this
theorem ex_appendNil {e : Oper} {T : TypeId} {l3 : List Int} {k : IntKind} (h : ∃ v w', (execOp ρ e).run P w = .ok (.value v) w' ∧ (∃ A' cap', v = .slice A' l3.length cap' ∧ Own w' T 1 A' l3.length cap' (ints k l3) ∧ Fr [ablk none] w w' ∧ Src (ablk A') w.heap.size [ablk none])) :
    ∃ v w', (execOp ρ e).run P w = .ok (.value v) w' ∧ (∃ A' cap', v = .slice A' l3.length cap' ∧ Own w' T 1 A' l3.length cap' (ints k l3) ∧ Fr [] w w' ∧ Src (ablk A') w.heap.size []) := by
  obtain ⟨v, w', h1, A', cap', h2, h3, h4, h5⟩ := h
  exact ⟨v, w', h1, A', cap', h2, h3, h4.noblk, h5.noblk⟩
theorem ex_storeElI {t T : TypeId} {x y : Operand} {A : Option Addr} {b cap : Nat} {k : IntKind} {l l2 : List Int} {i z : Int} (hx : ρ x = .pointer (some ⟨b, 0 + i.toNat * 1, none⟩)) (hy : ρ y = .int k z) (hs : ∀ w, (sizeOf t).run P w = .ok 1 w)
    (hA : A = some ⟨b, 0, none⟩) (hown : Own w T 1 A l.length cap (ints k l)) (h0 : 0 ≤ i) (h1 : i < l.length) (hl : lset l i z = l2) :
    ∃ w', (execOp ρ ⟨d, .store t x y, ty, pos, af, g⟩).run P w = .ok .skip w' ∧ (Fr [ablk A] w w' ∧ Own w' T 1 A l2.length cap (ints k l2)) := by
  subst hA
  have hn : l2.length = l.length := by rw [← hl]; simp [lset]
  obtain ⟨w', h2, h3, h4⟩ := ex_storeOwn (d := d) (ty := ty) (pos := pos) (af := af) (g := g) (o := 0 + i.toNat * 1) (N := 1) hx hy hs hown (by rw [Nat.zero_add]; exact Lens.row h0 h1 z) rfl rfl rfl (one_sing rfl)
  rw [hl, ← hn] at h4
  exact ⟨w', h2, h3, h4⟩
theorem loadVar_aggN {t T : TypeId} {dsc : TypeDesc} {b o N : Nat} {cs m m' cs' : List Value} {fr : Nat × Nat} (hu : P.underlying t = some dsc) (hd : (match dsc with | .struct _ | .array _ _ => true | _ => false) = true) (hs : ∀ w, (sizeOf t).run P w = .ok N w) (hm : m.length = N)
    (hb : w.heap[b]? = some (.cells cs.toArray T fr)) (hl : Lens cs o m m' cs') : (loadVar t ⟨b, o, none⟩).run P w = .ok (.agg m.toArray) w := loadVar_agg hu hd (by rw [hm]; exact hs) hb hl
end
end Go.Proofs.Ythbcjjhlebhghaa.Walk
