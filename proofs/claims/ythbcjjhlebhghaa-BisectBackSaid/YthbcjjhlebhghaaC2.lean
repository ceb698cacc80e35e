/- The laws of a judgement on the machine's code over named slots: own work, for the walks. -/
import Derived.Test.YthbcjjhlebhghaaC1
namespace Go.Proofs.Ythbcjjhlebhghaa.Walk
open Go

/-! ### Regions that draw their order -/
abbrev Pend := List (List Nat × (World → Prop))
/-- What is kept in mind of what was read ahead of its time: it holds as long as none of the named operations has run. -/
def Pend.hold (p : Pend) (L : Array Bool) (w : World) : Prop := ∀ x ∈ p, (∀ d ∈ x.1, L.getD d false = false) → x.2 w
def Pend.now : Pend → World → Prop
  | [], _ => True
  | x :: r, w => x.2 w ∧ Pend.now r w
theorem Pend.now_hold : ∀ {p : Pend} {w : World}, p.now w → ∀ L, p.hold L w
  | [], _, _, _ => fun x hx => by cases hx
  | y :: r, w, h, L => fun x hx hd => by
    rcases List.mem_cons.1 hx with rfl | hx
    · exact h.1
    · exact Pend.now_hold h.2 L x hx hd

def wpAnyC (P : Program) (ops : Array Oper) (Q : Exit → Act → World → Prop) (p : Pend) : Nat → Array Bool → Act → World → Prop
  | 0, L, a, w => p.hold L w ∧ Region.ready .any ops L = [] ∧ Q .normal a w
  | f + 1, L, a, w => p.hold L w ∧ (Region.ready .any ops L = [] → Q .normal a w) ∧
    ∀ i ∈ Region.ready .any ops L, wpOp P ops Q i (wpAnyC P ops Q p f (L.setIfInBounds i true)) a w

section
variable {P : Program} {ops : Array Oper} {Q : Exit → Act → World → Prop}
theorem wpAnyC_any : ∀ (f : Nat) (p : Pend) (L : Array Bool) (a : Act) (w : World), wpAnyC P ops Q p f L a w → wpAny P .any ops Q f L a w
  | 0, p, L, a, w, h => ⟨h.2.1, h.2.2⟩
  | f + 1, p, L, a, w, h => ⟨h.2.1, fun i hi => wpOp_mono (fun a w => wpAnyC_any f p _ a w) (h.2.2 i hi)⟩
theorem wpAnyC_hold {f : Nat} {p : Pend} {L : Array Bool} {a : Act} {w : World} (h : wpAnyC P ops Q p f L a w) : p.hold L w := by
  cases f with
  | zero => exact h.1
  | succ f => exact h.1
theorem getD_grow {L : Array Bool} {d i : Nat} (h : L.getD d false = true) : (L.setIfInBounds i true).getD d false = true := getD_set_true h
/-- What can't be asked any more may be let go. -/
theorem wpAnyC_more {p p' : Pend} : ∀ (f : Nat) (L : Array Bool) (a : Act) (w : World), (∀ x ∈ p', x ∈ p ∨ ∃ d ∈ x.1, L.getD d false = true) →
    wpAnyC P ops Q p f L a w → wpAnyC P ops Q p' f L a w
  | 0, L, a, w, hp, h => ⟨fun x hx hd => by
      rcases hp x hx with h1 | ⟨d, h1, h2⟩
      · exact h.1 x h1 hd
      · rw [hd d h1] at h2; exact absurd h2 (by decide), h.2⟩
  | f + 1, L, a, w, hp, h => ⟨fun x hx hd => by
      rcases hp x hx with h1 | ⟨d, h1, h2⟩
      · exact h.1 x h1 hd
      · rw [hd d h1] at h2; exact absurd h2 (by decide), h.2.1, fun i hi => wpOp_mono (fun a w => wpAnyC_more f _ a w (fun x hx => by
          rcases hp x hx with h1 | ⟨d, h1, h2⟩
          · exact .inl h1
          · exact .inr ⟨d, h1, getD_grow h2⟩)) (h.2.2 i hi)⟩

/-- What an operation yields in each world of a class. -/
def YieldsF (P : Program) (ops : Array Oper) (F : World → Prop) (o : Oper) (v : Value) (a : Act) : Prop :=
  (Region.wanted o (yielded ops a.tmps) = true ∧ ∀ w, F w → (execOp a.eval o).run P w = .ok (.value v) w) ∨
  (Region.wanted o (yielded ops a.tmps) = false ∧ v = undef)
theorem YieldsF.same {F : World → Prop} {o : Oper} {v : Value} {a a' : Act} (hy : YieldsF P ops F o v a) (he : execOp a'.eval o = execOp a.eval o)
    (hw : Region.wanted o (yielded ops a'.tmps) = Region.wanted o (yielded ops a.tmps)) : YieldsF P ops F o v a' := by
  unfold YieldsF at *
  rw [he, hw]
  exact hy
theorem YieldsF.run {F : World → Prop} {i : Nat} {o : Oper} {v : Value} {a : Act} (hi : ops[i]? = some o) (hy : YieldsF P ops F o v a) {K : Act → World → Prop} {w : World} (hF : F w)
    (h : K (a.put o.dst v) w) : wpOp P ops Q i K a w := by
  unfold wpOp
  simp only [hi]
  rcases hy with ⟨hw, hv⟩ | ⟨hw, rfl⟩
  · simp only [hw, if_true, Oper.wp, hv w hF]; exact .inl h
  · simp only [hw, Bool.false_eq_true, if_false]; exact h

theorem wpOp_absorb {F : World → Prop} {j : Nat} {oi oj : Oper} {v : Value} (hj : ops[j]? = some oj) (hap : oi.apart ops oj = true)
    (hsi : ∀ cs b, oi.op ≠ .select cs b) (hsj : ∀ cs b, oj.op ≠ .select cs b) (hQ : ∀ c a w, ¬ Q (.panic c) a w) {K : Act → World → Prop} {a : Act} {w : World}
    (hy : YieldsF P ops F oi v a) (h : wpOp P ops Q j K (a.put oi.dst v) w) : wpOp P ops Q j (fun a' w' => YieldsF P ops F oi v a' ∧ K (a'.put oi.dst v) w') a w := by
  obtain ⟨h1, h2, h3⟩ := Oper.apart_spec hap
  have keep : ∀ u, YieldsF P ops F oi v (a.put oj.dst u) := fun u => hy.same (execOp_put oi hsi a oj.dst u h3) (wanted_put oi a oj.dst u h3)
  unfold wpOp at *
  simp only [hj] at h ⊢
  rw [wanted_put oj a oi.dst v h1] at h
  split at h
  · rename_i hw
    rw [if_pos hw]
    rcases h with h | ⟨hasks, hlets⟩
    · refine .inl ?_
      unfold Oper.wp at h ⊢
      rw [execOp_put oj hsj a oi.dst v h1] at h
      cases hr : (execOp a.eval oj).run P w with
      | ok nx w' =>
        rw [hr] at h
        cases nx with
        | value u => exact ⟨keep u, by rw [← Act.put_comm a v u h2]; exact h⟩
        | skip => exact ⟨keep undef, by rw [← Act.put_comm a v undef h2]; exact h⟩
        | defer d =>
          refine ⟨?_, ?_⟩
          · exact (YieldsF.same (a := a) (a' := { a with defers := d :: a.defers }) hy rfl rfl).same (execOp_put oi hsi _ oj.dst undef h3) (wanted_put oi _ oj.dst undef h3)
          · rw [← Act.put_comm _ v undef h2, ← Act.put_defers]; exact h
        | enter f args =>
          refine Calls.mono h fun e w'' he => ?_
          cases e with
          | returned u => exact ⟨keep u, by rw [← Act.put_comm a v u h2]; exact he⟩
          | panicked c => exact absurd he (hQ _ _ _)
          | outgrown => exact he
        | row row args => exact Rows.mono h fun u w'' he => ⟨keep u, by rw [← Act.put_comm a v u h2]; exact he⟩
        | _ => exact h
      | halt x w' =>
        rw [hr] at h
        cases x with
        | panic u => exact absurd h (hQ _ _ _)
        | _ => exact h
    · exact .inr ⟨by unfold Oper.asks at *; rw [execOp_put oj hsj a oi.dst v h1] at hasks; exact hasks, hlets⟩
  · rename_i hw
    rw [if_neg hw]
    exact ⟨keep undef, by rw [← Act.put_comm a v undef h2]; exact h⟩

/-- A quiet operation that may go, goes first: D: those with an effect that wait for it; S: all that wait for it. -/
theorem wpAnyC_first {i : Nat} {oi : Oper} {v : Value} {F : World → Prop} {D S : List Nat} {p : Pend} (hi : ops[i]? = some oi) (hsel : ∀ (j : Nat) (o : Oper) cs b, ops[j]? = some o → o.op ≠ .select cs b)
    (hQ : ∀ c a w, ¬ Q (.panic c) a w) (hS : ∀ j ∈ S, ∀ o, ops[j]? = some o → ∃ e ∈ o.after, Region.binds .any e = true ∧ (e.on = i ∨ e.on ∈ S)) (hDS : ∀ d ∈ D, d ∈ S) (hiS : i ∉ S)
    (hp : ∀ x ∈ p, i ∉ x.1) :
    ∀ (fuel : Nat) (L : Array Bool) (a : Act) (w : World),
      (∀ j oj, ops[j]? = some oj → j ≠ i → L.getD j true = false → (∀ e ∈ oj.after, Region.binds .any e = true → e.on ≠ i) → oi.apart ops oj = true) →
      (∀ j ∈ S, L.getD j false = false) → i ∈ Region.ready .any ops L → YieldsF P ops F oi v a →
      wpAnyC P ops Q ((D, F) :: p) fuel (L.setIfInBounds i true) (a.put oi.dst v) w → wpAnyC P ops Q p (fuel + 1) L a w := by
  have holds : ∀ {fuel : Nat} {L : Array Bool} {a : Act} {w : World}, (∀ j ∈ S, L.getD j false = false) →
      wpAnyC P ops Q ((D, F) :: p) fuel (L.setIfInBounds i true) a w → F w ∧ p.hold L w := by
    intro fuel L a w hSL H
    have h1 := wpAnyC_hold H
    refine ⟨h1 (D, F) (List.mem_cons_self ..) (fun d hd => ?_), fun x hx hd => ?_⟩
    · rw [getD_set_ne false (fun (e : i = d) => hiS (e ▸ hDS d hd))]
      exact hSL d (hDS d hd)
    · refine h1 x (List.mem_cons_of_mem _ hx) (fun d hdx => ?_)
      rw [getD_set_ne false (fun (e : i = d) => hp x hx (e ▸ hdx))]
      exact hd d hdx
  have notS : ∀ {L : Array Bool} {j : Nat}, (∀ k ∈ S, L.getD k false = false) → i ∈ Region.ready .any ops L → j ∈ Region.ready .any ops L → j ∉ S := by
    intro L j hSL hr hj hjS
    obtain ⟨_, o, ho, hall⟩ := mem_ready.1 hj
    obtain ⟨e, he, hb, hon⟩ := hS j hjS o ho
    have h2 := hall e he hb
    rcases hon with hon | hon
    · rw [hon] at h2
      have h0 := (mem_ready.1 hr).1
      rcases Nat.lt_or_ge i L.size with h' | h'
      · simp [h'] at h0 h2; rw [h0] at h2; cases h2
      · simp [Array.getElem?_eq_none h'] at h2
    · rw [hSL _ hon] at h2; cases h2
  intro fuel
  induction fuel with
  | zero =>
    intro L a w hfree hSL hr hy H
    obtain ⟨hF, hh⟩ := holds hSL H
    refine ⟨hh, fun h => (by rw [h] at hr; cases hr), fun j hj => ?_⟩
    by_cases hji : j = i
    · subst hji; exact hy.run hi hF (wpAnyC_more 0 _ _ _ (fun x hx => .inl (List.mem_cons_of_mem _ hx)) H)
    · have := ready_mono hj hji
      rw [H.2.1] at this
      cases this
  | succ fuel ih =>
    intro L a w hfree hSL hr hy H
    obtain ⟨hF, hh⟩ := holds hSL H
    refine ⟨hh, fun h => (by rw [h] at hr; cases hr), fun j hj => ?_⟩
    by_cases hji : j = i
    · subst hji; exact hy.run hi hF (wpAnyC_more _ _ _ _ (fun x hx => .inl (List.mem_cons_of_mem _ hx)) H)
    · have h1 := H.2.2 j (ready_mono hj hji)
      have hjS := notS hSL hr hj
      obtain ⟨hjun, oj, hoj, hall⟩ := mem_ready.1 hj
      have hnot : ∀ e ∈ oj.after, Region.binds .any e = true → e.on ≠ i := fun e he hb heq => by
        have h1 := hall e he hb
        have h0 := (mem_ready.1 hr).1
        rw [heq] at h1
        rcases Nat.lt_or_ge i L.size with h' | h'
        · simp [h'] at h0 h1; rw [h0] at h1; cases h1
        · simp [Array.getElem?_eq_none h'] at h1
      have h2 := wpOp_absorb hoj (hfree j oj hoj hji hjun hnot) (fun cs b => hsel i oi cs b hi) (fun cs b => hsel j oj cs b hoj) hQ hy h1
      have hfree' : ∀ k ok, ops[k]? = some ok → k ≠ i → (L.setIfInBounds j true).getD k true = false →
          (∀ e ∈ ok.after, Region.binds .any e = true → e.on ≠ i) → oi.apart ops ok = true := fun k ok hk hki hun hno => by
        refine hfree k ok hk hki ?_ hno
        by_cases hjk : j = k
        · subst hjk; exact hjun
        · rw [getD_set_ne true hjk] at hun; exact hun
      have hSL' : ∀ k ∈ S, (L.setIfInBounds j true).getD k false = false := fun k hk => by
        rw [getD_set_ne false (fun (e : j = k) => hjS (e ▸ hk))]; exact hSL k hk
      refine wpOp_mono (fun a' w' h3 => ih (L.setIfInBounds j true) a' w' hfree' hSL' (ready_mono hr (Ne.symm hji)) h3.1 ?_) h2
      rw [Array.setIfInBounds_comm _ _ hji]
      exact h3.2
end

/-! ### The same in environments -/
def WD (P : Program) (n : Nat) (ops : Array Oper) (f : Nat) (p : Pend) (L : Array Bool) (K : Post) (E : Env) (w : World) : Prop :=
  p.now w → ∀ a, Fits n E a → wpAnyC P ops (lift n K) p f L a w

section
variable {P : Program} {n : Nat} {K : Post} {E : Env} {w : World} {ops : Array Oper} {f : Nat} {p : Pend} {L : Array Bool}
theorem lift_panic (n : Nat) (K : Post) (c : List PanicEntry) (a : Act) (w : World) : ¬ lift n K (.panic c) a w := fun h => h
theorem W.regionD {id : Nat} {ops : Array Oper} (hm : P.follows .mixedOrders = true) (h : WD P n ops ops.size [] (Array.replicate ops.size false) K E w.drew) : W P n (.region id ops true) K E w :=
  fun a ha => wp_region_any hm (wpAnyC_any _ _ _ _ _ (h trivial a ha))
theorem WD.done (hr : Region.ready .any ops L = []) (h : K .normal E w) : WD P n ops f p L K E w := by
  intro hp a ha
  have hl : lift n K .normal a w := ⟨E, ha, h⟩
  cases f with
  | zero => exact ⟨Pend.now_hold hp L, hr, hl⟩
  | succ f => exact ⟨Pend.now_hold hp L, fun _ => hl, by rw [hr]; simp⟩

/-- The checks at a quiet operation. -/
def quietB (ops : Array Oper) (L : Array Bool) (i : Nat) (D S : List Nat) (p : List (List Nat)) : Bool :=
  Region.noSelect ops && Region.free .any ops L i && (Region.ready .any ops L).contains i &&
  S.all (fun j => !L.getD j false && match ops[j]? with
    | some o => o.after.any fun e => Region.binds .any e && (e.on == i || S.contains e.on)
    | none => true) && D.all (S.contains ·) && !S.contains i && p.all (!·.contains i)
theorem WD.quiet {o : Oper} {E' : Env} (i : Nat) (D S : List Nat) (v : Value) (F : World → Prop) (hi : ops[i]? = some o) (hb : quietB ops L i D S (p.map (·.1)) = true)
    (hw : E.want ops o = some true) (hv : E.all o.op.operands.toList = true) (he : E.putd n o.dst v = some E') (hr : ∀ w, F w → (execOp E.rho o).run P w = .ok (.value v) w) (hF : F w)
    (k : WD P n ops f ((D, F) :: p) (L.setIfInBounds i true) K E' w) : WD P n ops (f + 1) p L K E w := by
  intro hp a ha
  simp only [quietB, Bool.and_eq_true] at hb
  obtain ⟨⟨⟨⟨⟨⟨h1, h2⟩, h3⟩, h4⟩, h5⟩, h6⟩, h7⟩ := hb
  have hsel := Region.noSelect_spec h1
  have hno : noSel o = true := by
    unfold noSel
    split
    · rename_i cs b heq; exact absurd heq (hsel i o _ _ hi)
    · rfl
  refine wpAnyC_first (D := D) (S := S) hi hsel (lift_panic n K) ?_ ?_ ?_ ?_ f L a w (Region.free_spec hi h2) ?_ (by simpa using h3) (.inl ⟨Env.want_eq ha hw, fun w hF => ?_⟩) (k ⟨hF, hp⟩ _ (ha.putd he))
  · intro j hj o ho
    have := List.all_eq_true.1 h4 j hj
    simp only [ho, Bool.and_eq_true] at this
    obtain ⟨e, he, hb⟩ := Array.any_eq_true'.1 this.2
    simp only [Bool.and_eq_true, Bool.or_eq_true, beq_iff_eq, List.contains_iff_mem] at hb
    exact ⟨e, he, hb.1, hb.2⟩
  · intro d hd
    simpa using List.all_eq_true.1 h5 d hd
  · intro hiS
    simp [hiS] at h6
  · intro x hx hix
    have := List.all_eq_true.1 h7 x.1 (List.mem_map.2 ⟨x, hx, rfl⟩)
    simp [hix] at this
  · intro j hj
    have := List.all_eq_true.1 h4 j hj
    simp only [Bool.and_eq_true, Bool.not_eq_true'] at this
    exact this.1
  · rw [exec_eq ha hno hv]; exact hr w hF
theorem WD.unwanted {o : Oper} {E' : Env} (i : Nat) (hi : ops[i]? = some o) (hb : quietB ops L i [] [] (p.map (·.1)) = true)
    (hw : E.want ops o = some false) (he : E.putd n o.dst undef = some E')
    (k : WD P n ops f p (L.setIfInBounds i true) K E' w) : WD P n ops (f + 1) p L K E w := by
  intro hp a ha
  simp only [quietB, Bool.and_eq_true] at hb
  obtain ⟨⟨⟨⟨⟨⟨h1, h2⟩, h3⟩, h4⟩, h5⟩, h6⟩, h7⟩ := hb
  have hsel := Region.noSelect_spec h1
  refine wpAnyC_first (D := []) (S := []) (F := fun _ => True) hi hsel (lift_panic n K) (by simp) (by simp) (by simp) ?_ f L a w (Region.free_spec hi h2) (by simp) (by simpa using h3) (.inr ⟨Env.want_eq ha hw, rfl⟩) ?_
  · intro x hx hix
    have := List.all_eq_true.1 h7 x.1 (List.mem_map.2 ⟨x, hx, rfl⟩)
    simp [hix] at this
  · have := k hp _ (ha.putd he)
    clear k
    revert this
    generalize L.setIfInBounds i true = L'
    generalize a.put o.dst undef = a'
    have key : ∀ (f : Nat) (L : Array Bool) (a : Act) (w : World), wpAnyC P ops (lift n K) p f L a w → wpAnyC P ops (lift n K) (([], fun _ => True) :: p) f L a w := by
      intro f
      induction f with
      | zero => exact fun L a w h => ⟨fun x hx hd => by rcases List.mem_cons.1 hx with rfl | hx; exact trivial; exact h.1 x hx hd, h.2⟩
      | succ f ih => exact fun L a w h => ⟨fun x hx hd => by rcases List.mem_cons.1 hx with rfl | hx; exact trivial; exact h.1 x hx hd, h.2.1, fun i hi => wpOp_mono (fun a w => ih _ a w) (h.2.2 i hi)⟩
    exact key f L' a' w

/-- Many quiet operations that ask of their operands and the program alone. -/
def runAny (P : Program) (n : Nat) (ops : Array Oper) (p : List (List Nat)) : List Nat → Array Bool → Env → Option (Array Bool × Env)
  | [], L, E => some (L, E)
  | i :: r, L, E => match ops[i]?, quietB ops L i [] [] p with
    | some o, true => match E.want ops o with
      | some true => match E.all o.op.operands.toList, pureVal P (execOp E.rho o) with
        | true, some v => match E.putd n o.dst v with
          | some E' => runAny P n ops p r (L.setIfInBounds i true) E'
          | none => none
        | _, _ => none
      | some false => match E.putd n o.dst undef with
        | some E' => runAny P n ops p r (L.setIfInBounds i true) E'
        | none => none
      | none => none
    | _, _ => none
theorem WD.more (hk : WD P n ops f (([], fun _ => True) :: p) L K E w) : WD P n ops f p L K E w := by
  intro hp a ha
  exact wpAnyC_more f L a w (fun x hx => .inl (List.mem_cons_of_mem _ hx)) (hk ⟨trivial, hp⟩ a ha)
theorem WD.lessT {f : Nat} {L : Array Bool} {E : Env} (hk : WD P n ops f p L K E w) : WD P n ops f (([], fun _ => True) :: p) L K E w := by
  intro hp a ha
  have key : ∀ (f : Nat) (L : Array Bool) (a : Act) (w : World), wpAnyC P ops (lift n K) p f L a w → wpAnyC P ops (lift n K) (([], fun _ => True) :: p) f L a w := by
    intro f
    induction f with
    | zero => exact fun L a w h => ⟨fun x hx hd => by rcases List.mem_cons.1 hx with rfl | hx; exact trivial; exact h.1 x hx hd, h.2⟩
    | succ f ih => exact fun L a w h => ⟨fun x hx hd => by rcases List.mem_cons.1 hx with rfl | hx; exact trivial; exact h.1 x hx hd, h.2.1, fun i hi => wpOp_mono (fun a w => ih _ a w) (h.2.2 i hi)⟩
  exact key f L a w (hk hp.2 a ha)
theorem runAny_sound : ∀ (l : List Nat) (L : Array Bool) (E : Env) (L' : Array Bool) (E' : Env), runAny P n ops (p.map (·.1)) l L E = some (L', E') →
    WD P n ops f p L' K E' w → WD P n ops (f + l.length) p L K E w
  | [], L, E, L', E', h, k => by simp [runAny] at h; obtain ⟨rfl, rfl⟩ := h; exact k
  | i :: r, L, E, L', E', h, k => by
    simp only [runAny] at h
    cases ho : ops[i]? with
    | none => simp [ho] at h
    | some o =>
      cases hb : quietB ops L i [] [] (p.map (·.1)) with
      | false => simp [ho, hb] at h
      | true =>
        simp only [ho, hb] at h
        cases hw : E.want ops o with
        | none => simp [hw] at h
        | some b =>
          cases b with
          | true =>
            simp only [hw] at h
            cases hv : E.all o.op.operands.toList with
            | false => simp [hv] at h
            | true =>
              cases hp : pureVal P (execOp E.rho o) with
              | none => simp [hv, hp] at h
              | some v =>
                simp only [hv, hp] at h
                cases he : E.putd n o.dst v with
                | none => simp [he] at h
                | some E1 =>
                  simp only [he] at h
                  have := runAny_sound r _ _ _ _ h k
                  rw [List.length_cons, ← Nat.add_assoc]
                  exact WD.quiet i [] [] v (fun _ => True) ho hb hw hv he (fun w _ => pureVal_run P _ v hp w) trivial this.lessT
          | false =>
            simp only [hw] at h
            cases he : E.putd n o.dst undef with
            | none => simp [he] at h
            | some E1 =>
              simp only [he] at h
              have := runAny_sound r _ _ _ _ h k
              rw [List.length_cons, ← Nat.add_assoc]
              exact WD.unwanted i ho hb hw he this
theorem WD.batch {f' : Nat} {E' : Env} (l : List Nat) (L' : Array Bool) (keep : List Nat) (hf : f = f' + l.length)
    (h : (runAny P n ops (p.map (·.1)) l L E).bind (fun q => (q.2.pick keep).map (fun E => (q.1, E))) = some (L', E')) (k : WD P n ops f' p L' K E' w) : WD P n ops f p L K E w := by
  obtain ⟨⟨L1, E1⟩, h1, h2⟩ := Option.bind_eq_some_iff.1 h
  obtain ⟨E2, h3, h4⟩ := Option.map_eq_some_iff.1 h2
  simp only [Prod.mk.injEq] at h4
  obtain ⟨rfl, rfl⟩ := h4
  subst hf
  exact runAny_sound l L E _ E1 h1 (fun hp a ha => k hp a (ha.sub (Env.pick_sub h3)))

/-- What an operation with an effect leaves to be kept in mind. -/
def Pend.drop (p : Pend) (i : Nat) : Pend := p.filter (fun x => !x.1.contains i)
theorem Pend.drop_more {p : Pend} {i : Nat} {L : Array Bool} (hi : i < L.size) : ∀ x ∈ p, x ∈ p.drop i ∨ ∃ d ∈ x.1, (L.setIfInBounds i true).getD d false = true := by
  intro x hx
  by_cases h : i ∈ x.1
  · exact .inr ⟨i, h, by simp [hi]⟩
  · exact .inl (List.mem_filter.2 ⟨hx, by simpa using h⟩)
def effB (ops : Array Oper) (L : Array Bool) (i : Nat) : Bool := (match Region.ready .any ops L with | [j] => Nat.beq j i | _ => false) && Nat.blt i L.size
theorem effB_spec {i : Nat} (h : effB ops L i = true) : Region.ready .any ops L = [i] ∧ i < L.size := by
  simp only [effB, Bool.and_eq_true] at h
  obtain ⟨h1, h2⟩ := h
  refine ⟨?_, by simpa using h2⟩
  split at h1
  · rename_i j hj; rw [hj, Nat.eq_of_beq_eq_true h1]
  · cases h1
theorem WD.eff {i : Nat} (hb : effB ops L i = true) (h : ∀ a, Fits n E a → wpOp P ops (lift n K) i (fun a' w' => wpAnyC P ops (lift n K) (p.drop i) f (L.setIfInBounds i true) a' w') a w) : WD P n ops (f + 1) p L K E w := by
  intro hp a ha
  obtain ⟨h1, h2⟩ := effB_spec hb
  refine ⟨Pend.now_hold hp L, fun h0 => (by rw [h1] at h0; cases h0), fun j hj => ?_⟩
  rw [h1] at hj
  obtain rfl : j = i := by simpa using hj
  exact wpOp_mono (fun a w hh => wpAnyC_more f _ a w (Pend.drop_more h2) hh) (h a ha)
theorem WD.value {o : Oper} {E' : Env} {w' : World} (i : Nat) (v : Value) (hb : effB ops L i = true) (hi : ops[i]? = some o) (hw : E.want ops o = some true) (hs : noSel o = true) (hv : E.all o.op.operands.toList = true)
    (hr : (execOp E.rho o).run P w = .ok (.value v) w') (he : E.putd n o.dst v = some E') (hp : (p.drop i).now w') (k : WD P n ops f (p.drop i) (L.setIfInBounds i true) K E' w') : WD P n ops (f + 1) p L K E w :=
  WD.eff hb fun a ha => by
    unfold wpOp
    simp only [hi, Env.want_eq ha hw, if_true]
    refine .inl ?_
    unfold Oper.wp
    rw [exec_eq ha hs hv, hr]
    exact k hp _ (ha.putd he)
theorem WD.store {o : Oper} {E' : Env} {w' : World} (i : Nat) (hb : effB ops L i = true) (hi : ops[i]? = some o) (hw : E.want ops o = some true) (hs : noSel o = true) (hv : E.all o.op.operands.toList = true)
    (hr : (execOp E.rho o).run P w = .ok .skip w') (he : E.putd n o.dst undef = some E') (hp : (p.drop i).now w') (k : WD P n ops f (p.drop i) (L.setIfInBounds i true) K E' w') : WD P n ops (f + 1) p L K E w :=
  WD.eff hb fun a ha => by
    unfold wpOp
    simp only [hi, Env.want_eq ha hw, if_true]
    refine .inl ?_
    unfold Oper.wp
    rw [exec_eq ha hs hv, hr]
    exact k hp _ (ha.putd he)
theorem WD.call {o : Oper} {g : FuncId} {args : Array Value} {R : Ending → World → Prop} (i : Nat) (hb : effB ops L i = true) (hi : ops[i]? = some o) (hw : E.want ops o = some true) (hs : noSel o = true) (hv : E.all o.op.operands.toList = true)
    (hr : (execOp E.rho o).run P w = .ok (.enter g args) w) (hc : Calls P g args w R)
    (k : ∀ e w', R e w' → ∃ v E', e = .returned v ∧ E.putd n o.dst v = some E' ∧ (p.drop i).now w' ∧ WD P n ops f (p.drop i) (L.setIfInBounds i true) K E' w') : WD P n ops (f + 1) p L K E w :=
  WD.eff hb fun a ha => by
    unfold wpOp
    simp only [hi, Env.want_eq ha hw, if_true]
    refine .inl ?_
    unfold Oper.wp
    rw [exec_eq ha hs hv, hr]
    refine Calls.mono hc fun e w' hR => ?_
    obtain ⟨v, E', rfl, he, hp, hk⟩ := k e w' hR
    exact hk hp _ (ha.putd he)
theorem WD.skip {o : Oper} {E' : Env} (i : Nat) (hb : effB ops L i = true) (hi : ops[i]? = some o) (hw : E.want ops o = some false) (he : E.putd n o.dst undef = some E')
    (hp : (p.drop i).now w) (k : WD P n ops f (p.drop i) (L.setIfInBounds i true) K E' w) : WD P n ops (f + 1) p L K E w :=
  WD.eff hb fun a ha => by
    unfold wpOp
    simp only [hi, Env.want_eq ha hw]
    exact k hp _ (ha.putd he)
end
end Go.Proofs.Ythbcjjhlebhghaa.Walk
