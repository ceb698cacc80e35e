/- The laws of a judgement on the machine's code over named slots: own work, for the walks. -/
import Derived.WalkKit
import Derived.KernelRfl
namespace Go.Proofs.Ythbcjjhlebhghaa.Walk
open Go

/-! ### Environments: the live slots of a frame -/
abbrev Env := List (Nat × Value)
def Env.get : Env → Nat → Option Value
  | [], _ => none
  | p :: r, t => match Nat.beq p.1 t with
    | true => some p.2
    | false => Env.get r t
def Env.val (E : Env) : Operand → Option Value
  | .tmp t => E.get t
  | .const v => some v
  | .global g => some (.pointer (some ⟨g, 0, none⟩))
  | .func f => some (.func (.func f) #[] #[])
def Env.rho (E : Env) (x : Operand) : Value :=
  match E.val x with
  | some v => v
  | none => undef
def Env.all (E : Env) : List Operand → Bool
  | [] => true
  | x :: r => match E.val x with
    | some _ => E.all r
    | none => false

structure Fits (n : Nat) (E : Env) (a : Act) : Prop where
  defers : a.defers = []
  size : a.tmps.size = n
  slot : ∀ t v, E.get t = some v → a.tmps[t]? = some v

theorem Fits.eval {n : Nat} {E : Env} {a : Act} (h : Fits n E a) {x : Operand} {v : Value} (hx : E.val x = some v) : a.eval x = v := by
  cases x with
  | tmp t =>
    have := h.slot t v hx
    simp [Act.eval, Array.getD_eq_getD_getElem?, this]
  | const u => simpa [Env.val, Act.eval] using hx
  | global g => simpa [Env.val, Act.eval] using hx
  | func f => simpa [Env.val, Act.eval] using hx

theorem Fits.put {n : Nat} {E : Env} {a : Act} (h : Fits n E a) {d : Nat} (hd : d < n) (v : Value) : Fits n ((d, v) :: E) (a.put (some d) v) := by
  refine ⟨h.defers, by simp [Act.put, h.size], fun t u ht => ?_⟩
  simp only [Env.get] at ht
  cases hb : Nat.beq d t with
  | true =>
    have : d = t := Nat.eq_of_beq_eq_true hb
    subst this
    simp [hb] at ht
    subst ht
    simp [Act.put, h.size, hd]
  | false =>
    have : d ≠ t := Nat.ne_of_beq_eq_false hb
    simp only [hb] at ht
    simp only [Act.put, Array.getElem?_setIfInBounds_ne this]
    exact h.slot t u ht

def Env.putd (E : Env) (n : Nat) : Option Tmp → Value → Option Env
  | none, _ => some E
  | some d, v => match Nat.blt d n with
    | true => some ((d, v) :: E)
    | false => none
theorem Fits.putd {n : Nat} {E E' : Env} {a : Act} (h : Fits n E a) {d : Option Tmp} {v : Value} (he : E.putd n d v = some E') : Fits n E' (a.put d v) := by
  cases d with
  | none => simp [Env.putd] at he; subst he; exact h
  | some d =>
    simp only [Env.putd] at he
    cases hb : Nat.blt d n with
    | true =>
      have hd : d < n := by simpa using hb
      simp [hb] at he; subst he; exact h.put hd v
    | false => simp [hb] at he

/-- Every slot of E' is in E. -/
def Env.sub (E : Env) : Env → Prop
  | [] => True
  | p :: r => E.get p.1 = some p.2 ∧ E.sub r
theorem Env.sub_get {E : Env} : ∀ {E' : Env}, E.sub E' → ∀ t v, E'.get t = some v → E.get t = some v
  | [], _, t, v, h => by simp [Env.get] at h
  | p :: r, hs, t, v, h => by
    simp only [Env.get] at h
    cases hb : Nat.beq p.1 t with
    | true =>
      have : p.1 = t := Nat.eq_of_beq_eq_true hb
      simp [hb] at h
      rw [← this, ← h]; exact hs.1
    | false => simp only [hb] at h; exact Env.sub_get hs.2 t v h
theorem Fits.sub {n : Nat} {E E' : Env} {a : Act} (h : Fits n E a) (hs : E.sub E') : Fits n E' a :=
  ⟨h.defers, h.size, fun t v ht => h.slot t v (Env.sub_get hs t v ht)⟩

/-- Pick the slots named. -/
def Env.pick (E : Env) : List Nat → Option Env
  | [] => some []
  | t :: r => match E.get t with
    | some v => match E.pick r with
      | some E' => some ((t, v) :: E')
      | none => none
    | none => none
theorem Env.pick_sub {E : Env} : ∀ {l : List Nat} {E' : Env}, E.pick l = some E' → E.sub E'
  | [], E', h => by simp [Env.pick] at h; subst h; trivial
  | t :: r, E', h => by
    simp only [Env.pick] at h
    cases hg : E.get t with
    | none => simp [hg] at h
    | some v =>
      simp only [hg] at h
      cases hp : E.pick r with
      | none => simp [hp] at h
      | some E1 =>
        simp [hp] at h; subst h
        exact ⟨hg, Env.pick_sub hp⟩

/-! ### The judgement -/
abbrev Post := Exit → Env → World → Prop
def lift (n : Nat) (K : Post) : Exit → Act → World → Prop := fun e a w =>
  match e with
  | .panic _ => False
  | .outgrown => False
  | e => ∃ E, Fits n E a ∧ K e E w
theorem lift_mk {n : Nat} {K : Post} {E : Env} {a : Act} {w : World} {e : Exit} (hp : ∀ c, e ≠ .panic c) (ho : e ≠ .outgrown) (hf : Fits n E a) (h : K e E w) : lift n K e a w := by
  cases e with
  | panic c => exact absurd rfl (hp c)
  | outgrown => exact absurd rfl ho
  | _ => exact ⟨E, hf, h⟩
theorem lift_elim {n : Nat} {K : Post} {a : Act} {w : World} {e : Exit} (h : lift n K e a w) : (∀ c, e ≠ .panic c) ∧ e ≠ .outgrown ∧ ∃ E, Fits n E a ∧ K e E w := by
  cases e with
  | panic c => exact h.elim
  | outgrown => exact h.elim
  | _ => exact ⟨by simp, by simp, h⟩
def W (P : Program) (n : Nat) (c : Code) (K : Post) (E : Env) (w : World) : Prop := ∀ a, Fits n E a → c.wp P (lift n K) a w
def WL (P : Program) (n : Nat) (ops : Array Oper) (l : List Oper) (K : Post) (E : Env) (w : World) : Prop := ∀ a, Fits n E a → wpList P ops (lift n K) l a w

section
variable {P : Program} {n : Nat} {K : Post} {E : Env} {w : World}

def seqK (P : Program) (n : Nat) (y : Code) (K : Post) : Post := fun e E w =>
  match e with
  | .normal => W P n y K E w
  | e => K e E w
theorem W.seq {x y : Code} (h : W P n x (seqK P n y K) E w) : W P n (.seq x y) K E w := by
  intro a ha
  refine wp_seq (wp_mono (h a ha) ?_)
  intro e a w hl
  obtain ⟨h1, h2, E, hf, hk⟩ := lift_elim hl
  cases e with
  | normal => exact hk a hf
  | panic c => exact absurd rfl (h1 c)
  | outgrown => exact absurd rfl h2
  | _ => exact ⟨E, hf, hk⟩
theorem W.mono {c : Code} {K' : Post} (h : W P n c K E w) (hk : ∀ e E w, K e E w → K' e E w) : W P n c K' E w :=
  fun a ha => wp_mono (h a ha) fun _ _ _ hl => let ⟨h1, h2, E, hf, hq⟩ := lift_elim hl; lift_mk h1 h2 hf (hk _ _ _ hq)
theorem W.sub {c : Code} {E' : Env} (h : W P n c K E' w) (hs : E.sub E') : W P n c K E w := fun a ha => h a (ha.sub hs)
theorem W.pick {c : Code} {E' : Env} (l : List Nat) (hs : E.pick l = some E') (h : W P n c K E' w) : W P n c K E w := h.sub (Env.pick_sub hs)
theorem W.skip (h : K .normal E w) : W P n .skip K E w := fun a ha => wp_skip ⟨E, ha, h⟩
theorem W.ret (h : K .ret E w) : W P n .ret K E w := fun a ha => wp_ret ⟨E, ha, h⟩
theorem W.exit {id : Nat} (h : K (.exit id) E w) : W P n (.exit id) K E w := fun a ha => wp_exit ⟨E, ha, h⟩
theorem W.cond {c : Operand} {x y : Code} (b : Bool) (hc : E.val c = some (.bool b)) (ht : b = true → W P n x K E w) (hf : b = false → W P n y K E w) :
    W P n (.cond c x y) K E w := fun a ha => wp_cond_split (ha.eval hc) (fun h => ht h a ha) (fun h => hf h a ha)
theorem W.condT {c : Operand} {x y : Code} (b : Bool) (hc : E.val c = some (.bool b)) (hb : b = true) (ht : W P n x K E w) :
    W P n (.cond c x y) K E w := fun a ha => wp_cond_true (by rw [ha.eval hc, hb]) (ht a ha)
theorem W.condF {c : Operand} {x y : Code} (b : Bool) (hc : E.val c = some (.bool b)) (hb : b = false) (ht : W P n y K E w) :
    W P n (.cond c x y) K E w := fun a ha => wp_cond_false (by rw [ha.eval hc, hb]) (ht a ha)
def blockK (id : Nat) (K : Post) : Post := fun e E w =>
  match e with
  | .exit j => match Nat.beq j id with
    | true => K .normal E w
    | false => K (.exit j) E w
  | e => K e E w
theorem W.block {id : Nat} {c : Code} (h : W P n c (blockK id K) E w) : W P n (.block id c) K E w := by
  intro a ha
  refine wp_block (wp_mono (h a ha) ?_)
  intro e a w hl
  obtain ⟨h1, h2, E, hf, hk⟩ := lift_elim hl
  cases e with
  | panic c => exact absurd rfl (h1 c)
  | outgrown => exact absurd rfl h2
  | exit j =>
    simp only [blockK] at hk
    simp only [Exit.inBlock]
    cases hb : Nat.beq j id with
    | true => rw [if_pos (Nat.eq_of_beq_eq_true hb)]; exact ⟨E, hf, by simpa [hb] using hk⟩
    | false => rw [if_neg (Nat.ne_of_beq_eq_false hb)]; exact ⟨E, hf, by simpa [hb] using hk⟩
  | _ => exact ⟨E, hf, hk⟩
/-- A loop: the invariant bears what is left of the purse. -/
def loopK (I : Nat → Env → World → Prop) (k : Nat) (K : Post) : Post := fun e E w =>
  match e with
  | .normal => I k E w
  | e => K e E w
theorem W.loop {c : Code} (I : Nat → Env → World → Prop) (h0 : ∀ E w, ¬ I 0 E w) (k : Nat) (hI : I k E w)
    (hr : ∀ k E w, I (k + 1) E w → W P n c (loopK I k K) E w) : W P n (.loop c) K E w := by
  have key : ∀ k E w, I k E w → ∀ a, Fits n E a → Code.rounds P c (lift n K) k a w := by
    intro k
    induction k with
    | zero => intro E w h; exact absurd h (h0 E w)
    | succ k ih =>
      intro E w h a ha
      rw [rounds_succ]
      refine wp_mono (hr k E w h a ha) ?_
      intro e a w hl
      obtain ⟨h1, h2, E, hf, hk⟩ := lift_elim hl
      cases e with
      | normal => exact ih E w hk a hf
      | panic c => exact absurd rfl (h1 c)
      | outgrown => exact absurd rfl h2
      | _ => exact ⟨E, hf, hk⟩
  intro a ha
  exact wp_loop_rounds k (key k E w hI a ha)
theorem W.region {id : Nat} {l : List Oper} (h : WL P n l.toArray l K E w) : W P n (.region id l.toArray false) K E w :=
  fun a ha => wp_region_lit (h a ha)
theorem WL.nil {ops : Array Oper} (h : K .normal E w) : WL P n ops [] K E w := fun a ha => wpList_nil ⟨E, ha, h⟩

/-! ### Operations -/
/-- What a computation comes to that asks of the program alone. -/
def pureVal (P : Program) : Sem Next → Option Value
  | .pure (.value v) => some v
  | .program k => pureVal P (k P)
  | _ => none
theorem pureVal_run (P : Program) : ∀ (s : Sem Next) (v : Value), pureVal P s = some v → ∀ w, s.run P w = .ok (.value v) w
  | .pure (.value u), v, h, w => by simp [pureVal] at h; subst h; rfl
  | .program k, v, h, w => by simp only [pureVal] at h; exact pureVal_run P (k P) v h w
  | .pure .skip, _, h, _ | .pure (.enter ..), _, h, _ | .pure (.round ..), _, h, _ | .pure (.defer ..), _, h, _ | .pure .recover, _, h, _ | .pure (.spawn ..), _, h, _
  | .pure (.comm ..), _, h, _ | .pure .numGoroutine, _, h, _ | .pure .collect, _, h, _ | .pure (.watch ..), _, h, _ | .pure (.newcoro ..), _, h, _ | .pure (.coroswitch ..), _, h, _
  | .pure (.sleep ..), _, h, _ | .pure (.timer ..), _, h, _ | .pure (.alone ..), _, h, _ | .pure (.callThen ..), _, h, _ | .pure (.row ..), _, h, _ | .pure (.stack ..), _, h, _ => by simp [pureVal] at h
  | .load .., _, h, _ | .store .., _, h, _ | .new .., _, h, _ | .shape .., _, h, _ | .freeze .., _, h, _ | .frozen .., _, h, _ | .getObj .., _, h, _ | .setObj .., _, h, _
  | .choose .., _, h, _ | .sys .., _, h, _ | .mark .., _, h, _ | .halt .., _, h, _ => by simp [pureVal] at h

/-- Is the operation's guard met? none: it can't be seen. -/
def Env.want (E : Env) (ops : Array Oper) (o : Oper) : Option Bool :=
  match o.guard with
  | none => some true
  | some (j, b) => match (ops[j]?).bind (·.dst) with
    | none => none
    | some t => match E.get t with
      | some (.bool c) => some (c == b)
      | some (.tuple _) => some false
      | _ => none
theorem Env.want_eq {ops : Array Oper} {o : Oper} {a : Act} (ha : Fits n E a) {b : Bool} (h : E.want ops o = some b) : Region.wanted o (yielded ops a.tmps) = b := by
  unfold Env.want at h
  unfold Region.wanted
  cases hg : o.guard with
  | none => simp [hg] at h; simp [h]
  | some p =>
    obtain ⟨j, c⟩ := p
    simp only [hg] at h ⊢
    unfold yielded
    cases ht : (ops[j]?).bind (·.dst) with
    | none => simp [ht] at h
    | some t =>
      simp only [ht] at h
      cases hv : E.get t with
      | none => simp [hv] at h
      | some v =>
        have hs := ha.slot t v hv
        simp only [hv] at h
        simp only [Option.bind_some, hs]
        cases v <;> simp at h <;> subst h <;> first | rfl | (simp; done)

def noSel (o : Oper) : Bool := match o.op with | .select .. => false | _ => true
theorem exec_eq {o : Oper} {a : Act} (ha : Fits n E a) (hs : noSel o = true) (hv : E.all o.op.operands.toList = true) : execOp a.eval o = execOp E.rho o := by
  refine execOp_congr o (fun cs b h => by simp [noSel, h] at hs) (fun x hx => ?_)
  have key : ∀ l : List Operand, E.all l = true → ∀ x ∈ l, ∃ v, E.val x = some v := by
    intro l
    induction l with
    | nil => intro _ x hx; cases hx
    | cons y r ih =>
      intro h x hx
      simp only [Env.all] at h
      cases hy : E.val y with
      | none => simp [hy] at h
      | some v =>
        simp only [hy] at h
        rcases List.mem_cons.1 hx with rfl | hx
        · exact ⟨v, hy⟩
        · exact ih h x hx
  obtain ⟨v, hx'⟩ := key _ hv x (by simpa using hx)
  rw [ha.eval hx']
  simp [Env.rho, hx']

/-- Operations that ask of their operands and the program alone, one behind the other. -/
def runEnv (P : Program) (n : Nat) (ops : Array Oper) : List Oper → Env → Option Env
  | [], E => some E
  | o :: r, E => match E.want ops o with
    | some true => match noSel o, E.all o.op.operands.toList with
      | true, true => match pureVal P (execOp E.rho o) with
        | some v => match E.putd n o.dst v with
          | some E' => runEnv P n ops r E'
          | none => none
        | none => none
      | _, _ => none
    | some false => match E.putd n o.dst undef with
      | some E' => runEnv P n ops r E'
      | none => none
    | none => none
theorem runEnv_sound {ops : Array Oper} {rest : List Oper} : ∀ (l : List Oper) (E E' : Env), runEnv P n ops l E = some E' → WL P n ops rest K E' w → WL P n ops (l ++ rest) K E w
  | [], E, E', h, k => by simp [runEnv] at h; subst h; exact k
  | o :: r, E, E', h, k => by
    intro a ha
    simp only [runEnv] at h
    simp only [List.cons_append]
    unfold wpList
    cases hw : E.want ops o with
    | none => simp [hw] at h
    | some b =>
      rw [Env.want_eq ha hw]
      simp only [hw] at h
      cases b with
      | true =>
        simp only [if_true]
        refine .inl ?_
        simp only at h
        cases hs : noSel o <;> cases hv : E.all o.op.operands.toList <;> simp [hs, hv] at h
        cases hp : pureVal P (execOp E.rho o) with
        | none => simp [hp] at h
        | some v =>
          simp only [hp] at h
          cases he : E.putd n o.dst v with
          | none => simp [he] at h
          | some E1 =>
            simp only [he] at h
            unfold Oper.wp
            rw [exec_eq ha hs hv, pureVal_run P _ v hp w]
            exact runEnv_sound r E1 E' h k _ (ha.putd he)
      | false =>
        simp only [Bool.false_eq_true, if_false]
        cases he : E.putd n o.dst undef with
        | none => simp [he] at h
        | some E1 =>
          simp only [he] at h
          exact runEnv_sound r E1 E' h k _ (ha.putd he)
/-- A batch: m operations, then the slots l are kept. -/
theorem WL.batch {ops : Array Oper} {l : List Oper} {E' : Env} (m : Nat) (keep : List Nat) (h : (runEnv P n ops (l.take m) E).bind (fun E => E.pick keep) = some E') (k : WL P n ops (l.drop m) K E' w) :
    WL P n ops l K E w := by
  obtain ⟨E1, h1, h2⟩ := Option.bind_eq_some_iff.1 h
  have := runEnv_sound (K := K) (w := w) (rest := l.drop m) (l.take m) E E1 h1 (fun a ha => k a (ha.sub (Env.pick_sub h2)))
  rwa [List.take_append_drop] at this
/-- One operation whose run is known. -/
theorem WL.value {ops : Array Oper} {o : Oper} {rest : List Oper} {E' : Env} {w' : World} (v : Value) (hw : E.want ops o = some true) (hs : noSel o = true) (hv : E.all o.op.operands.toList = true)
    (hr : (execOp E.rho o).run P w = .ok (.value v) w') (he : E.putd n o.dst v = some E') (k : WL P n ops rest K E' w') : WL P n ops (o :: rest) K E w := by
  intro a ha
  unfold wpList
  rw [Env.want_eq ha hw]
  simp only [if_true]
  refine .inl ?_
  unfold Oper.wp
  rw [exec_eq ha hs hv, hr]
  exact k _ (ha.putd he)
theorem WL.store {ops : Array Oper} {o : Oper} {rest : List Oper} {E' : Env} {w' : World} (hw : E.want ops o = some true) (hs : noSel o = true) (hv : E.all o.op.operands.toList = true)
    (hr : (execOp E.rho o).run P w = .ok .skip w') (he : E.putd n o.dst undef = some E') (k : WL P n ops rest K E' w') : WL P n ops (o :: rest) K E w := by
  intro a ha
  unfold wpList
  rw [Env.want_eq ha hw]
  simp only [if_true]
  refine .inl ?_
  unfold Oper.wp
  rw [exec_eq ha hs hv, hr]
  exact k _ (ha.putd he)
theorem WL.call {ops : Array Oper} {o : Oper} {rest : List Oper} {f : FuncId} {args : Array Value} {R : Ending → World → Prop} (hw : E.want ops o = some true) (hs : noSel o = true) (hv : E.all o.op.operands.toList = true)
    (hr : (execOp E.rho o).run P w = .ok (.enter f args) w) (hc : Calls P f args w R)
    (k : ∀ e w', R e w' → ∃ v E', e = .returned v ∧ E.putd n o.dst v = some E' ∧ WL P n ops rest K E' w') : WL P n ops (o :: rest) K E w := by
  intro a ha
  unfold wpList
  rw [Env.want_eq ha hw]
  simp only [if_true]
  refine .inl ?_
  unfold Oper.wp
  rw [exec_eq ha hs hv, hr]
  refine Calls.mono hc fun e w' hR => ?_
  obtain ⟨v, E', rfl, he, hk⟩ := k e w' hR
  exact hk _ (ha.putd he)

/-! ### Entering a function, and its results -/
def entryEnv : Nat → List Value → Env
  | _, [] => []
  | i, v :: r => (i, v) :: entryEnv (i + 1) r
theorem entry_get : ∀ (l : List Value) (i t : Nat) (v : Value), (entryEnv i l).get t = some v → i ≤ t ∧ l[t - i]? = some v
  | [], i, t, v, h => by simp [entryEnv, Env.get] at h
  | u :: r, i, t, v, h => by
    simp only [entryEnv, Env.get] at h
    cases hb : Nat.beq i t with
    | true =>
      have : i = t := Nat.eq_of_beq_eq_true hb
      subst this
      simp [hb] at h; subst h
      simp
    | false =>
      have hne : i ≠ t := Nat.ne_of_beq_eq_false hb
      simp only [hb] at h
      obtain ⟨h1, h2⟩ := entry_get r (i + 1) t v h
      refine ⟨by omega, ?_⟩
      have : t - i = (t - (i + 1)) + 1 := by omega
      rw [this]
      simpa using h2
/-- What is read out of the results' slots. -/
def resVals (P : Program) (E : Env) (w : World) : List ResultVar → List Value → Prop
  | [], vs => vs = []
  | .tmp t :: r, vs => ∃ v vs', vs = v :: vs' ∧ E.get t = some v ∧ resVals P E w r vs'
  | .cell a t :: r, vs => ∃ ad v vs', vs = v :: vs' ∧ E.get a = some (.pointer (some ad)) ∧ (loadVar t ad).run P w = .ok v w ∧ resVals P E w r vs'
def retVal : List Value → Value
  | [v] => v
  | vs => .tuple vs.toArray
def resOne (tmps : Array Value) (x : ResultVar) : Sem Value := match x with
  | ResultVar.tmp t => pure (tmps.getD t undef)
  | ResultVar.cell b t => do
    let ad ← asAddr (tmps.getD b undef)
    loadVar t ad
theorem results_run {fn : Func} {a : Act} (ha : Fits n E a) (vs : List Value) (h : resVals P E w fn.results.toList vs) : (results fn a.tmps).run P w = .ok (retVal vs) w := by
  have step : ∀ (x : ResultVar) (r : List ResultVar) (v : Value) (vs : List Value), (resOne a.tmps x).run P w = .ok v w → (r.mapM (resOne a.tmps)).run P w = .ok vs w →
      ((x :: r).mapM (resOne a.tmps)).run P w = .ok (v :: vs) w := by
    intro x r v vs h1 h2
    rw [List.mapM_cons, Sem.run_bind, h1, Result.andThen_ok, Sem.run_bind, h2, Result.andThen_ok]
    rfl
  have key : ∀ (l : List ResultVar) (vs : List Value), resVals P E w l vs → (l.mapM (resOne a.tmps)).run P w = .ok vs w := by
    intro l
    induction l with
    | nil => intro vs h; simp only [resVals] at h; subst h; rfl
    | cons x r ih =>
      intro vs h
      cases x with
      | tmp t =>
        simp only [resVals] at h
        obtain ⟨v, vs', rfl, hg, hr⟩ := h
        have := ha.slot t v hg
        refine step _ _ _ _ ?_ (ih _ hr)
        have e : a.tmps.getD t undef = v := by simp [Array.getD_eq_getD_getElem?, this]
        simp only [resOne, e]
        rfl
      | cell b t =>
        simp only [resVals] at h
        obtain ⟨ad, v, vs', rfl, hg, hl, hr⟩ := h
        have := ha.slot b _ hg
        refine step _ _ _ _ ?_ (ih _ hr)
        have e : a.tmps.getD b undef = .pointer (some ad) := by simp [Array.getD_eq_getD_getElem?, this]
        simp only [resOne, e]
        rw [Sem.run_bind]
        show Result.andThen (.ok ad w) _ = _
        rw [Result.andThen_ok, hl]
  have hm : (Array.mapM (resOne a.tmps) fn.results).run P w = .ok vs.toArray w := by
    rw [Array.mapM_eq_mapM_toList]
    show (List.toArray <$> List.mapM (resOne a.tmps) fn.results.toList).run P w = _
    rw [map_eq_pure_bind, Sem.run_bind, key _ _ h]
    rfl
  show ((Array.mapM (resOne a.tmps) fn.results) >>= fun vs => pure (if h : vs.size = 1 then vs[0] else Value.tuple vs)).run P w = _
  rw [Sem.run_bind, hm]
  cases vs with
  | nil => rfl
  | cons v r =>
    cases r with
    | nil => rfl
    | cons v2 r => simp [Result.andThen, retVal]
/-- The end of a function: the results, and what is to be shown. -/
def endK (P : Program) (fn : Func) (R : Ending → World → Prop) : Post := fun e E w =>
  match e with
  | .normal => ∃ vs, resVals P E w fn.results.toList vs ∧ R (.returned (retVal vs)) w
  | .ret => ∃ vs, resVals P E w fn.results.toList vs ∧ R (.returned (retVal vs)) w
  | _ => False
theorem W.enter {f : FuncId} {fn : Func} {c : Code} {args : List Value} {R : Ending → World → Prop} (hf : P.funcs[f]? = some fn) (hb : fn.body = some c) (hn : fn.ntmps = n) (hl : Nat.ble args.length n = true)
    (h : W P n c (endK P fn R) (entryEnv 0 args) w) : Calls P f args.toArray w R := by
  refine calls_of_wp hf hb (wp_mono (h _ ?_) ?_)
  · have hl' : args.length ≤ n := Nat.le_of_ble_eq_true hl
    refine ⟨rfl, by simp [hn]; omega, fun t v ht => ?_⟩
    obtain ⟨_, h2⟩ := entry_get args 0 t v ht
    have hlt : t < args.length := by
      rcases Nat.lt_or_ge t args.length with h | h
      · exact h
      · simp [List.getElem?_eq_none h] at h2
    simp only [Nat.sub_zero] at h2
    simp only [Array.getElem?_append, List.size_toArray, hlt, if_true]
    simpa using h2
  · intro e a w hl
    obtain ⟨h1, h2, E, hf, hk⟩ := lift_elim hl
    cases e with
    | normal => obtain ⟨vs, h1, h2⟩ := hk; exact ⟨hf.defers, _, results_run hf vs h1, h2⟩
    | ret => obtain ⟨vs, h1, h2⟩ := hk; exact ⟨hf.defers, _, results_run hf vs h1, h2⟩
    | exit id => exact hk.elim
    | goto l => exact hk.elim
    | panic c => exact hk.elim
    | outgrown => exact hk.elim
end
end Go.Proofs.Ythbcjjhlebhghaa.Walk
