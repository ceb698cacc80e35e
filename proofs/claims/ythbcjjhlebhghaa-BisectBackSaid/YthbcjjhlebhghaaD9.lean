/- Plain laws over the models of the functions. -/
import Derived.Test.YthbcjjhlebhghaaD8
namespace Go.Proofs.Ythbcjjhlebhghaa.Walk
open Go
def tstr (most : Nat) (p : List Int) : Option (List Int × List Int) :=
  (dec 0 p).bind fun x => if x.1 ≤ most ∧ x.1 ≤ x.2.length then some (x.2.take x.1, x.2.drop x.1) else none
def TookS (most : Nat) (p : List Int) (r : List Int × List Int × Int) : Prop :=
  (∃ s q, tstr most p = some (s, q) ∧ r = (s, q, 0)) ∨ (tstr most p = none ∧ ∃ s q e, e ≠ 0 ∧ r = (s, q, e) ∧ Byt q ∧ q.length ≤ p.length)
theorem put_pos (n : Nat) : 1 ≤ (put n).length := by
  by_cases h : n < 128
  · rw [put_small h]; exact Nat.le_refl 1
  · rw [put_big h, List.length_cons]; omega
theorem dec_facts {p q : List Int} {v : Nat} (hB : Byt p) (h : dec 0 p = some (v, q)) : Byt q ∧ q.length < p.length ∧ v < 18446744073709551616 := by
  obtain ⟨h1, h2, h3, h4⟩ := put_dec p 0 v q hB h
  refine ⟨h3, ?_, by simpa using h4⟩
  have := congrArg List.length h1
  rw [List.length_append] at this
  have := put_pos v
  omega
theorem tstr_facts {most : Nat} {p s q : List Int} (hB : Byt p) (h : tstr most p = some (s, q)) : Byt s ∧ Byt q ∧ s.length ≤ most ∧ q.length < p.length ∧ p = put s.length ++ (s ++ q) := by
  unfold tstr at h
  cases hd : dec 0 p with
  | none => rw [hd] at h; cases h
  | some x =>
    obtain ⟨v, r⟩ := x
    rw [hd, obind] at h
    split at h
    · rename_i hc
      simp only [Option.some.injEq, Prod.mk.injEq] at h
      obtain ⟨rfl, rfl⟩ := h
      obtain ⟨h1, h2, h3⟩ := dec_facts hB hd
      simp only at hc
      refine ⟨h1.take _, h1.drop _, by rw [List.length_take]; omega, by rw [List.length_drop]; omega, ?_⟩
      rw [List.take_append_drop, List.length_take, Nat.min_eq_left hc.2]
      exact (put_dec p 0 v r hB hd).1
    · cases h
theorem byt_nil : Byt [] := fun x hx => by cases hx
theorem num_tstr (k : Nat) (hk : 20 ≤ k) (most : Nat) (hm : most ≤ 1000) (p : List Int) (hB : Byt p) (hp : p.length ≤ 1000000) : ∃ r, num_TakeString.f k p (most : Int) = some r ∧ TookS most p r := by
  unfold num_TakeString.f
  obtain ⟨r, h1, h2⟩ := num_take k hk p hB (by omega)
  rw [h1, obind]
  rcases h2 with ⟨v, q, h3, rfl⟩ | ⟨h3, e, he, rfl⟩
  · obtain ⟨hq, hl, hv⟩ := dec_facts hB h3
    show ∃ r, (cond ((0 : Int) != 0) _ _) = some r ∧ _
    rw [show ((0 : Int) != 0) = false from rfl, cond_false, decide_eq_false (by omega), cond_false, u64_nat (by omega)]
    by_cases h4 : v ≤ most
    · rw [decide_eq_false (by omega), cond_false, obind, wrap_i64 (by omega) (by omega)]
      unfold num_TakeBytes.f
      rw [decide_eq_false (by omega), cond_false]
      by_cases h5 : v ≤ q.length
      · rw [decide_eq_false (by omega), cond_false, if_pos (by omega), obind, if_pos (by omega), obind, lsub_head, lsub_tail q v h5, clone_eq (by rw [List.length_take]; omega), obind, clone_eq (by rw [List.length_drop]; omega), obind, obind]
        exact ⟨_, rfl, .inl ⟨_, _, by unfold tstr; rw [h3, obind, if_pos ⟨h4, h5⟩], rfl⟩⟩
      · rw [decide_eq_true (by omega), cond_true, obind]
        exact ⟨_, rfl, .inr ⟨by unfold tstr; rw [h3, obind, if_neg (fun h => h5 h.2)], _, _, _, by omega, rfl, byt_nil, by simp⟩⟩
    · rw [decide_eq_true (by omega), cond_true]
      exact ⟨_, rfl, .inr ⟨by unfold tstr; rw [h3, obind, if_neg (fun h => h4 h.1)], _, _, _, by omega, rfl, byt_nil, by simp⟩⟩
  · show ∃ r, (cond (e != 0) _ _) = some r ∧ _
    rw [bne_iff_ne.2 he, cond_true]
    exact ⟨_, rfl, .inr ⟨by unfold tstr; rw [h3]; rfl, _, _, _, he, rfl, byt_nil, by simp⟩⟩
theorem ref_tstr (k : Nat) (hk : 20 ≤ k) (most : Nat) (hm : most ≤ 1000) (p : List Int) (hB : Byt p) (hp : p.length ≤ 1000000) : ∃ r, cauteryref01_TakeString.f k p (most : Int) = some r ∧ TookS most p r := by
  unfold cauteryref01_TakeString.f
  obtain ⟨r, h1, h2⟩ := ref_take k hk p hB (by omega)
  rw [h1, obind]
  rcases h2 with ⟨v, q, h3, rfl⟩ | ⟨h3, e, he, rfl⟩
  · obtain ⟨hq, hl, hv⟩ := dec_facts hB h3
    show ∃ r, (cond ((0 : Int) != 0) _ _) = some r ∧ _
    rw [show ((0 : Int) != 0) = false from rfl, cond_false, decide_eq_false (by omega), cond_false, u64_nat (by omega)]
    by_cases h4 : v ≤ most
    · rw [decide_eq_false (show ¬ (v : Int) > (most : Int) by omega), cond_false, obind, u64_nat (by omega)]
      by_cases h5 : v ≤ q.length
      · show ∃ r, (cond (decide ((v : Int) > (q.length : Int))) _ _) = some r ∧ _
        rw [decide_eq_false (by omega), cond_false, if_pos (by omega), obind, if_pos (by omega), obind, lsub_head, lsub_tail q v h5]
        exact ⟨_, rfl, .inl ⟨_, _, by unfold tstr; rw [h3, obind, if_pos ⟨h4, h5⟩], rfl⟩⟩
      · show ∃ r, (cond (decide ((v : Int) > (q.length : Int))) _ _) = some r ∧ _
        rw [decide_eq_true (by omega), cond_true]
        exact ⟨_, rfl, .inr ⟨by unfold tstr; rw [h3, obind, if_neg (fun h => h5 h.2)], _, _, _, by omega, rfl, byt_nil, by simp⟩⟩
    · rw [decide_eq_true (show (v : Int) > (most : Int) by omega), cond_true, obind]
      exact ⟨_, rfl, .inr ⟨by unfold tstr; rw [h3, obind, if_neg (fun h => h4 h.1)], _, _, _, by omega, rfl, byt_nil, by simp⟩⟩
  · show ∃ r, (cond (e != 0) _ _) = some r ∧ _
    rw [bne_iff_ne.2 he, cond_true]
    exact ⟨_, rfl, .inr ⟨by unfold tstr; rw [h3]; rfl, _, _, _, he, rfl, byt_nil, by simp⟩⟩
/-! ### A message read -/
def parseS (k : Nat) (p : List Int) : Option Msg :=
  if p.length = 0 then none else
  (tstr 12 (p.drop 1)).bind fun x => (tstr 12 x.2).bind fun y => if y.2.length < 34 then none else (tstr 256 (y.2.drop 34)).bind fun z =>
    if z.2.length = 0 ∧ mayS k (IntKind.wrap .i64 (p.getD 0 0)) (strOf x.1) (strOf y.1) (IntKind.wrap .i64 (y.2.getD 0 0)) (IntKind.wrap .i64 (y.2.getD 1 0)) (lvec 32 (y.2.drop 2)) z.1 = true then
      some (IntKind.wrap .i64 (p.getD 0 0), strOf x.1, strOf y.1, IntKind.wrap .i64 (y.2.getD 0 0), IntKind.wrap .i64 (y.2.getD 1 0), lvec 32 (y.2.drop 2), z.1) else none
def PRes (k : Nat) (p : List Int) (r : Int × ByteArray × ByteArray × Int × Int × Vector Int 32 × List Int × Bool) : Prop :=
  ∃ a b c d e f g y, r = (a, b, c, d, e, f, g, y) ∧ ((y = true ∧ parseS k p = some (a, b, c, d, e, f, g)) ∨ (y = false ∧ parseS k p = none))
theorem parse1 (k : Nat) (hk : 5000 ≤ k) (p : List Int) (hB : Byt p) (hp : p.length ≤ 1000) : ∃ r, bisect_parse.f k p = some r ∧ PRes k p r := by
  unfold bisect_parse.f
  by_cases h0 : p.length = 0
  · rw [show ((p.length : Int) == 0) = true by rw [h0]; rfl, cond_true, obind]
    exact ⟨_, rfl, _, _, _, _, _, _, _, _, rfl, .inr ⟨rfl, by unfold parseS; rw [if_pos h0]⟩⟩
  · rw [show ((p.length : Int) == 0) = false by rw [beq_eq_false_iff_ne]; omega, cond_false, if_pos (by omega), obind, obind, if_pos (by omega), obind]
    have e1 : lsub p 1 (p.length : Int) = p.drop 1 := lsub_tail p 1 (by omega)
    have e0 : lget p 0 = p.getD 0 0 := lget_nat p 0
    rw [e1, e0]
    obtain ⟨r1, h1, h2⟩ := num_tstr k (by omega) 12 (by omega) (p.drop 1) (hB.drop 1) (by rw [List.length_drop]; omega)
    rw [show ((12 : Nat) : Int) = 12 from rfl] at h1
    rw [h1, obind]
    rcases h2 with ⟨s1, q1, h3, rfl⟩ | ⟨h3, s1, q1, z1, hz, rfl, _, _⟩
    · obtain ⟨b1, b2, b3, b4, b5⟩ := tstr_facts (hB.drop 1) h3
      rw [List.length_drop] at b4
      show ∃ r, (cond ((0 : Int) != 0) _ _) = some r ∧ _
      rw [show ((0 : Int) != 0) = false from rfl, cond_false]
      obtain ⟨r2, h4, h5⟩ := num_tstr k (by omega) 12 (by omega) q1 b2 (by omega)
      rw [show ((12 : Nat) : Int) = 12 from rfl] at h4
      rw [h4, obind]
      rcases h5 with ⟨s2, q2, h6, rfl⟩ | ⟨h6, s2, q2, z2, hz, rfl, _, _⟩
      · obtain ⟨c1, c2, c3, c4, c5⟩ := tstr_facts b2 h6
        simp only
        rw [show ((0 : Int) != 0) = false from rfl, cond_false]
        by_cases h34 : q2.length < 34
        · rw [decide_eq_true (by omega), cond_true, obind, obind]
          exact ⟨_, rfl, _, _, _, _, _, _, _, _, rfl, .inr ⟨rfl, by unfold parseS; rw [if_neg h0, h3, obind, h6, obind, if_pos h34]⟩⟩
        · rw [decide_eq_false (by omega), cond_false, obind]
          simp only [obind]
          have f0 : lget q2 0 = q2.getD 0 0 := lget_nat q2 0
          have f1 : lget q2 1 = q2.getD 1 0 := lget_nat q2 1
          have f2 : lsub q2 2 (q2.length : Int) = q2.drop 2 := lsub_tail q2 2 (by omega)
          have f3 : lsub q2 34 (q2.length : Int) = q2.drop 34 := lsub_tail q2 34 (by omega)
          rw [if_pos (by omega), if_pos (by omega), if_pos (by omega), if_pos (by rw [f2, List.length_drop]; omega), if_pos (by omega), f0, f1, f2, f3]
          obtain ⟨r3, h7, h8⟩ := num_tstr k (by omega) 256 (by omega) (q2.drop 34) (c2.drop 34) (by rw [List.length_drop]; omega)
          rw [show ((256 : Nat) : Int) = 256 from rfl] at h7
          rw [h7, obind]
          rcases h8 with ⟨s3, q3, h9, rfl⟩ | ⟨h9, s3, q3, z3, hz, rfl, _, _⟩
          · obtain ⟨d1, d2, d3, d4, d5⟩ := tstr_facts (c2.drop 34) h9
            show ∃ r, (cond ((0 : Int) == 0) _ _) = some r ∧ _
            rw [show ((0 : Int) == 0) = true from rfl, cond_true]
            by_cases hq3 : q3.length = 0
            · rw [show ((q3.length : Int) == 0) = true by rw [hq3]; rfl, cond_true, may1 k _ _ _ _ _ _ _ (by rw [strOf_size]; omega) (by rw [strOf_size]; omega) (by omega) (by omega) d1, obind]
              refine ⟨_, rfl, _, _, _, _, _, _, _, _, rfl, ?_⟩
              unfold parseS
              rw [if_neg h0, h3, obind, h6, obind, if_neg h34, h9, obind]
              cases hm : mayS k (IntKind.wrap .i64 (p.getD 0 0)) (strOf s1) (strOf s2) (IntKind.wrap .i64 (q2.getD 0 0)) (IntKind.wrap .i64 (q2.getD 1 0)) (lvec 32 (q2.drop 2)) s3 with
              | true => exact .inl ⟨rfl, by rw [if_pos ⟨hq3, rfl⟩]⟩
              | false => exact .inr ⟨rfl, by rw [if_neg (fun h => Bool.noConfusion h.2)]⟩
            · rw [show ((q3.length : Int) == 0) = false by rw [beq_eq_false_iff_ne]; omega, cond_false]
              exact ⟨_, rfl, _, _, _, _, _, _, _, _, rfl, .inr ⟨rfl, by unfold parseS; rw [if_neg h0, h3, obind, h6, obind, if_neg h34, h9, obind, if_neg (fun h => hq3 h.1)]⟩⟩
          · show ∃ r, (cond (z3 == 0) _ _) = some r ∧ _
            rw [beq_eq_false_iff_ne.2 hz, cond_false]
            exact ⟨_, rfl, _, _, _, _, _, _, _, _, rfl, .inr ⟨rfl, by unfold parseS; rw [if_neg h0, h3, obind, h6, obind, if_neg h34, h9]; rfl⟩⟩
      · simp only
        rw [bne_iff_ne.2 hz, cond_true, obind, obind]
        exact ⟨_, rfl, _, _, _, _, _, _, _, _, rfl, .inr ⟨rfl, by unfold parseS; rw [if_neg h0, h3, obind, h6]; rfl⟩⟩
    · show ∃ r, (cond (z1 != 0) _ _) = some r ∧ _
      rw [bne_iff_ne.2 hz, cond_true, obind]
      exact ⟨_, rfl, _, _, _, _, _, _, _, _, rfl, .inr ⟨rfl, by unfold parseS; rw [if_neg h0, h3]; rfl⟩⟩
theorem hash_loop (q : List Int) (hq : 34 ≤ q.length) (hq2 : q.length ≤ 100000) : ∀ (m t f : Nat) (a : Vector Int 32), t + m = 32 → m < f → ∃ a', cauteryref21_parse.l0 q f (t : Int) a = some a' ∧ ∀ i : Nat, i < 32 → vget a' (i : Int) = if i < t then vget a (i : Int) else q.getD (2 + i) 0 := by
  intro m
  induction m with
  | zero =>
    intro t f a h1 h2
    obtain ⟨f, rfl⟩ := Nat.exists_eq_add_of_lt h2
    obtain rfl : t = 32 := by omega
    exact ⟨a, rfl, fun i hi => by rw [if_pos hi]⟩
  | succ m ih =>
    intro t f a h1 h2
    obtain ⟨f, rfl⟩ : ∃ f', f = f' + 1 := ⟨f - 1, by omega⟩
    rw [cauteryref21_parse.l0, decide_eq_true (show (t : Int) < 32 by omega), cond_true, obind, wadd_i64 (by omega) (by omega), show 2 + (t : Int) = ((2 + t : Nat) : Int) by omega, if_pos (by omega), obind, if_pos (by omega), obind, obind, wadd_i64 (by omega) (by omega), lget_nat]
    obtain ⟨a', h3, h4⟩ := ih (t + 1) f (vset a (t : Int) (q.getD (2 + t) 0)) (by omega) (by omega)
    refine ⟨a', h3, fun i hi => ?_⟩
    rw [h4 i hi]
    by_cases hit : i = t
    · subst hit; rw [if_pos (by omega), if_neg (by omega), vget_vset_same _ _ hi]
    · rw [vget_vset_ne _ _ _ hi (by omega)]
      by_cases h : i < t
      · rw [if_pos (by omega), if_pos h]
      · rw [if_neg (by omega), if_neg h]
theorem hash_eq (q : List Int) (hq : 34 ≤ q.length) (hq2 : q.length ≤ 100000) (k : Nat) (hk : 40 ≤ k) : cauteryref21_parse.l0 q k 0 (Vector.replicate 32 (0 : Int)) = some (lvec 32 (q.drop 2)) := by
  obtain ⟨a', h1, h2⟩ := hash_loop q hq hq2 32 0 k (Vector.replicate 32 0) rfl (by omega)
  rw [show ((0 : Nat) : Int) = 0 from rfl] at h1
  rw [h1]
  refine congrArg some (vec_ext fun i hi => ?_)
  rw [h2 i hi, if_neg (by omega), vget_nat _ _ hi]
  simp [lvec, List.getD_eq_getElem?_getD, List.getElem?_drop]
theorem parse2 (k : Nat) (hk : 5000 ≤ k) (p : List Int) (hB : Byt p) (hp : p.length ≤ 1000) : ∃ r, cauteryref21_parse.f k p = some r ∧ PRes k p r := by
  unfold cauteryref21_parse.f cauteryref01_TakeBytes.f
  rw [show decide ((1 : Int) < 0) = false from rfl, cond_false]
  by_cases h0 : p.length = 0
  · rw [decide_eq_true (show (1 : Int) > (p.length : Int) by omega), cond_true, obind]
    show ∃ r, (cond ((2 : Int) != 0) _ _) = some r ∧ _
    rw [show ((2 : Int) != 0) = true from rfl, cond_true, obind]
    exact ⟨_, rfl, _, _, _, _, _, _, _, _, rfl, .inr ⟨rfl, by unfold parseS; rw [if_pos h0]⟩⟩
  · have e1 : lsub p 1 (p.length : Int) = p.drop 1 := lsub_tail p 1 (by omega)
    have e2 : lsub p 0 1 = p.take 1 := lsub_head p 1
    rw [decide_eq_false (show ¬ (1 : Int) > (p.length : Int) by omega), cond_false, if_pos (by omega), obind, if_pos (by omega), obind, obind, e1, e2]
    show ∃ r, (cond ((0 : Int) != 0) _ _) = some r ∧ _
    rw [show ((0 : Int) != 0) = false from rfl, cond_false]
    obtain ⟨r1, h1, h2⟩ := ref_tstr k (by omega) 12 (by omega) (p.drop 1) (hB.drop 1) (by rw [List.length_drop]; omega)
    rw [show ((12 : Nat) : Int) = 12 from rfl] at h1
    rw [h1, obind]
    rcases h2 with ⟨s1, q1, h3, rfl⟩ | ⟨h3, s1, q1, z1, hz, rfl, hq1, hl1⟩
    · obtain ⟨b1, b2, b3, b4, b5⟩ := tstr_facts (hB.drop 1) h3
      rw [List.length_drop] at b4
      simp only
      obtain ⟨r2, h4, h5⟩ := ref_tstr k (by omega) 12 (by omega) q1 b2 (by omega)
      rw [show ((12 : Nat) : Int) = 12 from rfl] at h4
      rw [h4, obind]
      rcases h5 with ⟨s2, q2, h6, rfl⟩ | ⟨h6, s2, q2, z2, hz, rfl, _, _⟩
      · obtain ⟨c1, c2, c3, c4, c5⟩ := tstr_facts b2 h6
        simp only
        rw [show ((0 : Int) != 0) = false from rfl, cond_false, cond_false]
        by_cases h34 : q2.length < 34
        · rw [decide_eq_true (by omega), cond_true, obind, obind]
          exact ⟨_, rfl, _, _, _, _, _, _, _, _, rfl, .inr ⟨rfl, by unfold parseS; rw [if_neg h0, h3, obind, h6, obind, if_pos h34]⟩⟩
        · rw [decide_eq_false (by omega), cond_false, obind]
          simp only [obind]
          have e0 : lget (p.take 1) 0 = p.getD 0 0 := by
            rw [show lget (p.take 1) 0 = (p.take 1).getD 0 0 from lget_nat _ 0, List.getD_eq_getElem?_getD, List.getElem?_take_of_lt (by omega), ← List.getD_eq_getElem?_getD]
          have f0 : lget q2 0 = q2.getD 0 0 := lget_nat q2 0
          have f1 : lget q2 1 = q2.getD 1 0 := lget_nat q2 1
          have f3 : lsub q2 34 (q2.length : Int) = q2.drop 34 := lsub_tail q2 34 (by omega)
          rw [if_pos (by rw [List.length_take]; omega), if_pos (by omega), if_pos (by omega), hash_eq q2 (by omega) (by omega) k (by omega), obind]
          rw [if_pos (by omega), e0, f0, f1, f3]
          obtain ⟨r3, h7, h8⟩ := ref_tstr k (by omega) 256 (by omega) (q2.drop 34) (c2.drop 34) (by rw [List.length_drop]; omega)
          rw [show ((256 : Nat) : Int) = 256 from rfl] at h7
          rw [h7, obind]
          rcases h8 with ⟨s3, q3, h9, rfl⟩ | ⟨h9, s3, q3, z3, hz, rfl, _, _⟩
          · obtain ⟨d1, d2, d3, d4, d5⟩ := tstr_facts (c2.drop 34) h9
            show ∃ r, (cond ((0 : Int) == 0) _ _) = some r ∧ _
            rw [show ((0 : Int) == 0) = true from rfl, cond_true]
            by_cases hq3 : q3.length = 0
            · rw [show ((q3.length : Int) == 0) = true by rw [hq3]; rfl, cond_true, may2 k _ _ _ _ _ _ _ (by rw [strOf_size]; omega) (by rw [strOf_size]; omega) (by rw [strOf_size]; omega) (by rw [strOf_size]; omega) (by omega) (by omega) d1, obind]
              refine ⟨_, rfl, _, _, _, _, _, _, _, _, rfl, ?_⟩
              unfold parseS
              rw [if_neg h0, h3, obind, h6, obind, if_neg h34, h9, obind]
              cases hm : mayS k (IntKind.wrap .i64 (p.getD 0 0)) (strOf s1) (strOf s2) (IntKind.wrap .i64 (q2.getD 0 0)) (IntKind.wrap .i64 (q2.getD 1 0)) (lvec 32 (q2.drop 2)) s3 with
              | true => exact .inl ⟨rfl, by rw [if_pos ⟨hq3, rfl⟩]⟩
              | false => exact .inr ⟨rfl, by rw [if_neg (fun h => Bool.noConfusion h.2)]⟩
            · rw [show ((q3.length : Int) == 0) = false by rw [beq_eq_false_iff_ne]; omega, cond_false]
              exact ⟨_, rfl, _, _, _, _, _, _, _, _, rfl, .inr ⟨rfl, by unfold parseS; rw [if_neg h0, h3, obind, h6, obind, if_neg h34, h9, obind, if_neg (fun h => hq3 h.1)]⟩⟩
          · show ∃ r, (cond (z3 == 0) _ _) = some r ∧ _
            rw [beq_eq_false_iff_ne.2 hz, cond_false]
            exact ⟨_, rfl, _, _, _, _, _, _, _, _, rfl, .inr ⟨rfl, by unfold parseS; rw [if_neg h0, h3, obind, h6, obind, if_neg h34, h9]; rfl⟩⟩
      · simp only
        rw [show ((0 : Int) != 0) = false from rfl, cond_false, bne_iff_ne.2 hz, cond_true, obind, obind]
        exact ⟨_, rfl, _, _, _, _, _, _, _, _, rfl, .inr ⟨rfl, by unfold parseS; rw [if_neg h0, h3, obind, h6]; rfl⟩⟩
    · simp only
      rw [List.length_drop] at hl1
      obtain ⟨r2, h4, h5⟩ := ref_tstr k (by omega) 12 (by omega) q1 hq1 (by omega)
      rw [show ((12 : Nat) : Int) = 12 from rfl] at h4
      obtain ⟨s2, q2, z2⟩ := r2
      rw [h4, obind]
      simp only
      rw [bne_iff_ne.2 hz, cond_true, obind, obind]
      exact ⟨_, rfl, _, _, _, _, _, _, _, _, rfl, .inr ⟨rfl, by unfold parseS; rw [if_neg h0, h3]; rfl⟩⟩
end Go.Proofs.Ythbcjjhlebhghaa.Walk
