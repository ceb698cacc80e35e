/- Plain laws over the models of the functions. -/
import Derived.Test.YthbcjjhlebhghaaD9
namespace Go.Proofs.Ythbcjjhlebhghaa.Walk
open Go
abbrev MsgE := Int × ByteArray × ByteArray × Int × Int × Vector Int 32 × List Int × Int
def zeroE (x : Int) : MsgE := (0, ⟨#[]⟩, ⟨#[]⟩, 0, 0, Vector.replicate 32 0, [], x)
def withE (m : Msg) (x : Int) : MsgE := (m.1, m.2.1, m.2.2.1, m.2.2.2.1, m.2.2.2.2.1, m.2.2.2.2.2.1, m.2.2.2.2.2.2, x)
def decS (k : Nat) (p : List Int) : MsgE :=
  if 600 < p.length then zeroE 4 else if p.length < 4 then zeroE 14 else
  if (sh k (p.take (p.length - 4))).toList.take 4 = p.drop (p.length - 4) then (match parseS k (p.take (p.length - 4)) with | some m => withE m 0 | none => zeroE 3) else zeroE 14
theorem equal_eq {a b : List Int} (ha : Byt a) (hb : Byt b) : bytes_Equal.f a b = some (decide (a = b)) := by
  unfold bytes_Equal.f
  rw [obind, obind, strOf_eq ha hb]
theorem dec1 (k : Nat) (hk : 5000 ≤ k) (p : List Int) (hB : Byt p) (hp : p.length ≤ 1000000) : bisect_Decode.f k p = some (decS k p) := by
  unfold bisect_Decode.f decS
  rw [obind, wsub_i64 (by omega) (by omega)]
  by_cases h1 : 600 < p.length
  · rw [decide_eq_true (show (p.length : Int) > 600 by omega), cond_true, if_pos h1]; rfl
  · rw [decide_eq_false (show ¬ (p.length : Int) > 600 by omega), cond_false, if_neg h1]
    by_cases h2 : p.length < 4
    · rw [decide_eq_true (show (p.length : Int) - 4 < 0 by omega), cond_true, if_pos h2]; rfl
    · rw [decide_eq_false (show ¬ (p.length : Int) - 4 < 0 by omega), cond_false, if_neg h2, show (p.length : Int) - 4 = ((p.length - 4 : Nat) : Int) by omega, if_pos (by omega), obind, lsub_head]
      have hl : (p.take (p.length - 4)).length = p.length - 4 := by rw [List.length_take]; omega
      obtain ⟨s1, s2, s3⟩ := sh_eq (p.take (p.length - 4)) (hB.take _) k (by omega) (by omega)
      rw [s1, obind, obind, if_pos (by omega), obind, lsub_tail p _ (by omega), lsub_4, equal_eq (s3.take 4) (hB.drop _), obind]
      by_cases h3 : (sh k (p.take (p.length - 4))).toList.take 4 = p.drop (p.length - 4)
      · rw [decide_eq_true h3, Bool.not_true, cond_false, obind, if_pos h3]
        obtain ⟨r, h4, a, b, c, d, e, f, g, y, rfl, h5⟩ := parse1 k hk (p.take (p.length - 4)) (hB.take _) (by omega)
        rw [h4, obind]
        rcases h5 with ⟨rfl, h6⟩ | ⟨rfl, h6⟩
        · rw [h6]; rfl
        · rw [h6]; rfl
      · rw [decide_eq_false h3, Bool.not_false, cond_true, if_neg h3]; rfl
theorem dec2 (k : Nat) (hk : 5000 ≤ k) (p : List Int) (hB : Byt p) (hp : p.length ≤ 1000000) : cauteryref21_Decode.f k p = some (decS k p) := by
  unfold cauteryref21_Decode.f decS
  by_cases h1 : 600 < p.length
  · rw [decide_eq_true (show (p.length : Int) > 600 by omega), cond_true, if_pos h1]; rfl
  · rw [decide_eq_false (show ¬ (p.length : Int) > 600 by omega), cond_false, if_neg h1]
    by_cases h2 : p.length < 4
    · rw [decide_eq_true (show (p.length : Int) < 4 by omega), cond_true, if_pos h2]; rfl
    · rw [decide_eq_false (show ¬ (p.length : Int) < 4 by omega), cond_false, if_neg h2, obind, wsub_i64 (by omega) (by omega), show (p.length : Int) - 4 = ((p.length - 4 : Nat) : Int) by omega, if_pos (by omega), obind, lsub_head]
      have hl : (p.take (p.length - 4)).length = p.length - 4 := by rw [List.length_take]; omega
      obtain ⟨s1, s2, s3⟩ := sh_eq (p.take (p.length - 4)) (hB.take _) k (by omega) (by omega)
      rw [s2, obind, obind, obind, if_pos (by omega), obind, obind, lsub_tail p _ (by omega), lsub_4, strOf_eq (s3.take 4) (hB.drop _)]
      by_cases h3 : (sh k (p.take (p.length - 4))).toList.take 4 = p.drop (p.length - 4)
      · rw [decide_eq_true h3, Bool.not_true, cond_false, obind, if_pos h3]
        obtain ⟨r, h4, a, b, c, d, e, f, g, y, rfl, h5⟩ := parse2 k hk (p.take (p.length - 4)) (hB.take _) (by omega)
        rw [h4, obind]
        rcases h5 with ⟨rfl, h6⟩ | ⟨rfl, h6⟩
        · rw [h6]; rfl
        · rw [h6]; rfl
      · rw [decide_eq_false h3, Bool.not_false, cond_true, if_neg h3]; rfl
theorem same_self (a : Int) (b c : ByteArray) (d e : Int) (f : Vector Int 32) (g : List Int) : cauteryref21_Same.f a b c d e f g a b c d e f g = some true := by
  unfold cauteryref21_Same.f
  simp
theorem strOf_bytesOf (s : ByteArray) : strOf (bytesOf s) = s := by
  cases s with
  | mk d =>
    unfold strOf bytesOf
    congr 1
    apply Array.ext'
    rw [List.map_map]
    have : ((fun n : Int => UInt8.ofNat n.toNat) ∘ fun b : UInt8 => (b.toNat : Int)) = id := by funext b; simp
    rw [this, List.map_id]
theorem bytesOf_strOf {l : List Int} (h : Byt l) : bytesOf (strOf l) = l := strOf_inj (bytesOf_byt _) h (strOf_bytesOf _)
theorem tstr_put {most : Nat} {s q : List Int} (h : s.length ≤ most) (hm : most ≤ 1000) : tstr most (put s.length ++ (s ++ q)) = some (s, q) := by
  unfold tstr
  rw [dec_put s.length 0 (s ++ q) (by omega) (.inl rfl) (by omega), obind]
  simp only
  rw [if_pos ⟨h, by rw [List.length_append]; omega⟩, List.take_left, List.drop_left]
theorem lvec_self (f : Vector Int 32) (r : List Int) : lvec 32 (f.toList ++ r) = f := by
  apply vec_ext
  intro i hi
  rw [vget_nat _ _ hi, vget_nat _ _ hi]
  have h' : i < f.toList.length := by rw [Vector.length_toList]; exact hi
  simp only [lvec, Vector.getElem_ofFn, List.getD_eq_getElem?_getD]
  rw [List.getElem?_append_left h', List.getElem?_eq_getElem h']
  simp
structure Fine (k : Nat) (a : Int) (b c : ByteArray) (d e : Int) (f : Vector Int 32) (g : List Int) : Prop where
  ha : a = 1 ∨ a = 2
  hb : b.size ≤ 12
  hc : c.size ≤ 12
  hd : 0 ≤ d ∧ d < e ∧ e ≤ 16
  hg : g.length ≤ 256
theorem may_fine {k : Nat} {a : Int} {b c : ByteArray} {d e : Int} {f : Vector Int 32} {g : List Int} (h : mayS k a b c d e f g = true) : Fine k a b c d e f g := by
  unfold mayS nameB at h
  simp only [Bool.and_eq_true, decide_eq_true_eq] at h
  obtain ⟨⟨_, _, hb⟩, ⟨_, _, hc⟩, hd, h4⟩ := h
  by_cases h1 : a = 1
  · subst h1; rw [if_pos rfl] at h4; exact ⟨.inl rfl, hb, hc, hd, by have := of_decide_eq_true h4; omega⟩
  · rw [if_neg h1] at h4
    by_cases h2 : a = 2
    · subst h2; rw [if_pos rfl] at h4
      simp only [Bool.and_eq_true, decide_eq_true_eq] at h4
      exact ⟨.inr rfl, hb, hc, hd, by omega⟩
    · rw [if_neg h2] at h4; cases h4
theorem wrap_small {x : Int} (h0 : 0 ≤ x) (h1 : x < 256) : IntKind.wrap .i64 (IntKind.wrap .u8 x) = x := by rw [wrap_u8, wrap_i64 (by omega) (by omega)]; omega
theorem parse_ahead {k : Nat} {a : Int} {b c : ByteArray} {d e : Int} {f : Vector Int 32} {g : List Int} (h : mayS k a b c d e f g = true) : parseS k (aheadS a b c d e f g) = some (a, b, c, d, e, f, g) := by
  have hF := may_fine h
  have ha := hF.ha; have hd := hF.hd
  have e1 : aheadS a b c d e f g = IntKind.wrap .u8 a :: (put (bytesOf b).length ++ (bytesOf b ++ (put (bytesOf c).length ++ (bytesOf c ++ (IntKind.wrap .u8 d :: IntKind.wrap .u8 e :: (f.toList ++ (put g.length ++ (g ++ [])))))))) := by
    unfold aheadS
    rw [bytesOf_length, bytesOf_length]
    simp only [List.append_assoc, List.cons_append, List.nil_append, List.append_nil]
  unfold parseS
  rw [e1, if_neg (by simp), List.drop_one, List.tail_cons, tstr_put (by rw [bytesOf_length]; exact hF.hb) (by omega), obind]
  simp only
  rw [tstr_put (by rw [bytesOf_length]; exact hF.hc) (by omega), obind]
  simp only
  have hlen : (IntKind.wrap .u8 d :: IntKind.wrap .u8 e :: (f.toList ++ (put g.length ++ (g ++ [])))).length = 34 + ((put g.length).length + g.length) := by
    simp only [List.length_cons, List.length_append, Vector.length_toList, List.length_nil]; omega
  have hdrop : (IntKind.wrap .u8 d :: IntKind.wrap .u8 e :: (f.toList ++ (put g.length ++ (g ++ [])))).drop 34 = put g.length ++ (g ++ []) := by
    rw [show (34 : Nat) = 32 + 1 + 1 from rfl, List.drop_succ_cons, List.drop_succ_cons, List.drop_left' (by rw [Vector.length_toList])]
  rw [if_neg (by omega), hdrop, tstr_put hF.hg (by omega), obind]
  simp only [List.getD_cons_zero, List.getD_cons_succ, strOf_bytesOf]
  have hd2 : (IntKind.wrap .u8 d :: IntKind.wrap .u8 e :: (f.toList ++ (put g.length ++ (g ++ [])))).drop 2 = f.toList ++ (put g.length ++ (g ++ [])) := rfl
  rw [hd2, lvec_self, wrap_small (show 0 ≤ a by omega) (by omega), wrap_small (show 0 ≤ d by omega) (by omega), wrap_small (show 0 ≤ e by omega) (by omega), if_pos ⟨rfl, h⟩]
theorem decode_encode {k : Nat} {a : Int} {b c : ByteArray} {d e : Int} {f : Vector Int 32} {g : List Int} (h : mayS k a b c d e f g = true) :
    decS k (aheadS a b c d e f g ++ (sh k (aheadS a b c d e f g)).toList.take 4) = withE (a, b, c, d, e, f, g) 0 := by
  have hF := may_fine h
  have hlen := ahead_len a b c d e f g
  have p1 := put_len1 (n := b.size) (by have := hF.hb; omega); have p2 := put_len1 (n := c.size) (by have := hF.hc; omega); have p3 := put_len2 (n := g.length) (by have := hF.hg; omega)
  have q1 := hF.hb; have q2 := hF.hc; have q3 := hF.hg
  have h4 : ((sh k (aheadS a b c d e f g)).toList.take 4).length = 4 := by rw [List.length_take, Vector.length_toList]; decide
  unfold decS
  generalize hx : (sh k (aheadS a b c d e f g)).toList.take 4 = x at *
  have hl : (aheadS a b c d e f g ++ x).length - 4 = (aheadS a b c d e f g).length := by rw [List.length_append]; omega
  rw [if_neg (by rw [List.length_append]; omega), if_neg (by rw [List.length_append]; omega), hl, List.take_left, List.drop_left, if_pos hx, parse_ahead h]
theorem parse_inv {k : Nat} {p : List Int} (hB : Byt p) {a : Int} {b c : ByteArray} {d e : Int} {f : Vector Int 32} {g : List Int} (h : parseS k p = some (a, b, c, d, e, f, g)) :
    mayS k a b c d e f g = true ∧ aheadS a b c d e f g = p ∧ Byt f.toList ∧ Byt g := by
  unfold parseS at h
  by_cases h0 : p.length = 0
  · rw [if_pos h0] at h; cases h
  rw [if_neg h0] at h
  cases h1 : tstr 12 (p.drop 1) with
  | none => rw [h1] at h; cases h
  | some x =>
    obtain ⟨s1, q1⟩ := x
    obtain ⟨b1, b2, b3, b4, b5⟩ := tstr_facts (hB.drop 1) h1
    rw [h1, obind] at h
    cases h2 : tstr 12 q1 with
    | none => simp only [h2] at h; cases h
    | some y =>
      obtain ⟨s2, q2⟩ := y
      obtain ⟨c1, c2, c3, c4, c5⟩ := tstr_facts b2 h2
      simp only [h2, obind] at h
      by_cases h34 : q2.length < 34
      · rw [if_pos h34] at h; cases h
      rw [if_neg h34] at h
      cases h3 : tstr 256 (q2.drop 34) with
      | none => rw [h3] at h; cases h
      | some z =>
        obtain ⟨s3, q3⟩ := z
        obtain ⟨d1, d2, d3, d4, d5⟩ := tstr_facts (c2.drop 34) h3
        rw [h3, obind] at h
        simp only at h
        split at h
        · rename_i hc
          obtain ⟨hq3, hm⟩ := hc
          simp only [Option.some.injEq, Prod.mk.injEq] at h
          obtain ⟨rfl, rfl, rfl, rfl, rfl, rfl, rfl⟩ := h
          have e3 : q3 = [] := List.eq_nil_of_length_eq_zero hq3
          subst e3
          have w : ∀ x : Int, 0 ≤ x ∧ x < 256 → IntKind.wrap .u8 (IntKind.wrap .i64 x) = x := fun x hx => by rw [wrap_i64 (by omega) (by omega), wrap_u8]; omega
          have hf : (lvec 32 (q2.drop 2)).toList = (q2.drop 2).take 32 := lvec_toList (by rw [List.length_drop]; omega)
          refine ⟨hm, ?_, ?_, d1⟩
          · unfold aheadS
            rw [strOf_size, strOf_size, bytesOf_strOf b1, bytesOf_strOf c1, w _ (hB.getD 0), w _ (c2.getD 0), w _ (c2.getD 1), hf]
            have f1 : p = p.getD 0 0 :: p.drop 1 := drop_cons_l p 0 (by omega)
            have f2 : q2 = q2.getD 0 0 :: q2.getD 1 0 :: q2.drop 2 := by
              have g1 := drop_cons_l q2 0 (by omega)
              have g2 := drop_cons_l q2 1 (by omega)
              rw [List.drop_zero] at g1
              rw [show (0 : Nat) + 1 = 1 from rfl, g2] at g1
              exact g1
            have f3 : q2.drop 2 = (q2.drop 2).take 32 ++ q2.drop 34 := by
              conv => lhs; rw [← List.take_append_drop 32 (q2.drop 2), List.drop_drop]
            have f4 : p = p.getD 0 0 :: (put s1.length ++ (s1 ++ (put s2.length ++ (s2 ++ (q2.getD 0 0 :: q2.getD 1 0 :: ((q2.drop 2).take 32 ++ (put s3.length ++ (s3 ++ [])))))))) := by
              conv => lhs; rw [f1, b5, c5, f2, f3, d5]
            rw [List.append_nil] at f4
            conv => rhs; rw [f4]
            simp only [List.append_assoc, List.cons_append, List.nil_append]
          · rw [hf]; exact (c2.drop 2).take 32
        · cases h
theorem encode_decode {k : Nat} (hk : 5000 ≤ k) {p : List Int} (hB : Byt p) {a : Int} {b c : ByteArray} {d e : Int} {f : Vector Int 32} {g : List Int} (h : decS k p = (a, b, c, d, e, f, g, 0)) :
    Small k b c f g ∧ encS k a b c d e f g = (p, 0) := by
  unfold decS at h
  split at h
  · unfold zeroE at h; simp at h
  · split at h
    · unfold zeroE at h; simp at h
    · split at h
      · rename_i h1 h2 h3
        cases hp : parseS k (p.take (p.length - 4)) with
        | none => rw [hp] at h; simp only at h; unfold zeroE at h; simp at h
        | some m =>
          rw [hp] at h
          simp only at h
          obtain ⟨a', b', c', d', e', f', g'⟩ := m
          unfold withE at h
          simp only [Prod.mk.injEq, and_true] at h
          obtain ⟨rfl, rfl, rfl, rfl, rfl, rfl, rfl⟩ := h
          obtain ⟨m1, m2, m3, m4⟩ := parse_inv (hB.take _) hp
          have hF := may_fine m1
          have q1 := hF.hb; have q2 := hF.hc; have q3 := hF.hg
          refine ⟨⟨hk, by omega, by omega, by omega, m3, m4⟩, ?_⟩
          unfold encS
          rw [if_pos m1, m2, h3, List.take_append_drop]
      · unfold zeroE at h; simp at h
end Go.Proofs.Ythbcjjhlebhghaa.Walk
