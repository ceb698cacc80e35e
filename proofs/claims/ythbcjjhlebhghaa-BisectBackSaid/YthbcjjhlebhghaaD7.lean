/- Plain laws over the models of the functions. -/
import Derived.Test.YthbcjjhlebhghaaD6
namespace Go.Proofs.Ythbcjjhlebhghaa.Walk
open Go
def bv6 (x : Int) : BitVec 64 := BitVec.ofInt 64 x
theorem wor6_bv (a b : Int) : wor .u64 a b = ((bv6 a ||| bv6 b).toNat : Int) := by
  show IntKind.wrap .u64 _ = _
  rw [wrap_u64]
  have := (bv6 a ||| bv6 b).isLt
  show ((BitVec.ofInt 64 a ||| BitVec.ofInt 64 b).toNat : Int) % _ = ((BitVec.ofInt 64 a ||| BitVec.ofInt 64 b).toNat : Int)
  have := (BitVec.ofInt 64 a ||| BitVec.ofInt 64 b).isLt
  omega
theorem or_add6 (i a y : Nat) (hy : y < 2 ^ i) (h : a * 2 ^ i + y < 18446744073709551616) : wor .u64 ((y : Nat) : Int) ((a * 2 ^ i : Nat) : Int) = ((y + a * 2 ^ i : Nat) : Int) := by
  rw [wor6_bv, bv6, bv6, BitVec.ofInt_natCast, BitVec.ofInt_natCast, BitVec.toNat_or, BitVec.toNat_ofNat, BitVec.toNat_ofNat, Nat.mod_eq_of_lt (by omega), Nat.mod_eq_of_lt (by omega), Nat.or_comm, ← Nat.shiftLeft_eq, ← Nat.shiftLeft_add_eq_or_of_lt hy, Nat.add_comm]
theorem wshl6_nat (a i : Nat) (hi : i ≤ 64) (h : a * 2 ^ i < 18446744073709551616) : wshl .u64 ((a : Nat) : Int) ((i : Nat) : Int) = ((a * 2 ^ i : Nat) : Int) := by
  unfold wshl
  rw [wrap_u64, show min ((i : Nat) : Int).toNat IntKind.u64.bits = i by simp [IntKind.bits]; omega]
  rw [show ((a : Nat) : Int) * 2 ^ i = ((a * 2 ^ i : Nat) : Int) by simp]
  omega
theorem wadd6_ex (a b : Int) : ∃ w : Nat, wadd .u64 a b = (w : Int) ∧ w < 18446744073709551616 := by
  refine ⟨((a + b) % 18446744073709551616).toNat, ?_, by omega⟩
  show IntKind.wrap .u64 (a + b) = _
  rw [wrap_u64]; omega
theorem pow7 (i : Nat) : 2 ^ (7 * i) = 128 ^ i := by rw [Nat.pow_mul]
theorem clone_eq {l : List Int} (h : l.length ≤ 140737488355000) : bytes_Clone.f l = some l := by
  unfold bytes_Clone.f
  simp only [Option.bind_some, List.nil_append]
  rw [if_pos (by omega)]
theorem lsub_tail (l : List Int) (i : Nat) (h : i ≤ l.length) : lsub l (i : Int) (l.length : Int) = l.drop i := by
  unfold lsub; rw [List.take_of_length_le (by rw [List.length_drop]; omega)]; simp
theorem lsub_head (l : List Int) (i : Nat) : lsub l 0 (i : Int) = l.take i := by simp [lsub]
theorem drop_cons_l (l : List Int) (i : Nat) (h : i < l.length) : l.drop i = l.getD i 0 :: l.drop (i + 1) := by
  rw [List.drop_eq_getElem_cons h, List.getD_eq_getElem?_getD, List.getElem?_eq_getElem h]; rfl
theorem num_take_loop (p : List Int) (hB : Byt p) (hp : p.length ≤ 140737488354000) : ∀ (m i f n : Nat), i + m = min p.length 10 → m < f → (i ≤ 9 → n < 128 ^ i) →
    ∃ e, num_Take.l0 p (p.take (min p.length 10)) f (n : Int) (i : Int) = some e ∧ ((∃ v q, dec i (p.drop i) = some (v, q) ∧ e = Ex.ret (((n + 128 ^ i * v : Nat) : Int), q, 0)) ∨ (dec i (p.drop i) = none ∧ (e = Ex.go () ∨ e = Ex.ret (0, [], 3)))) := by
  intro m
  induction m with
  | zero =>
    intro i f n h1 h2 h3
    obtain ⟨f, rfl⟩ := Nat.exists_eq_add_of_lt h2
    rw [Nat.zero_add, num_Take.l0, decide_eq_false (by rw [List.length_take]; omega), cond_false]
    refine ⟨_, rfl, .inr ⟨?_, .inl rfl⟩⟩
    by_cases h10 : 10 ≤ i
    · cases hd : p.drop i with
      | nil => rfl
      | cons c r => rw [dec, if_pos h10]
    · rw [List.drop_eq_nil_of_le (by omega)]; rfl
  | succ m ih =>
    intro i f n h1 h2 h3
    obtain ⟨f, rfl⟩ : ∃ f', f = f' + 1 := ⟨f - 1, by omega⟩
    have hip : i < p.length := by omega
    have hi9 : i ≤ 9 := by omega
    have hn := h3 hi9
    rw [num_Take.l0, decide_eq_true (by rw [List.length_take]; omega), cond_true, if_pos (by rw [List.length_take]; omega), drop_cons_l p i hip]
    have hg : lget (p.take (min p.length 10)) (i : Int) = p.getD i 0 := by
      rw [lget_nat, List.getD_eq_getElem?_getD, List.getElem?_take_of_lt (by omega), ← List.getD_eq_getElem?_getD]
    obtain ⟨hc0, hc1⟩ := hB.getD i
    rw [hg]
    generalize p.getD i 0 = c at *
    obtain ⟨c, rfl⟩ : ∃ c' : Nat, c = (c' : Int) := ⟨c.toNat, by omega⟩
    have a1 := andn128 ⟨c, by omega⟩
    have a2 := and128 ⟨c, by omega⟩
    simp only at a1 a2
    have e7 : wmul .i64 7 (i : Int) = ((7 * i : Nat) : Int) := by rw [wmul_i64 (by omega) (by omega)]; omega
    simp only [Option.bind_some, a1, e7, u64_nat (show c % 128 < 18446744073709551616 by omega)]
    rw [if_pos (by omega), wadd_i64 (by omega) (by omega), show (i : Int) + 1 = ((i + 1 : Nat) : Int) by omega, dec, if_neg (show ¬ 10 ≤ i by omega)]
    by_cases hc : c < 128
    · rw [if_pos hc] at a2
      rw [a2, if_neg (show ¬ 128 ≤ (c : Int) by omega)]
      have hs : num_isShort.f (i : Int) (c : Int) = some (decide (i = 0 ∨ ((c : Int) ≠ 0 ∧ (i < 9 ∨ (c : Int) = 1)))) := by
        unfold num_isShort.f
        by_cases q1 : i = 0
        · subst q1; rfl
        · rw [show (((i : Nat) : Int) == 0) = false by rw [beq_eq_false_iff_ne]; omega, cond_false]
          by_cases q2 : c = 0
          · subst q2; rw [show decide (i = 0 ∨ (((0 : Nat) : Int) ≠ 0 ∧ (i < 9 ∨ ((0 : Nat) : Int) = 1))) = false from decide_eq_false (by omega)]; rfl
          · rw [show (((c : Nat) : Int) != 0) = true by rw [bne_iff_ne]; omega, cond_true]
            by_cases q3 : i < 9
            · rw [decide_eq_true (show (i : Int) < 9 by omega), cond_true, decide_eq_true (show i = 0 ∨ ((c : Int) ≠ 0 ∧ (i < 9 ∨ (c : Int) = 1)) by omega)]
            · rw [decide_eq_false (show ¬ (i : Int) < 9 by omega), cond_false]
              by_cases q4 : c = 1
              · subst q4; rw [decide_eq_true (show i = 0 ∨ (((1 : Nat) : Int) ≠ 0 ∧ (i < 9 ∨ ((1 : Nat) : Int) = 1)) by omega)]; rfl
              · rw [decide_eq_false (show ¬ (i = 0 ∨ ((c : Int) ≠ 0 ∧ (i < 9 ∨ (c : Int) = 1))) by omega), show (((c : Nat) : Int) == 1) = false by rw [beq_eq_false_iff_ne]; omega]
      have hz : ((0 : Int) != 0) = false := rfl
      rw [hz, cond_false, hs]
      simp only [Option.bind_some]
      by_cases hcan : i = 0 ∨ ((c : Int) ≠ 0 ∧ (i < 9 ∨ (c : Int) = 1))
      · rw [if_pos hcan, decide_eq_true hcan, Bool.not_true, cond_false, if_pos (by omega), lsub_tail p (i + 1) (by omega), clone_eq (by rw [List.length_drop]; omega)]
        simp only [Option.bind_some]
        refine ⟨_, rfl, .inl ⟨c, p.drop (i + 1), by simp, ?_⟩⟩
        have hv : n + c * 128 ^ i < 18446744073709551616 := by
          have hi : i = 0 ∨ i = 1 ∨ i = 2 ∨ i = 3 ∨ i = 4 ∨ i = 5 ∨ i = 6 ∨ i = 7 ∨ i = 8 ∨ i = 9 := by omega
          rcases hi with rfl | rfl | rfl | rfl | rfl | rfl | rfl | rfl | rfl | rfl <;> simp at hcan hn ⊢ <;> omega
        have hw : wor .u64 (n : Int) (wshl .u64 ((c % 128 : Nat) : Int) ((7 * i : Nat) : Int)) = ((n + 128 ^ i * c : Nat) : Int) := by
          rw [show c % 128 = c by omega, wshl6_nat c (7 * i) (by omega) (by rw [pow7]; omega), or_add6 (7 * i) c n (by rw [pow7]; exact hn) (by rw [pow7]; omega), pow7, Nat.mul_comm]
        rw [hw]
      · rw [if_neg hcan, decide_eq_false hcan, Bool.not_false, cond_true]
        exact ⟨_, rfl, .inr ⟨rfl, .inr rfl⟩⟩
    · rw [if_neg hc] at a2
      rw [a2, if_pos (show 128 ≤ (c : Int) by omega)]
      have hz : ((128 : Int) != 0) = true := rfl
      rw [hz, cond_true]
      by_cases hi8 : i ≤ 8
      · have hv : n + (c % 128) * 128 ^ i < 128 ^ (i + 1) := by
          rw [Nat.pow_succ]
          have : (c % 128) * 128 ^ i ≤ 127 * 128 ^ i := Nat.mul_le_mul_right _ (by omega)
          omega
        have hlt : (128 : Nat) ^ (i + 1) ≤ 128 ^ 9 := Nat.pow_le_pow_right (by omega) (by omega)
        have hw : wor .u64 (n : Int) (wshl .u64 ((c % 128 : Nat) : Int) ((7 * i : Nat) : Int)) = ((n + (c % 128) * 128 ^ i : Nat) : Int) := by
          rw [wshl6_nat (c % 128) (7 * i) (by omega) (by rw [pow7]; omega), or_add6 (7 * i) (c % 128) n (by rw [pow7]; exact hn) (by rw [pow7]; omega), pow7]
        rw [hw]
        obtain ⟨e, r1, r2⟩ := ih (i + 1) f (n + (c % 128) * 128 ^ i) (by omega) (by omega) (fun _ => hv)
        refine ⟨e, r1, ?_⟩
        rcases r2 with ⟨v, q, r3, r4⟩ | ⟨r3, r4⟩
        · refine .inl ⟨c - 128 + 128 * v, q, by rw [r3]; simp; omega, ?_⟩
          rw [r4, show c % 128 = c - 128 by omega]
          congr 2
          rw [Nat.pow_succ, Nat.mul_add, Nat.mul_comm (c - 128), Nat.add_assoc, Nat.mul_assoc]
        · exact .inr ⟨by rw [r3]; rfl, r4⟩
      · obtain rfl : i = 9 := by omega
        obtain ⟨w, hw⟩ : ∃ w : Nat, wor .u64 (n : Int) (wshl .u64 ((c % 128 : Nat) : Int) ((7 * 9 : Nat) : Int)) = (w : Int) := ⟨_, wor6_bv _ _⟩
        rw [hw]
        obtain ⟨e, r1, r2⟩ := ih (9 + 1) f w (by omega) (by omega) (fun h => by omega)
        refine ⟨e, r1, ?_⟩
        have hd : dec (9 + 1) (p.drop (9 + 1)) = none := by
          cases hd : p.drop (9 + 1) with
          | nil => rfl
          | cons c r => rw [dec, if_pos (by omega)]
        rcases r2 with ⟨v, q, r3, r4⟩ | ⟨r3, r4⟩
        · rw [hd] at r3; cases r3
        · exact .inr ⟨by rw [hd]; rfl, r4⟩
/-- How both ways of reading a number answer. -/
def Took (p : List Int) (r : Int × List Int × Int) : Prop := (∃ v q, dec 0 p = some (v, q) ∧ r = ((v : Int), q, 0)) ∨ (dec 0 p = none ∧ ∃ e, e ≠ 0 ∧ r = (0, [], e))
theorem num_take (k : Nat) (hk : 20 ≤ k) (p : List Int) (hB : Byt p) (hp : p.length ≤ 140737488354000) : ∃ r, num_Take.f k p = some r ∧ Took p r := by
  unfold num_Take.f
  have e1 : wmin (p.length : Int) 10 = ((min p.length 10 : Nat) : Int) := by
    unfold wmin; split <;> omega
  rw [e1]
  simp only [Option.bind_some]
  rw [if_pos (by omega), lsub_head]
  obtain ⟨e, r1, r2⟩ := num_take_loop p hB hp (min p.length 10) 0 k 0 (by omega) (by omega) (fun _ => by simp)
  rw [show ((0 : Nat) : Int) = 0 from rfl] at r1
  rw [r1]
  simp only [Option.bind_some]
  rw [List.drop_zero] at r2
  rcases r2 with ⟨v, q, r3, rfl⟩ | ⟨r3, rfl | rfl⟩
  · exact ⟨_, rfl, .inl ⟨v, q, r3, by simp⟩⟩
  · by_cases h : (p.length : Int) ≥ 10
    · rw [decide_eq_true h]; exact ⟨_, rfl, .inr ⟨r3, 3, by omega, rfl⟩⟩
    · rw [decide_eq_false h]; exact ⟨_, rfl, .inr ⟨r3, 2, by omega, rfl⟩⟩
  · exact ⟨_, rfl, .inr ⟨r3, 3, by omega, rfl⟩⟩
/-! ### The reference's reading -/
def cont : Nat → Nat → List Int
  | 0, _ => []
  | i + 1, n => ((n % 128 + 128 : Nat) : Int) :: cont i (n / 128)
theorem cont_length (i : Nat) : ∀ n, (cont i n).length = i := by
  induction i with
  | zero => intro n; rfl
  | succ i ih => intro n; rw [cont, List.length_cons, ih]
theorem put_cont (i : Nat) : ∀ (n c : Nat), n < 128 ^ i → c < 128 → (i = 0 ∨ c ≠ 0) → put (n + c * 128 ^ i) = cont i n ++ [(c : Int)] := by
  induction i with
  | zero => intro n c h1 h2 _; have : n = 0 := by simpa using h1
            subst this; rw [Nat.pow_zero, Nat.mul_one, Nat.zero_add, put_small h2]; rfl
  | succ i ih =>
    intro n c h1 h2 h3
    have hc : 1 ≤ c := by omega
    have hp : 0 < 128 ^ i := Nat.pow_pos (by omega)
    have e : n + c * 128 ^ (i + 1) = n + 128 * (c * 128 ^ i) := by rw [Nat.pow_succ, ← Nat.mul_assoc, Nat.mul_comm 128]
    have hbig : 1 ≤ c * 128 ^ i := Nat.mul_pos hc hp
    rw [e, put_big (by omega), cont, List.cons_append]
    rw [show (n + 128 * (c * 128 ^ i)) / 128 = n / 128 + c * 128 ^ i by omega, ih (n / 128) c (by rw [Nat.div_lt_iff_lt_mul (by omega), ← Nat.pow_succ]; exact h1) h2 (.inr (by omega))]
    congr 2
    omega
theorem cont_snoc (i : Nat) : ∀ (n c : Nat), n < 128 ^ i → c < 128 → cont (i + 1) (n + c * 128 ^ i) = cont i n ++ [((c + 128 : Nat) : Int)] := by
  induction i with
  | zero =>
    intro n c h1 h2
    have : n = 0 := by simpa using h1
    subst this
    show [_] = [_]
    congr 2
    rw [Nat.pow_zero]; omega
  | succ i ih =>
    intro n c h1 h2
    have e : n + c * 128 ^ (i + 1) = n + 128 * (c * 128 ^ i) := by rw [Nat.pow_succ, ← Nat.mul_assoc, Nat.mul_comm 128]
    rw [cont, e, show (n + 128 * (c * 128 ^ i)) / 128 = n / 128 + c * 128 ^ i by omega, ih (n / 128) c (by rw [Nat.div_lt_iff_lt_mul (by omega), ← Nat.pow_succ]; exact h1) h2, cont, List.cons_append]
    congr 2
    omega
theorem strOf_inj {a b : List Int} (ha : Byt a) (hb : Byt b) (h : strOf a = strOf b) : a = b := by
  have h1 : (a.map fun n => UInt8.ofNat n.toNat) = (b.map fun n => UInt8.ofNat n.toNat) := by
    have := congrArg (fun s : ByteArray => s.data.toList) h
    simpa [strOf] using this
  have key : ∀ l : List Int, Byt l → (l.map fun n => UInt8.ofNat n.toNat).map (fun b => (b.toNat : Int)) = l := by
    intro l hl
    rw [List.map_map]
    conv => rhs; rw [← List.map_id l]
    apply List.map_congr_left
    intro x hx
    have := hl x hx
    simp only [Function.comp, UInt8.toNat_ofNat', id]
    omega
  rw [← key a ha, ← key b hb, h1]
theorem strOf_eq {a b : List Int} (ha : Byt a) (hb : Byt b) : ((strOf a).toList == (strOf b).toList) = decide (a = b) := by
  rw [toList_eq]
  by_cases h : a = b
  · subst h; simp
  · rw [decide_eq_false h, decide_eq_false (fun e => h (strOf_inj ha hb e))]
theorem ref_take_loop (p : List Int) (hB : Byt p) (hp : p.length ≤ 140737488354000) (k : Nat) (hk : 20 ≤ k) : ∀ (m i f n : Nat), i + m = 10 → m < f → n < 18446744073709551616 → (i ≤ 9 → n < 128 ^ i ∧ p.take i = cont i n) →
    ∃ e, cauteryref01_Take.l0 p k f (n : Int) (i : Int) = some e ∧ ((∃ v q, dec i (p.drop i) = some (v, q) ∧ e = Ex.ret (((n + 128 ^ i * v : Nat) : Int), q, 0)) ∨ (dec i (p.drop i) = none ∧ (e = Ex.go () ∨ e = Ex.ret (0, [], 3)))) := by
  intro m
  induction m with
  | zero =>
    intro i f n h1 h2 h0 h3
    obtain ⟨f, rfl⟩ := Nat.exists_eq_add_of_lt h2
    have hd : dec i (p.drop i) = none := by
      cases hd : p.drop i with
      | nil => rfl
      | cons c r => rw [dec, if_pos (by omega)]
    rw [Nat.zero_add, cauteryref01_Take.l0]
    rw [show decide ((i : Int) < 10) = false from decide_eq_false (by omega)]
    by_cases hl : (i : Int) < (p.length : Int)
    · rw [decide_eq_true hl]; exact ⟨_, rfl, .inr ⟨hd, .inl rfl⟩⟩
    · rw [decide_eq_false hl]; exact ⟨_, rfl, .inr ⟨hd, .inl rfl⟩⟩
  | succ m ih =>
    intro i f n h1 h2 h0 h3
    obtain ⟨f, rfl⟩ : ∃ f', f = f' + 1 := ⟨f - 1, by omega⟩
    have hi9 : i ≤ 9 := by omega
    obtain ⟨hn, htake⟩ := h3 hi9
    rw [cauteryref01_Take.l0]
    by_cases hip : i < p.length
    · rw [decide_eq_true (show (i : Int) < (p.length : Int) by omega), cond_true, decide_eq_true (show (i : Int) < 10 by omega), cond_true, if_pos (by omega), drop_cons_l p i hip, lget_nat]
      obtain ⟨hc0, hc1⟩ := hB.getD i
      have htk : p.take (i + 1) = cont i n ++ [p.getD i 0] := by
        rw [List.take_add_one, htake, List.getD_eq_getElem?_getD, List.getElem?_eq_getElem hip]; rfl
      generalize hcc : p.getD i 0 = c at *
      obtain ⟨c, rfl⟩ : ∃ c' : Nat, c = (c' : Int) := ⟨c.toNat, by omega⟩
      have e1 : wrem .u8 (c : Int) 128 = ((c % 128 : Nat) : Int) := by
        unfold wrem; rw [Int.tmod_eq_emod_of_nonneg (by omega)]; omega
      have e7 : IntKind.wrap .u64 (wmul .i64 7 (i : Int)) = ((7 * i : Nat) : Int) := by rw [wmul_i64 (by omega) (by omega), wrap_u64]; omega
      rw [e1, e7, u64_nat (show c % 128 < 18446744073709551616 by omega), Option.bind_some, Option.bind_some]
      rw [if_pos (by omega), wadd_i64 (by omega) (by omega), show (i : Int) + 1 = ((i + 1 : Nat) : Int) by omega, dec, if_neg (show ¬ 10 ≤ i by omega)]
      have hlt9 : (128 : Nat) ^ i ≤ 128 ^ 9 := Nat.pow_le_pow_right (by omega) hi9
      by_cases hc : c < 128
      · rw [if_neg (by omega), decide_eq_true (show (c : Int) < 128 by omega), Option.bind_some, cond_true, Option.bind_some, if_pos (by omega), lsub_head]
        -- the number read
        have hgood : (i < 9 ∨ c ≤ 1) → wadd .u64 (n : Int) (wshl .u64 ((c % 128 : Nat) : Int) ((7 * i : Nat) : Int)) = ((n + c * 128 ^ i : Nat) : Int) ∧ n + c * 128 ^ i < 18446744073709551616 := by
          intro hg
          have hv : n + c * 128 ^ i < 18446744073709551616 := by
            have hi : i = 0 ∨ i = 1 ∨ i = 2 ∨ i = 3 ∨ i = 4 ∨ i = 5 ∨ i = 6 ∨ i = 7 ∨ i = 8 ∨ i = 9 := by omega
            rcases hi with rfl | rfl | rfl | rfl | rfl | rfl | rfl | rfl | rfl | rfl <;> simp at hn ⊢ <;> omega
          refine ⟨?_, hv⟩
          rw [show c % 128 = c by omega, wshl6_nat c (7 * i) (by omega) (by rw [pow7]; omega), pow7]
          show IntKind.wrap .u64 _ = _
          rw [wrap_u64]; omega
        have hbad : ¬ (i < 9 ∨ c ≤ 1) → wadd .u64 (n : Int) (wshl .u64 ((c % 128 : Nat) : Int) ((7 * i : Nat) : Int)) = ((n + (c % 2) * 128 ^ 9 : Nat) : Int) := by
          intro hg
          obtain rfl : i = 9 := by omega
          have : wshl .u64 ((c % 128 : Nat) : Int) ((7 * 9 : Nat) : Int) = (((c % 2) * 128 ^ 9 : Nat) : Int) := by
            unfold wshl
            rw [show min ((7 * 9 : Nat) : Int).toNat IntKind.u64.bits = 63 from rfl, wrap_u64]
            omega
          rw [this]
          show IntKind.wrap .u64 _ = _
          rw [wrap_u64]
          have : n < 9223372036854775808 := by simpa using hn
          omega
        obtain ⟨V, hV, hV64, hiff⟩ : ∃ V : Nat, wadd .u64 (n : Int) (wshl .u64 ((c % 128 : Nat) : Int) ((7 * i : Nat) : Int)) = (V : Int) ∧ V < 18446744073709551616 ∧ (put V = p.take (i + 1) ↔ (i = 0 ∨ ((c : Int) ≠ 0 ∧ (i < 9 ∨ (c : Int) = 1)))) := by
          by_cases hg : i < 9 ∨ c ≤ 1
          · refine ⟨_, (hgood hg).1, (hgood hg).2, ?_⟩
            rw [htk]
            by_cases h00 : i = 0 ∨ c ≠ 0
            · rw [put_cont i n c hn hc h00]
              refine ⟨fun _ => ?_, fun _ => rfl⟩
              omega
            · have hz : c = 0 := by omega
              subst hz
              constructor
              · intro h
                have hl := congrArg List.length h
                rw [List.length_append, cont_length] at hl
                have := put_len (i - 1) (n + 0 * 128 ^ i) (by rw [show i - 1 + 1 = i by omega]; omega)
                simp at hl this
                omega
              · intro h; omega
          · have hi : i = 9 := by omega
            refine ⟨_, hbad hg, ?_, ?_⟩
            · subst hi; have : n < 9223372036854775808 := by simpa using hn
              omega
            rw [htk]
            subst hi
            constructor
            · intro h
              exfalso
              by_cases hc2 : c % 2 = 0
              · rw [hc2] at h
                have hl := congrArg List.length h
                rw [List.length_append, cont_length] at hl
                have := put_len 8 (n + 0 * 128 ^ 9) (by omega)
                simp at hl this
                omega
              · rw [show c % 2 = 1 by omega, put_cont 9 n 1 hn (by omega) (by omega)] at h
                have := List.append_cancel_left h
                simp at this
                omega
            · intro h; omega
        rw [hV]
        rw [ref_put k hk [] V hV64 (by simp)]
        simp only [Option.bind_some, List.nil_append]
        rw [strOf_eq (put_byt V) (hB.take _)]
        by_cases hcan : i = 0 ∨ ((c : Int) ≠ 0 ∧ (i < 9 ∨ (c : Int) = 1))
        · rw [if_pos hcan, decide_eq_true (hiff.2 hcan), Bool.not_true, cond_false, if_pos (by omega), lsub_tail p (i + 1) (by omega)]
          refine ⟨_, rfl, .inl ⟨c, p.drop (i + 1), by simp, ?_⟩⟩
          have hg : i < 9 ∨ c ≤ 1 := by omega
          rw [← hV, (hgood hg).1, Nat.mul_comm]
        · rw [if_neg hcan, decide_eq_false (fun h => hcan (hiff.1 h)), Bool.not_false, cond_true]
          exact ⟨_, rfl, .inr ⟨rfl, .inr rfl⟩⟩
      · rw [if_pos (by omega), decide_eq_false (show ¬ (c : Int) < 128 by omega), Option.bind_some, cond_false, Option.bind_some]
        by_cases hi8 : i ≤ 8
        · have hv : n + (c % 128) * 128 ^ i < 128 ^ (i + 1) := by
            rw [Nat.pow_succ]
            have : (c % 128) * 128 ^ i ≤ 127 * 128 ^ i := Nat.mul_le_mul_right _ (by omega)
            omega
          have hlt : (128 : Nat) ^ (i + 1) ≤ 128 ^ 9 := Nat.pow_le_pow_right (by omega) (by omega)
          have hw : wadd .u64 (n : Int) (wshl .u64 ((c % 128 : Nat) : Int) ((7 * i : Nat) : Int)) = ((n + (c % 128) * 128 ^ i : Nat) : Int) := by
            rw [wshl6_nat (c % 128) (7 * i) (by omega) (by rw [pow7]; omega), pow7]
            show IntKind.wrap .u64 _ = _
            rw [wrap_u64]; omega
          rw [hw]
          obtain ⟨e, r1, r2⟩ := ih (i + 1) f (n + (c % 128) * 128 ^ i) (by omega) (by omega) (by omega) (fun _ => ⟨hv, by rw [htk, cont_snoc i n (c % 128) hn (by omega)]; congr 2; omega⟩)
          refine ⟨e, r1, ?_⟩
          rcases r2 with ⟨v, q, r3, r4⟩ | ⟨r3, r4⟩
          · refine .inl ⟨c - 128 + 128 * v, q, by rw [r3]; simp; omega, ?_⟩
            rw [r4, show c % 128 = c - 128 by omega]
            congr 2
            rw [Nat.pow_succ, Nat.mul_add, Nat.mul_comm (c - 128), Nat.add_assoc, Nat.mul_assoc]
          · exact .inr ⟨by rw [r3]; rfl, r4⟩
        · obtain rfl : i = 9 := by omega
          obtain ⟨w, hw, hw2⟩ : ∃ w : Nat, wadd .u64 (n : Int) (wshl .u64 ((c % 128 : Nat) : Int) ((7 * 9 : Nat) : Int)) = (w : Int) ∧ w < 18446744073709551616 := wadd6_ex _ _
          rw [hw]
          obtain ⟨e, r1, r2⟩ := ih (9 + 1) f w (by omega) (by omega) hw2 (fun h => by omega)
          refine ⟨e, r1, ?_⟩
          have hd : dec (9 + 1) (p.drop (9 + 1)) = none := by
            cases hd : p.drop (9 + 1) with
            | nil => rfl
            | cons c r => rw [dec, if_pos (by omega)]
          rcases r2 with ⟨v, q, r3, r4⟩ | ⟨r3, r4⟩
          · rw [hd] at r3; cases r3
          · exact .inr ⟨by rw [hd]; rfl, r4⟩
    · rw [decide_eq_false (show ¬ (i : Int) < (p.length : Int) by omega), cond_false, List.drop_eq_nil_of_le (by omega)]
      exact ⟨_, rfl, .inr ⟨rfl, .inl rfl⟩⟩
theorem ref_take (k : Nat) (hk : 20 ≤ k) (p : List Int) (hB : Byt p) (hp : p.length ≤ 140737488354000) : ∃ r, cauteryref01_Take.f k p = some r ∧ Took p r := by
  unfold cauteryref01_Take.f
  obtain ⟨e, r1, r2⟩ := ref_take_loop p hB hp k hk 10 0 k 0 (by omega) (by omega) (by omega) (fun _ => ⟨by simp, rfl⟩)
  rw [show ((0 : Nat) : Int) = 0 from rfl] at r1
  rw [r1]
  simp only [Option.bind_some]
  rw [List.drop_zero] at r2
  rcases r2 with ⟨v, q, r3, rfl⟩ | ⟨r3, rfl | rfl⟩
  · exact ⟨_, rfl, .inl ⟨v, q, r3, by simp⟩⟩
  · by_cases h : (p.length : Int) ≥ 10
    · rw [decide_eq_true h]; exact ⟨_, rfl, .inr ⟨r3, 3, by omega, rfl⟩⟩
    · rw [decide_eq_false h]; exact ⟨_, rfl, .inr ⟨r3, 2, by omega, rfl⟩⟩
  · exact ⟨_, rfl, .inr ⟨r3, 3, by omega, rfl⟩⟩
end Go.Proofs.Ythbcjjhlebhghaa.Walk
