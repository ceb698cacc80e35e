/- Plain laws over the models of the functions. -/
import Derived.Test.YthbcjjhlebhghaaD5
namespace Go.Proofs.Ythbcjjhlebhghaa.Walk
open Go
def put (n : Nat) : List Int := if n < 128 then [(n : Int)] else ((n % 128 + 128 : Nat) : Int) :: put (n / 128)
termination_by n
theorem put_small {n : Nat} (h : n < 128) : put n = [(n : Int)] := by rw [put, if_pos h]
theorem put_big {n : Nat} (h : ¬ n < 128) : put n = ((n % 128 + 128 : Nat) : Int) :: put (n / 128) := by rw [put, if_neg h]
theorem put_byt (n : Nat) : Byt (put n) := by
  induction n using Nat.strongRecOn with
  | _ n ih =>
    by_cases h : n < 128
    · rw [put_small h]; exact byt_one (by omega) (by omega)
    · rw [put_big h]
      intro x hx
      rcases List.mem_cons.1 hx with rfl | hx
      · omega
      · exact ih (n / 128) (by omega) x hx
theorem put_len (i : Nat) : ∀ n : Nat, n < 128 ^ (i + 1) → (put n).length ≤ i + 1 := by
  induction i with
  | zero => intro n h; rw [put_small (by omega)]; simp
  | succ i ih =>
    intro n h
    by_cases h1 : n < 128
    · rw [put_small h1]; simp
    · rw [put_big h1, List.length_cons]
      have := ih (n / 128) (by rw [Nat.div_lt_iff_lt_mul (by omega), ← Nat.pow_succ]; exact h)
      omega
theorem or128 : ∀ a : Fin 256, wor .u8 (a.1 : Int) 128 = ((a.1 % 128 + 128 : Nat) : Int) := by decide +kernel
theorem andn128 : ∀ a : Fin 256, wandn .u8 (a.1 : Int) 128 = ((a.1 % 128 : Nat) : Int) := by decide +kernel
theorem and128 : ∀ a : Fin 256, wand .u8 (a.1 : Int) 128 = if a.1 < 128 then 0 else 128 := by decide +kernel
theorem u8_nat (n : Nat) : IntKind.wrap .u8 (n : Int) = ((n % 256 : Nat) : Int) := by rw [wrap_u8]; omega
theorem put_loop : ∀ (i n f : Nat) (l : List Int), n < 128 ^ (i + 1) → i < f → l.length + i ≤ 140737488355000 → ∃ (m : Nat) (l' : List Int), num_Put.l0 f (n : Int) l = some ((m : Int), l') ∧ m < 128 ∧ l' ++ [(m : Int)] = l ++ put n ∧ l'.length ≤ l.length + i := by
  intro i
  induction i with
  | zero =>
    intro n f l h1 h2 h3
    obtain ⟨f, rfl⟩ := Nat.exists_eq_add_of_lt h2
    have h1 : n < 128 := by simpa using h1
    rw [Nat.zero_add, num_Put.l0, decide_eq_false (by omega), cond_false]
    exact ⟨n, l, rfl, h1, by rw [put_small h1], by omega⟩
  | succ i ih =>
    intro n f l h1 h2 h3
    obtain ⟨f, rfl⟩ : ∃ f', f = f' + 1 := ⟨f - 1, by omega⟩
    rw [num_Put.l0]
    by_cases hn : n < 128
    · rw [decide_eq_false (by omega), cond_false]
      exact ⟨n, l, rfl, hn, by rw [put_small hn], by omega⟩
    · rw [decide_eq_true (by omega), cond_true, u8_nat, or128 ⟨n % 256, by omega⟩]
      simp only [Option.bind_some]
      have hlen : ∀ x : Int, (l ++ [x]).length = l.length + 1 := fun x => by simp
      have hsh : wshr .u64 (n : Int) 7 = ((n / 128 : Nat) : Int) := by
        unfold wshr
        rw [show min (7 : Int).toNat IntKind.u64.bits = 7 from rfl, Int.fdiv_eq_ediv_of_nonneg _ (by omega)]
        omega
      rw [if_pos (by rw [hlen]; omega), hsh, show n % 256 % 128 = n % 128 by omega]
      obtain ⟨m, l', r1, r2, r3, r4⟩ := ih (n / 128) f (l ++ [((n % 128 + 128 : Nat) : Int)]) (by rw [Nat.div_lt_iff_lt_mul (by omega), ← Nat.pow_succ]; exact h1) (by omega) (by rw [hlen]; omega)
      refine ⟨m, l', r1, r2, ?_, by rw [hlen] at r4; omega⟩
      rw [r3, put_big hn, List.append_assoc]; rfl
theorem lcopy_zeros (b : List Int) : lcopy (List.replicate b.length (0 : Int)) b = b := by
  unfold lcopy
  rw [List.length_replicate, show Nat.min b.length b.length = b.length from Nat.min_self _, List.take_length, List.drop_eq_nil_of_le (by simp), List.append_nil]
theorem num_put (k : Nat) (hk : 20 ≤ k) (b : List Int) (n : Nat) (hn : n < 18446744073709551616) (hb : b.length ≤ 140737488354000) : num_Put.f k b (n : Int) = some (b ++ put n) := by
  unfold num_Put.f num_grown.f
  rw [wadd_i64 (by omega) (by omega)]
  simp only [Option.bind_some]
  rw [if_pos (by omega), show Int.toNat (b.length : Int) = b.length from rfl, lcopy_zeros]
  simp only [Option.bind_some]
  obtain ⟨m, l', r1, r2, r3, r4⟩ := put_loop 9 n k b (by omega) (by omega) (by omega)
  rw [r1]
  simp only [Option.bind_some]
  rw [u8_nat, show m % 256 = m by omega, r3]
  rw [if_pos (by rw [List.length_append]; have := put_len 9 n (by omega); omega)]
theorem ref_put_loop : ∀ (i n f : Nat) (l : List Int), n < 18446744073709551616 → n < 128 ^ (i + 1) → i < f → l.length + i ≤ 140737488355000 → ∃ (m : Nat) (l' : List Int), cauteryref01_Put.l0 f (n : Int) l = some ((m : Int), l') ∧ m < 128 ∧ l' ++ [(m : Int)] = l ++ put n ∧ l'.length ≤ l.length + i := by
  intro i
  induction i with
  | zero =>
    intro n f l h0 h1 h2 h3
    obtain ⟨f, rfl⟩ := Nat.exists_eq_add_of_lt h2
    have h1 : n < 128 := by simpa using h1
    rw [Nat.zero_add, cauteryref01_Put.l0, decide_eq_false (by omega), cond_false]
    exact ⟨n, l, rfl, h1, by rw [put_small h1], by omega⟩
  | succ i ih =>
    intro n f l h0 h1 h2 h3
    obtain ⟨f, rfl⟩ : ∃ f', f = f' + 1 := ⟨f - 1, by omega⟩
    rw [cauteryref01_Put.l0]
    by_cases hn : n < 128
    · rw [decide_eq_false (by omega), cond_false]
      exact ⟨n, l, rfl, hn, by rw [put_small hn], by omega⟩
    · have e1 : wrem .u64 (n : Int) 128 = ((n % 128 : Nat) : Int) := by
        unfold wrem; rw [Int.tmod_eq_emod_of_nonneg (by omega)]; omega
      have e2 : IntKind.wrap .u8 (wadd .u64 ((n % 128 : Nat) : Int) 128) = ((n % 128 + 128 : Nat) : Int) := by
        show IntKind.wrap .u8 (IntKind.wrap .u64 _) = _
        rw [wrap_u64, wrap_u8]; omega
      have e3 : wquo .u64 (n : Int) 128 = ((n / 128 : Nat) : Int) := by
        unfold wquo; rw [Int.tdiv_eq_ediv_of_nonneg (by omega), wrap_u64]; omega
      rw [decide_eq_true (by omega), cond_true, e1, e2, e3]
      simp only [Option.bind_some]
      have hlen : ∀ x : Int, (l ++ [x]).length = l.length + 1 := fun x => by simp
      rw [if_pos (by rw [hlen]; omega)]
      obtain ⟨m, l', r1, r2, r3, r4⟩ := ih (n / 128) f (l ++ [((n % 128 + 128 : Nat) : Int)]) (by omega) (by rw [Nat.div_lt_iff_lt_mul (by omega), ← Nat.pow_succ]; exact h1) (by omega) (by rw [hlen]; omega)
      refine ⟨m, l', r1, r2, ?_, by rw [hlen] at r4; omega⟩
      rw [r3, put_big hn, List.append_assoc]; rfl
theorem ref_put (k : Nat) (hk : 20 ≤ k) (b : List Int) (n : Nat) (hn : n < 18446744073709551616) (hb : b.length ≤ 140737488354000) : cauteryref01_Put.f k b (n : Int) = some (b ++ put n) := by
  unfold cauteryref01_Put.f
  simp only [Option.bind_some, List.nil_append]
  rw [if_pos (by omega)]
  obtain ⟨m, l', r1, r2, r3, r4⟩ := ref_put_loop 9 n k b hn (by omega) (by omega) (by omega)
  rw [r1]
  simp only [Option.bind_some]
  rw [u8_nat, show m % 256 = m by omega, r3]
  rw [if_pos (by rw [List.length_append]; have := put_len 9 n (by omega); omega)]
theorem u64_nat {n : Nat} (h : n < 18446744073709551616) : IntKind.wrap .u64 (n : Int) = (n : Int) := by rw [wrap_u64]; omega
theorem num_puts (k : Nat) (hk : 20 ≤ k) (b s : List Int) (hb : b.length ≤ 100000000000) (hs : s.length ≤ 100000000000) : num_PutString.f k b s = some (b ++ (put s.length ++ s)) := by
  unfold num_PutString.f
  simp only [Option.bind_some]
  rw [u64_nat (by omega), num_put k hk b s.length (by omega) (by omega)]
  simp only [Option.bind_some]
  rw [if_pos (by simp only [List.length_append]; have := put_len 9 s.length (by omega); omega), List.append_assoc]
theorem ref_puts (k : Nat) (hk : 20 ≤ k) (b s : List Int) (hb : b.length ≤ 100000000000) (hs : s.length ≤ 100000000000) : cauteryref01_PutString.f k b s = some (b ++ (put s.length ++ s)) := by
  unfold cauteryref01_PutString.f
  simp only [Option.bind_some]
  rw [u64_nat (by omega), ref_put k hk b s.length (by omega) (by omega)]
  simp only [Option.bind_some]
  rw [if_pos (by simp only [List.length_append]; have := put_len 9 s.length (by omega); omega), List.append_assoc]
/-! ### Reading numbers -/
def dec : Nat → List Int → Option (Nat × List Int)
  | _, [] => none
  | i, c :: r => if 10 ≤ i then none else if 128 ≤ c then (dec (i + 1) r).map fun x => ((c - 128).toNat + 128 * x.1, x.2) else if i = 0 ∨ (c ≠ 0 ∧ (i < 9 ∨ c = 1)) then some (c.toNat, r) else none
theorem dec_put (m : Nat) : ∀ (i : Nat) (q : List Int), 128 ^ i * m < 18446744073709551616 → (i = 0 ∨ m ≠ 0) → i ≤ 9 → dec i (put m ++ q) = some (m, q) := by
  induction m using Nat.strongRecOn with
  | _ m ih =>
    intro i q h1 h2 h3
    by_cases hm : m < 128
    · rw [put_small hm, List.singleton_append, dec, if_neg (by omega), if_neg (by omega), if_pos]
      · simp
      · rcases h2 with h2 | h2
        · exact .inl h2
        · refine .inr ⟨by omega, ?_⟩
          by_cases hi : i < 9
          · exact .inl hi
          · obtain rfl : i = 9 := by omega
            right; omega
    · rw [put_big hm, List.cons_append, dec, if_neg (by omega), if_pos (by omega)]
      have hi : i < 9 := by
        rcases Nat.lt_or_ge i 9 with h | h
        · exact h
        · obtain rfl : i = 9 := by omega
          omega
      rw [ih (m / 128) (by omega) (i + 1) q ?_ (by omega) (by omega)]
      · simp only [Option.map_some, Option.some.injEq, Prod.mk.injEq, and_true]; omega
      · refine Nat.lt_of_le_of_lt ?_ h1
        rw [Nat.pow_succ, Nat.mul_assoc]
        exact Nat.mul_le_mul_left _ (by omega)
theorem put_dec : ∀ (l : List Int) (i m : Nat) (q : List Int), Byt l → dec i l = some (m, q) → l = put m ++ q ∧ (i = 0 ∨ m ≠ 0) ∧ Byt q ∧ 128 ^ i * m < 18446744073709551616 := by
  intro l
  induction l with
  | nil => intro i m q _ h; simp [dec] at h
  | cons c r ih =>
    intro i m q hB h
    have hc := hB c List.mem_cons_self
    have hr : Byt r := fun x hx => hB x (List.mem_cons_of_mem _ hx)
    rw [dec] at h
    split at h
    · cases h
    · split at h
      · cases hd : dec (i + 1) r with
        | none => rw [hd] at h; cases h
        | some x =>
          obtain ⟨m', q'⟩ := x
          rw [hd] at h
          simp only [Option.map_some, Option.some.injEq, Prod.mk.injEq] at h
          obtain ⟨rfl, rfl⟩ := h
          obtain ⟨h1, h2, h3, h4⟩ := ih (i + 1) m' q' hr hd
          have hm' : m' ≠ 0 := by omega
          refine ⟨?_, by omega, h3, ?_⟩
          · rw [put_big (by omega), List.cons_append, h1]
            congr 1
            · omega
            · congr 2; omega
          · have hi : i < 9 := by
              rcases Nat.lt_or_ge i 9 with h | h
              · exact h
              · obtain rfl : i = 9 := by omega
                omega
            have e1 : 128 ^ i * ((c - 128).toNat + 128 * m') < 128 ^ i * (128 * (m' + 1)) := Nat.mul_lt_mul_of_pos_left (by omega) (Nat.pow_pos (by omega))
            rw [Nat.pow_succ, Nat.mul_assoc] at h4
            -- 128^(i+1) divides 2^64 - ..: by cases on i
            have e3 : i = 0 ∨ i = 1 ∨ i = 2 ∨ i = 3 ∨ i = 4 ∨ i = 5 ∨ i = 6 ∨ i = 7 ∨ i = 8 := by omega
            rcases e3 with rfl | rfl | rfl | rfl | rfl | rfl | rfl | rfl | rfl <;> simp at h4 ⊢ <;> omega
      · split at h
        · rename_i hi10 h128 hcan
          simp only [Option.some.injEq, Prod.mk.injEq] at h
          obtain ⟨rfl, rfl⟩ := h
          refine ⟨?_, ?_, hr, ?_⟩
          · rw [put_small (by omega), List.singleton_append]; congr 1; omega
          · rcases hcan with h | ⟨h, _⟩
            · exact .inl h
            · right; omega
          · have hi : i = 0 ∨ i = 1 ∨ i = 2 ∨ i = 3 ∨ i = 4 ∨ i = 5 ∨ i = 6 ∨ i = 7 ∨ i = 8 ∨ i = 9 := by omega
            rcases hi with rfl | rfl | rfl | rfl | rfl | rfl | rfl | rfl | rfl | rfl <;> simp at hcan ⊢ <;> omega
        · cases h
end Go.Proofs.Ythbcjjhlebhghaa.Walk
