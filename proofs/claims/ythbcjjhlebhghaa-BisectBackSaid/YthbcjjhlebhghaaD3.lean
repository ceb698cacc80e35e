/- Plain laws over the models of the functions. -/
import Derived.Test.YthbcjjhlebhghaaD2
namespace Go.Proofs.Ythbcjjhlebhghaa.Walk
open Go
def Byt (l : List Int) : Prop := ∀ x ∈ l, 0 ≤ x ∧ x < 256
theorem Byt.getD {l : List Int} (h : Byt l) (i : Nat) : 0 ≤ l.getD i 0 ∧ l.getD i 0 < 256 := by
  rw [List.getD_eq_getElem?_getD]
  cases hi : l[i]? with
  | none => simp
  | some x => exact h x (List.mem_of_getElem? hi)
theorem Byt.take {l : List Int} (h : Byt l) (n : Nat) : Byt (l.take n) := fun x hx => h x (List.mem_of_mem_take hx)
theorem Byt.drop {l : List Int} (h : Byt l) (n : Nat) : Byt (l.drop n) := fun x hx => h x (List.mem_of_mem_drop hx)
theorem Byt.append {l m : List Int} (h : Byt l) (k : Byt m) : Byt (l ++ m) := fun x hx => (List.mem_append.1 hx).elim (h x) (k x)
theorem or_add (i a y : Nat) (hy : y < 2 ^ i) (h : a * 2 ^ i + y < 4294967296) : wor .u32 ((a * 2 ^ i : Nat) : Int) ((y : Nat) : Int) = ((a * 2 ^ i + y : Nat) : Int) := by
  rw [wor_bv, bv, bv, BitVec.ofInt_natCast, BitVec.ofInt_natCast, BitVec.toNat_or, BitVec.toNat_ofNat, BitVec.toNat_ofNat, Nat.mod_eq_of_lt (by omega), Nat.mod_eq_of_lt (by omega), ← Nat.shiftLeft_eq, ← Nat.shiftLeft_add_eq_or_of_lt hy]
theorem wshl_nat (a i : Nat) (hi : i ≤ 32) (h : a * 2 ^ i < 4294967296) : wshl .u32 ((a : Nat) : Int) ((i : Nat) : Int) = ((a * 2 ^ i : Nat) : Int) := by
  unfold wshl
  rw [wrap_u32, show min ((i : Nat) : Int).toNat IntKind.u32.bits = i by simp [IntKind.bits]; omega]
  rw [show ((a : Nat) : Int) * 2 ^ i = ((a * 2 ^ i : Nat) : Int) by simp]
  omega
theorem word_val (b : List Int) (hb : Byt b) (j : Nat) : ∃ b0 b1 b2 b3 : Nat, b0 < 256 ∧ b1 < 256 ∧ b2 < 256 ∧ b3 < 256 ∧ b.getD (4 * j) 0 = (b0 : Int) ∧ b.getD (4 * j + 1) 0 = (b1 : Int) ∧ b.getD (4 * j + 2) 0 = (b2 : Int) ∧ b.getD (4 * j + 3) 0 = (b3 : Int) := by
  have h0 := hb.getD (4 * j); have h1 := hb.getD (4 * j + 1); have h2 := hb.getD (4 * j + 2); have h3 := hb.getD (4 * j + 3)
  exact ⟨(b.getD (4 * j) 0).toNat, (b.getD (4 * j + 1) 0).toNat, (b.getD (4 * j + 2) 0).toNat, (b.getD (4 * j + 3) 0).toNat, by omega, by omega, by omega, by omega, by omega, by omega, by omega, by omega⟩
def part (b : List Int) (j : Nat) : Nat → Int
  | 0 => 0
  | r + 1 => wor .u32 (wshl .u32 (part b j r) 8) (IntKind.wrap .u32 (b.getD (4 * j + r) 0))
theorem step_val (a x : Nat) (ha : a < 16777216) (hx : x < 256) : wor .u32 (wshl .u32 (a : Int) 8) (IntKind.wrap .u32 (x : Int)) = ((a * 256 + x : Nat) : Int) := by
  have e := wshl_nat a 8 (by omega) (by omega)
  rw [show ((8 : Nat) : Int) = 8 from rfl] at e
  rw [e, wrap_u32, show ((x : Nat) : Int) % 4294967296 = ((x : Nat) : Int) by omega, or_add 8 a x (by omega) (by omega)]
theorem part_word (b : List Int) (hb : Byt b) (j : Nat) : part b j 4 = wordOf b j := by
  obtain ⟨b0, b1, b2, b3, h0, h1, h2, h3, e0, e1, e2, e3⟩ := word_val b hb j
  simp only [part, wordOf, Nat.add_zero, e0, e1, e2, e3]
  have z := step_val 0 b0 (by omega) h0
  rw [show ((0 : Nat) : Int) = 0 from rfl] at z
  rw [z, step_val _ b1 (by omega) h1, step_val _ b2 (by omega) h2, step_val _ b3 (by omega) h3]
  have w : ∀ x : Nat, x < 256 → IntKind.wrap .u32 (x : Int) = (x : Int) := fun x hx => by rw [wrap_u32]; omega
  rw [w b0 h0, w b1 h1, w b2 h2, w b3 h3]
  have f0 := wshl_nat b0 24 (by omega) (by omega); have f1 := wshl_nat b1 16 (by omega) (by omega); have f2 := wshl_nat b2 8 (by omega) (by omega)
  rw [show ((24 : Nat) : Int) = 24 from rfl] at f0; rw [show ((16 : Nat) : Int) = 16 from rfl] at f1; rw [show ((8 : Nat) : Int) = 8 from rfl] at f2
  rw [f0, f1, f2, or_add 24 b0 (b1 * 2 ^ 16) (by omega) (by omega)]
  rw [show b0 * 2 ^ 24 + b1 * 2 ^ 16 = (b0 * 2 ^ 8 + b1) * 2 ^ 16 by omega, or_add 16 _ (b2 * 2 ^ 8) (by omega) (by omega)]
  rw [show (b0 * 2 ^ 8 + b1) * 2 ^ 16 + b2 * 2 ^ 8 = ((b0 * 2 ^ 8 + b1) * 2 ^ 8 + b2) * 2 ^ 8 by omega, or_add 8 _ b3 (by omega) (by omega)]
  omega
theorem load_eq (p : Vector Int 64) : ∀ (n t f : Nat) (a : Vector Int 16), t + n = 64 → n < f → (∀ j : Nat, j < 16 → vget a (j : Int) = part p.toList j (min 4 (t - 4 * j))) →
    ∃ a', sha_load.l0 p f (t : Int) a = some a' ∧ ∀ j : Nat, j < 16 → vget a' (j : Int) = part p.toList j 4 := by
  intro n
  induction n with
  | zero =>
    intro t f a h1 h2 h3
    obtain ⟨f, rfl⟩ := Nat.exists_eq_add_of_lt h2
    rw [Nat.zero_add, sha_load.l0]
    obtain rfl : t = 64 := by omega
    exact ⟨a, rfl, fun j hj => by rw [h3 j hj]; congr 1; omega⟩
  | succ n ih =>
    intro t f a h1 h2 h3
    obtain ⟨f, rfl⟩ : ∃ f', f = f' + 1 := ⟨f - 1, by omega⟩
    rw [sha_load.l0]
    have e1 : decide ((t : Int) < 64) = true := by simp; omega
    rw [e1, cond_true, if_pos (by omega)]
    have e2 : wquo .i64 (t : Int) 4 = ((t / 4 : Nat) : Int) := by
      have : (t : Int).tdiv 4 = ((t / 4 : Nat) : Int) := by rw [Int.tdiv_eq_ediv_of_nonneg (by omega)]; omega
      unfold wquo; rw [this, wrap_i64 (by omega) (by omega)]
    simp only [Option.bind_some, e2]
    rw [if_pos (by omega), wadd_i64 (by omega) (by omega)]
    refine ih (t + 1) f _ (by omega) (by omega) ?_
    intro j hj
    by_cases hjt : t / 4 = j
    · subst hjt
      rw [vget_vset_same _ _ hj, h3 _ hj]
      obtain ⟨r, hr, hr4⟩ : ∃ r, t = 4 * (t / 4) + r ∧ r < 4 := ⟨t % 4, by omega, by omega⟩
      rw [show min 4 (t - 4 * (t / 4)) = r by omega, show min 4 (t + 1 - 4 * (t / 4)) = r + 1 by omega]
      show _ = wor .u32 _ _
      rw [show 4 * (t / 4) + r = t by omega]
      rfl
    · rw [vget_vset_ne _ _ _ hj hjt, h3 j hj]
      congr 1
      omega
/-- The wheel holds the last sixteen. -/
def Wheel (b : List Int) (t : Nat) (a : Vector Int 16) : Prop := ∀ s : Nat, s < max t 16 → max t 16 ≤ s + 16 → vget a ((s % 16 : Nat) : Int) = Sw b s
theorem wrem_nat (a n : Nat) : wrem .i64 (a : Int) (n : Int) = ((a % n : Nat) : Int) := by
  unfold wrem; rw [Int.tmod_eq_emod_of_nonneg (by omega)]; simp
theorem next_eq (b : List Int) (t : Nat) (ht : t < 64) (a : Vector Int 16) (h : Wheel b t a) : ∃ a', sha_wheel_next.f a (t : Int) = some (Sw b t, a') ∧ Wheel b (t + 1) a' := by
  unfold sha_wheel_next.f
  have e0 : wrem .i64 (t : Int) 16 = ((t % 16 : Nat) : Int) := wrem_nat t 16
  simp only [Option.bind_some, e0]
  by_cases h16 : t < 16
  · have e1 : decide ((t : Int) ≥ 16) = false := by simp; omega
    rw [e1, cond_false, if_pos (by omega)]
    refine ⟨a, ?_, ?_⟩
    · rw [h t (by omega) (by omega)]
    · intro s h1 h2; exact h s (by omega) (by omega)
  · have e1 : decide ((t : Int) ≥ 16) = true := by simp; omega
    rw [e1, cond_true]
    have m14 : wrem .i64 (wadd .i64 (t : Int) 14) 16 = (((t - 2) % 16 : Nat) : Int) := by
      rw [wadd_i64 (by omega) (by omega), show (t : Int) + 14 = ((t + 14 : Nat) : Int) by omega]; exact (wrem_nat _ 16).trans (by omega)
    have m1 : wrem .i64 (wadd .i64 (t : Int) 1) 16 = (((t - 15) % 16 : Nat) : Int) := by
      rw [wadd_i64 (by omega) (by omega), show (t : Int) + 1 = ((t + 1 : Nat) : Int) by omega]; exact (wrem_nat _ 16).trans (by omega)
    have m9 : wrem .i64 (wadd .i64 (t : Int) 9) 16 = (((t - 7) % 16 : Nat) : Int) := by
      rw [wadd_i64 (by omega) (by omega), show (t : Int) + 9 = ((t + 9 : Nat) : Int) by omega]; exact (wrem_nat _ 16).trans (by omega)
    rw [m14, m1, m9]
    have q0 := h (t - 16) (by omega) (by omega)
    rw [show (t - 16) % 16 = t % 16 by omega] at q0
    simp only [q0, h (t - 2) (by omega) (by omega), h (t - 15) (by omega) (by omega), h (t - 7) (by omega) (by omega), rotl_eq _ 7 (by omega), rotl_eq _ 18 (by omega), rotl_eq _ 17 (by omega), rotl_eq _ 19 (by omega), Option.bind_some]
    repeat rw [if_pos (by omega)]
    rw [vget_vset_same _ _ (by omega)]
    have hw : wadd .u32 (Sw b (t - 16)) (wadd .u32 (wadd .u32 (wxor .u32 (wxor .u32 (rot (Sw b (t - 15)) 7) (rot (Sw b (t - 15)) 18)) (wshr .u32 (Sw b (t - 15)) 3)) (Sw b (t - 7))) (wxor .u32 (wxor .u32 (rot (Sw b (t - 2)) 17) (rot (Sw b (t - 2)) 19)) (wshr .u32 (Sw b (t - 2)) 10))) = Sw b t := by
      rw [Sw_big (t := t) h16]
      show wadd .u32 (Sw b (t - 16)) (wadd .u32 (wadd .u32 (s0 (Sw b (t - 15))) (Sw b (t - 7))) (s1 (Sw b (t - 2)))) = _
      simp only [wadd_u32]
      omega
    rw [hw]
    refine ⟨_, rfl, ?_⟩
    intro s h1 h2
    by_cases hst : s = t
    · subst hst; rw [vget_vset_same _ _ (by omega)]
    · rw [vget_vset_ne _ _ _ (by omega) (by omega)]
      exact h s (by omega) (by omega)
theorem take_rounds (b : List Int) (k : Vector Int 64) (hk : k.toList = KK) (v : Vector Int 8) : ∀ (n t f : Nat) (a : Vector Int 16), t + n = 64 → n < f → Wheel b t a →
    ∃ a', sha_Hash_take.l1 k f (vget (rounds v (fun t => KK.getD t 0) (Sw b) t) 0) (vget (rounds v (fun t => KK.getD t 0) (Sw b) t) 1) (vget (rounds v (fun t => KK.getD t 0) (Sw b) t) 2) (vget (rounds v (fun t => KK.getD t 0) (Sw b) t) 3) (vget (rounds v (fun t => KK.getD t 0) (Sw b) t) 4) (vget (rounds v (fun t => KK.getD t 0) (Sw b) t) 5) (vget (rounds v (fun t => KK.getD t 0) (Sw b) t) 6) (vget (rounds v (fun t => KK.getD t 0) (Sw b) t) 7) (t : Int) a =
      some (vget (rounds v (fun t => KK.getD t 0) (Sw b) 64) 0, vget (rounds v (fun t => KK.getD t 0) (Sw b) 64) 1, vget (rounds v (fun t => KK.getD t 0) (Sw b) 64) 2, vget (rounds v (fun t => KK.getD t 0) (Sw b) 64) 3, vget (rounds v (fun t => KK.getD t 0) (Sw b) 64) 4, vget (rounds v (fun t => KK.getD t 0) (Sw b) 64) 5, vget (rounds v (fun t => KK.getD t 0) (Sw b) 64) 6, vget (rounds v (fun t => KK.getD t 0) (Sw b) 64) 7, a') := by
  intro n
  induction n with
  | zero =>
    intro t f a h1 h2 h3
    obtain ⟨f, rfl⟩ := Nat.exists_eq_add_of_lt h2
    rw [Nat.zero_add, sha_Hash_take.l1]
    obtain rfl : t = 64 := by omega
    exact ⟨a, rfl⟩
  | succ n ih =>
    intro t f a h1 h2 h3
    obtain ⟨f, rfl⟩ : ∃ f', f = f' + 1 := ⟨f - 1, by omega⟩
    rw [sha_Hash_take.l1]
    have e1 : decide ((t : Int) < 64) = true := by simp; omega
    rw [e1, cond_true]
    obtain ⟨a', h4, h5⟩ := next_eq b t (by omega) a h3
    simp only [Option.bind_some, rotl_eq _ 6 (by omega), rotl_eq _ 11 (by omega), rotl_eq _ 25 (by omega), rotl_eq _ 2 (by omega), rotl_eq _ 13 (by omega), rotl_eq _ 22 (by omega), h4, ch_eq, maj_eq]
    rw [if_pos (by omega), wadd_i64 (by omega) (by omega)]
    have hkt : vget k (t : Int) = KK.getD t 0 := by rw [← hk]; simp [vget]
    rw [hkt]
    exact ih (t + 1) f a' (by omega) (by omega) h5
theorem take_add (r : Vector Int 8) : ∀ (n t f : Nat) (a : Vector Int 8), t + n = 8 → n < f → ∃ a', sha_Hash_take.l0 (vget r 0) (vget r 1) (vget r 2) (vget r 3) (vget r 4) (vget r 5) (vget r 6) (vget r 7) f (t : Int) a = some a' ∧ ∀ i : Nat, i < 8 → vget a' (i : Int) = if i < t then vget a (i : Int) else wadd .u32 (vget r (i : Int)) (vget a (i : Int)) := by
  intro n
  have hv : (#v[vget r 0, vget r 1, vget r 2, vget r 3, vget r 4, vget r 5, vget r 6, vget r 7] : Vector Int 8) = r := by
    apply vec_ext
    intro i hi
    match i, hi with
    | 0, _ => rfl
    | 1, _ => rfl
    | 2, _ => rfl
    | 3, _ => rfl
    | 4, _ => rfl
    | 5, _ => rfl
    | 6, _ => rfl
    | 7, _ => rfl
  induction n with
  | zero =>
    intro t f a h1 h2
    obtain ⟨f, rfl⟩ := Nat.exists_eq_add_of_lt h2
    rw [Nat.zero_add, sha_Hash_take.l0]
    obtain rfl : t = 8 := by omega
    exact ⟨a, rfl, fun i hi => by rw [if_pos hi]⟩
  | succ n ih =>
    intro t f a h1 h2
    obtain ⟨f, rfl⟩ : ∃ f', f = f' + 1 := ⟨f - 1, by omega⟩
    rw [sha_Hash_take.l0]
    have e1 : decide ((t : Int) < 8) = true := by simp; omega
    rw [e1, cond_true, if_pos (by omega)]
    simp only [Option.bind_some, hv]
    rw [wadd_i64 (by omega) (by omega)]
    obtain ⟨a', h3, h4⟩ := ih (t + 1) f (vset a (t : Int) (wadd .u32 (vget a (t : Int)) (vget r (t : Int)))) (by omega) (by omega)
    refine ⟨a', h3, fun i hi => ?_⟩
    rw [h4 i hi]
    by_cases hit : i = t
    · subst hit; rw [if_pos (by omega), if_neg (by omega), vget_vset_same _ _ hi, wadd_u32, wadd_u32, Int.add_comm]
    · rw [vget_vset_ne _ _ _ hi (by omega)]
      by_cases h : i < t
      · rw [if_pos (by omega), if_pos h]
      · rw [if_neg (by omega), if_neg h]
theorem take_eq (v : Vector Int 8) (p : Vector Int 64) (hp : Byt p.toList) (held long : Int) (f : Nat) (hf : 70 ≤ f) : sha_Hash_take.f f v p held long = some (blk v p.toList, p, 0, long) := by
  unfold sha_Hash_take.f
  obtain ⟨a1, h1, h2⟩ := load_eq p 64 0 f (Vector.replicate 16 0) rfl (by omega) (by
    intro j hj
    rw [vget_nat _ _ hj, show min 4 (0 - 4 * j) = 0 by omega]
    simp [part])
  rw [show ((0 : Nat) : Int) = 0 from rfl] at h1
  unfold sha_load.f
  rw [h1]
  obtain ⟨kk, hk1, hk2⟩ := steps2
  rw [hk1]
  simp only [Option.bind_some]
  have hw : Wheel p.toList 0 a1 := by
    intro s h3 h4
    have hs : s < 16 := by omega
    rw [show s % 16 = s by omega, h2 s hs, part_word _ hp, Sw_small hs]
  obtain ⟨a', h5⟩ := take_rounds p.toList kk hk2 v 64 0 f a1 rfl (by omega) hw
  rw [show ((0 : Nat) : Int) = 0 from rfl] at h5
  rw [show rounds v (fun t => KK.getD t 0) (Sw p.toList) 0 = v from rfl] at h5
  rw [h5]
  simp only [Option.bind_some]
  obtain ⟨a'', h6, h7⟩ := take_add (rounds v (fun t => KK.getD t 0) (Sw p.toList) 64) 8 0 f v rfl (by omega)
  rw [show ((0 : Nat) : Int) = 0 from rfl] at h6
  rw [h6]
  simp only [Option.bind_some, Option.some.injEq, Prod.mk.injEq, and_true]
  apply vec_ext
  intro i hi
  rw [h7 i hi, if_neg (by omega), vget_blk _ _ i hi]
end Go.Proofs.Ythbcjjhlebhghaa.Walk
