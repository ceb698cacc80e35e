/- Plain laws over the models of the functions. -/
import Derived.Test.YthbcjjhlebhghaaM
namespace Go.Proofs.Ythbcjjhlebhghaa.Walk
open Go
/-! ### Numbers of 32 bits -/
def bv (x : Int) : BitVec 32 := BitVec.ofInt 32 x
theorem wrap_u (k : IntKind) (hk : k.signed = false) (x : Int) : k.wrap x = x % (2 ^ k.bits : Int) := by
  simp [IntKind.wrap, hk]
theorem wrap_u32 (x : Int) : IntKind.wrap .u32 x = x % 4294967296 := wrap_u .u32 rfl x
theorem wrap_u64 (x : Int) : IntKind.wrap .u64 x = x % 18446744073709551616 := wrap_u .u64 rfl x
theorem wrap_u8 (x : Int) : IntKind.wrap .u8 x = x % 256 := wrap_u .u8 rfl x
theorem wrap_i64 {x : Int} (h0 : -9223372036854775808 ≤ x) (h1 : x < 9223372036854775808) : IntKind.wrap .i64 x = x := by
  show (let m := x % (2 ^ 64 : Int); if (true && decide (m ≥ (2 ^ 63 : Int))) = true then m - (2 ^ 64 : Int) else m) = x
  simp only [Bool.true_and, decide_eq_true_eq]
  split <;> omega
theorem wadd_i64 {a b : Int} (h0 : -9223372036854775808 ≤ a + b) (h1 : a + b < 9223372036854775808) : wadd .i64 a b = a + b := wrap_i64 h0 h1
theorem wsub_i64 {a b : Int} (h0 : -9223372036854775808 ≤ a - b) (h1 : a - b < 9223372036854775808) : wsub .i64 a b = a - b := wrap_i64 h0 h1
theorem wmul_i64 {a b : Int} (h0 : -9223372036854775808 ≤ a * b) (h1 : a * b < 9223372036854775808) : wmul .i64 a b = a * b := wrap_i64 h0 h1
theorem wadd_u32 (a b : Int) : wadd .u32 a b = (a + b) % 4294967296 := wrap_u32 _
theorem bv_nat (b : BitVec 32) : BitVec.ofInt 32 (b.toNat : Int) = b := by
  rw [BitVec.ofInt_natCast, BitVec.ofNat_toNat]; simp
theorem wrap_bv (b : BitVec 32) : IntKind.wrap .u32 (b.toNat : Int) = (b.toNat : Int) := by
  rw [wrap_u32]; have := b.isLt; omega
theorem wxor_bv (a b : Int) : wxor .u32 a b = ((bv a ^^^ bv b).toNat : Int) := wrap_bv _
theorem wand_bv (a b : Int) : wand .u32 a b = ((bv a &&& bv b).toNat : Int) := wrap_bv _
theorem wor_bv (a b : Int) : wor .u32 a b = ((bv a ||| bv b).toNat : Int) := wrap_bv _
theorem wor_comm (a b : Int) : wor .u32 a b = wor .u32 b a := by rw [wor_bv, wor_bv, BitVec.or_comm]
def rot (x n : Int) : Int := wor .u32 (wshr .u32 x n) (wshl .u32 x (32 - n))
theorem turn_eq (x : Int) (n : Int) (h0 : 0 ≤ n) (h1 : n ≤ 32) : cauteryref02_turn.f x n = some (rot x n) := by
  have e : wsub .u64 32 n = 32 - n := by show IntKind.wrap .u64 (32 - n) = _; rw [wrap_u64]; omega
  simp only [cauteryref02_turn.f, e, Option.bind_some]
  rw [if_pos h0, if_pos (by omega)]
  rfl
theorem rotl_eq (x : Int) (n : Int) (h : n = 6 ∨ n = 11 ∨ n = 25 ∨ n = 2 ∨ n = 13 ∨ n = 22 ∨ n = 7 ∨ n = 18 ∨ n = 17 ∨ n = 19) : bits_RotateLeft32.f x (-n) = some (rot x n) := by
  rcases h with rfl | rfl | rfl | rfl | rfl | rfl | rfl | rfl | rfl | rfl <;>
  · unfold bits_RotateLeft32.f rot
    rw [wor_comm]
    rfl
theorem ch_eq (e f g : Int) : wxor .u32 g (wand .u32 e (wxor .u32 f g)) = wxor .u32 (wand .u32 e f) (wand .u32 (wxor .u32 e 4294967295) g) := by
  have h : bv 4294967295 = BitVec.allOnes 32 := by decide
  simp only [wxor_bv, wand_bv, h]
  simp only [bv, bv_nat]
  congr 2
  generalize BitVec.ofInt 32 e = e
  generalize BitVec.ofInt 32 f = f
  generalize BitVec.ofInt 32 g = g
  ext i hi
  have hb : (4294967295#32)[i] = true := (congrArg (fun (x : BitVec 32) => x[i]) (by decide : (4294967295#32) = BitVec.allOnes 32)).trans (by rw [BitVec.getElem_allOnes])
  simp [hb]
  cases e[i] <;> cases f[i] <;> cases g[i] <;> rfl
theorem maj_eq (a b c : Int) : wor .u32 (wand .u32 a b) (wand .u32 c (wor .u32 a b)) = wxor .u32 (wxor .u32 (wand .u32 a b) (wand .u32 a c)) (wand .u32 b c) := by
  simp only [wxor_bv, wand_bv, wor_bv, bv_nat, bv]
  congr 2
  generalize BitVec.ofInt 32 a = a
  generalize BitVec.ofInt 32 b = b
  generalize BitVec.ofInt 32 c = c
  ext i hi
  simp
  cases a[i] <;> cases b[i] <;> cases c[i] <;> rfl
/-! ### The schedule and the rounds -/
def s0 (x : Int) : Int := wxor .u32 (wxor .u32 (rot x 7) (rot x 18)) (wshr .u32 x 3)
def s1 (y : Int) : Int := wxor .u32 (wxor .u32 (rot y 17) (rot y 19)) (wshr .u32 y 10)
def wordOf (b : List Int) (t : Nat) : Int :=
  wor .u32 (wor .u32 (wor .u32 (wshl .u32 (IntKind.wrap .u32 (b.getD (4 * t) 0)) 24) (wshl .u32 (IntKind.wrap .u32 (b.getD (4 * t + 1) 0)) 16)) (wshl .u32 (IntKind.wrap .u32 (b.getD (4 * t + 2) 0)) 8)) (IntKind.wrap .u32 (b.getD (4 * t + 3) 0))
def Sw (b : List Int) (t : Nat) : Int :=
  if h : t < 16 then wordOf b t else wadd .u32 (wadd .u32 (wadd .u32 (s1 (Sw b (t - 2))) (Sw b (t - 7))) (s0 (Sw b (t - 15)))) (Sw b (t - 16))
termination_by t
def Round (v : Vector Int 8) (k w : Int) : Vector Int 8 :=
  let t1 := wadd .u32 (wadd .u32 (wadd .u32 (wadd .u32 (vget v 7) (wxor .u32 (wxor .u32 (rot (vget v 4) 6) (rot (vget v 4) 11)) (rot (vget v 4) 25))) (wxor .u32 (wand .u32 (vget v 4) (vget v 5)) (wand .u32 (wxor .u32 (vget v 4) 4294967295) (vget v 6)))) k) w
  let t2 := wadd .u32 (wxor .u32 (wxor .u32 (rot (vget v 0) 2) (rot (vget v 0) 13)) (rot (vget v 0) 22)) (wxor .u32 (wxor .u32 (wand .u32 (vget v 0) (vget v 1)) (wand .u32 (vget v 0) (vget v 2))) (wand .u32 (vget v 1) (vget v 2)))
  #v[wadd .u32 t1 t2, vget v 0, vget v 1, vget v 2, wadd .u32 (vget v 3) t1, vget v 4, vget v 5, vget v 6]
def rounds (v : Vector Int 8) (kk ww : Nat → Int) : Nat → Vector Int 8
  | 0 => v
  | t + 1 => Round (rounds v kk ww t) (kk t) (ww t)
def KK : List Int := [1116352408, 1899447441, 3049323471, 3921009573, 961987163, 1508970993, 2453635748, 2870763221, 3624381080, 310598401, 607225278, 1426881987, 1925078388, 2162078206, 2614888103, 3248222580, 3835390401, 4022224774, 264347078, 604807628, 770255983, 1249150122, 1555081692, 1996064986, 2554220882, 2821834349, 2952996808, 3210313671, 3336571891, 3584528711, 113926993, 338241895, 666307205, 773529912, 1294757372, 1396182291, 1695183700, 1986661051, 2177026350, 2456956037, 2730485921, 2820302411, 3259730800, 3345764771, 3516065817, 3600352804, 4094571909, 275423344, 430227734, 506948616, 659060556, 883997877, 958139571, 1322822218, 1537002063, 1747873779, 1955562222, 2024104815, 2227730452, 2361852424, 2428436474, 2756734187, 3204031479, 3329325298]
def blk (v : Vector Int 8) (b : List Int) : Vector Int 8 :=
  Vector.ofFn fun i => wadd .u32 (rounds v (fun t => KK.getD t 0) (Sw b) 64)[i] v[i]
theorem steps1 : cauteryref02_steps.f = some KK := rfl
theorem steps2 : ∃ a, sha_steps.f = some a ∧ a.toList = KK := ⟨_, rfl, rfl⟩
theorem Sw_small {b : List Int} {t : Nat} (h : t < 16) : Sw b t = wordOf b t := by rw [Sw, dif_pos h]
theorem Sw_big {b : List Int} {t : Nat} (h : ¬ t < 16) : Sw b t = wadd .u32 (wadd .u32 (wadd .u32 (s1 (Sw b (t - 2))) (Sw b (t - 7))) (s0 (Sw b (t - 15)))) (Sw b (t - 16)) := by rw [Sw, dif_neg h]
theorem lset_nat (l : List Int) (t : Nat) (x : Int) : lset l (t : Int) x = l.set t x := by simp [lset]
theorem lget_nat (l : List Int) (t : Nat) : lget l (t : Int) = l.getD t 0 := by simp [lget]
/-- The reference's schedule. -/
theorem sched (b : List Int) (hb : b.length = 64) : ∀ (n t f : Nat) (l : List Int), t + n = 64 → n < f → l.length = 64 → (∀ s, s < t → l.getD s 0 = Sw b s) →
    ∃ l', cauteryref02_block.l2 b f (t : Int) l = some l' ∧ l'.length = 64 ∧ ∀ s, s < 64 → l'.getD s 0 = Sw b s := by
  intro n
  induction n with
  | zero =>
    intro t f l h1 h2 h3 h4
    obtain ⟨f, rfl⟩ := Nat.exists_eq_add_of_lt h2
    rw [Nat.zero_add, cauteryref02_block.l2]
    have : decide ((t : Int) < 64) = false := by simp; omega
    rw [this]
    exact ⟨l, rfl, h3, fun s hs => h4 s (by omega)⟩
  | succ n ih =>
    intro t f l h1 h2 h3 h4
    obtain ⟨f, rfl⟩ : ∃ f', f = f' + 1 := ⟨f - 1, by omega⟩
    rw [cauteryref02_block.l2]
    have e1 : decide ((t : Int) < 64) = true := by simp; omega
    rw [e1, cond_true]
    have step : ∀ x : Int, x = Sw b t → ∃ l', cauteryref02_block.l2 b f (wadd .i64 (t : Int) 1) (lset l (t : Int) x) = some l' ∧ l'.length = 64 ∧ ∀ s, s < 64 → l'.getD s 0 = Sw b s := by
      intro x hx
      rw [wadd_i64 (by omega) (by omega), lset_nat]
      refine ih (t + 1) f (l.set t x) (by omega) (by omega) (by simpa using h3) ?_
      intro s hs
      rw [List.getD_eq_getElem?_getD, List.getElem?_set]
      by_cases hst : t = s
      · subst hst; rw [if_pos rfl, if_pos (by omega)]; exact hx
      · rw [if_neg hst, ← List.getD_eq_getElem?_getD]; exact h4 s (by omega)
    by_cases h16 : t < 16
    · have e2 : decide ((t : Int) < 16) = true := by simp; omega
      rw [e2, cond_true]
      simp only [Option.bind_some]
      have m4 : wmul .i64 4 (t : Int) = ((4 * t : Nat) : Int) := by rw [wmul_i64 (by omega) (by omega)]; simp
      have m1 : wadd .i64 ((4 * t : Nat) : Int) 1 = ((4 * t + 1 : Nat) : Int) := by rw [wadd_i64 (by omega) (by omega)]; simp
      have m2 : wadd .i64 ((4 * t : Nat) : Int) 2 = ((4 * t + 2 : Nat) : Int) := by rw [wadd_i64 (by omega) (by omega)]; simp
      have m3 : wadd .i64 ((4 * t : Nat) : Int) 3 = ((4 * t + 3 : Nat) : Int) := by rw [wadd_i64 (by omega) (by omega)]; simp
      rw [m4, m1, m2, m3, if_pos (by omega), if_pos (by omega), if_pos (by omega), if_pos (by omega), if_pos (by omega)]
      simp only [lget_nat]
      exact step _ (by rw [Sw_small h16]; rfl)
    · have e2 : decide ((t : Int) < 16) = false := by simp; omega
      rw [e2, cond_false]
      simp only [Option.bind_some]
      have q15 : wsub .i64 (t : Int) 15 = ((t - 15 : Nat) : Int) := by rw [wsub_i64 (by omega) (by omega)]; omega
      have q2 : wsub .i64 (t : Int) 2 = ((t - 2 : Nat) : Int) := by rw [wsub_i64 (by omega) (by omega)]; omega
      have q16 : wsub .i64 (t : Int) 16 = ((t - 16 : Nat) : Int) := by rw [wsub_i64 (by omega) (by omega)]; omega
      have q7 : wsub .i64 (t : Int) 7 = ((t - 7 : Nat) : Int) := by rw [wsub_i64 (by omega) (by omega)]; omega
      simp only [q15, q2, q16, q7, lget_nat, turn_eq _ 17 (by omega) (by omega), turn_eq _ 19 (by omega) (by omega), turn_eq _ 7 (by omega) (by omega), turn_eq _ 18 (by omega) (by omega), Option.bind_some]
      repeat rw [if_pos (by omega)]
      refine step _ ?_
      rw [Sw_big h16, ← h4 (t - 2) (by omega), ← h4 (t - 7) (by omega), ← h4 (t - 15) (by omega), ← h4 (t - 16) (by omega)]
      rfl
end Go.Proofs.Ythbcjjhlebhghaa.Walk
