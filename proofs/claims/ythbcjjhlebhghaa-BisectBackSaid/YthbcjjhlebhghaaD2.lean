/- Plain laws over the models of the functions. -/
import Derived.Test.YthbcjjhlebhghaaD1
namespace Go.Proofs.Ythbcjjhlebhghaa.Walk
open Go
theorem vget_nat {n : Nat} (v : Vector Int n) (i : Nat) (h : i < n) : vget v (i : Int) = v[i] := by
  simp [vget, List.getD_eq_getElem?_getD, List.getElem?_eq_getElem (show i < v.toList.length by simpa using h)]
theorem vget_vset_same {n : Nat} (v : Vector Int n) (i : Nat) (h : i < n) (x : Int) : vget (vset v (i : Int) x) (i : Int) = x := by
  rw [vget_nat _ _ h]; simp [vset]
theorem vget_vset_ne {n : Nat} (v : Vector Int n) (i j : Nat) (h : j < n) (hij : i ≠ j) (x : Int) : vget (vset v (i : Int) x) (j : Int) = vget v (j : Int) := by
  rw [vget_nat _ _ h, vget_nat _ _ h]; simp [vset, hij]
theorem vset_vset {n : Nat} (v : Vector Int n) (i : Nat) (x y : Int) : vset (vset v (i : Int) x) (i : Int) y = vset v (i : Int) y := by
  simp [vset]
theorem vec_ext {n : Nat} {v w : Vector Int n} (h : ∀ i, i < n → vget v (i : Int) = vget w (i : Int)) : v = w := by
  apply Vector.ext
  intro i hi
  have := h i hi
  rwa [vget_nat _ _ hi, vget_nat _ _ hi] at this
theorem ref_rounds (k w l1 : List Int) (v : Vector Int 8) (hk : k.length = 64) (hw : w.length = 64) : ∀ (n t f : Nat), t + n = 64 → n < f →
    cauteryref02_block.l1 k l1 w f (t : Int) (rounds v (fun t => k.getD t 0) (fun t => w.getD t 0) t) = some (rounds v (fun t => k.getD t 0) (fun t => w.getD t 0) 64) := by
  intro n
  induction n with
  | zero =>
    intro t f h1 h2
    obtain ⟨f, rfl⟩ := Nat.exists_eq_add_of_lt h2
    rw [Nat.zero_add, cauteryref02_block.l1]
    obtain rfl : t = 64 := by omega
    rfl
  | succ n ih =>
    intro t f h1 h2
    obtain ⟨f, rfl⟩ : ∃ f', f = f' + 1 := ⟨f - 1, by omega⟩
    rw [cauteryref02_block.l1]
    have e1 : decide ((t : Int) < 64) = true := by simp; omega
    rw [e1, cond_true]
    simp only [Option.bind_some, lget_nat, turn_eq _ 6 (by omega) (by omega), turn_eq _ 11 (by omega) (by omega), turn_eq _ 25 (by omega) (by omega), turn_eq _ 2 (by omega) (by omega), turn_eq _ 13 (by omega) (by omega), turn_eq _ 22 (by omega) (by omega)]
    rw [if_pos (by omega), if_pos (by omega), wadd_i64 (by omega) (by omega)]
    exact ih (t + 1) f (by omega) (by omega)
theorem vget_blk (v : Vector Int 8) (b : List Int) (i : Nat) (hi : i < 8) : vget (blk v b) (i : Int) = wadd .u32 (vget (rounds v (fun t => KK.getD t 0) (Sw b) 64) (i : Int)) (vget v (i : Int)) := by
  rw [vget_nat _ _ hi, vget_nat _ _ hi, vget_nat _ _ hi]; simp [blk]
theorem ref_add (v : Vector Int 8) : ∀ (n t f : Nat) (a : Vector Int 8), t + n = 8 → n < f → ∃ a', cauteryref02_block.l0 v f (t : Int) a = some a' ∧ ∀ i : Nat, i < 8 → vget a' (i : Int) = if i < t then vget a (i : Int) else wadd .u32 (vget a (i : Int)) (vget v (i : Int)) := by
  intro n
  induction n with
  | zero =>
    intro t f a h1 h2
    obtain ⟨f, rfl⟩ := Nat.exists_eq_add_of_lt h2
    rw [Nat.zero_add, cauteryref02_block.l0]
    obtain rfl : t = 8 := by omega
    exact ⟨a, rfl, fun i hi => by rw [if_pos hi]⟩
  | succ n ih =>
    intro t f a h1 h2
    obtain ⟨f, rfl⟩ : ∃ f', f = f' + 1 := ⟨f - 1, by omega⟩
    rw [cauteryref02_block.l0]
    have e1 : decide ((t : Int) < 8) = true := by simp; omega
    rw [e1, cond_true, if_pos (by omega)]
    simp only [Option.bind_some]
    rw [wadd_i64 (by omega) (by omega)]
    obtain ⟨a', h3, h4⟩ := ih (t + 1) f (vset a (t : Int) (wadd .u32 (vget a (t : Int)) (vget v (t : Int)))) (by omega) (by omega)
    refine ⟨a', h3, fun i hi => ?_⟩
    rw [h4 i hi]
    by_cases hit : i = t
    · subst hit; rw [if_pos (by omega), if_neg (by omega), vget_vset_same _ _ hi]
    · rw [vget_vset_ne _ _ _ hi (by omega)]
      by_cases h : i < t
      · rw [if_pos (by omega), if_pos h]
      · rw [if_neg (by omega), if_neg h]
theorem block_eq (b : List Int) (hb : b.length = 64) (v : Vector Int 8) (f : Nat) (hf : 70 ≤ f) : cauteryref02_block.f f v b KK = some (blk v b) := by
  unfold cauteryref02_block.f
  rw [if_pos (by omega)]
  obtain ⟨l', h1, h2, h3⟩ := sched b hb 64 0 f (List.replicate (Int.toNat 64) (0 : Int)) rfl (by omega) rfl (fun s hs => by omega)
  simp only [Option.bind_some]
  rw [show ((0 : Nat) : Int) = 0 from rfl] at h1
  rw [h1]
  simp only [Option.bind_some]
  have h4 := ref_rounds KK l' (List.replicate (Int.toNat 64) (0 : Int)) v rfl h2 64 0 f rfl (by omega)
  rw [show ((0 : Nat) : Int) = 0 from rfl] at h4
  rw [show rounds v (fun t => KK.getD t 0) (fun t => l'.getD t 0) 0 = v from rfl] at h4
  rw [h4]
  simp only [Option.bind_some]
  have h5 : rounds v (fun t => KK.getD t 0) (fun t => l'.getD t 0) 64 = rounds v (fun t => KK.getD t 0) (Sw b) 64 := by
    have : ∀ t, t ≤ 64 → rounds v (fun t => KK.getD t 0) (fun t => l'.getD t 0) t = rounds v (fun t => KK.getD t 0) (Sw b) t := by
      intro t
      induction t with
      | zero => intro _; rfl
      | succ t ih => intro ht; show Round _ _ _ = Round _ _ _; rw [ih (by omega)]; exact congrArg _ (h3 t (by omega))
    exact this 64 (Nat.le_refl _)
  rw [h5]
  obtain ⟨a', h6, h7⟩ := ref_add v 8 0 f (rounds v (fun t => KK.getD t 0) (Sw b) 64) rfl (by omega)
  rw [show ((0 : Nat) : Int) = 0 from rfl] at h6
  rw [h6]
  simp only [Option.bind_some, Option.some.injEq]
  apply vec_ext
  intro i hi
  rw [h7 i hi, if_neg (by omega), vget_blk v b i hi]
end Go.Proofs.Ythbcjjhlebhghaa.Walk
