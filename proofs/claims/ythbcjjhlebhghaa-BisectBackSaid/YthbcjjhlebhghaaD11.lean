/- Plain laws over the models of the functions. -/
import Derived.Test.YthbcjjhlebhghaaD10
namespace Go.Proofs.Ythbcjjhlebhghaa.Walk
open Go
theorem byt_vec0 : Byt (Vector.replicate 32 (0 : Int)).toList := by intro x hx; simp at hx; omega
theorem enc_byt {k : Nat} {a : Int} {b c : ByteArray} {d e : Int} {f : Vector Int 32} {g : List Int} (h : Small k b c f g) : Byt (encS k a b c d e f g).1 ∧ (encS k a b c d e f g).1.length ≤ 700 := by
  unfold encS
  split
  · have hlen := ahead_len a b c d e f g
    have q1 := h.hb; have q2 := h.hc; have q3 := h.hg; have hk := h.hk
    have p1 := put_len1 (n := b.size) (by omega); have p2 := put_len1 (n := c.size) (by omega); have p3 := put_len2 (n := g.length) (by omega)
    have hB := ahead_byt a b c d e h.hf h.byt
    obtain ⟨_, _, s3⟩ := sh_eq (aheadS a b c d e f g) hB k (by omega) (by omega)
    refine ⟨hB.append (s3.take 4), ?_⟩
    simp only [List.length_append, List.length_take]
    omega
  · exact ⟨byt_nil, Nat.zero_le _⟩
theorem alive_eq (k : Nat) (hk : 5000 ≤ k) : cauterylaw21_alive.f k = some true := by
  have hm : mayS k 1 ⟨#[97]⟩ ⟨#[115]⟩ 0 16 (Vector.replicate 32 0) [] = true := by
    unfold mayS
    rw [if_pos rfl]
    decide
  have hs : Small k (⟨#[97]⟩ : ByteArray) (⟨#[115]⟩ : ByteArray) (Vector.replicate 32 (0 : Int)) [] := ⟨hk, by decide, by decide, by decide, byt_vec0, byt_nil⟩
  have hd := decode_encode hm
  obtain ⟨hb1, hb2⟩ := enc_byt (a := 1) (d := 0) (e := 16) hs
  have hE : encS k 1 ⟨#[97]⟩ ⟨#[115]⟩ 0 16 (Vector.replicate 32 0) [] = (aheadS 1 ⟨#[97]⟩ ⟨#[115]⟩ 0 16 (Vector.replicate 32 0) [] ++ (sh k (aheadS 1 ⟨#[97]⟩ ⟨#[115]⟩ 0 16 (Vector.replicate 32 0) [])).toList.take 4, 0) := by
    unfold encS; rw [if_pos hm]
  unfold cauterylaw21_alive.f
  rw [obind, enc1 hs, obind]
  rw [hE] at hb1 hb2 ⊢
  simp only at hb1 hb2 ⊢
  have hlen : (aheadS 1 ⟨#[97]⟩ ⟨#[115]⟩ 0 16 (Vector.replicate 32 0) [] ++ (sh k (aheadS 1 ⟨#[97]⟩ ⟨#[115]⟩ 0 16 (Vector.replicate 32 0) [])).toList.take 4).length = 44 := by
    rw [List.length_append, ahead_len, put_small (by decide), put_small (by decide), put_small (by decide), List.length_take, Vector.length_toList]
    decide
  rw [dec1 k hk _ hb1 (by omega), obind, hd]
  unfold withE
  simp only
  rw [dec1 k hk [] byt_nil (by decide), obind]
  have h0 : decS k [] = zeroE 14 := rfl
  rw [h0]
  unfold zeroE
  simp only
  rw [show ((0 : Int) == 0) = true from rfl, cond_true, hlen, show (((44 : Nat) : Int) == 44) = true from rfl, cond_true, cond_true, show ((16 : Int) == 16) = true from rfl, cond_true]
  rw [toList_eq, decide_eq_true rfl, cond_true, show ((14 : Int) == 14) = true from rfl, cond_true]
  rw [may1 k 0 ⟨#[]⟩ ⟨#[]⟩ 0 0 (Vector.replicate 32 0) [] (by show 0 < k; omega) (by show 0 < k; omega) (by show 0 + 300 ≤ k; omega) (by decide) byt_nil, obind]
  rfl
theorem small_eq (a : Int) (b c : ByteArray) (d e : Int) (f : Vector Int 32) (g : List Int) : cauterylaw21_small.f a b c d e f g = some (decide (b.size ≤ 20 ∧ c.size ≤ 20 ∧ g.length ≤ 300)) := by
  unfold cauterylaw21_small.f
  by_cases h1 : b.size ≤ 20
  · rw [decide_eq_true (show (b.size : Int) ≤ 20 by omega), cond_true]
    by_cases h2 : c.size ≤ 20
    · rw [decide_eq_true (show (c.size : Int) ≤ 20 by omega), cond_true]
      by_cases h3 : g.length ≤ 300
      · rw [decide_eq_true (show (g.length : Int) ≤ 300 by omega), decide_eq_true ⟨h1, h2, h3⟩]
      · rw [decide_eq_false (show ¬ (g.length : Int) ≤ 300 by omega), decide_eq_false (fun h => h3 h.2.2)]
    · rw [decide_eq_false (show ¬ (c.size : Int) ≤ 20 by omega), cond_false, decide_eq_false (fun h => h2 h.2.1)]
  · rw [decide_eq_false (show ¬ (b.size : Int) ≤ 20 by omega), cond_false, decide_eq_false (fun h => h1 h.1)]
theorem bisectEncode_true (k : Nat) (hk : 5000 ≤ k) (a : Int) (b c : ByteArray) (d e : Int) (f : Vector Int 32) (g : List Int) (hf : Byt f.toList) (hg : Byt g) : cauterylaw21_BisectEncode.f k a b c d e f g = some true := by
  unfold cauterylaw21_BisectEncode.f
  rw [small_eq, obind]
  by_cases h : b.size ≤ 20 ∧ c.size ≤ 20 ∧ g.length ≤ 300
  · have hs : Small k b c f g := ⟨hk, h.1, h.2.1, h.2.2, hf, hg⟩
    rw [decide_eq_true h, Bool.not_true, cond_false, enc1 hs, obind]
    rcases hE : encS k a b c d e f g with ⟨l, x⟩
    simp only
    unfold cauterylaw21_plain.f
    rw [obind]
    simp only
    rw [enc2 hs, obind, hE]
    simp only
    rw [alive_eq k hk, obind, cond_true, obind, obind, toList_eq, decide_eq_true rfl, cond_true, show (x == x) = true by simp, cond_true]
    rw [may1 k a b c d e f g (by omega) (by omega) (by omega) (by omega) hg, obind, obind]
    simp only
    rw [may2 k a b c d e f g (by omega) (by omega) (by omega) (by omega) (by omega) (by omega) hg, obind]
    simp
  · rw [decide_eq_false h, Bool.not_false, cond_true, alive_eq k hk, obind]
theorem fill_loop : ∀ (m t f : Nat) (l : List Int), t + m = l.length → m < f → l.length < 1000000000000 → ∃ l', cauterylaw21_BisectDecode.l0 f (t : Int) l = some l' := by
  intro m
  induction m with
  | zero =>
    intro t f l h1 h2 h3
    obtain ⟨f, rfl⟩ := Nat.exists_eq_add_of_lt h2
    rw [Nat.zero_add, cauterylaw21_BisectDecode.l0, decide_eq_false (by omega), cond_false]
    exact ⟨_, rfl⟩
  | succ m ih =>
    intro t f l h1 h2 h3
    obtain ⟨f, rfl⟩ : ∃ f', f = f' + 1 := ⟨f - 1, by omega⟩
    rw [cauterylaw21_BisectDecode.l0, decide_eq_true (by omega), cond_true, if_pos (by omega), obind, obind, wadd_i64 (by omega) (by omega)]
    exact ih (t + 1) f _ (by simp [lset]; omega) (by omega) (by simp [lset]; omega)
theorem dec_len (k : Nat) (p : List Int) (hB : Byt p) : (decS k p).2.2.2.2.2.2.1.length ≤ 256 := by
  unfold decS
  split
  · exact Nat.zero_le _
  · split
    · exact Nat.zero_le _
    · split
      · cases hp : parseS k (p.take (p.length - 4)) with
        | none => exact Nat.zero_le _
        | some m =>
          obtain ⟨a, b, c, d, e, f, g⟩ := m
          obtain ⟨m1, _⟩ := parse_inv (hB.take _) hp
          exact (may_fine m1).hg
      · exact Nat.zero_le _
theorem bisectDecode_true (k : Nat) (hk : 5000 ≤ k) (p : List Int) (hB : Byt p) : cauterylaw21_BisectDecode.f k p = some true := by
  unfold cauterylaw21_BisectDecode.f
  by_cases h7 : p.length ≤ 700
  · rw [decide_eq_false (show ¬ (p.length : Int) > 700 by omega), cond_false, obind, List.nil_append, if_pos (by omega), dec1 k hk p hB (by omega), obind]
    have hl := dec_len k p hB
    rcases hD : decS k p with ⟨a, b, c, d, e, f, g, x⟩
    rw [hD] at hl
    simp only at hl ⊢
    rw [dec2 k hk p hB (by omega), obind, hD]
    simp only
    unfold cauterylaw21_plain.f
    rw [obind]
    simp only
    rw [same_self, obind, cond_true, show (x == x) = true by simp, obind]
    obtain ⟨l', hl'⟩ := fill_loop g.length 0 k g (by omega) (by omega) (by omega)
    rw [show ((0 : Nat) : Int) = 0 from rfl] at hl'
    rw [hl', obind]
    rw [alive_eq k hk, obind, cond_true, cond_true, obind, obind, toList_eq, decide_eq_true rfl]
  · rw [decide_eq_true (show (p.length : Int) > 700 by omega), cond_true, alive_eq k hk, obind]
theorem bisectBack_true (k : Nat) (hk : 5000 ≤ k) (a : Int) (b c : ByteArray) (d e : Int) (f : Vector Int 32) (g : List Int) (hf : Byt f.toList) (hg : Byt g) (p : List Int) (hB : Byt p) : cauterylaw21_BisectBack.f k a b c d e f g p = some true := by
  unfold cauterylaw21_BisectBack.f
  rw [small_eq, obind]
  by_cases h : b.size ≤ 20 ∧ c.size ≤ 20 ∧ g.length ≤ 300
  · have hs : Small k b c f g := ⟨hk, h.1, h.2.1, h.2.2, hf, hg⟩
    rw [decide_eq_true h, Bool.not_true, cond_false]
    by_cases h6 : p.length ≤ 600
    · rw [decide_eq_false (show ¬ (p.length : Int) > 600 by omega), cond_false, obind]
      simp only
      rw [enc1 hs, obind]
      obtain ⟨e1, e2⟩ := enc_byt (a := a) (d := d) (e := e) hs
      have hm1 := may1 k a b c d e f g (by omega) (by omega) (by omega) (by omega) hg
      -- the second half
      have second : ∀ r : Option Bool, r = ((bisect_Decode.f k p).bind fun rr => match rr with | (x6, s7, s8, x7, x8, a2, l3, x9) => cond (x9 != (0 : Int)) ((cauterylaw21_alive.f k ).bind fun y1 => some y1) ((bisect_Encode.f k x6 s7 s8 x7 x8 a2 l3).bind fun rr => match rr with | (l4, x10) => (cauterylaw21_alive.f k ).bind fun y2 => cond y2 (cond (x10 == (0 : Int)) ((some (strOf l4)).bind fun s12 => (some (strOf p)).bind fun s13 => some (s12.toList == s13.toList)) (some false)) (some false))) → r = some true := by
        intro r hr
        subst hr
        rw [dec1 k hk p hB (by omega), obind]
        rcases hD : decS k p with ⟨a', b', c', d', e', f', g', x⟩
        simp only
        by_cases hx : x = 0
        · subst hx
          obtain ⟨hs', hE'⟩ := encode_decode hk hB hD
          rw [show ((0 : Int) != 0) = false from rfl, cond_false, enc1 hs', obind, hE']
          simp only
          rw [alive_eq k hk, obind, cond_true, show ((0 : Int) == 0) = true from rfl, cond_true, obind, obind, toList_eq, decide_eq_true rfl]
        · rw [bne_iff_ne.2 hx, cond_true, alive_eq k hk, obind]
      cases hm : mayS k a b c d e f g with
      | true =>
        have hE : encS k a b c d e f g = (aheadS a b c d e f g ++ (sh k (aheadS a b c d e f g)).toList.take 4, 0) := by unfold encS; rw [if_pos hm]
        rw [hE] at e1 e2 ⊢
        simp only at e1 e2 ⊢
        rw [dec1 k hk _ e1 (by omega), obind, decode_encode hm]
        unfold withE
        simp only
        rw [hm1, obind, hm, show (true != ((0 : Int) == 0)) = false from rfl, cond_false, show ((0 : Int) == 0) = true from rfl, cond_true, show ((0 : Int) != 0) = false from rfl, cond_false]
        unfold cauterylaw21_plain.f
        rw [obind]
        simp only
        rw [obind]
        simp only
        rw [same_self, obind, Bool.not_true, cond_false, obind]
        simp only
        exact second _ rfl
      | false =>
        have hE : encS k a b c d e f g = ([], 1) := by unfold encS; rw [if_neg (by rw [hm]; exact Bool.false_ne_true)]
        rw [hE]
        simp only
        rw [dec1 k hk [] byt_nil (by decide), obind]
        have h0 : decS k [] = zeroE 14 := rfl
        rw [h0]
        unfold zeroE
        simp only
        rw [hm1, obind, hm, show (false != ((1 : Int) == 0)) = false from rfl, cond_false, show ((1 : Int) == 0) = false from rfl, cond_false, obind]
        simp only
        exact second _ rfl
    · rw [decide_eq_true (show (p.length : Int) > 600 by omega), cond_true, alive_eq k hk, obind, obind]
  · rw [decide_eq_false h, Bool.not_false, cond_true, alive_eq k hk, obind, obind]
end Go.Proofs.Ythbcjjhlebhghaa.Walk
