/- Plain laws over the models of the functions. -/
import Derived.Test.YthbcjjhlebhghaaD7
namespace Go.Proofs.Ythbcjjhlebhghaa.Walk
open Go
theorem obind {α β : Type} (a : α) (f : α → Option β) : (some a).bind f = f a := by simp
def sh (k : Nat) (p : List Int) : Vector Int 32 := (sha_Sum.f k p).getD (Vector.replicate 32 0)
theorem sh_eq (p : List Int) (hB : Byt p) (k : Nat) (hk : p.length + 300 ≤ k) (hp : p.length ≤ 1000000000000) : sha_Sum.f k p = some (sh k p) ∧ cauteryref02_Sum.f k p = some (sh k p) ∧ Byt (sh k p).toList := by
  obtain ⟨a, h1, h2, h3⟩ := sha_same p hB k hk hp
  have : sh k p = a := by unfold sh; rw [h1]; rfl
  rw [this]; exact ⟨h1, h2, h3⟩
abbrev Msg := Int × ByteArray × ByteArray × Int × Int × Vector Int 32 × List Int
def mayS (k : Nat) (a : Int) (b c : ByteArray) (d e : Int) (f : Vector Int 32) (g : List Int) : Bool :=
  nameB b && (nameB c && (decide (0 ≤ d ∧ d < e ∧ e ≤ 16) && (if a = 1 then decide (g.length = 0) else if a = 2 then decide (e = d + 1) && (decide (g.length = 256) && decide (sh k g = f)) else false)))
theorem vec_beq {n : Nat} (a b : Vector Int n) : (a.toList == b.toList) = decide (a = b) := by
  by_cases h : a = b
  · subst h; simp
  · have : a.toList ≠ b.toList := fun e => h (Vector.toList_inj.1 e)
    rw [decide_eq_false h]; exact beq_eq_false_iff_ne.2 this
theorem may1 (k : Nat) (a : Int) (b c : ByteArray) (d e : Int) (f : Vector Int 32) (g : List Int) (hb : b.size < k) (hc : c.size < k) (hg : g.length + 300 ≤ k) (hg2 : g.length ≤ 1000000000000) (hB : Byt g) :
    bisect_May.f k a b c d e f g = some (mayS k a b c d e f g) := by
  unfold bisect_May.f mayS
  rw [name_eq b k hb, name_eq c k hc]
  obtain ⟨s1, s2, s3⟩ := sh_eq g hB k hg hg2
  cases hn1 : nameB b with
  | false => rfl
  | true =>
    cases hn2 : nameB c with
    | false => rfl
    | true =>
      simp only [Option.bind_some, Bool.not_true, cond_false, Bool.true_and]
      by_cases h1 : d < 0
      · rw [decide_eq_true h1, cond_true, decide_eq_false (show ¬ (0 ≤ d ∧ d < e ∧ e ≤ 16) by omega)]; rfl
      · rw [decide_eq_false h1, cond_false]
        by_cases h2 : d ≥ e
        · rw [decide_eq_true h2, cond_true, decide_eq_false (show ¬ (0 ≤ d ∧ d < e ∧ e ≤ 16) by omega)]; rfl
        · rw [decide_eq_false h2, cond_false]
          by_cases h3 : e > 16
          · rw [decide_eq_true h3, cond_true, decide_eq_false (show ¬ (0 ≤ d ∧ d < e ∧ e ≤ 16) by omega)]; rfl
          · rw [decide_eq_false h3, cond_false, decide_eq_true (show (0 ≤ d ∧ d < e ∧ e ≤ 16) by omega)]
            simp only [Option.bind_some, Bool.true_and]
            by_cases h4 : a = 1
            · subst h4
              rw [if_pos rfl, show ((1 : Int) == 1) = true from rfl, cond_true]
              congr 1
              by_cases h5 : g.length = 0
              · rw [decide_eq_true h5, h5]; rfl
              · rw [decide_eq_false h5]; exact beq_eq_false_iff_ne.2 (by omega)
            · rw [if_neg h4, beq_eq_false_iff_ne.2 h4, cond_false]
              by_cases h6 : a = 2
              · subst h6
                rw [if_pos rfl, show ((2 : Int) == 2) = true from rfl, cond_true, wsub_i64 (by omega) (by omega)]
                by_cases h7 : e = d + 1
                · rw [decide_eq_true h7, show (e - d == 1) = true by rw [beq_iff_eq]; omega, cond_true]
                  by_cases h8 : g.length = 256
                  · rw [decide_eq_true h8, show ((g.length : Int) == 256) = true by rw [h8]; rfl, cond_true, s1]
                    simp only [Option.bind_some, vec_beq, Bool.true_and]
                  · rw [decide_eq_false h8, show ((g.length : Int) == 256) = false by rw [beq_eq_false_iff_ne]; omega]; rfl
                · rw [decide_eq_false h7, show (e - d == 1) = false by rw [beq_eq_false_iff_ne]; omega]; rfl
              · rw [if_neg h6, beq_eq_false_iff_ne.2 h6]; rfl
theorem may2 (k : Nat) (a : Int) (b c : ByteArray) (d e : Int) (f : Vector Int 32) (g : List Int) (hb : b.size < k) (hc : c.size < k) (hb2 : b.size < 1000000000000) (hc2 : c.size < 1000000000000) (hg : g.length + 300 ≤ k) (hg2 : g.length ≤ 1000000000000) (hB : Byt g) :
    cauteryref21_May.f k a b c d e f g = some (mayS k a b c d e f g) := by
  unfold cauteryref21_May.f mayS
  rw [refname_eq b k hb (by omega), refname_eq c k hc (by omega)]
  obtain ⟨s1, s2, s3⟩ := sh_eq g hB k hg hg2
  cases hn1 : nameB b with
  | false => rfl
  | true =>
    cases hn2 : nameB c with
    | false => rfl
    | true =>
      simp only [Option.bind_some, Bool.not_true, cond_false, Bool.true_and]
      by_cases h1 : d < 0
      · rw [decide_eq_true h1, cond_true, decide_eq_false (show ¬ (0 ≤ d ∧ d < e ∧ e ≤ 16) by omega)]; rfl
      · rw [decide_eq_false h1, cond_false]
        by_cases h2 : d ≥ e
        · rw [decide_eq_true h2, cond_true, decide_eq_false (show ¬ (0 ≤ d ∧ d < e ∧ e ≤ 16) by omega)]; rfl
        · rw [decide_eq_false h2, cond_false]
          by_cases h3 : e > 16
          · rw [decide_eq_true h3, cond_true, decide_eq_false (show ¬ (0 ≤ d ∧ d < e ∧ e ≤ 16) by omega)]; rfl
          · rw [decide_eq_false h3, cond_false, decide_eq_true (show (0 ≤ d ∧ d < e ∧ e ≤ 16) by omega)]
            simp only [Option.bind_some, Bool.true_and]
            by_cases h4 : a = 1
            · subst h4
              rw [if_pos rfl, show ((1 : Int) == 1) = true from rfl, cond_true]
              congr 1
              by_cases h5 : g.length = 0
              · rw [decide_eq_true h5, h5]; rfl
              · rw [decide_eq_false h5]; exact beq_eq_false_iff_ne.2 (by omega)
            · rw [if_neg h4, beq_eq_false_iff_ne.2 h4, cond_false]
              by_cases h6 : a = 2
              · subst h6
                rw [if_pos rfl, show ((2 : Int) == 2) = true from rfl, cond_true, wadd_i64 (by omega) (by omega)]
                by_cases h7 : e = d + 1
                · rw [decide_eq_true h7, show (e == d + 1) = true by rw [beq_iff_eq]; omega, cond_true]
                  by_cases h8 : g.length = 256
                  · rw [decide_eq_true h8, show ((g.length : Int) == 256) = true by rw [h8]; rfl, cond_true, s2]
                    simp only [Option.bind_some, vec_beq, Bool.true_and]
                  · rw [decide_eq_false h8, show ((g.length : Int) == 256) = false by rw [beq_eq_false_iff_ne]; omega]; rfl
                · rw [decide_eq_false h7, show (e == d + 1) = false by rw [beq_eq_false_iff_ne]; omega]; rfl
              · rw [if_neg h6, beq_eq_false_iff_ne.2 h6]; rfl
/-! ### Encoding -/
def aheadS (a : Int) (b c : ByteArray) (d e : Int) (f : Vector Int 32) (g : List Int) : List Int :=
  (((([IntKind.wrap .u8 a] ++ (put b.size ++ bytesOf b)) ++ (put c.size ++ bytesOf c)) ++ [IntKind.wrap .u8 d, IntKind.wrap .u8 e]) ++ f.toList) ++ (put g.length ++ g)
def encS (k : Nat) (a : Int) (b c : ByteArray) (d e : Int) (f : Vector Int 32) (g : List Int) : List Int × Int :=
  if mayS k a b c d e f g = true then (aheadS a b c d e f g ++ (sh k (aheadS a b c d e f g)).toList.take 4, 0) else ([], 1)
structure Small (k : Nat) (b c : ByteArray) (f : Vector Int 32) (g : List Int) : Prop where
  hk : 5000 ≤ k
  hb : b.size ≤ 20
  hc : c.size ≤ 20
  hg : g.length ≤ 300
  hf : Byt f.toList
  byt : Byt g
theorem ahead_len (a : Int) (b c : ByteArray) (d e : Int) (f : Vector Int 32) (g : List Int) : (aheadS a b c d e f g).length = 1 + (put b.size).length + b.size + (put c.size).length + c.size + 2 + 32 + (put g.length).length + g.length := by
  simp only [aheadS, List.length_append, List.length_cons, List.length_nil, bytesOf_length, Vector.length_toList]
  omega
theorem put_len1 {n : Nat} (h : n < 128) : (put n).length = 1 := by rw [put_small h]; rfl
theorem put_len2 {n : Nat} (h : n < 16384) : (put n).length ≤ 2 := put_len 1 n (by omega)
theorem ahead_byt (a : Int) (b c : ByteArray) (d e : Int) {f : Vector Int 32} {g : List Int} (hf : Byt f.toList) (hg : Byt g) : Byt (aheadS a b c d e f g) := by
  unfold aheadS
  refine Byt.append (Byt.append (Byt.append (Byt.append (Byt.append (byt_one (wrap8 _).1 (wrap8 _).2) ((put_byt _).append (bytesOf_byt _))) ((put_byt _).append (bytesOf_byt _))) ?_) hf) ((put_byt _).append hg)
  intro x hx
  rcases List.mem_cons.1 hx with rfl | hx
  · exact wrap8 _
  · rcases List.mem_cons.1 hx with rfl | hx
    · exact wrap8 _
    · cases hx
theorem lsub_all (f : Vector Int 32) : lsub f.toList 0 32 = f.toList := by
  unfold lsub
  rw [show (0 : Int).toNat = 0 from rfl, List.drop_zero, List.take_of_length_le (by rw [Vector.length_toList]; decide)]
theorem lsub_4 (f : Vector Int 32) : lsub f.toList 0 4 = f.toList.take 4 := by
  unfold lsub; rw [show (0 : Int).toNat = 0 from rfl, List.drop_zero]; rfl
theorem enc1 {k : Nat} {a : Int} {b c : ByteArray} {d e : Int} {f : Vector Int 32} {g : List Int} (h : Small k b c f g) : bisect_Encode.f k a b c d e f g = some (encS k a b c d e f g) := by
  have hk := h.hk; have hb := h.hb; have hc := h.hc; have hg := h.hg
  unfold bisect_Encode.f encS
  rw [may1 k a b c d e f g (by omega) (by omega) (by omega) (by omega) h.byt]
  cases hm : mayS k a b c d e f g with
  | false => rw [if_neg Bool.false_ne_true, Option.bind_some, Bool.not_false, cond_true]
  | true =>
    rw [if_pos rfl]
    simp only [obind, Bool.not_true, cond_false]
    have hlen := ahead_len a b c d e f g
    have p1 := put_len1 (n := b.size) (by omega); have p2 := put_len1 (n := c.size) (by omega); have p3 := put_len2 (n := g.length) (by omega)
    obtain ⟨s1, s2, s3⟩ := sh_eq (aheadS a b c d e f g) (ahead_byt a b c d e h.hf h.byt) k (by omega) (by omega)
    rw [if_pos (by rw [bytesOf_length]; omega), num_puts k (by omega) _ _ (by rw [List.length_singleton]; omega) (by rw [bytesOf_length]; omega), bytesOf_length]
    simp only [obind]
    rw [if_pos (by rw [bytesOf_length]; omega), num_puts k (by omega) _ _ (by simp only [List.length_append, bytesOf_length, List.length_cons, List.length_nil]; omega) (by rw [bytesOf_length]; omega), bytesOf_length]
    simp only [obind]
    rw [if_pos (by simp only [List.length_append, bytesOf_length, List.length_cons, List.length_nil]; omega), lsub_all]
    rw [if_pos (by simp only [List.length_append, bytesOf_length, List.length_cons, List.length_nil, Vector.length_toList]; omega)]
    rw [num_puts k (by omega) _ _ (by simp only [List.length_append, bytesOf_length, List.length_cons, List.length_nil, Vector.length_toList]; omega) (by omega)]
    simp only [obind]
    show (sha_Sum.f k (aheadS a b c d e f g)).bind _ = _
    rw [s1]
    simp only [obind, lsub_4]
    rw [if_pos]
    · unfold aheadS; rfl
    · show (((aheadS a b c d e f g ++ _).length : Nat) : Int) * 1 ≤ _
      rw [List.length_append, List.length_take, hlen]; omega
theorem enc2 {k : Nat} {a : Int} {b c : ByteArray} {d e : Int} {f : Vector Int 32} {g : List Int} (h : Small k b c f g) : cauteryref21_Encode.f k a b c d e f g = some (encS k a b c d e f g) := by
  have hk := h.hk; have hb := h.hb; have hc := h.hc; have hg := h.hg
  unfold cauteryref21_Encode.f encS
  rw [may2 k a b c d e f g (by omega) (by omega) (by omega) (by omega) (by omega) (by omega) h.byt]
  cases hm : mayS k a b c d e f g with
  | false => rw [if_neg Bool.false_ne_true, Option.bind_some, Bool.not_false, cond_true]
  | true =>
    rw [if_pos rfl]
    simp only [obind, Bool.not_true, cond_false]
    have hlen := ahead_len a b c d e f g
    have p1 := put_len1 (n := b.size) (by omega); have p2 := put_len1 (n := c.size) (by omega); have p3 := put_len2 (n := g.length) (by omega)
    obtain ⟨s1, s2, s3⟩ := sh_eq (aheadS a b c d e f g) (ahead_byt a b c d e h.hf h.byt) k (by omega) (by omega)
    have ha : cauteryref21_ahead.f k a b c d e f g = some (aheadS a b c d e f g) := by
      unfold cauteryref21_ahead.f
      simp only [obind]
      rw [if_pos (by rw [bytesOf_length]; omega), ref_puts k (by omega) _ _ (by rw [List.length_singleton]; omega) (by rw [bytesOf_length]; omega), bytesOf_length]
      simp only [obind]
      rw [if_pos (by rw [bytesOf_length]; omega), ref_puts k (by omega) _ _ (by simp only [List.length_append, bytesOf_length, List.length_cons, List.length_nil]; omega) (by rw [bytesOf_length]; omega), bytesOf_length]
      simp only [obind]
      rw [if_pos (by simp only [List.length_append, bytesOf_length, List.length_cons, List.length_nil]; omega), lsub_all]
      rw [if_pos (by simp only [List.length_append, bytesOf_length, List.length_cons, List.length_nil, Vector.length_toList]; omega)]
      rw [ref_puts k (by omega) _ _ (by simp only [List.length_append, bytesOf_length, List.length_cons, List.length_nil, Vector.length_toList]; omega) (by omega)]
      rfl
    rw [ha]
    simp only [obind]
    rw [s2]
    simp only [obind, lsub_4]
    rw [if_pos]
    rw [List.length_append, List.length_take, hlen]; omega
end Go.Proofs.Ythbcjjhlebhghaa.Walk
