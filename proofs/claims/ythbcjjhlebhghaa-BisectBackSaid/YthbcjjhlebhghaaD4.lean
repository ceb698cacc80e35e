/- Plain laws over the models of the functions. -/
import Derived.Test.YthbcjjhlebhghaaD3
namespace Go.Proofs.Ythbcjjhlebhghaa.Walk
open Go
def absorb (v : Vector Int 8) : Nat → List Int → Vector Int 8
  | 0, _ => v
  | n + 1, l => absorb (blk v (l.take 64)) n (l.drop 64)
theorem absorb_last (n : Nat) : ∀ (v : Vector Int 8) (l : List Int), 64 * (n + 1) ≤ l.length → absorb v (n + 1) l = blk (absorb v n l) ((l.drop (64 * n)).take 64) := by
  induction n with
  | zero => intro v l h; rfl
  | succ n ih =>
    intro v l h
    rw [absorb, ih _ _ (by rw [List.length_drop]; omega), List.drop_drop, absorb]
    rw [show 64 + 64 * n = 64 * (n + 1) by omega]
theorem absorb_app (n : Nat) : ∀ (v : Vector Int 8) (l x : List Int), 64 * n ≤ l.length → absorb v n (l ++ x) = absorb v n l := by
  induction n with
  | zero => intro v l x h; rfl
  | succ n ih =>
    intro v l x h
    show absorb (blk v ((l ++ x).take 64)) n ((l ++ x).drop 64) = absorb (blk v (l.take 64)) n (l.drop 64)
    rw [List.take_append_of_le_length (by omega), List.drop_append_of_le_length (by omega), ih _ _ _ (by rw [List.length_drop]; omega)]
/-- What a hash holds behind a message. -/
def Held (v0 : Vector Int 8) (msg : List Int) (a1 : Vector Int 8) (a2 : Vector Int 64) (x2 : Int) : Prop :=
  a1 = absorb v0 (msg.length / 64) msg ∧ x2 = ((msg.length % 64 : Nat) : Int) ∧ a2.toList.take (msg.length % 64) = msg.drop (64 * (msg.length / 64)) ∧ Byt a2.toList
theorem write_loop (v0 : Vector Int 8) (k : Nat) (hk : 70 ≤ k) : ∀ (m : Nat) (l : List Int) (f : Nat) (msg : List Int) (a1 : Vector Int 8) (a2 : Vector Int 64) (x2 x3 : Int), l.length ≤ m → m < f → Byt l → Held v0 msg a1 a2 x2 →
    ∃ a1' a2' x2', sha_Hash_Write.l0 k f l a1 a2 x2 x3 = some (a1', a2', x2', x3) ∧ Held v0 (msg ++ l) a1' a2' x2' := by
  intro m
  induction m with
  | zero =>
    intro l f msg a1 a2 x2 x3 h1 h2 hb hH
    obtain ⟨f, rfl⟩ := Nat.exists_eq_add_of_lt h2
    obtain rfl : l = [] := List.eq_nil_of_length_eq_zero (by omega)
    rw [Nat.zero_add, sha_Hash_Write.l0]
    exact ⟨a1, a2, x2, rfl, by rw [List.append_nil]; exact hH⟩
  | succ m ih =>
    intro l f msg a1 a2 x2 x3 h1 h2 hb hH
    obtain ⟨f, rfl⟩ : ∃ f', f = f' + 1 := ⟨f - 1, by omega⟩
    rw [sha_Hash_Write.l0]
    by_cases hl : l = []
    · subst hl
      exact ⟨a1, a2, x2, rfl, by rw [List.append_nil]; exact hH⟩
    have hlp : 0 < l.length := List.length_pos_iff.2 hl
    have e1 : decide ((l.length : Int) > 0) = true := by simp; omega
    obtain ⟨H1, H2, H3, H4⟩ := hH
    have hr : msg.length % 64 < 64 := Nat.mod_lt _ (by omega)
    have hmsg : 64 * (msg.length / 64) + msg.length % 64 = msg.length := Nat.div_add_mod _ _
    generalize hq : msg.length / 64 = q at *
    generalize hrr : msg.length % 64 = r at *
    have ha2 : a2.toList.length = 64 := Vector.length_toList
    have hl2 : (lsub a2.toList x2 64).length = 64 - r := by rw [H2, lsub_length (by omega) (by omega) (by omega)]; omega
    rw [e1, cond_true, if_pos (by omega)]
    simp only [Option.bind_some]
    generalize hn : Nat.min l.length (lsub a2.toList x2 64).length = n
    have hn' : n = min l.length (64 - r) := by rw [← hn, hl2]
    have e2 : wadd .i64 x2 (n : Int) = ((r + n : Nat) : Int) := by rw [wadd_i64 (by omega) (by omega)]; omega
    have h3 : (vcopy a2 x2 (lsub a2.toList x2 64) l).toList = msg.drop (64 * q) ++ (l.take n ++ a2.toList.drop (r + n)) := by
      rw [vcopy_toList (by omega) (by omega) (by omega), hn, H2, show ((r : Nat) : Int).toNat = r by omega, H3]
    have hB3 : Byt (vcopy a2 x2 (lsub a2.toList x2 64) l).toList := by
      rw [h3, ← H3]; exact (H4.take _).append ((hb.take _).append (H4.drop _))
    generalize hb3 : vcopy a2 x2 (lsub a2.toList x2 64) l = a3 at *
    have e3 : lsub l (n : Int) (l.length : Int) = l.drop n := by
      unfold lsub; rw [List.take_of_length_le (by rw [List.length_drop]; omega)]; simp
    rw [if_pos (by omega), e2, e3]
    have eapp : (msg ++ l.take n) ++ l.drop n = msg ++ l := by rw [List.append_assoc, List.take_append_drop]
    have hlen : (msg ++ l.take n).length = 64 * q + r + n := by rw [List.length_append, List.length_take]; omega
    have hdrop : (msg ++ l.take n).drop (64 * q) = msg.drop (64 * q) ++ l.take n := List.drop_append_of_le_length (by omega)
    by_cases h64 : r + n = 64
    · have e4 : ((((r + n : Nat) : Int)) == 64) = true := by rw [h64]; rfl
      rw [e4, cond_true, take_eq a1 a3 hB3 _ x3 k hk]
      simp only [Option.bind_some]
      rw [← eapp]
      refine ih (l.drop n) f (msg ++ l.take n) _ a3 0 x3 (by rw [List.length_drop]; omega) (by omega) (hb.drop _) ?_
      have h3' : a3.toList = msg.drop (64 * q) ++ l.take n := by rw [h3, h64, List.drop_eq_nil_of_le (show a2.toList.length ≤ 64 by omega), List.append_nil]
      have hq1 : (msg ++ l.take n).length / 64 = q + 1 := by rw [hlen]; omega
      refine ⟨?_, ?_, ?_, hB3⟩
      · rw [hq1, absorb_last q _ _ (by rw [hlen]; omega), absorb_app _ _ _ _ (by omega), ← H1, hdrop, ← h3', List.take_of_length_le (by rw [Vector.length_toList]; omega)]
      · rw [show (msg ++ l.take n).length % 64 = 0 by rw [hlen]; omega]; rfl
      · rw [show (msg ++ l.take n).length % 64 = 0 by rw [hlen]; omega, hq1, List.take_zero, List.drop_eq_nil_of_le (by rw [hlen]; omega)]
    · have e4 : ((((r + n : Nat) : Int)) == 64) = false := by rw [beq_eq_false_iff_ne]; omega
      rw [e4, cond_false, ← eapp]
      refine ih (l.drop n) f (msg ++ l.take n) a1 a3 _ x3 (by rw [List.length_drop]; omega) (by omega) (hb.drop _) ?_
      have hq1 : (msg ++ l.take n).length / 64 = q := by rw [hlen]; omega
      have hr1 : (msg ++ l.take n).length % 64 = r + n := by rw [hlen]; omega
      refine ⟨?_, by rw [hr1], ?_, hB3⟩
      · rw [hq1, absorb_app _ _ _ _ (by omega)]; exact H1
      · rw [hr1, hq1, hdrop, h3, ← List.append_assoc, List.take_append_of_le_length (by rw [List.length_append, List.length_drop, List.length_take]; omega), List.take_of_length_le (by rw [List.length_append, List.length_drop, List.length_take]; omega)]
theorem write_eq (v0 : Vector Int 8) (k : Nat) (hk : 70 ≤ k) (l : List Int) (hl : l.length < k) (hb : Byt l) (msg : List Int) (a1 : Vector Int 8) (a2 : Vector Int 64) (x2 x3 : Int) (h : Held v0 msg a1 a2 x2) :
    ∃ a1' a2' x2', sha_Hash_Write.f k a1 a2 x2 x3 l = some (a1', a2', x2', wadd .u64 x3 (IntKind.wrap .u64 (l.length : Int))) ∧ Held v0 (msg ++ l) a1' a2' x2' := by
  unfold sha_Hash_Write.f
  simp only [Option.bind_some]
  exact write_loop v0 k hk l.length l k msg a1 a2 x2 _ (Nat.le_refl _) hl hb h
/-! ### The padding -/
theorem byt_one {x : Int} (h0 : 0 ≤ x) (h1 : x < 256) : Byt [x] := fun y hy => by simp at hy; subst hy; exact ⟨h0, h1⟩
theorem wrap8 (x : Int) : 0 ≤ IntKind.wrap .u8 x ∧ IntKind.wrap .u8 x < 256 := by rw [wrap_u8]; omega
theorem zeros_eq (v0 : Vector Int 8) (k : Nat) (hk : 70 ≤ k) (z : List Int) : ∀ (m : Nat) (l : List Int) (f : Nat) (a1 : Vector Int 8) (a2 : Vector Int 64) (x2 x3 : Int), (120 - l.length % 64) % 64 ≤ m → m < f → l.length + m ≤ 140737488355000 → Held v0 l a1 a2 x2 → Byt l →
    ∃ l' a1' a2' x2' x3', cauteryref02_padded.l1 z f l = some l' ∧ sha_Hash_Sum.l2 k f a1 a2 x2 x3 = some (a1', a2', x2', x3') ∧ Held v0 l' a1' a2' x2' ∧ l'.length % 64 = 56 ∧ l'.length ≤ l.length + m ∧ Byt l' := by
  intro m
  induction m with
  | zero =>
    intro l f a1 a2 x2 x3 h1 h2 h3 h4 hB
    obtain ⟨f, rfl⟩ := Nat.exists_eq_add_of_lt h2
    have h56 : l.length % 64 = 56 := by omega
    rw [Nat.zero_add, cauteryref02_padded.l1, sha_Hash_Sum.l2]
    have e0 : wrem .i64 (l.length : Int) 64 = ((l.length % 64 : Nat) : Int) := wrem_nat l.length 64
    have e1 : wrem .i64 (l.length : Int) 64 = 56 := by rw [e0, h56]; rfl
    have e2 : x2 = 56 := by rw [h4.2.1, h56]; rfl
    rw [e1, e2]
    exact ⟨l, a1, a2, 56, x3, rfl, rfl, by rw [← e2]; exact h4, h56, by omega, hB⟩
  | succ m ih =>
    intro l f a1 a2 x2 x3 h1 h2 h3 h4 hB
    obtain ⟨f, rfl⟩ : ∃ f', f = f' + 1 := ⟨f - 1, by omega⟩
    rw [cauteryref02_padded.l1, sha_Hash_Sum.l2]
    have e1 : wrem .i64 (l.length : Int) 64 = ((l.length % 64 : Nat) : Int) := wrem_nat l.length 64
    rw [e1, h4.2.1]
    by_cases h56 : l.length % 64 = 56
    · rw [h56]
      exact ⟨l, a1, a2, 56, x3, rfl, rfl, by have := h4.2.1; rw [h56] at this; rw [show (56 : Int) = ((56 : Nat) : Int) from rfl, ← this]; exact h4, h56, by omega, hB⟩
    · have e2 : ((((l.length % 64 : Nat) : Int)) != 56) = true := by rw [bne_iff_ne]; omega
      rw [e2, cond_true, cond_true]
      simp only [Option.bind_some]
      rw [if_pos (by rw [List.length_append]; simp; omega)]
      obtain ⟨b1, b2, y2, h5, h6⟩ := write_eq v0 k hk [0] (by simp; omega) (byt_one (by omega) (by omega)) l a1 a2 ((l.length % 64 : Nat) : Int) x3 (by have := h4.2.1; rw [← this]; exact h4)
      rw [h5]
      simp only [Option.bind_some]
      have hlen : (l ++ [(0 : Int)]).length = l.length + 1 := by simp
      obtain ⟨l', a1', a2', x2', x3', r1, r2, r3, r4, r5, r6⟩ := ih (l ++ [0]) f b1 b2 y2 (wadd .u64 x3 (IntKind.wrap .u64 (([(0 : Int)].length : Nat) : Int))) (by rw [hlen]; omega) (by omega) (by rw [hlen]; omega) h6 (hB.append (byt_one (by omega) (by omega)))
      exact ⟨l', a1', a2', x2', x3', r1, r2, r3, r4, by rw [hlen] at r5; omega, r6⟩
theorem tail_eq (v0 : Vector Int 8) (k : Nat) (hk : 70 ≤ k) (n : Int) : ∀ (m : Nat) (l : List Int) (f : Nat) (a1 : Vector Int 8) (a2 : Vector Int 64) (x2 x3 : Int), m ≤ 8 → m < f → l.length + m ≤ 140737488355300 → Held v0 l a1 a2 x2 → Byt l →
    ∃ l' a1' a2' x2' x3', cauteryref02_padded.l0 n f l ((m : Int) - 1) = some l' ∧ sha_Hash_Sum.l1 n k f (8 * ((m : Int) - 1)) a1 a2 x2 x3 = some (a1', a2', x2', x3') ∧ Held v0 l' a1' a2' x2' ∧ l'.length = l.length + m ∧ Byt l' := by
  intro m
  induction m with
  | zero =>
    intro l f a1 a2 x2 x3 h1 h2 h3 h4 hB
    obtain ⟨f, rfl⟩ := Nat.exists_eq_add_of_lt h2
    rw [Nat.zero_add, cauteryref02_padded.l0, sha_Hash_Sum.l1]
    exact ⟨l, a1, a2, x2, x3, rfl, rfl, h4, rfl, hB⟩
  | succ m ih =>
    intro l f a1 a2 x2 x3 h1 h2 h3 h4 hB
    obtain ⟨f, rfl⟩ : ∃ f', f = f' + 1 := ⟨f - 1, by omega⟩
    have em : ((m + 1 : Nat) : Int) - 1 = (m : Int) := by omega
    rw [em, cauteryref02_padded.l0, sha_Hash_Sum.l1]
    have e1 : decide ((m : Int) ≥ 0) = true := by simp
    have e2 : decide (8 * (m : Int) ≥ 0) = true := by simp; omega
    have e3 : IntKind.wrap .u64 (wmul .i64 8 (m : Int)) = 8 * (m : Int) := by rw [wmul_i64 (by omega) (by omega), wrap_u64]; omega
    rw [e1, e2, cond_true, cond_true]
    simp only [Option.bind_some, e3]
    have hlen : (l ++ [IntKind.wrap .u8 (wshr .u64 n (8 * (m : Int)))]).length = l.length + 1 := by simp
    simp only [if_pos (show (0 : Int) ≤ 8 * (m : Int) by omega)]
    rw [if_pos (by rw [hlen]; omega)]
    obtain ⟨b1, b2, y2, h5, h6⟩ := write_eq v0 k hk [IntKind.wrap .u8 (wshr .u64 n (8 * (m : Int)))] (by simp; omega) (byt_one (wrap8 _).1 (wrap8 _).2) l a1 a2 x2 x3 h4
    rw [h5]
    simp only [Option.bind_some]
    rw [wsub_i64 (by omega) (by omega), wsub_i64 (by omega) (by omega), show 8 * (m : Int) - 8 = 8 * ((m : Int) - 1) by omega]
    have hlen : (l ++ [IntKind.wrap .u8 (wshr .u64 n (8 * (m : Int)))]).length = l.length + 1 := by simp
    obtain ⟨l', a1', a2', x2', x3', r1, r2, r3, r4, r5⟩ := ih (l ++ [IntKind.wrap .u8 (wshr .u64 n (8 * (m : Int)))]) f b1 b2 y2 (wadd .u64 x3 (IntKind.wrap .u64 (([IntKind.wrap .u8 (wshr .u64 n (8 * (m : Int)))].length : Nat) : Int))) (by omega) (by omega) (by rw [hlen]; omega) h6 (hB.append (byt_one (wrap8 _).1 (wrap8 _).2))
    exact ⟨l', a1', a2', x2', x3', r1, r2, r3, by rw [hlen] at r4; omega, r5⟩
def IV : Vector Int 8 := #v[1779033703, 3144134277, 1013904242, 2773480762, 1359893119, 2600822924, 528734635, 1541459225]
theorem blocks_eq (p : List Int) (z : Nat) (k : Nat) (hk : 70 ≤ k) (hz : p.length < 9000000000000000000) : ∀ (m t f : Nat), 64 * (t + m) = p.length → m < f →
    cauteryref02_Sum.l1 KK p k f ((64 * t : Nat) : Int) (absorb IV t p) = some (absorb IV (t + m) p) := by
  intro m
  induction m with
  | zero =>
    intro t f h1 h2
    obtain ⟨f, rfl⟩ := Nat.exists_eq_add_of_lt h2
    rw [Nat.zero_add, cauteryref02_Sum.l1]
    have e1 : decide (((64 * t : Nat) : Int) < (p.length : Int)) = false := by simp; omega
    rw [e1]
    rfl
  | succ m ih =>
    intro t f h1 h2
    obtain ⟨f, rfl⟩ : ∃ f', f = f' + 1 := ⟨f - 1, by omega⟩
    rw [cauteryref02_Sum.l1]
    have e1 : decide (((64 * t : Nat) : Int) < (p.length : Int)) = true := by simp; omega
    have e2 : wadd .i64 ((64 * t : Nat) : Int) 64 = ((64 * (t + 1) : Nat) : Int) := by rw [wadd_i64 (by omega) (by omega)]; omega
    rw [e1, cond_true, e2]
    simp only [Option.bind_some]
    rw [if_pos (by omega)]
    have e3 : lsub p ((64 * t : Nat) : Int) ((64 * (t + 1) : Nat) : Int) = (p.drop (64 * t)).take 64 := by
      unfold lsub; congr 1; omega
    rw [e3, block_eq _ (by rw [List.length_take, List.length_drop]; omega) _ k hk, ← absorb_last t IV p (by omega)]
    simp only [Option.bind_some]
    rw [ih (t + 1) f (by omega) (by omega), show t + 1 + m = t + (m + 1) by omega]
theorem out_eq (v : Vector Int 8) (f : Nat) (hf : 40 ≤ f) : ∃ a, sha_Hash_Sum.l0 v f 0 (Vector.replicate 32 (0 : Int)) = some a ∧ cauteryref02_Sum.l0 v f 0 (#v[0, 0, 0, 0, 0, 0, 0, 0, 0, 0, 0, 0, 0, 0, 0, 0, 0, 0, 0, 0, 0, 0, 0, 0, 0, 0, 0, 0, 0, 0, 0, 0] : Vector Int 32) = some a ∧ Byt a.toList := by
  have key : ∀ (m t f : Nat) (a : Vector Int 32), t + m = 32 → m < f → Byt a.toList → ∃ a', sha_Hash_Sum.l0 v f (t : Int) a = some a' ∧ cauteryref02_Sum.l0 v f (t : Int) a = some a' ∧ Byt a'.toList := by
    intro m
    induction m with
    | zero =>
      intro t f a h1 h2 hB
      obtain ⟨f, rfl⟩ := Nat.exists_eq_add_of_lt h2
      obtain rfl : t = 32 := by omega
      exact ⟨a, rfl, rfl, hB⟩
    | succ m ih =>
      intro t f a h1 h2 hB
      obtain ⟨f, rfl⟩ : ∃ f', f = f' + 1 := ⟨f - 1, by omega⟩
      rw [sha_Hash_Sum.l0, cauteryref02_Sum.l0]
      have e1 : decide ((t : Int) < 32) = true := by simp; omega
      have e2 : wquo .i64 (t : Int) 4 = ((t / 4 : Nat) : Int) := by
        have : (t : Int).tdiv 4 = ((t / 4 : Nat) : Int) := by rw [Int.tdiv_eq_ediv_of_nonneg (by omega)]; omega
        unfold wquo; rw [this, wrap_i64 (by omega) (by omega)]
      have e3 : wrem .i64 (t : Int) 4 = ((t % 4 : Nat) : Int) := wrem_nat t 4
      have e4 : wsub .i64 24 (wmul .i64 8 (wrem .i64 (t : Int) 4)) = 24 - 8 * ((t % 4 : Nat) : Int) := by
        rw [e3, wmul_i64 (by omega) (by omega), wsub_i64 (by omega) (by omega)]
      have e5 : IntKind.wrap .u64 (24 - 8 * ((t % 4 : Nat) : Int)) = 24 - 8 * ((t % 4 : Nat) : Int) := by rw [wrap_u64]; omega
      rw [e1, cond_true, cond_true]
      simp only [Option.bind_some, e2, e4, e5]
      simp only [if_pos (show (0 : Int) ≤ ((t / 4 : Nat) : Int) ∧ ((t / 4 : Nat) : Int) < 8 by omega), if_pos (show (0 : Int) ≤ 24 - 8 * ((t % 4 : Nat) : Int) by omega), if_pos (show (0 : Int) ≤ (t : Int) ∧ (t : Int) < 32 by omega)]
      rw [wadd_i64 (by omega) (by omega)]
      refine ih (t + 1) f _ (by omega) (by omega) ?_
      intro x hx
      rw [vset, Vector.toList_setIfInBounds] at hx
      rcases List.mem_or_eq_of_mem_set hx with h | h
      · exact hB x h
      · rw [h]; exact wrap8 _
  have hB : Byt (Vector.replicate 32 (0 : Int)).toList := by intro x hx; simp at hx; omega
  exact key 32 0 f (Vector.replicate 32 0) rfl (by omega) hB
/-- Both hashes are one function. -/
theorem sha_same (p : List Int) (hB : Byt p) (k : Nat) (hk : p.length + 300 ≤ k) (hp : p.length ≤ 1000000000000) : ∃ a : Vector Int 32, sha_Sum.f k p = some a ∧ cauteryref02_Sum.f k p = some a ∧ Byt a.toList := by
  have h0 : Held IV [] IV (Vector.replicate 64 (0 : Int)) 0 := ⟨rfl, rfl, rfl, by intro x hx; simp at hx; omega⟩
  obtain ⟨b1, b2, y2, h1, h2⟩ := write_eq IV k (by omega) p (by omega) hB [] IV (Vector.replicate 64 (0 : Int)) 0 0 h0
  rw [List.nil_append] at h2
  generalize hx3 : wadd .u64 0 (IntKind.wrap .u64 (p.length : Int)) = x3 at h1
  have hx : x3 = IntKind.wrap .u64 (p.length : Int) := by
    rw [← hx3]; show IntKind.wrap .u64 (0 + IntKind.wrap .u64 (p.length : Int)) = _
    simp only [wrap_u64]; omega
  obtain ⟨c1, c2, z2, h3, h4⟩ := write_eq IV k (by omega) [128] (by simp; omega) (byt_one (by omega) (by omega)) p b1 b2 y2 x3 h2
  have hl1 : (p ++ [(128 : Int)]).length = p.length + 1 := by simp
  obtain ⟨l3, d1, d2, w2, w3, h5, h6, h7, h8, h9, h10⟩ := zeros_eq IV k (by omega) p 63 (p ++ [128]) k c1 c2 z2 (wadd .u64 x3 (IntKind.wrap .u64 (([(128 : Int)].length : Nat) : Int))) (by omega) (by omega) (by rw [hl1]; omega) h4 (hB.append (byt_one (by omega) (by omega)))
  obtain ⟨l4, g1, g2, u2, u3, h11, h12, h13, h14, h15⟩ := tail_eq IV k (by omega) (wmul .u64 x3 8) 8 l3 k d1 d2 w2 w3 (Nat.le_refl _) (by omega) (by rw [hl1] at h9; omega) h7 h10
  rw [show ((8 : Nat) : Int) - 1 = 7 from rfl] at h11 h12
  rw [show (8 : Int) * 7 = 56 from rfl] at h12
  rw [hl1] at h9
  have hlen : l4.length % 64 = 0 := by omega
  obtain ⟨a, h16, h17, h18⟩ := out_eq g1 k (by omega)
  have hg1 : g1 = absorb IV (l4.length / 64) l4 := h13.1
  refine ⟨a, ?_, ?_, h18⟩
  · unfold sha_Sum.f sha_All.f
    show ((sha_All.l0 p k k 0 IV (Vector.replicate 64 (0 : Int)) 0 0).bind _).bind _ = _
    obtain ⟨j, rfl⟩ : ∃ j, k = j + 2 := ⟨k - 2, by omega⟩
    rw [sha_All.l0]
    rw [show decide ((0 : Int) < 1) = true from rfl, cond_true, if_pos (by omega), h1]
    simp only [Option.bind_some]
    rw [sha_All.l0]
    rw [show decide ((wadd .i64 0 1 : Int) < 1) = false from rfl, cond_false]
    simp only [Option.bind_some]
    unfold sha_Hash_Sum.f
    simp only [Option.bind_some]
    rw [h3]
    simp only [Option.bind_some]
    rw [h6]
    simp only [Option.bind_some]
    rw [h12]
    simp only [Option.bind_some]
    rw [h16]
    rfl
  · unfold cauteryref02_Sum.f
    rw [show cauteryref02_start.f = some IV from rfl, steps1]
    simp only [Option.bind_some]
    have hpad : cauteryref02_padded.f k p = some l4 := by
      unfold cauteryref02_padded.f
      simp only [Option.bind_some, List.nil_append]
      rw [if_pos (by omega), if_pos (by rw [hl1]; omega), h5]
      simp only [Option.bind_some]
      rw [← hx, h11]
      rfl
    rw [hpad]
    simp only [Option.bind_some]
    have hbl := blocks_eq l4 0 k (by omega) (by omega) (l4.length / 64) 0 k (by omega) (by omega)
    rw [show ((64 * 0 : Nat) : Int) = 0 from rfl, show absorb IV 0 l4 = IV from rfl, Nat.zero_add] at hbl
    rw [hbl]
    simp only [Option.bind_some]
    rw [← hg1, h17]
    rfl
end Go.Proofs.Ythbcjjhlebhghaa.Walk
