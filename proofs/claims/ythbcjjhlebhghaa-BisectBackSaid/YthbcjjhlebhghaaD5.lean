/- Plain laws over the models of the functions. -/
import Derived.Test.YthbcjjhlebhghaaD4
namespace Go.Proofs.Ythbcjjhlebhghaa.Walk
open Go
/-! ### Names -/
def sign (c : Int) : Bool := decide (97 ≤ c ∧ c ≤ 122 ∨ 48 ≤ c ∧ c ≤ 57 ∨ c = 45)
def nameB (s : ByteArray) : Bool := (bytesOf s).all sign && (decide (1 ≤ s.size) && decide (s.size ≤ 12))
theorem isSign_eq (c : Int) : catalog_isSign.f c = some (sign c) := by
  unfold catalog_isSign.f sign
  have h : ∀ (p : Prop) [Decidable p] (b : Bool), (decide p = b) = (p ↔ b = true) := by intro p _ b; by_cases hp : p <;> cases b <;> simp [hp]
  by_cases h1 : c ≥ 97 <;> by_cases h2 : c ≤ 122 <;> by_cases h3 : c ≥ 48 <;> by_cases h4 : c ≤ 57 <;> by_cases h5 : c = 45 <;>
    simp [h1, h2, h3, h4, h5, beq_iff_eq] <;> omega
theorem bytesOf_byt (s : ByteArray) : Byt (bytesOf s) := by
  intro x hx
  simp only [bytesOf, List.mem_map] at hx
  obtain ⟨b, _, rfl⟩ := hx
  have := b.toNat_lt
  omega
theorem sget_eq (s : ByteArray) (i : Nat) (h : i < s.size) : sget s (i : Int) = (bytesOf s)[i]'(by rw [bytesOf_length]; exact h) := by
  have h' : i < s.data.toList.length := h
  simp only [sget, bytesOf, Int.toNat_natCast, List.getElem_map, List.getD_eq_getElem?_getD, List.getElem?_eq_getElem h', Option.getD_some]
theorem drop_cons_s (s : ByteArray) (i : Nat) (h : i < s.size) : (bytesOf s).drop i = sget s (i : Int) :: (bytesOf s).drop (i + 1) := by
  rw [sget_eq s i h, List.drop_eq_getElem_cons]
theorem refname_loop (s : ByteArray) (hs : s.size < 1000000000000000) : ∀ (m i f : Nat), i + m = s.size → m < f →
    cauteryref12_IsName.l0 s f (i : Int) = some (if ((bytesOf s).drop i).all sign = true then Ex.go () else Ex.ret false) := by
  intro m
  induction m with
  | zero =>
    intro i f h1 h2
    obtain ⟨f, rfl⟩ := Nat.exists_eq_add_of_lt h2
    rw [Nat.zero_add, cauteryref12_IsName.l0]
    have e1 : decide ((i : Int) < (s.size : Int)) = false := by simp; omega
    rw [e1, cond_false, List.drop_eq_nil_of_le (by rw [bytesOf_length]; omega)]
    rfl
  | succ m ih =>
    intro i f h1 h2
    obtain ⟨f, rfl⟩ : ∃ f', f = f' + 1 := ⟨f - 1, by omega⟩
    rw [cauteryref12_IsName.l0]
    have e1 : decide ((i : Int) < (s.size : Int)) = true := by simp; omega
    rw [e1, cond_true, if_pos (by omega), drop_cons_s s i (by omega)]
    simp only [Option.bind_some]
    rw [wadd_i64 (by omega) (by omega), show (i : Int) + 1 = ((i + 1 : Nat) : Int) by omega, ih (i + 1) f (by omega) (by omega)]
    generalize sget s (i : Int) = c
    rw [List.all_cons]
    generalize ((bytesOf s).drop (i + 1)).all sign = A
    have d5 : (c != 45) = !decide (c = 45) := by by_cases h : c = 45 <;> simp [h]
    rw [d5]
    have key : ∀ x : Bool, sign c = x → ((cond (decide (c < 97)) (cond (decide (c < 48)) (!decide (c = 45)) (cond (decide (c > 57)) (!decide (c = 45)) false)) (cond (decide (c > 122)) (cond (decide (c < 48)) (!decide (c = 45)) (cond (decide (c > 57)) (!decide (c = 45)) false)) false)) = !x) := by
      intro x hx
      subst hx
      unfold sign
      by_cases h5 : c = 45
      · subst h5; decide
      · by_cases h1 : c < 97 <;> by_cases h2 : c < 48 <;> by_cases h3 : c > 57 <;> by_cases h4 : c > 122 <;> first | omega | (simp [h1, h2, h3, h4, h5]; done) | (simp [h1, h2, h3, h4, h5]; omega)
    cases hs : sign c with
    | true =>
      have := key true hs
      revert this
      cases decide (c < 97) <;> cases decide (c < 48) <;> cases decide (c > 57) <;> cases decide (c > 122) <;> cases decide (c = 45) <;> simp
    | false =>
      have := key false hs
      revert this
      cases decide (c < 97) <;> cases decide (c < 48) <;> cases decide (c > 57) <;> cases decide (c > 122) <;> cases decide (c = 45) <;> simp
theorem refname_eq (s : ByteArray) (k : Nat) (hk : s.size < k) (hs : s.size < 1000000000000000) : cauteryref12_IsName.f k s = some (nameB s) := by
  unfold cauteryref12_IsName.f
  have h := refname_loop s hs s.size 0 k (by omega) hk
  rw [show ((0 : Nat) : Int) = 0 from rfl, List.drop_zero] at h
  rw [h]
  unfold nameB
  by_cases ha : (bytesOf s).all sign = true
  · rw [if_pos ha, ha]
    simp only [Option.bind_some, Bool.true_and]
    rw [show decide ((s.size : Int) ≥ 1) = decide (1 ≤ s.size) from decide_eq_decide.2 (by omega), show decide ((s.size : Int) ≤ 12) = decide (s.size ≤ 12) from decide_eq_decide.2 (by omega)]
    cases decide (1 ≤ s.size) <;> rfl
  · rw [if_neg ha]
    simp [ha]
theorem decode_big (s : ByteArray) (i : Nat) (h : 128 ≤ (s.get! i).toNat) : 128 ≤ (Utf8.decode s i).1 ∧ 1 ≤ (Utf8.decode s i).2 := by
  unfold Utf8.decode
  simp only [Nat.add_zero]
  rw [if_neg (by omega)]
  have hr : 128 ≤ Utf8.runeError := by decide
  split
  · split
    · exact ⟨by assumption, by simp⟩
    · exact ⟨hr, by decide⟩
  · split
    · split
      · rename_i hh; simp only [Bool.and_eq_true, decide_eq_true_eq] at hh; exact ⟨by omega, by simp⟩
      · exact ⟨hr, by decide⟩
    · split
      · split
        · rename_i hh; simp only [Bool.and_eq_true, decide_eq_true_eq] at hh; exact ⟨by omega, by simp⟩
        · exact ⟨hr, by decide⟩
      · exact ⟨hr, by decide⟩
theorem get!_eq (s : ByteArray) (i : Nat) (h : i < s.size) : ((s.get! i).toNat : Int) = sget s (i : Int) := by
  have h' : i < s.data.size := h
  simp only [sget, Int.toNat_natCast, ByteArray.get!, List.getD_eq_getElem?_getD]
  rw [getElem!_pos s.data i h', Array.getElem?_toList, Array.getElem?_eq_getElem h']
  rfl
theorem name_loop (s : ByteArray) : ∀ (m i f : Nat), s.size ≤ i + m → m < f →
    ∃ e, catalog_IsName.l0 s f i = some e ∧ ((((bytesOf s).drop i).all sign = true ∧ ∃ j, e = Ex.go j) ∨ (((bytesOf s).drop i).all sign = false ∧ e = Ex.ret false)) := by
  intro m
  induction m with
  | zero =>
    intro i f h1 h2
    obtain ⟨f, rfl⟩ := Nat.exists_eq_add_of_lt h2
    rw [Nat.zero_add, catalog_IsName.l0]
    have e1 : decide (i < s.size) = false := by simp; omega
    rw [e1, cond_false, List.drop_eq_nil_of_le (by rw [bytesOf_length]; omega)]
    exact ⟨_, rfl, .inl ⟨rfl, i, rfl⟩⟩
  | succ m ih =>
    intro i f h1 h2
    obtain ⟨f, rfl⟩ : ∃ f', f = f' + 1 := ⟨f - 1, by omega⟩
    rw [catalog_IsName.l0]
    by_cases hi : i < s.size
    · rw [decide_eq_true hi, cond_true, drop_cons_s s i hi]
      simp only [Option.bind_some, isSign_eq, List.all_cons]
      by_cases hb : (s.get! i).toNat < 128
      · have hd : Utf8.decode s i = ((s.get! i).toNat, 1) := by unfold Utf8.decode; simp only [Nat.add_zero]; rw [if_pos (by omega)]
        rw [hd]
        simp only [get!_eq s i hi]
        cases hc : sign (sget s (i : Int)) with
        | true =>
          simp only [Bool.not_true, cond_false, Bool.true_and]
          exact ih (i + 1) f (by omega) (by omega)
        | false => exact ⟨_, rfl, .inr ⟨rfl, rfl⟩⟩
      · obtain ⟨hd, _⟩ := decode_big s i (by omega)
        have h3 : sign ((Utf8.decode s i).1 : Int) = false := by unfold sign; simp; omega
        have h4 : sign (sget s (i : Int)) = false := by rw [← get!_eq s i hi]; unfold sign; simp; omega
        rw [h3, h4]
        exact ⟨_, rfl, .inr ⟨rfl, rfl⟩⟩
    · rw [decide_eq_false hi, cond_false, List.drop_eq_nil_of_le (by rw [bytesOf_length]; omega)]
      exact ⟨_, rfl, .inl ⟨rfl, i, rfl⟩⟩
theorem toList_eq (a b : ByteArray) : (a.toList == b.toList) = decide (a = b) := by
  by_cases h : a = b
  · subst h; simp
  · have : a.toList ≠ b.toList := by
      intro he; apply h
      have e : ∀ s : ByteArray, s.toList = s.data.toList := fun s => ByteArray.toList_eq s
      rw [e, e] at he
      cases a; cases b
      simp only [ByteArray.mk.injEq] at he ⊢
      exact Array.ext' he
    simp [h, this]
theorem name_eq (s : ByteArray) (k : Nat) (hk : s.size < k) : catalog_IsName.f k s = some (nameB s) := by
  unfold catalog_IsName.f
  obtain ⟨e, h1, h2⟩ := name_loop s s.size 0 k (by omega) hk
  rw [h1, List.drop_zero] at *
  unfold nameB
  rcases h2 with ⟨ha, j, rfl⟩ | ⟨ha, rfl⟩
  · rw [ha, toList_eq]
    simp only [Option.bind_some, Bool.true_and]
    by_cases h0 : s.size = 0
    · have : s = ⟨#[]⟩ := by cases s with | mk d => simp only [ByteArray.mk.injEq]; exact Array.eq_empty_of_size_eq_zero h0
      rw [decide_eq_true this]; simp [h0]
    · have : ¬ s = ⟨#[]⟩ := fun e => h0 (by rw [e]; rfl)
      rw [decide_eq_false this]
      rw [show decide ((s.size : Int) ≤ 12) = decide (s.size ≤ 12) from decide_eq_decide.2 (by omega), decide_eq_true (show 1 ≤ s.size by omega)]
      rfl
  · rw [ha]; rfl
end Go.Proofs.Ythbcjjhlebhghaa.Walk
