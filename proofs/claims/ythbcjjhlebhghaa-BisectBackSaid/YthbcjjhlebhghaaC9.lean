/- The laws of a judgement on the machine's code over named slots: own work, for the walks. -/
import Derived.Test.YthbcjjhlebhghaaC8
import Derived.WalkKit
import Derived.ProofKit
import Derived.OpenShut
import Derived.ShutString
import Derived.ChangeOld
import Derived.Below
import Derived.SizedLaws
import Derived.Carry
namespace Go.Proofs.Ythbcjjhlebhghaa.Walk
open Go Go.RowKit Go.ChangeAt Go.ChangeShapes
theorem Fr.below {w w' : World} (h : Fr [] w w') : Below w.heap.size w w' := ⟨h.os, h.tape, h.output, h.size, fun k hk => h.block k hk (by simp)⟩
section
variable {H : Type} {enc : TypeId × Value → H} {P : Program} {w : World} {base : Nat} {spare : Nat → Bool} {held : Bool} {fuel : Nat} {t : TypeId} {cs : List Value} {x : DataW H × List MemPlace}
def Byt' (k : IntKind) (l : List Int) : Prop := ∀ n ∈ l, k.min ≤ n ∧ n ≤ k.max
theorem wf_range {k : IntKind} {n : Int} (h : (Lit.int k n).wf = true) : k.min ≤ n ∧ n ≤ k.max := by
  simp only [Lit.wf, Bool.and_eq_true, decide_eq_true_eq] at h
  exact h
theorem rd_row {k : IntKind} {a : Addr} {len cap : Nat} {zs : List Int} (hl : len ≤ cap) (hm : cap ≤ maxLen) (hz : zs.length = cap) (hc : ∀ i, i < zs.length → w.cell? (a.add i) = some (.int k (zs.getD i 0))) :
    Rd w 1 (some a) (zs.take len).length cap (ints k (zs.take len)) := by
  have hn : (zs.take len).length = len := by rw [List.length_take]; omega
  refine ⟨by omega, hm, by rw [ints_length, Nat.mul_one], ?_⟩
  by_cases h0 : len = 0
  · left; omega
  right
  have c0 := hc 0 (by omega)
  unfold World.cell? at c0
  obtain ⟨b, o, sp⟩ := a
  simp only [Addr.add, if_true] at c0 hc
  cases hb : w.heap[b]? with
  | none => rw [hb] at c0; cases c0
  | some ob =>
    cases ob with
    | cells c T fr =>
      rw [hb] at c0
      simp only at c0
      have hsp : sp = none := by
        cases sp with
        | none => rfl
        | some s => simp at c0
      subst hsp
      have hget : ∀ i, i < zs.length → c[o + i]? = some (.int k (zs.getD i 0)) := by
        intro i hi
        have := hc i hi
        unfold World.cell? at this
        by_cases hi0 : i = 0
        · subst hi0; simpa [hb] using this
        · rw [if_neg hi0] at this; simpa [hb] using this
      have hsz : o + zs.length ≤ c.size := by
        have := hget (zs.length - 1) (by omega)
        have := (Array.getElem?_eq_some_iff.1 this).1
        omega
      refine ⟨b, o, c.toList.take o, c.toList.drop (o + len), T, fr, rfl, ?_, by rw [List.length_take, Array.length_toList]; omega⟩
      have e : c.toList = c.toList.take o ++ (ints k (zs.take len) ++ c.toList.drop (o + len)) := by
        conv => lhs; rw [← List.take_append_drop o c.toList, ← List.take_append_drop len (c.toList.drop o), List.drop_drop]
        congr 2
        apply List.ext_getElem?
        intro i
        by_cases hi : i < len
        · rw [List.getElem?_take_of_lt hi, List.getElem?_drop, Array.getElem?_toList, hget i (by omega), ints, List.getElem?_map, List.getElem?_take_of_lt hi, List.getElem?_eq_getElem (by omega), List.getD_eq_getElem?_getD, List.getElem?_eq_getElem (by omega)]
          rfl
        · rw [List.getElem?_eq_none (by rw [List.length_take, List.length_drop, Array.length_toList]; omega), List.getElem?_eq_none (by rw [ints_length]; omega)]
      rw [hb, ← e]
    | _ => rw [hb] at c0; cases c0
/-- A slice of integers as it comes in. -/
theorem in_slice {e : TypeId} {k : IntKind} (ht : P.underlying t = some (.slice e)) (he : P.underlying e = some (.int k)) (hc : P.cellsOf e = 1) (h : DataW.trod enc P w 0 (fun _ => true) held fuel t cs = some x) :
    ∃ A cap l, cs = [.slice A l.length cap] ∧ Rd w 1 A l.length cap (ints k l) ∧ Byt' k l := by
  rcases open_ints ht he hc h with ⟨hcs, _⟩ | ⟨a, l, c, zs, hcs, _, hl, hm, hz, _, hcell, hwz⟩
  · exact ⟨none, 0, [], hcs, Rd.nil _ _, fun n hn => by cases hn⟩
  · rw [if_pos rfl] at hz
    refine ⟨some a, c, zs.take l, ?_, rd_row hl hm hz hcell, fun n hn => wf_range (hwz n (List.mem_of_mem_take hn))⟩
    rw [hcs, List.length_take, Nat.min_eq_left (by omega)]
theorem in_int {k : IntKind} (ht : P.underlying t = some (.int k)) (h : DataW.trod enc P w base spare held fuel t cs = some x) : ∃ n, cs = [.int k n] ∧ k.min ≤ n ∧ n ≤ k.max := by
  obtain ⟨n, h1, _, h2⟩ := DataW.trod_int ht h
  exact ⟨n, h1, wf_range h2⟩
theorem in_string (ht : P.underlying t = some .string) (h : DataW.trod enc P w base spare held fuel t cs = some x) : ∃ s : ByteArray, cs = [.string s] ∧ s.size ≤ maxLen := by
  obtain ⟨s, h1, _, h2⟩ := DataW.trod_string ht h
  exact ⟨s, h1, h2⟩
theorem in_array {k : IntKind} {N : Nat} {e : TypeId} (ht : P.underlying t = some (.array N e)) (he : P.underlying e = some (.int k)) (hc : P.cellsOf e = 1) (hN : P.cellsOf t = N) (h : DataW.trod enc P w base spare held fuel t cs = some x) :
    ∃ v : Vector Int N, cs = ints k v.toList ∧ Byt' k v.toList := by
  obtain ⟨xs, m, _, _, hl, hx, hall⟩ := DataW.trod_array ht h
  have key : ∀ i, i < N → ∃ n, cs[i]? = some (.int k n) ∧ k.min ≤ n ∧ n ≤ k.max := by
    intro i hi
    have h1 := hall i hi
    rw [hc, Nat.mul_one, List.getElem?_eq_getElem (by omega)] at h1
    obtain ⟨n, h2, h3⟩ := in_int he h1
    refine ⟨n, ?_, h3⟩
    have h4 := congrArg (fun l => l[0]?) h2
    simpa [List.getElem?_take, List.getElem?_drop] using h4
  let f : Nat → Int := fun i => match cs[i]? with | some (.int _ n) => n | _ => 0
  have hf : ∀ i, i < N → cs[i]? = some (.int k (f i)) ∧ k.min ≤ f i ∧ f i ≤ k.max := by
    intro i hi
    obtain ⟨n, h1, h2⟩ := key i hi
    have : f i = n := by simp only [f, h1]
    rw [this]; exact ⟨h1, h2⟩
  refine ⟨Vector.ofFn fun i => f i.1, ?_, ?_⟩
  · apply List.ext_getElem?
    intro i
    by_cases hi : i < N
    · rw [(hf i hi).1, ints, List.getElem?_map]
      simp [hi]
    · rw [List.getElem?_eq_none (by omega), List.getElem?_eq_none (by rw [ints_length, Vector.length_toList]; omega)]
  · intro n hn
    obtain ⟨i, hi, rfl⟩ := List.getElem_of_mem hn
    rw [Vector.length_toList] at hi
    simp only [Vector.getElem_toList, Vector.getElem_ofFn]
    exact (hf i hi).2
/-- A field of a struct as it comes in. -/
theorem in_field {fs : Array Field} {m : Nat} {xs : List (DataW H × List MemPlace)} (hl : xs.length = fs.size) (h : ∀ (i : Nat) (f : Field), fs[i]? = some f → DataW.trod enc P w base spare held m f.type ((cs.drop f.offset).take (P.cellsOf f.type)) = xs[i]?)
    (i : Nat) (f : Field) (hi : fs[i]? = some f) {T off n : Nat} (hT : f.type = T) (ho : f.offset = off) (hn : P.cellsOf T = n) : ∃ y, DataW.trod enc P w base spare held m T ((cs.drop off).take n) = some y := by
  have h1 := h i f hi
  have hlt : i < fs.size := (Array.getElem?_eq_some_iff.1 hi).1
  rw [List.getElem?_eq_getElem (by omega), hT, ho, hn] at h1
  exact ⟨_, h1⟩
theorem seg (cs : List Value) (off n m : Nat) (h : off + n = m) : cs.drop off = (cs.drop off).take n ++ cs.drop m := by
  conv => lhs; rw [← List.take_append_drop n (cs.drop off), List.drop_drop, h]
theorem seg_last (cs : List Value) (off n : Nat) (h : cs.length = off + n) : cs.drop off = (cs.drop off).take n := by
  rw [List.take_of_length_le (by rw [List.length_drop]; omega)]
end
end Go.Proofs.Ythbcjjhlebhghaa.Walk
