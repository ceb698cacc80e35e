/- The law BisectBack of the program returns true for every input, and leaves what it is handed as it was; no conditions. -/
import Derived.Test.YthbcjjhlebhghaaRows
import Derived.Test.YthbcjjhlebhghaaW3
import Derived.Test.YthbcjjhlebhghaaD11
import Derived.Test.YthbcjjhlebhghaaC9
namespace Go.Proofs.Ythbcjjhlebhghaa.bisectBack
open Go.ChangeShapes Go.WideShapes Go.ChangeAt Go.RowKit Walk
theorem own : ownKnob Try.prog.godebug = none := by kernel_rfl
theorem laidOut : laidOutB Try.prog = true := by kernel_rfl
set_option maxHeartbeats 8000000 in
set_option maxRecDepth 100000 in
theorem lifted (os : Os) (started : os.Started) (H : Type) (enc : TypeId × Value → H) :
    ReturnsInHanded {} Try.checked os 5 .any (Rows.bisectBackSpec.pre6 enc Try.prog Try.f5 Rows.bisectBackRow.domain false) (Rows.bisectBackSpec.post enc Try.prog Try.f5 false true false false) := by
  refine returnsInHanded_of_change_sized (C := Try.checked) own started (by kernel_rfl) Try.func5
    (ChangeSpec.witness6 (enc := enc) (C := Try.checked) false ⟨#[], #[.agg #[.int .i64 0, .string ByteArray.empty, .string ByteArray.empty, .int .i64 0, .int .i64 0, .int .u8 0, .int .u8 0, .int .u8 0, .int .u8 0, .int .u8 0, .int .u8 0, .int .u8 0, .int .u8 0, .int .u8 0, .int .u8 0, .int .u8 0, .int .u8 0, .int .u8 0, .int .u8 0, .int .u8 0, .int .u8 0, .int .u8 0, .int .u8 0, .int .u8 0, .int .u8 0, .int .u8 0, .int .u8 0, .int .u8 0, .int .u8 0, .int .u8 0, .int .u8 0, .int .u8 0, .int .u8 0, .int .u8 0, .int .u8 0, .int .u8 0, .int .u8 0, .slice none 0 0], .slice none 0 0], []⟩ 8 (by kernel_rfl) (by kernel_rfl) (by kernel_rfl) (by kernel_rfl)) ?_
  intro W base args ds gs before hval0 hW hcnd hsz0 _
  have hval : ∀ (j : Nat) t v, Try.f5.params[j]? = some t → args[j]? = some v → Value.okWide Try.prog W .any base t v := hval0
  have hW' := hW
  obtain ⟨p, q, hA0, hV, rfl, hfz, hnd⟩ := hW
  have hA : DataW.TrodAll enc Try.prog W 0 (fun _ => true) true Try.f5.params.toList args.toList ds p := hA0
  rw [Try.params5] at hA hval
  obtain ⟨v0, vs0, d0, ds0, p0, q0, hargs, rfl, rfl, h0, r0⟩ := trodAll_cons hA
  obtain ⟨v1, vs1, d1, ds1, p1, q1, rfl, rfl, rfl, h1, r1⟩ := trodAll_cons r0
  obtain ⟨rfl, rfl, rfl⟩ := trodAll_nil r1
  obtain rfl : args = #[v0, v1] := by cases args; simp_all
  obtain ⟨rfl, rfl⟩ := trodVars_none hV
  have lt0 : ∀ x ∈ p0, x.block < W.heap.size := by obtain ⟨m, hm⟩ := h0; exact DataW.trod_lt m _ _ _ hm
  have k0 := h0
  obtain ⟨fu0, hf0⟩ := h0
  have hv0 := (hval 0 25 v0 rfl rfl)
  simp only [Value.okWide, Try.underlying25] at hv0
  obtain ⟨cs0, rfl, _, _⟩ := hv0
  have hg0 : DataW.trod enc Try.prog W 0 (fun _ => true) true fu0 25 cs0.toList = some (d0, p0) := hf0
  obtain ⟨xs0, m0, _, _, hl0, hx0, hall0⟩ := DataW.trod_struct Try.underlying25 hg0
  obtain ⟨y0_0, g0_0⟩ := in_field hx0 hall0 0 _ rfl (T := 3) (off := 0) (n := 1) rfl rfl (by kernel_rfl)
  obtain ⟨p0_0, e0_0, Rp0_0⟩ := in_int Try.underlying3 g0_0
  have s0_0 := seg cs0.toList 0 1 1 rfl
  rw [e0_0] at s0_0
  obtain ⟨y0_1, g0_1⟩ := in_field hx0 hall0 1 _ rfl (T := 9) (off := 1) (n := 1) rfl rfl (by kernel_rfl)
  obtain ⟨p0_1, e0_1, Rp0_1⟩ := in_string Try.underlying9 g0_1
  have s0_1 := seg cs0.toList 1 1 2 rfl
  rw [e0_1] at s0_1
  obtain ⟨y0_2, g0_2⟩ := in_field hx0 hall0 2 _ rfl (T := 9) (off := 2) (n := 1) rfl rfl (by kernel_rfl)
  obtain ⟨p0_2, e0_2, Rp0_2⟩ := in_string Try.underlying9 g0_2
  have s0_2 := seg cs0.toList 2 1 3 rfl
  rw [e0_2] at s0_2
  obtain ⟨y0_3, g0_3⟩ := in_field hx0 hall0 3 _ rfl (T := 3) (off := 3) (n := 1) rfl rfl (by kernel_rfl)
  obtain ⟨p0_3, e0_3, Rp0_3⟩ := in_int Try.underlying3 g0_3
  have s0_3 := seg cs0.toList 3 1 4 rfl
  rw [e0_3] at s0_3
  obtain ⟨y0_4, g0_4⟩ := in_field hx0 hall0 4 _ rfl (T := 3) (off := 4) (n := 1) rfl rfl (by kernel_rfl)
  obtain ⟨p0_4, e0_4, Rp0_4⟩ := in_int Try.underlying3 g0_4
  have s0_4 := seg cs0.toList 4 1 5 rfl
  rw [e0_4] at s0_4
  obtain ⟨y0_5, g0_5⟩ := in_field hx0 hall0 5 _ rfl (T := 22) (off := 5) (n := 32) rfl rfl (by kernel_rfl)
  obtain ⟨p0_5, e0_5, Bp0_5⟩ := in_array Try.underlying22 Try.underlying5 (by kernel_rfl) (by kernel_rfl) g0_5
  have s0_5 := seg cs0.toList 5 32 37 rfl
  rw [e0_5] at s0_5
  obtain ⟨y0_6, g0_6⟩ := in_field hx0 hall0 6 _ rfl (T := 23) (off := 37) (n := 1) rfl rfl (by kernel_rfl)
  obtain ⟨Ap0_6, np0_6, p0_6, e0_6, Hp0_6, Bp0_6⟩ := in_slice Try.underlying23 Try.underlying5 (by kernel_rfl) g0_6
  have s0_6 := seg_last cs0.toList 37 1 (hl0.trans (by kernel_rfl))
  rw [e0_6] at s0_6
  have E0 : cs0.toList = [Value.int .i64 p0_0] ++ ([Value.string p0_1] ++ ([Value.string p0_2] ++ ([Value.int .i64 p0_3] ++ ([Value.int .i64 p0_4] ++ (ints .u8 p0_5.toList ++ ([Value.slice Ap0_6 p0_6.length np0_6])))))) := by
    have z := s0_0
    rw [s0_1, s0_2, s0_3, s0_4, s0_5, s0_6] at z
    exact z
  obtain rfl : cs0 = ([Value.int .i64 p0_0] ++ ([Value.string p0_1] ++ ([Value.string p0_2] ++ ([Value.int .i64 p0_3] ++ ([Value.int .i64 p0_4] ++ (ints .u8 p0_5.toList ++ ([Value.slice Ap0_6 p0_6.length np0_6]))))))).toArray := Array.ext' E0
  have lt1 : ∀ x ∈ p1, x.block < W.heap.size := by obtain ⟨m, hm⟩ := h1; exact DataW.trod_lt m _ _ _ hm
  have k1 := h1
  obtain ⟨fu1, hf1⟩ := h1
  obtain ⟨a1, len1, cap1, rfl⟩ := okWide_slice Try.underlying23 (hval 1 23 v1 rfl rfl)
  have hg1 : DataW.trod enc Try.prog W 0 (fun _ => true) true fu1 23 [.slice a1 len1 cap1] = some (d1, p1) := hf1
  obtain ⟨Ap1, np1, p1, e1, Hp1, Bp1⟩ := in_slice Try.underlying23 Try.underlying5 (by kernel_rfl) hg1
  replace e1 := e1.symm
  simp only [List.cons.injEq, Value.slice.injEq, and_true] at e1
  obtain ⟨rfl, rfl, rfl⟩ := e1
  clear hA0 hval0 hsz0
  have Bp0_5 : Byt p0_5.toList := fun x hx => ⟨(Bp0_5 x hx).1, Int.lt_of_le_of_lt (Bp0_5 x hx).2 (by decide)⟩
  have Bp0_6 : Byt p0_6 := fun x hx => ⟨(Bp0_6 x hx).1, Int.lt_of_le_of_lt (Bp0_6 x hx).2 (by decide)⟩
  have Bp1 : Byt p1 := fun x hx => ⟨(Bp1 x hx).1, Int.lt_of_le_of_lt (Bp1 x hx).2 (by decide)⟩
  refine (cauterylaw21_BisectBack_walk 5000 p0_0 p0_1 p0_2 p0_3 p0_4 p0_5 p0_6 p1 Ap0_6 np0_6 Ap1 np1 W Hp0_6 Hp1 true (bisectBack_true 5000 (Nat.le_refl _) p0_0 p0_1 p0_2 p0_3 p0_4 p0_5 p0_6 Bp0_5 Bp0_6 p1 Bp1)).mono fun e W' ⟨he, fr⟩ => ?_
  have bel := fr.below
  subst he
  exact ⟨_, rfl, _, _, _, [], _, [], hW', trodAll_mk1 (shut_bool Try.underlying4 _), (trodAll_cons_mk (Below.trod laidOut (by kernel_rfl) (of_decide_eq_true (by kernel_rfl)) k0 bel lt0) (trodAll_cons_mk (Below.trod laidOut (by kernel_rfl) (of_decide_eq_true (by kernel_rfl)) k1 bel lt1) trodAll_mk0)), rfl, bel.frame _, fun h => by cases h⟩
theorem over : Rows.bisectBackRow.holds Try.pinned (OpenSpec.ofChange Rows.bisectBackSpec) :=
  OpenClaim.holds_of_wide 5 Try.f5 rfl rfl rfl rfl rfl rfl rfl ⟨rfl, rfl, rfl, rfl, rfl⟩ rfl rfl rfl rfl rfl (by kernel_rfl) Try.func5 (by kernel_rfl)
    (of_decide_eq_true (by kernel_rfl)) (by unfold Func.isWrapper; first | (rw [if_pos (by decide +kernel)]; kernel_rfl) | (rw [if_neg (by decide +kernel)]; exact ⟨rfl, rfl⟩))
    (fun os started H enc _ => lifted os started H enc)
theorem proved : Rows.BisectBackSaid := over
#print axioms proved
end Go.Proofs.Ythbcjjhlebhghaa.bisectBack
namespace Go.Proofs.Ythbcjjhlebhghaa
theorem bisectBack_holds : Rows.BisectBackSaid := bisectBack.proved
end Go.Proofs.Ythbcjjhlebhghaa
