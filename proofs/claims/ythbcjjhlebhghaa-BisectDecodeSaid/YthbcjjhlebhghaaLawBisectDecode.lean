/- The law BisectDecode of the program returns true for every input, and leaves what it is handed as it was; no conditions. -/
import Derived.Test.YthbcjjhlebhghaaRows
import Derived.Test.YthbcjjhlebhghaaW3
import Derived.Test.YthbcjjhlebhghaaD11
import Derived.Test.YthbcjjhlebhghaaC9
namespace Go.Proofs.Ythbcjjhlebhghaa.bisectDecode
open Go.ChangeShapes Go.WideShapes Go.ChangeAt Go.RowKit Walk
theorem own : ownKnob Try.prog.godebug = none := by kernel_rfl
theorem laidOut : laidOutB Try.prog = true := by kernel_rfl
set_option maxHeartbeats 8000000 in
set_option maxRecDepth 100000 in
theorem lifted (os : Os) (started : os.Started) (H : Type) (enc : TypeId × Value → H) :
    ReturnsInHanded {} Try.checked os 4 .any (Rows.bisectDecodeSpec.pre6 enc Try.prog Try.f4 Rows.bisectDecodeRow.domain false) (Rows.bisectDecodeSpec.post enc Try.prog Try.f4 false true false false) := by
  refine returnsInHanded_of_change_sized (C := Try.checked) own started (by kernel_rfl) Try.func4
    (ChangeSpec.witness6 (enc := enc) (C := Try.checked) false ⟨#[], #[.slice none 0 0], []⟩ 8 (by kernel_rfl) (by kernel_rfl) (by kernel_rfl) (by kernel_rfl)) ?_
  intro W base args ds gs before hval0 hW hcnd hsz0 _
  have hval : ∀ (j : Nat) t v, Try.f4.params[j]? = some t → args[j]? = some v → Value.okWide Try.prog W .any base t v := hval0
  have hW' := hW
  obtain ⟨p, q, hA0, hV, rfl, hfz, hnd⟩ := hW
  have hA : DataW.TrodAll enc Try.prog W 0 (fun _ => true) true Try.f4.params.toList args.toList ds p := hA0
  rw [Try.params4] at hA hval
  obtain ⟨v0, vs0, d0, ds0, p0, q0, hargs, rfl, rfl, h0, r0⟩ := trodAll_cons hA
  obtain ⟨rfl, rfl, rfl⟩ := trodAll_nil r0
  obtain rfl : args = #[v0] := by cases args; simp_all
  obtain ⟨rfl, rfl⟩ := trodVars_none hV
  have lt0 : ∀ x ∈ p0, x.block < W.heap.size := by obtain ⟨m, hm⟩ := h0; exact DataW.trod_lt m _ _ _ hm
  have k0 := h0
  obtain ⟨fu0, hf0⟩ := h0
  obtain ⟨a0, len0, cap0, rfl⟩ := okWide_slice Try.underlying23 (hval 0 23 v0 rfl rfl)
  have hg0 : DataW.trod enc Try.prog W 0 (fun _ => true) true fu0 23 [.slice a0 len0 cap0] = some (d0, p0) := hf0
  obtain ⟨Ap0, np0, p0, e0, Hp0, Bp0⟩ := in_slice Try.underlying23 Try.underlying5 (by kernel_rfl) hg0
  replace e0 := e0.symm
  simp only [List.cons.injEq, Value.slice.injEq, and_true] at e0
  obtain ⟨rfl, rfl, rfl⟩ := e0
  clear hA0 hval0 hsz0
  have Bp0 : Byt p0 := fun x hx => ⟨(Bp0 x hx).1, Int.lt_of_le_of_lt (Bp0 x hx).2 (by decide)⟩
  refine (cauterylaw21_BisectDecode_walk 5000 p0 Ap0 np0 W Hp0 true (bisectDecode_true 5000 (Nat.le_refl _) p0 Bp0)).mono fun e W' ⟨he, fr⟩ => ?_
  have bel := fr.below
  subst he
  exact ⟨_, rfl, _, _, _, [], _, [], hW', trodAll_mk1 (shut_bool Try.underlying4 _), (trodAll_cons_mk (Below.trod laidOut (by kernel_rfl) (of_decide_eq_true (by kernel_rfl)) k0 bel lt0) trodAll_mk0), rfl, bel.frame _, fun h => by cases h⟩
theorem over : Rows.bisectDecodeRow.holds Try.pinned (OpenSpec.ofChange Rows.bisectDecodeSpec) :=
  OpenClaim.holds_of_wide 4 Try.f4 rfl rfl rfl rfl rfl rfl rfl ⟨rfl, rfl, rfl, rfl, rfl⟩ rfl rfl rfl rfl rfl (by kernel_rfl) Try.func4 (by kernel_rfl)
    (of_decide_eq_true (by kernel_rfl)) (by unfold Func.isWrapper; first | (rw [if_pos (by decide +kernel)]; kernel_rfl) | (rw [if_neg (by decide +kernel)]; exact ⟨rfl, rfl⟩))
    (fun os started H enc _ => lifted os started H enc)
theorem proved : Rows.BisectDecodeSaid := over
#print axioms proved
end Go.Proofs.Ythbcjjhlebhghaa.bisectDecode
namespace Go.Proofs.Ythbcjjhlebhghaa
theorem bisectDecode_holds : Rows.BisectDecodeSaid := bisectDecode.proved
end Go.Proofs.Ythbcjjhlebhghaa
