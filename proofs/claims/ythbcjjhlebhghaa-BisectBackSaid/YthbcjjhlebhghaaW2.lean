/- Each function's call comes to what its model answers; what is handed in stays as it was. -/
import Derived.Test.YthbcjjhlebhghaaM
import Derived.Test.YthbcjjhlebhghaaProg
import Derived.Test.YthbcjjhlebhghaaW1
namespace Go.Proofs.Ythbcjjhlebhghaa.Walk
open Go
/- cautery/cauteryref02.Sum -/
theorem cauteryref02_Sum_walk (k : Nat) (p0 : List Int) (Ap0 : Option Addr) (np0 : Nat) (w : World) (hp0 : Rd w 1 Ap0 p0.length np0 (ints .u8 p0)) (r0 : Vector Int 32) (hm : cauteryref02_Sum.f k p0 = some r0) :
    Calls Try.prog 19 #[.slice Ap0 p0.length np0] w fun e w' => e = .returned (.agg (ints .u8 r0.toList).toArray) ∧ Fr [] w w' := by
  have F0 := Fr.refl [] w
  unfold cauteryref02_Sum.f at hm
  refine W.enter (args := [.slice Ap0 p0.length np0]) Try.func19 rfl (n := 46) rfl rfl ?_
  refine W.seq ?_
  refine W.region ?_
  refine WL.op rfl rfl rfl (ex_alloc' (z := .agg (ints .u8 (Vector.replicate 32 (0 : Int)).toList).toArray) (cs := ints .u8 (Vector.replicate 32 (0 : Int)).toList) (fun _ => by kernel_rfl) (by kernel_rfl)) ?_
  rintro _ w1 ⟨b1, rfl, N1⟩
  have h1 := N1.at_
  have s1 := Src.new [] (Ge.one N1.ge)
  have h2 := (hp0).fr N1.fr trivial
  have F1 := Fr.step F0 N1.fr trivial
  refine ⟨_, rfl, ?_⟩
  refine WL.nil ?_
  refine W.seq ?_
  refine W.region ?_
  obtain ⟨a1, q1, hm⟩ := of_bind hm
  refine WL.call rfl rfl rfl (ex_callI (args := []) rfl rfl rfl Try.call28) (cauteryref02_start_walk   _   a1 q1) ?_
  rintro _ w2 ⟨rfl, F2⟩
  have h3 := (h2).fr F2 trivial
  have h4 := Fr.at F2 h1 (ApL.not (x := some b1) (S := []) trivial _ rfl)
  have F3 := Fr.step F1 F2 trivial
  refine ⟨_, _, rfl, rfl, ?_⟩
  refine WL.op rfl rfl rfl (ex_alloc' (z := .agg (ints .u32 (Vector.replicate 8 (0 : Int)).toList).toArray) (cs := ints .u32 (Vector.replicate 8 (0 : Int)).toList) (fun _ => by kernel_rfl) (by kernel_rfl)) ?_
  rintro _ w3 ⟨b2, rfl, N2⟩
  have h5 := N2.at_
  have s2 := Src.new [] (Ge.one N2.ge)
  have h6 := (h3).fr N2.fr trivial
  have h7 := Fr.at N2.fr h4 (ApL.not (x := some b1) (S := []) trivial _ rfl)
  have F4 := Fr.step F3 N2.fr trivial
  refine ⟨_, rfl, ?_⟩
  refine WL.opS rfl rfl rfl (ex_storeObj rfl rfl Try.sizeOf55 h5 (Lens.all _ (ints .u32 a1.toList)) (ivl _ _) (ivl _ _) rfl (ints_one _ _)) ?_
  rintro w4 ⟨F5, h8⟩
  have h9 := (h6).fr F5 ⟨(Ap.symm (Src.ap' s2 (h3).lt trivial)), trivial⟩
  have h10 := Fr.at F5 h7 (ApL.not (x := some b1) (S := [some b2]) ⟨(Ap.symm (Src.ap' s2 (Lt.one (at_lt h4)) trivial)), trivial⟩ _ rfl)
  have F6 := Fr.step F4 F5 ⟨(In0.src s2 F3.size trivial), trivial⟩
  refine ⟨_, rfl, ?_⟩
  refine WL.nil ?_
  refine W.seq ?_
  refine W.region ?_
  obtain ⟨l1, q2, hm⟩ := of_bind hm
  refine WL.call rfl rfl rfl (ex_callI (args := []) rfl rfl rfl Try.call29) (cauteryref02_steps_walk   _   l1 q2) ?_
  rintro _ w5 ⟨A1, n1, rfl, F7, h11, s3⟩
  have h12 := (h9).fr F7 trivial
  have h13 := Fr.at F7 h10 (ApL.not (x := some b1) (S := []) trivial _ rfl)
  have h14 := Fr.at F7 h8 (ApL.not (x := some b2) (S := []) trivial _ rfl)
  have F8 := Fr.step F6 F7 trivial
  refine ⟨_, _, rfl, rfl, ?_⟩
  refine WL.batch 1 [0, 2, 3, 4] (E' := [(0, .slice Ap0 p0.length np0), (2, .pointer (some ⟨b1, 0, none⟩)), (3, .pointer (some ⟨b2, 0, none⟩)), (4, .slice A1 l1.length n1)]) (by kernel_rfl) ?_
  refine WL.nil ?_
  refine W.seq ?_
  refine W.region ?_
  refine WL.batch 1 [2, 3, 4, 11] (E' := [(2, .pointer (some ⟨b1, 0, none⟩)), (3, .pointer (some ⟨b2, 0, none⟩)), (4, .slice A1 l1.length n1), (11, .slice Ap0 p0.length np0)]) (by kernel_rfl) ?_
  obtain ⟨l2, q3, hm⟩ := of_bind hm
  refine WL.call rfl rfl rfl (ex_callI (args := [.slice Ap0 p0.length np0]) rfl rfl rfl Try.call30) (cauteryref02_padded_walk k p0 Ap0 np0 _ h12  l2 q3) ?_
  rintro _ w6 ⟨A2, n2, rfl, F9, h15, s4⟩
  have h16 := (h12).fr F9 trivial
  have h17 := Fr.at F9 h13 (ApL.not (x := some b1) (S := []) trivial _ rfl)
  have h18 := Fr.at F9 h14 (ApL.not (x := some b2) (S := []) trivial _ rfl)
  have h19 := (h11).fr F9 trivial
  have F10 := Fr.step F8 F9 trivial
  refine ⟨_, _, rfl, rfl, ?_⟩
  refine WL.batch 1 [2, 3, 4, 5] (E' := [(2, .pointer (some ⟨b1, 0, none⟩)), (3, .pointer (some ⟨b2, 0, none⟩)), (4, .slice A1 l1.length n1), (5, .slice A2 l2.length n2)]) (by kernel_rfl) ?_
  refine WL.nil ?_
  refine W.seq ?_
  refine W.seq ?_
  refine W.region ?_
  refine WL.batch 1 [2, 3, 4, 5, 6] (E' := [(2, .pointer (some ⟨b1, 0, none⟩)), (3, .pointer (some ⟨b2, 0, none⟩)), (4, .slice A1 l1.length n1), (5, .slice A2 l2.length n2), (6, .int .i64 0)]) (by kernel_rfl) ?_
  refine WL.nil ?_
  obtain ⟨ex1, hm1, hm2⟩ := of_bind hm
  refine W.joinN (fun E w7 => ∃ (a2 : Vector Int 8), Env.sub E [(2, .pointer (some ⟨b1, 0, none⟩)), (3, .pointer (some ⟨b2, 0, none⟩))] ∧ Rd w7 1 Ap0 p0.length np0 (ints .u8 p0) ∧ w7.heap[b1]? = some (.cells (ints .u8 (Vector.replicate 32 (0 : Int)).toList).toArray 22 (0, 0)) ∧ w7.heap[b2]? = some (.cells (ints .u32 a2.toList).toArray 55 (0, 0)) ∧ Own w7 54 1 A1 l1.length n1 (ints .u32 l1) ∧ Own w7 5 1 A2 l2.length n2 (ints .u8 l2) ∧ Fr [] w w7 ∧ a2 = ex1) ?_ (fun rest1 => ?_)
  · rintro _ w7 ⟨a2, hE, h20, h21, h22, h23, h24, F11, rfl⟩
    replace hm := hm2
    clear hm1
    refine W.sub ?_ hE
    refine W.seq ?_
    refine W.region ?_
    refine WL.batch 1 [2, 3, 27] (E' := [(2, .pointer (some ⟨b1, 0, none⟩)), (3, .pointer (some ⟨b2, 0, none⟩)), (27, .agg (ints .u8 (#v[0, 0, 0, 0, 0, 0, 0, 0, 0, 0, 0, 0, 0, 0, 0, 0, 0, 0, 0, 0, 0, 0, 0, 0, 0, 0, 0, 0, 0, 0, 0, 0] : Vector Int 32).toList).toArray)]) (by kernel_rfl) ?_
    refine WL.op rfl rfl rfl (ex_alloc' (z := .agg (ints .u8 (Vector.replicate 32 (0 : Int)).toList).toArray) (cs := ints .u8 (Vector.replicate 32 (0 : Int)).toList) (fun _ => by kernel_rfl) (by kernel_rfl)) ?_
    rintro _ w8 ⟨b3, rfl, N3⟩
    have h25 := N3.at_
    have s5 := Src.new [] (Ge.one N3.ge)
    have h26 := (h20).fr N3.fr trivial
    have h27 := Fr.at N3.fr h21 (ApL.not (x := some b1) (S := []) trivial _ rfl)
    have h28 := Fr.at N3.fr h22 (ApL.not (x := some b2) (S := []) trivial _ rfl)
    have h29 := (h23).fr N3.fr trivial
    have h30 := (h24).fr N3.fr trivial
    have F12 := Fr.step F11 N3.fr trivial
    refine ⟨_, rfl, ?_⟩
    refine WL.opS rfl rfl rfl (ex_storeObj rfl rfl Try.sizeOf22 h25 (Lens.all _ (ints .u8 (#v[0, 0, 0, 0, 0, 0, 0, 0, 0, 0, 0, 0, 0, 0, 0, 0, 0, 0, 0, 0, 0, 0, 0, 0, 0, 0, 0, 0, 0, 0, 0, 0] : Vector Int 32).toList)) (ivl _ _) (ivl _ _) rfl (ints_one _ _)) ?_
    rintro w9 ⟨F13, h31⟩
    have h32 := (h26).fr F13 ⟨(Ap.symm (Src.ap' s5 (h20).lt trivial)), trivial⟩
    have h33 := Fr.at F13 h27 (ApL.not (x := some b1) (S := [some b3]) ⟨(Ap.symm (Src.ap' s5 (Lt.one (at_lt h21)) trivial)), trivial⟩ _ rfl)
    have h34 := Fr.at F13 h28 (ApL.not (x := some b2) (S := [some b3]) ⟨(Ap.symm (Src.ap' s5 (Lt.one (at_lt h22)) trivial)), trivial⟩ _ rfl)
    have h35 := (h29).fr F13 ⟨(Ap.symm (Src.ap' s5 (h23).lt trivial)), trivial⟩
    have h36 := (h30).fr F13 ⟨(Ap.symm (Src.ap' s5 (h24).lt trivial)), trivial⟩
    have F14 := Fr.step F12 F13 ⟨(In0.src s5 F11.size trivial), trivial⟩
    refine ⟨_, rfl, ?_⟩
    obtain ⟨a3, q4, hm⟩ := of_let hm
    rw [q4] at h31
    refine WL.nil ?_
    refine W.seq ?_
    refine W.seq ?_
    refine W.region ?_
    refine WL.batch 1 [2, 3, 7, 8] (E' := [(2, .pointer (some ⟨b1, 0, none⟩)), (3, .pointer (some ⟨b2, 0, none⟩)), (7, .pointer (some ⟨b3, 0, none⟩)), (8, .int .i64 0)]) (by kernel_rfl) ?_
    refine WL.nil ?_
    obtain ⟨ex2, hm3, hm4⟩ := of_bind hm
    refine W.joinN (fun E w10 => ∃ (a4 : Vector Int 32), Env.sub E [(2, .pointer (some ⟨b1, 0, none⟩)), (7, .pointer (some ⟨b3, 0, none⟩))] ∧ Rd w10 1 Ap0 p0.length np0 (ints .u8 p0) ∧ w10.heap[b1]? = some (.cells (ints .u8 (Vector.replicate 32 (0 : Int)).toList).toArray 22 (0, 0)) ∧ w10.heap[b2]? = some (.cells (ints .u32 a2.toList).toArray 55 (0, 0)) ∧ Own w10 54 1 A1 l1.length n1 (ints .u32 l1) ∧ Own w10 5 1 A2 l2.length n2 (ints .u8 l2) ∧ w10.heap[b3]? = some (.cells (ints .u8 a4.toList).toArray 22 (0, 0)) ∧ Fr [] w w10 ∧ a4 = ex2) ?_ (fun rest2 => ?_)
    · rintro _ w10 ⟨a4, hE, h37, h38, h39, h40, h41, h42, F15, rfl⟩
      replace hm := hm4
      clear hm3
      refine W.sub ?_ hE
      refine W.seq ?_
      refine W.region ?_
      refine WL.value (.agg (ints .u8 a4.toList).toArray) rfl rfl rfl (ex_loadAgg Try.underlying22 rfl Try.sizeOf22 (ivl _ _) rfl h42 (Lens.all _ (ints .u8 a4.toList))) rfl ?_
      refine WL.opS rfl rfl rfl (ex_storeObj rfl rfl Try.sizeOf22 h38 (Lens.all _ (ints .u8 a4.toList)) (ivl _ _) (ivl _ _) rfl (ints_one _ _)) ?_
      rintro w11 ⟨F16, h43⟩
      have h44 := (h37).fr F16 ⟨(Ap.symm (Src.ap' s1 (hp0).lt trivial)), trivial⟩
      have h45 := Fr.at F16 h39 (ApL.not (x := some b2) (S := [some b1]) ⟨(Src.ap' s2 (Lt.one (at_lt h4)) trivial), trivial⟩ _ rfl)
      have h46 := (h40).fr F16 ⟨(Src.ap' s3 (Lt.one (at_lt h10)) trivial), trivial⟩
      have h47 := (h41).fr F16 ⟨(Src.ap' s4 (Lt.one (at_lt h13)) trivial), trivial⟩
      have h48 := Fr.at F16 h42 (ApL.not (x := some b3) (S := [some b1]) ⟨(Src.ap' s5 (Lt.one (at_lt h21)) trivial), trivial⟩ _ rfl)
      have F17 := Fr.step F15 F16 ⟨(In0.src s1 (Nat.le_refl _) trivial), trivial⟩
      refine ⟨_, rfl, ?_⟩
      refine WL.nil ?_
      refine W.ret ?_
      obtain rfl := Option.some.inj hm
      exact ⟨_, ⟨_, _, _, rfl, rfl, (loadVar_aggN Try.underlying22 rfl Try.sizeOf22 (ivl _ _) h43 (Lens.all _ (ints .u8 a4.toList))), rfl⟩, ⟨rfl, F17⟩⟩
    · replace hm := hm3
      clear hm3
      refine W.block ?_
      refine W.loop (fun j1 E w12 => ∃ (x1 : Int) (a5 : Vector Int 32), Env.sub E [(2, .pointer (some ⟨b1, 0, none⟩)), (3, .pointer (some ⟨b2, 0, none⟩)), (7, .pointer (some ⟨b3, 0, none⟩)), (8, .int .i64 x1)] ∧ Rd w12 1 Ap0 p0.length np0 (ints .u8 p0) ∧ w12.heap[b1]? = some (.cells (ints .u8 (Vector.replicate 32 (0 : Int)).toList).toArray 22 (0, 0)) ∧ w12.heap[b2]? = some (.cells (ints .u32 a2.toList).toArray 55 (0, 0)) ∧ Own w12 54 1 A1 l1.length n1 (ints .u32 l1) ∧ Own w12 5 1 A2 l2.length n2 (ints .u8 l2) ∧ w12.heap[b3]? = some (.cells (ints .u8 a5.toList).toArray 22 (0, 0)) ∧ Fr [] w w12 ∧ cauteryref02_Sum.l0 a2 j1 x1 a5 = some ex2) ?_ k ?_ ?_
      · rintro _ _ ⟨_, _, _, _, _, _, _, _, _, _, hz⟩
        exact absurd hz (by simp [cauteryref02_Sum.l0])
      · exact ⟨0, a3, ⟨rfl, rfl, rfl, rfl, trivial⟩, h32, h33, h34, h35, h36, h31, F14, hm⟩
      · rintro j1 _ w12 ⟨x1, a5, hE, h49, h50, h51, h52, h53, h54, F18, hm⟩
        rw [cauteryref02_Sum.l0] at hm
        refine W.sub ?_ hE
        refine W.seq ?_
        refine W.seq ?_
        refine W.region ?_
        refine WL.batch 2 [2, 3, 7, 8, 29] (E' := [(2, .pointer (some ⟨b1, 0, none⟩)), (3, .pointer (some ⟨b2, 0, none⟩)), (7, .pointer (some ⟨b3, 0, none⟩)), (8, .int .i64 x1), (29, .bool (decide (x1 < (32 : Int))))]) (by kernel_rfl) ?_
        refine WL.nil ?_
        rcases of_cond hm with ⟨c1, hm⟩ | ⟨c1, hm⟩
        · refine W.condT _ rfl c1 ?_
          refine W.skip ?_
          refine W.seq ?_
          refine W.block ?_
          refine W.region ?_
          refine WL.batch 3 [2, 3, 7, 8, 32, 34] (E' := [(2, .pointer (some ⟨b1, 0, none⟩)), (3, .pointer (some ⟨b2, 0, none⟩)), (7, .pointer (some ⟨b3, 0, none⟩)), (8, .int .i64 x1), (32, .int .i64 x1), (34, .int .i64 (wquo .i64 x1 4))]) (by kernel_rfl) ?_
          obtain ⟨x2, q5, hm⟩ := of_let hm
          rw [q5]
          obtain ⟨⟨c2, c3⟩, hm⟩ := of_guard hm
          refine WL.value (.pointer (some ⟨b2, 0 + Int.toNat x2 * 1, none⟩)) rfl rfl rfl (ex_indexAddrArr Try.underlying55 Try.sizeOf54 rfl rfl c2 c3) rfl ?_
          refine WL.value (.int .u32 (vget a2 x2)) rfl rfl rfl (ex_loadOne Try.underlying54 rfl rfl h51 (Lens.comp (Lens.all _ (ints .u32 (vset a2 x2 (vget a2 x2)).toList)) (Lens.vec c2 c3 (vget a2 x2)) rfl)) rfl ?_
          refine WL.batch 5 [2, 3, 7, 8, 32, 36, 41] (E' := [(2, .pointer (some ⟨b1, 0, none⟩)), (3, .pointer (some ⟨b2, 0, none⟩)), (7, .pointer (some ⟨b3, 0, none⟩)), (8, .int .i64 x1), (32, .int .i64 x1), (36, .int .u32 (vget a2 x2)), (41, .int .u64 (IntKind.wrap .u64 (wsub .i64 24 (wmul .i64 8 (wrem .i64 x1 4)))))]) (by kernel_rfl) ?_
          obtain ⟨x3, q6, hm⟩ := of_let hm
          rw [q6]
          obtain ⟨x4, q7, hm⟩ := of_let hm
          rw [q7]
          obtain ⟨c4, hm⟩ := of_guard hm
          refine WL.value (.int .u32 (wshr .u32 x4 x3)) rfl rfl rfl (ex_shr rfl rfl c4) rfl ?_
          refine WL.batch 1 [2, 3, 7, 8, 32, 43] (E' := [(2, .pointer (some ⟨b1, 0, none⟩)), (3, .pointer (some ⟨b2, 0, none⟩)), (7, .pointer (some ⟨b3, 0, none⟩)), (8, .int .i64 x1), (32, .int .i64 x1), (43, .int .u8 (IntKind.wrap .u8 (wshr .u32 x4 x3)))]) (by kernel_rfl) ?_
          obtain ⟨x5, q8, hm⟩ := of_let hm
          rw [q8]
          obtain ⟨⟨c5, c6⟩, hm⟩ := of_guard hm
          refine WL.value (.pointer (some ⟨b3, 0 + Int.toNat x1 * 1, none⟩)) rfl rfl rfl (ex_indexAddrArr Try.underlying22 Try.sizeOf5 rfl rfl c5 c6) rfl ?_
          refine WL.opS rfl rfl rfl (ex_storeObj rfl rfl Try.sizeOf5 h54 (Lens.comp (Lens.all _ (ints .u8 (vset a5 x1 x5).toList)) (Lens.vec c5 c6 x5) rfl) rfl rfl rfl (one_sing rfl)) ?_
          rintro w13 ⟨F19, h55⟩
          have h56 := (h49).fr F19 ⟨(Ap.symm (Src.ap' s5 (h20).lt trivial)), trivial⟩
          have h57 := Fr.at F19 h50 (ApL.not (x := some b1) (S := [some b3]) ⟨(Ap.symm (Src.ap' s5 (Lt.one (at_lt h21)) trivial)), trivial⟩ _ rfl)
          have h58 := Fr.at F19 h51 (ApL.not (x := some b2) (S := [some b3]) ⟨(Ap.symm (Src.ap' s5 (Lt.one (at_lt h22)) trivial)), trivial⟩ _ rfl)
          have h59 := (h52).fr F19 ⟨(Ap.symm (Src.ap' s5 (h23).lt trivial)), trivial⟩
          have h60 := (h53).fr F19 ⟨(Ap.symm (Src.ap' s5 (h24).lt trivial)), trivial⟩
          have F20 := Fr.step F18 F19 ⟨(In0.src s5 F11.size trivial), trivial⟩
          refine ⟨_, rfl, ?_⟩
          obtain ⟨a6, q9, hm⟩ := of_let hm
          rw [q9] at h55
          refine WL.nil ?_
          refine W.region ?_
          refine WL.batch 3 [2, 3, 7, 8] (E' := [(2, .pointer (some ⟨b1, 0, none⟩)), (3, .pointer (some ⟨b2, 0, none⟩)), (7, .pointer (some ⟨b3, 0, none⟩)), (8, .int .i64 (wadd .i64 x1 1))]) (by kernel_rfl) ?_
          obtain ⟨x6, q10, hm⟩ := of_let hm
          rw [q10]
          refine WL.nil ?_
          exact ⟨x6, a6, ⟨rfl, rfl, rfl, rfl, trivial⟩, h56, h57, h58, h59, h60, h55, F20, hm⟩
        · refine W.condF _ rfl c1 ?_
          refine W.exit ?_
          exact rest2 _ _ ⟨a5, ⟨rfl, rfl, trivial⟩, h49, h50, h51, h52, h53, h54, F18, (Option.some.inj hm)⟩
  · replace hm := hm1
    clear hm1
    refine W.block ?_
    refine W.loop (fun j2 E w14 => ∃ (x7 : Int) (a7 : Vector Int 8), Env.sub E [(2, .pointer (some ⟨b1, 0, none⟩)), (3, .pointer (some ⟨b2, 0, none⟩)), (4, .slice A1 l1.length n1), (5, .slice A2 l2.length n2), (6, .int .i64 x7)] ∧ Rd w14 1 Ap0 p0.length np0 (ints .u8 p0) ∧ w14.heap[b1]? = some (.cells (ints .u8 (Vector.replicate 32 (0 : Int)).toList).toArray 22 (0, 0)) ∧ w14.heap[b2]? = some (.cells (ints .u32 a7.toList).toArray 55 (0, 0)) ∧ Own w14 54 1 A1 l1.length n1 (ints .u32 l1) ∧ Own w14 5 1 A2 l2.length n2 (ints .u8 l2) ∧ Fr [] w w14 ∧ cauteryref02_Sum.l1 l1 l2 k j2 x7 a7 = some ex1) ?_ k ?_ ?_
    · rintro _ _ ⟨_, _, _, _, _, _, _, _, _, hz⟩
      exact absurd hz (by simp [cauteryref02_Sum.l1])
    · exact ⟨0, a1, ⟨rfl, rfl, rfl, rfl, rfl, trivial⟩, h16, h17, h18, h19, h15, F10, hm⟩
    · rintro j2 _ w14 ⟨x7, a7, hE, h61, h62, h63, h64, h65, F21, hm⟩
      rw [cauteryref02_Sum.l1] at hm
      refine W.sub ?_ hE
      refine W.seq ?_
      refine W.seq ?_
      refine W.region ?_
      refine WL.batch 4 [2, 3, 4, 5, 6, 16] (E' := [(2, .pointer (some ⟨b1, 0, none⟩)), (3, .pointer (some ⟨b2, 0, none⟩)), (4, .slice A1 l1.length n1), (5, .slice A2 l2.length n2), (6, .int .i64 x7), (16, .bool (decide (x7 < ((l2.length : Int) : Int))))]) (by kernel_rfl) ?_
      refine WL.nil ?_
      rcases of_cond hm with ⟨c7, hm⟩ | ⟨c7, hm⟩
      · refine W.condT _ rfl c7 ?_
        refine W.skip ?_
        refine W.seq ?_
        refine W.block ?_
        refine W.regionDw (N := 9) Try_mixed rfl ?_
        intro w15 F22
        have h66 := (h61).fr F22 trivial
        have h67 := Fr.at F22 h62 (ApL.not (x := some b1) (S := []) trivial _ rfl)
        have h68 := Fr.at F22 h63 (ApL.not (x := some b2) (S := []) trivial _ rfl)
        have h69 := (h64).fr F22 trivial
        have h70 := (h65).fr F22 trivial
        have F23 := Fr.step F21 F22 trivial
        refine WD.batch (f' := 4) [1, 2, 3, 4, 6] #[false, true, true, true, true, false, true, false, false] [2, 3, 4, 5, 6, 20, 21, 23, 25] rfl (E' := [(2, .pointer (some ⟨b1, 0, none⟩)), (3, .pointer (some ⟨b2, 0, none⟩)), (4, .slice A1 l1.length n1), (5, .slice A2 l2.length n2), (6, .int .i64 x7), (20, .slice A2 l2.length n2), (21, .int .i64 x7), (23, .int .i64 (wadd .i64 x7 64)), (25, .slice A1 l1.length n1)]) (by kernel_rfl) ?_
        obtain ⟨x8, q11, hm⟩ := of_let hm
        rw [q11]
        refine WD.load 0 [7, 8] [7, 8] (.agg (ints .u32 a7.toList).toArray) rfl (by kernel_rfl) rfl rfl rfl (ex_loadAgg Try.underlying55 rfl Try.sizeOf55 (ivl _ _) rfl h68 (Lens.all _ (ints .u32 a7.toList))) ?_
        obtain ⟨⟨c8, c9, c10⟩, hm⟩ := of_guard hm
        obtain ⟨l3, q12, hm⟩ := of_let hm
        refine WD.opU 5 rfl (by kernel_rfl) rfl rfl (ex_sliceU (k1 := .i64) (k2 := .i64) (k := .u8) Try.underlying23 Try.sizeOf5 rfl (.inl rfl) (.inl rfl) ⟨c8, c9, c10⟩ (h70).rd q12) ?_
        rintro _ ⟨A3, n3, rfl, h71, s6⟩
        refine ⟨_, rfl, ?_⟩
        have s7 := Src.trans' s6 (Nat.le_refl _) (l' := [ablk A2]) ⟨Src.rblk (Src.self (by simp)), trivial⟩
        obtain ⟨a8, q13, hm⟩ := of_bind hm
        refine WD.call 7 (by kernel_rfl) rfl rfl rfl rfl (ex_callI (args := [.agg (ints .u32 a7.toList).toArray, .slice A3 l3.length n3, .slice A1 l1.length n1]) rfl rfl rfl Try.call31) (cauteryref02_block_walk k a7 l3 l1 A3 n3 A1 n1 _ h71 (h69).rd  a8 q13) ?_
        rintro _ w16 ⟨rfl, F24⟩
        have h72 := (h66).fr F24 trivial
        have h73 := Fr.at F24 h67 (ApL.not (x := some b1) (S := []) trivial _ rfl)
        have h74 := Fr.at F24 h68 (ApL.not (x := some b2) (S := []) trivial _ rfl)
        have h75 := (h69).fr F24 trivial
        have h76 := (h70).fr F24 trivial
        have h77 := (h71).fr F24 trivial
        have F25 := Fr.step F23 F24 trivial
        refine ⟨_, _, rfl, rfl, trivial, ?_⟩
        refine WD.opS 8 (by kernel_rfl) rfl rfl rfl rfl (ex_storeObj rfl rfl Try.sizeOf55 h74 (Lens.all _ (ints .u32 a8.toList)) (ivl _ _) (ivl _ _) rfl (ints_one _ _)) ?_
        rintro w17 ⟨F26, h78⟩
        have h79 := (h72).fr F26 ⟨(Ap.symm (Src.ap' s2 (h3).lt trivial)), trivial⟩
        have h80 := Fr.at F26 h73 (ApL.not (x := some b1) (S := [some b2]) ⟨(Ap.symm (Src.ap' s2 (Lt.one (at_lt h4)) trivial)), trivial⟩ _ rfl)
        have h81 := (h75).fr F26 ⟨(Src.ap' s3 (Lt.one (at_lt h8)) trivial), trivial⟩
        have h82 := (h76).fr F26 ⟨(Src.ap' s4 (Lt.one (at_lt h14)) trivial), trivial⟩
        have h83 := (h77).fr F26 ⟨(Src.ap' s7 (Lt.one (at_lt h68)) ⟨(Src.ap' s4 (Lt.one (at_lt h14)) trivial), trivial⟩), trivial⟩
        have F27 := Fr.step F25 F26 ⟨(In0.src s2 F3.size trivial), trivial⟩
        refine ⟨_, rfl, trivial, ?_⟩
        refine WD.end_ (by kernel_rfl) ?_
        refine W.region ?_
        refine WL.batch 3 [2, 3, 4, 5, 6] (E' := [(2, .pointer (some ⟨b1, 0, none⟩)), (3, .pointer (some ⟨b2, 0, none⟩)), (4, .slice A1 l1.length n1), (5, .slice A2 l2.length n2), (6, .int .i64 (wadd .i64 x7 64))]) (by kernel_rfl) ?_
        obtain ⟨x9, q14, hm⟩ := of_let hm
        rw [q14]
        refine WL.nil ?_
        exact ⟨x9, a8, ⟨rfl, rfl, rfl, rfl, rfl, trivial⟩, h79, h80, h78, h81, h82, F27, hm⟩
      · refine W.condF _ rfl c7 ?_
        refine W.exit ?_
        exact rest1 _ _ ⟨a7, ⟨rfl, rfl, trivial⟩, h61, h62, h63, h64, h65, F21, (Option.some.inj hm)⟩

/- cautery/cauteryref21.May -/
theorem cauteryref21_May_walk (k : Nat) (p0_0 : Int) (p0_1 : ByteArray) (p0_2 : ByteArray) (p0_3 : Int) (p0_4 : Int) (p0_5 : Vector Int 32) (p0_6 : List Int) (Ap0_6 : Option Addr) (np0_6 : Nat) (w : World) (hp0_6 : Rd w 1 Ap0_6 p0_6.length np0_6 (ints .u8 p0_6)) (r0 : Bool) (hm : cauteryref21_May.f k p0_0 p0_1 p0_2 p0_3 p0_4 p0_5 p0_6 = some r0) :
    Calls Try.prog 12 #[.agg ([Value.int .i64 p0_0] ++ ([Value.string p0_1] ++ ([Value.string p0_2] ++ ([Value.int .i64 p0_3] ++ ([Value.int .i64 p0_4] ++ (ints .u8 p0_5.toList ++ ([Value.slice Ap0_6 p0_6.length np0_6]))))))).toArray] w fun e w' => e = .returned (.bool r0) ∧ Fr [] w w' := by
  have F0 := Fr.refl [] w
  unfold cauteryref21_May.f at hm
  refine W.enter (args := [.agg ([Value.int .i64 p0_0] ++ ([Value.string p0_1] ++ ([Value.string p0_2] ++ ([Value.int .i64 p0_3] ++ ([Value.int .i64 p0_4] ++ (ints .u8 p0_5.toList ++ ([Value.slice Ap0_6 p0_6.length np0_6]))))))).toArray]) Try.func12 rfl (n := 62) rfl rfl ?_
  refine W.seq ?_
  refine W.region ?_
  refine WL.op rfl rfl rfl (ex_box' (cs := [Value.int .i64 p0_0] ++ ([Value.string p0_1] ++ ([Value.string p0_2] ++ ([Value.int .i64 p0_3] ++ ([Value.int .i64 p0_4] ++ (ints .u8 p0_5.toList ++ ([Value.slice Ap0_6 p0_6.length np0_6]))))))) rfl rfl) ?_
  rintro _ w1 ⟨b1, rfl, N1⟩
  have h1 := N1.at_
  have s1 := Src.new [] (Ge.one N1.ge)
  have h2 := (hp0_6).fr N1.fr trivial
  have F1 := Fr.step F0 N1.fr trivial
  refine ⟨_, rfl, ?_⟩
  refine WL.batch 1 [1] (E' := [(1, .pointer (some ⟨b1, 0, none⟩))]) (by kernel_rfl) ?_
  refine WL.nil ?_
  refine W.seq ?_
  obtain ⟨ex1, hm1, hm2⟩ := of_bind hm
  refine W.joinN (fun E w2 => Env.sub E [(1, .pointer (some ⟨b1, 0, none⟩))] ∧ Rd w2 1 Ap0_6 p0_6.length np0_6 (ints .u8 p0_6) ∧ w2.heap[b1]? = some (.cells ([Value.int .i64 p0_0] ++ ([Value.string p0_1] ++ ([Value.string p0_2] ++ ([Value.int .i64 p0_3] ++ ([Value.int .i64 p0_4] ++ (ints .u8 p0_5.toList ++ ([Value.slice Ap0_6 p0_6.length np0_6]))))))).toArray 32 (0, 0)) ∧ Fr [] w w2 ∧ Ex.go () = ex1) ?_ (fun rest1 => ?_)
  · rintro _ w2 ⟨hE, h3, h4, F2, rfl⟩
    replace hm := hm2
    clear hm1
    refine W.sub ?_ hE
    refine W.seq ?_
    refine W.seq ?_
    refine W.region ?_
    refine WL.batch 1 [1, 30] (E' := [(1, .pointer (some ⟨b1, 0, none⟩)), (30, .pointer (some ⟨b1, 0, none⟩))]) (by kernel_rfl) ?_
    refine WL.value (.int .i64 p0_0) rfl rfl rfl (ex_loadOne Try.underlying3 rfl rfl h4 (Lens.head _ ([Value.int .i64 p0_0]) _)) rfl ?_
    refine WL.batch 1 [1, 32] (E' := [(1, .pointer (some ⟨b1, 0, none⟩)), (32, .bool (p0_0 == (1 : Int)))]) (by kernel_rfl) ?_
    refine WL.nil ?_
    rcases of_cond hm with ⟨c1, hm⟩ | ⟨c1, hm⟩
    · refine W.condT _ rfl c1 ?_
      refine W.seq ?_
      refine W.region ?_
      refine WL.batch 1 [33] (E' := [(33, .pointer (some ⟨b1, 37, none⟩))]) (by kernel_rfl) ?_
      refine WL.value (.slice Ap0_6 p0_6.length np0_6) rfl rfl rfl (ex_loadOne Try.underlying23 rfl rfl h4 (Lens.skip rfl (Lens.skip rfl (Lens.skip rfl (Lens.skip rfl (Lens.skip rfl (Lens.skip (ivl _ _) (Lens.all _ ([Value.slice Ap0_6 p0_6.length np0_6])) rfl) rfl) rfl) rfl) rfl) rfl)) rfl ?_
      refine WL.batch 3 [2] (E' := [(2, .bool ((p0_6.length : Int) == (0 : Int)))]) (by kernel_rfl) ?_
      refine WL.nil ?_
      refine W.ret ?_
      obtain rfl := Option.some.inj hm
      exact ⟨_, ⟨_, _, rfl, rfl, rfl⟩, ⟨rfl, F2⟩⟩
    · refine W.condF _ rfl c1 ?_
      refine W.skip ?_
      refine W.seq ?_
      refine W.regionDw (N := 26) Try_mixed rfl ?_
      intro w3 F3
      have h5 := (h3).fr F3 trivial
      have h6 := Fr.at F3 h4 (ApL.not (x := some b1) (S := []) trivial _ rfl)
      have F4 := Fr.step F2 F3 trivial
      refine WD.batch (f' := 25) [0] #[true, false, false, false, false, false, false, false, false, false, false, false, false, false, false, false, false, false, false, false, false, false, false, false, false, false] [1, 37] rfl (E' := [(1, .pointer (some ⟨b1, 0, none⟩)), (37, .pointer (some ⟨b1, 0, none⟩))]) (by kernel_rfl) ?_
      refine WD.load 1 [20] [2, 3, 4, 5, 6, 7, 8, 9, 10, 11, 12, 13, 14, 15, 16, 17, 18, 19, 20, 21, 22, 23, 24, 25] (.int .i64 p0_0) rfl (by kernel_rfl) rfl rfl rfl (ex_loadOne Try.underlying3 rfl rfl h6 (Lens.head _ ([Value.int .i64 p0_0]) _)) ?_
      refine WD.batch (f' := 22) [2, 3] #[true, true, true, true, false, false, false, false, false, false, false, false, false, false, false, false, false, false, false, false, false, false, false, false, false, false] [1, 40] rfl (E' := [(1, .pointer (some ⟨b1, 0, none⟩)), (40, .bool (p0_0 == (2 : Int)))]) (by kernel_rfl) ?_
      rcases of_cond hm with ⟨c2, hm⟩ | ⟨c2, hm⟩
      · rw [c2]
        refine WD.batch (f' := 20) [4, 6] #[true, true, true, true, true, false, true, false, false, false, false, false, false, false, false, false, false, false, false, false, false, false, false, false, false, false] [1, 40, 41, 43] rfl (E' := [(1, .pointer (some ⟨b1, 0, none⟩)), (40, .bool true), (41, .pointer (some ⟨b1, 4, none⟩)), (43, .pointer (some ⟨b1, 3, none⟩))]) (by kernel_rfl) ?_
        refine WD.load 5 [20] [9, 10, 11, 12, 13, 14, 15, 16, 17, 18, 19, 20, 21, 22, 23, 24, 25] (.int .i64 p0_4) rfl (by kernel_rfl) rfl rfl rfl (ex_loadOne Try.underlying3 rfl rfl h6 (Lens.skip rfl (Lens.skip rfl (Lens.skip rfl (Lens.skip rfl (Lens.head _ ([Value.int .i64 p0_4]) _) rfl) rfl) rfl) rfl)) ?_
        refine WD.load 7 [20] [8, 9, 10, 11, 12, 13, 14, 15, 16, 17, 18, 19, 20, 21, 22, 23, 24, 25] (.int .i64 p0_3) rfl (by kernel_rfl) rfl rfl rfl (ex_loadOne Try.underlying3 rfl rfl h6 (Lens.skip rfl (Lens.skip rfl (Lens.skip rfl (Lens.head _ ([Value.int .i64 p0_3]) _) rfl) rfl) rfl)) ?_
        refine WD.batch (f' := 14) [8, 9, 10, 11] #[true, true, true, true, true, true, true, true, true, true, true, true, false, false, false, false, false, false, false, false, false, false, false, false, false, false] [1, 48] rfl (E' := [(1, .pointer (some ⟨b1, 0, none⟩)), (48, .bool (p0_4 == (wadd .i64 p0_3 1 : Int)))]) (by kernel_rfl) ?_
        rcases of_cond hm with ⟨c3, hm⟩ | ⟨c3, hm⟩
        · rw [c3]
          refine WD.batch (f' := 13) [12] #[true, true, true, true, true, true, true, true, true, true, true, true, true, false, false, false, false, false, false, false, false, false, false, false, false, false] [1, 48, 49] rfl (E' := [(1, .pointer (some ⟨b1, 0, none⟩)), (48, .bool true), (49, .pointer (some ⟨b1, 37, none⟩))]) (by kernel_rfl) ?_
          refine WD.load 13 [20] [14, 15, 16, 17, 18, 19, 20, 21, 22, 23, 24, 25] (.slice Ap0_6 p0_6.length np0_6) rfl (by kernel_rfl) rfl rfl rfl (ex_loadOne Try.underlying23 rfl rfl h6 (Lens.skip rfl (Lens.skip rfl (Lens.skip rfl (Lens.skip rfl (Lens.skip rfl (Lens.skip (ivl _ _) (Lens.all _ ([Value.slice Ap0_6 p0_6.length np0_6])) rfl) rfl) rfl) rfl) rfl) rfl)) ?_
          refine WD.batch (f' := 8) [14, 15, 16, 17] #[true, true, true, true, true, true, true, true, true, true, true, true, true, true, true, true, true, true, false, false, false, false, false, false, false, false] [1, 54] rfl (E' := [(1, .pointer (some ⟨b1, 0, none⟩)), (54, .bool ((p0_6.length : Int) == (256 : Int)))]) (by kernel_rfl) ?_
          rcases of_cond hm with ⟨c4, hm⟩ | ⟨c4, hm⟩
          · rw [c4]
            refine WD.batch (f' := 6) [18, 21] #[true, true, true, true, true, true, true, true, true, true, true, true, true, true, true, true, true, true, true, false, false, true, false, false, false, false] [54, 55, 58] rfl (E' := [(54, .bool true), (55, .pointer (some ⟨b1, 37, none⟩)), (58, .pointer (some ⟨b1, 5, none⟩))]) (by kernel_rfl) ?_
            refine WD.load 19 [20] [20, 23, 24, 25] (.slice Ap0_6 p0_6.length np0_6) rfl (by kernel_rfl) rfl rfl rfl (ex_loadOne Try.underlying23 rfl rfl h6 (Lens.skip rfl (Lens.skip rfl (Lens.skip rfl (Lens.skip rfl (Lens.skip rfl (Lens.skip (ivl _ _) (Lens.all _ ([Value.slice Ap0_6 p0_6.length np0_6])) rfl) rfl) rfl) rfl) rfl) rfl)) ?_
            refine WD.load 22 [] [23, 24, 25] (.agg (ints .u8 p0_5.toList).toArray) rfl (by kernel_rfl) rfl rfl rfl (ex_loadAgg Try.underlying22 rfl Try.sizeOf22 (ivl _ _) rfl h6 (Lens.skip rfl (Lens.skip rfl (Lens.skip rfl (Lens.skip rfl (Lens.skip rfl (Lens.head _ (ints .u8 p0_5.toList) _) rfl) rfl) rfl) rfl) rfl)) ?_
            obtain ⟨a1, q1, hm⟩ := of_bind hm
            refine WD.call 20 (by kernel_rfl) rfl rfl rfl rfl (ex_callI (args := [.slice Ap0_6 p0_6.length np0_6]) rfl rfl rfl Try.call19) (cauteryref02_Sum_walk k p0_6 Ap0_6 np0_6 _ h5  a1 q1) ?_
            rintro _ w4 ⟨rfl, F5⟩
            have h7 := (h5).fr F5 trivial
            have h8 := Fr.at F5 h6 (ApL.not (x := some b1) (S := []) trivial _ rfl)
            have F6 := Fr.step F4 F5 trivial
            refine ⟨_, _, rfl, rfl, ⟨(ex_loadAgg Try.underlying22 rfl Try.sizeOf22 (ivl _ _) rfl h8 (Lens.skip rfl (Lens.skip rfl (Lens.skip rfl (Lens.skip rfl (Lens.skip rfl (Lens.head _ (ints .u8 p0_5.toList) _) rfl) rfl) rfl) rfl) rfl)), trivial⟩, ?_⟩
            refine WD.valU 23 (.bool (a1.toList == p0_5.toList)) rfl (by kernel_rfl) rfl rfl (fun _ => (ex_eqArrI Try.underlying22 Try.underlying5 Try.sizeOf5 (by kernel_rfl) rfl rfl)) rfl ?_
            refine WD.batch (f' := 0) [24, 25] #[true, true, true, true, true, true, true, true, true, true, true, true, true, true, true, true, true, true, true, true, true, true, true, true, true, true] [2] rfl (E' := [(2, .bool (a1.toList == p0_5.toList))]) (by kernel_rfl) ?_
            refine WD.end_ (by kernel_rfl) ?_
            refine W.ret ?_
            obtain rfl := Option.some.inj hm
            exact ⟨_, ⟨_, _, rfl, rfl, rfl⟩, ⟨rfl, F6⟩⟩
          · rw [c4]
            refine WD.batch (f' := 4) [18, 19, 21, 22] #[true, true, true, true, true, true, true, true, true, true, true, true, true, true, true, true, true, true, true, true, false, true, true, false, false, false] [54, 56, 59] rfl (E' := [(54, .bool false), (56, undef), (59, undef)]) (by kernel_rfl) ?_
            refine WD.skip 20 (by kernel_rfl) rfl rfl rfl trivial ?_
            refine WD.batch (f' := 0) [23, 24, 25] #[true, true, true, true, true, true, true, true, true, true, true, true, true, true, true, true, true, true, true, true, true, true, true, true, true, true] [2] rfl (E' := [(2, .bool false)]) (by kernel_rfl) ?_
            refine WD.end_ (by kernel_rfl) ?_
            refine W.ret ?_
            obtain rfl := Option.some.inj hm
            exact ⟨_, ⟨_, _, rfl, rfl, rfl⟩, ⟨rfl, F4⟩⟩
        · rw [c3]
          refine WD.batch (f' := 4) [12, 13, 14, 15, 16, 17, 18, 19, 21, 22] #[true, true, true, true, true, true, true, true, true, true, true, true, true, true, true, true, true, true, true, true, false, true, true, false, false, false] [54, 56, 59] rfl (E' := [(54, .bool false), (56, undef), (59, undef)]) (by kernel_rfl) ?_
          refine WD.skip 20 (by kernel_rfl) rfl rfl rfl trivial ?_
          refine WD.batch (f' := 0) [23, 24, 25] #[true, true, true, true, true, true, true, true, true, true, true, true, true, true, true, true, true, true, true, true, true, true, true, true, true, true] [2] rfl (E' := [(2, .bool false)]) (by kernel_rfl) ?_
          refine WD.end_ (by kernel_rfl) ?_
          refine W.ret ?_
          obtain rfl := Option.some.inj hm
          exact ⟨_, ⟨_, _, rfl, rfl, rfl⟩, ⟨rfl, F4⟩⟩
      · rw [c2]
        refine WD.batch (f' := 4) [4, 5, 6, 7, 8, 9, 10, 11, 12, 13, 14, 15, 16, 17, 18, 19, 21, 22] #[true, true, true, true, true, true, true, true, true, true, true, true, true, true, true, true, true, true, true, true, false, true, true, false, false, false] [54, 56, 59] rfl (E' := [(54, .bool false), (56, undef), (59, undef)]) (by kernel_rfl) ?_
        refine WD.skip 20 (by kernel_rfl) rfl rfl rfl trivial ?_
        refine WD.batch (f' := 0) [23, 24, 25] #[true, true, true, true, true, true, true, true, true, true, true, true, true, true, true, true, true, true, true, true, true, true, true, true, true, true] [2] rfl (E' := [(2, .bool false)]) (by kernel_rfl) ?_
        refine WD.end_ (by kernel_rfl) ?_
        refine W.ret ?_
        obtain rfl := Option.some.inj hm
        exact ⟨_, ⟨_, _, rfl, rfl, rfl⟩, ⟨rfl, F4⟩⟩
  · replace hm := hm1
    clear hm1
    refine W.seq ?_
    refine W.region ?_
    refine WL.batch 1 [1, 3] (E' := [(1, .pointer (some ⟨b1, 0, none⟩)), (3, .pointer (some ⟨b1, 1, none⟩))]) (by kernel_rfl) ?_
    refine WL.value (.string p0_1) rfl rfl rfl (ex_loadOne Try.underlying9 rfl rfl h1 (Lens.skip rfl (Lens.head _ ([Value.string p0_1]) _) rfl)) rfl ?_
    obtain ⟨y1, q2, hm⟩ := of_bind hm
    refine WL.call rfl rfl rfl (ex_callI (args := [.string p0_1]) rfl rfl rfl Try.call21) (cauteryref12_IsName_walk k p0_1  _   y1 q2) ?_
    rintro _ w5 ⟨rfl, F7⟩
    have h9 := (h2).fr F7 trivial
    have h10 := Fr.at F7 h1 (ApL.not (x := some b1) (S := []) trivial _ rfl)
    have F8 := Fr.step F1 F7 trivial
    refine ⟨_, _, rfl, rfl, ?_⟩
    refine WL.batch 2 [1, 7] (E' := [(1, .pointer (some ⟨b1, 0, none⟩)), (7, .bool (!y1))]) (by kernel_rfl) ?_
    rcases of_cond hm with ⟨c5, hm⟩ | ⟨c5, hm⟩
    · rw [c5]
      refine WL.batch 22 [1, 29] (E' := [(1, .pointer (some ⟨b1, 0, none⟩)), (29, .bool true)]) (by kernel_rfl) ?_
      refine WL.nil ?_
      refine W.condT _ rfl rfl ?_
      refine W.seq ?_
      refine W.region ?_
      refine WL.batch 1 [2] (E' := [(2, .bool false)]) (by kernel_rfl) ?_
      refine WL.nil ?_
      refine W.ret ?_
      obtain rfl := Option.some.inj hm
      replace hm := hm2
      obtain rfl := Option.some.inj hm
      exact ⟨_, ⟨_, _, rfl, rfl, rfl⟩, ⟨rfl, F8⟩⟩
    · rw [c5]
      refine WL.batch 1 [1, 7, 8] (E' := [(1, .pointer (some ⟨b1, 0, none⟩)), (7, .bool false), (8, .pointer (some ⟨b1, 2, none⟩))]) (by kernel_rfl) ?_
      refine WL.value (.string p0_2) rfl rfl rfl (ex_loadOne Try.underlying9 rfl rfl h10 (Lens.skip rfl (Lens.skip rfl (Lens.head _ ([Value.string p0_2]) _) rfl) rfl)) rfl ?_
      obtain ⟨y2, q3, hm⟩ := of_bind hm
      refine WL.call rfl rfl rfl (ex_callI (args := [.string p0_2]) rfl rfl rfl Try.call21) (cauteryref12_IsName_walk k p0_2  _   y2 q3) ?_
      rintro _ w6 ⟨rfl, F9⟩
      have h11 := (h9).fr F9 trivial
      have h12 := Fr.at F9 h10 (ApL.not (x := some b1) (S := []) trivial _ rfl)
      have F10 := Fr.step F8 F9 trivial
      refine ⟨_, _, rfl, rfl, ?_⟩
      refine WL.batch 3 [1, 13] (E' := [(1, .pointer (some ⟨b1, 0, none⟩)), (13, .bool (!y2))]) (by kernel_rfl) ?_
      rcases of_cond hm with ⟨c6, hm⟩ | ⟨c6, hm⟩
      · rw [c6]
        refine WL.batch 16 [1, 29] (E' := [(1, .pointer (some ⟨b1, 0, none⟩)), (29, .bool true)]) (by kernel_rfl) ?_
        refine WL.nil ?_
        refine W.condT _ rfl rfl ?_
        refine W.seq ?_
        refine W.region ?_
        refine WL.batch 1 [2] (E' := [(2, .bool false)]) (by kernel_rfl) ?_
        refine WL.nil ?_
        refine W.ret ?_
        obtain rfl := Option.some.inj hm
        replace hm := hm2
        obtain rfl := Option.some.inj hm
        exact ⟨_, ⟨_, _, rfl, rfl, rfl⟩, ⟨rfl, F10⟩⟩
      · rw [c6]
        refine WL.batch 1 [1, 13, 14] (E' := [(1, .pointer (some ⟨b1, 0, none⟩)), (13, .bool false), (14, .pointer (some ⟨b1, 3, none⟩))]) (by kernel_rfl) ?_
        refine WL.value (.int .i64 p0_3) rfl rfl rfl (ex_loadOne Try.underlying3 rfl rfl h12 (Lens.skip rfl (Lens.skip rfl (Lens.skip rfl (Lens.head _ ([Value.int .i64 p0_3]) _) rfl) rfl) rfl)) rfl ?_
        refine WL.batch 3 [1, 18] (E' := [(1, .pointer (some ⟨b1, 0, none⟩)), (18, .bool (decide (p0_3 < (0 : Int))))]) (by kernel_rfl) ?_
        rcases of_cond hm with ⟨c7, hm⟩ | ⟨c7, hm⟩
        · rw [c7]
          refine WL.batch 11 [1, 29] (E' := [(1, .pointer (some ⟨b1, 0, none⟩)), (29, .bool true)]) (by kernel_rfl) ?_
          refine WL.nil ?_
          refine W.condT _ rfl rfl ?_
          refine W.seq ?_
          refine W.region ?_
          refine WL.batch 1 [2] (E' := [(2, .bool false)]) (by kernel_rfl) ?_
          refine WL.nil ?_
          refine W.ret ?_
          obtain rfl := Option.some.inj hm
          replace hm := hm2
          obtain rfl := Option.some.inj hm
          exact ⟨_, ⟨_, _, rfl, rfl, rfl⟩, ⟨rfl, F10⟩⟩
        · rw [c7]
          refine WL.batch 1 [1, 18, 19] (E' := [(1, .pointer (some ⟨b1, 0, none⟩)), (18, .bool false), (19, .pointer (some ⟨b1, 3, none⟩))]) (by kernel_rfl) ?_
          refine WL.value (.int .i64 p0_3) rfl rfl rfl (ex_loadOne Try.underlying3 rfl rfl h12 (Lens.skip rfl (Lens.skip rfl (Lens.skip rfl (Lens.head _ ([Value.int .i64 p0_3]) _) rfl) rfl) rfl)) rfl ?_
          refine WL.batch 1 [1, 18, 20, 21] (E' := [(1, .pointer (some ⟨b1, 0, none⟩)), (18, .bool false), (20, .int .i64 p0_3), (21, .pointer (some ⟨b1, 4, none⟩))]) (by kernel_rfl) ?_
          refine WL.value (.int .i64 p0_4) rfl rfl rfl (ex_loadOne Try.underlying3 rfl rfl h12 (Lens.skip rfl (Lens.skip rfl (Lens.skip rfl (Lens.skip rfl (Lens.head _ ([Value.int .i64 p0_4]) _) rfl) rfl) rfl) rfl)) rfl ?_
          refine WL.batch 3 [1, 25] (E' := [(1, .pointer (some ⟨b1, 0, none⟩)), (25, .bool (decide (p0_3 ≥ (p0_4 : Int))))]) (by kernel_rfl) ?_
          rcases of_cond hm with ⟨c8, hm⟩ | ⟨c8, hm⟩
          · rw [c8]
            refine WL.batch 4 [1, 29] (E' := [(1, .pointer (some ⟨b1, 0, none⟩)), (29, .bool true)]) (by kernel_rfl) ?_
            refine WL.nil ?_
            refine W.condT _ rfl rfl ?_
            refine W.seq ?_
            refine W.region ?_
            refine WL.batch 1 [2] (E' := [(2, .bool false)]) (by kernel_rfl) ?_
            refine WL.nil ?_
            refine W.ret ?_
            obtain rfl := Option.some.inj hm
            replace hm := hm2
            obtain rfl := Option.some.inj hm
            exact ⟨_, ⟨_, _, rfl, rfl, rfl⟩, ⟨rfl, F10⟩⟩
          · rw [c8]
            refine WL.batch 1 [1, 25, 26] (E' := [(1, .pointer (some ⟨b1, 0, none⟩)), (25, .bool false), (26, .pointer (some ⟨b1, 4, none⟩))]) (by kernel_rfl) ?_
            refine WL.value (.int .i64 p0_4) rfl rfl rfl (ex_loadOne Try.underlying3 rfl rfl h12 (Lens.skip rfl (Lens.skip rfl (Lens.skip rfl (Lens.skip rfl (Lens.head _ ([Value.int .i64 p0_4]) _) rfl) rfl) rfl) rfl)) rfl ?_
            refine WL.batch 2 [1, 29] (E' := [(1, .pointer (some ⟨b1, 0, none⟩)), (29, .bool (decide (p0_4 > (16 : Int))))]) (by kernel_rfl) ?_
            refine WL.nil ?_
            rcases of_cond hm with ⟨c9, hm⟩ | ⟨c9, hm⟩
            · refine W.condT _ rfl c9 ?_
              refine W.seq ?_
              refine W.region ?_
              refine WL.batch 1 [2] (E' := [(2, .bool false)]) (by kernel_rfl) ?_
              refine WL.nil ?_
              refine W.ret ?_
              obtain rfl := Option.some.inj hm
              replace hm := hm2
              obtain rfl := Option.some.inj hm
              exact ⟨_, ⟨_, _, rfl, rfl, rfl⟩, ⟨rfl, F10⟩⟩
            · refine W.condF _ rfl c9 ?_
              refine W.skip ?_
              exact rest1 _ _ ⟨⟨rfl, trivial⟩, h11, h12, F10, (Option.some.inj hm)⟩

/- cautery/cauteryref01.Put -/
theorem cauteryref01_Put_walk (k : Nat) (p0 : List Int) (p1 : Int) (Ap0 : Option Addr) (np0 : Nat) (w : World) (hp0 : Rd w 1 Ap0 p0.length np0 (ints .u8 p0)) (r0 : List Int) (hm : cauteryref01_Put.f k p0 p1 = some r0) :
    Calls Try.prog 40 #[.slice Ap0 p0.length np0, .int .u64 p1] w fun e w' => ∃ (A0 : Option Addr) (n0 : Nat), e = .returned (.slice A0 r0.length n0) ∧ Fr [] w w' ∧ Own w' 5 1 A0 r0.length n0 (ints .u8 r0) ∧ Src (ablk A0) w.heap.size [] := by
  have F0 := Fr.refl [] w
  unfold cauteryref01_Put.f at hm
  refine W.enter (args := [.slice Ap0 p0.length np0, .int .u64 p1]) Try.func40 rfl (n := 25) rfl rfl ?_
  refine W.seq ?_
  refine W.region ?_
  refine WL.batch 1 [0, 1] (E' := [(0, .slice Ap0 p0.length np0), (1, .int .u64 p1)]) (by kernel_rfl) ?_
  refine WL.nil ?_
  refine W.seq ?_
  refine W.region ?_
  refine WL.op rfl rfl rfl (ex_buildSliceI (T := 5) (k := .u8) (l2 := ([] : List Int)) rfl (fun _ => by kernel_rfl) rfl rfl) ?_
  rintro _ w1 ⟨A1, n1, rfl, h1, F1, s1⟩
  have h2 := (hp0).fr F1 trivial
  have F2 := Fr.step F0 F1 trivial
  refine ⟨_, rfl, ?_⟩
  refine WL.batch 1 [1, 6, 7] (E' := [(1, .int .u64 p1), (6, .slice A1 ([] : List Int).length n1), (7, .slice Ap0 p0.length np0)]) (by kernel_rfl) ?_
  obtain ⟨l1, q1, hm⟩ := of_let hm
  obtain ⟨c1, hm⟩ := of_guard hm
  refine WL.op rfl rfl rfl (ex_appendI (k := .u8) (bytes := 1) Try.underlying23 (by kernel_rfl) rfl rfl h1 h2 q1 c1) ?_
  rintro _ w2 ⟨A2, n2, rfl, h3, F3, s2⟩
  have h4 := (h2).fr F3 ⟨(Ap.symm (Src.ap' s1 (hp0).lt trivial)), trivial⟩
  have F4 := Fr.step F2 F3 ⟨(In0.src s1 (Nat.le_refl _) trivial), trivial⟩
  refine ⟨_, rfl, ?_⟩
  refine WL.batch 1 [1, 5] (E' := [(1, .int .u64 p1), (5, .slice A2 l1.length n2)]) (by kernel_rfl) ?_
  refine WL.nil ?_
  obtain ⟨ex1, hm1, hm2⟩ := of_bind hm
  refine W.join1 (fun E w3 => ∃ (x1 : Int) (l2 : List Int) (A3 : Option Addr) (n3 : Nat), Env.sub E [(1, .int .u64 x1), (5, .slice A3 l2.length n3)] ∧ Rd w3 1 Ap0 p0.length np0 (ints .u8 p0) ∧ Own w3 5 1 A3 l2.length n3 (ints .u8 l2) ∧ Fr [] w w3 ∧ Src (ablk A3) w.heap.size [] ∧ Ap (ablk A3) (rblk Ap0 p0.length) ∧ (x1, l2) = ex1) ?_ (fun rest1 => ?_)
  · rintro _ w3 ⟨x1, l2, A3, n3, hE, h5, h6, F5, s3, ap1, rfl⟩
    replace hm := hm2
    clear hm1
    refine W.sub ?_ hE
    refine W.seq ?_
    refine W.region ?_
    refine WL.batch 3 [20, 22] (E' := [(20, .slice A3 l2.length n3), (22, .int .u8 (IntKind.wrap .u8 x1))]) (by kernel_rfl) ?_
    obtain ⟨x2, q2, hm⟩ := of_let hm
    rw [q2]
    refine WL.op rfl rfl rfl (ex_buildSliceI (T := 5) (k := .u8) (l2 := [x2]) rfl (fun _ => by kernel_rfl) rfl rfl) ?_
    rintro _ w4 ⟨A4, n4, rfl, h7, F6, s4⟩
    have h8 := (h5).fr F6 trivial
    have h9 := (h6).fr F6 trivial
    have F7 := Fr.step F5 F6 trivial
    refine ⟨_, rfl, ?_⟩
    obtain ⟨l3, q3, hm⟩ := of_let hm
    obtain ⟨c2, hm⟩ := of_guard hm
    refine WL.op rfl rfl rfl (ex_appendI (k := .u8) (bytes := 1) Try.underlying23 (by kernel_rfl) rfl rfl h9 (h7).rd q3 c2) ?_
    rintro _ w5 ⟨A5, n5, rfl, h10, F8, s5⟩
    have h11 := (h8).fr F8 ⟨(Ap.symm ap1), trivial⟩
    have h12 := (h7).fr F8 ⟨(Src.ap' s4 (h6).lt trivial), trivial⟩
    have F9 := Fr.step F7 F8 ⟨(In0.src s3 (Nat.le_refl _) trivial), trivial⟩
    refine ⟨_, rfl, ?_⟩
    refine WL.batch 1 [4] (E' := [(4, .slice A5 l3.length n5)]) (by kernel_rfl) ?_
    refine WL.nil ?_
    refine W.ret ?_
    obtain rfl := Option.some.inj hm
    exact ⟨_, ⟨_, _, rfl, rfl, rfl⟩, ⟨A5, n5, rfl, F9, h10, (Src.trans' s5 F7.size ⟨(Src.trans' s3 (Nat.le_refl _) trivial), trivial⟩)⟩⟩
  · replace hm := hm1
    clear hm1
    refine W.seq ?_
    refine W.block ?_
    refine W.loop (fun j1 E w6 => ∃ (x3 : Int) (l4 : List Int) (A6 : Option Addr) (n6 : Nat), Env.sub E [(1, .int .u64 x3), (5, .slice A6 l4.length n6)] ∧ Rd w6 1 Ap0 p0.length np0 (ints .u8 p0) ∧ Own w6 5 1 A6 l4.length n6 (ints .u8 l4) ∧ Fr [] w w6 ∧ Src (ablk A6) w.heap.size [] ∧ Ap (ablk A6) (rblk Ap0 p0.length) ∧ cauteryref01_Put.l0  j1 x3 l4 = some ex1) ?_ k ?_ ?_
    · rintro _ _ ⟨_, _, _, _, _, _, _, _, _, _, hz⟩
      exact absurd hz (by simp [cauteryref01_Put.l0])
    · exact ⟨p1, l1, A2, n2, ⟨rfl, rfl, trivial⟩, h4, h3, F4, (Src.trans' s2 F2.size ⟨(Src.trans' s1 (Nat.le_refl _) trivial), trivial⟩), (Src.ap' s2 (h2).lt ⟨(Src.ap' s1 (hp0).lt trivial), trivial⟩), hm⟩
    · rintro j1 _ w6 ⟨x3, l4, A6, n6, hE, h13, h14, F10, s6, ap2, hm⟩
      rw [cauteryref01_Put.l0] at hm
      refine W.sub ?_ hE
      refine W.seq ?_
      refine W.seq ?_
      refine W.region ?_
      refine WL.batch 2 [1, 5, 10] (E' := [(1, .int .u64 x3), (5, .slice A6 l4.length n6), (10, .bool (decide (x3 ≥ (128 : Int))))]) (by kernel_rfl) ?_
      refine WL.nil ?_
      rcases of_cond hm with ⟨c3, hm⟩ | ⟨c3, hm⟩
      · refine W.condT _ rfl c3 ?_
        refine W.skip ?_
        refine W.block ?_
        refine W.seq ?_
        refine W.region ?_
        refine WL.batch 5 [1, 11, 15] (E' := [(1, .int .u64 x3), (11, .slice A6 l4.length n6), (15, .int .u8 (IntKind.wrap .u8 (wadd .u64 (wrem .u64 x3 128) 128)))]) (by kernel_rfl) ?_
        obtain ⟨x4, q4, hm⟩ := of_let hm
        rw [q4]
        refine WL.op rfl rfl rfl (ex_buildSliceI (T := 5) (k := .u8) (l2 := [x4]) rfl (fun _ => by kernel_rfl) rfl rfl) ?_
        rintro _ w7 ⟨A7, n7, rfl, h15, F11, s7⟩
        have h16 := (h13).fr F11 trivial
        have h17 := (h14).fr F11 trivial
        have F12 := Fr.step F10 F11 trivial
        refine ⟨_, rfl, ?_⟩
        obtain ⟨l5, q5, hm⟩ := of_let hm
        obtain ⟨c4, hm⟩ := of_guard hm
        refine WL.op rfl rfl rfl (ex_appendI (k := .u8) (bytes := 1) Try.underlying23 (by kernel_rfl) rfl rfl h17 (h15).rd q5 c4) ?_
        rintro _ w8 ⟨A8, n8, rfl, h18, F13, s8⟩
        have h19 := (h16).fr F13 ⟨(Ap.symm ap2), trivial⟩
        have h20 := (h15).fr F13 ⟨(Src.ap' s7 (h14).lt trivial), trivial⟩
        have F14 := Fr.step F12 F13 ⟨(In0.src s6 (Nat.le_refl _) trivial), trivial⟩
        refine ⟨_, rfl, ?_⟩
        refine WL.batch 1 [1, 5] (E' := [(1, .int .u64 x3), (5, .slice A8 l5.length n8)]) (by kernel_rfl) ?_
        refine WL.nil ?_
        refine W.region ?_
        refine WL.batch 3 [1, 5] (E' := [(1, .int .u64 (wquo .u64 x3 128)), (5, .slice A8 l5.length n8)]) (by kernel_rfl) ?_
        obtain ⟨x5, q6, hm⟩ := of_let hm
        rw [q6]
        refine WL.nil ?_
        exact ⟨x5, l5, A8, n8, ⟨rfl, rfl, trivial⟩, h19, h18, F14, (Src.trans' s8 F12.size ⟨(Src.trans' s6 (Nat.le_refl _) trivial), trivial⟩), (Src.ap' s8 (h16).lt ⟨ap2, trivial⟩), hm⟩
      · refine W.condF _ rfl c3 ?_
        refine W.exit ?_
        exact rest1 _ _ ⟨x3, l4, A6, n6, ⟨rfl, rfl, trivial⟩, h13, h14, F10, (Src.trans' s6 (Nat.le_refl _) trivial), ap2, (Option.some.inj hm)⟩

/- cautery/cauteryref01.PutString -/
theorem cauteryref01_PutString_walk (k : Nat) (p0 : List Int) (p1 : List Int) (Ap0 : Option Addr) (np0 : Nat) (Ap1 : Option Addr) (np1 : Nat) (w : World) (hp0 : Rd w 1 Ap0 p0.length np0 (ints .u8 p0)) (hp1 : Rd w 1 Ap1 p1.length np1 (ints .u8 p1)) (r0 : List Int) (hm : cauteryref01_PutString.f k p0 p1 = some r0) :
    Calls Try.prog 27 #[.slice Ap0 p0.length np0, .slice Ap1 p1.length np1] w fun e w' => ∃ (A0 : Option Addr) (n0 : Nat), e = .returned (.slice A0 r0.length n0) ∧ Fr [] w w' ∧ Own w' 5 1 A0 r0.length n0 (ints .u8 r0) ∧ Src (ablk A0) w.heap.size [] := by
  have F0 := Fr.refl [] w
  unfold cauteryref01_PutString.f at hm
  refine W.enter (args := [.slice Ap0 p0.length np0, .slice Ap1 p1.length np1]) Try.func27 rfl (n := 14) rfl rfl ?_
  refine W.seq ?_
  refine W.region ?_
  refine WL.batch 1 [0, 1] (E' := [(0, .slice Ap0 p0.length np0), (1, .slice Ap1 p1.length np1)]) (by kernel_rfl) ?_
  refine WL.nil ?_
  refine W.seq ?_
  refine W.region ?_
  refine WL.batch 4 [1, 6, 9] (E' := [(1, .slice Ap1 p1.length np1), (6, .slice Ap0 p0.length np0), (9, .int .u64 (IntKind.wrap .u64 (p1.length : Int)))]) (by kernel_rfl) ?_
  obtain ⟨x1, q1, hm⟩ := of_let hm
  rw [q1]
  obtain ⟨l1, q2, hm⟩ := of_bind hm
  refine WL.call rfl rfl rfl (ex_callI (args := [.slice Ap0 p0.length np0, .int .u64 x1]) rfl rfl rfl Try.call40) (cauteryref01_Put_walk k p0 x1 Ap0 np0 _ hp0  l1 q2) ?_
  rintro _ w1 ⟨A1, n1, rfl, F1, h1, s1⟩
  have h2 := (hp0).fr F1 trivial
  have h3 := (hp1).fr F1 trivial
  have F2 := Fr.step F0 F1 trivial
  refine ⟨_, _, rfl, rfl, ?_⟩
  refine WL.batch 1 [1, 5] (E' := [(1, .slice Ap1 p1.length np1), (5, .slice A1 l1.length n1)]) (by kernel_rfl) ?_
  refine WL.nil ?_
  refine W.seq ?_
  refine W.region ?_
  refine WL.batch 2 [11, 12] (E' := [(11, .slice A1 l1.length n1), (12, .slice Ap1 p1.length np1)]) (by kernel_rfl) ?_
  obtain ⟨l2, q3, hm⟩ := of_let hm
  obtain ⟨c1, hm⟩ := of_guard hm
  refine WL.op rfl rfl rfl (ex_appendI (k := .u8) (bytes := 1) Try.underlying23 (by kernel_rfl) rfl rfl h1 h3 q3 c1) ?_
  rintro _ w2 ⟨A2, n2, rfl, h4, F3, s2⟩
  have h5 := (h2).fr F3 ⟨(Ap.symm (Src.ap' s1 (hp0).lt trivial)), trivial⟩
  have h6 := (h3).fr F3 ⟨(Ap.symm (Src.ap' s1 (hp1).lt trivial)), trivial⟩
  have F4 := Fr.step F2 F3 ⟨(In0.src s1 (Nat.le_refl _) trivial), trivial⟩
  refine ⟨_, rfl, ?_⟩
  refine WL.batch 1 [4] (E' := [(4, .slice A2 l2.length n2)]) (by kernel_rfl) ?_
  refine WL.nil ?_
  refine W.ret ?_
  obtain rfl := Option.some.inj hm
  exact ⟨_, ⟨_, _, rfl, rfl, rfl⟩, ⟨A2, n2, rfl, F4, h4, (Src.trans' s2 F2.size ⟨(Src.trans' s1 (Nat.le_refl _) trivial), trivial⟩)⟩⟩

/- cautery/cauteryref21.ahead -/
theorem cauteryref21_ahead_walk (k : Nat) (p0_0 : Int) (p0_1 : ByteArray) (p0_2 : ByteArray) (p0_3 : Int) (p0_4 : Int) (p0_5 : Vector Int 32) (p0_6 : List Int) (Ap0_6 : Option Addr) (np0_6 : Nat) (w : World) (hp0_6 : Rd w 1 Ap0_6 p0_6.length np0_6 (ints .u8 p0_6)) (r0 : List Int) (hm : cauteryref21_ahead.f k p0_0 p0_1 p0_2 p0_3 p0_4 p0_5 p0_6 = some r0) :
    Calls Try.prog 18 #[.agg ([Value.int .i64 p0_0] ++ ([Value.string p0_1] ++ ([Value.string p0_2] ++ ([Value.int .i64 p0_3] ++ ([Value.int .i64 p0_4] ++ (ints .u8 p0_5.toList ++ ([Value.slice Ap0_6 p0_6.length np0_6]))))))).toArray] w fun e w' => ∃ (A0 : Option Addr) (n0 : Nat), e = .returned (.slice A0 r0.length n0) ∧ Fr [] w w' ∧ Own w' 5 1 A0 r0.length n0 (ints .u8 r0) ∧ Src (ablk A0) w.heap.size [] := by
  have F0 := Fr.refl [] w
  unfold cauteryref21_ahead.f at hm
  refine W.enter (args := [.agg ([Value.int .i64 p0_0] ++ ([Value.string p0_1] ++ ([Value.string p0_2] ++ ([Value.int .i64 p0_3] ++ ([Value.int .i64 p0_4] ++ (ints .u8 p0_5.toList ++ ([Value.slice Ap0_6 p0_6.length np0_6]))))))).toArray]) Try.func18 rfl (n := 35) rfl rfl ?_
  refine W.seq ?_
  refine W.region ?_
  refine WL.op rfl rfl rfl (ex_box' (cs := [Value.int .i64 p0_0] ++ ([Value.string p0_1] ++ ([Value.string p0_2] ++ ([Value.int .i64 p0_3] ++ ([Value.int .i64 p0_4] ++ (ints .u8 p0_5.toList ++ ([Value.slice Ap0_6 p0_6.length np0_6]))))))) rfl rfl) ?_
  rintro _ w1 ⟨b1, rfl, N1⟩
  have h1 := N1.at_
  have s1 := Src.new [] (Ge.one N1.ge)
  have h2 := (hp0_6).fr N1.fr trivial
  have F1 := Fr.step F0 N1.fr trivial
  refine ⟨_, rfl, ?_⟩
  refine WL.batch 1 [1] (E' := [(1, .pointer (some ⟨b1, 0, none⟩))]) (by kernel_rfl) ?_
  refine WL.nil ?_
  refine W.seq ?_
  refine W.region ?_
  refine WL.batch 1 [1, 4] (E' := [(1, .pointer (some ⟨b1, 0, none⟩)), (4, .pointer (some ⟨b1, 0, none⟩))]) (by kernel_rfl) ?_
  refine WL.value (.int .i64 p0_0) rfl rfl rfl (ex_loadOne Try.underlying3 rfl rfl h1 (Lens.head _ ([Value.int .i64 p0_0]) _)) rfl ?_
  refine WL.batch 1 [1, 6] (E' := [(1, .pointer (some ⟨b1, 0, none⟩)), (6, .int .u8 (IntKind.wrap .u8 p0_0))]) (by kernel_rfl) ?_
  obtain ⟨x1, q1, hm⟩ := of_let hm
  rw [q1]
  refine WL.op rfl rfl rfl (ex_buildSliceI (T := 5) (k := .u8) (l2 := [x1]) rfl (fun _ => by kernel_rfl) rfl rfl) ?_
  rintro _ w2 ⟨A1, n1, rfl, h3, F2, s2⟩
  have h4 := (h2).fr F2 trivial
  have h5 := Fr.at F2 h1 (ApL.not (x := some b1) (S := []) trivial _ rfl)
  have F3 := Fr.step F1 F2 trivial
  refine ⟨_, rfl, ?_⟩
  refine WL.batch 1 [1, 3] (E' := [(1, .pointer (some ⟨b1, 0, none⟩)), (3, .slice A1 [x1].length n1)]) (by kernel_rfl) ?_
  refine WL.nil ?_
  refine W.seq ?_
  refine W.region ?_
  refine WL.batch 2 [1, 8, 9] (E' := [(1, .pointer (some ⟨b1, 0, none⟩)), (8, .slice A1 [x1].length n1), (9, .pointer (some ⟨b1, 1, none⟩))]) (by kernel_rfl) ?_
  refine WL.value (.string p0_1) rfl rfl rfl (ex_loadOne Try.underlying9 rfl rfl h5 (Lens.skip rfl (Lens.head _ ([Value.string p0_1]) _) rfl)) rfl ?_
  obtain ⟨l1, q2, hm⟩ := of_let hm
  obtain ⟨c1, hm⟩ := of_guard hm
  refine WL.op rfl rfl rfl (ex_strBytesI Try.underlying23 Try.underlying9 Try.underlying5 rfl q2 c1) ?_
  rintro _ w3 ⟨A2, n2, rfl, h6, F4, s3⟩
  have h7 := (h4).fr F4 trivial
  have h8 := Fr.at F4 h5 (ApL.not (x := some b1) (S := []) trivial _ rfl)
  have h9 := (h3).fr F4 trivial
  have F5 := Fr.step F3 F4 trivial
  refine ⟨_, rfl, ?_⟩
  obtain ⟨l2, q3, hm⟩ := of_bind hm
  refine WL.call rfl rfl rfl (ex_callI (args := [.slice A1 [x1].length n1, .slice A2 l1.length n2]) rfl rfl rfl Try.call27) (cauteryref01_PutString_walk k [x1] l1 A1 n1 A2 n2 _ (h9).rd h6  l2 q3) ?_
  rintro _ w4 ⟨A3, n3, rfl, F6, h10, s4⟩
  have h11 := (h7).fr F6 trivial
  have h12 := Fr.at F6 h8 (ApL.not (x := some b1) (S := []) trivial _ rfl)
  have h13 := (h9).fr F6 trivial
  have h14 := (h6).fr F6 trivial
  have F7 := Fr.step F5 F6 trivial
  refine ⟨_, _, rfl, rfl, ?_⟩
  refine WL.batch 1 [1, 3] (E' := [(1, .pointer (some ⟨b1, 0, none⟩)), (3, .slice A3 l2.length n3)]) (by kernel_rfl) ?_
  refine WL.nil ?_
  refine W.seq ?_
  refine W.region ?_
  refine WL.batch 2 [1, 13, 14] (E' := [(1, .pointer (some ⟨b1, 0, none⟩)), (13, .slice A3 l2.length n3), (14, .pointer (some ⟨b1, 2, none⟩))]) (by kernel_rfl) ?_
  refine WL.value (.string p0_2) rfl rfl rfl (ex_loadOne Try.underlying9 rfl rfl h12 (Lens.skip rfl (Lens.skip rfl (Lens.head _ ([Value.string p0_2]) _) rfl) rfl)) rfl ?_
  obtain ⟨l3, q4, hm⟩ := of_let hm
  obtain ⟨c2, hm⟩ := of_guard hm
  refine WL.op rfl rfl rfl (ex_strBytesI Try.underlying23 Try.underlying9 Try.underlying5 rfl q4 c2) ?_
  rintro _ w5 ⟨A4, n4, rfl, h15, F8, s5⟩
  have h16 := (h11).fr F8 trivial
  have h17 := Fr.at F8 h12 (ApL.not (x := some b1) (S := []) trivial _ rfl)
  have h18 := (h13).fr F8 trivial
  have h19 := (h14).fr F8 trivial
  have h20 := (h10).fr F8 trivial
  have F9 := Fr.step F7 F8 trivial
  refine ⟨_, rfl, ?_⟩
  obtain ⟨l4, q5, hm⟩ := of_bind hm
  refine WL.call rfl rfl rfl (ex_callI (args := [.slice A3 l2.length n3, .slice A4 l3.length n4]) rfl rfl rfl Try.call27) (cauteryref01_PutString_walk k l2 l3 A3 n3 A4 n4 _ (h20).rd h15  l4 q5) ?_
  rintro _ w6 ⟨A5, n5, rfl, F10, h21, s6⟩
  have h22 := (h16).fr F10 trivial
  have h23 := Fr.at F10 h17 (ApL.not (x := some b1) (S := []) trivial _ rfl)
  have h24 := (h18).fr F10 trivial
  have h25 := (h19).fr F10 trivial
  have h26 := (h20).fr F10 trivial
  have h27 := (h15).fr F10 trivial
  have F11 := Fr.step F9 F10 trivial
  refine ⟨_, _, rfl, rfl, ?_⟩
  refine WL.batch 1 [1, 3] (E' := [(1, .pointer (some ⟨b1, 0, none⟩)), (3, .slice A5 l4.length n5)]) (by kernel_rfl) ?_
  refine WL.nil ?_
  refine W.seq ?_
  refine W.region ?_
  refine WL.batch 2 [1, 18, 19] (E' := [(1, .pointer (some ⟨b1, 0, none⟩)), (18, .slice A5 l4.length n5), (19, .pointer (some ⟨b1, 3, none⟩))]) (by kernel_rfl) ?_
  refine WL.value (.int .i64 p0_3) rfl rfl rfl (ex_loadOne Try.underlying3 rfl rfl h23 (Lens.skip rfl (Lens.skip rfl (Lens.skip rfl (Lens.head _ ([Value.int .i64 p0_3]) _) rfl) rfl) rfl)) rfl ?_
  refine WL.batch 2 [1, 18, 21, 22] (E' := [(1, .pointer (some ⟨b1, 0, none⟩)), (18, .slice A5 l4.length n5), (21, .int .u8 (IntKind.wrap .u8 p0_3)), (22, .pointer (some ⟨b1, 4, none⟩))]) (by kernel_rfl) ?_
  obtain ⟨x2, q6, hm⟩ := of_let hm
  rw [q6]
  refine WL.value (.int .i64 p0_4) rfl rfl rfl (ex_loadOne Try.underlying3 rfl rfl h23 (Lens.skip rfl (Lens.skip rfl (Lens.skip rfl (Lens.skip rfl (Lens.head _ ([Value.int .i64 p0_4]) _) rfl) rfl) rfl) rfl)) rfl ?_
  refine WL.batch 1 [1, 18, 21, 24] (E' := [(1, .pointer (some ⟨b1, 0, none⟩)), (18, .slice A5 l4.length n5), (21, .int .u8 x2), (24, .int .u8 (IntKind.wrap .u8 p0_4))]) (by kernel_rfl) ?_
  obtain ⟨x3, q7, hm⟩ := of_let hm
  rw [q7]
  refine WL.op rfl rfl rfl (ex_buildSliceI (T := 5) (k := .u8) (l2 := [x2, x3]) rfl (fun _ => by kernel_rfl) rfl rfl) ?_
  rintro _ w7 ⟨A6, n6, rfl, h28, F12, s7⟩
  have h29 := (h22).fr F12 trivial
  have h30 := Fr.at F12 h23 (ApL.not (x := some b1) (S := []) trivial _ rfl)
  have h31 := (h24).fr F12 trivial
  have h32 := (h25).fr F12 trivial
  have h33 := (h26).fr F12 trivial
  have h34 := (h27).fr F12 trivial
  have h35 := (h21).fr F12 trivial
  have F13 := Fr.step F11 F12 trivial
  refine ⟨_, rfl, ?_⟩
  obtain ⟨l5, q8, hm⟩ := of_let hm
  obtain ⟨c3, hm⟩ := of_guard hm
  refine WL.op rfl rfl rfl (ex_appendI (k := .u8) (bytes := 1) Try.underlying23 (by kernel_rfl) rfl rfl h35 (h28).rd q8 c3) ?_
  rintro _ w8 ⟨A7, n7, rfl, h36, F14, s8⟩
  have h37 := (h29).fr F14 ⟨(Ap.symm (Src.ap' s6 (h16).lt trivial)), trivial⟩
  have h38 := Fr.at F14 h30 (ApL.not (x := some b1) (S := [ablk A5]) ⟨(Ap.symm (Src.ap' s6 (Lt.one (at_lt h17)) trivial)), trivial⟩ _ rfl)
  have h39 := (h31).fr F14 ⟨(Ap.symm (Src.ap' s6 (h18).lt trivial)), trivial⟩
  have h40 := (h32).fr F14 ⟨(Ap.symm (Src.ap' s6 (h19).lt trivial)), trivial⟩
  have h41 := (h33).fr F14 ⟨(Ap.symm (Src.ap' s6 (h20).lt trivial)), trivial⟩
  have h42 := (h34).fr F14 ⟨(Ap.symm (Src.ap' s6 (h15).lt trivial)), trivial⟩
  have h43 := (h28).fr F14 ⟨(Src.ap' s7 (h21).lt trivial), trivial⟩
  have F15 := Fr.step F13 F14 ⟨(In0.src s6 F9.size trivial), trivial⟩
  refine ⟨_, rfl, ?_⟩
  refine WL.batch 1 [1, 3] (E' := [(1, .pointer (some ⟨b1, 0, none⟩)), (3, .slice A7 l5.length n7)]) (by kernel_rfl) ?_
  refine WL.nil ?_
  refine W.seq ?_
  refine W.region ?_
  refine WL.batch 2 [1, 27, 28] (E' := [(1, .pointer (some ⟨b1, 0, none⟩)), (27, .slice A7 l5.length n7), (28, .pointer (some ⟨b1, 5, none⟩))]) (by kernel_rfl) ?_
  obtain ⟨l6, q9, hm⟩ := of_let hm
  refine WL.opU rfl rfl rfl (ex_sliceArrU (k1 := .i64) (k2 := .i64) (k := .u8) (v := p0_5) Try.underlying22 Try.sizeOf5 rfl (.inr ⟨rfl, rfl⟩) (.inr ⟨rfl, rfl⟩) (by decide) rfl h38 (Lens.skip rfl (Lens.skip rfl (Lens.skip rfl (Lens.skip rfl (Lens.skip rfl (Lens.head _ (ints .u8 p0_5.toList) _) rfl) rfl) rfl) rfl) rfl) q9) ?_
  rintro _ ⟨o1, n8, rfl, h44, q10, s9⟩
  refine ⟨_, rfl, ?_⟩
  obtain ⟨l7, q11, hm⟩ := of_let hm
  obtain ⟨c4, hm⟩ := of_guard hm
  refine WL.op rfl rfl rfl (ex_appendI (k := .u8) (bytes := 1) Try.underlying23 (by kernel_rfl) rfl rfl h36 h44 q11 c4) ?_
  rintro _ w9 ⟨A8, n9, rfl, h45, F16, s10⟩
  have h46 := (h37).fr F16 ⟨(Ap.symm (Src.ap' s8 (h29).lt ⟨(Src.ap' s6 (h16).lt trivial), trivial⟩)), trivial⟩
  have h47 := Fr.at F16 h38 (ApL.not (x := some b1) (S := [ablk A7]) ⟨(Ap.symm (Src.ap' s8 (Lt.one (at_lt h30)) ⟨(Src.ap' s6 (Lt.one (at_lt h17)) trivial), trivial⟩)), trivial⟩ _ rfl)
  have h48 := (h39).fr F16 ⟨(Ap.symm (Src.ap' s8 (h31).lt ⟨(Src.ap' s6 (h18).lt trivial), trivial⟩)), trivial⟩
  have h49 := (h40).fr F16 ⟨(Ap.symm (Src.ap' s8 (h32).lt ⟨(Src.ap' s6 (h19).lt trivial), trivial⟩)), trivial⟩
  have h50 := (h41).fr F16 ⟨(Ap.symm (Src.ap' s8 (h33).lt ⟨(Src.ap' s6 (h20).lt trivial), trivial⟩)), trivial⟩
  have h51 := (h42).fr F16 ⟨(Ap.symm (Src.ap' s8 (h34).lt ⟨(Src.ap' s6 (h15).lt trivial), trivial⟩)), trivial⟩
  have h52 := (h43).fr F16 ⟨(Ap.symm (Src.ap' s8 (h28).lt ⟨(Ap.symm (Src.ap' s7 (h21).lt trivial)), trivial⟩)), trivial⟩
  have h53 := (h44).fr F16 ⟨(Src.ap' s9 (h36).lt ⟨(Ap.symm (Src.ap' s8 (Lt.one (at_lt h30)) ⟨(Src.ap' s6 (Lt.one (at_lt h17)) trivial), trivial⟩)), trivial⟩), trivial⟩
  have F17 := Fr.step F15 F16 ⟨(In0.src s8 F13.size ⟨(In0.src s6 F9.size trivial), trivial⟩), trivial⟩
  refine ⟨_, rfl, ?_⟩
  refine WL.batch 1 [1, 3] (E' := [(1, .pointer (some ⟨b1, 0, none⟩)), (3, .slice A8 l7.length n9)]) (by kernel_rfl) ?_
  refine WL.nil ?_
  refine W.seq ?_
  refine W.region ?_
  refine WL.batch 2 [31, 32] (E' := [(31, .slice A8 l7.length n9), (32, .pointer (some ⟨b1, 37, none⟩))]) (by kernel_rfl) ?_
  refine WL.value (.slice Ap0_6 p0_6.length np0_6) rfl rfl rfl (ex_loadOne Try.underlying23 rfl rfl h47 (Lens.skip rfl (Lens.skip rfl (Lens.skip rfl (Lens.skip rfl (Lens.skip rfl (Lens.skip (ivl _ _) (Lens.all _ ([Value.slice Ap0_6 p0_6.length np0_6])) rfl) rfl) rfl) rfl) rfl) rfl)) rfl ?_
  obtain ⟨l8, q12, hm⟩ := of_bind hm
  refine WL.call rfl rfl rfl (ex_callI (args := [.slice A8 l7.length n9, .slice Ap0_6 p0_6.length np0_6]) rfl rfl rfl Try.call27) (cauteryref01_PutString_walk k l7 p0_6 A8 n9 Ap0_6 np0_6 _ (h45).rd h46  l8 q12) ?_
  rintro _ w10 ⟨A9, n10, rfl, F18, h54, s11⟩
  have h55 := (h46).fr F18 trivial
  have h56 := Fr.at F18 h47 (ApL.not (x := some b1) (S := []) trivial _ rfl)
  have h57 := (h48).fr F18 trivial
  have h58 := (h49).fr F18 trivial
  have h59 := (h50).fr F18 trivial
  have h60 := (h51).fr F18 trivial
  have h61 := (h52).fr F18 trivial
  have h62 := (h53).fr F18 trivial
  have h63 := (h45).fr F18 trivial
  have F19 := Fr.step F17 F18 trivial
  refine ⟨_, _, rfl, rfl, ?_⟩
  refine WL.batch 1 [2] (E' := [(2, .slice A9 l8.length n10)]) (by kernel_rfl) ?_
  refine WL.nil ?_
  refine W.ret ?_
  obtain rfl := Option.some.inj hm
  exact ⟨_, ⟨_, _, rfl, rfl, rfl⟩, ⟨A9, n10, rfl, F19, h54, (Src.trans' s11 F17.size trivial)⟩⟩

/- cautery/cauteryref21.Encode -/
theorem cauteryref21_Encode_walk (k : Nat) (p0_0 : Int) (p0_1 : ByteArray) (p0_2 : ByteArray) (p0_3 : Int) (p0_4 : Int) (p0_5 : Vector Int 32) (p0_6 : List Int) (Ap0_6 : Option Addr) (np0_6 : Nat) (w : World) (hp0_6 : Rd w 1 Ap0_6 p0_6.length np0_6 (ints .u8 p0_6)) (r0 : List Int) (r1 : Int) (hm : cauteryref21_Encode.f k p0_0 p0_1 p0_2 p0_3 p0_4 p0_5 p0_6 = some (r0, r1)) :
    Calls Try.prog 9 #[.agg ([Value.int .i64 p0_0] ++ ([Value.string p0_1] ++ ([Value.string p0_2] ++ ([Value.int .i64 p0_3] ++ ([Value.int .i64 p0_4] ++ (ints .u8 p0_5.toList ++ ([Value.slice Ap0_6 p0_6.length np0_6]))))))).toArray] w fun e w' => ∃ (A0 : Option Addr) (n0 : Nat), e = .returned (.tuple #[.slice A0 r0.length n0, .int .i64 r1]) ∧ Fr [] w w' ∧ Own w' 5 1 A0 r0.length n0 (ints .u8 r0) ∧ Src (ablk A0) w.heap.size [] := by
  have F0 := Fr.refl [] w
  unfold cauteryref21_Encode.f at hm
  refine W.enter (args := [.agg ([Value.int .i64 p0_0] ++ ([Value.string p0_1] ++ ([Value.string p0_2] ++ ([Value.int .i64 p0_3] ++ ([Value.int .i64 p0_4] ++ (ints .u8 p0_5.toList ++ ([Value.slice Ap0_6 p0_6.length np0_6]))))))).toArray]) Try.func9 rfl (n := 16) rfl rfl ?_
  refine W.seq ?_
  refine W.region ?_
  refine WL.op rfl rfl rfl (ex_box' (cs := [Value.int .i64 p0_0] ++ ([Value.string p0_1] ++ ([Value.string p0_2] ++ ([Value.int .i64 p0_3] ++ ([Value.int .i64 p0_4] ++ (ints .u8 p0_5.toList ++ ([Value.slice Ap0_6 p0_6.length np0_6]))))))) rfl rfl) ?_
  rintro _ w1 ⟨b1, rfl, N1⟩
  have h1 := N1.at_
  have s1 := Src.new [] (Ge.one N1.ge)
  have h2 := (hp0_6).fr N1.fr trivial
  have F1 := Fr.step F0 N1.fr trivial
  refine ⟨_, rfl, ?_⟩
  refine WL.batch 2 [1] (E' := [(1, .pointer (some ⟨b1, 0, none⟩))]) (by kernel_rfl) ?_
  refine WL.nil ?_
  refine W.seq ?_
  refine W.seq ?_
  refine W.region ?_
  refine WL.value (.agg ([Value.int .i64 p0_0] ++ ([Value.string p0_1] ++ ([Value.string p0_2] ++ ([Value.int .i64 p0_3] ++ ([Value.int .i64 p0_4] ++ (ints .u8 p0_5.toList ++ ([Value.slice Ap0_6 p0_6.length np0_6]))))))).toArray) rfl rfl rfl (ex_loadAgg Try.underlying32 rfl Try.sizeOf32 (len_app rfl (len_app rfl (len_app rfl (len_app rfl (len_app rfl (len_app (ivl _ _) rfl rfl) rfl) rfl) rfl) rfl) rfl) rfl h1 (Lens.all _ ([Value.int .i64 p0_0] ++ ([Value.string p0_1] ++ ([Value.string p0_2] ++ ([Value.int .i64 p0_3] ++ ([Value.int .i64 p0_4] ++ (ints .u8 p0_5.toList ++ ([Value.slice Ap0_6 p0_6.length np0_6]))))))))) rfl ?_
  obtain ⟨y1, q1, hm⟩ := of_bind hm
  refine WL.call rfl rfl rfl (ex_callI (args := [.agg ([Value.int .i64 p0_0] ++ ([Value.string p0_1] ++ ([Value.string p0_2] ++ ([Value.int .i64 p0_3] ++ ([Value.int .i64 p0_4] ++ (ints .u8 p0_5.toList ++ ([Value.slice Ap0_6 p0_6.length np0_6]))))))).toArray]) rfl rfl rfl Try.call12) (cauteryref21_May_walk k p0_0 p0_1 p0_2 p0_3 p0_4 p0_5 p0_6 Ap0_6 np0_6 _ h2  y1 q1) ?_
  rintro _ w2 ⟨rfl, F2⟩
  have h3 := (h2).fr F2 trivial
  have h4 := Fr.at F2 h1 (ApL.not (x := some b1) (S := []) trivial _ rfl)
  have F3 := Fr.step F1 F2 trivial
  refine ⟨_, _, rfl, rfl, ?_⟩
  refine WL.batch 1 [1, 8] (E' := [(1, .pointer (some ⟨b1, 0, none⟩)), (8, .bool (!y1))]) (by kernel_rfl) ?_
  refine WL.nil ?_
  rcases of_cond hm with ⟨c1, hm⟩ | ⟨c1, hm⟩
  · refine W.condT _ rfl c1 ?_
    refine W.seq ?_
    refine W.region ?_
    refine WL.batch 2 [2, 3] (E' := [(2, .slice none 0 0), (3, .int .i64 1)]) (by kernel_rfl) ?_
    refine WL.nil ?_
    refine W.ret ?_
    obtain ⟨q0a, q0b⟩ := Prod.mk.inj (Option.some.inj hm)
    subst q0a
    subst q0b
    exact ⟨_, ⟨_, _, rfl, rfl, ⟨_, _, rfl, rfl, rfl⟩⟩, ⟨none, 0, rfl, F3, (Own.nil _ _ _), (.inl (by simp [ablk, rblk]))⟩⟩
  · refine W.condF _ rfl c1 ?_
    refine W.skip ?_
    refine W.seq ?_
    refine W.region ?_
    refine WL.value (.agg ([Value.int .i64 p0_0] ++ ([Value.string p0_1] ++ ([Value.string p0_2] ++ ([Value.int .i64 p0_3] ++ ([Value.int .i64 p0_4] ++ (ints .u8 p0_5.toList ++ ([Value.slice Ap0_6 p0_6.length np0_6]))))))).toArray) rfl rfl rfl (ex_loadAgg Try.underlying32 rfl Try.sizeOf32 (len_app rfl (len_app rfl (len_app rfl (len_app rfl (len_app rfl (len_app (ivl _ _) rfl rfl) rfl) rfl) rfl) rfl) rfl) rfl h4 (Lens.all _ ([Value.int .i64 p0_0] ++ ([Value.string p0_1] ++ ([Value.string p0_2] ++ ([Value.int .i64 p0_3] ++ ([Value.int .i64 p0_4] ++ (ints .u8 p0_5.toList ++ ([Value.slice Ap0_6 p0_6.length np0_6]))))))))) rfl ?_
    obtain ⟨l1, q2, hm⟩ := of_bind hm
    refine WL.call rfl rfl rfl (ex_callI (args := [.agg ([Value.int .i64 p0_0] ++ ([Value.string p0_1] ++ ([Value.string p0_2] ++ ([Value.int .i64 p0_3] ++ ([Value.int .i64 p0_4] ++ (ints .u8 p0_5.toList ++ ([Value.slice Ap0_6 p0_6.length np0_6]))))))).toArray]) rfl rfl rfl Try.call18) (cauteryref21_ahead_walk k p0_0 p0_1 p0_2 p0_3 p0_4 p0_5 p0_6 Ap0_6 np0_6 _ h3  l1 q2) ?_
    rintro _ w3 ⟨A1, n1, rfl, F4, h5, s2⟩
    have h6 := (h3).fr F4 trivial
    have h7 := Fr.at F4 h4 (ApL.not (x := some b1) (S := []) trivial _ rfl)
    have F5 := Fr.step F3 F4 trivial
    refine ⟨_, _, rfl, rfl, ?_⟩
    refine WL.batch 1 [4] (E' := [(4, .slice A1 l1.length n1)]) (by kernel_rfl) ?_
    refine WL.nil ?_
    refine W.seq ?_
    refine W.region ?_
    refine WL.batch 1 [4, 11] (E' := [(4, .slice A1 l1.length n1), (11, .slice A1 l1.length n1)]) (by kernel_rfl) ?_
    obtain ⟨a1, q3, hm⟩ := of_bind hm
    refine WL.call rfl rfl rfl (ex_callI (args := [.slice A1 l1.length n1]) rfl rfl rfl Try.call19) (cauteryref02_Sum_walk k l1 A1 n1 _ (h5).rd  a1 q3) ?_
    rintro _ w4 ⟨rfl, F6⟩
    have h8 := (h6).fr F6 trivial
    have h9 := Fr.at F6 h7 (ApL.not (x := some b1) (S := []) trivial _ rfl)
    have h10 := (h5).fr F6 trivial
    have F7 := Fr.step F5 F6 trivial
    refine ⟨_, _, rfl, rfl, ?_⟩
    refine WL.op rfl rfl rfl (ex_alloc' (z := .agg (ints .u8 (Vector.replicate 32 (0 : Int)).toList).toArray) (cs := ints .u8 (Vector.replicate 32 (0 : Int)).toList) (fun _ => by kernel_rfl) (by kernel_rfl)) ?_
    rintro _ w5 ⟨b2, rfl, N2⟩
    have h11 := N2.at_
    have s3 := Src.new [] (Ge.one N2.ge)
    have h12 := (h8).fr N2.fr trivial
    have h13 := Fr.at N2.fr h9 (ApL.not (x := some b1) (S := []) trivial _ rfl)
    have h14 := (h10).fr N2.fr trivial
    have F8 := Fr.step F7 N2.fr trivial
    refine ⟨_, rfl, ?_⟩
    refine WL.opS rfl rfl rfl (ex_storeObj rfl rfl Try.sizeOf22 h11 (Lens.all _ (ints .u8 a1.toList)) (ivl _ _) (ivl _ _) rfl (ints_one _ _)) ?_
    rintro w6 ⟨F9, h15⟩
    have h16 := (h12).fr F9 ⟨(Ap.symm (Src.ap' s3 (h8).lt trivial)), trivial⟩
    have h17 := Fr.at F9 h13 (ApL.not (x := some b1) (S := [some b2]) ⟨(Ap.symm (Src.ap' s3 (Lt.one (at_lt h9)) trivial)), trivial⟩ _ rfl)
    have h18 := (h14).fr F9 ⟨(Ap.symm (Src.ap' s3 (h10).lt trivial)), trivial⟩
    have F10 := Fr.step F8 F9 ⟨(In0.src s3 F7.size trivial), trivial⟩
    refine ⟨_, rfl, ?_⟩
    refine WL.nil ?_
    refine W.seq ?_
    refine W.region ?_
    refine WL.batch 1 [5, 13] (E' := [(5, .pointer (some ⟨b2, 0, none⟩)), (13, .slice A1 l1.length n1)]) (by kernel_rfl) ?_
    obtain ⟨l2, q4, hm⟩ := of_let hm
    refine WL.opU rfl rfl rfl (ex_sliceArrU (k1 := .i64) (k2 := .i64) (k := .u8) (v := a1) Try.underlying22 Try.sizeOf5 rfl (.inr ⟨rfl, rfl⟩) (.inl rfl) (by decide) rfl h15 (Lens.all _ (ints .u8 a1.toList)) q4) ?_
    rintro _ ⟨o1, n2, rfl, h19, q5, s4⟩
    refine ⟨_, rfl, ?_⟩
    obtain ⟨l3, q6, hm⟩ := of_let hm
    obtain ⟨c2, hm⟩ := of_guard hm
    refine WL.op rfl rfl rfl (ex_appendI (k := .u8) (bytes := 1) Try.underlying23 (by kernel_rfl) rfl rfl h18 h19 q6 c2) ?_
    rintro _ w7 ⟨A2, n3, rfl, h20, F11, s5⟩
    have h21 := (h16).fr F11 ⟨(Ap.symm (Src.ap' s2 (h3).lt trivial)), trivial⟩
    have h22 := Fr.at F11 h17 (ApL.not (x := some b1) (S := [ablk A1]) ⟨(Ap.symm (Src.ap' s2 (Lt.one (at_lt h4)) trivial)), trivial⟩ _ rfl)
    have h23 := Fr.at F11 h15 (ApL.not (x := some b2) (S := [ablk A1]) ⟨(Src.ap' s3 (h10).lt trivial), trivial⟩ _ rfl)
    have h24 := (h19).fr F11 ⟨(Src.ap' s4 (h18).lt ⟨(Src.ap' s3 (h10).lt trivial), trivial⟩), trivial⟩
    have F12 := Fr.step F10 F11 ⟨(In0.src s2 F3.size trivial), trivial⟩
    refine ⟨_, rfl, ?_⟩
    refine WL.batch 2 [2, 3] (E' := [(2, .slice A2 l3.length n3), (3, .int .i64 0)]) (by kernel_rfl) ?_
    refine WL.nil ?_
    refine W.ret ?_
    obtain ⟨q0a, q0b⟩ := Prod.mk.inj (Option.some.inj hm)
    subst q0a
    subst q0b
    exact ⟨_, ⟨_, _, rfl, rfl, ⟨_, _, rfl, rfl, rfl⟩⟩, ⟨A2, n3, rfl, F12, h20, (Src.trans' s5 F10.size ⟨(Src.trans' s2 F3.size trivial), trivial⟩)⟩⟩

/- cautery/cauterylaw21.BisectEncode -/
theorem cauterylaw21_BisectEncode_walk (k : Nat) (p0_0 : Int) (p0_1 : ByteArray) (p0_2 : ByteArray) (p0_3 : Int) (p0_4 : Int) (p0_5 : Vector Int 32) (p0_6 : List Int) (Ap0_6 : Option Addr) (np0_6 : Nat) (w : World) (hp0_6 : Rd w 1 Ap0_6 p0_6.length np0_6 (ints .u8 p0_6)) (r0 : Bool) (hm : cauterylaw21_BisectEncode.f k p0_0 p0_1 p0_2 p0_3 p0_4 p0_5 p0_6 = some r0) :
    Calls Try.prog 3 #[.agg ([Value.int .i64 p0_0] ++ ([Value.string p0_1] ++ ([Value.string p0_2] ++ ([Value.int .i64 p0_3] ++ ([Value.int .i64 p0_4] ++ (ints .u8 p0_5.toList ++ ([Value.slice Ap0_6 p0_6.length np0_6]))))))).toArray] w fun e w' => e = .returned (.bool r0) ∧ Fr [] w w' := by
  have F0 := Fr.refl [] w
  unfold cauterylaw21_BisectEncode.f at hm
  refine W.enter (args := [.agg ([Value.int .i64 p0_0] ++ ([Value.string p0_1] ++ ([Value.string p0_2] ++ ([Value.int .i64 p0_3] ++ ([Value.int .i64 p0_4] ++ (ints .u8 p0_5.toList ++ ([Value.slice Ap0_6 p0_6.length np0_6]))))))).toArray]) Try.func3 rfl (n := 43) rfl rfl ?_
  refine W.seq ?_
  refine W.region ?_
  refine WL.op rfl rfl rfl (ex_box' (cs := [Value.int .i64 p0_0] ++ ([Value.string p0_1] ++ ([Value.string p0_2] ++ ([Value.int .i64 p0_3] ++ ([Value.int .i64 p0_4] ++ (ints .u8 p0_5.toList ++ ([Value.slice Ap0_6 p0_6.length np0_6]))))))) rfl rfl) ?_
  rintro _ w1 ⟨b1, rfl, N1⟩
  have h1 := N1.at_
  have s1 := Src.new [] (Ge.one N1.ge)
  have h2 := (hp0_6).fr N1.fr trivial
  have F1 := Fr.step F0 N1.fr trivial
  refine ⟨_, rfl, ?_⟩
  refine WL.batch 1 [1] (E' := [(1, .pointer (some ⟨b1, 0, none⟩))]) (by kernel_rfl) ?_
  refine WL.nil ?_
  refine W.seq ?_
  refine W.seq ?_
  refine W.region ?_
  refine WL.value (.agg ([Value.int .i64 p0_0] ++ ([Value.string p0_1] ++ ([Value.string p0_2] ++ ([Value.int .i64 p0_3] ++ ([Value.int .i64 p0_4] ++ (ints .u8 p0_5.toList ++ ([Value.slice Ap0_6 p0_6.length np0_6]))))))).toArray) rfl rfl rfl (ex_loadAgg Try.underlying25 rfl Try.sizeOf25 (len_app rfl (len_app rfl (len_app rfl (len_app rfl (len_app rfl (len_app (ivl _ _) rfl rfl) rfl) rfl) rfl) rfl) rfl) rfl h1 (Lens.all _ ([Value.int .i64 p0_0] ++ ([Value.string p0_1] ++ ([Value.string p0_2] ++ ([Value.int .i64 p0_3] ++ ([Value.int .i64 p0_4] ++ (ints .u8 p0_5.toList ++ ([Value.slice Ap0_6 p0_6.length np0_6]))))))))) rfl ?_
  obtain ⟨y1, q1, hm⟩ := of_bind hm
  refine WL.call rfl rfl rfl (ex_callI (args := [.agg ([Value.int .i64 p0_0] ++ ([Value.string p0_1] ++ ([Value.string p0_2] ++ ([Value.int .i64 p0_3] ++ ([Value.int .i64 p0_4] ++ (ints .u8 p0_5.toList ++ ([Value.slice Ap0_6 p0_6.length np0_6]))))))).toArray]) rfl rfl rfl Try.call6) (cauterylaw21_small_walk p0_0 p0_1 p0_2 p0_3 p0_4 p0_5 p0_6 Ap0_6 np0_6 _ h2  y1 q1) ?_
  rintro _ w2 ⟨rfl, F2⟩
  have h3 := (h2).fr F2 trivial
  have h4 := Fr.at F2 h1 (ApL.not (x := some b1) (S := []) trivial _ rfl)
  have F3 := Fr.step F1 F2 trivial
  refine ⟨_, _, rfl, rfl, ?_⟩
  refine WL.batch 1 [1, 9] (E' := [(1, .pointer (some ⟨b1, 0, none⟩)), (9, .bool (!y1))]) (by kernel_rfl) ?_
  refine WL.nil ?_
  rcases of_cond hm with ⟨c1, hm⟩ | ⟨c1, hm⟩
  · refine W.condT _ rfl c1 ?_
    refine W.seq ?_
    refine W.region ?_
    obtain ⟨y2, q2, hm⟩ := of_bind hm
    refine WL.call rfl rfl rfl (ex_callI (args := []) rfl rfl rfl Try.call7) (cauterylaw21_alive_walk k   _   y2 q2) ?_
    rintro _ w3 ⟨rfl, F4⟩
    have h5 := (h3).fr F4 trivial
    have h6 := Fr.at F4 h4 (ApL.not (x := some b1) (S := []) trivial _ rfl)
    have F5 := Fr.step F3 F4 trivial
    refine ⟨_, _, rfl, rfl, ?_⟩
    refine WL.batch 1 [2] (E' := [(2, .bool y2)]) (by kernel_rfl) ?_
    refine WL.nil ?_
    refine W.ret ?_
    obtain rfl := Option.some.inj hm
    exact ⟨_, ⟨_, _, rfl, rfl, rfl⟩, ⟨rfl, F5⟩⟩
  · refine W.condF _ rfl c1 ?_
    refine W.skip ?_
    refine W.seq ?_
    refine W.region ?_
    refine WL.value (.agg ([Value.int .i64 p0_0] ++ ([Value.string p0_1] ++ ([Value.string p0_2] ++ ([Value.int .i64 p0_3] ++ ([Value.int .i64 p0_4] ++ (ints .u8 p0_5.toList ++ ([Value.slice Ap0_6 p0_6.length np0_6]))))))).toArray) rfl rfl rfl (ex_loadAgg Try.underlying25 rfl Try.sizeOf25 (len_app rfl (len_app rfl (len_app rfl (len_app rfl (len_app rfl (len_app (ivl _ _) rfl rfl) rfl) rfl) rfl) rfl) rfl) rfl h4 (Lens.all _ ([Value.int .i64 p0_0] ++ ([Value.string p0_1] ++ ([Value.string p0_2] ++ ([Value.int .i64 p0_3] ++ ([Value.int .i64 p0_4] ++ (ints .u8 p0_5.toList ++ ([Value.slice Ap0_6 p0_6.length np0_6]))))))))) rfl ?_
    obtain ⟨⟨l1, x1⟩, q3, hm⟩ := of_bind hm
    refine WL.call rfl rfl rfl (ex_callI (args := [.agg ([Value.int .i64 p0_0] ++ ([Value.string p0_1] ++ ([Value.string p0_2] ++ ([Value.int .i64 p0_3] ++ ([Value.int .i64 p0_4] ++ (ints .u8 p0_5.toList ++ ([Value.slice Ap0_6 p0_6.length np0_6]))))))).toArray]) rfl rfl rfl Try.call8) (bisect_Encode_walk k p0_0 p0_1 p0_2 p0_3 p0_4 p0_5 p0_6 Ap0_6 np0_6 _ h3  l1 x1 q3) ?_
    rintro _ w4 ⟨A1, n1, rfl, F6, h7, s2⟩
    have h8 := (h3).fr F6 trivial
    have h9 := Fr.at F6 h4 (ApL.not (x := some b1) (S := []) trivial _ rfl)
    have F7 := Fr.step F3 F6 trivial
    refine ⟨_, _, rfl, rfl, ?_⟩
    refine WL.batch 5 [1, 3, 4] (E' := [(1, .pointer (some ⟨b1, 0, none⟩)), (3, .slice A1 l1.length n1), (4, .int .i64 x1)]) (by kernel_rfl) ?_
    refine WL.nil ?_
    refine W.seq ?_
    refine W.region ?_
    refine WL.value (.agg ([Value.int .i64 p0_0] ++ ([Value.string p0_1] ++ ([Value.string p0_2] ++ ([Value.int .i64 p0_3] ++ ([Value.int .i64 p0_4] ++ (ints .u8 p0_5.toList ++ ([Value.slice Ap0_6 p0_6.length np0_6]))))))).toArray) rfl rfl rfl (ex_loadAgg Try.underlying25 rfl Try.sizeOf25 (len_app rfl (len_app rfl (len_app rfl (len_app rfl (len_app rfl (len_app (ivl _ _) rfl rfl) rfl) rfl) rfl) rfl) rfl) rfl h9 (Lens.all _ ([Value.int .i64 p0_0] ++ ([Value.string p0_1] ++ ([Value.string p0_2] ++ ([Value.int .i64 p0_3] ++ ([Value.int .i64 p0_4] ++ (ints .u8 p0_5.toList ++ ([Value.slice Ap0_6 p0_6.length np0_6]))))))))) rfl ?_
    obtain ⟨⟨x2, s3, s4, x3, x4, a1, l2⟩, q4, hm⟩ := of_bind hm
    refine WL.call rfl rfl rfl (ex_callI (args := [.agg ([Value.int .i64 p0_0] ++ ([Value.string p0_1] ++ ([Value.string p0_2] ++ ([Value.int .i64 p0_3] ++ ([Value.int .i64 p0_4] ++ (ints .u8 p0_5.toList ++ ([Value.slice Ap0_6 p0_6.length np0_6]))))))).toArray]) rfl rfl rfl Try.call10) (cauterylaw21_plain_walk p0_0 p0_1 p0_2 p0_3 p0_4 p0_5 p0_6 Ap0_6 np0_6 _ h8  x2 s3 s4 x3 x4 a1 l2 q4) ?_
    rintro _ w5 ⟨A2, n2, rfl, F8, h10, s5⟩
    have h11 := (h8).fr F8 trivial
    have h12 := Fr.at F8 h9 (ApL.not (x := some b1) (S := []) trivial _ rfl)
    have h13 := (h7).fr F8 trivial
    have F9 := Fr.step F7 F8 trivial
    refine ⟨_, _, rfl, rfl, ?_⟩
    obtain ⟨⟨l3, x5⟩, q5, hm⟩ := of_bind hm
    refine WL.call rfl rfl rfl (ex_callI (args := [.agg ([Value.int .i64 x2] ++ ([Value.string s3] ++ ([Value.string s4] ++ ([Value.int .i64 x3] ++ ([Value.int .i64 x4] ++ (ints .u8 a1.toList ++ ([Value.slice A2 l2.length n2]))))))).toArray]) rfl rfl rfl Try.call9) (cauteryref21_Encode_walk k x2 s3 s4 x3 x4 a1 l2 A2 n2 _ h10  l3 x5 q5) ?_
    rintro _ w6 ⟨A3, n3, rfl, F10, h14, s6⟩
    have h15 := (h11).fr F10 trivial
    have h16 := Fr.at F10 h12 (ApL.not (x := some b1) (S := []) trivial _ rfl)
    have h17 := (h13).fr F10 trivial
    have h18 := (h10).fr F10 trivial
    have F11 := Fr.step F9 F10 trivial
    refine ⟨_, _, rfl, rfl, ?_⟩
    refine WL.batch 5 [1, 3, 4, 5, 6] (E' := [(1, .pointer (some ⟨b1, 0, none⟩)), (3, .slice A1 l1.length n1), (4, .int .i64 x1), (5, .slice A3 l3.length n3), (6, .int .i64 x5)]) (by kernel_rfl) ?_
    refine WL.nil ?_
    refine W.seq ?_
    refine W.regionDw (N := 22) Try_mixed rfl ?_
    intro w7 F12
    have h19 := (h15).fr F12 trivial
    have h20 := Fr.at F12 h16 (ApL.not (x := some b1) (S := []) trivial _ rfl)
    have h21 := (h17).fr F12 trivial
    have h22 := (h18).fr F12 trivial
    have h23 := (h14).fr F12 trivial
    have F13 := Fr.step F11 F12 trivial
    obtain ⟨y3, q6, hm⟩ := of_bind hm
    refine WD.call 0 (by kernel_rfl) rfl rfl rfl rfl (ex_callI (args := []) rfl rfl rfl Try.call7) (cauterylaw21_alive_walk k   _   y3 q6) ?_
    rintro _ w8 ⟨rfl, F14⟩
    have h24 := (h19).fr F14 trivial
    have h25 := Fr.at F14 h20 (ApL.not (x := some b1) (S := []) trivial _ rfl)
    have h26 := (h21).fr F14 trivial
    have h27 := (h22).fr F14 trivial
    have h28 := (h23).fr F14 trivial
    have F15 := Fr.step F13 F14 trivial
    refine ⟨_, _, rfl, rfl, trivial, ?_⟩
    refine WD.batch (f' := 20) [1] #[true, true, false, false, false, false, false, false, false, false, false, false, false, false, false, false, false, false, false, false, false, false] [1, 3, 4, 5, 6, 23] rfl (E' := [(1, .pointer (some ⟨b1, 0, none⟩)), (3, .slice A1 l1.length n1), (4, .int .i64 x1), (5, .slice A3 l3.length n3), (6, .int .i64 x5), (23, .bool y3)]) (by kernel_rfl) ?_
    rcases of_cond hm with ⟨c2, hm⟩ | ⟨c2, hm⟩
    · rw [c2]
      refine WD.batch (f' := 18) [2, 4] #[true, true, true, false, true, false, false, false, false, false, false, false, false, false, false, false, false, false, false, false, false, false] [1, 4, 6, 23, 24, 26] rfl (E' := [(1, .pointer (some ⟨b1, 0, none⟩)), (4, .int .i64 x1), (6, .int .i64 x5), (23, .bool true), (24, .slice A1 l1.length n1), (26, .slice A3 l3.length n3)]) (by kernel_rfl) ?_
      obtain ⟨s7, q7, hm⟩ := of_let hm
      refine WD.load 3 [15, 17, 18] [6, 7, 8, 9, 10, 11, 12, 13, 14, 15, 16, 17, 18, 19, 20, 21] (.string s7) rfl (by kernel_rfl) rfl rfl rfl (by rw [← q7]; exact (ex_bytesStr Try.underlying23 Try.underlying9 Try.underlying5 rfl (h26).rd)) ?_
      obtain ⟨s8, q8, hm⟩ := of_let hm
      refine WD.load 5 [15, 17, 18] [6, 7, 8, 9, 10, 11, 12, 13, 14, 15, 16, 17, 18, 19, 20, 21] (.string s8) rfl (by kernel_rfl) rfl rfl rfl (by rw [← q8]; exact (ex_bytesStr Try.underlying23 Try.underlying9 Try.underlying5 rfl (h28).rd)) ?_
      refine WD.batch (f' := 13) [6, 7, 8] #[true, true, true, true, true, true, true, true, true, false, false, false, false, false, false, false, false, false, false, false, false, false] [1, 4, 6, 30] rfl (E' := [(1, .pointer (some ⟨b1, 0, none⟩)), (4, .int .i64 x1), (6, .int .i64 x5), (30, .bool (s7.toList == s8.toList))]) (by kernel_rfl) ?_
      rcases of_cond hm with ⟨c3, hm⟩ | ⟨c3, hm⟩
      · rw [c3]
        refine WD.batch (f' := 8) [9, 10, 11, 12, 13] #[true, true, true, true, true, true, true, true, true, true, true, true, true, true, false, false, false, false, false, false, false, false] [1, 35] rfl (E' := [(1, .pointer (some ⟨b1, 0, none⟩)), (35, .bool (x1 == (x5 : Int)))]) (by kernel_rfl) ?_
        rcases of_cond hm with ⟨c4, hm⟩ | ⟨c4, hm⟩
        · rw [c4]
          refine WD.load 14 [15, 17, 18] [15, 17, 18, 19, 20, 21] (.agg ([Value.int .i64 p0_0] ++ ([Value.string p0_1] ++ ([Value.string p0_2] ++ ([Value.int .i64 p0_3] ++ ([Value.int .i64 p0_4] ++ (ints .u8 p0_5.toList ++ ([Value.slice Ap0_6 p0_6.length np0_6]))))))).toArray) rfl (by kernel_rfl) rfl rfl rfl (ex_loadAgg Try.underlying25 rfl Try.sizeOf25 (len_app rfl (len_app rfl (len_app rfl (len_app rfl (len_app rfl (len_app (ivl _ _) rfl rfl) rfl) rfl) rfl) rfl) rfl) rfl h25 (Lens.all _ ([Value.int .i64 p0_0] ++ ([Value.string p0_1] ++ ([Value.string p0_2] ++ ([Value.int .i64 p0_3] ++ ([Value.int .i64 p0_4] ++ (ints .u8 p0_5.toList ++ ([Value.slice Ap0_6 p0_6.length np0_6]))))))))) ?_
          refine WD.load 16 [17, 18] [17, 18, 19, 20, 21] (.agg ([Value.int .i64 p0_0] ++ ([Value.string p0_1] ++ ([Value.string p0_2] ++ ([Value.int .i64 p0_3] ++ ([Value.int .i64 p0_4] ++ (ints .u8 p0_5.toList ++ ([Value.slice Ap0_6 p0_6.length np0_6]))))))).toArray) rfl (by kernel_rfl) rfl rfl rfl (ex_loadAgg Try.underlying25 rfl Try.sizeOf25 (len_app rfl (len_app rfl (len_app rfl (len_app rfl (len_app rfl (len_app (ivl _ _) rfl rfl) rfl) rfl) rfl) rfl) rfl) rfl h25 (Lens.all _ ([Value.int .i64 p0_0] ++ ([Value.string p0_1] ++ ([Value.string p0_2] ++ ([Value.int .i64 p0_3] ++ ([Value.int .i64 p0_4] ++ (ints .u8 p0_5.toList ++ ([Value.slice Ap0_6 p0_6.length np0_6]))))))))) ?_
          obtain ⟨y4, q9, hm⟩ := of_bind hm
          refine WD.call 15 (by kernel_rfl) rfl rfl rfl rfl (ex_callI (args := [.agg ([Value.int .i64 p0_0] ++ ([Value.string p0_1] ++ ([Value.string p0_2] ++ ([Value.int .i64 p0_3] ++ ([Value.int .i64 p0_4] ++ (ints .u8 p0_5.toList ++ ([Value.slice Ap0_6 p0_6.length np0_6]))))))).toArray]) rfl rfl rfl Try.call11) (bisect_May_walk k p0_0 p0_1 p0_2 p0_3 p0_4 p0_5 p0_6 Ap0_6 np0_6 _ h24  y4 q9) ?_
          rintro _ w9 ⟨rfl, F16⟩
          have h29 := (h24).fr F16 trivial
          have h30 := Fr.at F16 h25 (ApL.not (x := some b1) (S := []) trivial _ rfl)
          have h31 := (h26).fr F16 trivial
          have h32 := (h27).fr F16 trivial
          have h33 := (h28).fr F16 trivial
          have F17 := Fr.step F15 F16 trivial
          refine ⟨_, _, rfl, rfl, ⟨(ex_loadAgg Try.underlying25 rfl Try.sizeOf25 (len_app rfl (len_app rfl (len_app rfl (len_app rfl (len_app rfl (len_app (ivl _ _) rfl rfl) rfl) rfl) rfl) rfl) rfl) rfl h30 (Lens.all _ ([Value.int .i64 p0_0] ++ ([Value.string p0_1] ++ ([Value.string p0_2] ++ ([Value.int .i64 p0_3] ++ ([Value.int .i64 p0_4] ++ (ints .u8 p0_5.toList ++ ([Value.slice Ap0_6 p0_6.length np0_6]))))))))), trivial⟩, ?_⟩
          obtain ⟨⟨x6, s9, s10, x7, x8, a2, l4⟩, q10, hm⟩ := of_bind hm
          refine WD.call 17 (by kernel_rfl) rfl rfl rfl rfl (ex_callI (args := [.agg ([Value.int .i64 p0_0] ++ ([Value.string p0_1] ++ ([Value.string p0_2] ++ ([Value.int .i64 p0_3] ++ ([Value.int .i64 p0_4] ++ (ints .u8 p0_5.toList ++ ([Value.slice Ap0_6 p0_6.length np0_6]))))))).toArray]) rfl rfl rfl Try.call10) (cauterylaw21_plain_walk p0_0 p0_1 p0_2 p0_3 p0_4 p0_5 p0_6 Ap0_6 np0_6 _ h29  x6 s9 s10 x7 x8 a2 l4 q10) ?_
          rintro _ w10 ⟨A4, n4, rfl, F18, h34, s11⟩
          have h35 := (h29).fr F18 trivial
          have h36 := Fr.at F18 h30 (ApL.not (x := some b1) (S := []) trivial _ rfl)
          have h37 := (h31).fr F18 trivial
          have h38 := (h32).fr F18 trivial
          have h39 := (h33).fr F18 trivial
          have F19 := Fr.step F17 F18 trivial
          refine ⟨_, _, rfl, rfl, trivial, ?_⟩
          obtain ⟨y5, q11, hm⟩ := of_bind hm
          refine WD.call 18 (by kernel_rfl) rfl rfl rfl rfl (ex_callI (args := [.agg ([Value.int .i64 x6] ++ ([Value.string s9] ++ ([Value.string s10] ++ ([Value.int .i64 x7] ++ ([Value.int .i64 x8] ++ (ints .u8 a2.toList ++ ([Value.slice A4 l4.length n4]))))))).toArray]) rfl rfl rfl Try.call12) (cauteryref21_May_walk k x6 s9 s10 x7 x8 a2 l4 A4 n4 _ h34  y5 q11) ?_
          rintro _ w11 ⟨rfl, F20⟩
          have h40 := (h35).fr F20 trivial
          have h41 := Fr.at F20 h36 (ApL.not (x := some b1) (S := []) trivial _ rfl)
          have h42 := (h37).fr F20 trivial
          have h43 := (h38).fr F20 trivial
          have h44 := (h39).fr F20 trivial
          have h45 := (h34).fr F20 trivial
          have F21 := Fr.step F19 F20 trivial
          refine ⟨_, _, rfl, rfl, trivial, ?_⟩
          refine WD.batch (f' := 0) [19, 20, 21] #[true, true, true, true, true, true, true, true, true, true, true, true, true, true, true, true, true, true, true, true, true, true] [2] rfl (E' := [(2, .bool (y4 == y5))]) (by kernel_rfl) ?_
          refine WD.end_ (by kernel_rfl) ?_
          refine W.ret ?_
          obtain rfl := Option.some.inj hm
          exact ⟨_, ⟨_, _, rfl, rfl, rfl⟩, ⟨rfl, F21⟩⟩
        · rw [c4]
          refine WD.batch (f' := 6) [14, 16] #[true, true, true, true, true, true, true, true, true, true, true, true, true, true, true, false, true, false, false, false, false, false] [35, 36, 38] rfl (E' := [(35, .bool false), (36, undef), (38, undef)]) (by kernel_rfl) ?_
          refine WD.skip 15 (by kernel_rfl) rfl rfl rfl trivial ?_
          refine WD.skip 17 (by kernel_rfl) rfl rfl rfl trivial ?_
          refine WD.skip 18 (by kernel_rfl) rfl rfl rfl trivial ?_
          refine WD.batch (f' := 0) [19, 20, 21] #[true, true, true, true, true, true, true, true, true, true, true, true, true, true, true, true, true, true, true, true, true, true] [2] rfl (E' := [(2, .bool false)]) (by kernel_rfl) ?_
          refine WD.end_ (by kernel_rfl) ?_
          refine W.ret ?_
          obtain rfl := Option.some.inj hm
          exact ⟨_, ⟨_, _, rfl, rfl, rfl⟩, ⟨rfl, F15⟩⟩
      · rw [c3]
        refine WD.batch (f' := 6) [9, 10, 11, 12, 13, 14, 16] #[true, true, true, true, true, true, true, true, true, true, true, true, true, true, true, false, true, false, false, false, false, false] [35, 36, 38] rfl (E' := [(35, .bool false), (36, undef), (38, undef)]) (by kernel_rfl) ?_
        refine WD.skip 15 (by kernel_rfl) rfl rfl rfl trivial ?_
        refine WD.skip 17 (by kernel_rfl) rfl rfl rfl trivial ?_
        refine WD.skip 18 (by kernel_rfl) rfl rfl rfl trivial ?_
        refine WD.batch (f' := 0) [19, 20, 21] #[true, true, true, true, true, true, true, true, true, true, true, true, true, true, true, true, true, true, true, true, true, true] [2] rfl (E' := [(2, .bool false)]) (by kernel_rfl) ?_
        refine WD.end_ (by kernel_rfl) ?_
        refine W.ret ?_
        obtain rfl := Option.some.inj hm
        exact ⟨_, ⟨_, _, rfl, rfl, rfl⟩, ⟨rfl, F15⟩⟩
    · rw [c2]
      refine WD.batch (f' := 6) [2, 3, 4, 5, 6, 7, 8, 9, 10, 11, 12, 13, 14, 16] #[true, true, true, true, true, true, true, true, true, true, true, true, true, true, true, false, true, false, false, false, false, false] [35, 36, 38] rfl (E' := [(35, .bool false), (36, undef), (38, undef)]) (by kernel_rfl) ?_
      refine WD.skip 15 (by kernel_rfl) rfl rfl rfl trivial ?_
      refine WD.skip 17 (by kernel_rfl) rfl rfl rfl trivial ?_
      refine WD.skip 18 (by kernel_rfl) rfl rfl rfl trivial ?_
      refine WD.batch (f' := 0) [19, 20, 21] #[true, true, true, true, true, true, true, true, true, true, true, true, true, true, true, true, true, true, true, true, true, true] [2] rfl (E' := [(2, .bool false)]) (by kernel_rfl) ?_
      refine WD.end_ (by kernel_rfl) ?_
      refine W.ret ?_
      obtain rfl := Option.some.inj hm
      exact ⟨_, ⟨_, _, rfl, rfl, rfl⟩, ⟨rfl, F15⟩⟩

/- cautery/cauteryref01.TakeBytes -/
theorem cauteryref01_TakeBytes_walk (p0 : List Int) (p1 : Int) (Ap0 : Option Addr) (np0 : Nat) (w : World) (hp0 : Rd w 1 Ap0 p0.length np0 (ints .u8 p0)) (r0 : List Int) (r1 : List Int) (r2 : Int) (hm : cauteryref01_TakeBytes.f p0 p1 = some (r0, r1, r2)) :
    Calls Try.prog 34 #[.slice Ap0 p0.length np0, .int .i64 p1] w fun e w' => ∃ (A0 : Option Addr) (n0 : Nat) (A1 : Option Addr) (n1 : Nat), e = .returned (.tuple #[.slice A0 r0.length n0, .slice A1 r1.length n1, .int .i64 r2]) ∧ Fr [] w w' ∧ Rd w' 1 A0 r0.length n0 (ints .u8 r0) ∧ Src (rblk A0 r0.length) w.heap.size [rblk Ap0 p0.length] ∧ Rd w' 1 A1 r1.length n1 (ints .u8 r1) ∧ Src (rblk A1 r1.length) w.heap.size [rblk Ap0 p0.length] := by
  have F0 := Fr.refl [] w
  unfold cauteryref01_TakeBytes.f at hm
  refine W.enter (args := [.slice Ap0 p0.length np0, .int .i64 p1]) Try.func34 rfl (n := 19) rfl rfl ?_
  refine W.seq ?_
  refine W.region ?_
  refine WL.batch 3 [0, 1] (E' := [(0, .slice Ap0 p0.length np0), (1, .int .i64 p1)]) (by kernel_rfl) ?_
  refine WL.nil ?_
  refine W.seq ?_
  refine W.seq ?_
  refine W.region ?_
  refine WL.batch 2 [0, 1, 8] (E' := [(0, .slice Ap0 p0.length np0), (1, .int .i64 p1), (8, .bool (decide (p1 < (0 : Int))))]) (by kernel_rfl) ?_
  refine WL.nil ?_
  rcases of_cond hm with ⟨c1, hm⟩ | ⟨c1, hm⟩
  · refine W.condT _ rfl c1 ?_
    refine W.seq ?_
    refine W.region ?_
    refine WL.batch 3 [4, 5, 6] (E' := [(4, .slice none 0 0), (5, .slice none 0 0), (6, .int .i64 1)]) (by kernel_rfl) ?_
    refine WL.nil ?_
    refine W.ret ?_
    obtain ⟨q0a, q0b⟩ := Prod.mk.inj (Option.some.inj hm)
    obtain ⟨q1a, q1b⟩ := Prod.mk.inj (q0b)
    subst q0a
    subst q1a
    subst q1b
    exact ⟨_, ⟨_, _, rfl, rfl, ⟨_, _, rfl, rfl, ⟨_, _, rfl, rfl, rfl⟩⟩⟩, ⟨none, 0, none, 0, rfl, F0, (Rd.nil _ _), (.inl (by simp [ablk, rblk])), (Rd.nil _ _), (.inl (by simp [ablk, rblk]))⟩⟩
  · refine W.condF _ rfl c1 ?_
    refine W.skip ?_
    refine W.seq ?_
    refine W.seq ?_
    refine W.region ?_
    refine WL.batch 4 [0, 1, 12] (E' := [(0, .slice Ap0 p0.length np0), (1, .int .i64 p1), (12, .bool (decide (p1 > ((p0.length : Int) : Int))))]) (by kernel_rfl) ?_
    refine WL.nil ?_
    rcases of_cond hm with ⟨c2, hm⟩ | ⟨c2, hm⟩
    · refine W.condT _ rfl c2 ?_
      refine W.seq ?_
      refine W.region ?_
      refine WL.batch 3 [4, 5, 6] (E' := [(4, .slice none 0 0), (5, .slice none 0 0), (6, .int .i64 2)]) (by kernel_rfl) ?_
      refine WL.nil ?_
      refine W.ret ?_
      obtain ⟨q0a, q0b⟩ := Prod.mk.inj (Option.some.inj hm)
      obtain ⟨q1a, q1b⟩ := Prod.mk.inj (q0b)
      subst q0a
      subst q1a
      subst q1b
      exact ⟨_, ⟨_, _, rfl, rfl, ⟨_, _, rfl, rfl, ⟨_, _, rfl, rfl, rfl⟩⟩⟩, ⟨none, 0, none, 0, rfl, F0, (Rd.nil _ _), (.inl (by simp [ablk, rblk])), (Rd.nil _ _), (.inl (by simp [ablk, rblk]))⟩⟩
    · refine W.condF _ rfl c2 ?_
      refine W.skip ?_
      refine W.seq ?_
      refine W.regionDw (N := 9) Try_mixed rfl ?_
      intro w1 F1
      have h1 := (hp0).fr F1 trivial
      have F2 := Fr.step F0 F1 trivial
      refine WD.batch (f' := 5) [0, 1, 3, 4] #[true, true, false, true, true, false, false, false, false] [13, 14, 16, 17] rfl (E' := [(13, .slice Ap0 p0.length np0), (14, .int .i64 p1), (16, .slice Ap0 p0.length np0), (17, .int .i64 p1)]) (by kernel_rfl) ?_
      obtain ⟨⟨c3, c4, c5⟩, hm⟩ := of_guard hm
      obtain ⟨l1, q1, hm⟩ := of_let hm
      refine WD.opU 2 rfl (by kernel_rfl) rfl rfl (ex_sliceU (k1 := .i64) (k2 := .i64) (k := .u8) Try.underlying23 Try.sizeOf5 rfl (.inr ⟨rfl, rfl⟩) (.inl rfl) ⟨c3, c4, c5⟩ h1 q1) ?_
      rintro _ ⟨A1, n1, rfl, h2, s1⟩
      refine ⟨_, rfl, ?_⟩
      refine WD.batch (f' := 3) [6] #[true, true, true, true, true, false, true, false, false] [4, 16, 17] rfl (E' := [(4, .slice A1 l1.length n1), (16, .slice Ap0 p0.length np0), (17, .int .i64 p1)]) (by kernel_rfl) ?_
      obtain ⟨⟨c6, c7, c8⟩, hm⟩ := of_guard hm
      obtain ⟨l2, q2, hm⟩ := of_let hm
      refine WD.opU 5 rfl (by kernel_rfl) rfl rfl (ex_sliceU (k1 := .i64) (k2 := .i64) (k := .u8) Try.underlying23 Try.sizeOf5 rfl (.inl rfl) (.inr ⟨rfl, rfl⟩) ⟨c6, c7, c8⟩ h1 q2) ?_
      rintro _ ⟨A2, n2, rfl, h3, s2⟩
      refine ⟨_, rfl, ?_⟩
      refine WD.batch (f' := 0) [7, 8] #[true, true, true, true, true, true, true, true, true] [4, 5, 6] rfl (E' := [(4, .slice A1 l1.length n1), (5, .slice A2 l2.length n2), (6, .int .i64 0)]) (by kernel_rfl) ?_
      refine WD.end_ (by kernel_rfl) ?_
      refine W.ret ?_
      obtain ⟨q0a, q0b⟩ := Prod.mk.inj (Option.some.inj hm)
      obtain ⟨q1a, q1b⟩ := Prod.mk.inj (q0b)
      subst q0a
      subst q1a
      subst q1b
      exact ⟨_, ⟨_, _, rfl, rfl, ⟨_, _, rfl, rfl, ⟨_, _, rfl, rfl, rfl⟩⟩⟩, ⟨A1, n1, A2, n2, rfl, F2, h2, (Src.trans' s1 F2.size ⟨(Src.self (by simp)), trivial⟩), h3, (Src.trans' s2 F2.size ⟨(Src.self (by simp)), trivial⟩)⟩⟩

/- cautery/cauteryref01.Take -/
theorem cauteryref01_Take_walk (k : Nat) (p0 : List Int) (Ap0 : Option Addr) (np0 : Nat) (w : World) (hp0 : Rd w 1 Ap0 p0.length np0 (ints .u8 p0)) (r0 : Int) (r1 : List Int) (r2 : Int) (hm : cauteryref01_Take.f k p0 = some (r0, r1, r2)) :
    Calls Try.prog 44 #[.slice Ap0 p0.length np0] w fun e w' => ∃ (A1 : Option Addr) (n1 : Nat), e = .returned (.tuple #[.int .u64 r0, .slice A1 r1.length n1, .int .i64 r2]) ∧ Fr [] w w' ∧ Rd w' 1 A1 r1.length n1 (ints .u8 r1) ∧ Src (rblk A1 r1.length) w.heap.size [rblk Ap0 p0.length] := by
  have F0 := Fr.refl [] w
  unfold cauteryref01_Take.f at hm
  refine W.enter (args := [.slice Ap0 p0.length np0]) Try.func44 rfl (n := 51) rfl rfl ?_
  refine W.seq ?_
  refine W.region ?_
  refine WL.batch 3 [0] (E' := [(0, .slice Ap0 p0.length np0)]) (by kernel_rfl) ?_
  refine WL.nil ?_
  refine W.seq ?_
  refine W.region ?_
  refine WL.batch 1 [0, 5] (E' := [(0, .slice Ap0 p0.length np0), (5, .int .u64 0)]) (by kernel_rfl) ?_
  refine WL.nil ?_
  refine W.seq ?_
  refine W.seq ?_
  refine W.region ?_
  refine WL.batch 1 [0, 5, 6] (E' := [(0, .slice Ap0 p0.length np0), (5, .int .u64 0), (6, .int .i64 0)]) (by kernel_rfl) ?_
  refine WL.nil ?_
  obtain ⟨ex1, hm1, hm2⟩ := of_bind hm
  refine W.joinN (fun E w1 => Env.sub E [(0, .slice Ap0 p0.length np0)] ∧ Rd w1 1 Ap0 p0.length np0 (ints .u8 p0) ∧ Fr [] w w1 ∧ Ex.go () = ex1) ?_ (fun rest1 => ?_)
  · rintro _ w1 ⟨hE, h1, F1, rfl⟩
    replace hm := hm2
    clear hm1
    refine W.sub ?_ hE
    refine W.seq ?_
    refine W.seq ?_
    refine W.region ?_
    refine WL.batch 3 [50] (E' := [(50, .bool (decide ((p0.length : Int) ≥ (10 : Int))))]) (by kernel_rfl) ?_
    refine WL.nil ?_
    rcases of_cond hm with ⟨c1, hm⟩ | ⟨c1, hm⟩
    · refine W.condT _ rfl c1 ?_
      refine W.seq ?_
      refine W.region ?_
      refine WL.batch 3 [2, 3, 4] (E' := [(2, .int .u64 0), (3, .slice none 0 0), (4, .int .i64 3)]) (by kernel_rfl) ?_
      refine WL.nil ?_
      refine W.ret ?_
      obtain ⟨q0a, q0b⟩ := Prod.mk.inj (Option.some.inj hm)
      obtain ⟨q1a, q1b⟩ := Prod.mk.inj (q0b)
      subst q0a
      subst q1a
      subst q1b
      exact ⟨_, ⟨_, _, rfl, rfl, ⟨_, _, rfl, rfl, ⟨_, _, rfl, rfl, rfl⟩⟩⟩, ⟨none, 0, rfl, F1, (Rd.nil _ _), (.inl (by simp [ablk, rblk]))⟩⟩
    · refine W.condF _ rfl c1 ?_
      refine W.skip ?_
      refine W.seq ?_
      refine W.region ?_
      refine WL.batch 3 [2, 3, 4] (E' := [(2, .int .u64 0), (3, .slice none 0 0), (4, .int .i64 2)]) (by kernel_rfl) ?_
      refine WL.nil ?_
      refine W.ret ?_
      obtain ⟨q0a, q0b⟩ := Prod.mk.inj (Option.some.inj hm)
      obtain ⟨q1a, q1b⟩ := Prod.mk.inj (q0b)
      subst q0a
      subst q1a
      subst q1b
      exact ⟨_, ⟨_, _, rfl, rfl, ⟨_, _, rfl, rfl, ⟨_, _, rfl, rfl, rfl⟩⟩⟩, ⟨none, 0, rfl, F1, (Rd.nil _ _), (.inl (by simp [ablk, rblk]))⟩⟩
  · replace hm := hm1
    clear hm1
    refine W.block ?_
    refine W.loop (fun j1 E w2 => ∃ (x1 : Int) (x2 : Int), Env.sub E [(0, .slice Ap0 p0.length np0), (5, .int .u64 x1), (6, .int .i64 x2)] ∧ Rd w2 1 Ap0 p0.length np0 (ints .u8 p0) ∧ Fr [] w w2 ∧ cauteryref01_Take.l0 p0 k j1 x1 x2 = some ex1) ?_ k ?_ ?_
    · rintro _ _ ⟨_, _, _, _, _, hz⟩
      exact absurd hz (by simp [cauteryref01_Take.l0])
    · exact ⟨0, 0, ⟨rfl, rfl, rfl, trivial⟩, hp0, F0, hm⟩
    · rintro j1 _ w2 ⟨x1, x2, hE, h2, F2, hm⟩
      rw [cauteryref01_Take.l0] at hm
      refine W.sub ?_ hE
      refine W.seq ?_
      refine W.seq ?_
      refine W.region ?_
      refine WL.batch 5 [0, 5, 6, 11] (E' := [(0, .slice Ap0 p0.length np0), (5, .int .u64 x1), (6, .int .i64 x2), (11, .bool (decide (x2 < ((p0.length : Int) : Int))))]) (by kernel_rfl) ?_
      rcases of_cond hm with ⟨c2, hm⟩ | ⟨c2, hm⟩
      · rw [c2]
        refine WL.batch 3 [0, 5, 6, 14] (E' := [(0, .slice Ap0 p0.length np0), (5, .int .u64 x1), (6, .int .i64 x2), (14, .bool (decide (x2 < (10 : Int))))]) (by kernel_rfl) ?_
        refine WL.nil ?_
        rcases of_cond hm with ⟨c3, hm⟩ | ⟨c3, hm⟩
        · refine W.condT _ rfl c3 ?_
          refine W.skip ?_
          refine W.seq ?_
          refine W.block ?_
          refine W.seq ?_
          refine W.region ?_
          refine WL.batch 3 [0, 6, 17, 18, 19] (E' := [(0, .slice Ap0 p0.length np0), (6, .int .i64 x2), (17, .int .u64 x1), (18, .slice Ap0 p0.length np0), (19, .int .i64 x2)]) (by kernel_rfl) ?_
          obtain ⟨⟨c4, c5⟩, hm⟩ := of_guard hm
          obtain ⟨b1, o1, q1⟩ := Rd.place h2 (by omega)
          refine WL.value (.pointer (some ⟨b1, o1 + Int.toNat x2 * 1, none⟩)) rfl rfl rfl (ex_indexAddr Try.underlying23 Try.sizeOf5 rfl q1 rfl c4 c5) rfl ?_
          refine WL.value (.int .u8 (lget p0 x2)) rfl rfl rfl (ex_loadElI Try.underlying5 rfl h2 q1 c4 c5) rfl ?_
          refine WL.batch 5 [0, 6, 17, 23, 26] (E' := [(0, .slice Ap0 p0.length np0), (6, .int .i64 x2), (17, .int .u64 x1), (23, .int .u64 (IntKind.wrap .u64 (wrem .u8 (lget p0 x2) 128))), (26, .int .u64 (IntKind.wrap .u64 (wmul .i64 7 x2)))]) (by kernel_rfl) ?_
          obtain ⟨x3, q2, hm⟩ := of_let hm
          rw [q2]
          obtain ⟨x4, q3, hm⟩ := of_let hm
          rw [q3]
          obtain ⟨c6, hm⟩ := of_guard hm
          refine WL.value (.int .u64 (wshl .u64 x3 x4)) rfl rfl rfl (ex_shl rfl rfl c6) rfl ?_
          refine WL.batch 2 [0, 5, 6] (E' := [(0, .slice Ap0 p0.length np0), (5, .int .u64 (wadd .u64 x1 (wshl .u64 x3 x4))), (6, .int .i64 x2)]) (by kernel_rfl) ?_
          obtain ⟨x5, q4, hm⟩ := of_let hm
          rw [q4]
          refine WL.nil ?_
          refine W.seq ?_
          refine W.region ?_
          refine WL.batch 2 [0, 5, 6, 29, 30] (E' := [(0, .slice Ap0 p0.length np0), (5, .int .u64 x5), (6, .int .i64 x2), (29, .slice Ap0 p0.length np0), (30, .int .i64 x2)]) (by kernel_rfl) ?_
          obtain ⟨b2, o2, q5⟩ := Rd.place h2 (by omega)
          refine WL.value (.pointer (some ⟨b2, o2 + Int.toNat x2 * 1, none⟩)) rfl rfl rfl (ex_indexAddr Try.underlying23 Try.sizeOf5 rfl q5 rfl c4 c5) rfl ?_
          refine WL.value (.int .u8 (lget p0 x2)) rfl rfl rfl (ex_loadElI Try.underlying5 rfl h2 q5 c4 c5) rfl ?_
          refine WL.batch 1 [0, 5, 6, 33] (E' := [(0, .slice Ap0 p0.length np0), (5, .int .u64 x5), (6, .int .i64 x2), (33, .bool (decide (lget p0 x2 < (128 : Int))))]) (by kernel_rfl) ?_
          refine WL.nil ?_
          rcases of_cond hm with ⟨c7, hm⟩ | ⟨c7, hm⟩
          · refine W.condT _ rfl c7 ?_
            refine W.seq ?_
            refine W.seq ?_
            refine W.regionDw (N := 9) Try_mixed rfl ?_
            intro w3 F3
            have h3 := (h2).fr F3 trivial
            have F4 := Fr.step F2 F3 trivial
            refine WD.batch (f' := 5) [0, 3, 4, 5] #[true, false, false, true, true, true, false, false, false] [0, 5, 6, 34, 37, 39] rfl (E' := [(0, .slice Ap0 p0.length np0), (5, .int .u64 x5), (6, .int .i64 x2), (34, .int .u64 x5), (37, .slice Ap0 p0.length np0), (39, .int .i64 (wadd .i64 x2 1))]) (by kernel_rfl) ?_
            obtain ⟨x6, q6, hm⟩ := of_let hm
            rw [q6]
            obtain ⟨⟨c8, c9, c10⟩, hm⟩ := of_guard hm
            obtain ⟨l1, q7, hm⟩ := of_let hm
            refine WD.opU 6 rfl (by kernel_rfl) rfl rfl (ex_sliceU (k1 := .i64) (k2 := .i64) (k := .u8) Try.underlying23 Try.sizeOf5 rfl (.inr ⟨rfl, rfl⟩) (.inl rfl) ⟨c8, c9, c10⟩ h3 q7) ?_
            rintro _ ⟨A1, n1, rfl, h4, s1⟩
            refine ⟨_, rfl, ?_⟩
            obtain ⟨s2, q8, hm⟩ := of_let hm
            refine WD.load 7 [] [8] (.string s2) rfl (by kernel_rfl) rfl rfl rfl (by rw [← q8]; exact (ex_bytesStr Try.underlying23 Try.underlying9 Try.underlying5 rfl h4)) ?_
            obtain ⟨l2, q9, hm⟩ := of_bind hm
            refine WD.call 1 (by kernel_rfl) rfl rfl rfl rfl (ex_callI (args := [.slice none 0 0, .int .u64 x5]) rfl rfl rfl Try.call40) (cauteryref01_Put_walk k ([] : List Int) x5 none 0 _ (Rd.nil _ _)  l2 q9) ?_
            rintro _ w4 ⟨A2, n2, rfl, F5, h5, s3⟩
            have h6 := (h3).fr F5 trivial
            have h7 := (h4).fr F5 trivial
            have F6 := Fr.step F4 F5 trivial
            refine ⟨_, _, rfl, rfl, ⟨(by rw [← q8]; exact (ex_bytesStr Try.underlying23 Try.underlying9 Try.underlying5 rfl h7)), trivial⟩, ?_⟩
            obtain ⟨s4, q10, hm⟩ := of_let hm
            refine WD.load 2 [] [8] (.string s4) rfl (by kernel_rfl) rfl rfl rfl (by rw [← q10]; exact (ex_bytesStr Try.underlying23 Try.underlying9 Try.underlying5 rfl (h5).rd)) ?_
            refine WD.batch (f' := 0) [8] #[true, true, true, true, true, true, true, true, true] [0, 5, 6, 42] rfl (E' := [(0, .slice Ap0 p0.length np0), (5, .int .u64 x5), (6, .int .i64 x2), (42, .bool (!(s4.toList == s2.toList)))]) (by kernel_rfl) ?_
            refine WD.end_ (by kernel_rfl) ?_
            rcases of_cond hm with ⟨c11, hm⟩ | ⟨c11, hm⟩
            · refine W.condT _ rfl c11 ?_
              refine W.seq ?_
              refine W.region ?_
              refine WL.batch 3 [2, 3, 4] (E' := [(2, .int .u64 0), (3, .slice none 0 0), (4, .int .i64 3)]) (by kernel_rfl) ?_
              refine WL.nil ?_
              refine W.ret ?_
              obtain rfl := Option.some.inj hm
              replace hm := hm2
              obtain ⟨q0a, q0b⟩ := Prod.mk.inj (Option.some.inj hm)
              obtain ⟨q1a, q1b⟩ := Prod.mk.inj (q0b)
              subst q0a
              subst q1a
              subst q1b
              exact ⟨_, ⟨_, _, rfl, rfl, ⟨_, _, rfl, rfl, ⟨_, _, rfl, rfl, rfl⟩⟩⟩, ⟨none, 0, rfl, F6, (Rd.nil _ _), (.inl (by simp [ablk, rblk]))⟩⟩
            · refine W.condF _ rfl c11 ?_
              refine W.skip ?_
              refine W.seq ?_
              refine W.regionDw (N := 8) Try_mixed rfl ?_
              intro w5 F7
              have h8 := (h6).fr F7 trivial
              have h9 := (h7).fr F7 trivial
              have h10 := (h5).fr F7 trivial
              have F8 := Fr.step F6 F7 trivial
              refine WD.batch (f' := 3) [0, 1, 2, 3, 5] #[true, true, true, true, false, true, false, false] [2, 44, 46] rfl (E' := [(2, .int .u64 x5), (44, .slice Ap0 p0.length np0), (46, .int .i64 (wadd .i64 x2 1))]) (by kernel_rfl) ?_
              obtain ⟨x7, q11, hm⟩ := of_let hm
              rw [q11]
              obtain ⟨⟨c12, c13, c14⟩, hm⟩ := of_guard hm
              obtain ⟨l3, q12, hm⟩ := of_let hm
              refine WD.opU 4 rfl (by kernel_rfl) rfl rfl (ex_sliceU (k1 := .i64) (k2 := .i64) (k := .u8) Try.underlying23 Try.sizeOf5 rfl (.inl rfl) (.inr ⟨rfl, rfl⟩) ⟨c12, c13, c14⟩ h8 q12) ?_
              rintro _ ⟨A3, n3, rfl, h11, s5⟩
              refine ⟨_, rfl, ?_⟩
              refine WD.batch (f' := 0) [6, 7] #[true, true, true, true, true, true, true, true] [2, 3, 4] rfl (E' := [(2, .int .u64 x5), (3, .slice A3 l3.length n3), (4, .int .i64 0)]) (by kernel_rfl) ?_
              refine WD.end_ (by kernel_rfl) ?_
              refine W.ret ?_
              obtain rfl := Option.some.inj hm
              replace hm := hm2
              obtain ⟨q0a, q0b⟩ := Prod.mk.inj (Option.some.inj hm)
              obtain ⟨q1a, q1b⟩ := Prod.mk.inj (q0b)
              subst q0a
              subst q1a
              subst q1b
              exact ⟨_, ⟨_, _, rfl, rfl, ⟨_, _, rfl, rfl, ⟨_, _, rfl, rfl, rfl⟩⟩⟩, ⟨A3, n3, rfl, F8, h11, (Src.trans' s5 F8.size ⟨(Src.self (by simp)), trivial⟩)⟩⟩
          · refine W.condF _ rfl c7 ?_
            refine W.skip ?_
            refine W.region ?_
            refine WL.batch 3 [0, 5, 6] (E' := [(0, .slice Ap0 p0.length np0), (5, .int .u64 x5), (6, .int .i64 (wadd .i64 x2 1))]) (by kernel_rfl) ?_
            obtain ⟨x8, q13, hm⟩ := of_let hm
            rw [q13]
            refine WL.nil ?_
            exact ⟨x5, x8, ⟨rfl, rfl, rfl, trivial⟩, h2, F2, hm⟩
        · refine W.condF _ rfl c3 ?_
          refine W.exit ?_
          exact rest1 _ _ ⟨⟨rfl, trivial⟩, h2, F2, (Option.some.inj hm)⟩
      · rw [c2]
        refine WL.batch 3 [0, 5, 6, 14] (E' := [(0, .slice Ap0 p0.length np0), (5, .int .u64 x1), (6, .int .i64 x2), (14, .bool false)]) (by kernel_rfl) ?_
        refine WL.nil ?_
        refine W.condF _ rfl rfl ?_
        refine W.exit ?_
        exact rest1 _ _ ⟨⟨rfl, trivial⟩, h2, F2, (Option.some.inj hm)⟩

/- cautery/cauteryref01.TakeString -/
theorem cauteryref01_TakeString_walk (k : Nat) (p0 : List Int) (p1 : Int) (Ap0 : Option Addr) (np0 : Nat) (w : World) (hp0 : Rd w 1 Ap0 p0.length np0 (ints .u8 p0)) (r0 : List Int) (r1 : List Int) (r2 : Int) (hm : cauteryref01_TakeString.f k p0 p1 = some (r0, r1, r2)) :
    Calls Try.prog 35 #[.slice Ap0 p0.length np0, .int .i64 p1] w fun e w' => ∃ (A0 : Option Addr) (n0 : Nat) (A1 : Option Addr) (n1 : Nat), e = .returned (.tuple #[.slice A0 r0.length n0, .slice A1 r1.length n1, .int .i64 r2]) ∧ Fr [] w w' ∧ Rd w' 1 A0 r0.length n0 (ints .u8 r0) ∧ Src (rblk A0 r0.length) w.heap.size [rblk Ap0 p0.length] ∧ Rd w' 1 A1 r1.length n1 (ints .u8 r1) ∧ Src (rblk A1 r1.length) w.heap.size [rblk Ap0 p0.length] := by
  have F0 := Fr.refl [] w
  unfold cauteryref01_TakeString.f at hm
  refine W.enter (args := [.slice Ap0 p0.length np0, .int .i64 p1]) Try.func35 rfl (n := 38) rfl rfl ?_
  refine W.seq ?_
  refine W.region ?_
  refine WL.batch 3 [0, 1] (E' := [(0, .slice Ap0 p0.length np0), (1, .int .i64 p1)]) (by kernel_rfl) ?_
  refine WL.nil ?_
  refine W.seq ?_
  refine W.region ?_
  refine WL.batch 1 [1, 11] (E' := [(1, .int .i64 p1), (11, .slice Ap0 p0.length np0)]) (by kernel_rfl) ?_
  obtain ⟨⟨x1, l1, x2⟩, q1, hm⟩ := of_bind hm
  refine WL.call rfl rfl rfl (ex_callI (args := [.slice Ap0 p0.length np0]) rfl rfl rfl Try.call44) (cauteryref01_Take_walk k p0 Ap0 np0 _ hp0  x1 l1 x2 q1) ?_
  rintro _ w1 ⟨A1, n1, rfl, F1, h1, s1⟩
  have h2 := (hp0).fr F1 trivial
  have F2 := Fr.step F0 F1 trivial
  refine ⟨_, _, rfl, rfl, ?_⟩
  refine WL.batch 7 [1, 7, 8, 9] (E' := [(1, .int .i64 p1), (7, .int .u64 x1), (8, .slice A1 l1.length n1), (9, .int .i64 x2)]) (by kernel_rfl) ?_
  refine WL.nil ?_
  refine W.seq ?_
  refine W.seq ?_
  refine W.region ?_
  refine WL.batch 2 [1, 7, 8, 9, 17] (E' := [(1, .int .i64 p1), (7, .int .u64 x1), (8, .slice A1 l1.length n1), (9, .int .i64 x2), (17, .bool (x2 != (0 : Int)))]) (by kernel_rfl) ?_
  refine WL.nil ?_
  rcases of_cond hm with ⟨c1, hm⟩ | ⟨c1, hm⟩
  · refine W.condT _ rfl c1 ?_
    refine W.seq ?_
    refine W.region ?_
    refine WL.batch 4 [4, 5, 6] (E' := [(4, .slice none 0 0), (5, .slice none 0 0), (6, .int .i64 x2)]) (by kernel_rfl) ?_
    refine WL.nil ?_
    refine W.ret ?_
    obtain ⟨q0a, q0b⟩ := Prod.mk.inj (Option.some.inj hm)
    obtain ⟨q1a, q1b⟩ := Prod.mk.inj (q0b)
    subst q0a
    subst q1a
    subst q1b
    exact ⟨_, ⟨_, _, rfl, rfl, ⟨_, _, rfl, rfl, ⟨_, _, rfl, rfl, rfl⟩⟩⟩, ⟨none, 0, none, 0, rfl, F2, (Rd.nil _ _), (.inl (by simp [ablk, rblk])), (Rd.nil _ _), (.inl (by simp [ablk, rblk]))⟩⟩
  · refine W.condF _ rfl c1 ?_
    refine W.skip ?_
    refine W.seq ?_
    obtain ⟨ex1, hm1, hm2⟩ := of_bind hm
    refine W.joinN (fun E w2 => Env.sub E [(7, .int .u64 x1), (8, .slice A1 l1.length n1)] ∧ Rd w2 1 Ap0 p0.length np0 (ints .u8 p0) ∧ Rd w2 1 A1 l1.length n1 (ints .u8 l1) ∧ Fr [] w w2 ∧ Ex.go () = ex1) ?_ (fun rest1 => ?_)
    · rintro _ w2 ⟨hE, h3, h4, F3, rfl⟩
      replace hm := hm2
      clear hm1
      refine W.sub ?_ hE
      refine W.seq ?_
      refine W.seq ?_
      refine W.region ?_
      refine WL.batch 5 [7, 8, 31] (E' := [(7, .int .u64 x1), (8, .slice A1 l1.length n1), (31, .bool (decide (x1 > (IntKind.wrap .u64 (l1.length : Int) : Int))))]) (by kernel_rfl) ?_
      refine WL.nil ?_
      rcases of_cond hm with ⟨c2, hm⟩ | ⟨c2, hm⟩
      · refine W.condT _ rfl c2 ?_
        refine W.seq ?_
        refine W.region ?_
        refine WL.batch 3 [4, 5, 6] (E' := [(4, .slice none 0 0), (5, .slice none 0 0), (6, .int .i64 2)]) (by kernel_rfl) ?_
        refine WL.nil ?_
        refine W.ret ?_
        obtain ⟨q0a, q0b⟩ := Prod.mk.inj (Option.some.inj hm)
        obtain ⟨q1a, q1b⟩ := Prod.mk.inj (q0b)
        subst q0a
        subst q1a
        subst q1b
        exact ⟨_, ⟨_, _, rfl, rfl, ⟨_, _, rfl, rfl, ⟨_, _, rfl, rfl, rfl⟩⟩⟩, ⟨none, 0, none, 0, rfl, F3, (Rd.nil _ _), (.inl (by simp [ablk, rblk])), (Rd.nil _ _), (.inl (by simp [ablk, rblk]))⟩⟩
      · refine W.condF _ rfl c2 ?_
        refine W.skip ?_
        refine W.seq ?_
        refine W.regionDw (N := 9) Try_mixed rfl ?_
        intro w3 F4
        have h5 := (h3).fr F4 trivial
        have h6 := (h4).fr F4 trivial
        have F5 := Fr.step F3 F4 trivial
        refine WD.batch (f' := 5) [0, 1, 3, 4] #[true, true, false, true, true, false, false, false, false] [32, 33, 35, 36] rfl (E' := [(32, .slice A1 l1.length n1), (33, .int .u64 x1), (35, .slice A1 l1.length n1), (36, .int .u64 x1)]) (by kernel_rfl) ?_
        obtain ⟨⟨c3, c4, c5⟩, hm⟩ := of_guard hm
        obtain ⟨l2, q2, hm⟩ := of_let hm
        refine WD.opU 2 rfl (by kernel_rfl) rfl rfl (ex_sliceU (k1 := .i64) (k2 := .u64) (k := .u8) Try.underlying23 Try.sizeOf5 rfl (.inr ⟨rfl, rfl⟩) (.inl rfl) ⟨c3, c4, c5⟩ h6 q2) ?_
        rintro _ ⟨A2, n2, rfl, h7, s2⟩
        refine ⟨_, rfl, ?_⟩
        refine WD.batch (f' := 3) [6] #[true, true, true, true, true, false, true, false, false] [4, 35, 36] rfl (E' := [(4, .slice A2 l2.length n2), (35, .slice A1 l1.length n1), (36, .int .u64 x1)]) (by kernel_rfl) ?_
        obtain ⟨⟨c6, c7, c8⟩, hm⟩ := of_guard hm
        obtain ⟨l3, q3, hm⟩ := of_let hm
        refine WD.opU 5 rfl (by kernel_rfl) rfl rfl (ex_sliceU (k1 := .u64) (k2 := .i64) (k := .u8) Try.underlying23 Try.sizeOf5 rfl (.inl rfl) (.inr ⟨rfl, rfl⟩) ⟨c6, c7, c8⟩ h6 q3) ?_
        rintro _ ⟨A3, n3, rfl, h8, s3⟩
        refine ⟨_, rfl, ?_⟩
        refine WD.batch (f' := 0) [7, 8] #[true, true, true, true, true, true, true, true, true] [4, 5, 6] rfl (E' := [(4, .slice A2 l2.length n2), (5, .slice A3 l3.length n3), (6, .int .i64 0)]) (by kernel_rfl) ?_
        refine WD.end_ (by kernel_rfl) ?_
        refine W.ret ?_
        obtain ⟨q0a, q0b⟩ := Prod.mk.inj (Option.some.inj hm)
        obtain ⟨q1a, q1b⟩ := Prod.mk.inj (q0b)
        subst q0a
        subst q1a
        subst q1b
        exact ⟨_, ⟨_, _, rfl, rfl, ⟨_, _, rfl, rfl, ⟨_, _, rfl, rfl, rfl⟩⟩⟩, ⟨A2, n2, A3, n3, rfl, F5, h7, (Src.trans' s2 F5.size ⟨(Src.trans' s1 (Nat.le_refl _) ⟨(Src.self (by simp)), trivial⟩), trivial⟩), h8, (Src.trans' s3 F5.size ⟨(Src.trans' s1 (Nat.le_refl _) ⟨(Src.self (by simp)), trivial⟩), trivial⟩)⟩⟩
    · replace hm := hm1
      clear hm1
      refine W.seq ?_
      refine W.region ?_
      refine WL.batch 3 [1, 7, 8, 21] (E' := [(1, .int .i64 p1), (7, .int .u64 x1), (8, .slice A1 l1.length n1), (21, .bool (decide (p1 < (0 : Int))))]) (by kernel_rfl) ?_
      rcases of_cond hm with ⟨c9, hm⟩ | ⟨c9, hm⟩
      · rw [c9]
        refine WL.batch 5 [7, 8, 26] (E' := [(7, .int .u64 x1), (8, .slice A1 l1.length n1), (26, .bool true)]) (by kernel_rfl) ?_
        refine WL.nil ?_
        refine W.condT _ rfl rfl ?_
        refine W.seq ?_
        refine W.region ?_
        refine WL.batch 3 [4, 5, 6] (E' := [(4, .slice none 0 0), (5, .slice none 0 0), (6, .int .i64 4)]) (by kernel_rfl) ?_
        refine WL.nil ?_
        refine W.ret ?_
        obtain rfl := Option.some.inj hm
        replace hm := hm2
        obtain ⟨q0a, q0b⟩ := Prod.mk.inj (Option.some.inj hm)
        obtain ⟨q1a, q1b⟩ := Prod.mk.inj (q0b)
        subst q0a
        subst q1a
        subst q1b
        exact ⟨_, ⟨_, _, rfl, rfl, ⟨_, _, rfl, rfl, ⟨_, _, rfl, rfl, rfl⟩⟩⟩, ⟨none, 0, none, 0, rfl, F2, (Rd.nil _ _), (.inl (by simp [ablk, rblk])), (Rd.nil _ _), (.inl (by simp [ablk, rblk]))⟩⟩
      · rw [c9]
        refine WL.batch 5 [7, 8, 26] (E' := [(7, .int .u64 x1), (8, .slice A1 l1.length n1), (26, .bool (decide (x1 > (IntKind.wrap .u64 p1 : Int))))]) (by kernel_rfl) ?_
        refine WL.nil ?_
        rcases of_cond hm with ⟨c10, hm⟩ | ⟨c10, hm⟩
        · refine W.condT _ rfl c10 ?_
          refine W.seq ?_
          refine W.region ?_
          refine WL.batch 3 [4, 5, 6] (E' := [(4, .slice none 0 0), (5, .slice none 0 0), (6, .int .i64 4)]) (by kernel_rfl) ?_
          refine WL.nil ?_
          refine W.ret ?_
          obtain rfl := Option.some.inj hm
          replace hm := hm2
          obtain ⟨q0a, q0b⟩ := Prod.mk.inj (Option.some.inj hm)
          obtain ⟨q1a, q1b⟩ := Prod.mk.inj (q0b)
          subst q0a
          subst q1a
          subst q1b
          exact ⟨_, ⟨_, _, rfl, rfl, ⟨_, _, rfl, rfl, ⟨_, _, rfl, rfl, rfl⟩⟩⟩, ⟨none, 0, none, 0, rfl, F2, (Rd.nil _ _), (.inl (by simp [ablk, rblk])), (Rd.nil _ _), (.inl (by simp [ablk, rblk]))⟩⟩
        · refine W.condF _ rfl c10 ?_
          refine W.skip ?_
          exact rest1 _ _ ⟨⟨rfl, rfl, trivial⟩, h2, h1, F2, (Option.some.inj hm)⟩

/- cautery/cauteryref21.parse -/
theorem cauteryref21_parse_walk (k : Nat) (p0 : List Int) (Ap0 : Option Addr) (np0 : Nat) (w : World) (hp0 : Rd w 1 Ap0 p0.length np0 (ints .u8 p0)) (r0 : Int) (r1 : ByteArray) (r2 : ByteArray) (r3 : Int) (r4 : Int) (r5 : Vector Int 32) (r6 : List Int) (r7 : Bool) (hm : cauteryref21_parse.f k p0 = some (r0, r1, r2, r3, r4, r5, r6, r7)) :
    Calls Try.prog 24 #[.slice Ap0 p0.length np0] w fun e w' => ∃ (A6 : Option Addr) (n6 : Nat), e = .returned (.tuple #[.agg ([Value.int .i64 r0] ++ ([Value.string r1] ++ ([Value.string r2] ++ ([Value.int .i64 r3] ++ ([Value.int .i64 r4] ++ (ints .u8 r5.toList ++ ([Value.slice A6 r6.length n6]))))))).toArray, .bool r7]) ∧ Fr [] w w' ∧ Rd w' 1 A6 r6.length n6 (ints .u8 r6) ∧ Src (rblk A6 r6.length) w.heap.size [rblk Ap0 p0.length] := by
  have F0 := Fr.refl [] w
  unfold cauteryref21_parse.f at hm
  refine W.enter (args := [.slice Ap0 p0.length np0]) Try.func24 rfl (n := 97) rfl rfl ?_
  refine W.seq ?_
  refine W.region ?_
  refine WL.op rfl rfl rfl (ex_alloc' (z := .agg ([Value.int .i64 0] ++ ([Value.string (⟨#[]⟩ : ByteArray)] ++ ([Value.string (⟨#[]⟩ : ByteArray)] ++ ([Value.int .i64 0] ++ ([Value.int .i64 0] ++ (ints .u8 (Vector.replicate 32 (0 : Int)).toList ++ ([Value.slice none 0 0]))))))).toArray) (cs := [Value.int .i64 0] ++ ([Value.string (⟨#[]⟩ : ByteArray)] ++ ([Value.string (⟨#[]⟩ : ByteArray)] ++ ([Value.int .i64 0] ++ ([Value.int .i64 0] ++ (ints .u8 (Vector.replicate 32 (0 : Int)).toList ++ ([Value.slice none 0 0]))))))) (fun _ => by kernel_rfl) (by kernel_rfl)) ?_
  rintro _ w1 ⟨b1, rfl, N1⟩
  have h1 := N1.at_
  have s1 := Src.new [] (Ge.one N1.ge)
  have h2 := (hp0).fr N1.fr trivial
  have F1 := Fr.step F0 N1.fr trivial
  refine ⟨_, rfl, ?_⟩
  refine WL.batch 1 [0, 2] (E' := [(0, .slice Ap0 p0.length np0), (2, .pointer (some ⟨b1, 0, none⟩))]) (by kernel_rfl) ?_
  refine WL.nil ?_
  refine W.seq ?_
  refine W.region ?_
  refine WL.batch 1 [2, 15] (E' := [(2, .pointer (some ⟨b1, 0, none⟩)), (15, .slice Ap0 p0.length np0)]) (by kernel_rfl) ?_
  obtain ⟨⟨l1, l2, x1⟩, q1, hm⟩ := of_bind hm
  refine WL.call rfl rfl rfl (ex_callI (args := [.slice Ap0 p0.length np0, .int .i64 1]) rfl rfl rfl Try.call34) (cauteryref01_TakeBytes_walk p0 1 Ap0 np0 _ h2  l1 l2 x1 q1) ?_
  rintro _ w2 ⟨A1, n1, A2, n2, rfl, F2, h3, s2, h4, s3⟩
  have h5 := (h2).fr F2 trivial
  have h6 := Fr.at F2 h1 (ApL.not (x := some b1) (S := []) trivial _ rfl)
  have F3 := Fr.step F1 F2 trivial
  refine ⟨_, _, rfl, rfl, ?_⟩
  refine WL.batch 7 [0, 2, 4, 5] (E' := [(0, .slice A2 l2.length n2), (2, .pointer (some ⟨b1, 0, none⟩)), (4, .slice A1 l1.length n1), (5, .int .i64 x1)]) (by kernel_rfl) ?_
  refine WL.nil ?_
  refine W.seq ?_
  refine W.seq ?_
  refine W.region ?_
  refine WL.batch 2 [0, 2, 4, 21] (E' := [(0, .slice A2 l2.length n2), (2, .pointer (some ⟨b1, 0, none⟩)), (4, .slice A1 l1.length n1), (21, .bool (x1 != (0 : Int)))]) (by kernel_rfl) ?_
  refine WL.nil ?_
  rcases of_cond hm with ⟨c1, hm⟩ | ⟨c1, hm⟩
  · refine W.condT _ rfl c1 ?_
    refine W.seq ?_
    refine W.region ?_
    refine WL.value (.agg ([Value.int .i64 0] ++ ([Value.string (⟨#[]⟩ : ByteArray)] ++ ([Value.string (⟨#[]⟩ : ByteArray)] ++ ([Value.int .i64 0] ++ ([Value.int .i64 0] ++ (ints .u8 (Vector.replicate 32 (0 : Int)).toList ++ ([Value.slice none 0 0]))))))).toArray) rfl rfl rfl (ex_build (z := .agg ([Value.int .i64 0] ++ ([Value.string (⟨#[]⟩ : ByteArray)] ++ ([Value.string (⟨#[]⟩ : ByteArray)] ++ ([Value.int .i64 0] ++ ([Value.int .i64 0] ++ (ints .u8 (Vector.replicate 32 (0 : Int)).toList ++ ([Value.slice none 0 0]))))))).toArray) (cs := [Value.int .i64 0] ++ ([Value.string (⟨#[]⟩ : ByteArray)] ++ ([Value.string (⟨#[]⟩ : ByteArray)] ++ ([Value.int .i64 0] ++ ([Value.int .i64 0] ++ (ints .u8 (Vector.replicate 32 (0 : Int)).toList ++ ([Value.slice none 0 0]))))))) (vs := []) (pl := #[(0, 1), (1, 1), (2, 1), (3, 1), (4, 1), (5, 32), (37, 1)]) Try.underlying32 rfl (fun _ => by kernel_rfl) rfl (fun _ => by kernel_rfl) (Fill.nil _)) rfl ?_
    refine WL.opS rfl rfl rfl (ex_storeObj rfl rfl Try.sizeOf32 h6 (Lens.all _ ([Value.int .i64 0] ++ ([Value.string (⟨#[]⟩ : ByteArray)] ++ ([Value.string (⟨#[]⟩ : ByteArray)] ++ ([Value.int .i64 0] ++ ([Value.int .i64 0] ++ (ints .u8 (Vector.replicate 32 (0 : Int)).toList ++ ([Value.slice none 0 0])))))))) (len_app rfl (len_app rfl (len_app rfl (len_app rfl (len_app rfl (len_app (ivl _ _) rfl rfl) rfl) rfl) rfl) rfl) rfl) (len_app rfl (len_app rfl (len_app rfl (len_app rfl (len_app rfl (len_app (ivl _ _) rfl rfl) rfl) rfl) rfl) rfl) rfl) rfl (one_app (one_sing rfl) (one_app (one_sing rfl) (one_app (one_sing rfl) (one_app (one_sing rfl) (one_app (one_sing rfl) (one_app (ints_one _ _) (one_sing rfl)))))))) ?_
    rintro w3 ⟨F4, h7⟩
    have h8 := (h5).fr F4 ⟨(Ap.symm (Src.ap' s1 (hp0).lt trivial)), trivial⟩
    have h9 := (h3).fr F4 ⟨(Src.ap' s2 (Lt.one (at_lt h1)) ⟨(Ap.symm (Src.ap' s1 (hp0).lt trivial)), trivial⟩), trivial⟩
    have h10 := (h4).fr F4 ⟨(Src.ap' s3 (Lt.one (at_lt h1)) ⟨(Ap.symm (Src.ap' s1 (hp0).lt trivial)), trivial⟩), trivial⟩
    have F5 := Fr.step F3 F4 ⟨(In0.src s1 (Nat.le_refl _) trivial), trivial⟩
    refine ⟨_, rfl, ?_⟩
    obtain ⟨a1, q2, hm⟩ := of_let hm
    rw [q2] at h7
    refine WL.batch 1 [2, 3] (E' := [(2, .pointer (some ⟨b1, 0, none⟩)), (3, .bool false)]) (by kernel_rfl) ?_
    refine WL.nil ?_
    refine W.ret ?_
    obtain ⟨q0a, q0b⟩ := Prod.mk.inj (Option.some.inj hm)
    obtain ⟨q1a, q1b⟩ := Prod.mk.inj (q0b)
    obtain ⟨q2a, q2b⟩ := Prod.mk.inj (q1b)
    obtain ⟨q3a, q3b⟩ := Prod.mk.inj (q2b)
    obtain ⟨q4a, q4b⟩ := Prod.mk.inj (q3b)
    obtain ⟨q5a, q5b⟩ := Prod.mk.inj (q4b)
    obtain ⟨q6a, q6b⟩ := Prod.mk.inj (q5b)
    subst q0a
    subst q1a
    subst q2a
    subst q3a
    subst q4a
    subst q5a
    subst q6a
    subst q6b
    exact ⟨_, ⟨_, _, _, rfl, rfl, (loadVar_aggN Try.underlying32 rfl Try.sizeOf32 (len_app rfl (len_app rfl (len_app rfl (len_app rfl (len_app rfl (len_app (ivl _ _) rfl rfl) rfl) rfl) rfl) rfl) rfl) h7 (Lens.all _ ([Value.int .i64 0] ++ ([Value.string (⟨#[]⟩ : ByteArray)] ++ ([Value.string (⟨#[]⟩ : ByteArray)] ++ ([Value.int .i64 0] ++ ([Value.int .i64 0] ++ (ints .u8 a1.toList ++ ([Value.slice none 0 0]))))))))), ⟨_, _, rfl, rfl, rfl⟩⟩, ⟨none, 0, rfl, F5, (Rd.nil _ _), (.inl (by simp [ablk, rblk]))⟩⟩
  · refine W.condF _ rfl c1 ?_
    refine W.skip ?_
    refine W.seq ?_
    refine W.region ?_
    refine WL.batch 1 [2, 4, 24] (E' := [(2, .pointer (some ⟨b1, 0, none⟩)), (4, .slice A1 l1.length n1), (24, .slice A2 l2.length n2)]) (by kernel_rfl) ?_
    obtain ⟨⟨l3, l4, x2⟩, q3, hm⟩ := of_bind hm
    refine WL.call rfl rfl rfl (ex_callI (args := [.slice A2 l2.length n2, .int .i64 12]) rfl rfl rfl Try.call35) (cauteryref01_TakeString_walk k l2 12 A2 n2 _ h4  l3 l4 x2 q3) ?_
    rintro _ w4 ⟨A3, n3, A4, n4, rfl, F6, h11, s4, h12, s5⟩
    have h13 := (h5).fr F6 trivial
    have h14 := Fr.at F6 h6 (ApL.not (x := some b1) (S := []) trivial _ rfl)
    have h15 := (h3).fr F6 trivial
    have h16 := (h4).fr F6 trivial
    have F7 := Fr.step F3 F6 trivial
    refine ⟨_, _, rfl, rfl, ?_⟩
    refine WL.batch 7 [0, 2, 4, 6, 7] (E' := [(0, .slice A4 l4.length n4), (2, .pointer (some ⟨b1, 0, none⟩)), (4, .slice A1 l1.length n1), (6, .slice A3 l3.length n3), (7, .int .i64 x2)]) (by kernel_rfl) ?_
    refine WL.nil ?_
    refine W.seq ?_
    refine W.region ?_
    refine WL.batch 1 [2, 4, 6, 7, 30] (E' := [(2, .pointer (some ⟨b1, 0, none⟩)), (4, .slice A1 l1.length n1), (6, .slice A3 l3.length n3), (7, .int .i64 x2), (30, .slice A4 l4.length n4)]) (by kernel_rfl) ?_
    obtain ⟨⟨l5, l6, x3⟩, q4, hm⟩ := of_bind hm
    refine WL.call rfl rfl rfl (ex_callI (args := [.slice A4 l4.length n4, .int .i64 12]) rfl rfl rfl Try.call35) (cauteryref01_TakeString_walk k l4 12 A4 n4 _ h12  l5 l6 x3 q4) ?_
    rintro _ w5 ⟨A5, n5, A6, n6, rfl, F8, h17, s6, h18, s7⟩
    have h19 := (h13).fr F8 trivial
    have h20 := Fr.at F8 h14 (ApL.not (x := some b1) (S := []) trivial _ rfl)
    have h21 := (h15).fr F8 trivial
    have h22 := (h16).fr F8 trivial
    have h23 := (h11).fr F8 trivial
    have h24 := (h12).fr F8 trivial
    have F9 := Fr.step F7 F8 trivial
    refine ⟨_, _, rfl, rfl, ?_⟩
    refine WL.batch 7 [0, 2, 4, 6, 7, 8, 9] (E' := [(0, .slice A6 l6.length n6), (2, .pointer (some ⟨b1, 0, none⟩)), (4, .slice A1 l1.length n1), (6, .slice A3 l3.length n3), (7, .int .i64 x2), (8, .slice A5 l5.length n5), (9, .int .i64 x3)]) (by kernel_rfl) ?_
    refine WL.nil ?_
    refine W.seq ?_
    obtain ⟨ex1, hm1, hm2⟩ := of_bind hm
    refine W.joinN (fun E w6 => Env.sub E [(0, .slice A6 l6.length n6), (2, .pointer (some ⟨b1, 0, none⟩)), (4, .slice A1 l1.length n1), (6, .slice A3 l3.length n3), (8, .slice A5 l5.length n5)] ∧ Rd w6 1 Ap0 p0.length np0 (ints .u8 p0) ∧ w6.heap[b1]? = some (.cells ([Value.int .i64 0] ++ ([Value.string (⟨#[]⟩ : ByteArray)] ++ ([Value.string (⟨#[]⟩ : ByteArray)] ++ ([Value.int .i64 0] ++ ([Value.int .i64 0] ++ (ints .u8 (Vector.replicate 32 (0 : Int)).toList ++ ([Value.slice none 0 0]))))))).toArray 32 (0, 0)) ∧ Rd w6 1 A1 l1.length n1 (ints .u8 l1) ∧ Rd w6 1 A2 l2.length n2 (ints .u8 l2) ∧ Rd w6 1 A3 l3.length n3 (ints .u8 l3) ∧ Rd w6 1 A4 l4.length n4 (ints .u8 l4) ∧ Rd w6 1 A5 l5.length n5 (ints .u8 l5) ∧ Rd w6 1 A6 l6.length n6 (ints .u8 l6) ∧ Fr [] w w6 ∧ Ex.go () = ex1) ?_ (fun rest1 => ?_)
    · rintro _ w6 ⟨hE, h25, h26, h27, h28, h29, h30, h31, h32, F10, rfl⟩
      replace hm := hm2
      clear hm1
      refine W.sub ?_ hE
      refine W.seq ?_
      refine W.regionDw (N := 19) Try_mixed rfl ?_
      intro w7 F11
      have h33 := (h25).fr F11 trivial
      have h34 := Fr.at F11 h26 (ApL.not (x := some b1) (S := []) trivial _ rfl)
      have h35 := (h27).fr F11 trivial
      have h36 := (h28).fr F11 trivial
      have h37 := (h29).fr F11 trivial
      have h38 := (h30).fr F11 trivial
      have h39 := (h31).fr F11 trivial
      have h40 := (h32).fr F11 trivial
      have F12 := Fr.step F10 F11 trivial
      refine WD.batch (f' := 14) [0, 4, 6, 8, 12] #[true, false, false, false, true, false, true, false, true, false, false, false, true, false, false, false, false, false, false] [0, 2, 47, 51, 53, 55, 59] rfl (E' := [(0, .slice A6 l6.length n6), (2, .pointer (some ⟨b1, 0, none⟩)), (47, .slice A1 l1.length n1), (51, .slice A3 l3.length n3), (53, .slice A5 l5.length n5), (55, .slice A6 l6.length n6), (59, .slice A6 l6.length n6)]) (by kernel_rfl) ?_
      obtain ⟨⟨c2, c3⟩, hm⟩ := of_guard hm
      obtain ⟨b2, o1, q5⟩ := Rd.place h35 (by omega)
      refine WD.valU 1 (.pointer (some ⟨b2, o1 + Int.toNat 0 * 1, none⟩)) rfl (by kernel_rfl) rfl rfl (fun _ => (ex_indexAddr Try.underlying23 Try.sizeOf5 rfl q5 rfl c2 c3)) rfl ?_
      refine WD.load 2 [18] [3, 16, 18] (.int .u8 (lget l1 0)) rfl (by kernel_rfl) rfl rfl rfl (ex_loadElI Try.underlying5 rfl h35 q5 c2 c3) ?_
      refine WD.batch (f' := 11) [3] #[true, true, true, true, true, false, true, false, true, false, false, false, true, false, false, false, false, false, false] [0, 2, 50, 51, 53, 55, 59] rfl (E' := [(0, .slice A6 l6.length n6), (2, .pointer (some ⟨b1, 0, none⟩)), (50, .int .i64 (IntKind.wrap .i64 (lget l1 0))), (51, .slice A3 l3.length n3), (53, .slice A5 l5.length n5), (55, .slice A6 l6.length n6), (59, .slice A6 l6.length n6)]) (by kernel_rfl) ?_
      obtain ⟨x4, q6, hm⟩ := of_let hm
      rw [q6]
      obtain ⟨s8, q7, hm⟩ := of_let hm
      refine WD.load 5 [18] [16, 18] (.string s8) rfl (by kernel_rfl) rfl rfl rfl (by rw [← q7]; exact (ex_bytesStr Try.underlying23 Try.underlying9 Try.underlying5 rfl h37)) ?_
      obtain ⟨s9, q8, hm⟩ := of_let hm
      refine WD.load 7 [18] [16, 18] (.string s9) rfl (by kernel_rfl) rfl rfl rfl (by rw [← q8]; exact (ex_bytesStr Try.underlying23 Try.underlying9 Try.underlying5 rfl h39)) ?_
      obtain ⟨⟨c4, c5⟩, hm⟩ := of_guard hm
      obtain ⟨b3, o2, q9⟩ := Rd.place h40 (by omega)
      refine WD.valU 9 (.pointer (some ⟨b3, o2 + Int.toNat 0 * 1, none⟩)) rfl (by kernel_rfl) rfl rfl (fun _ => (ex_indexAddr Try.underlying23 Try.sizeOf5 rfl q9 rfl c4 c5)) rfl ?_
      refine WD.load 10 [18] [11, 16, 18] (.int .u8 (lget l6 0)) rfl (by kernel_rfl) rfl rfl rfl (ex_loadElI Try.underlying5 rfl h40 q9 c4 c5) ?_
      refine WD.batch (f' := 6) [11] #[true, true, true, true, true, true, true, true, true, true, true, true, true, false, false, false, false, false, false] [0, 2, 50, 52, 54, 58, 59] rfl (E' := [(0, .slice A6 l6.length n6), (2, .pointer (some ⟨b1, 0, none⟩)), (50, .int .i64 x4), (52, .string s8), (54, .string s9), (58, .int .i64 (IntKind.wrap .i64 (lget l6 0))), (59, .slice A6 l6.length n6)]) (by kernel_rfl) ?_
      obtain ⟨x5, q10, hm⟩ := of_let hm
      rw [q10]
      obtain ⟨⟨c6, c7⟩, hm⟩ := of_guard hm
      obtain ⟨b4, o3, q11⟩ := Rd.place h40 (by omega)
      refine WD.valU 13 (.pointer (some ⟨b4, o3 + Int.toNat 1 * 1, none⟩)) rfl (by kernel_rfl) rfl rfl (fun _ => (ex_indexAddr Try.underlying23 Try.sizeOf5 rfl q11 rfl c6 c7)) rfl ?_
      refine WD.load 14 [18] [15, 16, 18] (.int .u8 (lget l6 1)) rfl (by kernel_rfl) rfl rfl rfl (ex_loadElI Try.underlying5 rfl h40 q11 c6 c7) ?_
      refine WD.batch (f' := 3) [15] #[true, true, true, true, true, true, true, true, true, true, true, true, true, true, true, true, false, false, false] [0, 2, 50, 52, 54, 58, 62] rfl (E' := [(0, .slice A6 l6.length n6), (2, .pointer (some ⟨b1, 0, none⟩)), (50, .int .i64 x4), (52, .string s8), (54, .string s9), (58, .int .i64 x5), (62, .int .i64 (IntKind.wrap .i64 (lget l6 1)))]) (by kernel_rfl) ?_
      obtain ⟨x6, q12, hm⟩ := of_let hm
      rw [q12]
      refine WD.valU 16 (.agg ([Value.int .i64 x4] ++ ([Value.string s8] ++ ([Value.string s9] ++ ([Value.int .i64 x5] ++ ([Value.int .i64 x6] ++ (ints .u8 (Vector.replicate 32 (0 : Int)).toList ++ ([Value.slice none 0 0]))))))).toArray) rfl (by kernel_rfl) rfl rfl (fun _ => (ex_build (z := .agg ([Value.int .i64 0] ++ ([Value.string (⟨#[]⟩ : ByteArray)] ++ ([Value.string (⟨#[]⟩ : ByteArray)] ++ ([Value.int .i64 0] ++ ([Value.int .i64 0] ++ (ints .u8 (Vector.replicate 32 (0 : Int)).toList ++ ([Value.slice none 0 0]))))))).toArray) (cs := [Value.int .i64 0] ++ ([Value.string (⟨#[]⟩ : ByteArray)] ++ ([Value.string (⟨#[]⟩ : ByteArray)] ++ ([Value.int .i64 0] ++ ([Value.int .i64 0] ++ (ints .u8 (Vector.replicate 32 (0 : Int)).toList ++ ([Value.slice none 0 0]))))))) (vs := [(0, .int .i64 x4), (1, .string s8), (2, .string s9), (3, .int .i64 x5), (4, .int .i64 x6)]) (pl := #[(0, 1), (1, 1), (2, 1), (3, 1), (4, 1), (5, 32), (37, 1)]) Try.underlying32 rfl (fun _ => by kernel_rfl) rfl (fun _ => by kernel_rfl) (Fill.cons rfl rfl (Lens.head _ ([Value.int .i64 x4]) _) rfl rfl (Fill.cons rfl rfl (Lens.skip rfl (Lens.head _ ([Value.string s8]) _) rfl) rfl rfl (Fill.cons rfl rfl (Lens.skip rfl (Lens.skip rfl (Lens.head _ ([Value.string s9]) _) rfl) rfl) rfl rfl (Fill.cons rfl rfl (Lens.skip rfl (Lens.skip rfl (Lens.skip rfl (Lens.head _ ([Value.int .i64 x5]) _) rfl) rfl) rfl) rfl rfl (Fill.cons rfl rfl (Lens.skip rfl (Lens.skip rfl (Lens.skip rfl (Lens.skip rfl (Lens.head _ ([Value.int .i64 x6]) _) rfl) rfl) rfl) rfl) rfl rfl (Fill.nil _)))))))) rfl ?_
      refine WD.op 17 (by kernel_rfl) rfl rfl rfl rfl (ex_alloc' (z := .agg ([Value.int .i64 0] ++ ([Value.string (⟨#[]⟩ : ByteArray)] ++ ([Value.string (⟨#[]⟩ : ByteArray)] ++ ([Value.int .i64 0] ++ ([Value.int .i64 0] ++ (ints .u8 (Vector.replicate 32 (0 : Int)).toList ++ ([Value.slice none 0 0]))))))).toArray) (cs := [Value.int .i64 0] ++ ([Value.string (⟨#[]⟩ : ByteArray)] ++ ([Value.string (⟨#[]⟩ : ByteArray)] ++ ([Value.int .i64 0] ++ ([Value.int .i64 0] ++ (ints .u8 (Vector.replicate 32 (0 : Int)).toList ++ ([Value.slice none 0 0]))))))) (fun _ => by kernel_rfl) (by kernel_rfl)) ?_
      rintro _ w8 ⟨b5, rfl, N2⟩
      have h41 := N2.at_
      have s10 := Src.new [] (Ge.one N2.ge)
      have h42 := (h33).fr N2.fr trivial
      have h43 := Fr.at N2.fr h34 (ApL.not (x := some b1) (S := []) trivial _ rfl)
      have h44 := (h35).fr N2.fr trivial
      have h45 := (h36).fr N2.fr trivial
      have h46 := (h37).fr N2.fr trivial
      have h47 := (h38).fr N2.fr trivial
      have h48 := (h39).fr N2.fr trivial
      have h49 := (h40).fr N2.fr trivial
      have F13 := Fr.step F12 N2.fr trivial
      refine ⟨_, rfl, ⟨(by first | exact (ex_loadElI Try.underlying5 rfl h49 q11 c6 c7) | (rw [← q12]; exact (ex_loadElI Try.underlying5 rfl h49 q11 c6 c7))), ⟨(by first | exact (by first | exact (ex_loadElI Try.underlying5 rfl h49 q9 c4 c5) | (rw [← q10]; exact (ex_loadElI Try.underlying5 rfl h49 q9 c4 c5))) | (rw [← q12]; exact (by first | exact (ex_loadElI Try.underlying5 rfl h49 q9 c4 c5) | (rw [← q10]; exact (ex_loadElI Try.underlying5 rfl h49 q9 c4 c5))))), ⟨(by first | exact (by first | exact (by rw [← q8]; exact (ex_bytesStr Try.underlying23 Try.underlying9 Try.underlying5 rfl h48)) | (rw [← q10]; exact (by rw [← q8]; exact (ex_bytesStr Try.underlying23 Try.underlying9 Try.underlying5 rfl h48)))) | (rw [← q12]; exact (by first | exact (by rw [← q8]; exact (ex_bytesStr Try.underlying23 Try.underlying9 Try.underlying5 rfl h48)) | (rw [← q10]; exact (by rw [← q8]; exact (ex_bytesStr Try.underlying23 Try.underlying9 Try.underlying5 rfl h48)))))), ⟨(by first | exact (by first | exact (by rw [← q7]; exact (ex_bytesStr Try.underlying23 Try.underlying9 Try.underlying5 rfl h46)) | (rw [← q10]; exact (by rw [← q7]; exact (ex_bytesStr Try.underlying23 Try.underlying9 Try.underlying5 rfl h46)))) | (rw [← q12]; exact (by first | exact (by rw [← q7]; exact (ex_bytesStr Try.underlying23 Try.underlying9 Try.underlying5 rfl h46)) | (rw [← q10]; exact (by rw [← q7]; exact (ex_bytesStr Try.underlying23 Try.underlying9 Try.underlying5 rfl h46)))))), ⟨(by first | exact (by first | exact (by first | exact (ex_loadElI Try.underlying5 rfl h44 q5 c2 c3) | (rw [← q6]; exact (ex_loadElI Try.underlying5 rfl h44 q5 c2 c3))) | (rw [← q10]; exact (by first | exact (ex_loadElI Try.underlying5 rfl h44 q5 c2 c3) | (rw [← q6]; exact (ex_loadElI Try.underlying5 rfl h44 q5 c2 c3))))) | (rw [← q12]; exact (by first | exact (by first | exact (ex_loadElI Try.underlying5 rfl h44 q5 c2 c3) | (rw [← q6]; exact (ex_loadElI Try.underlying5 rfl h44 q5 c2 c3))) | (rw [← q10]; exact (by first | exact (ex_loadElI Try.underlying5 rfl h44 q5 c2 c3) | (rw [← q6]; exact (ex_loadElI Try.underlying5 rfl h44 q5 c2 c3))))))), trivial⟩⟩⟩⟩⟩, ?_⟩
      refine WD.opS 18 (by kernel_rfl) rfl rfl rfl rfl (ex_storeObj rfl rfl Try.sizeOf32 h41 (Lens.all _ ([Value.int .i64 x4] ++ ([Value.string s8] ++ ([Value.string s9] ++ ([Value.int .i64 x5] ++ ([Value.int .i64 x6] ++ (ints .u8 (Vector.replicate 32 (0 : Int)).toList ++ ([Value.slice none 0 0])))))))) (len_app rfl (len_app rfl (len_app rfl (len_app rfl (len_app rfl (len_app (ivl _ _) rfl rfl) rfl) rfl) rfl) rfl) rfl) (len_app rfl (len_app rfl (len_app rfl (len_app rfl (len_app rfl (len_app (ivl _ _) rfl rfl) rfl) rfl) rfl) rfl) rfl) rfl (one_app (one_sing rfl) (one_app (one_sing rfl) (one_app (one_sing rfl) (one_app (one_sing rfl) (one_app (one_sing rfl) (one_app (ints_one _ _) (one_sing rfl)))))))) ?_
      rintro w9 ⟨F14, h50⟩
      have h51 := (h42).fr F14 ⟨(Ap.symm (Src.ap' s10 (h33).lt trivial)), trivial⟩
      have h52 := Fr.at F14 h43 (ApL.not (x := some b1) (S := [some b5]) ⟨(Ap.symm (Src.ap' s10 (Lt.one (at_lt h34)) trivial)), trivial⟩ _ rfl)
      have h53 := (h44).fr F14 ⟨(Ap.symm (Src.ap' s10 (h35).lt trivial)), trivial⟩
      have h54 := (h45).fr F14 ⟨(Ap.symm (Src.ap' s10 (h36).lt trivial)), trivial⟩
      have h55 := (h46).fr F14 ⟨(Ap.symm (Src.ap' s10 (h37).lt trivial)), trivial⟩
      have h56 := (h47).fr F14 ⟨(Ap.symm (Src.ap' s10 (h38).lt trivial)), trivial⟩
      have h57 := (h48).fr F14 ⟨(Ap.symm (Src.ap' s10 (h39).lt trivial)), trivial⟩
      have h58 := (h49).fr F14 ⟨(Ap.symm (Src.ap' s10 (h40).lt trivial)), trivial⟩
      have F15 := Fr.step F13 F14 ⟨(In0.src s10 F12.size trivial), trivial⟩
      refine ⟨_, rfl, trivial, ?_⟩
      obtain ⟨a2, q13, hm⟩ := of_let hm
      rw [q13] at h50
      refine WD.end_ (by kernel_rfl) ?_
      refine W.seq ?_
      refine W.seq ?_
      refine W.region ?_
      refine WL.batch 1 [0, 2, 10, 11] (E' := [(0, .slice A6 l6.length n6), (2, .pointer (some ⟨b1, 0, none⟩)), (10, .pointer (some ⟨b5, 0, none⟩)), (11, .int .i64 0)]) (by kernel_rfl) ?_
      refine WL.nil ?_
      obtain ⟨ex2, hm3, hm4⟩ := of_bind hm
      refine W.joinN (fun E w10 => ∃ (a3 : Vector Int 32), Env.sub E [(0, .slice A6 l6.length n6), (2, .pointer (some ⟨b1, 0, none⟩)), (10, .pointer (some ⟨b5, 0, none⟩))] ∧ Rd w10 1 Ap0 p0.length np0 (ints .u8 p0) ∧ w10.heap[b1]? = some (.cells ([Value.int .i64 0] ++ ([Value.string (⟨#[]⟩ : ByteArray)] ++ ([Value.string (⟨#[]⟩ : ByteArray)] ++ ([Value.int .i64 0] ++ ([Value.int .i64 0] ++ (ints .u8 (Vector.replicate 32 (0 : Int)).toList ++ ([Value.slice none 0 0]))))))).toArray 32 (0, 0)) ∧ Rd w10 1 A1 l1.length n1 (ints .u8 l1) ∧ Rd w10 1 A2 l2.length n2 (ints .u8 l2) ∧ Rd w10 1 A3 l3.length n3 (ints .u8 l3) ∧ Rd w10 1 A4 l4.length n4 (ints .u8 l4) ∧ Rd w10 1 A5 l5.length n5 (ints .u8 l5) ∧ Rd w10 1 A6 l6.length n6 (ints .u8 l6) ∧ w10.heap[b5]? = some (.cells ([Value.int .i64 x4] ++ ([Value.string s8] ++ ([Value.string s9] ++ ([Value.int .i64 x5] ++ ([Value.int .i64 x6] ++ (ints .u8 a3.toList ++ ([Value.slice none 0 0]))))))).toArray 32 (0, 0)) ∧ Fr [] w w10 ∧ a3 = ex2) ?_ (fun rest2 => ?_)
      · rintro _ w10 ⟨a3, hE, h59, h60, h61, h62, h63, h64, h65, h66, h67, F16, rfl⟩
        replace hm := hm4
        clear hm3
        refine W.sub ?_ hE
        refine W.seq ?_
        refine W.region ?_
        refine WL.batch 1 [2, 10, 77] (E' := [(2, .pointer (some ⟨b1, 0, none⟩)), (10, .pointer (some ⟨b5, 0, none⟩)), (77, .slice A6 l6.length n6)]) (by kernel_rfl) ?_
        obtain ⟨⟨c8, c9, c10⟩, hm⟩ := of_guard hm
        obtain ⟨l7, q14, hm⟩ := of_let hm
        refine WL.opU rfl rfl rfl (ex_sliceU (k1 := .i64) (k2 := .i64) (k := .u8) Try.underlying23 Try.sizeOf5 rfl (.inl rfl) (.inr ⟨rfl, rfl⟩) ⟨c8, c9, c10⟩ h66 q14) ?_
        rintro _ ⟨A7, n7, rfl, h68, s11⟩
        refine ⟨_, rfl, ?_⟩
        obtain ⟨⟨l8, l9, x7⟩, q15, hm⟩ := of_bind hm
        refine WL.call rfl rfl rfl (ex_callI (args := [.slice A7 l7.length n7, .int .i64 256]) rfl rfl rfl Try.call35) (cauteryref01_TakeString_walk k l7 256 A7 n7 _ h68  l8 l9 x7 q15) ?_
        rintro _ w11 ⟨A8, n8, A9, n9, rfl, F17, h69, s12, h70, s13⟩
        have h71 := (h59).fr F17 trivial
        have h72 := Fr.at F17 h60 (ApL.not (x := some b1) (S := []) trivial _ rfl)
        have h73 := (h61).fr F17 trivial
        have h74 := (h62).fr F17 trivial
        have h75 := (h63).fr F17 trivial
        have h76 := (h64).fr F17 trivial
        have h77 := (h65).fr F17 trivial
        have h78 := (h66).fr F17 trivial
        have h79 := Fr.at F17 h67 (ApL.not (x := some b5) (S := []) trivial _ rfl)
        have h80 := (h68).fr F17 trivial
        have F18 := Fr.step F16 F17 trivial
        refine ⟨_, _, rfl, rfl, ?_⟩
        refine WL.batch 7 [0, 2, 10, 12, 13] (E' := [(0, .slice A9 l9.length n9), (2, .pointer (some ⟨b1, 0, none⟩)), (10, .pointer (some ⟨b5, 0, none⟩)), (12, .slice A8 l8.length n8), (13, .int .i64 x7)]) (by kernel_rfl) ?_
        refine WL.nil ?_
        refine W.seq ?_
        refine W.region ?_
        refine WL.batch 2 [0, 2, 10, 13, 83, 84] (E' := [(0, .slice A9 l9.length n9), (2, .pointer (some ⟨b1, 0, none⟩)), (10, .pointer (some ⟨b5, 0, none⟩)), (13, .int .i64 x7), (83, .slice A8 l8.length n8), (84, .pointer (some ⟨b5, 37, none⟩))]) (by kernel_rfl) ?_
        refine WL.opS rfl rfl rfl (ex_storeObj rfl rfl Try.sizeOf23 h79 (Lens.skip rfl (Lens.skip rfl (Lens.skip rfl (Lens.skip rfl (Lens.skip rfl (Lens.skip (ivl _ _) (Lens.all _ ([Value.slice A8 l8.length n8])) rfl) rfl) rfl) rfl) rfl) rfl) rfl rfl rfl (one_sing rfl)) ?_
        rintro w12 ⟨F19, h81⟩
        have h82 := (h71).fr F19 ⟨(Ap.symm (Src.ap' s10 (h33).lt trivial)), trivial⟩
        have h83 := Fr.at F19 h72 (ApL.not (x := some b1) (S := [some b5]) ⟨(Ap.symm (Src.ap' s10 (Lt.one (at_lt h34)) trivial)), trivial⟩ _ rfl)
        have h84 := (h73).fr F19 ⟨(Ap.symm (Src.ap' s10 (h35).lt trivial)), trivial⟩
        have h85 := (h74).fr F19 ⟨(Ap.symm (Src.ap' s10 (h36).lt trivial)), trivial⟩
        have h86 := (h75).fr F19 ⟨(Ap.symm (Src.ap' s10 (h37).lt trivial)), trivial⟩
        have h87 := (h76).fr F19 ⟨(Ap.symm (Src.ap' s10 (h38).lt trivial)), trivial⟩
        have h88 := (h77).fr F19 ⟨(Ap.symm (Src.ap' s10 (h39).lt trivial)), trivial⟩
        have h89 := (h78).fr F19 ⟨(Ap.symm (Src.ap' s10 (h40).lt trivial)), trivial⟩
        have h90 := (h80).fr F19 ⟨(Src.ap' s11 (Lt.one (at_lt h67)) ⟨(Ap.symm (Src.ap' s10 (h40).lt trivial)), trivial⟩), trivial⟩
        have h91 := (h69).fr F19 ⟨(Src.ap' s12 (Lt.one (at_lt h67)) ⟨(Src.ap' s11 (Lt.one (at_lt h67)) ⟨(Ap.symm (Src.ap' s10 (h40).lt trivial)), trivial⟩), trivial⟩), trivial⟩
        have h92 := (h70).fr F19 ⟨(Src.ap' s13 (Lt.one (at_lt h67)) ⟨(Src.ap' s11 (Lt.one (at_lt h67)) ⟨(Ap.symm (Src.ap' s10 (h40).lt trivial)), trivial⟩), trivial⟩), trivial⟩
        have F20 := Fr.step F18 F19 ⟨(In0.src s10 F12.size trivial), trivial⟩
        refine ⟨_, rfl, ?_⟩
        refine WL.nil ?_
        refine W.seq ?_
        refine W.regionDw (N := 14) Try_mixed rfl ?_
        intro w13 F21
        have h93 := (h82).fr F21 trivial
        have h94 := Fr.at F21 h83 (ApL.not (x := some b1) (S := []) trivial _ rfl)
        have h95 := (h84).fr F21 trivial
        have h96 := (h85).fr F21 trivial
        have h97 := (h86).fr F21 trivial
        have h98 := (h87).fr F21 trivial
        have h99 := (h88).fr F21 trivial
        have h100 := (h89).fr F21 trivial
        have h101 := Fr.at F21 h81 (ApL.not (x := some b5) (S := []) trivial _ rfl)
        have h102 := (h90).fr F21 trivial
        have h103 := (h91).fr F21 trivial
        have h104 := (h92).fr F21 trivial
        have F22 := Fr.step F20 F21 trivial
        refine WD.batch (f' := 11) [1, 2, 3] #[false, true, true, true, false, false, false, false, false, false, false, false, false, false] [0, 2, 10, 88] rfl (E' := [(0, .slice A9 l9.length n9), (2, .pointer (some ⟨b1, 0, none⟩)), (10, .pointer (some ⟨b5, 0, none⟩)), (88, .bool (x7 == (0 : Int)))]) (by kernel_rfl) ?_
        refine WD.load 0 [12] [12, 13] (.agg ([Value.int .i64 x4] ++ ([Value.string s8] ++ ([Value.string s9] ++ ([Value.int .i64 x5] ++ ([Value.int .i64 x6] ++ (ints .u8 a3.toList ++ ([Value.slice A8 l8.length n8]))))))).toArray) rfl (by kernel_rfl) rfl rfl rfl (ex_loadAgg Try.underlying32 rfl Try.sizeOf32 (len_app rfl (len_app rfl (len_app rfl (len_app rfl (len_app rfl (len_app (ivl _ _) rfl rfl) rfl) rfl) rfl) rfl) rfl) rfl h101 (Lens.all _ ([Value.int .i64 x4] ++ ([Value.string s8] ++ ([Value.string s9] ++ ([Value.int .i64 x5] ++ ([Value.int .i64 x6] ++ (ints .u8 a3.toList ++ ([Value.slice A8 l8.length n8]))))))))) ?_
        rcases of_cond hm with ⟨c11, hm⟩ | ⟨c11, hm⟩
        · rw [c11]
          refine WD.batch (f' := 5) [4, 5, 6, 7, 8] #[true, true, true, true, true, true, true, true, true, false, false, false, false, false] [2, 10, 85, 93] rfl (E' := [(2, .pointer (some ⟨b1, 0, none⟩)), (10, .pointer (some ⟨b5, 0, none⟩)), (85, .agg ([Value.int .i64 x4] ++ ([Value.string s8] ++ ([Value.string s9] ++ ([Value.int .i64 x5] ++ ([Value.int .i64 x6] ++ (ints .u8 a3.toList ++ ([Value.slice A8 l8.length n8]))))))).toArray), (93, .bool ((l9.length : Int) == (0 : Int)))]) (by kernel_rfl) ?_
          rcases of_cond hm with ⟨c12, hm⟩ | ⟨c12, hm⟩
          · rw [c12]
            refine WD.load 9 [10, 12] [10, 11, 12, 13] (.agg ([Value.int .i64 x4] ++ ([Value.string s8] ++ ([Value.string s9] ++ ([Value.int .i64 x5] ++ ([Value.int .i64 x6] ++ (ints .u8 a3.toList ++ ([Value.slice A8 l8.length n8]))))))).toArray) rfl (by kernel_rfl) rfl rfl rfl (ex_loadAgg Try.underlying32 rfl Try.sizeOf32 (len_app rfl (len_app rfl (len_app rfl (len_app rfl (len_app rfl (len_app (ivl _ _) rfl rfl) rfl) rfl) rfl) rfl) rfl) rfl h101 (Lens.all _ ([Value.int .i64 x4] ++ ([Value.string s8] ++ ([Value.string s9] ++ ([Value.int .i64 x5] ++ ([Value.int .i64 x6] ++ (ints .u8 a3.toList ++ ([Value.slice A8 l8.length n8]))))))))) ?_
            obtain ⟨y1, q16, hm⟩ := of_bind hm
            refine WD.call 10 (by kernel_rfl) rfl rfl rfl rfl (ex_callI (args := [.agg ([Value.int .i64 x4] ++ ([Value.string s8] ++ ([Value.string s9] ++ ([Value.int .i64 x5] ++ ([Value.int .i64 x6] ++ (ints .u8 a3.toList ++ ([Value.slice A8 l8.length n8]))))))).toArray]) rfl rfl rfl Try.call12) (cauteryref21_May_walk k x4 s8 s9 x5 x6 a3 l8 A8 n8 _ h103  y1 q16) ?_
            rintro _ w14 ⟨rfl, F23⟩
            have h105 := (h93).fr F23 trivial
            have h106 := Fr.at F23 h94 (ApL.not (x := some b1) (S := []) trivial _ rfl)
            have h107 := (h95).fr F23 trivial
            have h108 := (h96).fr F23 trivial
            have h109 := (h97).fr F23 trivial
            have h110 := (h98).fr F23 trivial
            have h111 := (h99).fr F23 trivial
            have h112 := (h100).fr F23 trivial
            have h113 := Fr.at F23 h101 (ApL.not (x := some b5) (S := []) trivial _ rfl)
            have h114 := (h102).fr F23 trivial
            have h115 := (h103).fr F23 trivial
            have h116 := (h104).fr F23 trivial
            have F24 := Fr.step F22 F23 trivial
            refine ⟨_, _, rfl, rfl, ⟨(ex_loadAgg Try.underlying32 rfl Try.sizeOf32 (len_app rfl (len_app rfl (len_app rfl (len_app rfl (len_app rfl (len_app (ivl _ _) rfl rfl) rfl) rfl) rfl) rfl) rfl) rfl h113 (Lens.all _ ([Value.int .i64 x4] ++ ([Value.string s8] ++ ([Value.string s9] ++ ([Value.int .i64 x5] ++ ([Value.int .i64 x6] ++ (ints .u8 a3.toList ++ ([Value.slice A8 l8.length n8]))))))))), trivial⟩, ?_⟩
            refine WD.batch (f' := 2) [11] #[true, true, true, true, true, true, true, true, true, true, true, true, false, false] [2, 85, 96] rfl (E' := [(2, .pointer (some ⟨b1, 0, none⟩)), (85, .agg ([Value.int .i64 x4] ++ ([Value.string s8] ++ ([Value.string s9] ++ ([Value.int .i64 x5] ++ ([Value.int .i64 x6] ++ (ints .u8 a3.toList ++ ([Value.slice A8 l8.length n8]))))))).toArray), (96, .bool y1)]) (by kernel_rfl) ?_
            refine WD.opS 12 (by kernel_rfl) rfl rfl rfl rfl (ex_storeObj rfl rfl Try.sizeOf32 h106 (Lens.all _ ([Value.int .i64 x4] ++ ([Value.string s8] ++ ([Value.string s9] ++ ([Value.int .i64 x5] ++ ([Value.int .i64 x6] ++ (ints .u8 a3.toList ++ ([Value.slice A8 l8.length n8])))))))) (len_app rfl (len_app rfl (len_app rfl (len_app rfl (len_app rfl (len_app (ivl _ _) rfl rfl) rfl) rfl) rfl) rfl) rfl) (len_app rfl (len_app rfl (len_app rfl (len_app rfl (len_app rfl (len_app (ivl _ _) rfl rfl) rfl) rfl) rfl) rfl) rfl) rfl (one_app (one_sing rfl) (one_app (one_sing rfl) (one_app (one_sing rfl) (one_app (one_sing rfl) (one_app (one_sing rfl) (one_app (ints_one _ _) (one_sing rfl)))))))) ?_
            rintro w15 ⟨F25, h117⟩
            have h118 := (h105).fr F25 ⟨(Ap.symm (Src.ap' s1 (hp0).lt trivial)), trivial⟩
            have h119 := (h107).fr F25 ⟨(Src.ap' s2 (Lt.one (at_lt h1)) ⟨(Ap.symm (Src.ap' s1 (hp0).lt trivial)), trivial⟩), trivial⟩
            have h120 := (h108).fr F25 ⟨(Src.ap' s3 (Lt.one (at_lt h1)) ⟨(Ap.symm (Src.ap' s1 (hp0).lt trivial)), trivial⟩), trivial⟩
            have h121 := (h109).fr F25 ⟨(Src.ap' s4 (Lt.one (at_lt h6)) ⟨(Src.ap' s3 (Lt.one (at_lt h1)) ⟨(Ap.symm (Src.ap' s1 (hp0).lt trivial)), trivial⟩), trivial⟩), trivial⟩
            have h122 := (h110).fr F25 ⟨(Src.ap' s5 (Lt.one (at_lt h6)) ⟨(Src.ap' s3 (Lt.one (at_lt h1)) ⟨(Ap.symm (Src.ap' s1 (hp0).lt trivial)), trivial⟩), trivial⟩), trivial⟩
            have h123 := (h111).fr F25 ⟨(Src.ap' s6 (Lt.one (at_lt h14)) ⟨(Src.ap' s5 (Lt.one (at_lt h6)) ⟨(Src.ap' s3 (Lt.one (at_lt h1)) ⟨(Ap.symm (Src.ap' s1 (hp0).lt trivial)), trivial⟩), trivial⟩), trivial⟩), trivial⟩
            have h124 := (h112).fr F25 ⟨(Src.ap' s7 (Lt.one (at_lt h14)) ⟨(Src.ap' s5 (Lt.one (at_lt h6)) ⟨(Src.ap' s3 (Lt.one (at_lt h1)) ⟨(Ap.symm (Src.ap' s1 (hp0).lt trivial)), trivial⟩), trivial⟩), trivial⟩), trivial⟩
            have h125 := Fr.at F25 h113 (ApL.not (x := some b5) (S := [some b1]) ⟨(Src.ap' s10 (Lt.one (at_lt h34)) trivial), trivial⟩ _ rfl)
            have h126 := (h114).fr F25 ⟨(Src.ap' s11 (Lt.one (at_lt h60)) ⟨(Src.ap' s7 (Lt.one (at_lt h14)) ⟨(Src.ap' s5 (Lt.one (at_lt h6)) ⟨(Src.ap' s3 (Lt.one (at_lt h1)) ⟨(Ap.symm (Src.ap' s1 (hp0).lt trivial)), trivial⟩), trivial⟩), trivial⟩), trivial⟩), trivial⟩
            have h127 := (h115).fr F25 ⟨(Src.ap' s12 (Lt.one (at_lt h60)) ⟨(Src.ap' s11 (Lt.one (at_lt h60)) ⟨(Src.ap' s7 (Lt.one (at_lt h14)) ⟨(Src.ap' s5 (Lt.one (at_lt h6)) ⟨(Src.ap' s3 (Lt.one (at_lt h1)) ⟨(Ap.symm (Src.ap' s1 (hp0).lt trivial)), trivial⟩), trivial⟩), trivial⟩), trivial⟩), trivial⟩), trivial⟩
            have h128 := (h116).fr F25 ⟨(Src.ap' s13 (Lt.one (at_lt h60)) ⟨(Src.ap' s11 (Lt.one (at_lt h60)) ⟨(Src.ap' s7 (Lt.one (at_lt h14)) ⟨(Src.ap' s5 (Lt.one (at_lt h6)) ⟨(Src.ap' s3 (Lt.one (at_lt h1)) ⟨(Ap.symm (Src.ap' s1 (hp0).lt trivial)), trivial⟩), trivial⟩), trivial⟩), trivial⟩), trivial⟩), trivial⟩
            have F26 := Fr.step F24 F25 ⟨(In0.src s1 (Nat.le_refl _) trivial), trivial⟩
            refine ⟨_, rfl, trivial, ?_⟩
            refine WD.batch (f' := 0) [13] #[true, true, true, true, true, true, true, true, true, true, true, true, true, true] [2, 3] rfl (E' := [(2, .pointer (some ⟨b1, 0, none⟩)), (3, .bool y1)]) (by kernel_rfl) ?_
            refine WD.end_ (by kernel_rfl) ?_
            refine W.ret ?_
            obtain ⟨q0a, q0b⟩ := Prod.mk.inj (Option.some.inj hm)
            obtain ⟨q1a, q1b⟩ := Prod.mk.inj (q0b)
            obtain ⟨q2a, q2b⟩ := Prod.mk.inj (q1b)
            obtain ⟨q3a, q3b⟩ := Prod.mk.inj (q2b)
            obtain ⟨q4a, q4b⟩ := Prod.mk.inj (q3b)
            obtain ⟨q5a, q5b⟩ := Prod.mk.inj (q4b)
            obtain ⟨q6a, q6b⟩ := Prod.mk.inj (q5b)
            subst q0a
            subst q1a
            subst q2a
            subst q3a
            subst q4a
            subst q5a
            subst q6a
            subst q6b
            exact ⟨_, ⟨_, _, _, rfl, rfl, (loadVar_aggN Try.underlying32 rfl Try.sizeOf32 (len_app rfl (len_app rfl (len_app rfl (len_app rfl (len_app rfl (len_app (ivl _ _) rfl rfl) rfl) rfl) rfl) rfl) rfl) h117 (Lens.all _ ([Value.int .i64 x4] ++ ([Value.string s8] ++ ([Value.string s9] ++ ([Value.int .i64 x5] ++ ([Value.int .i64 x6] ++ (ints .u8 a3.toList ++ ([Value.slice A8 l8.length n8]))))))))), ⟨_, _, rfl, rfl, rfl⟩⟩, ⟨A8, n8, rfl, F26, h127, (Src.trans' s12 F16.size ⟨(Src.trans' s11 F16.size ⟨(Src.trans' s7 F7.size ⟨(Src.trans' s5 F3.size ⟨(Src.trans' s3 F1.size ⟨(Src.self (by simp)), trivial⟩), trivial⟩), trivial⟩), trivial⟩), trivial⟩)⟩⟩
          · rw [c12]
            refine WD.batch (f' := 4) [9] #[true, true, true, true, true, true, true, true, true, true, false, false, false, false] [2, 85, 93, 94] rfl (E' := [(2, .pointer (some ⟨b1, 0, none⟩)), (85, .agg ([Value.int .i64 x4] ++ ([Value.string s8] ++ ([Value.string s9] ++ ([Value.int .i64 x5] ++ ([Value.int .i64 x6] ++ (ints .u8 a3.toList ++ ([Value.slice A8 l8.length n8]))))))).toArray), (93, .bool false), (94, undef)]) (by kernel_rfl) ?_
            refine WD.skip 10 (by kernel_rfl) rfl rfl rfl ⟨(ex_loadAgg Try.underlying32 rfl Try.sizeOf32 (len_app rfl (len_app rfl (len_app rfl (len_app rfl (len_app rfl (len_app (ivl _ _) rfl rfl) rfl) rfl) rfl) rfl) rfl) rfl h101 (Lens.all _ ([Value.int .i64 x4] ++ ([Value.string s8] ++ ([Value.string s9] ++ ([Value.int .i64 x5] ++ ([Value.int .i64 x6] ++ (ints .u8 a3.toList ++ ([Value.slice A8 l8.length n8]))))))))), trivial⟩ ?_
            refine WD.batch (f' := 2) [11] #[true, true, true, true, true, true, true, true, true, true, true, true, false, false] [2, 85, 96] rfl (E' := [(2, .pointer (some ⟨b1, 0, none⟩)), (85, .agg ([Value.int .i64 x4] ++ ([Value.string s8] ++ ([Value.string s9] ++ ([Value.int .i64 x5] ++ ([Value.int .i64 x6] ++ (ints .u8 a3.toList ++ ([Value.slice A8 l8.length n8]))))))).toArray), (96, .bool false)]) (by kernel_rfl) ?_
            refine WD.opS 12 (by kernel_rfl) rfl rfl rfl rfl (ex_storeObj rfl rfl Try.sizeOf32 h94 (Lens.all _ ([Value.int .i64 x4] ++ ([Value.string s8] ++ ([Value.string s9] ++ ([Value.int .i64 x5] ++ ([Value.int .i64 x6] ++ (ints .u8 a3.toList ++ ([Value.slice A8 l8.length n8])))))))) (len_app rfl (len_app rfl (len_app rfl (len_app rfl (len_app rfl (len_app (ivl _ _) rfl rfl) rfl) rfl) rfl) rfl) rfl) (len_app rfl (len_app rfl (len_app rfl (len_app rfl (len_app rfl (len_app (ivl _ _) rfl rfl) rfl) rfl) rfl) rfl) rfl) rfl (one_app (one_sing rfl) (one_app (one_sing rfl) (one_app (one_sing rfl) (one_app (one_sing rfl) (one_app (one_sing rfl) (one_app (ints_one _ _) (one_sing rfl)))))))) ?_
            rintro w16 ⟨F27, h129⟩
            have h130 := (h93).fr F27 ⟨(Ap.symm (Src.ap' s1 (hp0).lt trivial)), trivial⟩
            have h131 := (h95).fr F27 ⟨(Src.ap' s2 (Lt.one (at_lt h1)) ⟨(Ap.symm (Src.ap' s1 (hp0).lt trivial)), trivial⟩), trivial⟩
            have h132 := (h96).fr F27 ⟨(Src.ap' s3 (Lt.one (at_lt h1)) ⟨(Ap.symm (Src.ap' s1 (hp0).lt trivial)), trivial⟩), trivial⟩
            have h133 := (h97).fr F27 ⟨(Src.ap' s4 (Lt.one (at_lt h6)) ⟨(Src.ap' s3 (Lt.one (at_lt h1)) ⟨(Ap.symm (Src.ap' s1 (hp0).lt trivial)), trivial⟩), trivial⟩), trivial⟩
            have h134 := (h98).fr F27 ⟨(Src.ap' s5 (Lt.one (at_lt h6)) ⟨(Src.ap' s3 (Lt.one (at_lt h1)) ⟨(Ap.symm (Src.ap' s1 (hp0).lt trivial)), trivial⟩), trivial⟩), trivial⟩
            have h135 := (h99).fr F27 ⟨(Src.ap' s6 (Lt.one (at_lt h14)) ⟨(Src.ap' s5 (Lt.one (at_lt h6)) ⟨(Src.ap' s3 (Lt.one (at_lt h1)) ⟨(Ap.symm (Src.ap' s1 (hp0).lt trivial)), trivial⟩), trivial⟩), trivial⟩), trivial⟩
            have h136 := (h100).fr F27 ⟨(Src.ap' s7 (Lt.one (at_lt h14)) ⟨(Src.ap' s5 (Lt.one (at_lt h6)) ⟨(Src.ap' s3 (Lt.one (at_lt h1)) ⟨(Ap.symm (Src.ap' s1 (hp0).lt trivial)), trivial⟩), trivial⟩), trivial⟩), trivial⟩
            have h137 := Fr.at F27 h101 (ApL.not (x := some b5) (S := [some b1]) ⟨(Src.ap' s10 (Lt.one (at_lt h34)) trivial), trivial⟩ _ rfl)
            have h138 := (h102).fr F27 ⟨(Src.ap' s11 (Lt.one (at_lt h60)) ⟨(Src.ap' s7 (Lt.one (at_lt h14)) ⟨(Src.ap' s5 (Lt.one (at_lt h6)) ⟨(Src.ap' s3 (Lt.one (at_lt h1)) ⟨(Ap.symm (Src.ap' s1 (hp0).lt trivial)), trivial⟩), trivial⟩), trivial⟩), trivial⟩), trivial⟩
            have h139 := (h103).fr F27 ⟨(Src.ap' s12 (Lt.one (at_lt h60)) ⟨(Src.ap' s11 (Lt.one (at_lt h60)) ⟨(Src.ap' s7 (Lt.one (at_lt h14)) ⟨(Src.ap' s5 (Lt.one (at_lt h6)) ⟨(Src.ap' s3 (Lt.one (at_lt h1)) ⟨(Ap.symm (Src.ap' s1 (hp0).lt trivial)), trivial⟩), trivial⟩), trivial⟩), trivial⟩), trivial⟩), trivial⟩
            have h140 := (h104).fr F27 ⟨(Src.ap' s13 (Lt.one (at_lt h60)) ⟨(Src.ap' s11 (Lt.one (at_lt h60)) ⟨(Src.ap' s7 (Lt.one (at_lt h14)) ⟨(Src.ap' s5 (Lt.one (at_lt h6)) ⟨(Src.ap' s3 (Lt.one (at_lt h1)) ⟨(Ap.symm (Src.ap' s1 (hp0).lt trivial)), trivial⟩), trivial⟩), trivial⟩), trivial⟩), trivial⟩), trivial⟩
            have F28 := Fr.step F22 F27 ⟨(In0.src s1 (Nat.le_refl _) trivial), trivial⟩
            refine ⟨_, rfl, trivial, ?_⟩
            refine WD.batch (f' := 0) [13] #[true, true, true, true, true, true, true, true, true, true, true, true, true, true] [2, 3] rfl (E' := [(2, .pointer (some ⟨b1, 0, none⟩)), (3, .bool false)]) (by kernel_rfl) ?_
            refine WD.end_ (by kernel_rfl) ?_
            refine W.ret ?_
            obtain ⟨q0a, q0b⟩ := Prod.mk.inj (Option.some.inj hm)
            obtain ⟨q1a, q1b⟩ := Prod.mk.inj (q0b)
            obtain ⟨q2a, q2b⟩ := Prod.mk.inj (q1b)
            obtain ⟨q3a, q3b⟩ := Prod.mk.inj (q2b)
            obtain ⟨q4a, q4b⟩ := Prod.mk.inj (q3b)
            obtain ⟨q5a, q5b⟩ := Prod.mk.inj (q4b)
            obtain ⟨q6a, q6b⟩ := Prod.mk.inj (q5b)
            subst q0a
            subst q1a
            subst q2a
            subst q3a
            subst q4a
            subst q5a
            subst q6a
            subst q6b
            exact ⟨_, ⟨_, _, _, rfl, rfl, (loadVar_aggN Try.underlying32 rfl Try.sizeOf32 (len_app rfl (len_app rfl (len_app rfl (len_app rfl (len_app rfl (len_app (ivl _ _) rfl rfl) rfl) rfl) rfl) rfl) rfl) h129 (Lens.all _ ([Value.int .i64 x4] ++ ([Value.string s8] ++ ([Value.string s9] ++ ([Value.int .i64 x5] ++ ([Value.int .i64 x6] ++ (ints .u8 a3.toList ++ ([Value.slice A8 l8.length n8]))))))))), ⟨_, _, rfl, rfl, rfl⟩⟩, ⟨A8, n8, rfl, F28, h139, (Src.trans' s12 F16.size ⟨(Src.trans' s11 F16.size ⟨(Src.trans' s7 F7.size ⟨(Src.trans' s5 F3.size ⟨(Src.trans' s3 F1.size ⟨(Src.self (by simp)), trivial⟩), trivial⟩), trivial⟩), trivial⟩), trivial⟩)⟩⟩
        · rw [c11]
          refine WD.batch (f' := 4) [4, 5, 6, 7, 8, 9] #[true, true, true, true, true, true, true, true, true, true, false, false, false, false] [2, 85, 93, 94] rfl (E' := [(2, .pointer (some ⟨b1, 0, none⟩)), (85, .agg ([Value.int .i64 x4] ++ ([Value.string s8] ++ ([Value.string s9] ++ ([Value.int .i64 x5] ++ ([Value.int .i64 x6] ++ (ints .u8 a3.toList ++ ([Value.slice A8 l8.length n8]))))))).toArray), (93, .bool false), (94, undef)]) (by kernel_rfl) ?_
          refine WD.skip 10 (by kernel_rfl) rfl rfl rfl ⟨(ex_loadAgg Try.underlying32 rfl Try.sizeOf32 (len_app rfl (len_app rfl (len_app rfl (len_app rfl (len_app rfl (len_app (ivl _ _) rfl rfl) rfl) rfl) rfl) rfl) rfl) rfl h101 (Lens.all _ ([Value.int .i64 x4] ++ ([Value.string s8] ++ ([Value.string s9] ++ ([Value.int .i64 x5] ++ ([Value.int .i64 x6] ++ (ints .u8 a3.toList ++ ([Value.slice A8 l8.length n8]))))))))), trivial⟩ ?_
          refine WD.batch (f' := 2) [11] #[true, true, true, true, true, true, true, true, true, true, true, true, false, false] [2, 85, 96] rfl (E' := [(2, .pointer (some ⟨b1, 0, none⟩)), (85, .agg ([Value.int .i64 x4] ++ ([Value.string s8] ++ ([Value.string s9] ++ ([Value.int .i64 x5] ++ ([Value.int .i64 x6] ++ (ints .u8 a3.toList ++ ([Value.slice A8 l8.length n8]))))))).toArray), (96, .bool false)]) (by kernel_rfl) ?_
          refine WD.opS 12 (by kernel_rfl) rfl rfl rfl rfl (ex_storeObj rfl rfl Try.sizeOf32 h94 (Lens.all _ ([Value.int .i64 x4] ++ ([Value.string s8] ++ ([Value.string s9] ++ ([Value.int .i64 x5] ++ ([Value.int .i64 x6] ++ (ints .u8 a3.toList ++ ([Value.slice A8 l8.length n8])))))))) (len_app rfl (len_app rfl (len_app rfl (len_app rfl (len_app rfl (len_app (ivl _ _) rfl rfl) rfl) rfl) rfl) rfl) rfl) (len_app rfl (len_app rfl (len_app rfl (len_app rfl (len_app rfl (len_app (ivl _ _) rfl rfl) rfl) rfl) rfl) rfl) rfl) rfl (one_app (one_sing rfl) (one_app (one_sing rfl) (one_app (one_sing rfl) (one_app (one_sing rfl) (one_app (one_sing rfl) (one_app (ints_one _ _) (one_sing rfl)))))))) ?_
          rintro w17 ⟨F29, h141⟩
          have h142 := (h93).fr F29 ⟨(Ap.symm (Src.ap' s1 (hp0).lt trivial)), trivial⟩
          have h143 := (h95).fr F29 ⟨(Src.ap' s2 (Lt.one (at_lt h1)) ⟨(Ap.symm (Src.ap' s1 (hp0).lt trivial)), trivial⟩), trivial⟩
          have h144 := (h96).fr F29 ⟨(Src.ap' s3 (Lt.one (at_lt h1)) ⟨(Ap.symm (Src.ap' s1 (hp0).lt trivial)), trivial⟩), trivial⟩
          have h145 := (h97).fr F29 ⟨(Src.ap' s4 (Lt.one (at_lt h6)) ⟨(Src.ap' s3 (Lt.one (at_lt h1)) ⟨(Ap.symm (Src.ap' s1 (hp0).lt trivial)), trivial⟩), trivial⟩), trivial⟩
          have h146 := (h98).fr F29 ⟨(Src.ap' s5 (Lt.one (at_lt h6)) ⟨(Src.ap' s3 (Lt.one (at_lt h1)) ⟨(Ap.symm (Src.ap' s1 (hp0).lt trivial)), trivial⟩), trivial⟩), trivial⟩
          have h147 := (h99).fr F29 ⟨(Src.ap' s6 (Lt.one (at_lt h14)) ⟨(Src.ap' s5 (Lt.one (at_lt h6)) ⟨(Src.ap' s3 (Lt.one (at_lt h1)) ⟨(Ap.symm (Src.ap' s1 (hp0).lt trivial)), trivial⟩), trivial⟩), trivial⟩), trivial⟩
          have h148 := (h100).fr F29 ⟨(Src.ap' s7 (Lt.one (at_lt h14)) ⟨(Src.ap' s5 (Lt.one (at_lt h6)) ⟨(Src.ap' s3 (Lt.one (at_lt h1)) ⟨(Ap.symm (Src.ap' s1 (hp0).lt trivial)), trivial⟩), trivial⟩), trivial⟩), trivial⟩
          have h149 := Fr.at F29 h101 (ApL.not (x := some b5) (S := [some b1]) ⟨(Src.ap' s10 (Lt.one (at_lt h34)) trivial), trivial⟩ _ rfl)
          have h150 := (h102).fr F29 ⟨(Src.ap' s11 (Lt.one (at_lt h60)) ⟨(Src.ap' s7 (Lt.one (at_lt h14)) ⟨(Src.ap' s5 (Lt.one (at_lt h6)) ⟨(Src.ap' s3 (Lt.one (at_lt h1)) ⟨(Ap.symm (Src.ap' s1 (hp0).lt trivial)), trivial⟩), trivial⟩), trivial⟩), trivial⟩), trivial⟩
          have h151 := (h103).fr F29 ⟨(Src.ap' s12 (Lt.one (at_lt h60)) ⟨(Src.ap' s11 (Lt.one (at_lt h60)) ⟨(Src.ap' s7 (Lt.one (at_lt h14)) ⟨(Src.ap' s5 (Lt.one (at_lt h6)) ⟨(Src.ap' s3 (Lt.one (at_lt h1)) ⟨(Ap.symm (Src.ap' s1 (hp0).lt trivial)), trivial⟩), trivial⟩), trivial⟩), trivial⟩), trivial⟩), trivial⟩
          have h152 := (h104).fr F29 ⟨(Src.ap' s13 (Lt.one (at_lt h60)) ⟨(Src.ap' s11 (Lt.one (at_lt h60)) ⟨(Src.ap' s7 (Lt.one (at_lt h14)) ⟨(Src.ap' s5 (Lt.one (at_lt h6)) ⟨(Src.ap' s3 (Lt.one (at_lt h1)) ⟨(Ap.symm (Src.ap' s1 (hp0).lt trivial)), trivial⟩), trivial⟩), trivial⟩), trivial⟩), trivial⟩), trivial⟩
          have F30 := Fr.step F22 F29 ⟨(In0.src s1 (Nat.le_refl _) trivial), trivial⟩
          refine ⟨_, rfl, trivial, ?_⟩
          refine WD.batch (f' := 0) [13] #[true, true, true, true, true, true, true, true, true, true, true, true, true, true] [2, 3] rfl (E' := [(2, .pointer (some ⟨b1, 0, none⟩)), (3, .bool false)]) (by kernel_rfl) ?_
          refine WD.end_ (by kernel_rfl) ?_
          refine W.ret ?_
          obtain ⟨q0a, q0b⟩ := Prod.mk.inj (Option.some.inj hm)
          obtain ⟨q1a, q1b⟩ := Prod.mk.inj (q0b)
          obtain ⟨q2a, q2b⟩ := Prod.mk.inj (q1b)
          obtain ⟨q3a, q3b⟩ := Prod.mk.inj (q2b)
          obtain ⟨q4a, q4b⟩ := Prod.mk.inj (q3b)
          obtain ⟨q5a, q5b⟩ := Prod.mk.inj (q4b)
          obtain ⟨q6a, q6b⟩ := Prod.mk.inj (q5b)
          subst q0a
          subst q1a
          subst q2a
          subst q3a
          subst q4a
          subst q5a
          subst q6a
          subst q6b
          exact ⟨_, ⟨_, _, _, rfl, rfl, (loadVar_aggN Try.underlying32 rfl Try.sizeOf32 (len_app rfl (len_app rfl (len_app rfl (len_app rfl (len_app rfl (len_app (ivl _ _) rfl rfl) rfl) rfl) rfl) rfl) rfl) h141 (Lens.all _ ([Value.int .i64 x4] ++ ([Value.string s8] ++ ([Value.string s9] ++ ([Value.int .i64 x5] ++ ([Value.int .i64 x6] ++ (ints .u8 a3.toList ++ ([Value.slice A8 l8.length n8]))))))))), ⟨_, _, rfl, rfl, rfl⟩⟩, ⟨A8, n8, rfl, F30, h151, (Src.trans' s12 F16.size ⟨(Src.trans' s11 F16.size ⟨(Src.trans' s7 F7.size ⟨(Src.trans' s5 F3.size ⟨(Src.trans' s3 F1.size ⟨(Src.self (by simp)), trivial⟩), trivial⟩), trivial⟩), trivial⟩), trivial⟩)⟩⟩
      · replace hm := hm3
        clear hm3
        refine W.block ?_
        refine W.loop (fun j1 E w18 => ∃ (x8 : Int) (a4 : Vector Int 32), Env.sub E [(0, .slice A6 l6.length n6), (2, .pointer (some ⟨b1, 0, none⟩)), (10, .pointer (some ⟨b5, 0, none⟩)), (11, .int .i64 x8)] ∧ Rd w18 1 Ap0 p0.length np0 (ints .u8 p0) ∧ w18.heap[b1]? = some (.cells ([Value.int .i64 0] ++ ([Value.string (⟨#[]⟩ : ByteArray)] ++ ([Value.string (⟨#[]⟩ : ByteArray)] ++ ([Value.int .i64 0] ++ ([Value.int .i64 0] ++ (ints .u8 (Vector.replicate 32 (0 : Int)).toList ++ ([Value.slice none 0 0]))))))).toArray 32 (0, 0)) ∧ Rd w18 1 A1 l1.length n1 (ints .u8 l1) ∧ Rd w18 1 A2 l2.length n2 (ints .u8 l2) ∧ Rd w18 1 A3 l3.length n3 (ints .u8 l3) ∧ Rd w18 1 A4 l4.length n4 (ints .u8 l4) ∧ Rd w18 1 A5 l5.length n5 (ints .u8 l5) ∧ Rd w18 1 A6 l6.length n6 (ints .u8 l6) ∧ w18.heap[b5]? = some (.cells ([Value.int .i64 x4] ++ ([Value.string s8] ++ ([Value.string s9] ++ ([Value.int .i64 x5] ++ ([Value.int .i64 x6] ++ (ints .u8 a4.toList ++ ([Value.slice none 0 0]))))))).toArray 32 (0, 0)) ∧ Fr [] w w18 ∧ cauteryref21_parse.l0 l6 j1 x8 a4 = some ex2) ?_ k ?_ ?_
        · rintro _ _ ⟨_, _, _, _, _, _, _, _, _, _, _, _, _, hz⟩
          exact absurd hz (by simp [cauteryref21_parse.l0])
        · exact ⟨0, a2, ⟨rfl, rfl, rfl, rfl, trivial⟩, h51, h52, h53, h54, h55, h56, h57, h58, h50, F15, hm⟩
        · rintro j1 _ w18 ⟨x8, a4, hE, h153, h154, h155, h156, h157, h158, h159, h160, h161, F31, hm⟩
          rw [cauteryref21_parse.l0] at hm
          refine W.sub ?_ hE
          refine W.seq ?_
          refine W.seq ?_
          refine W.region ?_
          refine WL.batch 2 [0, 2, 10, 11, 65] (E' := [(0, .slice A6 l6.length n6), (2, .pointer (some ⟨b1, 0, none⟩)), (10, .pointer (some ⟨b5, 0, none⟩)), (11, .int .i64 x8), (65, .bool (decide (x8 < (32 : Int))))]) (by kernel_rfl) ?_
          refine WL.nil ?_
          rcases of_cond hm with ⟨c13, hm⟩ | ⟨c13, hm⟩
          · refine W.condT _ rfl c13 ?_
            refine W.skip ?_
            refine W.seq ?_
            refine W.block ?_
            refine W.region ?_
            refine WL.batch 4 [0, 2, 10, 11, 68, 69, 71] (E' := [(0, .slice A6 l6.length n6), (2, .pointer (some ⟨b1, 0, none⟩)), (10, .pointer (some ⟨b5, 0, none⟩)), (11, .int .i64 x8), (68, .int .i64 x8), (69, .slice A6 l6.length n6), (71, .int .i64 (wadd .i64 2 x8))]) (by kernel_rfl) ?_
            obtain ⟨x9, q17, hm⟩ := of_let hm
            rw [q17]
            obtain ⟨⟨c14, c15⟩, hm⟩ := of_guard hm
            obtain ⟨b6, o4, q18⟩ := Rd.place h160 (by omega)
            refine WL.value (.pointer (some ⟨b6, o4 + Int.toNat x9 * 1, none⟩)) rfl rfl rfl (ex_indexAddr Try.underlying23 Try.sizeOf5 rfl q18 rfl c14 c15) rfl ?_
            refine WL.value (.int .u8 (lget l6 x9)) rfl rfl rfl (ex_loadElI Try.underlying5 rfl h160 q18 c14 c15) rfl ?_
            refine WL.batch 1 [0, 2, 10, 11, 68, 73, 74] (E' := [(0, .slice A6 l6.length n6), (2, .pointer (some ⟨b1, 0, none⟩)), (10, .pointer (some ⟨b5, 0, none⟩)), (11, .int .i64 x8), (68, .int .i64 x8), (73, .int .u8 (lget l6 x9)), (74, .pointer (some ⟨b5, 5, none⟩))]) (by kernel_rfl) ?_
            obtain ⟨x10, q19, hm⟩ := of_let hm
            rw [q19]
            obtain ⟨⟨c16, c17⟩, hm⟩ := of_guard hm
            refine WL.value (.pointer (some ⟨b5, 5 + Int.toNat x8 * 1, none⟩)) rfl rfl rfl (ex_indexAddrArr Try.underlying22 Try.sizeOf5 rfl rfl c16 c17) rfl ?_
            refine WL.opS rfl rfl rfl (ex_storeObj rfl rfl Try.sizeOf5 h161 (Lens.comp (Lens.skip rfl (Lens.skip rfl (Lens.skip rfl (Lens.skip rfl (Lens.skip rfl (Lens.head _ (ints .u8 (vset a4 x8 x10).toList) _) rfl) rfl) rfl) rfl) rfl) (Lens.vec c16 c17 x10) rfl) rfl rfl rfl (one_sing rfl)) ?_
            rintro w19 ⟨F32, h162⟩
            have h163 := (h153).fr F32 ⟨(Ap.symm (Src.ap' s10 (h33).lt trivial)), trivial⟩
            have h164 := Fr.at F32 h154 (ApL.not (x := some b1) (S := [some b5]) ⟨(Ap.symm (Src.ap' s10 (Lt.one (at_lt h34)) trivial)), trivial⟩ _ rfl)
            have h165 := (h155).fr F32 ⟨(Ap.symm (Src.ap' s10 (h35).lt trivial)), trivial⟩
            have h166 := (h156).fr F32 ⟨(Ap.symm (Src.ap' s10 (h36).lt trivial)), trivial⟩
            have h167 := (h157).fr F32 ⟨(Ap.symm (Src.ap' s10 (h37).lt trivial)), trivial⟩
            have h168 := (h158).fr F32 ⟨(Ap.symm (Src.ap' s10 (h38).lt trivial)), trivial⟩
            have h169 := (h159).fr F32 ⟨(Ap.symm (Src.ap' s10 (h39).lt trivial)), trivial⟩
            have h170 := (h160).fr F32 ⟨(Ap.symm (Src.ap' s10 (h40).lt trivial)), trivial⟩
            have F33 := Fr.step F31 F32 ⟨(In0.src s10 F12.size trivial), trivial⟩
            refine ⟨_, rfl, ?_⟩
            obtain ⟨a5, q20, hm⟩ := of_let hm
            rw [q20] at h162
            refine WL.nil ?_
            refine W.region ?_
            refine WL.batch 3 [0, 2, 10, 11] (E' := [(0, .slice A6 l6.length n6), (2, .pointer (some ⟨b1, 0, none⟩)), (10, .pointer (some ⟨b5, 0, none⟩)), (11, .int .i64 (wadd .i64 x8 1))]) (by kernel_rfl) ?_
            obtain ⟨x11, q21, hm⟩ := of_let hm
            rw [q21]
            refine WL.nil ?_
            exact ⟨x11, a5, ⟨rfl, rfl, rfl, rfl, trivial⟩, h163, h164, h165, h166, h167, h168, h169, h170, h162, F33, hm⟩
          · refine W.condF _ rfl c13 ?_
            refine W.exit ?_
            exact rest2 _ _ ⟨a4, ⟨rfl, rfl, rfl, trivial⟩, h153, h154, h155, h156, h157, h158, h159, h160, h161, F31, (Option.some.inj hm)⟩
    · replace hm := hm1
      clear hm1
      refine W.seq ?_
      refine W.region ?_
      refine WL.batch 3 [0, 2, 4, 6, 8, 9, 37] (E' := [(0, .slice A6 l6.length n6), (2, .pointer (some ⟨b1, 0, none⟩)), (4, .slice A1 l1.length n1), (6, .slice A3 l3.length n3), (8, .slice A5 l5.length n5), (9, .int .i64 x3), (37, .bool (x2 != (0 : Int)))]) (by kernel_rfl) ?_
      rcases of_cond hm with ⟨c18, hm⟩ | ⟨c18, hm⟩
      · rw [c18]
        refine WL.batch 8 [0, 2, 4, 6, 8, 45] (E' := [(0, .slice A6 l6.length n6), (2, .pointer (some ⟨b1, 0, none⟩)), (4, .slice A1 l1.length n1), (6, .slice A3 l3.length n3), (8, .slice A5 l5.length n5), (45, .bool true)]) (by kernel_rfl) ?_
        refine WL.nil ?_
        refine W.condT _ rfl rfl ?_
        refine W.seq ?_
        refine W.region ?_
        refine WL.value (.agg ([Value.int .i64 0] ++ ([Value.string (⟨#[]⟩ : ByteArray)] ++ ([Value.string (⟨#[]⟩ : ByteArray)] ++ ([Value.int .i64 0] ++ ([Value.int .i64 0] ++ (ints .u8 (Vector.replicate 32 (0 : Int)).toList ++ ([Value.slice none 0 0]))))))).toArray) rfl rfl rfl (ex_build (z := .agg ([Value.int .i64 0] ++ ([Value.string (⟨#[]⟩ : ByteArray)] ++ ([Value.string (⟨#[]⟩ : ByteArray)] ++ ([Value.int .i64 0] ++ ([Value.int .i64 0] ++ (ints .u8 (Vector.replicate 32 (0 : Int)).toList ++ ([Value.slice none 0 0]))))))).toArray) (cs := [Value.int .i64 0] ++ ([Value.string (⟨#[]⟩ : ByteArray)] ++ ([Value.string (⟨#[]⟩ : ByteArray)] ++ ([Value.int .i64 0] ++ ([Value.int .i64 0] ++ (ints .u8 (Vector.replicate 32 (0 : Int)).toList ++ ([Value.slice none 0 0]))))))) (vs := []) (pl := #[(0, 1), (1, 1), (2, 1), (3, 1), (4, 1), (5, 32), (37, 1)]) Try.underlying32 rfl (fun _ => by kernel_rfl) rfl (fun _ => by kernel_rfl) (Fill.nil _)) rfl ?_
        refine WL.opS rfl rfl rfl (ex_storeObj rfl rfl Try.sizeOf32 h20 (Lens.all _ ([Value.int .i64 0] ++ ([Value.string (⟨#[]⟩ : ByteArray)] ++ ([Value.string (⟨#[]⟩ : ByteArray)] ++ ([Value.int .i64 0] ++ ([Value.int .i64 0] ++ (ints .u8 (Vector.replicate 32 (0 : Int)).toList ++ ([Value.slice none 0 0])))))))) (len_app rfl (len_app rfl (len_app rfl (len_app rfl (len_app rfl (len_app (ivl _ _) rfl rfl) rfl) rfl) rfl) rfl) rfl) (len_app rfl (len_app rfl (len_app rfl (len_app rfl (len_app rfl (len_app (ivl _ _) rfl rfl) rfl) rfl) rfl) rfl) rfl) rfl (one_app (one_sing rfl) (one_app (one_sing rfl) (one_app (one_sing rfl) (one_app (one_sing rfl) (one_app (one_sing rfl) (one_app (ints_one _ _) (one_sing rfl)))))))) ?_
        rintro w20 ⟨F34, h171⟩
        have h172 := (h19).fr F34 ⟨(Ap.symm (Src.ap' s1 (hp0).lt trivial)), trivial⟩
        have h173 := (h21).fr F34 ⟨(Src.ap' s2 (Lt.one (at_lt h1)) ⟨(Ap.symm (Src.ap' s1 (hp0).lt trivial)), trivial⟩), trivial⟩
        have h174 := (h22).fr F34 ⟨(Src.ap' s3 (Lt.one (at_lt h1)) ⟨(Ap.symm (Src.ap' s1 (hp0).lt trivial)), trivial⟩), trivial⟩
        have h175 := (h23).fr F34 ⟨(Src.ap' s4 (Lt.one (at_lt h6)) ⟨(Src.ap' s3 (Lt.one (at_lt h1)) ⟨(Ap.symm (Src.ap' s1 (hp0).lt trivial)), trivial⟩), trivial⟩), trivial⟩
        have h176 := (h24).fr F34 ⟨(Src.ap' s5 (Lt.one (at_lt h6)) ⟨(Src.ap' s3 (Lt.one (at_lt h1)) ⟨(Ap.symm (Src.ap' s1 (hp0).lt trivial)), trivial⟩), trivial⟩), trivial⟩
        have h177 := (h17).fr F34 ⟨(Src.ap' s6 (Lt.one (at_lt h14)) ⟨(Src.ap' s5 (Lt.one (at_lt h6)) ⟨(Src.ap' s3 (Lt.one (at_lt h1)) ⟨(Ap.symm (Src.ap' s1 (hp0).lt trivial)), trivial⟩), trivial⟩), trivial⟩), trivial⟩
        have h178 := (h18).fr F34 ⟨(Src.ap' s7 (Lt.one (at_lt h14)) ⟨(Src.ap' s5 (Lt.one (at_lt h6)) ⟨(Src.ap' s3 (Lt.one (at_lt h1)) ⟨(Ap.symm (Src.ap' s1 (hp0).lt trivial)), trivial⟩), trivial⟩), trivial⟩), trivial⟩
        have F35 := Fr.step F9 F34 ⟨(In0.src s1 (Nat.le_refl _) trivial), trivial⟩
        refine ⟨_, rfl, ?_⟩
        obtain ⟨a6, q22, hm⟩ := of_let hm
        rw [q22] at h171
        refine WL.batch 1 [2, 3] (E' := [(2, .pointer (some ⟨b1, 0, none⟩)), (3, .bool false)]) (by kernel_rfl) ?_
        refine WL.nil ?_
        refine W.ret ?_
        obtain rfl := Option.some.inj hm
        replace hm := hm2
        obtain ⟨q0a, q0b⟩ := Prod.mk.inj (Option.some.inj hm)
        obtain ⟨q1a, q1b⟩ := Prod.mk.inj (q0b)
        obtain ⟨q2a, q2b⟩ := Prod.mk.inj (q1b)
        obtain ⟨q3a, q3b⟩ := Prod.mk.inj (q2b)
        obtain ⟨q4a, q4b⟩ := Prod.mk.inj (q3b)
        obtain ⟨q5a, q5b⟩ := Prod.mk.inj (q4b)
        obtain ⟨q6a, q6b⟩ := Prod.mk.inj (q5b)
        subst q0a
        subst q1a
        subst q2a
        subst q3a
        subst q4a
        subst q5a
        subst q6a
        subst q6b
        exact ⟨_, ⟨_, _, _, rfl, rfl, (loadVar_aggN Try.underlying32 rfl Try.sizeOf32 (len_app rfl (len_app rfl (len_app rfl (len_app rfl (len_app rfl (len_app (ivl _ _) rfl rfl) rfl) rfl) rfl) rfl) rfl) h171 (Lens.all _ ([Value.int .i64 0] ++ ([Value.string (⟨#[]⟩ : ByteArray)] ++ ([Value.string (⟨#[]⟩ : ByteArray)] ++ ([Value.int .i64 0] ++ ([Value.int .i64 0] ++ (ints .u8 a6.toList ++ ([Value.slice none 0 0]))))))))), ⟨_, _, rfl, rfl, rfl⟩⟩, ⟨none, 0, rfl, F35, (Rd.nil _ _), (.inl (by simp [ablk, rblk]))⟩⟩
      · rw [c18]
        refine WL.batch 4 [0, 2, 4, 6, 8, 41] (E' := [(0, .slice A6 l6.length n6), (2, .pointer (some ⟨b1, 0, none⟩)), (4, .slice A1 l1.length n1), (6, .slice A3 l3.length n3), (8, .slice A5 l5.length n5), (41, .bool (x3 != (0 : Int)))]) (by kernel_rfl) ?_
        rcases of_cond hm with ⟨c19, hm⟩ | ⟨c19, hm⟩
        · rw [c19]
          refine WL.batch 4 [0, 2, 4, 6, 8, 45] (E' := [(0, .slice A6 l6.length n6), (2, .pointer (some ⟨b1, 0, none⟩)), (4, .slice A1 l1.length n1), (6, .slice A3 l3.length n3), (8, .slice A5 l5.length n5), (45, .bool true)]) (by kernel_rfl) ?_
          refine WL.nil ?_
          refine W.condT _ rfl rfl ?_
          refine W.seq ?_
          refine W.region ?_
          refine WL.value (.agg ([Value.int .i64 0] ++ ([Value.string (⟨#[]⟩ : ByteArray)] ++ ([Value.string (⟨#[]⟩ : ByteArray)] ++ ([Value.int .i64 0] ++ ([Value.int .i64 0] ++ (ints .u8 (Vector.replicate 32 (0 : Int)).toList ++ ([Value.slice none 0 0]))))))).toArray) rfl rfl rfl (ex_build (z := .agg ([Value.int .i64 0] ++ ([Value.string (⟨#[]⟩ : ByteArray)] ++ ([Value.string (⟨#[]⟩ : ByteArray)] ++ ([Value.int .i64 0] ++ ([Value.int .i64 0] ++ (ints .u8 (Vector.replicate 32 (0 : Int)).toList ++ ([Value.slice none 0 0]))))))).toArray) (cs := [Value.int .i64 0] ++ ([Value.string (⟨#[]⟩ : ByteArray)] ++ ([Value.string (⟨#[]⟩ : ByteArray)] ++ ([Value.int .i64 0] ++ ([Value.int .i64 0] ++ (ints .u8 (Vector.replicate 32 (0 : Int)).toList ++ ([Value.slice none 0 0]))))))) (vs := []) (pl := #[(0, 1), (1, 1), (2, 1), (3, 1), (4, 1), (5, 32), (37, 1)]) Try.underlying32 rfl (fun _ => by kernel_rfl) rfl (fun _ => by kernel_rfl) (Fill.nil _)) rfl ?_
          refine WL.opS rfl rfl rfl (ex_storeObj rfl rfl Try.sizeOf32 h20 (Lens.all _ ([Value.int .i64 0] ++ ([Value.string (⟨#[]⟩ : ByteArray)] ++ ([Value.string (⟨#[]⟩ : ByteArray)] ++ ([Value.int .i64 0] ++ ([Value.int .i64 0] ++ (ints .u8 (Vector.replicate 32 (0 : Int)).toList ++ ([Value.slice none 0 0])))))))) (len_app rfl (len_app rfl (len_app rfl (len_app rfl (len_app rfl (len_app (ivl _ _) rfl rfl) rfl) rfl) rfl) rfl) rfl) (len_app rfl (len_app rfl (len_app rfl (len_app rfl (len_app rfl (len_app (ivl _ _) rfl rfl) rfl) rfl) rfl) rfl) rfl) rfl (one_app (one_sing rfl) (one_app (one_sing rfl) (one_app (one_sing rfl) (one_app (one_sing rfl) (one_app (one_sing rfl) (one_app (ints_one _ _) (one_sing rfl)))))))) ?_
          rintro w21 ⟨F36, h179⟩
          have h180 := (h19).fr F36 ⟨(Ap.symm (Src.ap' s1 (hp0).lt trivial)), trivial⟩
          have h181 := (h21).fr F36 ⟨(Src.ap' s2 (Lt.one (at_lt h1)) ⟨(Ap.symm (Src.ap' s1 (hp0).lt trivial)), trivial⟩), trivial⟩
          have h182 := (h22).fr F36 ⟨(Src.ap' s3 (Lt.one (at_lt h1)) ⟨(Ap.symm (Src.ap' s1 (hp0).lt trivial)), trivial⟩), trivial⟩
          have h183 := (h23).fr F36 ⟨(Src.ap' s4 (Lt.one (at_lt h6)) ⟨(Src.ap' s3 (Lt.one (at_lt h1)) ⟨(Ap.symm (Src.ap' s1 (hp0).lt trivial)), trivial⟩), trivial⟩), trivial⟩
          have h184 := (h24).fr F36 ⟨(Src.ap' s5 (Lt.one (at_lt h6)) ⟨(Src.ap' s3 (Lt.one (at_lt h1)) ⟨(Ap.symm (Src.ap' s1 (hp0).lt trivial)), trivial⟩), trivial⟩), trivial⟩
          have h185 := (h17).fr F36 ⟨(Src.ap' s6 (Lt.one (at_lt h14)) ⟨(Src.ap' s5 (Lt.one (at_lt h6)) ⟨(Src.ap' s3 (Lt.one (at_lt h1)) ⟨(Ap.symm (Src.ap' s1 (hp0).lt trivial)), trivial⟩), trivial⟩), trivial⟩), trivial⟩
          have h186 := (h18).fr F36 ⟨(Src.ap' s7 (Lt.one (at_lt h14)) ⟨(Src.ap' s5 (Lt.one (at_lt h6)) ⟨(Src.ap' s3 (Lt.one (at_lt h1)) ⟨(Ap.symm (Src.ap' s1 (hp0).lt trivial)), trivial⟩), trivial⟩), trivial⟩), trivial⟩
          have F37 := Fr.step F9 F36 ⟨(In0.src s1 (Nat.le_refl _) trivial), trivial⟩
          refine ⟨_, rfl, ?_⟩
          obtain ⟨a7, q23, hm⟩ := of_let hm
          rw [q23] at h179
          refine WL.batch 1 [2, 3] (E' := [(2, .pointer (some ⟨b1, 0, none⟩)), (3, .bool false)]) (by kernel_rfl) ?_
          refine WL.nil ?_
          refine W.ret ?_
          obtain rfl := Option.some.inj hm
          replace hm := hm2
          obtain ⟨q0a, q0b⟩ := Prod.mk.inj (Option.some.inj hm)
          obtain ⟨q1a, q1b⟩ := Prod.mk.inj (q0b)
          obtain ⟨q2a, q2b⟩ := Prod.mk.inj (q1b)
          obtain ⟨q3a, q3b⟩ := Prod.mk.inj (q2b)
          obtain ⟨q4a, q4b⟩ := Prod.mk.inj (q3b)
          obtain ⟨q5a, q5b⟩ := Prod.mk.inj (q4b)
          obtain ⟨q6a, q6b⟩ := Prod.mk.inj (q5b)
          subst q0a
          subst q1a
          subst q2a
          subst q3a
          subst q4a
          subst q5a
          subst q6a
          subst q6b
          exact ⟨_, ⟨_, _, _, rfl, rfl, (loadVar_aggN Try.underlying32 rfl Try.sizeOf32 (len_app rfl (len_app rfl (len_app rfl (len_app rfl (len_app rfl (len_app (ivl _ _) rfl rfl) rfl) rfl) rfl) rfl) rfl) h179 (Lens.all _ ([Value.int .i64 0] ++ ([Value.string (⟨#[]⟩ : ByteArray)] ++ ([Value.string (⟨#[]⟩ : ByteArray)] ++ ([Value.int .i64 0] ++ ([Value.int .i64 0] ++ (ints .u8 a7.toList ++ ([Value.slice none 0 0]))))))))), ⟨_, _, rfl, rfl, rfl⟩⟩, ⟨none, 0, rfl, F37, (Rd.nil _ _), (.inl (by simp [ablk, rblk]))⟩⟩
        · rw [c19]
          refine WL.batch 4 [0, 2, 4, 6, 8, 45] (E' := [(0, .slice A6 l6.length n6), (2, .pointer (some ⟨b1, 0, none⟩)), (4, .slice A1 l1.length n1), (6, .slice A3 l3.length n3), (8, .slice A5 l5.length n5), (45, .bool (decide ((l6.length : Int) < (34 : Int))))]) (by kernel_rfl) ?_
          refine WL.nil ?_
          rcases of_cond hm with ⟨c20, hm⟩ | ⟨c20, hm⟩
          · refine W.condT _ rfl c20 ?_
            refine W.seq ?_
            refine W.region ?_
            refine WL.value (.agg ([Value.int .i64 0] ++ ([Value.string (⟨#[]⟩ : ByteArray)] ++ ([Value.string (⟨#[]⟩ : ByteArray)] ++ ([Value.int .i64 0] ++ ([Value.int .i64 0] ++ (ints .u8 (Vector.replicate 32 (0 : Int)).toList ++ ([Value.slice none 0 0]))))))).toArray) rfl rfl rfl (ex_build (z := .agg ([Value.int .i64 0] ++ ([Value.string (⟨#[]⟩ : ByteArray)] ++ ([Value.string (⟨#[]⟩ : ByteArray)] ++ ([Value.int .i64 0] ++ ([Value.int .i64 0] ++ (ints .u8 (Vector.replicate 32 (0 : Int)).toList ++ ([Value.slice none 0 0]))))))).toArray) (cs := [Value.int .i64 0] ++ ([Value.string (⟨#[]⟩ : ByteArray)] ++ ([Value.string (⟨#[]⟩ : ByteArray)] ++ ([Value.int .i64 0] ++ ([Value.int .i64 0] ++ (ints .u8 (Vector.replicate 32 (0 : Int)).toList ++ ([Value.slice none 0 0]))))))) (vs := []) (pl := #[(0, 1), (1, 1), (2, 1), (3, 1), (4, 1), (5, 32), (37, 1)]) Try.underlying32 rfl (fun _ => by kernel_rfl) rfl (fun _ => by kernel_rfl) (Fill.nil _)) rfl ?_
            refine WL.opS rfl rfl rfl (ex_storeObj rfl rfl Try.sizeOf32 h20 (Lens.all _ ([Value.int .i64 0] ++ ([Value.string (⟨#[]⟩ : ByteArray)] ++ ([Value.string (⟨#[]⟩ : ByteArray)] ++ ([Value.int .i64 0] ++ ([Value.int .i64 0] ++ (ints .u8 (Vector.replicate 32 (0 : Int)).toList ++ ([Value.slice none 0 0])))))))) (len_app rfl (len_app rfl (len_app rfl (len_app rfl (len_app rfl (len_app (ivl _ _) rfl rfl) rfl) rfl) rfl) rfl) rfl) (len_app rfl (len_app rfl (len_app rfl (len_app rfl (len_app rfl (len_app (ivl _ _) rfl rfl) rfl) rfl) rfl) rfl) rfl) rfl (one_app (one_sing rfl) (one_app (one_sing rfl) (one_app (one_sing rfl) (one_app (one_sing rfl) (one_app (one_sing rfl) (one_app (ints_one _ _) (one_sing rfl)))))))) ?_
            rintro w22 ⟨F38, h187⟩
            have h188 := (h19).fr F38 ⟨(Ap.symm (Src.ap' s1 (hp0).lt trivial)), trivial⟩
            have h189 := (h21).fr F38 ⟨(Src.ap' s2 (Lt.one (at_lt h1)) ⟨(Ap.symm (Src.ap' s1 (hp0).lt trivial)), trivial⟩), trivial⟩
            have h190 := (h22).fr F38 ⟨(Src.ap' s3 (Lt.one (at_lt h1)) ⟨(Ap.symm (Src.ap' s1 (hp0).lt trivial)), trivial⟩), trivial⟩
            have h191 := (h23).fr F38 ⟨(Src.ap' s4 (Lt.one (at_lt h6)) ⟨(Src.ap' s3 (Lt.one (at_lt h1)) ⟨(Ap.symm (Src.ap' s1 (hp0).lt trivial)), trivial⟩), trivial⟩), trivial⟩
            have h192 := (h24).fr F38 ⟨(Src.ap' s5 (Lt.one (at_lt h6)) ⟨(Src.ap' s3 (Lt.one (at_lt h1)) ⟨(Ap.symm (Src.ap' s1 (hp0).lt trivial)), trivial⟩), trivial⟩), trivial⟩
            have h193 := (h17).fr F38 ⟨(Src.ap' s6 (Lt.one (at_lt h14)) ⟨(Src.ap' s5 (Lt.one (at_lt h6)) ⟨(Src.ap' s3 (Lt.one (at_lt h1)) ⟨(Ap.symm (Src.ap' s1 (hp0).lt trivial)), trivial⟩), trivial⟩), trivial⟩), trivial⟩
            have h194 := (h18).fr F38 ⟨(Src.ap' s7 (Lt.one (at_lt h14)) ⟨(Src.ap' s5 (Lt.one (at_lt h6)) ⟨(Src.ap' s3 (Lt.one (at_lt h1)) ⟨(Ap.symm (Src.ap' s1 (hp0).lt trivial)), trivial⟩), trivial⟩), trivial⟩), trivial⟩
            have F39 := Fr.step F9 F38 ⟨(In0.src s1 (Nat.le_refl _) trivial), trivial⟩
            refine ⟨_, rfl, ?_⟩
            obtain ⟨a8, q24, hm⟩ := of_let hm
            rw [q24] at h187
            refine WL.batch 1 [2, 3] (E' := [(2, .pointer (some ⟨b1, 0, none⟩)), (3, .bool false)]) (by kernel_rfl) ?_
            refine WL.nil ?_
            refine W.ret ?_
            obtain rfl := Option.some.inj hm
            replace hm := hm2
            obtain ⟨q0a, q0b⟩ := Prod.mk.inj (Option.some.inj hm)
            obtain ⟨q1a, q1b⟩ := Prod.mk.inj (q0b)
            obtain ⟨q2a, q2b⟩ := Prod.mk.inj (q1b)
            obtain ⟨q3a, q3b⟩ := Prod.mk.inj (q2b)
            obtain ⟨q4a, q4b⟩ := Prod.mk.inj (q3b)
            obtain ⟨q5a, q5b⟩ := Prod.mk.inj (q4b)
            obtain ⟨q6a, q6b⟩ := Prod.mk.inj (q5b)
            subst q0a
            subst q1a
            subst q2a
            subst q3a
            subst q4a
            subst q5a
            subst q6a
            subst q6b
            exact ⟨_, ⟨_, _, _, rfl, rfl, (loadVar_aggN Try.underlying32 rfl Try.sizeOf32 (len_app rfl (len_app rfl (len_app rfl (len_app rfl (len_app rfl (len_app (ivl _ _) rfl rfl) rfl) rfl) rfl) rfl) rfl) h187 (Lens.all _ ([Value.int .i64 0] ++ ([Value.string (⟨#[]⟩ : ByteArray)] ++ ([Value.string (⟨#[]⟩ : ByteArray)] ++ ([Value.int .i64 0] ++ ([Value.int .i64 0] ++ (ints .u8 a8.toList ++ ([Value.slice none 0 0]))))))))), ⟨_, _, rfl, rfl, rfl⟩⟩, ⟨none, 0, rfl, F39, (Rd.nil _ _), (.inl (by simp [ablk, rblk]))⟩⟩
          · refine W.condF _ rfl c20 ?_
            refine W.skip ?_
            exact rest1 _ _ ⟨⟨rfl, rfl, rfl, rfl, rfl, trivial⟩, h19, h20, h21, h22, h23, h24, h17, h18, F9, (Option.some.inj hm)⟩

/- cautery/cauteryref21.Decode -/
theorem cauteryref21_Decode_walk (k : Nat) (p0 : List Int) (Ap0 : Option Addr) (np0 : Nat) (w : World) (hp0 : Rd w 1 Ap0 p0.length np0 (ints .u8 p0)) (r0 : Int) (r1 : ByteArray) (r2 : ByteArray) (r3 : Int) (r4 : Int) (r5 : Vector Int 32) (r6 : List Int) (r7 : Int) (hm : cauteryref21_Decode.f k p0 = some (r0, r1, r2, r3, r4, r5, r6, r7)) :
    Calls Try.prog 14 #[.slice Ap0 p0.length np0] w fun e w' => ∃ (A6 : Option Addr) (n6 : Nat), e = .returned (.tuple #[.agg ([Value.int .i64 r0] ++ ([Value.string r1] ++ ([Value.string r2] ++ ([Value.int .i64 r3] ++ ([Value.int .i64 r4] ++ (ints .u8 r5.toList ++ ([Value.slice A6 r6.length n6]))))))).toArray, .int .i64 r7]) ∧ Fr [] w w' ∧ Rd w' 1 A6 r6.length n6 (ints .u8 r6) ∧ Src (rblk A6 r6.length) w.heap.size [rblk Ap0 p0.length] := by
  have F0 := Fr.refl [] w
  unfold cauteryref21_Decode.f at hm
  refine W.enter (args := [.slice Ap0 p0.length np0]) Try.func14 rfl (n := 42) rfl rfl ?_
  refine W.seq ?_
  refine W.region ?_
  refine WL.op rfl rfl rfl (ex_alloc' (z := .agg ([Value.int .i64 0] ++ ([Value.string (⟨#[]⟩ : ByteArray)] ++ ([Value.string (⟨#[]⟩ : ByteArray)] ++ ([Value.int .i64 0] ++ ([Value.int .i64 0] ++ (ints .u8 (Vector.replicate 32 (0 : Int)).toList ++ ([Value.slice none 0 0]))))))).toArray) (cs := [Value.int .i64 0] ++ ([Value.string (⟨#[]⟩ : ByteArray)] ++ ([Value.string (⟨#[]⟩ : ByteArray)] ++ ([Value.int .i64 0] ++ ([Value.int .i64 0] ++ (ints .u8 (Vector.replicate 32 (0 : Int)).toList ++ ([Value.slice none 0 0]))))))) (fun _ => by kernel_rfl) (by kernel_rfl)) ?_
  rintro _ w1 ⟨b1, rfl, N1⟩
  have h1 := N1.at_
  have s1 := Src.new [] (Ge.one N1.ge)
  have h2 := (hp0).fr N1.fr trivial
  have F1 := Fr.step F0 N1.fr trivial
  refine ⟨_, rfl, ?_⟩
  refine WL.batch 1 [0, 2] (E' := [(0, .slice Ap0 p0.length np0), (2, .pointer (some ⟨b1, 0, none⟩))]) (by kernel_rfl) ?_
  refine WL.nil ?_
  refine W.seq ?_
  refine W.seq ?_
  refine W.region ?_
  refine WL.batch 3 [0, 2, 10] (E' := [(0, .slice Ap0 p0.length np0), (2, .pointer (some ⟨b1, 0, none⟩)), (10, .bool (decide ((p0.length : Int) > (600 : Int))))]) (by kernel_rfl) ?_
  refine WL.nil ?_
  rcases of_cond hm with ⟨c1, hm⟩ | ⟨c1, hm⟩
  · refine W.condT _ rfl c1 ?_
    refine W.seq ?_
    refine W.region ?_
    refine WL.value (.agg ([Value.int .i64 0] ++ ([Value.string (⟨#[]⟩ : ByteArray)] ++ ([Value.string (⟨#[]⟩ : ByteArray)] ++ ([Value.int .i64 0] ++ ([Value.int .i64 0] ++ (ints .u8 (Vector.replicate 32 (0 : Int)).toList ++ ([Value.slice none 0 0]))))))).toArray) rfl rfl rfl (ex_build (z := .agg ([Value.int .i64 0] ++ ([Value.string (⟨#[]⟩ : ByteArray)] ++ ([Value.string (⟨#[]⟩ : ByteArray)] ++ ([Value.int .i64 0] ++ ([Value.int .i64 0] ++ (ints .u8 (Vector.replicate 32 (0 : Int)).toList ++ ([Value.slice none 0 0]))))))).toArray) (cs := [Value.int .i64 0] ++ ([Value.string (⟨#[]⟩ : ByteArray)] ++ ([Value.string (⟨#[]⟩ : ByteArray)] ++ ([Value.int .i64 0] ++ ([Value.int .i64 0] ++ (ints .u8 (Vector.replicate 32 (0 : Int)).toList ++ ([Value.slice none 0 0]))))))) (vs := []) (pl := #[(0, 1), (1, 1), (2, 1), (3, 1), (4, 1), (5, 32), (37, 1)]) Try.underlying32 rfl (fun _ => by kernel_rfl) rfl (fun _ => by kernel_rfl) (Fill.nil _)) rfl ?_
    refine WL.opS rfl rfl rfl (ex_storeObj rfl rfl Try.sizeOf32 h1 (Lens.all _ ([Value.int .i64 0] ++ ([Value.string (⟨#[]⟩ : ByteArray)] ++ ([Value.string (⟨#[]⟩ : ByteArray)] ++ ([Value.int .i64 0] ++ ([Value.int .i64 0] ++ (ints .u8 (Vector.replicate 32 (0 : Int)).toList ++ ([Value.slice none 0 0])))))))) (len_app rfl (len_app rfl (len_app rfl (len_app rfl (len_app rfl (len_app (ivl _ _) rfl rfl) rfl) rfl) rfl) rfl) rfl) (len_app rfl (len_app rfl (len_app rfl (len_app rfl (len_app rfl (len_app (ivl _ _) rfl rfl) rfl) rfl) rfl) rfl) rfl) rfl (one_app (one_sing rfl) (one_app (one_sing rfl) (one_app (one_sing rfl) (one_app (one_sing rfl) (one_app (one_sing rfl) (one_app (ints_one _ _) (one_sing rfl)))))))) ?_
    rintro w2 ⟨F2, h3⟩
    have h4 := (h2).fr F2 ⟨(Ap.symm (Src.ap' s1 (hp0).lt trivial)), trivial⟩
    have F3 := Fr.step F1 F2 ⟨(In0.src s1 (Nat.le_refl _) trivial), trivial⟩
    refine ⟨_, rfl, ?_⟩
    obtain ⟨a1, q1, hm⟩ := of_let hm
    rw [q1] at h3
    refine WL.batch 1 [2, 3] (E' := [(2, .pointer (some ⟨b1, 0, none⟩)), (3, .int .i64 4)]) (by kernel_rfl) ?_
    refine WL.nil ?_
    refine W.ret ?_
    obtain ⟨q0a, q0b⟩ := Prod.mk.inj (Option.some.inj hm)
    obtain ⟨q1a, q1b⟩ := Prod.mk.inj (q0b)
    obtain ⟨q2a, q2b⟩ := Prod.mk.inj (q1b)
    obtain ⟨q3a, q3b⟩ := Prod.mk.inj (q2b)
    obtain ⟨q4a, q4b⟩ := Prod.mk.inj (q3b)
    obtain ⟨q5a, q5b⟩ := Prod.mk.inj (q4b)
    obtain ⟨q6a, q6b⟩ := Prod.mk.inj (q5b)
    subst q0a
    subst q1a
    subst q2a
    subst q3a
    subst q4a
    subst q5a
    subst q6a
    subst q6b
    exact ⟨_, ⟨_, _, _, rfl, rfl, (loadVar_aggN Try.underlying32 rfl Try.sizeOf32 (len_app rfl (len_app rfl (len_app rfl (len_app rfl (len_app rfl (len_app (ivl _ _) rfl rfl) rfl) rfl) rfl) rfl) rfl) h3 (Lens.all _ ([Value.int .i64 0] ++ ([Value.string (⟨#[]⟩ : ByteArray)] ++ ([Value.string (⟨#[]⟩ : ByteArray)] ++ ([Value.int .i64 0] ++ ([Value.int .i64 0] ++ (ints .u8 a1.toList ++ ([Value.slice none 0 0]))))))))), ⟨_, _, rfl, rfl, rfl⟩⟩, ⟨none, 0, rfl, F3, (Rd.nil _ _), (.inl (by simp [ablk, rblk]))⟩⟩
  · refine W.condF _ rfl c1 ?_
    refine W.skip ?_
    refine W.seq ?_
    refine W.seq ?_
    refine W.region ?_
    refine WL.batch 3 [0, 2, 14] (E' := [(0, .slice Ap0 p0.length np0), (2, .pointer (some ⟨b1, 0, none⟩)), (14, .bool (decide ((p0.length : Int) < (4 : Int))))]) (by kernel_rfl) ?_
    refine WL.nil ?_
    rcases of_cond hm with ⟨c2, hm⟩ | ⟨c2, hm⟩
    · refine W.condT _ rfl c2 ?_
      refine W.seq ?_
      refine W.region ?_
      refine WL.value (.agg ([Value.int .i64 0] ++ ([Value.string (⟨#[]⟩ : ByteArray)] ++ ([Value.string (⟨#[]⟩ : ByteArray)] ++ ([Value.int .i64 0] ++ ([Value.int .i64 0] ++ (ints .u8 (Vector.replicate 32 (0 : Int)).toList ++ ([Value.slice none 0 0]))))))).toArray) rfl rfl rfl (ex_build (z := .agg ([Value.int .i64 0] ++ ([Value.string (⟨#[]⟩ : ByteArray)] ++ ([Value.string (⟨#[]⟩ : ByteArray)] ++ ([Value.int .i64 0] ++ ([Value.int .i64 0] ++ (ints .u8 (Vector.replicate 32 (0 : Int)).toList ++ ([Value.slice none 0 0]))))))).toArray) (cs := [Value.int .i64 0] ++ ([Value.string (⟨#[]⟩ : ByteArray)] ++ ([Value.string (⟨#[]⟩ : ByteArray)] ++ ([Value.int .i64 0] ++ ([Value.int .i64 0] ++ (ints .u8 (Vector.replicate 32 (0 : Int)).toList ++ ([Value.slice none 0 0]))))))) (vs := []) (pl := #[(0, 1), (1, 1), (2, 1), (3, 1), (4, 1), (5, 32), (37, 1)]) Try.underlying32 rfl (fun _ => by kernel_rfl) rfl (fun _ => by kernel_rfl) (Fill.nil _)) rfl ?_
      refine WL.opS rfl rfl rfl (ex_storeObj rfl rfl Try.sizeOf32 h1 (Lens.all _ ([Value.int .i64 0] ++ ([Value.string (⟨#[]⟩ : ByteArray)] ++ ([Value.string (⟨#[]⟩ : ByteArray)] ++ ([Value.int .i64 0] ++ ([Value.int .i64 0] ++ (ints .u8 (Vector.replicate 32 (0 : Int)).toList ++ ([Value.slice none 0 0])))))))) (len_app rfl (len_app rfl (len_app rfl (len_app rfl (len_app rfl (len_app (ivl _ _) rfl rfl) rfl) rfl) rfl) rfl) rfl) (len_app rfl (len_app rfl (len_app rfl (len_app rfl (len_app rfl (len_app (ivl _ _) rfl rfl) rfl) rfl) rfl) rfl) rfl) rfl (one_app (one_sing rfl) (one_app (one_sing rfl) (one_app (one_sing rfl) (one_app (one_sing rfl) (one_app (one_sing rfl) (one_app (ints_one _ _) (one_sing rfl)))))))) ?_
      rintro w3 ⟨F4, h5⟩
      have h6 := (h2).fr F4 ⟨(Ap.symm (Src.ap' s1 (hp0).lt trivial)), trivial⟩
      have F5 := Fr.step F1 F4 ⟨(In0.src s1 (Nat.le_refl _) trivial), trivial⟩
      refine ⟨_, rfl, ?_⟩
      obtain ⟨a2, q2, hm⟩ := of_let hm
      rw [q2] at h5
      refine WL.batch 1 [2, 3] (E' := [(2, .pointer (some ⟨b1, 0, none⟩)), (3, .int .i64 14)]) (by kernel_rfl) ?_
      refine WL.nil ?_
      refine W.ret ?_
      obtain ⟨q0a, q0b⟩ := Prod.mk.inj (Option.some.inj hm)
      obtain ⟨q1a, q1b⟩ := Prod.mk.inj (q0b)
      obtain ⟨q2a, q2b⟩ := Prod.mk.inj (q1b)
      obtain ⟨q3a, q3b⟩ := Prod.mk.inj (q2b)
      obtain ⟨q4a, q4b⟩ := Prod.mk.inj (q3b)
      obtain ⟨q5a, q5b⟩ := Prod.mk.inj (q4b)
      obtain ⟨q6a, q6b⟩ := Prod.mk.inj (q5b)
      subst q0a
      subst q1a
      subst q2a
      subst q3a
      subst q4a
      subst q5a
      subst q6a
      subst q6b
      exact ⟨_, ⟨_, _, _, rfl, rfl, (loadVar_aggN Try.underlying32 rfl Try.sizeOf32 (len_app rfl (len_app rfl (len_app rfl (len_app rfl (len_app rfl (len_app (ivl _ _) rfl rfl) rfl) rfl) rfl) rfl) rfl) h5 (Lens.all _ ([Value.int .i64 0] ++ ([Value.string (⟨#[]⟩ : ByteArray)] ++ ([Value.string (⟨#[]⟩ : ByteArray)] ++ ([Value.int .i64 0] ++ ([Value.int .i64 0] ++ (ints .u8 a2.toList ++ ([Value.slice none 0 0]))))))))), ⟨_, _, rfl, rfl, rfl⟩⟩, ⟨none, 0, rfl, F5, (Rd.nil _ _), (.inl (by simp [ablk, rblk]))⟩⟩
    · refine W.condF _ rfl c2 ?_
      refine W.skip ?_
      refine W.seq ?_
      refine W.region ?_
      refine WL.batch 4 [0, 2, 4] (E' := [(0, .slice Ap0 p0.length np0), (2, .pointer (some ⟨b1, 0, none⟩)), (4, .int .i64 (wsub .i64 (p0.length : Int) 4))]) (by kernel_rfl) ?_
      obtain ⟨x1, q3, hm⟩ := of_let hm
      rw [q3]
      refine WL.nil ?_
      refine W.seq ?_
      refine W.region ?_
      refine WL.batch 2 [0, 2, 4, 19, 20] (E' := [(0, .slice Ap0 p0.length np0), (2, .pointer (some ⟨b1, 0, none⟩)), (4, .int .i64 x1), (19, .slice Ap0 p0.length np0), (20, .int .i64 x1)]) (by kernel_rfl) ?_
      obtain ⟨⟨c3, c4, c5⟩, hm⟩ := of_guard hm
      obtain ⟨l1, q4, hm⟩ := of_let hm
      refine WL.opU rfl rfl rfl (ex_sliceU (k1 := .i64) (k2 := .i64) (k := .u8) Try.underlying23 Try.sizeOf5 rfl (.inr ⟨rfl, rfl⟩) (.inl rfl) ⟨c3, c4, c5⟩ h2 q4) ?_
      rintro _ ⟨A1, n1, rfl, h7, s2⟩
      refine ⟨_, rfl, ?_⟩
      obtain ⟨a3, q5, hm⟩ := of_bind hm
      refine WL.call rfl rfl rfl (ex_callI (args := [.slice A1 l1.length n1]) rfl rfl rfl Try.call19) (cauteryref02_Sum_walk k l1 A1 n1 _ h7  a3 q5) ?_
      rintro _ w4 ⟨rfl, F6⟩
      have h8 := (h2).fr F6 trivial
      have h9 := Fr.at F6 h1 (ApL.not (x := some b1) (S := []) trivial _ rfl)
      have h10 := (h7).fr F6 trivial
      have F7 := Fr.step F1 F6 trivial
      refine ⟨_, _, rfl, rfl, ?_⟩
      refine WL.op rfl rfl rfl (ex_alloc' (z := .agg (ints .u8 (Vector.replicate 32 (0 : Int)).toList).toArray) (cs := ints .u8 (Vector.replicate 32 (0 : Int)).toList) (fun _ => by kernel_rfl) (by kernel_rfl)) ?_
      rintro _ w5 ⟨b2, rfl, N2⟩
      have h11 := N2.at_
      have s3 := Src.new [] (Ge.one N2.ge)
      have h12 := (h8).fr N2.fr trivial
      have h13 := Fr.at N2.fr h9 (ApL.not (x := some b1) (S := []) trivial _ rfl)
      have h14 := (h10).fr N2.fr trivial
      have F8 := Fr.step F7 N2.fr trivial
      refine ⟨_, rfl, ?_⟩
      refine WL.opS rfl rfl rfl (ex_storeObj rfl rfl Try.sizeOf22 h11 (Lens.all _ (ints .u8 a3.toList)) (ivl _ _) (ivl _ _) rfl (ints_one _ _)) ?_
      rintro w6 ⟨F9, h15⟩
      have h16 := (h12).fr F9 ⟨(Ap.symm (Src.ap' s3 (h8).lt trivial)), trivial⟩
      have h17 := Fr.at F9 h13 (ApL.not (x := some b1) (S := [some b2]) ⟨(Ap.symm (Src.ap' s3 (Lt.one (at_lt h9)) trivial)), trivial⟩ _ rfl)
      have h18 := (h14).fr F9 ⟨(Ap.symm (Src.ap' s3 (h10).lt trivial)), trivial⟩
      have F10 := Fr.step F8 F9 ⟨(In0.src s3 F7.size trivial), trivial⟩
      refine ⟨_, rfl, ?_⟩
      refine WL.nil ?_
      refine W.seq ?_
      refine W.seq ?_
      refine W.regionDw (N := 7) Try_mixed rfl ?_
      intro w7 F11
      have h19 := (h16).fr F11 trivial
      have h20 := Fr.at F11 h17 (ApL.not (x := some b1) (S := []) trivial _ rfl)
      have h21 := (h18).fr F11 trivial
      have h22 := Fr.at F11 h15 (ApL.not (x := some b2) (S := []) trivial _ rfl)
      have F12 := Fr.step F10 F11 trivial
      refine WD.batch (f' := 5) [2, 3] #[false, false, true, true, false, false, false] [0, 2, 4, 5, 25, 26] rfl (E' := [(0, .slice Ap0 p0.length np0), (2, .pointer (some ⟨b1, 0, none⟩)), (4, .int .i64 x1), (5, .pointer (some ⟨b2, 0, none⟩)), (25, .slice Ap0 p0.length np0), (26, .int .i64 x1)]) (by kernel_rfl) ?_
      obtain ⟨l2, q6, hm⟩ := of_let hm
      refine WD.opU 0 rfl (by kernel_rfl) rfl rfl (ex_sliceArrU (k1 := .i64) (k2 := .i64) (k := .u8) (v := a3) Try.underlying22 Try.sizeOf5 rfl (.inr ⟨rfl, rfl⟩) (.inl rfl) (by decide) rfl h22 (Lens.all _ (ints .u8 a3.toList)) q6) ?_
      rintro _ ⟨o1, n2, rfl, h23, q7, s4⟩
      refine ⟨_, rfl, ?_⟩
      obtain ⟨s5, q8, hm⟩ := of_let hm
      refine WD.load 1 [] [6] (.string s5) rfl (by kernel_rfl) rfl rfl rfl (by rw [← q8]; exact (ex_bytesStr Try.underlying23 Try.underlying9 Try.underlying5 rfl h23)) ?_
      obtain ⟨⟨c6, c7, c8⟩, hm⟩ := of_guard hm
      obtain ⟨l3, q9, hm⟩ := of_let hm
      refine WD.opU 4 rfl (by kernel_rfl) rfl rfl (ex_sliceU (k1 := .i64) (k2 := .i64) (k := .u8) Try.underlying23 Try.sizeOf5 rfl (.inl rfl) (.inr ⟨rfl, rfl⟩) ⟨c6, c7, c8⟩ h19 q9) ?_
      rintro _ ⟨A2, n3, rfl, h24, s6⟩
      refine ⟨_, rfl, ?_⟩
      obtain ⟨s7, q10, hm⟩ := of_let hm
      refine WD.load 5 [] [6] (.string s7) rfl (by kernel_rfl) rfl rfl rfl (by rw [← q10]; exact (ex_bytesStr Try.underlying23 Try.underlying9 Try.underlying5 rfl h24)) ?_
      refine WD.batch (f' := 0) [6] #[true, true, true, true, true, true, true] [0, 2, 4, 29] rfl (E' := [(0, .slice Ap0 p0.length np0), (2, .pointer (some ⟨b1, 0, none⟩)), (4, .int .i64 x1), (29, .bool (!(s5.toList == s7.toList)))]) (by kernel_rfl) ?_
      refine WD.end_ (by kernel_rfl) ?_
      rcases of_cond hm with ⟨c9, hm⟩ | ⟨c9, hm⟩
      · refine W.condT _ rfl c9 ?_
        refine W.seq ?_
        refine W.region ?_
        refine WL.value (.agg ([Value.int .i64 0] ++ ([Value.string (⟨#[]⟩ : ByteArray)] ++ ([Value.string (⟨#[]⟩ : ByteArray)] ++ ([Value.int .i64 0] ++ ([Value.int .i64 0] ++ (ints .u8 (Vector.replicate 32 (0 : Int)).toList ++ ([Value.slice none 0 0]))))))).toArray) rfl rfl rfl (ex_build (z := .agg ([Value.int .i64 0] ++ ([Value.string (⟨#[]⟩ : ByteArray)] ++ ([Value.string (⟨#[]⟩ : ByteArray)] ++ ([Value.int .i64 0] ++ ([Value.int .i64 0] ++ (ints .u8 (Vector.replicate 32 (0 : Int)).toList ++ ([Value.slice none 0 0]))))))).toArray) (cs := [Value.int .i64 0] ++ ([Value.string (⟨#[]⟩ : ByteArray)] ++ ([Value.string (⟨#[]⟩ : ByteArray)] ++ ([Value.int .i64 0] ++ ([Value.int .i64 0] ++ (ints .u8 (Vector.replicate 32 (0 : Int)).toList ++ ([Value.slice none 0 0]))))))) (vs := []) (pl := #[(0, 1), (1, 1), (2, 1), (3, 1), (4, 1), (5, 32), (37, 1)]) Try.underlying32 rfl (fun _ => by kernel_rfl) rfl (fun _ => by kernel_rfl) (Fill.nil _)) rfl ?_
        refine WL.opS rfl rfl rfl (ex_storeObj rfl rfl Try.sizeOf32 h20 (Lens.all _ ([Value.int .i64 0] ++ ([Value.string (⟨#[]⟩ : ByteArray)] ++ ([Value.string (⟨#[]⟩ : ByteArray)] ++ ([Value.int .i64 0] ++ ([Value.int .i64 0] ++ (ints .u8 (Vector.replicate 32 (0 : Int)).toList ++ ([Value.slice none 0 0])))))))) (len_app rfl (len_app rfl (len_app rfl (len_app rfl (len_app rfl (len_app (ivl _ _) rfl rfl) rfl) rfl) rfl) rfl) rfl) (len_app rfl (len_app rfl (len_app rfl (len_app rfl (len_app rfl (len_app (ivl _ _) rfl rfl) rfl) rfl) rfl) rfl) rfl) rfl (one_app (one_sing rfl) (one_app (one_sing rfl) (one_app (one_sing rfl) (one_app (one_sing rfl) (one_app (one_sing rfl) (one_app (ints_one _ _) (one_sing rfl)))))))) ?_
        rintro w8 ⟨F13, h25⟩
        have h26 := (h19).fr F13 ⟨(Ap.symm (Src.ap' s1 (hp0).lt trivial)), trivial⟩
        have h27 := (h21).fr F13 ⟨(Src.ap' s2 (Lt.one (at_lt h1)) ⟨(Ap.symm (Src.ap' s1 (hp0).lt trivial)), trivial⟩), trivial⟩
        have h28 := Fr.at F13 h22 (ApL.not (x := some b2) (S := [some b1]) ⟨(Src.ap' s3 (Lt.one (at_lt h9)) trivial), trivial⟩ _ rfl)
        have h29 := (h23).fr F13 ⟨(Src.ap' s4 (Lt.one (at_lt h20)) ⟨(Src.ap' s3 (Lt.one (at_lt h9)) trivial), trivial⟩), trivial⟩
        have h30 := (h24).fr F13 ⟨(Src.ap' s6 (Lt.one (at_lt h20)) ⟨(Ap.symm (Src.ap' s1 (hp0).lt trivial)), trivial⟩), trivial⟩
        have F14 := Fr.step F12 F13 ⟨(In0.src s1 (Nat.le_refl _) trivial), trivial⟩
        refine ⟨_, rfl, ?_⟩
        obtain ⟨a4, q11, hm⟩ := of_let hm
        rw [q11] at h25
        refine WL.batch 1 [2, 3] (E' := [(2, .pointer (some ⟨b1, 0, none⟩)), (3, .int .i64 14)]) (by kernel_rfl) ?_
        refine WL.nil ?_
        refine W.ret ?_
        obtain ⟨q0a, q0b⟩ := Prod.mk.inj (Option.some.inj hm)
        obtain ⟨q1a, q1b⟩ := Prod.mk.inj (q0b)
        obtain ⟨q2a, q2b⟩ := Prod.mk.inj (q1b)
        obtain ⟨q3a, q3b⟩ := Prod.mk.inj (q2b)
        obtain ⟨q4a, q4b⟩ := Prod.mk.inj (q3b)
        obtain ⟨q5a, q5b⟩ := Prod.mk.inj (q4b)
        obtain ⟨q6a, q6b⟩ := Prod.mk.inj (q5b)
        subst q0a
        subst q1a
        subst q2a
        subst q3a
        subst q4a
        subst q5a
        subst q6a
        subst q6b
        exact ⟨_, ⟨_, _, _, rfl, rfl, (loadVar_aggN Try.underlying32 rfl Try.sizeOf32 (len_app rfl (len_app rfl (len_app rfl (len_app rfl (len_app rfl (len_app (ivl _ _) rfl rfl) rfl) rfl) rfl) rfl) rfl) h25 (Lens.all _ ([Value.int .i64 0] ++ ([Value.string (⟨#[]⟩ : ByteArray)] ++ ([Value.string (⟨#[]⟩ : ByteArray)] ++ ([Value.int .i64 0] ++ ([Value.int .i64 0] ++ (ints .u8 a4.toList ++ ([Value.slice none 0 0]))))))))), ⟨_, _, rfl, rfl, rfl⟩⟩, ⟨none, 0, rfl, F14, (Rd.nil _ _), (.inl (by simp [ablk, rblk]))⟩⟩
      · refine W.condF _ rfl c9 ?_
        refine W.skip ?_
        refine W.seq ?_
        refine W.region ?_
        refine WL.batch 2 [2, 32, 33] (E' := [(2, .pointer (some ⟨b1, 0, none⟩)), (32, .slice Ap0 p0.length np0), (33, .int .i64 x1)]) (by kernel_rfl) ?_
        obtain ⟨l4, q12, hm⟩ := of_let hm
        refine WL.opU rfl rfl rfl (ex_sliceU (k1 := .i64) (k2 := .i64) (k := .u8) Try.underlying23 Try.sizeOf5 rfl (.inr ⟨rfl, rfl⟩) (.inl rfl) ⟨c3, c4, c5⟩ h19 q12) ?_
        rintro _ ⟨A3, n4, rfl, h31, s8⟩
        refine ⟨_, rfl, ?_⟩
        obtain ⟨⟨x2, s9, s10, x3, x4, a5, l5, y1⟩, q13, hm⟩ := of_bind hm
        refine WL.call rfl rfl rfl (ex_callI (args := [.slice A3 l4.length n4]) rfl rfl rfl Try.call24) (cauteryref21_parse_walk k l4 A3 n4 _ h31  x2 s9 s10 x3 x4 a5 l5 y1 q13) ?_
        rintro _ w9 ⟨A4, n5, rfl, F15, h32, s11⟩
        have h33 := (h19).fr F15 trivial
        have h34 := Fr.at F15 h20 (ApL.not (x := some b1) (S := []) trivial _ rfl)
        have h35 := (h21).fr F15 trivial
        have h36 := Fr.at F15 h22 (ApL.not (x := some b2) (S := []) trivial _ rfl)
        have h37 := (h23).fr F15 trivial
        have h38 := (h24).fr F15 trivial
        have h39 := (h31).fr F15 trivial
        have F16 := Fr.step F12 F15 trivial
        refine ⟨_, _, rfl, rfl, ?_⟩
        refine WL.batch 3 [2, 36, 37] (E' := [(2, .pointer (some ⟨b1, 0, none⟩)), (36, .agg ([Value.int .i64 x2] ++ ([Value.string s9] ++ ([Value.string s10] ++ ([Value.int .i64 x3] ++ ([Value.int .i64 x4] ++ (ints .u8 a5.toList ++ ([Value.slice A4 l5.length n5]))))))).toArray), (37, .bool y1)]) (by kernel_rfl) ?_
        refine WL.op rfl rfl rfl (ex_alloc' (z := .agg ([Value.int .i64 0] ++ ([Value.string (⟨#[]⟩ : ByteArray)] ++ ([Value.string (⟨#[]⟩ : ByteArray)] ++ ([Value.int .i64 0] ++ ([Value.int .i64 0] ++ (ints .u8 (Vector.replicate 32 (0 : Int)).toList ++ ([Value.slice none 0 0]))))))).toArray) (cs := [Value.int .i64 0] ++ ([Value.string (⟨#[]⟩ : ByteArray)] ++ ([Value.string (⟨#[]⟩ : ByteArray)] ++ ([Value.int .i64 0] ++ ([Value.int .i64 0] ++ (ints .u8 (Vector.replicate 32 (0 : Int)).toList ++ ([Value.slice none 0 0]))))))) (fun _ => by kernel_rfl) (by kernel_rfl)) ?_
        rintro _ w10 ⟨b3, rfl, N3⟩
        have h40 := N3.at_
        have s12 := Src.new [] (Ge.one N3.ge)
        have h41 := (h33).fr N3.fr trivial
        have h42 := Fr.at N3.fr h34 (ApL.not (x := some b1) (S := []) trivial _ rfl)
        have h43 := (h35).fr N3.fr trivial
        have h44 := Fr.at N3.fr h36 (ApL.not (x := some b2) (S := []) trivial _ rfl)
        have h45 := (h37).fr N3.fr trivial
        have h46 := (h38).fr N3.fr trivial
        have h47 := (h39).fr N3.fr trivial
        have h48 := (h32).fr N3.fr trivial
        have F17 := Fr.step F16 N3.fr trivial
        refine ⟨_, rfl, ?_⟩
        refine WL.opS rfl rfl rfl (ex_storeObj rfl rfl Try.sizeOf32 h40 (Lens.all _ ([Value.int .i64 x2] ++ ([Value.string s9] ++ ([Value.string s10] ++ ([Value.int .i64 x3] ++ ([Value.int .i64 x4] ++ (ints .u8 a5.toList ++ ([Value.slice A4 l5.length n5])))))))) (len_app rfl (len_app rfl (len_app rfl (len_app rfl (len_app rfl (len_app (ivl _ _) rfl rfl) rfl) rfl) rfl) rfl) rfl) (len_app rfl (len_app rfl (len_app rfl (len_app rfl (len_app rfl (len_app (ivl _ _) rfl rfl) rfl) rfl) rfl) rfl) rfl) rfl (one_app (one_sing rfl) (one_app (one_sing rfl) (one_app (one_sing rfl) (one_app (one_sing rfl) (one_app (one_sing rfl) (one_app (ints_one _ _) (one_sing rfl)))))))) ?_
        rintro w11 ⟨F18, h49⟩
        have h50 := (h41).fr F18 ⟨(Ap.symm (Src.ap' s12 (h33).lt trivial)), trivial⟩
        have h51 := Fr.at F18 h42 (ApL.not (x := some b1) (S := [some b3]) ⟨(Ap.symm (Src.ap' s12 (Lt.one (at_lt h34)) trivial)), trivial⟩ _ rfl)
        have h52 := (h43).fr F18 ⟨(Ap.symm (Src.ap' s12 (h35).lt trivial)), trivial⟩
        have h53 := Fr.at F18 h44 (ApL.not (x := some b2) (S := [some b3]) ⟨(Ap.symm (Src.ap' s12 (Lt.one (at_lt h36)) trivial)), trivial⟩ _ rfl)
        have h54 := (h45).fr F18 ⟨(Ap.symm (Src.ap' s12 (h37).lt trivial)), trivial⟩
        have h55 := (h46).fr F18 ⟨(Ap.symm (Src.ap' s12 (h38).lt trivial)), trivial⟩
        have h56 := (h47).fr F18 ⟨(Ap.symm (Src.ap' s12 (h39).lt trivial)), trivial⟩
        have h57 := (h48).fr F18 ⟨(Ap.symm (Src.ap' s12 (h32).lt trivial)), trivial⟩
        have F19 := Fr.step F17 F18 ⟨(In0.src s12 F16.size trivial), trivial⟩
        refine ⟨_, rfl, ?_⟩
        refine WL.batch 1 [2, 6, 7] (E' := [(2, .pointer (some ⟨b1, 0, none⟩)), (6, .pointer (some ⟨b3, 0, none⟩)), (7, .bool y1)]) (by kernel_rfl) ?_
        refine WL.nil ?_
        refine W.seq ?_
        refine W.seq ?_
        refine W.region ?_
        refine WL.batch 2 [2, 6, 39] (E' := [(2, .pointer (some ⟨b1, 0, none⟩)), (6, .pointer (some ⟨b3, 0, none⟩)), (39, .bool (!y1))]) (by kernel_rfl) ?_
        refine WL.nil ?_
        rcases of_cond hm with ⟨c10, hm⟩ | ⟨c10, hm⟩
        · refine W.condT _ rfl c10 ?_
          refine W.seq ?_
          refine W.region ?_
          refine WL.value (.agg ([Value.int .i64 0] ++ ([Value.string (⟨#[]⟩ : ByteArray)] ++ ([Value.string (⟨#[]⟩ : ByteArray)] ++ ([Value.int .i64 0] ++ ([Value.int .i64 0] ++ (ints .u8 (Vector.replicate 32 (0 : Int)).toList ++ ([Value.slice none 0 0]))))))).toArray) rfl rfl rfl (ex_build (z := .agg ([Value.int .i64 0] ++ ([Value.string (⟨#[]⟩ : ByteArray)] ++ ([Value.string (⟨#[]⟩ : ByteArray)] ++ ([Value.int .i64 0] ++ ([Value.int .i64 0] ++ (ints .u8 (Vector.replicate 32 (0 : Int)).toList ++ ([Value.slice none 0 0]))))))).toArray) (cs := [Value.int .i64 0] ++ ([Value.string (⟨#[]⟩ : ByteArray)] ++ ([Value.string (⟨#[]⟩ : ByteArray)] ++ ([Value.int .i64 0] ++ ([Value.int .i64 0] ++ (ints .u8 (Vector.replicate 32 (0 : Int)).toList ++ ([Value.slice none 0 0]))))))) (vs := []) (pl := #[(0, 1), (1, 1), (2, 1), (3, 1), (4, 1), (5, 32), (37, 1)]) Try.underlying32 rfl (fun _ => by kernel_rfl) rfl (fun _ => by kernel_rfl) (Fill.nil _)) rfl ?_
          refine WL.opS rfl rfl rfl (ex_storeObj rfl rfl Try.sizeOf32 h51 (Lens.all _ ([Value.int .i64 0] ++ ([Value.string (⟨#[]⟩ : ByteArray)] ++ ([Value.string (⟨#[]⟩ : ByteArray)] ++ ([Value.int .i64 0] ++ ([Value.int .i64 0] ++ (ints .u8 (Vector.replicate 32 (0 : Int)).toList ++ ([Value.slice none 0 0])))))))) (len_app rfl (len_app rfl (len_app rfl (len_app rfl (len_app rfl (len_app (ivl _ _) rfl rfl) rfl) rfl) rfl) rfl) rfl) (len_app rfl (len_app rfl (len_app rfl (len_app rfl (len_app rfl (len_app (ivl _ _) rfl rfl) rfl) rfl) rfl) rfl) rfl) rfl (one_app (one_sing rfl) (one_app (one_sing rfl) (one_app (one_sing rfl) (one_app (one_sing rfl) (one_app (one_sing rfl) (one_app (ints_one _ _) (one_sing rfl)))))))) ?_
          rintro w12 ⟨F20, h58⟩
          have h59 := (h50).fr F20 ⟨(Ap.symm (Src.ap' s1 (hp0).lt trivial)), trivial⟩
          have h60 := (h52).fr F20 ⟨(Src.ap' s2 (Lt.one (at_lt h1)) ⟨(Ap.symm (Src.ap' s1 (hp0).lt trivial)), trivial⟩), trivial⟩
          have h61 := Fr.at F20 h53 (ApL.not (x := some b2) (S := [some b1]) ⟨(Src.ap' s3 (Lt.one (at_lt h9)) trivial), trivial⟩ _ rfl)
          have h62 := (h54).fr F20 ⟨(Src.ap' s4 (Lt.one (at_lt h20)) ⟨(Src.ap' s3 (Lt.one (at_lt h9)) trivial), trivial⟩), trivial⟩
          have h63 := (h55).fr F20 ⟨(Src.ap' s6 (Lt.one (at_lt h20)) ⟨(Ap.symm (Src.ap' s1 (hp0).lt trivial)), trivial⟩), trivial⟩
          have h64 := (h56).fr F20 ⟨(Src.ap' s8 (Lt.one (at_lt h20)) ⟨(Ap.symm (Src.ap' s1 (hp0).lt trivial)), trivial⟩), trivial⟩
          have h65 := (h57).fr F20 ⟨(Src.ap' s11 (Lt.one (at_lt h20)) ⟨(Src.ap' s8 (Lt.one (at_lt h20)) ⟨(Ap.symm (Src.ap' s1 (hp0).lt trivial)), trivial⟩), trivial⟩), trivial⟩
          have h66 := Fr.at F20 h49 (ApL.not (x := some b3) (S := [some b1]) ⟨(Src.ap' s12 (Lt.one (at_lt h34)) trivial), trivial⟩ _ rfl)
          have F21 := Fr.step F19 F20 ⟨(In0.src s1 (Nat.le_refl _) trivial), trivial⟩
          refine ⟨_, rfl, ?_⟩
          obtain ⟨a6, q14, hm⟩ := of_let hm
          rw [q14] at h58
          refine WL.batch 1 [2, 3] (E' := [(2, .pointer (some ⟨b1, 0, none⟩)), (3, .int .i64 3)]) (by kernel_rfl) ?_
          refine WL.nil ?_
          refine W.ret ?_
          obtain ⟨q0a, q0b⟩ := Prod.mk.inj (Option.some.inj hm)
          obtain ⟨q1a, q1b⟩ := Prod.mk.inj (q0b)
          obtain ⟨q2a, q2b⟩ := Prod.mk.inj (q1b)
          obtain ⟨q3a, q3b⟩ := Prod.mk.inj (q2b)
          obtain ⟨q4a, q4b⟩ := Prod.mk.inj (q3b)
          obtain ⟨q5a, q5b⟩ := Prod.mk.inj (q4b)
          obtain ⟨q6a, q6b⟩ := Prod.mk.inj (q5b)
          subst q0a
          subst q1a
          subst q2a
          subst q3a
          subst q4a
          subst q5a
          subst q6a
          subst q6b
          exact ⟨_, ⟨_, _, _, rfl, rfl, (loadVar_aggN Try.underlying32 rfl Try.sizeOf32 (len_app rfl (len_app rfl (len_app rfl (len_app rfl (len_app rfl (len_app (ivl _ _) rfl rfl) rfl) rfl) rfl) rfl) rfl) h58 (Lens.all _ ([Value.int .i64 0] ++ ([Value.string (⟨#[]⟩ : ByteArray)] ++ ([Value.string (⟨#[]⟩ : ByteArray)] ++ ([Value.int .i64 0] ++ ([Value.int .i64 0] ++ (ints .u8 a6.toList ++ ([Value.slice none 0 0]))))))))), ⟨_, _, rfl, rfl, rfl⟩⟩, ⟨none, 0, rfl, F21, (Rd.nil _ _), (.inl (by simp [ablk, rblk]))⟩⟩
        · refine W.condF _ rfl c10 ?_
          refine W.skip ?_
          refine W.seq ?_
          refine W.region ?_
          refine WL.value (.agg ([Value.int .i64 x2] ++ ([Value.string s9] ++ ([Value.string s10] ++ ([Value.int .i64 x3] ++ ([Value.int .i64 x4] ++ (ints .u8 a5.toList ++ ([Value.slice A4 l5.length n5]))))))).toArray) rfl rfl rfl (ex_loadAgg Try.underlying32 rfl Try.sizeOf32 (len_app rfl (len_app rfl (len_app rfl (len_app rfl (len_app rfl (len_app (ivl _ _) rfl rfl) rfl) rfl) rfl) rfl) rfl) rfl h49 (Lens.all _ ([Value.int .i64 x2] ++ ([Value.string s9] ++ ([Value.string s10] ++ ([Value.int .i64 x3] ++ ([Value.int .i64 x4] ++ (ints .u8 a5.toList ++ ([Value.slice A4 l5.length n5]))))))))) rfl ?_
          refine WL.opS rfl rfl rfl (ex_storeObj rfl rfl Try.sizeOf32 h51 (Lens.all _ ([Value.int .i64 x2] ++ ([Value.string s9] ++ ([Value.string s10] ++ ([Value.int .i64 x3] ++ ([Value.int .i64 x4] ++ (ints .u8 a5.toList ++ ([Value.slice A4 l5.length n5])))))))) (len_app rfl (len_app rfl (len_app rfl (len_app rfl (len_app rfl (len_app (ivl _ _) rfl rfl) rfl) rfl) rfl) rfl) rfl) (len_app rfl (len_app rfl (len_app rfl (len_app rfl (len_app rfl (len_app (ivl _ _) rfl rfl) rfl) rfl) rfl) rfl) rfl) rfl (one_app (one_sing rfl) (one_app (one_sing rfl) (one_app (one_sing rfl) (one_app (one_sing rfl) (one_app (one_sing rfl) (one_app (ints_one _ _) (one_sing rfl)))))))) ?_
          rintro w13 ⟨F22, h67⟩
          have h68 := (h50).fr F22 ⟨(Ap.symm (Src.ap' s1 (hp0).lt trivial)), trivial⟩
          have h69 := (h52).fr F22 ⟨(Src.ap' s2 (Lt.one (at_lt h1)) ⟨(Ap.symm (Src.ap' s1 (hp0).lt trivial)), trivial⟩), trivial⟩
          have h70 := Fr.at F22 h53 (ApL.not (x := some b2) (S := [some b1]) ⟨(Src.ap' s3 (Lt.one (at_lt h9)) trivial), trivial⟩ _ rfl)
          have h71 := (h54).fr F22 ⟨(Src.ap' s4 (Lt.one (at_lt h20)) ⟨(Src.ap' s3 (Lt.one (at_lt h9)) trivial), trivial⟩), trivial⟩
          have h72 := (h55).fr F22 ⟨(Src.ap' s6 (Lt.one (at_lt h20)) ⟨(Ap.symm (Src.ap' s1 (hp0).lt trivial)), trivial⟩), trivial⟩
          have h73 := (h56).fr F22 ⟨(Src.ap' s8 (Lt.one (at_lt h20)) ⟨(Ap.symm (Src.ap' s1 (hp0).lt trivial)), trivial⟩), trivial⟩
          have h74 := (h57).fr F22 ⟨(Src.ap' s11 (Lt.one (at_lt h20)) ⟨(Src.ap' s8 (Lt.one (at_lt h20)) ⟨(Ap.symm (Src.ap' s1 (hp0).lt trivial)), trivial⟩), trivial⟩), trivial⟩
          have h75 := Fr.at F22 h49 (ApL.not (x := some b3) (S := [some b1]) ⟨(Src.ap' s12 (Lt.one (at_lt h34)) trivial), trivial⟩ _ rfl)
          have F23 := Fr.step F19 F22 ⟨(In0.src s1 (Nat.le_refl _) trivial), trivial⟩
          refine ⟨_, rfl, ?_⟩
          refine WL.batch 1 [2, 3] (E' := [(2, .pointer (some ⟨b1, 0, none⟩)), (3, .int .i64 0)]) (by kernel_rfl) ?_
          refine WL.nil ?_
          refine W.ret ?_
          obtain ⟨q0a, q0b⟩ := Prod.mk.inj (Option.some.inj hm)
          obtain ⟨q1a, q1b⟩ := Prod.mk.inj (q0b)
          obtain ⟨q2a, q2b⟩ := Prod.mk.inj (q1b)
          obtain ⟨q3a, q3b⟩ := Prod.mk.inj (q2b)
          obtain ⟨q4a, q4b⟩ := Prod.mk.inj (q3b)
          obtain ⟨q5a, q5b⟩ := Prod.mk.inj (q4b)
          obtain ⟨q6a, q6b⟩ := Prod.mk.inj (q5b)
          subst q0a
          subst q1a
          subst q2a
          subst q3a
          subst q4a
          subst q5a
          subst q6a
          subst q6b
          exact ⟨_, ⟨_, _, _, rfl, rfl, (loadVar_aggN Try.underlying32 rfl Try.sizeOf32 (len_app rfl (len_app rfl (len_app rfl (len_app rfl (len_app rfl (len_app (ivl _ _) rfl rfl) rfl) rfl) rfl) rfl) rfl) h67 (Lens.all _ ([Value.int .i64 x2] ++ ([Value.string s9] ++ ([Value.string s10] ++ ([Value.int .i64 x3] ++ ([Value.int .i64 x4] ++ (ints .u8 a5.toList ++ ([Value.slice A4 l5.length n5]))))))))), ⟨_, _, rfl, rfl, rfl⟩⟩, ⟨A4, n5, rfl, F23, h74, (Src.trans' s11 F12.size ⟨(Src.trans' s8 F12.size ⟨(Src.self (by simp)), trivial⟩), trivial⟩)⟩⟩

/- cautery/cauteryref21.Same -/
theorem cauteryref21_Same_walk (p0_0 : Int) (p0_1 : ByteArray) (p0_2 : ByteArray) (p0_3 : Int) (p0_4 : Int) (p0_5 : Vector Int 32) (p0_6 : List Int) (p1_0 : Int) (p1_1 : ByteArray) (p1_2 : ByteArray) (p1_3 : Int) (p1_4 : Int) (p1_5 : Vector Int 32) (p1_6 : List Int) (Ap0_6 : Option Addr) (np0_6 : Nat) (Ap1_6 : Option Addr) (np1_6 : Nat) (w : World) (hp0_6 : Rd w 1 Ap0_6 p0_6.length np0_6 (ints .u8 p0_6)) (hp1_6 : Rd w 1 Ap1_6 p1_6.length np1_6 (ints .u8 p1_6)) (r0 : Bool) (hm : cauteryref21_Same.f p0_0 p0_1 p0_2 p0_3 p0_4 p0_5 p0_6 p1_0 p1_1 p1_2 p1_3 p1_4 p1_5 p1_6 = some r0) :
    Calls Try.prog 15 #[.agg ([Value.int .i64 p0_0] ++ ([Value.string p0_1] ++ ([Value.string p0_2] ++ ([Value.int .i64 p0_3] ++ ([Value.int .i64 p0_4] ++ (ints .u8 p0_5.toList ++ ([Value.slice Ap0_6 p0_6.length np0_6]))))))).toArray, .agg ([Value.int .i64 p1_0] ++ ([Value.string p1_1] ++ ([Value.string p1_2] ++ ([Value.int .i64 p1_3] ++ ([Value.int .i64 p1_4] ++ (ints .u8 p1_5.toList ++ ([Value.slice Ap1_6 p1_6.length np1_6]))))))).toArray] w fun e w' => e = .returned (.bool r0) ∧ Fr [] w w' := by
  have F0 := Fr.refl [] w
  unfold cauteryref21_Same.f at hm
  refine W.enter (args := [.agg ([Value.int .i64 p0_0] ++ ([Value.string p0_1] ++ ([Value.string p0_2] ++ ([Value.int .i64 p0_3] ++ ([Value.int .i64 p0_4] ++ (ints .u8 p0_5.toList ++ ([Value.slice Ap0_6 p0_6.length np0_6]))))))).toArray, .agg ([Value.int .i64 p1_0] ++ ([Value.string p1_1] ++ ([Value.string p1_2] ++ ([Value.int .i64 p1_3] ++ ([Value.int .i64 p1_4] ++ (ints .u8 p1_5.toList ++ ([Value.slice Ap1_6 p1_6.length np1_6]))))))).toArray]) Try.func15 rfl (n := 54) rfl rfl ?_
  refine W.seq ?_
  refine W.region ?_
  refine WL.op rfl rfl rfl (ex_box' (cs := [Value.int .i64 p0_0] ++ ([Value.string p0_1] ++ ([Value.string p0_2] ++ ([Value.int .i64 p0_3] ++ ([Value.int .i64 p0_4] ++ (ints .u8 p0_5.toList ++ ([Value.slice Ap0_6 p0_6.length np0_6]))))))) rfl rfl) ?_
  rintro _ w1 ⟨b1, rfl, N1⟩
  have h1 := N1.at_
  have s1 := Src.new [] (Ge.one N1.ge)
  have h2 := (hp0_6).fr N1.fr trivial
  have h3 := (hp1_6).fr N1.fr trivial
  have F1 := Fr.step F0 N1.fr trivial
  refine ⟨_, rfl, ?_⟩
  refine WL.op rfl rfl rfl (ex_box' (cs := [Value.int .i64 p1_0] ++ ([Value.string p1_1] ++ ([Value.string p1_2] ++ ([Value.int .i64 p1_3] ++ ([Value.int .i64 p1_4] ++ (ints .u8 p1_5.toList ++ ([Value.slice Ap1_6 p1_6.length np1_6]))))))) rfl rfl) ?_
  rintro _ w2 ⟨b2, rfl, N2⟩
  have h4 := N2.at_
  have s2 := Src.new [] (Ge.one N2.ge)
  have h5 := (h2).fr N2.fr trivial
  have h6 := (h3).fr N2.fr trivial
  have h7 := Fr.at N2.fr h1 (ApL.not (x := some b1) (S := []) trivial _ rfl)
  have F2 := Fr.step F1 N2.fr trivial
  refine ⟨_, rfl, ?_⟩
  refine WL.batch 1 [2, 3] (E' := [(2, .pointer (some ⟨b1, 0, none⟩)), (3, .pointer (some ⟨b2, 0, none⟩))]) (by kernel_rfl) ?_
  refine WL.nil ?_
  refine W.seq ?_
  refine W.region ?_
  refine WL.batch 1 [2, 3, 5] (E' := [(2, .pointer (some ⟨b1, 0, none⟩)), (3, .pointer (some ⟨b2, 0, none⟩)), (5, .pointer (some ⟨b1, 0, none⟩))]) (by kernel_rfl) ?_
  refine WL.value (.int .i64 p0_0) rfl rfl rfl (ex_loadOne Try.underlying3 rfl rfl h7 (Lens.head _ ([Value.int .i64 p0_0]) _)) rfl ?_
  refine WL.batch 1 [2, 3, 6, 7] (E' := [(2, .pointer (some ⟨b1, 0, none⟩)), (3, .pointer (some ⟨b2, 0, none⟩)), (6, .int .i64 p0_0), (7, .pointer (some ⟨b2, 0, none⟩))]) (by kernel_rfl) ?_
  refine WL.value (.int .i64 p1_0) rfl rfl rfl (ex_loadOne Try.underlying3 rfl rfl h4 (Lens.head _ ([Value.int .i64 p1_0]) _)) rfl ?_
  refine WL.batch 2 [2, 3, 10] (E' := [(2, .pointer (some ⟨b1, 0, none⟩)), (3, .pointer (some ⟨b2, 0, none⟩)), (10, .bool (p0_0 == (p1_0 : Int)))]) (by kernel_rfl) ?_
  rcases of_cond hm with ⟨c1, hm⟩ | ⟨c1, hm⟩
  · rw [c1]
    refine WL.batch 1 [2, 3, 10, 11] (E' := [(2, .pointer (some ⟨b1, 0, none⟩)), (3, .pointer (some ⟨b2, 0, none⟩)), (10, .bool true), (11, .pointer (some ⟨b1, 1, none⟩))]) (by kernel_rfl) ?_
    refine WL.value (.string p0_1) rfl rfl rfl (ex_loadOne Try.underlying9 rfl rfl h7 (Lens.skip rfl (Lens.head _ ([Value.string p0_1]) _) rfl)) rfl ?_
    refine WL.batch 1 [2, 3, 10, 12, 13] (E' := [(2, .pointer (some ⟨b1, 0, none⟩)), (3, .pointer (some ⟨b2, 0, none⟩)), (10, .bool true), (12, .string p0_1), (13, .pointer (some ⟨b2, 1, none⟩))]) (by kernel_rfl) ?_
    refine WL.value (.string p1_1) rfl rfl rfl (ex_loadOne Try.underlying9 rfl rfl h4 (Lens.skip rfl (Lens.head _ ([Value.string p1_1]) _) rfl)) rfl ?_
    refine WL.batch 3 [2, 3, 17] (E' := [(2, .pointer (some ⟨b1, 0, none⟩)), (3, .pointer (some ⟨b2, 0, none⟩)), (17, .bool (p0_1.toList == p1_1.toList))]) (by kernel_rfl) ?_
    rcases of_cond hm with ⟨c2, hm⟩ | ⟨c2, hm⟩
    · rw [c2]
      refine WL.batch 1 [2, 3, 17, 18] (E' := [(2, .pointer (some ⟨b1, 0, none⟩)), (3, .pointer (some ⟨b2, 0, none⟩)), (17, .bool true), (18, .pointer (some ⟨b1, 2, none⟩))]) (by kernel_rfl) ?_
      refine WL.value (.string p0_2) rfl rfl rfl (ex_loadOne Try.underlying9 rfl rfl h7 (Lens.skip rfl (Lens.skip rfl (Lens.head _ ([Value.string p0_2]) _) rfl) rfl)) rfl ?_
      refine WL.batch 1 [2, 3, 17, 19, 20] (E' := [(2, .pointer (some ⟨b1, 0, none⟩)), (3, .pointer (some ⟨b2, 0, none⟩)), (17, .bool true), (19, .string p0_2), (20, .pointer (some ⟨b2, 2, none⟩))]) (by kernel_rfl) ?_
      refine WL.value (.string p1_2) rfl rfl rfl (ex_loadOne Try.underlying9 rfl rfl h4 (Lens.skip rfl (Lens.skip rfl (Lens.head _ ([Value.string p1_2]) _) rfl) rfl)) rfl ?_
      refine WL.batch 3 [2, 3, 24] (E' := [(2, .pointer (some ⟨b1, 0, none⟩)), (3, .pointer (some ⟨b2, 0, none⟩)), (24, .bool (p0_2.toList == p1_2.toList))]) (by kernel_rfl) ?_
      rcases of_cond hm with ⟨c3, hm⟩ | ⟨c3, hm⟩
      · rw [c3]
        refine WL.batch 1 [2, 3, 24, 25] (E' := [(2, .pointer (some ⟨b1, 0, none⟩)), (3, .pointer (some ⟨b2, 0, none⟩)), (24, .bool true), (25, .pointer (some ⟨b1, 3, none⟩))]) (by kernel_rfl) ?_
        refine WL.value (.int .i64 p0_3) rfl rfl rfl (ex_loadOne Try.underlying3 rfl rfl h7 (Lens.skip rfl (Lens.skip rfl (Lens.skip rfl (Lens.head _ ([Value.int .i64 p0_3]) _) rfl) rfl) rfl)) rfl ?_
        refine WL.batch 1 [2, 3, 24, 26, 27] (E' := [(2, .pointer (some ⟨b1, 0, none⟩)), (3, .pointer (some ⟨b2, 0, none⟩)), (24, .bool true), (26, .int .i64 p0_3), (27, .pointer (some ⟨b2, 3, none⟩))]) (by kernel_rfl) ?_
        refine WL.value (.int .i64 p1_3) rfl rfl rfl (ex_loadOne Try.underlying3 rfl rfl h4 (Lens.skip rfl (Lens.skip rfl (Lens.skip rfl (Lens.head _ ([Value.int .i64 p1_3]) _) rfl) rfl) rfl)) rfl ?_
        refine WL.batch 3 [2, 3, 31] (E' := [(2, .pointer (some ⟨b1, 0, none⟩)), (3, .pointer (some ⟨b2, 0, none⟩)), (31, .bool (p0_3 == (p1_3 : Int)))]) (by kernel_rfl) ?_
        rcases of_cond hm with ⟨c4, hm⟩ | ⟨c4, hm⟩
        · rw [c4]
          refine WL.batch 1 [2, 3, 31, 32] (E' := [(2, .pointer (some ⟨b1, 0, none⟩)), (3, .pointer (some ⟨b2, 0, none⟩)), (31, .bool true), (32, .pointer (some ⟨b1, 4, none⟩))]) (by kernel_rfl) ?_
          refine WL.value (.int .i64 p0_4) rfl rfl rfl (ex_loadOne Try.underlying3 rfl rfl h7 (Lens.skip rfl (Lens.skip rfl (Lens.skip rfl (Lens.skip rfl (Lens.head _ ([Value.int .i64 p0_4]) _) rfl) rfl) rfl) rfl)) rfl ?_
          refine WL.batch 1 [2, 3, 31, 33, 34] (E' := [(2, .pointer (some ⟨b1, 0, none⟩)), (3, .pointer (some ⟨b2, 0, none⟩)), (31, .bool true), (33, .int .i64 p0_4), (34, .pointer (some ⟨b2, 4, none⟩))]) (by kernel_rfl) ?_
          refine WL.value (.int .i64 p1_4) rfl rfl rfl (ex_loadOne Try.underlying3 rfl rfl h4 (Lens.skip rfl (Lens.skip rfl (Lens.skip rfl (Lens.skip rfl (Lens.head _ ([Value.int .i64 p1_4]) _) rfl) rfl) rfl) rfl)) rfl ?_
          refine WL.batch 3 [2, 3, 38] (E' := [(2, .pointer (some ⟨b1, 0, none⟩)), (3, .pointer (some ⟨b2, 0, none⟩)), (38, .bool (p0_4 == (p1_4 : Int)))]) (by kernel_rfl) ?_
          rcases of_cond hm with ⟨c5, hm⟩ | ⟨c5, hm⟩
          · rw [c5]
            refine WL.batch 1 [2, 3, 38, 39] (E' := [(2, .pointer (some ⟨b1, 0, none⟩)), (3, .pointer (some ⟨b2, 0, none⟩)), (38, .bool true), (39, .pointer (some ⟨b1, 5, none⟩))]) (by kernel_rfl) ?_
            refine WL.value (.agg (ints .u8 p0_5.toList).toArray) rfl rfl rfl (ex_loadAgg Try.underlying22 rfl Try.sizeOf22 (ivl _ _) rfl h7 (Lens.skip rfl (Lens.skip rfl (Lens.skip rfl (Lens.skip rfl (Lens.skip rfl (Lens.head _ (ints .u8 p0_5.toList) _) rfl) rfl) rfl) rfl) rfl)) rfl ?_
            refine WL.batch 1 [2, 3, 38, 40, 41] (E' := [(2, .pointer (some ⟨b1, 0, none⟩)), (3, .pointer (some ⟨b2, 0, none⟩)), (38, .bool true), (40, .agg (ints .u8 p0_5.toList).toArray), (41, .pointer (some ⟨b2, 5, none⟩))]) (by kernel_rfl) ?_
            refine WL.value (.agg (ints .u8 p1_5.toList).toArray) rfl rfl rfl (ex_loadAgg Try.underlying22 rfl Try.sizeOf22 (ivl _ _) rfl h4 (Lens.skip rfl (Lens.skip rfl (Lens.skip rfl (Lens.skip rfl (Lens.skip rfl (Lens.head _ (ints .u8 p1_5.toList) _) rfl) rfl) rfl) rfl) rfl)) rfl ?_
            refine WL.value (.bool (p0_5.toList == p1_5.toList)) rfl rfl rfl (ex_eqArrI Try.underlying22 Try.underlying5 Try.sizeOf5 (by kernel_rfl) rfl rfl) rfl ?_
            refine WL.batch 2 [2, 3, 45] (E' := [(2, .pointer (some ⟨b1, 0, none⟩)), (3, .pointer (some ⟨b2, 0, none⟩)), (45, .bool (p0_5.toList == p1_5.toList))]) (by kernel_rfl) ?_
            rcases of_cond hm with ⟨c6, hm⟩ | ⟨c6, hm⟩
            · rw [c6]
              refine WL.batch 1 [3, 45, 46] (E' := [(3, .pointer (some ⟨b2, 0, none⟩)), (45, .bool true), (46, .pointer (some ⟨b1, 37, none⟩))]) (by kernel_rfl) ?_
              refine WL.value (.slice Ap0_6 p0_6.length np0_6) rfl rfl rfl (ex_loadOne Try.underlying23 rfl rfl h7 (Lens.skip rfl (Lens.skip rfl (Lens.skip rfl (Lens.skip rfl (Lens.skip rfl (Lens.skip (ivl _ _) (Lens.all _ ([Value.slice Ap0_6 p0_6.length np0_6])) rfl) rfl) rfl) rfl) rfl) rfl)) rfl ?_
              refine WL.value (.string (strOf p0_6)) rfl rfl rfl (ex_bytesStr Try.underlying23 Try.underlying9 Try.underlying5 rfl h5) rfl ?_
              obtain ⟨s3, q1, hm⟩ := of_let hm
              rw [q1]
              refine WL.batch 1 [45, 48, 49] (E' := [(45, .bool true), (48, .string s3), (49, .pointer (some ⟨b2, 37, none⟩))]) (by kernel_rfl) ?_
              refine WL.value (.slice Ap1_6 p1_6.length np1_6) rfl rfl rfl (ex_loadOne Try.underlying23 rfl rfl h4 (Lens.skip rfl (Lens.skip rfl (Lens.skip rfl (Lens.skip rfl (Lens.skip rfl (Lens.skip (ivl _ _) (Lens.all _ ([Value.slice Ap1_6 p1_6.length np1_6])) rfl) rfl) rfl) rfl) rfl) rfl)) rfl ?_
              refine WL.value (.string (strOf p1_6)) rfl rfl rfl (ex_bytesStr Try.underlying23 Try.underlying9 Try.underlying5 rfl h6) rfl ?_
              obtain ⟨s4, q2, hm⟩ := of_let hm
              rw [q2]
              refine WL.batch 3 [4] (E' := [(4, .bool (s3.toList == s4.toList))]) (by kernel_rfl) ?_
              refine WL.nil ?_
              refine W.ret ?_
              obtain rfl := Option.some.inj hm
              exact ⟨_, ⟨_, _, rfl, rfl, rfl⟩, ⟨rfl, F2⟩⟩
            · rw [c6]
              refine WL.batch 9 [4] (E' := [(4, .bool false)]) (by kernel_rfl) ?_
              refine WL.nil ?_
              refine W.ret ?_
              obtain rfl := Option.some.inj hm
              exact ⟨_, ⟨_, _, rfl, rfl, rfl⟩, ⟨rfl, F2⟩⟩
          · rw [c5]
            refine WL.batch 16 [4] (E' := [(4, .bool false)]) (by kernel_rfl) ?_
            refine WL.nil ?_
            refine W.ret ?_
            obtain rfl := Option.some.inj hm
            exact ⟨_, ⟨_, _, rfl, rfl, rfl⟩, ⟨rfl, F2⟩⟩
        · rw [c4]
          refine WL.batch 23 [4] (E' := [(4, .bool false)]) (by kernel_rfl) ?_
          refine WL.nil ?_
          refine W.ret ?_
          obtain rfl := Option.some.inj hm
          exact ⟨_, ⟨_, _, rfl, rfl, rfl⟩, ⟨rfl, F2⟩⟩
      · rw [c3]
        refine WL.batch 30 [4] (E' := [(4, .bool false)]) (by kernel_rfl) ?_
        refine WL.nil ?_
        refine W.ret ?_
        obtain rfl := Option.some.inj hm
        exact ⟨_, ⟨_, _, rfl, rfl, rfl⟩, ⟨rfl, F2⟩⟩
    · rw [c2]
      refine WL.batch 37 [4] (E' := [(4, .bool false)]) (by kernel_rfl) ?_
      refine WL.nil ?_
      refine W.ret ?_
      obtain rfl := Option.some.inj hm
      exact ⟨_, ⟨_, _, rfl, rfl, rfl⟩, ⟨rfl, F2⟩⟩
  · rw [c1]
    refine WL.batch 44 [4] (E' := [(4, .bool false)]) (by kernel_rfl) ?_
    refine WL.nil ?_
    refine W.ret ?_
    obtain rfl := Option.some.inj hm
    exact ⟨_, ⟨_, _, rfl, rfl, rfl⟩, ⟨rfl, F2⟩⟩
end Go.Proofs.Ythbcjjhlebhghaa.Walk
