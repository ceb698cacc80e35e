/- Each function's call comes to what its model answers; what is handed in stays as it was. -/
import Derived.Test.YthbcjjhlebhghaaM
import Derived.Test.YthbcjjhlebhghaaProg
import Derived.Test.YthbcjjhlebhghaaW0
namespace Go.Proofs.Ythbcjjhlebhghaa.Walk
open Go
/- cautery/bisect.parse -/
theorem bisect_parse_walk (k : Nat) (p0 : List Int) (Ap0 : Option Addr) (np0 : Nat) (w : World) (hp0 : Rd w 1 Ap0 p0.length np0 (ints .u8 p0)) (r0 : Int) (r1 : ByteArray) (r2 : ByteArray) (r3 : Int) (r4 : Int) (r5 : Vector Int 32) (r6 : List Int) (r7 : Bool) (hm : bisect_parse.f k p0 = some (r0, r1, r2, r3, r4, r5, r6, r7)) :
    Calls Try.prog 23 #[.slice Ap0 p0.length np0] w fun e w' => ∃ (A6 : Option Addr) (n6 : Nat), e = .returned (.tuple #[.agg ([Value.int .i64 r0] ++ ([Value.string r1] ++ ([Value.string r2] ++ ([Value.int .i64 r3] ++ ([Value.int .i64 r4] ++ (ints .u8 r5.toList ++ ([Value.slice A6 r6.length n6]))))))).toArray, .bool r7]) ∧ Fr [] w w' ∧ Own w' 5 1 A6 r6.length n6 (ints .u8 r6) ∧ Src (ablk A6) w.heap.size [] := by
  have F0 := Fr.refl [] w
  unfold bisect_parse.f at hm
  refine W.enter (args := [.slice Ap0 p0.length np0]) Try.func23 rfl (n := 85) rfl rfl ?_
  refine W.seq ?_
  refine W.region ?_
  refine WL.op rfl rfl rfl (ex_alloc' (z := .agg ([Value.int .i64 0] ++ ([Value.string (⟨#[]⟩ : ByteArray)] ++ ([Value.string (⟨#[]⟩ : ByteArray)] ++ ([Value.int .i64 0] ++ ([Value.int .i64 0] ++ (ints .u8 (Vector.replicate 32 (0 : Int)).toList ++ ([Value.slice none 0 0]))))))).toArray) (cs := [Value.int .i64 0] ++ ([Value.string (⟨#[]⟩ : ByteArray)] ++ ([Value.string (⟨#[]⟩ : ByteArray)] ++ ([Value.int .i64 0] ++ ([Value.int .i64 0] ++ (ints .u8 (Vector.replicate 32 (0 : Int)).toList ++ ([Value.slice none 0 0]))))))) (fun _ => by kernel_rfl) (by kernel_rfl)) ?_
  rintro _ w1 ⟨b1, rfl, N1⟩
  have h1 := N1.at_
  have s1 := Src.new [] (Ge.one N1.ge)
  have h2 := (hp0).fr N1.fr trivial
  have F1 := Fr.step F0 N1.fr trivial
  refine ⟨_, rfl, ?_⟩
  refine WL.batch 1 [0, 2] (E' := [(0, .slice Ap0 p0.length np0), (2, .pointer (some ⟨b1, 0, none⟩))]) (by kernel_rfl) ?_
  refine WL.nil ?_
  refine W.seq ?_
  refine W.seq ?_
  refine W.region ?_
  refine WL.batch 3 [0, 2, 12] (E' := [(0, .slice Ap0 p0.length np0), (2, .pointer (some ⟨b1, 0, none⟩)), (12, .bool ((p0.length : Int) == (0 : Int)))]) (by kernel_rfl) ?_
  refine WL.nil ?_
  rcases of_cond hm with ⟨c1, hm⟩ | ⟨c1, hm⟩
  · refine W.condT _ rfl c1 ?_
    refine W.seq ?_
    refine W.region ?_
    refine WL.value (.agg ([Value.int .i64 0] ++ ([Value.string (⟨#[]⟩ : ByteArray)] ++ ([Value.string (⟨#[]⟩ : ByteArray)] ++ ([Value.int .i64 0] ++ ([Value.int .i64 0] ++ (ints .u8 (Vector.replicate 32 (0 : Int)).toList ++ ([Value.slice none 0 0]))))))).toArray) rfl rfl rfl (ex_build (z := .agg ([Value.int .i64 0] ++ ([Value.string (⟨#[]⟩ : ByteArray)] ++ ([Value.string (⟨#[]⟩ : ByteArray)] ++ ([Value.int .i64 0] ++ ([Value.int .i64 0] ++ (ints .u8 (Vector.replicate 32 (0 : Int)).toList ++ ([Value.slice none 0 0]))))))).toArray) (cs := [Value.int .i64 0] ++ ([Value.string (⟨#[]⟩ : ByteArray)] ++ ([Value.string (⟨#[]⟩ : ByteArray)] ++ ([Value.int .i64 0] ++ ([Value.int .i64 0] ++ (ints .u8 (Vector.replicate 32 (0 : Int)).toList ++ ([Value.slice none 0 0]))))))) (vs := []) (pl := #[(0, 1), (1, 1), (2, 1), (3, 1), (4, 1), (5, 32), (37, 1)]) Try.underlying25 rfl (fun _ => by kernel_rfl) rfl (fun _ => by kernel_rfl) (Fill.nil _)) rfl ?_
    refine WL.opS rfl rfl rfl (ex_storeObj rfl rfl Try.sizeOf25 h1 (Lens.all _ ([Value.int .i64 0] ++ ([Value.string (⟨#[]⟩ : ByteArray)] ++ ([Value.string (⟨#[]⟩ : ByteArray)] ++ ([Value.int .i64 0] ++ ([Value.int .i64 0] ++ (ints .u8 (Vector.replicate 32 (0 : Int)).toList ++ ([Value.slice none 0 0])))))))) (len_app rfl (len_app rfl (len_app rfl (len_app rfl (len_app rfl (len_app (ivl _ _) rfl rfl) rfl) rfl) rfl) rfl) rfl) (len_app rfl (len_app rfl (len_app rfl (len_app rfl (len_app rfl (len_app (ivl _ _) rfl rfl) rfl) rfl) rfl) rfl) rfl) rfl (one_app (one_sing rfl) (one_app (one_sing rfl) (one_app (one_sing rfl) (one_app (one_sing rfl) (one_app (one_sing rfl) (one_app (ints_one _ _) (one_sing rfl)))))))) ?_
    rintro w2 ⟨F2, h3⟩
    have h4 := (h2).fr F2 ⟨(Ap.symm (Src.ap' s1 (hp0).lt trivial)), trivial⟩
    have F3 := Fr.step F1 F2 ⟨(In0.src s1 (Nat.le_refl _) trivial), trivial⟩
    refine ⟨_, rfl, ?_⟩
    obtain ⟨a1, q1, hm⟩ := of_let hm
    rw [q1] at h3
    refine WL.batch 1 [2, 3] (E' := [(2, .pointer (some ⟨b1, 0, none⟩)), (3, .bool false)]) (by kernel_rfl) ?_
    refine WL.nil ?_
    refine W.ret ?_
    obtain ⟨q0a, q0b⟩ := Prod.mk.inj (Option.some.inj hm)
    obtain ⟨q1a, q1b⟩ := Prod.mk.inj (q0b)
    obtain ⟨q2a, q2b⟩ := Prod.mk.inj (q1b)
    obtain ⟨q3a, q3b⟩ := Prod.mk.inj (q2b)
    obtain ⟨q4a, q4b⟩ := Prod.mk.inj (q3b)
    obtain ⟨q5a, q5b⟩ := Prod.mk.inj (q4b)
    obtain ⟨q6a, q6b⟩ := Prod.mk.inj (q5b)
    subst q0a
    subst q1a
    subst q2a
    subst q3a
    subst q4a
    subst q5a
    subst q6a
    subst q6b
    exact ⟨_, ⟨_, _, _, rfl, rfl, (loadVar_aggN Try.underlying25 rfl Try.sizeOf25 (len_app rfl (len_app rfl (len_app rfl (len_app rfl (len_app rfl (len_app (ivl _ _) rfl rfl) rfl) rfl) rfl) rfl) rfl) h3 (Lens.all _ ([Value.int .i64 0] ++ ([Value.string (⟨#[]⟩ : ByteArray)] ++ ([Value.string (⟨#[]⟩ : ByteArray)] ++ ([Value.int .i64 0] ++ ([Value.int .i64 0] ++ (ints .u8 a1.toList ++ ([Value.slice none 0 0]))))))))), ⟨_, _, rfl, rfl, rfl⟩⟩, ⟨none, 0, rfl, F3, (Own.nil _ _ _), (.inl (by simp [ablk, rblk]))⟩⟩
  · refine W.condF _ rfl c1 ?_
    refine W.skip ?_
    refine W.seq ?_
    refine W.region ?_
    refine WL.batch 1 [0, 2, 14] (E' := [(0, .slice Ap0 p0.length np0), (2, .pointer (some ⟨b1, 0, none⟩)), (14, .slice Ap0 p0.length np0)]) (by kernel_rfl) ?_
    obtain ⟨⟨c2, c3⟩, hm⟩ := of_guard hm
    obtain ⟨b2, o1, q2⟩ := Rd.place h2 (by omega)
    refine WL.value (.pointer (some ⟨b2, o1 + Int.toNat 0 * 1, none⟩)) rfl rfl rfl (ex_indexAddr Try.underlying23 Try.sizeOf5 rfl q2 rfl c2 c3) rfl ?_
    refine WL.value (.int .u8 (lget p0 0)) rfl rfl rfl (ex_loadElI Try.underlying5 rfl h2 q2 c2 c3) rfl ?_
    refine WL.batch 1 [0, 2, 17] (E' := [(0, .slice Ap0 p0.length np0), (2, .pointer (some ⟨b1, 0, none⟩)), (17, .int .i64 (IntKind.wrap .i64 (lget p0 0)))]) (by kernel_rfl) ?_
    obtain ⟨x1, q3, hm⟩ := of_let hm
    rw [q3]
    refine WL.value (.agg ([Value.int .i64 x1] ++ ([Value.string (⟨#[]⟩ : ByteArray)] ++ ([Value.string (⟨#[]⟩ : ByteArray)] ++ ([Value.int .i64 0] ++ ([Value.int .i64 0] ++ (ints .u8 (Vector.replicate 32 (0 : Int)).toList ++ ([Value.slice none 0 0]))))))).toArray) rfl rfl rfl (ex_build (z := .agg ([Value.int .i64 0] ++ ([Value.string (⟨#[]⟩ : ByteArray)] ++ ([Value.string (⟨#[]⟩ : ByteArray)] ++ ([Value.int .i64 0] ++ ([Value.int .i64 0] ++ (ints .u8 (Vector.replicate 32 (0 : Int)).toList ++ ([Value.slice none 0 0]))))))).toArray) (cs := [Value.int .i64 0] ++ ([Value.string (⟨#[]⟩ : ByteArray)] ++ ([Value.string (⟨#[]⟩ : ByteArray)] ++ ([Value.int .i64 0] ++ ([Value.int .i64 0] ++ (ints .u8 (Vector.replicate 32 (0 : Int)).toList ++ ([Value.slice none 0 0]))))))) (vs := [(0, .int .i64 x1)]) (pl := #[(0, 1), (1, 1), (2, 1), (3, 1), (4, 1), (5, 32), (37, 1)]) Try.underlying25 rfl (fun _ => by kernel_rfl) rfl (fun _ => by kernel_rfl) (Fill.cons rfl rfl (Lens.head _ ([Value.int .i64 x1]) _) rfl rfl (Fill.nil _))) rfl ?_
    refine WL.op rfl rfl rfl (ex_alloc' (z := .agg ([Value.int .i64 0] ++ ([Value.string (⟨#[]⟩ : ByteArray)] ++ ([Value.string (⟨#[]⟩ : ByteArray)] ++ ([Value.int .i64 0] ++ ([Value.int .i64 0] ++ (ints .u8 (Vector.replicate 32 (0 : Int)).toList ++ ([Value.slice none 0 0]))))))).toArray) (cs := [Value.int .i64 0] ++ ([Value.string (⟨#[]⟩ : ByteArray)] ++ ([Value.string (⟨#[]⟩ : ByteArray)] ++ ([Value.int .i64 0] ++ ([Value.int .i64 0] ++ (ints .u8 (Vector.replicate 32 (0 : Int)).toList ++ ([Value.slice none 0 0]))))))) (fun _ => by kernel_rfl) (by kernel_rfl)) ?_
    rintro _ w3 ⟨b3, rfl, N2⟩
    have h5 := N2.at_
    have s2 := Src.new [] (Ge.one N2.ge)
    have h6 := (h2).fr N2.fr trivial
    have h7 := Fr.at N2.fr h1 (ApL.not (x := some b1) (S := []) trivial _ rfl)
    have F4 := Fr.step F1 N2.fr trivial
    refine ⟨_, rfl, ?_⟩
    refine WL.opS rfl rfl rfl (ex_storeObj rfl rfl Try.sizeOf25 h5 (Lens.all _ ([Value.int .i64 x1] ++ ([Value.string (⟨#[]⟩ : ByteArray)] ++ ([Value.string (⟨#[]⟩ : ByteArray)] ++ ([Value.int .i64 0] ++ ([Value.int .i64 0] ++ (ints .u8 (Vector.replicate 32 (0 : Int)).toList ++ ([Value.slice none 0 0])))))))) (len_app rfl (len_app rfl (len_app rfl (len_app rfl (len_app rfl (len_app (ivl _ _) rfl rfl) rfl) rfl) rfl) rfl) rfl) (len_app rfl (len_app rfl (len_app rfl (len_app rfl (len_app rfl (len_app (ivl _ _) rfl rfl) rfl) rfl) rfl) rfl) rfl) rfl (one_app (one_sing rfl) (one_app (one_sing rfl) (one_app (one_sing rfl) (one_app (one_sing rfl) (one_app (one_sing rfl) (one_app (ints_one _ _) (one_sing rfl)))))))) ?_
    rintro w4 ⟨F5, h8⟩
    have h9 := (h6).fr F5 ⟨(Ap.symm (Src.ap' s2 (h2).lt trivial)), trivial⟩
    have h10 := Fr.at F5 h7 (ApL.not (x := some b1) (S := [some b3]) ⟨(Ap.symm (Src.ap' s2 (Lt.one (at_lt h1)) trivial)), trivial⟩ _ rfl)
    have F6 := Fr.step F4 F5 ⟨(In0.src s2 F1.size trivial), trivial⟩
    refine ⟨_, rfl, ?_⟩
    obtain ⟨a2, q4, hm⟩ := of_let hm
    rw [q4] at h8
    refine WL.nil ?_
    refine W.seq ?_
    refine W.region ?_
    refine WL.batch 1 [2, 4, 20] (E' := [(2, .pointer (some ⟨b1, 0, none⟩)), (4, .pointer (some ⟨b3, 0, none⟩)), (20, .slice Ap0 p0.length np0)]) (by kernel_rfl) ?_
    obtain ⟨⟨c4, c5, c6⟩, hm⟩ := of_guard hm
    obtain ⟨l1, q5, hm⟩ := of_let hm
    refine WL.opU rfl rfl rfl (ex_sliceU (k1 := .i64) (k2 := .i64) (k := .u8) Try.underlying23 Try.sizeOf5 rfl (.inl rfl) (.inr ⟨rfl, rfl⟩) ⟨c4, c5, c6⟩ h9 q5) ?_
    rintro _ ⟨A1, n1, rfl, h11, s3⟩
    refine ⟨_, rfl, ?_⟩
    obtain ⟨⟨l2, l3, x2⟩, q6, hm⟩ := of_bind hm
    refine WL.call rfl rfl rfl (ex_callI (args := [.slice A1 l1.length n1, .int .i64 12]) rfl rfl rfl Try.call33) (num_TakeString_walk k l1 12 A1 n1 _ h11  l2 l3 x2 q6) ?_
    rintro _ w5 ⟨A2, n2, A3, n3, rfl, F7, h12, s4, h13, s5, ap1⟩
    have h14 := (h9).fr F7 trivial
    have h15 := Fr.at F7 h10 (ApL.not (x := some b1) (S := []) trivial _ rfl)
    have h16 := Fr.at F7 h8 (ApL.not (x := some b3) (S := []) trivial _ rfl)
    have h17 := (h11).fr F7 trivial
    have F8 := Fr.step F6 F7 trivial
    refine ⟨_, _, rfl, rfl, ?_⟩
    refine WL.batch 7 [2, 4, 5, 6, 7] (E' := [(2, .pointer (some ⟨b1, 0, none⟩)), (4, .pointer (some ⟨b3, 0, none⟩)), (5, .slice A2 l2.length n2), (6, .slice A3 l3.length n3), (7, .int .i64 x2)]) (by kernel_rfl) ?_
    refine WL.nil ?_
    refine W.seq ?_
    refine W.seq ?_
    refine W.region ?_
    refine WL.batch 2 [2, 4, 5, 6, 27] (E' := [(2, .pointer (some ⟨b1, 0, none⟩)), (4, .pointer (some ⟨b3, 0, none⟩)), (5, .slice A2 l2.length n2), (6, .slice A3 l3.length n3), (27, .bool (x2 != (0 : Int)))]) (by kernel_rfl) ?_
    refine WL.nil ?_
    rcases of_cond hm with ⟨c7, hm⟩ | ⟨c7, hm⟩
    · refine W.condT _ rfl c7 ?_
      refine W.seq ?_
      refine W.region ?_
      refine WL.value (.agg ([Value.int .i64 0] ++ ([Value.string (⟨#[]⟩ : ByteArray)] ++ ([Value.string (⟨#[]⟩ : ByteArray)] ++ ([Value.int .i64 0] ++ ([Value.int .i64 0] ++ (ints .u8 (Vector.replicate 32 (0 : Int)).toList ++ ([Value.slice none 0 0]))))))).toArray) rfl rfl rfl (ex_build (z := .agg ([Value.int .i64 0] ++ ([Value.string (⟨#[]⟩ : ByteArray)] ++ ([Value.string (⟨#[]⟩ : ByteArray)] ++ ([Value.int .i64 0] ++ ([Value.int .i64 0] ++ (ints .u8 (Vector.replicate 32 (0 : Int)).toList ++ ([Value.slice none 0 0]))))))).toArray) (cs := [Value.int .i64 0] ++ ([Value.string (⟨#[]⟩ : ByteArray)] ++ ([Value.string (⟨#[]⟩ : ByteArray)] ++ ([Value.int .i64 0] ++ ([Value.int .i64 0] ++ (ints .u8 (Vector.replicate 32 (0 : Int)).toList ++ ([Value.slice none 0 0]))))))) (vs := []) (pl := #[(0, 1), (1, 1), (2, 1), (3, 1), (4, 1), (5, 32), (37, 1)]) Try.underlying25 rfl (fun _ => by kernel_rfl) rfl (fun _ => by kernel_rfl) (Fill.nil _)) rfl ?_
      refine WL.opS rfl rfl rfl (ex_storeObj rfl rfl Try.sizeOf25 h15 (Lens.all _ ([Value.int .i64 0] ++ ([Value.string (⟨#[]⟩ : ByteArray)] ++ ([Value.string (⟨#[]⟩ : ByteArray)] ++ ([Value.int .i64 0] ++ ([Value.int .i64 0] ++ (ints .u8 (Vector.replicate 32 (0 : Int)).toList ++ ([Value.slice none 0 0])))))))) (len_app rfl (len_app rfl (len_app rfl (len_app rfl (len_app rfl (len_app (ivl _ _) rfl rfl) rfl) rfl) rfl) rfl) rfl) (len_app rfl (len_app rfl (len_app rfl (len_app rfl (len_app rfl (len_app (ivl _ _) rfl rfl) rfl) rfl) rfl) rfl) rfl) rfl (one_app (one_sing rfl) (one_app (one_sing rfl) (one_app (one_sing rfl) (one_app (one_sing rfl) (one_app (one_sing rfl) (one_app (ints_one _ _) (one_sing rfl)))))))) ?_
      rintro w6 ⟨F9, h18⟩
      have h19 := (h14).fr F9 ⟨(Ap.symm (Src.ap' s1 (hp0).lt trivial)), trivial⟩
      have h20 := Fr.at F9 h16 (ApL.not (x := some b3) (S := [some b1]) ⟨(Src.ap' s2 (Lt.one (at_lt h1)) trivial), trivial⟩ _ rfl)
      have h21 := (h17).fr F9 ⟨(Src.ap' s3 (Lt.one (at_lt h10)) ⟨(Ap.symm (Src.ap' s1 (hp0).lt trivial)), trivial⟩), trivial⟩
      have h22 := (h12).fr F9 ⟨(Src.ap' s4 (Lt.one (at_lt h10)) trivial), trivial⟩
      have h23 := (h13).fr F9 ⟨(Src.ap' s5 (Lt.one (at_lt h10)) trivial), trivial⟩
      have F10 := Fr.step F8 F9 ⟨(In0.src s1 (Nat.le_refl _) trivial), trivial⟩
      refine ⟨_, rfl, ?_⟩
      obtain ⟨a3, q7, hm⟩ := of_let hm
      rw [q7] at h18
      refine WL.batch 1 [2, 3] (E' := [(2, .pointer (some ⟨b1, 0, none⟩)), (3, .bool false)]) (by kernel_rfl) ?_
      refine WL.nil ?_
      refine W.ret ?_
      obtain ⟨q0a, q0b⟩ := Prod.mk.inj (Option.some.inj hm)
      obtain ⟨q1a, q1b⟩ := Prod.mk.inj (q0b)
      obtain ⟨q2a, q2b⟩ := Prod.mk.inj (q1b)
      obtain ⟨q3a, q3b⟩ := Prod.mk.inj (q2b)
      obtain ⟨q4a, q4b⟩ := Prod.mk.inj (q3b)
      obtain ⟨q5a, q5b⟩ := Prod.mk.inj (q4b)
      obtain ⟨q6a, q6b⟩ := Prod.mk.inj (q5b)
      subst q0a
      subst q1a
      subst q2a
      subst q3a
      subst q4a
      subst q5a
      subst q6a
      subst q6b
      exact ⟨_, ⟨_, _, _, rfl, rfl, (loadVar_aggN Try.underlying25 rfl Try.sizeOf25 (len_app rfl (len_app rfl (len_app rfl (len_app rfl (len_app rfl (len_app (ivl _ _) rfl rfl) rfl) rfl) rfl) rfl) rfl) h18 (Lens.all _ ([Value.int .i64 0] ++ ([Value.string (⟨#[]⟩ : ByteArray)] ++ ([Value.string (⟨#[]⟩ : ByteArray)] ++ ([Value.int .i64 0] ++ ([Value.int .i64 0] ++ (ints .u8 a3.toList ++ ([Value.slice none 0 0]))))))))), ⟨_, _, rfl, rfl, rfl⟩⟩, ⟨none, 0, rfl, F10, (Own.nil _ _ _), (.inl (by simp [ablk, rblk]))⟩⟩
    · refine W.condF _ rfl c7 ?_
      refine W.skip ?_
      refine W.seq ?_
      refine W.region ?_
      refine WL.batch 1 [2, 4, 5, 30] (E' := [(2, .pointer (some ⟨b1, 0, none⟩)), (4, .pointer (some ⟨b3, 0, none⟩)), (5, .slice A2 l2.length n2), (30, .slice A3 l3.length n3)]) (by kernel_rfl) ?_
      obtain ⟨⟨l4, l5, x3⟩, q8, hm⟩ := of_bind hm
      refine WL.call rfl rfl rfl (ex_callI (args := [.slice A3 l3.length n3, .int .i64 12]) rfl rfl rfl Try.call33) (num_TakeString_walk k l3 12 A3 n3 _ (h13).rd  l4 l5 x3 q8) ?_
      rintro _ w7 ⟨A4, n4, A5, n5, rfl, F11, h24, s6, h25, s7, ap2⟩
      have h26 := (h14).fr F11 trivial
      have h27 := Fr.at F11 h15 (ApL.not (x := some b1) (S := []) trivial _ rfl)
      have h28 := Fr.at F11 h16 (ApL.not (x := some b3) (S := []) trivial _ rfl)
      have h29 := (h17).fr F11 trivial
      have h30 := (h12).fr F11 trivial
      have h31 := (h13).fr F11 trivial
      have F12 := Fr.step F8 F11 trivial
      refine ⟨_, _, rfl, rfl, ?_⟩
      refine WL.batch 7 [2, 4, 5, 6, 7, 8] (E' := [(2, .pointer (some ⟨b1, 0, none⟩)), (4, .pointer (some ⟨b3, 0, none⟩)), (5, .slice A2 l2.length n2), (6, .slice A5 l5.length n5), (7, .int .i64 x3), (8, .slice A4 l4.length n4)]) (by kernel_rfl) ?_
      refine WL.nil ?_
      refine W.seq ?_
      obtain ⟨ex1, hm1, hm2⟩ := of_bind hm
      refine W.joinN (fun E w8 => Env.sub E [(2, .pointer (some ⟨b1, 0, none⟩)), (4, .pointer (some ⟨b3, 0, none⟩)), (5, .slice A2 l2.length n2), (6, .slice A5 l5.length n5), (8, .slice A4 l4.length n4)] ∧ Rd w8 1 Ap0 p0.length np0 (ints .u8 p0) ∧ w8.heap[b1]? = some (.cells ([Value.int .i64 0] ++ ([Value.string (⟨#[]⟩ : ByteArray)] ++ ([Value.string (⟨#[]⟩ : ByteArray)] ++ ([Value.int .i64 0] ++ ([Value.int .i64 0] ++ (ints .u8 (Vector.replicate 32 (0 : Int)).toList ++ ([Value.slice none 0 0]))))))).toArray 25 (0, 0)) ∧ w8.heap[b3]? = some (.cells ([Value.int .i64 x1] ++ ([Value.string (⟨#[]⟩ : ByteArray)] ++ ([Value.string (⟨#[]⟩ : ByteArray)] ++ ([Value.int .i64 0] ++ ([Value.int .i64 0] ++ (ints .u8 a2.toList ++ ([Value.slice none 0 0]))))))).toArray 25 (0, 0)) ∧ Rd w8 1 A1 l1.length n1 (ints .u8 l1) ∧ Own w8 5 1 A2 l2.length n2 (ints .u8 l2) ∧ Own w8 5 1 A3 l3.length n3 (ints .u8 l3) ∧ Own w8 5 1 A4 l4.length n4 (ints .u8 l4) ∧ Own w8 5 1 A5 l5.length n5 (ints .u8 l5) ∧ Fr [] w w8 ∧ Ex.go () = ex1) ?_ (fun rest1 => ?_)
      · rintro _ w8 ⟨hE, h32, h33, h34, h35, h36, h37, h38, h39, F13, rfl⟩
        replace hm := hm2
        clear hm1
        refine W.sub ?_ hE
        refine W.seq ?_
        refine W.regionDw (N := 8) Try_mixed rfl ?_
        intro w9 F14
        have h40 := (h32).fr F14 trivial
        have h41 := Fr.at F14 h33 (ApL.not (x := some b1) (S := []) trivial _ rfl)
        have h42 := Fr.at F14 h34 (ApL.not (x := some b3) (S := []) trivial _ rfl)
        have h43 := (h35).fr F14 trivial
        have h44 := (h36).fr F14 trivial
        have h45 := (h37).fr F14 trivial
        have h46 := (h38).fr F14 trivial
        have h47 := (h39).fr F14 trivial
        have F15 := Fr.step F13 F14 trivial
        refine WD.batch (f' := 6) [0, 2] #[true, false, true, false, false, false, false, false] [2, 4, 6, 43, 45] rfl (E' := [(2, .pointer (some ⟨b1, 0, none⟩)), (4, .pointer (some ⟨b3, 0, none⟩)), (6, .slice A5 l5.length n5), (43, .slice A2 l2.length n2), (45, .slice A4 l4.length n4)]) (by kernel_rfl) ?_
        obtain ⟨s8, q9, hm⟩ := of_let hm
        refine WD.load 1 [5, 7] [4, 5, 6, 7] (.string s8) rfl (by kernel_rfl) rfl rfl rfl (by rw [← q9]; exact (ex_bytesStr Try.underlying23 Try.underlying9 Try.underlying5 rfl (h44).rd)) ?_
        refine WD.batch (f' := 4) [4] #[true, true, true, false, true, false, false, false] [2, 4, 6, 44, 45, 47] rfl (E' := [(2, .pointer (some ⟨b1, 0, none⟩)), (4, .pointer (some ⟨b3, 0, none⟩)), (6, .slice A5 l5.length n5), (44, .string s8), (45, .slice A4 l4.length n4), (47, .pointer (some ⟨b3, 1, none⟩))]) (by kernel_rfl) ?_
        obtain ⟨s9, q10, hm⟩ := of_let hm
        refine WD.load 3 [7] [6, 7] (.string s9) rfl (by kernel_rfl) rfl rfl rfl (by rw [← q10]; exact (ex_bytesStr Try.underlying23 Try.underlying9 Try.underlying5 rfl (h46).rd)) ?_
        refine WD.opS 5 (by kernel_rfl) rfl rfl rfl rfl (ex_storeObj rfl rfl Try.sizeOf9 h42 (Lens.skip rfl (Lens.head _ ([Value.string s8]) _) rfl) rfl rfl rfl (one_sing rfl)) ?_
        rintro w10 ⟨F16, h48⟩
        have h49 := (h40).fr F16 ⟨(Ap.symm (Src.ap' s2 (h2).lt trivial)), trivial⟩
        have h50 := Fr.at F16 h41 (ApL.not (x := some b1) (S := [some b3]) ⟨(Ap.symm (Src.ap' s2 (Lt.one (at_lt h1)) trivial)), trivial⟩ _ rfl)
        have h51 := (h43).fr F16 ⟨(Src.ap' s3 (Lt.one (at_lt h8)) ⟨(Ap.symm (Src.ap' s2 (h2).lt trivial)), trivial⟩), trivial⟩
        have h52 := (h44).fr F16 ⟨(Src.ap' s4 (Lt.one (at_lt h8)) trivial), trivial⟩
        have h53 := (h45).fr F16 ⟨(Src.ap' s5 (Lt.one (at_lt h8)) trivial), trivial⟩
        have h54 := (h46).fr F16 ⟨(Src.ap' s6 (Lt.one (at_lt h16)) trivial), trivial⟩
        have h55 := (h47).fr F16 ⟨(Src.ap' s7 (Lt.one (at_lt h16)) trivial), trivial⟩
        have F17 := Fr.step F15 F16 ⟨(In0.src s2 F1.size trivial), trivial⟩
        refine ⟨_, rfl, ⟨(by rw [← q10]; exact (ex_bytesStr Try.underlying23 Try.underlying9 Try.underlying5 rfl (h54).rd)), trivial⟩, ?_⟩
        refine WD.batch (f' := 1) [6] #[true, true, true, true, true, true, true, false] [2, 4, 6, 46, 48] rfl (E' := [(2, .pointer (some ⟨b1, 0, none⟩)), (4, .pointer (some ⟨b3, 0, none⟩)), (6, .slice A5 l5.length n5), (46, .string s9), (48, .pointer (some ⟨b3, 2, none⟩))]) (by kernel_rfl) ?_
        refine WD.opS 7 (by kernel_rfl) rfl rfl rfl rfl (ex_storeObj rfl rfl Try.sizeOf9 h48 (Lens.skip rfl (Lens.skip rfl (Lens.head _ ([Value.string s9]) _) rfl) rfl) rfl rfl rfl (one_sing rfl)) ?_
        rintro w11 ⟨F18, h56⟩
        have h57 := (h49).fr F18 ⟨(Ap.symm (Src.ap' s2 (h2).lt trivial)), trivial⟩
        have h58 := Fr.at F18 h50 (ApL.not (x := some b1) (S := [some b3]) ⟨(Ap.symm (Src.ap' s2 (Lt.one (at_lt h1)) trivial)), trivial⟩ _ rfl)
        have h59 := (h51).fr F18 ⟨(Src.ap' s3 (Lt.one (at_lt h8)) ⟨(Ap.symm (Src.ap' s2 (h2).lt trivial)), trivial⟩), trivial⟩
        have h60 := (h52).fr F18 ⟨(Src.ap' s4 (Lt.one (at_lt h8)) trivial), trivial⟩
        have h61 := (h53).fr F18 ⟨(Src.ap' s5 (Lt.one (at_lt h8)) trivial), trivial⟩
        have h62 := (h54).fr F18 ⟨(Src.ap' s6 (Lt.one (at_lt h16)) trivial), trivial⟩
        have h63 := (h55).fr F18 ⟨(Src.ap' s7 (Lt.one (at_lt h16)) trivial), trivial⟩
        have F19 := Fr.step F17 F18 ⟨(In0.src s2 F1.size trivial), trivial⟩
        refine ⟨_, rfl, trivial, ?_⟩
        refine WD.end_ (by kernel_rfl) ?_
        refine W.seq ?_
        refine W.regionDw (N := 12) Try_mixed rfl ?_
        intro w12 F20
        have h64 := (h57).fr F20 trivial
        have h65 := Fr.at F20 h58 (ApL.not (x := some b1) (S := []) trivial _ rfl)
        have h66 := Fr.at F20 h56 (ApL.not (x := some b3) (S := []) trivial _ rfl)
        have h67 := (h59).fr F20 trivial
        have h68 := (h60).fr F20 trivial
        have h69 := (h61).fr F20 trivial
        have h70 := (h62).fr F20 trivial
        have h71 := (h63).fr F20 trivial
        have F21 := Fr.step F19 F20 trivial
        refine WD.batch (f' := 10) [0, 4] #[true, false, false, false, true, false, false, false, false, false, false, false] [2, 4, 6, 49, 53] rfl (E' := [(2, .pointer (some ⟨b1, 0, none⟩)), (4, .pointer (some ⟨b3, 0, none⟩)), (6, .slice A5 l5.length n5), (49, .slice A5 l5.length n5), (53, .slice A5 l5.length n5)]) (by kernel_rfl) ?_
        obtain ⟨⟨c8, c9⟩, hm⟩ := of_guard hm
        obtain ⟨b4, q11⟩ := Own.place h71 (by omega)
        refine WD.valU 1 (.pointer (some ⟨b4, 0 + Int.toNat 0 * 1, none⟩)) rfl (by kernel_rfl) rfl rfl (fun _ => (ex_indexAddr Try.underlying23 Try.sizeOf5 rfl q11 rfl c8 c9)) rfl ?_
        refine WD.load 2 [9, 11] [3, 8, 9, 10, 11] (.int .u8 (lget l5 0)) rfl (by kernel_rfl) rfl rfl rfl (ex_loadElI Try.underlying5 rfl (h71).rd q11 c8 c9) ?_
        refine WD.batch (f' := 6) [3, 8] #[true, true, true, true, true, false, false, false, true, false, false, false] [2, 4, 6, 52, 53, 57] rfl (E' := [(2, .pointer (some ⟨b1, 0, none⟩)), (4, .pointer (some ⟨b3, 0, none⟩)), (6, .slice A5 l5.length n5), (52, .int .i64 (IntKind.wrap .i64 (lget l5 0))), (53, .slice A5 l5.length n5), (57, .pointer (some ⟨b3, 3, none⟩))]) (by kernel_rfl) ?_
        obtain ⟨x4, q12, hm⟩ := of_let hm
        rw [q12]
        obtain ⟨⟨c10, c11⟩, hm⟩ := of_guard hm
        obtain ⟨b5, q13⟩ := Own.place h71 (by omega)
        refine WD.valU 5 (.pointer (some ⟨b5, 0 + Int.toNat 1 * 1, none⟩)) rfl (by kernel_rfl) rfl rfl (fun _ => (ex_indexAddr Try.underlying23 Try.sizeOf5 rfl q13 rfl c10 c11)) rfl ?_
        refine WD.load 6 [11] [7, 10, 11] (.int .u8 (lget l5 1)) rfl (by kernel_rfl) rfl rfl rfl (ex_loadElI Try.underlying5 rfl (h71).rd q13 c10 c11) ?_
        refine WD.batch (f' := 3) [7] #[true, true, true, true, true, true, true, true, true, false, false, false] [2, 4, 6, 52, 56, 57] rfl (E' := [(2, .pointer (some ⟨b1, 0, none⟩)), (4, .pointer (some ⟨b3, 0, none⟩)), (6, .slice A5 l5.length n5), (52, .int .i64 x4), (56, .int .i64 (IntKind.wrap .i64 (lget l5 1))), (57, .pointer (some ⟨b3, 3, none⟩))]) (by kernel_rfl) ?_
        obtain ⟨x5, q14, hm⟩ := of_let hm
        rw [q14]
        refine WD.opS 9 (by kernel_rfl) rfl rfl rfl rfl (ex_storeObj rfl rfl Try.sizeOf3 h66 (Lens.skip rfl (Lens.skip rfl (Lens.skip rfl (Lens.head _ ([Value.int .i64 x4]) _) rfl) rfl) rfl) rfl rfl rfl (one_sing rfl)) ?_
        rintro w13 ⟨F22, h72⟩
        have h73 := (h64).fr F22 ⟨(Ap.symm (Src.ap' s2 (h2).lt trivial)), trivial⟩
        have h74 := Fr.at F22 h65 (ApL.not (x := some b1) (S := [some b3]) ⟨(Ap.symm (Src.ap' s2 (Lt.one (at_lt h1)) trivial)), trivial⟩ _ rfl)
        have h75 := (h67).fr F22 ⟨(Src.ap' s3 (Lt.one (at_lt h8)) ⟨(Ap.symm (Src.ap' s2 (h2).lt trivial)), trivial⟩), trivial⟩
        have h76 := (h68).fr F22 ⟨(Src.ap' s4 (Lt.one (at_lt h8)) trivial), trivial⟩
        have h77 := (h69).fr F22 ⟨(Src.ap' s5 (Lt.one (at_lt h8)) trivial), trivial⟩
        have h78 := (h70).fr F22 ⟨(Src.ap' s6 (Lt.one (at_lt h16)) trivial), trivial⟩
        have h79 := (h71).fr F22 ⟨(Src.ap' s7 (Lt.one (at_lt h16)) trivial), trivial⟩
        have F23 := Fr.step F21 F22 ⟨(In0.src s2 F1.size trivial), trivial⟩
        refine ⟨_, rfl, ⟨(by first | exact (ex_loadElI Try.underlying5 rfl (h79).rd q13 c10 c11) | (rw [← q14]; exact (ex_loadElI Try.underlying5 rfl (h79).rd q13 c10 c11))), trivial⟩, ?_⟩
        refine WD.batch (f' := 1) [10] #[true, true, true, true, true, true, true, true, true, true, true, false] [2, 4, 6, 56, 58] rfl (E' := [(2, .pointer (some ⟨b1, 0, none⟩)), (4, .pointer (some ⟨b3, 0, none⟩)), (6, .slice A5 l5.length n5), (56, .int .i64 x5), (58, .pointer (some ⟨b3, 4, none⟩))]) (by kernel_rfl) ?_
        refine WD.opS 11 (by kernel_rfl) rfl rfl rfl rfl (ex_storeObj rfl rfl Try.sizeOf3 h72 (Lens.skip rfl (Lens.skip rfl (Lens.skip rfl (Lens.skip rfl (Lens.head _ ([Value.int .i64 x5]) _) rfl) rfl) rfl) rfl) rfl rfl rfl (one_sing rfl)) ?_
        rintro w14 ⟨F24, h80⟩
        have h81 := (h73).fr F24 ⟨(Ap.symm (Src.ap' s2 (h2).lt trivial)), trivial⟩
        have h82 := Fr.at F24 h74 (ApL.not (x := some b1) (S := [some b3]) ⟨(Ap.symm (Src.ap' s2 (Lt.one (at_lt h1)) trivial)), trivial⟩ _ rfl)
        have h83 := (h75).fr F24 ⟨(Src.ap' s3 (Lt.one (at_lt h8)) ⟨(Ap.symm (Src.ap' s2 (h2).lt trivial)), trivial⟩), trivial⟩
        have h84 := (h76).fr F24 ⟨(Src.ap' s4 (Lt.one (at_lt h8)) trivial), trivial⟩
        have h85 := (h77).fr F24 ⟨(Src.ap' s5 (Lt.one (at_lt h8)) trivial), trivial⟩
        have h86 := (h78).fr F24 ⟨(Src.ap' s6 (Lt.one (at_lt h16)) trivial), trivial⟩
        have h87 := (h79).fr F24 ⟨(Src.ap' s7 (Lt.one (at_lt h16)) trivial), trivial⟩
        have F25 := Fr.step F23 F24 ⟨(In0.src s2 F1.size trivial), trivial⟩
        refine ⟨_, rfl, trivial, ?_⟩
        refine WD.end_ (by kernel_rfl) ?_
        refine W.seq ?_
        refine W.region ?_
        refine WL.batch 1 [2, 4, 6, 59] (E' := [(2, .pointer (some ⟨b1, 0, none⟩)), (4, .pointer (some ⟨b3, 0, none⟩)), (6, .slice A5 l5.length n5), (59, .slice A5 l5.length n5)]) (by kernel_rfl) ?_
        obtain ⟨⟨c12, c13, c14⟩, hm⟩ := of_guard hm
        obtain ⟨l6, q15, hm⟩ := of_let hm
        refine WL.opU rfl rfl rfl (ex_sliceU (k1 := .i64) (k2 := .i64) (k := .u8) Try.underlying23 Try.sizeOf5 rfl (.inl rfl) (.inr ⟨rfl, rfl⟩) ⟨c12, c13, c14⟩ (h87).rd q15) ?_
        rintro _ ⟨A6, n6, rfl, h88, s10⟩
        refine ⟨_, rfl, ?_⟩
        have s11 := Src.trans' s10 (Nat.le_refl _) (l' := [ablk A5]) ⟨Src.rblk (Src.self (by simp)), trivial⟩
        obtain ⟨c15, hm⟩ := of_guard hm
        obtain ⟨b6, o2, q16⟩ := Rd.place h88 (by omega)
        refine WL.value (.pointer (some ⟨b6, o2, none⟩)) rfl rfl rfl (ex_arrPtrI Try.underlying22 rfl q16 c15) rfl ?_
        obtain ⟨a4, q17, hm⟩ := of_let hm
        refine WL.value (.agg (ints .u8 a4.toList).toArray) rfl rfl rfl (ex_loadArrI Try.underlying22 Try.sizeOf22 rfl h88 (by decide) q16 c15 q17) rfl ?_
        refine WL.batch 1 [2, 4, 6, 62, 63] (E' := [(2, .pointer (some ⟨b1, 0, none⟩)), (4, .pointer (some ⟨b3, 0, none⟩)), (6, .slice A5 l5.length n5), (62, .agg (ints .u8 a4.toList).toArray), (63, .pointer (some ⟨b3, 5, none⟩))]) (by kernel_rfl) ?_
        refine WL.opS rfl rfl rfl (ex_storeObj rfl rfl Try.sizeOf22 h80 (Lens.skip rfl (Lens.skip rfl (Lens.skip rfl (Lens.skip rfl (Lens.skip rfl (Lens.head _ (ints .u8 a4.toList) _) rfl) rfl) rfl) rfl) rfl) (ivl _ _) (ivl _ _) rfl (ints_one _ _)) ?_
        rintro w15 ⟨F26, h89⟩
        have h90 := (h81).fr F26 ⟨(Ap.symm (Src.ap' s2 (h2).lt trivial)), trivial⟩
        have h91 := Fr.at F26 h82 (ApL.not (x := some b1) (S := [some b3]) ⟨(Ap.symm (Src.ap' s2 (Lt.one (at_lt h1)) trivial)), trivial⟩ _ rfl)
        have h92 := (h83).fr F26 ⟨(Src.ap' s3 (Lt.one (at_lt h8)) ⟨(Ap.symm (Src.ap' s2 (h2).lt trivial)), trivial⟩), trivial⟩
        have h93 := (h84).fr F26 ⟨(Src.ap' s4 (Lt.one (at_lt h8)) trivial), trivial⟩
        have h94 := (h85).fr F26 ⟨(Src.ap' s5 (Lt.one (at_lt h8)) trivial), trivial⟩
        have h95 := (h86).fr F26 ⟨(Src.ap' s6 (Lt.one (at_lt h16)) trivial), trivial⟩
        have h96 := (h87).fr F26 ⟨(Src.ap' s7 (Lt.one (at_lt h16)) trivial), trivial⟩
        have h97 := (h88).fr F26 ⟨(Src.ap' s11 (Lt.one (at_lt h80)) ⟨(Src.ap' s7 (Lt.one (at_lt h16)) trivial), trivial⟩), trivial⟩
        have F27 := Fr.step F25 F26 ⟨(In0.src s2 F1.size trivial), trivial⟩
        refine ⟨_, rfl, ?_⟩
        refine WL.nil ?_
        refine W.seq ?_
        refine W.region ?_
        refine WL.batch 1 [2, 4, 65] (E' := [(2, .pointer (some ⟨b1, 0, none⟩)), (4, .pointer (some ⟨b3, 0, none⟩)), (65, .slice A5 l5.length n5)]) (by kernel_rfl) ?_
        obtain ⟨⟨c16, c17, c18⟩, hm⟩ := of_guard hm
        obtain ⟨l7, q18, hm⟩ := of_let hm
        refine WL.opU rfl rfl rfl (ex_sliceU (k1 := .i64) (k2 := .i64) (k := .u8) Try.underlying23 Try.sizeOf5 rfl (.inl rfl) (.inr ⟨rfl, rfl⟩) ⟨c16, c17, c18⟩ (h96).rd q18) ?_
        rintro _ ⟨A7, n7, rfl, h98, s12⟩
        refine ⟨_, rfl, ?_⟩
        have s13 := Src.trans' s12 (Nat.le_refl _) (l' := [ablk A5]) ⟨Src.rblk (Src.self (by simp)), trivial⟩
        obtain ⟨⟨l8, l9, x6⟩, q19, hm⟩ := of_bind hm
        refine WL.call rfl rfl rfl (ex_callI (args := [.slice A7 l7.length n7, .int .i64 256]) rfl rfl rfl Try.call33) (num_TakeString_walk k l7 256 A7 n7 _ h98  l8 l9 x6 q19) ?_
        rintro _ w16 ⟨A8, n8, A9, n9, rfl, F28, h99, s14, h100, s15, ap3⟩
        have h101 := (h90).fr F28 trivial
        have h102 := Fr.at F28 h91 (ApL.not (x := some b1) (S := []) trivial _ rfl)
        have h103 := Fr.at F28 h89 (ApL.not (x := some b3) (S := []) trivial _ rfl)
        have h104 := (h92).fr F28 trivial
        have h105 := (h93).fr F28 trivial
        have h106 := (h94).fr F28 trivial
        have h107 := (h95).fr F28 trivial
        have h108 := (h96).fr F28 trivial
        have h109 := (h97).fr F28 trivial
        have h110 := (h98).fr F28 trivial
        have F29 := Fr.step F27 F28 trivial
        refine ⟨_, _, rfl, rfl, ?_⟩
        refine WL.batch 7 [2, 4, 6, 7, 9] (E' := [(2, .pointer (some ⟨b1, 0, none⟩)), (4, .pointer (some ⟨b3, 0, none⟩)), (6, .slice A9 l9.length n9), (7, .int .i64 x6), (9, .slice A8 l8.length n8)]) (by kernel_rfl) ?_
        refine WL.nil ?_
        refine W.seq ?_
        refine W.region ?_
        refine WL.batch 2 [2, 4, 6, 7, 71, 72] (E' := [(2, .pointer (some ⟨b1, 0, none⟩)), (4, .pointer (some ⟨b3, 0, none⟩)), (6, .slice A9 l9.length n9), (7, .int .i64 x6), (71, .slice A8 l8.length n8), (72, .pointer (some ⟨b3, 37, none⟩))]) (by kernel_rfl) ?_
        refine WL.opS rfl rfl rfl (ex_storeObj rfl rfl Try.sizeOf23 h103 (Lens.skip rfl (Lens.skip rfl (Lens.skip rfl (Lens.skip rfl (Lens.skip rfl (Lens.skip (ivl _ _) (Lens.all _ ([Value.slice A8 l8.length n8])) rfl) rfl) rfl) rfl) rfl) rfl) rfl rfl rfl (one_sing rfl)) ?_
        rintro w17 ⟨F30, h111⟩
        have h112 := (h101).fr F30 ⟨(Ap.symm (Src.ap' s2 (h2).lt trivial)), trivial⟩
        have h113 := Fr.at F30 h102 (ApL.not (x := some b1) (S := [some b3]) ⟨(Ap.symm (Src.ap' s2 (Lt.one (at_lt h1)) trivial)), trivial⟩ _ rfl)
        have h114 := (h104).fr F30 ⟨(Src.ap' s3 (Lt.one (at_lt h8)) ⟨(Ap.symm (Src.ap' s2 (h2).lt trivial)), trivial⟩), trivial⟩
        have h115 := (h105).fr F30 ⟨(Src.ap' s4 (Lt.one (at_lt h8)) trivial), trivial⟩
        have h116 := (h106).fr F30 ⟨(Src.ap' s5 (Lt.one (at_lt h8)) trivial), trivial⟩
        have h117 := (h107).fr F30 ⟨(Src.ap' s6 (Lt.one (at_lt h16)) trivial), trivial⟩
        have h118 := (h108).fr F30 ⟨(Src.ap' s7 (Lt.one (at_lt h16)) trivial), trivial⟩
        have h119 := (h109).fr F30 ⟨(Src.ap' s11 (Lt.one (at_lt h80)) ⟨(Src.ap' s7 (Lt.one (at_lt h16)) trivial), trivial⟩), trivial⟩
        have h120 := (h110).fr F30 ⟨(Src.ap' s13 (Lt.one (at_lt h89)) ⟨(Src.ap' s7 (Lt.one (at_lt h16)) trivial), trivial⟩), trivial⟩
        have h121 := (h99).fr F30 ⟨(Src.ap' s14 (Lt.one (at_lt h89)) trivial), trivial⟩
        have h122 := (h100).fr F30 ⟨(Src.ap' s15 (Lt.one (at_lt h89)) trivial), trivial⟩
        have F31 := Fr.step F29 F30 ⟨(In0.src s2 F1.size trivial), trivial⟩
        refine ⟨_, rfl, ?_⟩
        refine WL.nil ?_
        refine W.seq ?_
        refine W.regionDw (N := 14) Try_mixed rfl ?_
        intro w18 F32
        have h123 := (h112).fr F32 trivial
        have h124 := Fr.at F32 h113 (ApL.not (x := some b1) (S := []) trivial _ rfl)
        have h125 := Fr.at F32 h111 (ApL.not (x := some b3) (S := []) trivial _ rfl)
        have h126 := (h114).fr F32 trivial
        have h127 := (h115).fr F32 trivial
        have h128 := (h116).fr F32 trivial
        have h129 := (h117).fr F32 trivial
        have h130 := (h118).fr F32 trivial
        have h131 := (h119).fr F32 trivial
        have h132 := (h120).fr F32 trivial
        have h133 := (h121).fr F32 trivial
        have h134 := (h122).fr F32 trivial
        have F33 := Fr.step F31 F32 trivial
        refine WD.batch (f' := 11) [1, 2, 3] #[false, true, true, true, false, false, false, false, false, false, false, false, false, false] [2, 4, 6, 76] rfl (E' := [(2, .pointer (some ⟨b1, 0, none⟩)), (4, .pointer (some ⟨b3, 0, none⟩)), (6, .slice A9 l9.length n9), (76, .bool (x6 == (0 : Int)))]) (by kernel_rfl) ?_
        refine WD.load 0 [12] [12, 13] (.agg ([Value.int .i64 x1] ++ ([Value.string s8] ++ ([Value.string s9] ++ ([Value.int .i64 x4] ++ ([Value.int .i64 x5] ++ (ints .u8 a4.toList ++ ([Value.slice A8 l8.length n8]))))))).toArray) rfl (by kernel_rfl) rfl rfl rfl (ex_loadAgg Try.underlying25 rfl Try.sizeOf25 (len_app rfl (len_app rfl (len_app rfl (len_app rfl (len_app rfl (len_app (ivl _ _) rfl rfl) rfl) rfl) rfl) rfl) rfl) rfl h125 (Lens.all _ ([Value.int .i64 x1] ++ ([Value.string s8] ++ ([Value.string s9] ++ ([Value.int .i64 x4] ++ ([Value.int .i64 x5] ++ (ints .u8 a4.toList ++ ([Value.slice A8 l8.length n8]))))))))) ?_
        rcases of_cond hm with ⟨c19, hm⟩ | ⟨c19, hm⟩
        · rw [c19]
          refine WD.batch (f' := 5) [4, 5, 6, 7, 8] #[true, true, true, true, true, true, true, true, true, false, false, false, false, false] [2, 4, 73, 81] rfl (E' := [(2, .pointer (some ⟨b1, 0, none⟩)), (4, .pointer (some ⟨b3, 0, none⟩)), (73, .agg ([Value.int .i64 x1] ++ ([Value.string s8] ++ ([Value.string s9] ++ ([Value.int .i64 x4] ++ ([Value.int .i64 x5] ++ (ints .u8 a4.toList ++ ([Value.slice A8 l8.length n8]))))))).toArray), (81, .bool ((l9.length : Int) == (0 : Int)))]) (by kernel_rfl) ?_
          rcases of_cond hm with ⟨c20, hm⟩ | ⟨c20, hm⟩
          · rw [c20]
            refine WD.load 9 [10, 12] [10, 11, 12, 13] (.agg ([Value.int .i64 x1] ++ ([Value.string s8] ++ ([Value.string s9] ++ ([Value.int .i64 x4] ++ ([Value.int .i64 x5] ++ (ints .u8 a4.toList ++ ([Value.slice A8 l8.length n8]))))))).toArray) rfl (by kernel_rfl) rfl rfl rfl (ex_loadAgg Try.underlying25 rfl Try.sizeOf25 (len_app rfl (len_app rfl (len_app rfl (len_app rfl (len_app rfl (len_app (ivl _ _) rfl rfl) rfl) rfl) rfl) rfl) rfl) rfl h125 (Lens.all _ ([Value.int .i64 x1] ++ ([Value.string s8] ++ ([Value.string s9] ++ ([Value.int .i64 x4] ++ ([Value.int .i64 x5] ++ (ints .u8 a4.toList ++ ([Value.slice A8 l8.length n8]))))))))) ?_
            obtain ⟨y1, q20, hm⟩ := of_bind hm
            refine WD.call 10 (by kernel_rfl) rfl rfl rfl rfl (ex_callI (args := [.agg ([Value.int .i64 x1] ++ ([Value.string s8] ++ ([Value.string s9] ++ ([Value.int .i64 x4] ++ ([Value.int .i64 x5] ++ (ints .u8 a4.toList ++ ([Value.slice A8 l8.length n8]))))))).toArray]) rfl rfl rfl Try.call11) (bisect_May_walk k x1 s8 s9 x4 x5 a4 l8 A8 n8 _ (h133).rd  y1 q20) ?_
            rintro _ w19 ⟨rfl, F34⟩
            have h135 := (h123).fr F34 trivial
            have h136 := Fr.at F34 h124 (ApL.not (x := some b1) (S := []) trivial _ rfl)
            have h137 := Fr.at F34 h125 (ApL.not (x := some b3) (S := []) trivial _ rfl)
            have h138 := (h126).fr F34 trivial
            have h139 := (h127).fr F34 trivial
            have h140 := (h128).fr F34 trivial
            have h141 := (h129).fr F34 trivial
            have h142 := (h130).fr F34 trivial
            have h143 := (h131).fr F34 trivial
            have h144 := (h132).fr F34 trivial
            have h145 := (h133).fr F34 trivial
            have h146 := (h134).fr F34 trivial
            have F35 := Fr.step F33 F34 trivial
            refine ⟨_, _, rfl, rfl, ⟨(ex_loadAgg Try.underlying25 rfl Try.sizeOf25 (len_app rfl (len_app rfl (len_app rfl (len_app rfl (len_app rfl (len_app (ivl _ _) rfl rfl) rfl) rfl) rfl) rfl) rfl) rfl h137 (Lens.all _ ([Value.int .i64 x1] ++ ([Value.string s8] ++ ([Value.string s9] ++ ([Value.int .i64 x4] ++ ([Value.int .i64 x5] ++ (ints .u8 a4.toList ++ ([Value.slice A8 l8.length n8]))))))))), trivial⟩, ?_⟩
            refine WD.batch (f' := 2) [11] #[true, true, true, true, true, true, true, true, true, true, true, true, false, false] [2, 73, 84] rfl (E' := [(2, .pointer (some ⟨b1, 0, none⟩)), (73, .agg ([Value.int .i64 x1] ++ ([Value.string s8] ++ ([Value.string s9] ++ ([Value.int .i64 x4] ++ ([Value.int .i64 x5] ++ (ints .u8 a4.toList ++ ([Value.slice A8 l8.length n8]))))))).toArray), (84, .bool y1)]) (by kernel_rfl) ?_
            refine WD.opS 12 (by kernel_rfl) rfl rfl rfl rfl (ex_storeObj rfl rfl Try.sizeOf25 h136 (Lens.all _ ([Value.int .i64 x1] ++ ([Value.string s8] ++ ([Value.string s9] ++ ([Value.int .i64 x4] ++ ([Value.int .i64 x5] ++ (ints .u8 a4.toList ++ ([Value.slice A8 l8.length n8])))))))) (len_app rfl (len_app rfl (len_app rfl (len_app rfl (len_app rfl (len_app (ivl _ _) rfl rfl) rfl) rfl) rfl) rfl) rfl) (len_app rfl (len_app rfl (len_app rfl (len_app rfl (len_app rfl (len_app (ivl _ _) rfl rfl) rfl) rfl) rfl) rfl) rfl) rfl (one_app (one_sing rfl) (one_app (one_sing rfl) (one_app (one_sing rfl) (one_app (one_sing rfl) (one_app (one_sing rfl) (one_app (ints_one _ _) (one_sing rfl)))))))) ?_
            rintro w20 ⟨F36, h147⟩
            have h148 := (h135).fr F36 ⟨(Ap.symm (Src.ap' s1 (hp0).lt trivial)), trivial⟩
            have h149 := Fr.at F36 h137 (ApL.not (x := some b3) (S := [some b1]) ⟨(Src.ap' s2 (Lt.one (at_lt h1)) trivial), trivial⟩ _ rfl)
            have h150 := (h138).fr F36 ⟨(Src.ap' s3 (Lt.one (at_lt h10)) ⟨(Ap.symm (Src.ap' s1 (hp0).lt trivial)), trivial⟩), trivial⟩
            have h151 := (h139).fr F36 ⟨(Src.ap' s4 (Lt.one (at_lt h10)) trivial), trivial⟩
            have h152 := (h140).fr F36 ⟨(Src.ap' s5 (Lt.one (at_lt h10)) trivial), trivial⟩
            have h153 := (h141).fr F36 ⟨(Src.ap' s6 (Lt.one (at_lt h15)) trivial), trivial⟩
            have h154 := (h142).fr F36 ⟨(Src.ap' s7 (Lt.one (at_lt h15)) trivial), trivial⟩
            have h155 := (h143).fr F36 ⟨(Src.ap' s11 (Lt.one (at_lt h82)) ⟨(Src.ap' s7 (Lt.one (at_lt h15)) trivial), trivial⟩), trivial⟩
            have h156 := (h144).fr F36 ⟨(Src.ap' s13 (Lt.one (at_lt h91)) ⟨(Src.ap' s7 (Lt.one (at_lt h15)) trivial), trivial⟩), trivial⟩
            have h157 := (h145).fr F36 ⟨(Src.ap' s14 (Lt.one (at_lt h91)) trivial), trivial⟩
            have h158 := (h146).fr F36 ⟨(Src.ap' s15 (Lt.one (at_lt h91)) trivial), trivial⟩
            have F37 := Fr.step F35 F36 ⟨(In0.src s1 (Nat.le_refl _) trivial), trivial⟩
            refine ⟨_, rfl, trivial, ?_⟩
            refine WD.batch (f' := 0) [13] #[true, true, true, true, true, true, true, true, true, true, true, true, true, true] [2, 3] rfl (E' := [(2, .pointer (some ⟨b1, 0, none⟩)), (3, .bool y1)]) (by kernel_rfl) ?_
            refine WD.end_ (by kernel_rfl) ?_
            refine W.ret ?_
            obtain ⟨q0a, q0b⟩ := Prod.mk.inj (Option.some.inj hm)
            obtain ⟨q1a, q1b⟩ := Prod.mk.inj (q0b)
            obtain ⟨q2a, q2b⟩ := Prod.mk.inj (q1b)
            obtain ⟨q3a, q3b⟩ := Prod.mk.inj (q2b)
            obtain ⟨q4a, q4b⟩ := Prod.mk.inj (q3b)
            obtain ⟨q5a, q5b⟩ := Prod.mk.inj (q4b)
            obtain ⟨q6a, q6b⟩ := Prod.mk.inj (q5b)
            subst q0a
            subst q1a
            subst q2a
            subst q3a
            subst q4a
            subst q5a
            subst q6a
            subst q6b
            exact ⟨_, ⟨_, _, _, rfl, rfl, (loadVar_aggN Try.underlying25 rfl Try.sizeOf25 (len_app rfl (len_app rfl (len_app rfl (len_app rfl (len_app rfl (len_app (ivl _ _) rfl rfl) rfl) rfl) rfl) rfl) rfl) h147 (Lens.all _ ([Value.int .i64 x1] ++ ([Value.string s8] ++ ([Value.string s9] ++ ([Value.int .i64 x4] ++ ([Value.int .i64 x5] ++ (ints .u8 a4.toList ++ ([Value.slice A8 l8.length n8]))))))))), ⟨_, _, rfl, rfl, rfl⟩⟩, ⟨A8, n8, rfl, F37, h157, (Src.trans' s14 F27.size trivial)⟩⟩
          · rw [c20]
            refine WD.batch (f' := 4) [9] #[true, true, true, true, true, true, true, true, true, true, false, false, false, false] [2, 73, 81, 82] rfl (E' := [(2, .pointer (some ⟨b1, 0, none⟩)), (73, .agg ([Value.int .i64 x1] ++ ([Value.string s8] ++ ([Value.string s9] ++ ([Value.int .i64 x4] ++ ([Value.int .i64 x5] ++ (ints .u8 a4.toList ++ ([Value.slice A8 l8.length n8]))))))).toArray), (81, .bool false), (82, undef)]) (by kernel_rfl) ?_
            refine WD.skip 10 (by kernel_rfl) rfl rfl rfl ⟨(ex_loadAgg Try.underlying25 rfl Try.sizeOf25 (len_app rfl (len_app rfl (len_app rfl (len_app rfl (len_app rfl (len_app (ivl _ _) rfl rfl) rfl) rfl) rfl) rfl) rfl) rfl h125 (Lens.all _ ([Value.int .i64 x1] ++ ([Value.string s8] ++ ([Value.string s9] ++ ([Value.int .i64 x4] ++ ([Value.int .i64 x5] ++ (ints .u8 a4.toList ++ ([Value.slice A8 l8.length n8]))))))))), trivial⟩ ?_
            refine WD.batch (f' := 2) [11] #[true, true, true, true, true, true, true, true, true, true, true, true, false, false] [2, 73, 84] rfl (E' := [(2, .pointer (some ⟨b1, 0, none⟩)), (73, .agg ([Value.int .i64 x1] ++ ([Value.string s8] ++ ([Value.string s9] ++ ([Value.int .i64 x4] ++ ([Value.int .i64 x5] ++ (ints .u8 a4.toList ++ ([Value.slice A8 l8.length n8]))))))).toArray), (84, .bool false)]) (by kernel_rfl) ?_
            refine WD.opS 12 (by kernel_rfl) rfl rfl rfl rfl (ex_storeObj rfl rfl Try.sizeOf25 h124 (Lens.all _ ([Value.int .i64 x1] ++ ([Value.string s8] ++ ([Value.string s9] ++ ([Value.int .i64 x4] ++ ([Value.int .i64 x5] ++ (ints .u8 a4.toList ++ ([Value.slice A8 l8.length n8])))))))) (len_app rfl (len_app rfl (len_app rfl (len_app rfl (len_app rfl (len_app (ivl _ _) rfl rfl) rfl) rfl) rfl) rfl) rfl) (len_app rfl (len_app rfl (len_app rfl (len_app rfl (len_app rfl (len_app (ivl _ _) rfl rfl) rfl) rfl) rfl) rfl) rfl) rfl (one_app (one_sing rfl) (one_app (one_sing rfl) (one_app (one_sing rfl) (one_app (one_sing rfl) (one_app (one_sing rfl) (one_app (ints_one _ _) (one_sing rfl)))))))) ?_
            rintro w21 ⟨F38, h159⟩
            have h160 := (h123).fr F38 ⟨(Ap.symm (Src.ap' s1 (hp0).lt trivial)), trivial⟩
            have h161 := Fr.at F38 h125 (ApL.not (x := some b3) (S := [some b1]) ⟨(Src.ap' s2 (Lt.one (at_lt h1)) trivial), trivial⟩ _ rfl)
            have h162 := (h126).fr F38 ⟨(Src.ap' s3 (Lt.one (at_lt h10)) ⟨(Ap.symm (Src.ap' s1 (hp0).lt trivial)), trivial⟩), trivial⟩
            have h163 := (h127).fr F38 ⟨(Src.ap' s4 (Lt.one (at_lt h10)) trivial), trivial⟩
            have h164 := (h128).fr F38 ⟨(Src.ap' s5 (Lt.one (at_lt h10)) trivial), trivial⟩
            have h165 := (h129).fr F38 ⟨(Src.ap' s6 (Lt.one (at_lt h15)) trivial), trivial⟩
            have h166 := (h130).fr F38 ⟨(Src.ap' s7 (Lt.one (at_lt h15)) trivial), trivial⟩
            have h167 := (h131).fr F38 ⟨(Src.ap' s11 (Lt.one (at_lt h82)) ⟨(Src.ap' s7 (Lt.one (at_lt h15)) trivial), trivial⟩), trivial⟩
            have h168 := (h132).fr F38 ⟨(Src.ap' s13 (Lt.one (at_lt h91)) ⟨(Src.ap' s7 (Lt.one (at_lt h15)) trivial), trivial⟩), trivial⟩
            have h169 := (h133).fr F38 ⟨(Src.ap' s14 (Lt.one (at_lt h91)) trivial), trivial⟩
            have h170 := (h134).fr F38 ⟨(Src.ap' s15 (Lt.one (at_lt h91)) trivial), trivial⟩
            have F39 := Fr.step F33 F38 ⟨(In0.src s1 (Nat.le_refl _) trivial), trivial⟩
            refine ⟨_, rfl, trivial, ?_⟩
            refine WD.batch (f' := 0) [13] #[true, true, true, true, true, true, true, true, true, true, true, true, true, true] [2, 3] rfl (E' := [(2, .pointer (some ⟨b1, 0, none⟩)), (3, .bool false)]) (by kernel_rfl) ?_
            refine WD.end_ (by kernel_rfl) ?_
            refine W.ret ?_
            obtain ⟨q0a, q0b⟩ := Prod.mk.inj (Option.some.inj hm)
            obtain ⟨q1a, q1b⟩ := Prod.mk.inj (q0b)
            obtain ⟨q2a, q2b⟩ := Prod.mk.inj (q1b)
            obtain ⟨q3a, q3b⟩ := Prod.mk.inj (q2b)
            obtain ⟨q4a, q4b⟩ := Prod.mk.inj (q3b)
            obtain ⟨q5a, q5b⟩ := Prod.mk.inj (q4b)
            obtain ⟨q6a, q6b⟩ := Prod.mk.inj (q5b)
            subst q0a
            subst q1a
            subst q2a
            subst q3a
            subst q4a
            subst q5a
            subst q6a
            subst q6b
            exact ⟨_, ⟨_, _, _, rfl, rfl, (loadVar_aggN Try.underlying25 rfl Try.sizeOf25 (len_app rfl (len_app rfl (len_app rfl (len_app rfl (len_app rfl (len_app (ivl _ _) rfl rfl) rfl) rfl) rfl) rfl) rfl) h159 (Lens.all _ ([Value.int .i64 x1] ++ ([Value.string s8] ++ ([Value.string s9] ++ ([Value.int .i64 x4] ++ ([Value.int .i64 x5] ++ (ints .u8 a4.toList ++ ([Value.slice A8 l8.length n8]))))))))), ⟨_, _, rfl, rfl, rfl⟩⟩, ⟨A8, n8, rfl, F39, h169, (Src.trans' s14 F27.size trivial)⟩⟩
        · rw [c19]
          refine WD.batch (f' := 4) [4, 5, 6, 7, 8, 9] #[true, true, true, true, true, true, true, true, true, true, false, false, false, false] [2, 73, 81, 82] rfl (E' := [(2, .pointer (some ⟨b1, 0, none⟩)), (73, .agg ([Value.int .i64 x1] ++ ([Value.string s8] ++ ([Value.string s9] ++ ([Value.int .i64 x4] ++ ([Value.int .i64 x5] ++ (ints .u8 a4.toList ++ ([Value.slice A8 l8.length n8]))))))).toArray), (81, .bool false), (82, undef)]) (by kernel_rfl) ?_
          refine WD.skip 10 (by kernel_rfl) rfl rfl rfl ⟨(ex_loadAgg Try.underlying25 rfl Try.sizeOf25 (len_app rfl (len_app rfl (len_app rfl (len_app rfl (len_app rfl (len_app (ivl _ _) rfl rfl) rfl) rfl) rfl) rfl) rfl) rfl h125 (Lens.all _ ([Value.int .i64 x1] ++ ([Value.string s8] ++ ([Value.string s9] ++ ([Value.int .i64 x4] ++ ([Value.int .i64 x5] ++ (ints .u8 a4.toList ++ ([Value.slice A8 l8.length n8]))))))))), trivial⟩ ?_
          refine WD.batch (f' := 2) [11] #[true, true, true, true, true, true, true, true, true, true, true, true, false, false] [2, 73, 84] rfl (E' := [(2, .pointer (some ⟨b1, 0, none⟩)), (73, .agg ([Value.int .i64 x1] ++ ([Value.string s8] ++ ([Value.string s9] ++ ([Value.int .i64 x4] ++ ([Value.int .i64 x5] ++ (ints .u8 a4.toList ++ ([Value.slice A8 l8.length n8]))))))).toArray), (84, .bool false)]) (by kernel_rfl) ?_
          refine WD.opS 12 (by kernel_rfl) rfl rfl rfl rfl (ex_storeObj rfl rfl Try.sizeOf25 h124 (Lens.all _ ([Value.int .i64 x1] ++ ([Value.string s8] ++ ([Value.string s9] ++ ([Value.int .i64 x4] ++ ([Value.int .i64 x5] ++ (ints .u8 a4.toList ++ ([Value.slice A8 l8.length n8])))))))) (len_app rfl (len_app rfl (len_app rfl (len_app rfl (len_app rfl (len_app (ivl _ _) rfl rfl) rfl) rfl) rfl) rfl) rfl) (len_app rfl (len_app rfl (len_app rfl (len_app rfl (len_app rfl (len_app (ivl _ _) rfl rfl) rfl) rfl) rfl) rfl) rfl) rfl (one_app (one_sing rfl) (one_app (one_sing rfl) (one_app (one_sing rfl) (one_app (one_sing rfl) (one_app (one_sing rfl) (one_app (ints_one _ _) (one_sing rfl)))))))) ?_
          rintro w22 ⟨F40, h171⟩
          have h172 := (h123).fr F40 ⟨(Ap.symm (Src.ap' s1 (hp0).lt trivial)), trivial⟩
          have h173 := Fr.at F40 h125 (ApL.not (x := some b3) (S := [some b1]) ⟨(Src.ap' s2 (Lt.one (at_lt h1)) trivial), trivial⟩ _ rfl)
          have h174 := (h126).fr F40 ⟨(Src.ap' s3 (Lt.one (at_lt h10)) ⟨(Ap.symm (Src.ap' s1 (hp0).lt trivial)), trivial⟩), trivial⟩
          have h175 := (h127).fr F40 ⟨(Src.ap' s4 (Lt.one (at_lt h10)) trivial), trivial⟩
          have h176 := (h128).fr F40 ⟨(Src.ap' s5 (Lt.one (at_lt h10)) trivial), trivial⟩
          have h177 := (h129).fr F40 ⟨(Src.ap' s6 (Lt.one (at_lt h15)) trivial), trivial⟩
          have h178 := (h130).fr F40 ⟨(Src.ap' s7 (Lt.one (at_lt h15)) trivial), trivial⟩
          have h179 := (h131).fr F40 ⟨(Src.ap' s11 (Lt.one (at_lt h82)) ⟨(Src.ap' s7 (Lt.one (at_lt h15)) trivial), trivial⟩), trivial⟩
          have h180 := (h132).fr F40 ⟨(Src.ap' s13 (Lt.one (at_lt h91)) ⟨(Src.ap' s7 (Lt.one (at_lt h15)) trivial), trivial⟩), trivial⟩
          have h181 := (h133).fr F40 ⟨(Src.ap' s14 (Lt.one (at_lt h91)) trivial), trivial⟩
          have h182 := (h134).fr F40 ⟨(Src.ap' s15 (Lt.one (at_lt h91)) trivial), trivial⟩
          have F41 := Fr.step F33 F40 ⟨(In0.src s1 (Nat.le_refl _) trivial), trivial⟩
          refine ⟨_, rfl, trivial, ?_⟩
          refine WD.batch (f' := 0) [13] #[true, true, true, true, true, true, true, true, true, true, true, true, true, true] [2, 3] rfl (E' := [(2, .pointer (some ⟨b1, 0, none⟩)), (3, .bool false)]) (by kernel_rfl) ?_
          refine WD.end_ (by kernel_rfl) ?_
          refine W.ret ?_
          obtain ⟨q0a, q0b⟩ := Prod.mk.inj (Option.some.inj hm)
          obtain ⟨q1a, q1b⟩ := Prod.mk.inj (q0b)
          obtain ⟨q2a, q2b⟩ := Prod.mk.inj (q1b)
          obtain ⟨q3a, q3b⟩ := Prod.mk.inj (q2b)
          obtain ⟨q4a, q4b⟩ := Prod.mk.inj (q3b)
          obtain ⟨q5a, q5b⟩ := Prod.mk.inj (q4b)
          obtain ⟨q6a, q6b⟩ := Prod.mk.inj (q5b)
          subst q0a
          subst q1a
          subst q2a
          subst q3a
          subst q4a
          subst q5a
          subst q6a
          subst q6b
          exact ⟨_, ⟨_, _, _, rfl, rfl, (loadVar_aggN Try.underlying25 rfl Try.sizeOf25 (len_app rfl (len_app rfl (len_app rfl (len_app rfl (len_app rfl (len_app (ivl _ _) rfl rfl) rfl) rfl) rfl) rfl) rfl) h171 (Lens.all _ ([Value.int .i64 x1] ++ ([Value.string s8] ++ ([Value.string s9] ++ ([Value.int .i64 x4] ++ ([Value.int .i64 x5] ++ (ints .u8 a4.toList ++ ([Value.slice A8 l8.length n8]))))))))), ⟨_, _, rfl, rfl, rfl⟩⟩, ⟨A8, n8, rfl, F41, h181, (Src.trans' s14 F27.size trivial)⟩⟩
      · replace hm := hm1
        clear hm1
        refine W.seq ?_
        refine W.region ?_
        refine WL.batch 3 [2, 4, 5, 6, 8, 37] (E' := [(2, .pointer (some ⟨b1, 0, none⟩)), (4, .pointer (some ⟨b3, 0, none⟩)), (5, .slice A2 l2.length n2), (6, .slice A5 l5.length n5), (8, .slice A4 l4.length n4), (37, .bool (x3 != (0 : Int)))]) (by kernel_rfl) ?_
        rcases of_cond hm with ⟨c21, hm⟩ | ⟨c21, hm⟩
        · rw [c21]
          refine WL.batch 4 [2, 4, 5, 6, 8, 41] (E' := [(2, .pointer (some ⟨b1, 0, none⟩)), (4, .pointer (some ⟨b3, 0, none⟩)), (5, .slice A2 l2.length n2), (6, .slice A5 l5.length n5), (8, .slice A4 l4.length n4), (41, .bool true)]) (by kernel_rfl) ?_
          refine WL.nil ?_
          refine W.condT _ rfl rfl ?_
          refine W.seq ?_
          refine W.region ?_
          refine WL.value (.agg ([Value.int .i64 0] ++ ([Value.string (⟨#[]⟩ : ByteArray)] ++ ([Value.string (⟨#[]⟩ : ByteArray)] ++ ([Value.int .i64 0] ++ ([Value.int .i64 0] ++ (ints .u8 (Vector.replicate 32 (0 : Int)).toList ++ ([Value.slice none 0 0]))))))).toArray) rfl rfl rfl (ex_build (z := .agg ([Value.int .i64 0] ++ ([Value.string (⟨#[]⟩ : ByteArray)] ++ ([Value.string (⟨#[]⟩ : ByteArray)] ++ ([Value.int .i64 0] ++ ([Value.int .i64 0] ++ (ints .u8 (Vector.replicate 32 (0 : Int)).toList ++ ([Value.slice none 0 0]))))))).toArray) (cs := [Value.int .i64 0] ++ ([Value.string (⟨#[]⟩ : ByteArray)] ++ ([Value.string (⟨#[]⟩ : ByteArray)] ++ ([Value.int .i64 0] ++ ([Value.int .i64 0] ++ (ints .u8 (Vector.replicate 32 (0 : Int)).toList ++ ([Value.slice none 0 0]))))))) (vs := []) (pl := #[(0, 1), (1, 1), (2, 1), (3, 1), (4, 1), (5, 32), (37, 1)]) Try.underlying25 rfl (fun _ => by kernel_rfl) rfl (fun _ => by kernel_rfl) (Fill.nil _)) rfl ?_
          refine WL.opS rfl rfl rfl (ex_storeObj rfl rfl Try.sizeOf25 h27 (Lens.all _ ([Value.int .i64 0] ++ ([Value.string (⟨#[]⟩ : ByteArray)] ++ ([Value.string (⟨#[]⟩ : ByteArray)] ++ ([Value.int .i64 0] ++ ([Value.int .i64 0] ++ (ints .u8 (Vector.replicate 32 (0 : Int)).toList ++ ([Value.slice none 0 0])))))))) (len_app rfl (len_app rfl (len_app rfl (len_app rfl (len_app rfl (len_app (ivl _ _) rfl rfl) rfl) rfl) rfl) rfl) rfl) (len_app rfl (len_app rfl (len_app rfl (len_app rfl (len_app rfl (len_app (ivl _ _) rfl rfl) rfl) rfl) rfl) rfl) rfl) rfl (one_app (one_sing rfl) (one_app (one_sing rfl) (one_app (one_sing rfl) (one_app (one_sing rfl) (one_app (one_sing rfl) (one_app (ints_one _ _) (one_sing rfl)))))))) ?_
          rintro w23 ⟨F42, h183⟩
          have h184 := (h26).fr F42 ⟨(Ap.symm (Src.ap' s1 (hp0).lt trivial)), trivial⟩
          have h185 := Fr.at F42 h28 (ApL.not (x := some b3) (S := [some b1]) ⟨(Src.ap' s2 (Lt.one (at_lt h1)) trivial), trivial⟩ _ rfl)
          have h186 := (h29).fr F42 ⟨(Src.ap' s3 (Lt.one (at_lt h10)) ⟨(Ap.symm (Src.ap' s1 (hp0).lt trivial)), trivial⟩), trivial⟩
          have h187 := (h30).fr F42 ⟨(Src.ap' s4 (Lt.one (at_lt h10)) trivial), trivial⟩
          have h188 := (h31).fr F42 ⟨(Src.ap' s5 (Lt.one (at_lt h10)) trivial), trivial⟩
          have h189 := (h24).fr F42 ⟨(Src.ap' s6 (Lt.one (at_lt h15)) trivial), trivial⟩
          have h190 := (h25).fr F42 ⟨(Src.ap' s7 (Lt.one (at_lt h15)) trivial), trivial⟩
          have F43 := Fr.step F12 F42 ⟨(In0.src s1 (Nat.le_refl _) trivial), trivial⟩
          refine ⟨_, rfl, ?_⟩
          obtain ⟨a5, q21, hm⟩ := of_let hm
          rw [q21] at h183
          refine WL.batch 1 [2, 3] (E' := [(2, .pointer (some ⟨b1, 0, none⟩)), (3, .bool false)]) (by kernel_rfl) ?_
          refine WL.nil ?_
          refine W.ret ?_
          obtain rfl := Option.some.inj hm
          replace hm := hm2
          obtain ⟨q0a, q0b⟩ := Prod.mk.inj (Option.some.inj hm)
          obtain ⟨q1a, q1b⟩ := Prod.mk.inj (q0b)
          obtain ⟨q2a, q2b⟩ := Prod.mk.inj (q1b)
          obtain ⟨q3a, q3b⟩ := Prod.mk.inj (q2b)
          obtain ⟨q4a, q4b⟩ := Prod.mk.inj (q3b)
          obtain ⟨q5a, q5b⟩ := Prod.mk.inj (q4b)
          obtain ⟨q6a, q6b⟩ := Prod.mk.inj (q5b)
          subst q0a
          subst q1a
          subst q2a
          subst q3a
          subst q4a
          subst q5a
          subst q6a
          subst q6b
          exact ⟨_, ⟨_, _, _, rfl, rfl, (loadVar_aggN Try.underlying25 rfl Try.sizeOf25 (len_app rfl (len_app rfl (len_app rfl (len_app rfl (len_app rfl (len_app (ivl _ _) rfl rfl) rfl) rfl) rfl) rfl) rfl) h183 (Lens.all _ ([Value.int .i64 0] ++ ([Value.string (⟨#[]⟩ : ByteArray)] ++ ([Value.string (⟨#[]⟩ : ByteArray)] ++ ([Value.int .i64 0] ++ ([Value.int .i64 0] ++ (ints .u8 a5.toList ++ ([Value.slice none 0 0]))))))))), ⟨_, _, rfl, rfl, rfl⟩⟩, ⟨none, 0, rfl, F43, (Own.nil _ _ _), (.inl (by simp [ablk, rblk]))⟩⟩
        · rw [c21]
          refine WL.batch 4 [2, 4, 5, 6, 8, 41] (E' := [(2, .pointer (some ⟨b1, 0, none⟩)), (4, .pointer (some ⟨b3, 0, none⟩)), (5, .slice A2 l2.length n2), (6, .slice A5 l5.length n5), (8, .slice A4 l4.length n4), (41, .bool (decide ((l5.length : Int) < (34 : Int))))]) (by kernel_rfl) ?_
          refine WL.nil ?_
          rcases of_cond hm with ⟨c22, hm⟩ | ⟨c22, hm⟩
          · refine W.condT _ rfl c22 ?_
            refine W.seq ?_
            refine W.region ?_
            refine WL.value (.agg ([Value.int .i64 0] ++ ([Value.string (⟨#[]⟩ : ByteArray)] ++ ([Value.string (⟨#[]⟩ : ByteArray)] ++ ([Value.int .i64 0] ++ ([Value.int .i64 0] ++ (ints .u8 (Vector.replicate 32 (0 : Int)).toList ++ ([Value.slice none 0 0]))))))).toArray) rfl rfl rfl (ex_build (z := .agg ([Value.int .i64 0] ++ ([Value.string (⟨#[]⟩ : ByteArray)] ++ ([Value.string (⟨#[]⟩ : ByteArray)] ++ ([Value.int .i64 0] ++ ([Value.int .i64 0] ++ (ints .u8 (Vector.replicate 32 (0 : Int)).toList ++ ([Value.slice none 0 0]))))))).toArray) (cs := [Value.int .i64 0] ++ ([Value.string (⟨#[]⟩ : ByteArray)] ++ ([Value.string (⟨#[]⟩ : ByteArray)] ++ ([Value.int .i64 0] ++ ([Value.int .i64 0] ++ (ints .u8 (Vector.replicate 32 (0 : Int)).toList ++ ([Value.slice none 0 0]))))))) (vs := []) (pl := #[(0, 1), (1, 1), (2, 1), (3, 1), (4, 1), (5, 32), (37, 1)]) Try.underlying25 rfl (fun _ => by kernel_rfl) rfl (fun _ => by kernel_rfl) (Fill.nil _)) rfl ?_
            refine WL.opS rfl rfl rfl (ex_storeObj rfl rfl Try.sizeOf25 h27 (Lens.all _ ([Value.int .i64 0] ++ ([Value.string (⟨#[]⟩ : ByteArray)] ++ ([Value.string (⟨#[]⟩ : ByteArray)] ++ ([Value.int .i64 0] ++ ([Value.int .i64 0] ++ (ints .u8 (Vector.replicate 32 (0 : Int)).toList ++ ([Value.slice none 0 0])))))))) (len_app rfl (len_app rfl (len_app rfl (len_app rfl (len_app rfl (len_app (ivl _ _) rfl rfl) rfl) rfl) rfl) rfl) rfl) (len_app rfl (len_app rfl (len_app rfl (len_app rfl (len_app rfl (len_app (ivl _ _) rfl rfl) rfl) rfl) rfl) rfl) rfl) rfl (one_app (one_sing rfl) (one_app (one_sing rfl) (one_app (one_sing rfl) (one_app (one_sing rfl) (one_app (one_sing rfl) (one_app (ints_one _ _) (one_sing rfl)))))))) ?_
            rintro w24 ⟨F44, h191⟩
            have h192 := (h26).fr F44 ⟨(Ap.symm (Src.ap' s1 (hp0).lt trivial)), trivial⟩
            have h193 := Fr.at F44 h28 (ApL.not (x := some b3) (S := [some b1]) ⟨(Src.ap' s2 (Lt.one (at_lt h1)) trivial), trivial⟩ _ rfl)
            have h194 := (h29).fr F44 ⟨(Src.ap' s3 (Lt.one (at_lt h10)) ⟨(Ap.symm (Src.ap' s1 (hp0).lt trivial)), trivial⟩), trivial⟩
            have h195 := (h30).fr F44 ⟨(Src.ap' s4 (Lt.one (at_lt h10)) trivial), trivial⟩
            have h196 := (h31).fr F44 ⟨(Src.ap' s5 (Lt.one (at_lt h10)) trivial), trivial⟩
            have h197 := (h24).fr F44 ⟨(Src.ap' s6 (Lt.one (at_lt h15)) trivial), trivial⟩
            have h198 := (h25).fr F44 ⟨(Src.ap' s7 (Lt.one (at_lt h15)) trivial), trivial⟩
            have F45 := Fr.step F12 F44 ⟨(In0.src s1 (Nat.le_refl _) trivial), trivial⟩
            refine ⟨_, rfl, ?_⟩
            obtain ⟨a6, q22, hm⟩ := of_let hm
            rw [q22] at h191
            refine WL.batch 1 [2, 3] (E' := [(2, .pointer (some ⟨b1, 0, none⟩)), (3, .bool false)]) (by kernel_rfl) ?_
            refine WL.nil ?_
            refine W.ret ?_
            obtain rfl := Option.some.inj hm
            replace hm := hm2
            obtain ⟨q0a, q0b⟩ := Prod.mk.inj (Option.some.inj hm)
            obtain ⟨q1a, q1b⟩ := Prod.mk.inj (q0b)
            obtain ⟨q2a, q2b⟩ := Prod.mk.inj (q1b)
            obtain ⟨q3a, q3b⟩ := Prod.mk.inj (q2b)
            obtain ⟨q4a, q4b⟩ := Prod.mk.inj (q3b)
            obtain ⟨q5a, q5b⟩ := Prod.mk.inj (q4b)
            obtain ⟨q6a, q6b⟩ := Prod.mk.inj (q5b)
            subst q0a
            subst q1a
            subst q2a
            subst q3a
            subst q4a
            subst q5a
            subst q6a
            subst q6b
            exact ⟨_, ⟨_, _, _, rfl, rfl, (loadVar_aggN Try.underlying25 rfl Try.sizeOf25 (len_app rfl (len_app rfl (len_app rfl (len_app rfl (len_app rfl (len_app (ivl _ _) rfl rfl) rfl) rfl) rfl) rfl) rfl) h191 (Lens.all _ ([Value.int .i64 0] ++ ([Value.string (⟨#[]⟩ : ByteArray)] ++ ([Value.string (⟨#[]⟩ : ByteArray)] ++ ([Value.int .i64 0] ++ ([Value.int .i64 0] ++ (ints .u8 a6.toList ++ ([Value.slice none 0 0]))))))))), ⟨_, _, rfl, rfl, rfl⟩⟩, ⟨none, 0, rfl, F45, (Own.nil _ _ _), (.inl (by simp [ablk, rblk]))⟩⟩
          · refine W.condF _ rfl c22 ?_
            refine W.skip ?_
            exact rest1 _ _ ⟨⟨rfl, rfl, rfl, rfl, rfl, trivial⟩, h26, h27, h28, h29, h30, h31, h24, h25, F12, (Option.some.inj hm)⟩

/- cautery/bisect.Decode -/
theorem bisect_Decode_walk (k : Nat) (p0 : List Int) (Ap0 : Option Addr) (np0 : Nat) (w : World) (hp0 : Rd w 1 Ap0 p0.length np0 (ints .u8 p0)) (r0 : Int) (r1 : ByteArray) (r2 : ByteArray) (r3 : Int) (r4 : Int) (r5 : Vector Int 32) (r6 : List Int) (r7 : Int) (hm : bisect_Decode.f k p0 = some (r0, r1, r2, r3, r4, r5, r6, r7)) :
    Calls Try.prog 13 #[.slice Ap0 p0.length np0] w fun e w' => ∃ (A6 : Option Addr) (n6 : Nat), e = .returned (.tuple #[.agg ([Value.int .i64 r0] ++ ([Value.string r1] ++ ([Value.string r2] ++ ([Value.int .i64 r3] ++ ([Value.int .i64 r4] ++ (ints .u8 r5.toList ++ ([Value.slice A6 r6.length n6]))))))).toArray, .int .i64 r7]) ∧ Fr [] w w' ∧ Own w' 5 1 A6 r6.length n6 (ints .u8 r6) ∧ Src (ablk A6) w.heap.size [] := by
  have F0 := Fr.refl [] w
  unfold bisect_Decode.f at hm
  refine W.enter (args := [.slice Ap0 p0.length np0]) Try.func13 rfl (n := 42) rfl rfl ?_
  refine W.seq ?_
  refine W.region ?_
  refine WL.op rfl rfl rfl (ex_alloc' (z := .agg ([Value.int .i64 0] ++ ([Value.string (⟨#[]⟩ : ByteArray)] ++ ([Value.string (⟨#[]⟩ : ByteArray)] ++ ([Value.int .i64 0] ++ ([Value.int .i64 0] ++ (ints .u8 (Vector.replicate 32 (0 : Int)).toList ++ ([Value.slice none 0 0]))))))).toArray) (cs := [Value.int .i64 0] ++ ([Value.string (⟨#[]⟩ : ByteArray)] ++ ([Value.string (⟨#[]⟩ : ByteArray)] ++ ([Value.int .i64 0] ++ ([Value.int .i64 0] ++ (ints .u8 (Vector.replicate 32 (0 : Int)).toList ++ ([Value.slice none 0 0]))))))) (fun _ => by kernel_rfl) (by kernel_rfl)) ?_
  rintro _ w1 ⟨b1, rfl, N1⟩
  have h1 := N1.at_
  have s1 := Src.new [] (Ge.one N1.ge)
  have h2 := (hp0).fr N1.fr trivial
  have F1 := Fr.step F0 N1.fr trivial
  refine ⟨_, rfl, ?_⟩
  refine WL.batch 1 [0, 2] (E' := [(0, .slice Ap0 p0.length np0), (2, .pointer (some ⟨b1, 0, none⟩))]) (by kernel_rfl) ?_
  refine WL.nil ?_
  refine W.seq ?_
  refine W.region ?_
  refine WL.batch 4 [0, 2, 4] (E' := [(0, .slice Ap0 p0.length np0), (2, .pointer (some ⟨b1, 0, none⟩)), (4, .int .i64 (wsub .i64 (p0.length : Int) 4))]) (by kernel_rfl) ?_
  obtain ⟨x1, q1, hm⟩ := of_let hm
  rw [q1]
  refine WL.nil ?_
  refine W.seq ?_
  refine W.block ?_
  refine W.seq ?_
  refine W.region ?_
  refine WL.batch 4 [0, 2, 4, 11] (E' := [(0, .slice Ap0 p0.length np0), (2, .pointer (some ⟨b1, 0, none⟩)), (4, .int .i64 x1), (11, .bool (decide ((p0.length : Int) > (600 : Int))))]) (by kernel_rfl) ?_
  refine WL.nil ?_
  rcases of_cond hm with ⟨c1, hm⟩ | ⟨c1, hm⟩
  · refine W.condT _ rfl c1 ?_
    refine W.seq ?_
    refine W.region ?_
    refine WL.value (.agg ([Value.int .i64 0] ++ ([Value.string (⟨#[]⟩ : ByteArray)] ++ ([Value.string (⟨#[]⟩ : ByteArray)] ++ ([Value.int .i64 0] ++ ([Value.int .i64 0] ++ (ints .u8 (Vector.replicate 32 (0 : Int)).toList ++ ([Value.slice none 0 0]))))))).toArray) rfl rfl rfl (ex_build (z := .agg ([Value.int .i64 0] ++ ([Value.string (⟨#[]⟩ : ByteArray)] ++ ([Value.string (⟨#[]⟩ : ByteArray)] ++ ([Value.int .i64 0] ++ ([Value.int .i64 0] ++ (ints .u8 (Vector.replicate 32 (0 : Int)).toList ++ ([Value.slice none 0 0]))))))).toArray) (cs := [Value.int .i64 0] ++ ([Value.string (⟨#[]⟩ : ByteArray)] ++ ([Value.string (⟨#[]⟩ : ByteArray)] ++ ([Value.int .i64 0] ++ ([Value.int .i64 0] ++ (ints .u8 (Vector.replicate 32 (0 : Int)).toList ++ ([Value.slice none 0 0]))))))) (vs := []) (pl := #[(0, 1), (1, 1), (2, 1), (3, 1), (4, 1), (5, 32), (37, 1)]) Try.underlying25 rfl (fun _ => by kernel_rfl) rfl (fun _ => by kernel_rfl) (Fill.nil _)) rfl ?_
    refine WL.opS rfl rfl rfl (ex_storeObj rfl rfl Try.sizeOf25 h1 (Lens.all _ ([Value.int .i64 0] ++ ([Value.string (⟨#[]⟩ : ByteArray)] ++ ([Value.string (⟨#[]⟩ : ByteArray)] ++ ([Value.int .i64 0] ++ ([Value.int .i64 0] ++ (ints .u8 (Vector.replicate 32 (0 : Int)).toList ++ ([Value.slice none 0 0])))))))) (len_app rfl (len_app rfl (len_app rfl (len_app rfl (len_app rfl (len_app (ivl _ _) rfl rfl) rfl) rfl) rfl) rfl) rfl) (len_app rfl (len_app rfl (len_app rfl (len_app rfl (len_app rfl (len_app (ivl _ _) rfl rfl) rfl) rfl) rfl) rfl) rfl) rfl (one_app (one_sing rfl) (one_app (one_sing rfl) (one_app (one_sing rfl) (one_app (one_sing rfl) (one_app (one_sing rfl) (one_app (ints_one _ _) (one_sing rfl)))))))) ?_
    rintro w2 ⟨F2, h3⟩
    have h4 := (h2).fr F2 ⟨(Ap.symm (Src.ap' s1 (hp0).lt trivial)), trivial⟩
    have F3 := Fr.step F1 F2 ⟨(In0.src s1 (Nat.le_refl _) trivial), trivial⟩
    refine ⟨_, rfl, ?_⟩
    obtain ⟨a1, q2, hm⟩ := of_let hm
    rw [q2] at h3
    refine WL.batch 1 [2, 3] (E' := [(2, .pointer (some ⟨b1, 0, none⟩)), (3, .int .i64 4)]) (by kernel_rfl) ?_
    refine WL.nil ?_
    refine W.ret ?_
    obtain ⟨q0a, q0b⟩ := Prod.mk.inj (Option.some.inj hm)
    obtain ⟨q1a, q1b⟩ := Prod.mk.inj (q0b)
    obtain ⟨q2a, q2b⟩ := Prod.mk.inj (q1b)
    obtain ⟨q3a, q3b⟩ := Prod.mk.inj (q2b)
    obtain ⟨q4a, q4b⟩ := Prod.mk.inj (q3b)
    obtain ⟨q5a, q5b⟩ := Prod.mk.inj (q4b)
    obtain ⟨q6a, q6b⟩ := Prod.mk.inj (q5b)
    subst q0a
    subst q1a
    subst q2a
    subst q3a
    subst q4a
    subst q5a
    subst q6a
    subst q6b
    exact ⟨_, ⟨_, _, _, rfl, rfl, (loadVar_aggN Try.underlying25 rfl Try.sizeOf25 (len_app rfl (len_app rfl (len_app rfl (len_app rfl (len_app rfl (len_app (ivl _ _) rfl rfl) rfl) rfl) rfl) rfl) rfl) h3 (Lens.all _ ([Value.int .i64 0] ++ ([Value.string (⟨#[]⟩ : ByteArray)] ++ ([Value.string (⟨#[]⟩ : ByteArray)] ++ ([Value.int .i64 0] ++ ([Value.int .i64 0] ++ (ints .u8 a1.toList ++ ([Value.slice none 0 0]))))))))), ⟨_, _, rfl, rfl, rfl⟩⟩, ⟨none, 0, rfl, F3, (Own.nil _ _ _), (.inl (by simp [ablk, rblk]))⟩⟩
  · refine W.condF _ rfl c1 ?_
    refine W.seq ?_
    refine W.region ?_
    refine WL.batch 3 [0, 2, 4, 16] (E' := [(0, .slice Ap0 p0.length np0), (2, .pointer (some ⟨b1, 0, none⟩)), (4, .int .i64 x1), (16, .bool (decide (x1 < (0 : Int))))]) (by kernel_rfl) ?_
    refine WL.nil ?_
    rcases of_cond hm with ⟨c2, hm⟩ | ⟨c2, hm⟩
    · refine W.condT _ rfl c2 ?_
      refine W.seq ?_
      refine W.region ?_
      refine WL.value (.agg ([Value.int .i64 0] ++ ([Value.string (⟨#[]⟩ : ByteArray)] ++ ([Value.string (⟨#[]⟩ : ByteArray)] ++ ([Value.int .i64 0] ++ ([Value.int .i64 0] ++ (ints .u8 (Vector.replicate 32 (0 : Int)).toList ++ ([Value.slice none 0 0]))))))).toArray) rfl rfl rfl (ex_build (z := .agg ([Value.int .i64 0] ++ ([Value.string (⟨#[]⟩ : ByteArray)] ++ ([Value.string (⟨#[]⟩ : ByteArray)] ++ ([Value.int .i64 0] ++ ([Value.int .i64 0] ++ (ints .u8 (Vector.replicate 32 (0 : Int)).toList ++ ([Value.slice none 0 0]))))))).toArray) (cs := [Value.int .i64 0] ++ ([Value.string (⟨#[]⟩ : ByteArray)] ++ ([Value.string (⟨#[]⟩ : ByteArray)] ++ ([Value.int .i64 0] ++ ([Value.int .i64 0] ++ (ints .u8 (Vector.replicate 32 (0 : Int)).toList ++ ([Value.slice none 0 0]))))))) (vs := []) (pl := #[(0, 1), (1, 1), (2, 1), (3, 1), (4, 1), (5, 32), (37, 1)]) Try.underlying25 rfl (fun _ => by kernel_rfl) rfl (fun _ => by kernel_rfl) (Fill.nil _)) rfl ?_
      refine WL.opS rfl rfl rfl (ex_storeObj rfl rfl Try.sizeOf25 h1 (Lens.all _ ([Value.int .i64 0] ++ ([Value.string (⟨#[]⟩ : ByteArray)] ++ ([Value.string (⟨#[]⟩ : ByteArray)] ++ ([Value.int .i64 0] ++ ([Value.int .i64 0] ++ (ints .u8 (Vector.replicate 32 (0 : Int)).toList ++ ([Value.slice none 0 0])))))))) (len_app rfl (len_app rfl (len_app rfl (len_app rfl (len_app rfl (len_app (ivl _ _) rfl rfl) rfl) rfl) rfl) rfl) rfl) (len_app rfl (len_app rfl (len_app rfl (len_app rfl (len_app rfl (len_app (ivl _ _) rfl rfl) rfl) rfl) rfl) rfl) rfl) rfl (one_app (one_sing rfl) (one_app (one_sing rfl) (one_app (one_sing rfl) (one_app (one_sing rfl) (one_app (one_sing rfl) (one_app (ints_one _ _) (one_sing rfl)))))))) ?_
      rintro w3 ⟨F4, h5⟩
      have h6 := (h2).fr F4 ⟨(Ap.symm (Src.ap' s1 (hp0).lt trivial)), trivial⟩
      have F5 := Fr.step F1 F4 ⟨(In0.src s1 (Nat.le_refl _) trivial), trivial⟩
      refine ⟨_, rfl, ?_⟩
      obtain ⟨a2, q3, hm⟩ := of_let hm
      rw [q3] at h5
      refine WL.batch 1 [2, 3] (E' := [(2, .pointer (some ⟨b1, 0, none⟩)), (3, .int .i64 14)]) (by kernel_rfl) ?_
      refine WL.nil ?_
      refine W.ret ?_
      obtain ⟨q0a, q0b⟩ := Prod.mk.inj (Option.some.inj hm)
      obtain ⟨q1a, q1b⟩ := Prod.mk.inj (q0b)
      obtain ⟨q2a, q2b⟩ := Prod.mk.inj (q1b)
      obtain ⟨q3a, q3b⟩ := Prod.mk.inj (q2b)
      obtain ⟨q4a, q4b⟩ := Prod.mk.inj (q3b)
      obtain ⟨q5a, q5b⟩ := Prod.mk.inj (q4b)
      obtain ⟨q6a, q6b⟩ := Prod.mk.inj (q5b)
      subst q0a
      subst q1a
      subst q2a
      subst q3a
      subst q4a
      subst q5a
      subst q6a
      subst q6b
      exact ⟨_, ⟨_, _, _, rfl, rfl, (loadVar_aggN Try.underlying25 rfl Try.sizeOf25 (len_app rfl (len_app rfl (len_app rfl (len_app rfl (len_app rfl (len_app (ivl _ _) rfl rfl) rfl) rfl) rfl) rfl) rfl) h5 (Lens.all _ ([Value.int .i64 0] ++ ([Value.string (⟨#[]⟩ : ByteArray)] ++ ([Value.string (⟨#[]⟩ : ByteArray)] ++ ([Value.int .i64 0] ++ ([Value.int .i64 0] ++ (ints .u8 a2.toList ++ ([Value.slice none 0 0]))))))))), ⟨_, _, rfl, rfl, rfl⟩⟩, ⟨none, 0, rfl, F5, (Own.nil _ _ _), (.inl (by simp [ablk, rblk]))⟩⟩
    · refine W.condF _ rfl c2 ?_
      refine W.skip ?_
      refine W.seq ?_
      refine W.seq ?_
      refine W.region ?_
      refine WL.batch 2 [0, 2, 4, 20, 21] (E' := [(0, .slice Ap0 p0.length np0), (2, .pointer (some ⟨b1, 0, none⟩)), (4, .int .i64 x1), (20, .slice Ap0 p0.length np0), (21, .int .i64 x1)]) (by kernel_rfl) ?_
      obtain ⟨⟨c3, c4, c5⟩, hm⟩ := of_guard hm
      obtain ⟨l1, q4, hm⟩ := of_let hm
      refine WL.opU rfl rfl rfl (ex_sliceU (k1 := .i64) (k2 := .i64) (k := .u8) Try.underlying23 Try.sizeOf5 rfl (.inr ⟨rfl, rfl⟩) (.inl rfl) ⟨c3, c4, c5⟩ h2 q4) ?_
      rintro _ ⟨A1, n1, rfl, h7, s2⟩
      refine ⟨_, rfl, ?_⟩
      obtain ⟨a3, q5, hm⟩ := of_bind hm
      refine WL.call rfl rfl rfl (ex_callI (args := [.slice A1 l1.length n1]) rfl rfl rfl Try.call17) (sha_Sum_walk k l1 A1 n1 _ h7  a3 q5) ?_
      rintro _ w4 ⟨rfl, F6⟩
      have h8 := (h2).fr F6 trivial
      have h9 := Fr.at F6 h1 (ApL.not (x := some b1) (S := []) trivial _ rfl)
      have h10 := (h7).fr F6 trivial
      have F7 := Fr.step F1 F6 trivial
      refine ⟨_, _, rfl, rfl, ?_⟩
      refine WL.op rfl rfl rfl (ex_alloc' (z := .agg (ints .u8 (Vector.replicate 32 (0 : Int)).toList).toArray) (cs := ints .u8 (Vector.replicate 32 (0 : Int)).toList) (fun _ => by kernel_rfl) (by kernel_rfl)) ?_
      rintro _ w5 ⟨b2, rfl, N2⟩
      have h11 := N2.at_
      have s3 := Src.new [] (Ge.one N2.ge)
      have h12 := (h8).fr N2.fr trivial
      have h13 := Fr.at N2.fr h9 (ApL.not (x := some b1) (S := []) trivial _ rfl)
      have h14 := (h10).fr N2.fr trivial
      have F8 := Fr.step F7 N2.fr trivial
      refine ⟨_, rfl, ?_⟩
      refine WL.opS rfl rfl rfl (ex_storeObj rfl rfl Try.sizeOf22 h11 (Lens.all _ (ints .u8 a3.toList)) (ivl _ _) (ivl _ _) rfl (ints_one _ _)) ?_
      rintro w6 ⟨F9, h15⟩
      have h16 := (h12).fr F9 ⟨(Ap.symm (Src.ap' s3 (h8).lt trivial)), trivial⟩
      have h17 := Fr.at F9 h13 (ApL.not (x := some b1) (S := [some b2]) ⟨(Ap.symm (Src.ap' s3 (Lt.one (at_lt h9)) trivial)), trivial⟩ _ rfl)
      have h18 := (h14).fr F9 ⟨(Ap.symm (Src.ap' s3 (h10).lt trivial)), trivial⟩
      have F10 := Fr.step F8 F9 ⟨(In0.src s3 F7.size trivial), trivial⟩
      refine ⟨_, rfl, ?_⟩
      refine WL.nil ?_
      refine W.seq ?_
      refine W.regionDw (N := 6) Try_mixed rfl ?_
      intro w7 F11
      have h19 := (h16).fr F11 trivial
      have h20 := Fr.at F11 h17 (ApL.not (x := some b1) (S := []) trivial _ rfl)
      have h21 := (h18).fr F11 trivial
      have h22 := Fr.at F11 h15 (ApL.not (x := some b2) (S := []) trivial _ rfl)
      have F12 := Fr.step F10 F11 trivial
      refine WD.batch (f' := 4) [1, 2] #[false, true, true, false, false, false] [0, 2, 4, 5, 25, 26] rfl (E' := [(0, .slice Ap0 p0.length np0), (2, .pointer (some ⟨b1, 0, none⟩)), (4, .int .i64 x1), (5, .pointer (some ⟨b2, 0, none⟩)), (25, .slice Ap0 p0.length np0), (26, .int .i64 x1)]) (by kernel_rfl) ?_
      obtain ⟨l2, q6, hm⟩ := of_let hm
      refine WD.opU 0 rfl (by kernel_rfl) rfl rfl (ex_sliceArrU (k1 := .i64) (k2 := .i64) (k := .u8) (v := a3) Try.underlying22 Try.sizeOf5 rfl (.inr ⟨rfl, rfl⟩) (.inl rfl) (by decide) rfl h22 (Lens.all _ (ints .u8 a3.toList)) q6) ?_
      rintro _ ⟨o1, n2, rfl, h23, q7, s4⟩
      refine ⟨_, rfl, ?_⟩
      obtain ⟨⟨c6, c7, c8⟩, hm⟩ := of_guard hm
      obtain ⟨l3, q8, hm⟩ := of_let hm
      refine WD.opU 3 rfl (by kernel_rfl) rfl rfl (ex_sliceU (k1 := .i64) (k2 := .i64) (k := .u8) Try.underlying23 Try.sizeOf5 rfl (.inl rfl) (.inr ⟨rfl, rfl⟩) ⟨c6, c7, c8⟩ h19 q8) ?_
      rintro _ ⟨A2, n3, rfl, h24, s5⟩
      refine ⟨_, rfl, ?_⟩
      obtain ⟨y1, q9, hm⟩ := of_bind hm
      refine WD.call 4 (by kernel_rfl) rfl rfl rfl rfl (ex_callI (args := [.slice (some ⟨b2, o1, none⟩) l2.length n2, .slice A2 l3.length n3]) rfl rfl rfl Try.call22) (bytes_Equal_walk l2 l3 (some ⟨b2, o1, none⟩) n2 A2 n3 _ h23 h24  y1 q9) ?_
      rintro _ w8 ⟨rfl, F13⟩
      have h25 := (h19).fr F13 trivial
      have h26 := Fr.at F13 h20 (ApL.not (x := some b1) (S := []) trivial _ rfl)
      have h27 := (h21).fr F13 trivial
      have h28 := Fr.at F13 h22 (ApL.not (x := some b2) (S := []) trivial _ rfl)
      have h29 := (h23).fr F13 trivial
      have h30 := (h24).fr F13 trivial
      have F14 := Fr.step F12 F13 trivial
      refine ⟨_, _, rfl, rfl, trivial, ?_⟩
      refine WD.batch (f' := 0) [5] #[true, true, true, true, true, true] [0, 2, 4, 29] rfl (E' := [(0, .slice Ap0 p0.length np0), (2, .pointer (some ⟨b1, 0, none⟩)), (4, .int .i64 x1), (29, .bool (!y1))]) (by kernel_rfl) ?_
      refine WD.end_ (by kernel_rfl) ?_
      rcases of_cond hm with ⟨c9, hm⟩ | ⟨c9, hm⟩
      · refine W.condT _ rfl c9 ?_
        refine W.seq ?_
        refine W.region ?_
        refine WL.value (.agg ([Value.int .i64 0] ++ ([Value.string (⟨#[]⟩ : ByteArray)] ++ ([Value.string (⟨#[]⟩ : ByteArray)] ++ ([Value.int .i64 0] ++ ([Value.int .i64 0] ++ (ints .u8 (Vector.replicate 32 (0 : Int)).toList ++ ([Value.slice none 0 0]))))))).toArray) rfl rfl rfl (ex_build (z := .agg ([Value.int .i64 0] ++ ([Value.string (⟨#[]⟩ : ByteArray)] ++ ([Value.string (⟨#[]⟩ : ByteArray)] ++ ([Value.int .i64 0] ++ ([Value.int .i64 0] ++ (ints .u8 (Vector.replicate 32 (0 : Int)).toList ++ ([Value.slice none 0 0]))))))).toArray) (cs := [Value.int .i64 0] ++ ([Value.string (⟨#[]⟩ : ByteArray)] ++ ([Value.string (⟨#[]⟩ : ByteArray)] ++ ([Value.int .i64 0] ++ ([Value.int .i64 0] ++ (ints .u8 (Vector.replicate 32 (0 : Int)).toList ++ ([Value.slice none 0 0]))))))) (vs := []) (pl := #[(0, 1), (1, 1), (2, 1), (3, 1), (4, 1), (5, 32), (37, 1)]) Try.underlying25 rfl (fun _ => by kernel_rfl) rfl (fun _ => by kernel_rfl) (Fill.nil _)) rfl ?_
        refine WL.opS rfl rfl rfl (ex_storeObj rfl rfl Try.sizeOf25 h26 (Lens.all _ ([Value.int .i64 0] ++ ([Value.string (⟨#[]⟩ : ByteArray)] ++ ([Value.string (⟨#[]⟩ : ByteArray)] ++ ([Value.int .i64 0] ++ ([Value.int .i64 0] ++ (ints .u8 (Vector.replicate 32 (0 : Int)).toList ++ ([Value.slice none 0 0])))))))) (len_app rfl (len_app rfl (len_app rfl (len_app rfl (len_app rfl (len_app (ivl _ _) rfl rfl) rfl) rfl) rfl) rfl) rfl) (len_app rfl (len_app rfl (len_app rfl (len_app rfl (len_app rfl (len_app (ivl _ _) rfl rfl) rfl) rfl) rfl) rfl) rfl) rfl (one_app (one_sing rfl) (one_app (one_sing rfl) (one_app (one_sing rfl) (one_app (one_sing rfl) (one_app (one_sing rfl) (one_app (ints_one _ _) (one_sing rfl)))))))) ?_
        rintro w9 ⟨F15, h31⟩
        have h32 := (h25).fr F15 ⟨(Ap.symm (Src.ap' s1 (hp0).lt trivial)), trivial⟩
        have h33 := (h27).fr F15 ⟨(Src.ap' s2 (Lt.one (at_lt h1)) ⟨(Ap.symm (Src.ap' s1 (hp0).lt trivial)), trivial⟩), trivial⟩
        have h34 := Fr.at F15 h28 (ApL.not (x := some b2) (S := [some b1]) ⟨(Src.ap' s3 (Lt.one (at_lt h9)) trivial), trivial⟩ _ rfl)
        have h35 := (h29).fr F15 ⟨(Src.ap' s4 (Lt.one (at_lt h20)) ⟨(Src.ap' s3 (Lt.one (at_lt h9)) trivial), trivial⟩), trivial⟩
        have h36 := (h30).fr F15 ⟨(Src.ap' s5 (Lt.one (at_lt h20)) ⟨(Ap.symm (Src.ap' s1 (hp0).lt trivial)), trivial⟩), trivial⟩
        have F16 := Fr.step F14 F15 ⟨(In0.src s1 (Nat.le_refl _) trivial), trivial⟩
        refine ⟨_, rfl, ?_⟩
        obtain ⟨a4, q10, hm⟩ := of_let hm
        rw [q10] at h31
        refine WL.batch 1 [2, 3] (E' := [(2, .pointer (some ⟨b1, 0, none⟩)), (3, .int .i64 14)]) (by kernel_rfl) ?_
        refine WL.nil ?_
        refine W.ret ?_
        obtain ⟨q0a, q0b⟩ := Prod.mk.inj (Option.some.inj hm)
        obtain ⟨q1a, q1b⟩ := Prod.mk.inj (q0b)
        obtain ⟨q2a, q2b⟩ := Prod.mk.inj (q1b)
        obtain ⟨q3a, q3b⟩ := Prod.mk.inj (q2b)
        obtain ⟨q4a, q4b⟩ := Prod.mk.inj (q3b)
        obtain ⟨q5a, q5b⟩ := Prod.mk.inj (q4b)
        obtain ⟨q6a, q6b⟩ := Prod.mk.inj (q5b)
        subst q0a
        subst q1a
        subst q2a
        subst q3a
        subst q4a
        subst q5a
        subst q6a
        subst q6b
        exact ⟨_, ⟨_, _, _, rfl, rfl, (loadVar_aggN Try.underlying25 rfl Try.sizeOf25 (len_app rfl (len_app rfl (len_app rfl (len_app rfl (len_app rfl (len_app (ivl _ _) rfl rfl) rfl) rfl) rfl) rfl) rfl) h31 (Lens.all _ ([Value.int .i64 0] ++ ([Value.string (⟨#[]⟩ : ByteArray)] ++ ([Value.string (⟨#[]⟩ : ByteArray)] ++ ([Value.int .i64 0] ++ ([Value.int .i64 0] ++ (ints .u8 a4.toList ++ ([Value.slice none 0 0]))))))))), ⟨_, _, rfl, rfl, rfl⟩⟩, ⟨none, 0, rfl, F16, (Own.nil _ _ _), (.inl (by simp [ablk, rblk]))⟩⟩
      · refine W.condF _ rfl c9 ?_
        refine W.skip ?_
        refine W.seq ?_
        refine W.region ?_
        refine WL.batch 2 [2, 32, 33] (E' := [(2, .pointer (some ⟨b1, 0, none⟩)), (32, .slice Ap0 p0.length np0), (33, .int .i64 x1)]) (by kernel_rfl) ?_
        obtain ⟨l4, q11, hm⟩ := of_let hm
        refine WL.opU rfl rfl rfl (ex_sliceU (k1 := .i64) (k2 := .i64) (k := .u8) Try.underlying23 Try.sizeOf5 rfl (.inr ⟨rfl, rfl⟩) (.inl rfl) ⟨c3, c4, c5⟩ h25 q11) ?_
        rintro _ ⟨A3, n4, rfl, h37, s6⟩
        refine ⟨_, rfl, ?_⟩
        obtain ⟨⟨x2, s7, s8, x3, x4, a5, l5, y2⟩, q12, hm⟩ := of_bind hm
        refine WL.call rfl rfl rfl (ex_callI (args := [.slice A3 l4.length n4]) rfl rfl rfl Try.call23) (bisect_parse_walk k l4 A3 n4 _ h37  x2 s7 s8 x3 x4 a5 l5 y2 q12) ?_
        rintro _ w10 ⟨A4, n5, rfl, F17, h38, s9⟩
        have h39 := (h25).fr F17 trivial
        have h40 := Fr.at F17 h26 (ApL.not (x := some b1) (S := []) trivial _ rfl)
        have h41 := (h27).fr F17 trivial
        have h42 := Fr.at F17 h28 (ApL.not (x := some b2) (S := []) trivial _ rfl)
        have h43 := (h29).fr F17 trivial
        have h44 := (h30).fr F17 trivial
        have h45 := (h37).fr F17 trivial
        have F18 := Fr.step F14 F17 trivial
        refine ⟨_, _, rfl, rfl, ?_⟩
        refine WL.batch 3 [2, 36, 37] (E' := [(2, .pointer (some ⟨b1, 0, none⟩)), (36, .agg ([Value.int .i64 x2] ++ ([Value.string s7] ++ ([Value.string s8] ++ ([Value.int .i64 x3] ++ ([Value.int .i64 x4] ++ (ints .u8 a5.toList ++ ([Value.slice A4 l5.length n5]))))))).toArray), (37, .bool y2)]) (by kernel_rfl) ?_
        refine WL.op rfl rfl rfl (ex_alloc' (z := .agg ([Value.int .i64 0] ++ ([Value.string (⟨#[]⟩ : ByteArray)] ++ ([Value.string (⟨#[]⟩ : ByteArray)] ++ ([Value.int .i64 0] ++ ([Value.int .i64 0] ++ (ints .u8 (Vector.replicate 32 (0 : Int)).toList ++ ([Value.slice none 0 0]))))))).toArray) (cs := [Value.int .i64 0] ++ ([Value.string (⟨#[]⟩ : ByteArray)] ++ ([Value.string (⟨#[]⟩ : ByteArray)] ++ ([Value.int .i64 0] ++ ([Value.int .i64 0] ++ (ints .u8 (Vector.replicate 32 (0 : Int)).toList ++ ([Value.slice none 0 0]))))))) (fun _ => by kernel_rfl) (by kernel_rfl)) ?_
        rintro _ w11 ⟨b3, rfl, N3⟩
        have h46 := N3.at_
        have s10 := Src.new [] (Ge.one N3.ge)
        have h47 := (h39).fr N3.fr trivial
        have h48 := Fr.at N3.fr h40 (ApL.not (x := some b1) (S := []) trivial _ rfl)
        have h49 := (h41).fr N3.fr trivial
        have h50 := Fr.at N3.fr h42 (ApL.not (x := some b2) (S := []) trivial _ rfl)
        have h51 := (h43).fr N3.fr trivial
        have h52 := (h44).fr N3.fr trivial
        have h53 := (h45).fr N3.fr trivial
        have h54 := (h38).fr N3.fr trivial
        have F19 := Fr.step F18 N3.fr trivial
        refine ⟨_, rfl, ?_⟩
        refine WL.opS rfl rfl rfl (ex_storeObj rfl rfl Try.sizeOf25 h46 (Lens.all _ ([Value.int .i64 x2] ++ ([Value.string s7] ++ ([Value.string s8] ++ ([Value.int .i64 x3] ++ ([Value.int .i64 x4] ++ (ints .u8 a5.toList ++ ([Value.slice A4 l5.length n5])))))))) (len_app rfl (len_app rfl (len_app rfl (len_app rfl (len_app rfl (len_app (ivl _ _) rfl rfl) rfl) rfl) rfl) rfl) rfl) (len_app rfl (len_app rfl (len_app rfl (len_app rfl (len_app rfl (len_app (ivl _ _) rfl rfl) rfl) rfl) rfl) rfl) rfl) rfl (one_app (one_sing rfl) (one_app (one_sing rfl) (one_app (one_sing rfl) (one_app (one_sing rfl) (one_app (one_sing rfl) (one_app (ints_one _ _) (one_sing rfl)))))))) ?_
        rintro w12 ⟨F20, h55⟩
        have h56 := (h47).fr F20 ⟨(Ap.symm (Src.ap' s10 (h39).lt trivial)), trivial⟩
        have h57 := Fr.at F20 h48 (ApL.not (x := some b1) (S := [some b3]) ⟨(Ap.symm (Src.ap' s10 (Lt.one (at_lt h40)) trivial)), trivial⟩ _ rfl)
        have h58 := (h49).fr F20 ⟨(Ap.symm (Src.ap' s10 (h41).lt trivial)), trivial⟩
        have h59 := Fr.at F20 h50 (ApL.not (x := some b2) (S := [some b3]) ⟨(Ap.symm (Src.ap' s10 (Lt.one (at_lt h42)) trivial)), trivial⟩ _ rfl)
        have h60 := (h51).fr F20 ⟨(Ap.symm (Src.ap' s10 (h43).lt trivial)), trivial⟩
        have h61 := (h52).fr F20 ⟨(Ap.symm (Src.ap' s10 (h44).lt trivial)), trivial⟩
        have h62 := (h53).fr F20 ⟨(Ap.symm (Src.ap' s10 (h45).lt trivial)), trivial⟩
        have h63 := (h54).fr F20 ⟨(Ap.symm (Src.ap' s10 (h38).lt trivial)), trivial⟩
        have F21 := Fr.step F19 F20 ⟨(In0.src s10 F18.size trivial), trivial⟩
        refine ⟨_, rfl, ?_⟩
        refine WL.batch 1 [2, 6, 7] (E' := [(2, .pointer (some ⟨b1, 0, none⟩)), (6, .pointer (some ⟨b3, 0, none⟩)), (7, .bool y2)]) (by kernel_rfl) ?_
        refine WL.nil ?_
        refine W.seq ?_
        refine W.seq ?_
        refine W.region ?_
        refine WL.batch 2 [2, 6, 39] (E' := [(2, .pointer (some ⟨b1, 0, none⟩)), (6, .pointer (some ⟨b3, 0, none⟩)), (39, .bool (!y2))]) (by kernel_rfl) ?_
        refine WL.nil ?_
        rcases of_cond hm with ⟨c10, hm⟩ | ⟨c10, hm⟩
        · refine W.condT _ rfl c10 ?_
          refine W.seq ?_
          refine W.region ?_
          refine WL.value (.agg ([Value.int .i64 0] ++ ([Value.string (⟨#[]⟩ : ByteArray)] ++ ([Value.string (⟨#[]⟩ : ByteArray)] ++ ([Value.int .i64 0] ++ ([Value.int .i64 0] ++ (ints .u8 (Vector.replicate 32 (0 : Int)).toList ++ ([Value.slice none 0 0]))))))).toArray) rfl rfl rfl (ex_build (z := .agg ([Value.int .i64 0] ++ ([Value.string (⟨#[]⟩ : ByteArray)] ++ ([Value.string (⟨#[]⟩ : ByteArray)] ++ ([Value.int .i64 0] ++ ([Value.int .i64 0] ++ (ints .u8 (Vector.replicate 32 (0 : Int)).toList ++ ([Value.slice none 0 0]))))))).toArray) (cs := [Value.int .i64 0] ++ ([Value.string (⟨#[]⟩ : ByteArray)] ++ ([Value.string (⟨#[]⟩ : ByteArray)] ++ ([Value.int .i64 0] ++ ([Value.int .i64 0] ++ (ints .u8 (Vector.replicate 32 (0 : Int)).toList ++ ([Value.slice none 0 0]))))))) (vs := []) (pl := #[(0, 1), (1, 1), (2, 1), (3, 1), (4, 1), (5, 32), (37, 1)]) Try.underlying25 rfl (fun _ => by kernel_rfl) rfl (fun _ => by kernel_rfl) (Fill.nil _)) rfl ?_
          refine WL.opS rfl rfl rfl (ex_storeObj rfl rfl Try.sizeOf25 h57 (Lens.all _ ([Value.int .i64 0] ++ ([Value.string (⟨#[]⟩ : ByteArray)] ++ ([Value.string (⟨#[]⟩ : ByteArray)] ++ ([Value.int .i64 0] ++ ([Value.int .i64 0] ++ (ints .u8 (Vector.replicate 32 (0 : Int)).toList ++ ([Value.slice none 0 0])))))))) (len_app rfl (len_app rfl (len_app rfl (len_app rfl (len_app rfl (len_app (ivl _ _) rfl rfl) rfl) rfl) rfl) rfl) rfl) (len_app rfl (len_app rfl (len_app rfl (len_app rfl (len_app rfl (len_app (ivl _ _) rfl rfl) rfl) rfl) rfl) rfl) rfl) rfl (one_app (one_sing rfl) (one_app (one_sing rfl) (one_app (one_sing rfl) (one_app (one_sing rfl) (one_app (one_sing rfl) (one_app (ints_one _ _) (one_sing rfl)))))))) ?_
          rintro w13 ⟨F22, h64⟩
          have h65 := (h56).fr F22 ⟨(Ap.symm (Src.ap' s1 (hp0).lt trivial)), trivial⟩
          have h66 := (h58).fr F22 ⟨(Src.ap' s2 (Lt.one (at_lt h1)) ⟨(Ap.symm (Src.ap' s1 (hp0).lt trivial)), trivial⟩), trivial⟩
          have h67 := Fr.at F22 h59 (ApL.not (x := some b2) (S := [some b1]) ⟨(Src.ap' s3 (Lt.one (at_lt h9)) trivial), trivial⟩ _ rfl)
          have h68 := (h60).fr F22 ⟨(Src.ap' s4 (Lt.one (at_lt h20)) ⟨(Src.ap' s3 (Lt.one (at_lt h9)) trivial), trivial⟩), trivial⟩
          have h69 := (h61).fr F22 ⟨(Src.ap' s5 (Lt.one (at_lt h20)) ⟨(Ap.symm (Src.ap' s1 (hp0).lt trivial)), trivial⟩), trivial⟩
          have h70 := (h62).fr F22 ⟨(Src.ap' s6 (Lt.one (at_lt h26)) ⟨(Ap.symm (Src.ap' s1 (hp0).lt trivial)), trivial⟩), trivial⟩
          have h71 := (h63).fr F22 ⟨(Src.ap' s9 (Lt.one (at_lt h26)) trivial), trivial⟩
          have h72 := Fr.at F22 h55 (ApL.not (x := some b3) (S := [some b1]) ⟨(Src.ap' s10 (Lt.one (at_lt h40)) trivial), trivial⟩ _ rfl)
          have F23 := Fr.step F21 F22 ⟨(In0.src s1 (Nat.le_refl _) trivial), trivial⟩
          refine ⟨_, rfl, ?_⟩
          obtain ⟨a6, q13, hm⟩ := of_let hm
          rw [q13] at h64
          refine WL.batch 1 [2, 3] (E' := [(2, .pointer (some ⟨b1, 0, none⟩)), (3, .int .i64 3)]) (by kernel_rfl) ?_
          refine WL.nil ?_
          refine W.ret ?_
          obtain ⟨q0a, q0b⟩ := Prod.mk.inj (Option.some.inj hm)
          obtain ⟨q1a, q1b⟩ := Prod.mk.inj (q0b)
          obtain ⟨q2a, q2b⟩ := Prod.mk.inj (q1b)
          obtain ⟨q3a, q3b⟩ := Prod.mk.inj (q2b)
          obtain ⟨q4a, q4b⟩ := Prod.mk.inj (q3b)
          obtain ⟨q5a, q5b⟩ := Prod.mk.inj (q4b)
          obtain ⟨q6a, q6b⟩ := Prod.mk.inj (q5b)
          subst q0a
          subst q1a
          subst q2a
          subst q3a
          subst q4a
          subst q5a
          subst q6a
          subst q6b
          exact ⟨_, ⟨_, _, _, rfl, rfl, (loadVar_aggN Try.underlying25 rfl Try.sizeOf25 (len_app rfl (len_app rfl (len_app rfl (len_app rfl (len_app rfl (len_app (ivl _ _) rfl rfl) rfl) rfl) rfl) rfl) rfl) h64 (Lens.all _ ([Value.int .i64 0] ++ ([Value.string (⟨#[]⟩ : ByteArray)] ++ ([Value.string (⟨#[]⟩ : ByteArray)] ++ ([Value.int .i64 0] ++ ([Value.int .i64 0] ++ (ints .u8 a6.toList ++ ([Value.slice none 0 0]))))))))), ⟨_, _, rfl, rfl, rfl⟩⟩, ⟨none, 0, rfl, F23, (Own.nil _ _ _), (.inl (by simp [ablk, rblk]))⟩⟩
        · refine W.condF _ rfl c10 ?_
          refine W.skip ?_
          refine W.seq ?_
          refine W.region ?_
          refine WL.value (.agg ([Value.int .i64 x2] ++ ([Value.string s7] ++ ([Value.string s8] ++ ([Value.int .i64 x3] ++ ([Value.int .i64 x4] ++ (ints .u8 a5.toList ++ ([Value.slice A4 l5.length n5]))))))).toArray) rfl rfl rfl (ex_loadAgg Try.underlying25 rfl Try.sizeOf25 (len_app rfl (len_app rfl (len_app rfl (len_app rfl (len_app rfl (len_app (ivl _ _) rfl rfl) rfl) rfl) rfl) rfl) rfl) rfl h55 (Lens.all _ ([Value.int .i64 x2] ++ ([Value.string s7] ++ ([Value.string s8] ++ ([Value.int .i64 x3] ++ ([Value.int .i64 x4] ++ (ints .u8 a5.toList ++ ([Value.slice A4 l5.length n5]))))))))) rfl ?_
          refine WL.opS rfl rfl rfl (ex_storeObj rfl rfl Try.sizeOf25 h57 (Lens.all _ ([Value.int .i64 x2] ++ ([Value.string s7] ++ ([Value.string s8] ++ ([Value.int .i64 x3] ++ ([Value.int .i64 x4] ++ (ints .u8 a5.toList ++ ([Value.slice A4 l5.length n5])))))))) (len_app rfl (len_app rfl (len_app rfl (len_app rfl (len_app rfl (len_app (ivl _ _) rfl rfl) rfl) rfl) rfl) rfl) rfl) (len_app rfl (len_app rfl (len_app rfl (len_app rfl (len_app rfl (len_app (ivl _ _) rfl rfl) rfl) rfl) rfl) rfl) rfl) rfl (one_app (one_sing rfl) (one_app (one_sing rfl) (one_app (one_sing rfl) (one_app (one_sing rfl) (one_app (one_sing rfl) (one_app (ints_one _ _) (one_sing rfl)))))))) ?_
          rintro w14 ⟨F24, h73⟩
          have h74 := (h56).fr F24 ⟨(Ap.symm (Src.ap' s1 (hp0).lt trivial)), trivial⟩
          have h75 := (h58).fr F24 ⟨(Src.ap' s2 (Lt.one (at_lt h1)) ⟨(Ap.symm (Src.ap' s1 (hp0).lt trivial)), trivial⟩), trivial⟩
          have h76 := Fr.at F24 h59 (ApL.not (x := some b2) (S := [some b1]) ⟨(Src.ap' s3 (Lt.one (at_lt h9)) trivial), trivial⟩ _ rfl)
          have h77 := (h60).fr F24 ⟨(Src.ap' s4 (Lt.one (at_lt h20)) ⟨(Src.ap' s3 (Lt.one (at_lt h9)) trivial), trivial⟩), trivial⟩
          have h78 := (h61).fr F24 ⟨(Src.ap' s5 (Lt.one (at_lt h20)) ⟨(Ap.symm (Src.ap' s1 (hp0).lt trivial)), trivial⟩), trivial⟩
          have h79 := (h62).fr F24 ⟨(Src.ap' s6 (Lt.one (at_lt h26)) ⟨(Ap.symm (Src.ap' s1 (hp0).lt trivial)), trivial⟩), trivial⟩
          have h80 := (h63).fr F24 ⟨(Src.ap' s9 (Lt.one (at_lt h26)) trivial), trivial⟩
          have h81 := Fr.at F24 h55 (ApL.not (x := some b3) (S := [some b1]) ⟨(Src.ap' s10 (Lt.one (at_lt h40)) trivial), trivial⟩ _ rfl)
          have F25 := Fr.step F21 F24 ⟨(In0.src s1 (Nat.le_refl _) trivial), trivial⟩
          refine ⟨_, rfl, ?_⟩
          refine WL.batch 1 [2, 3] (E' := [(2, .pointer (some ⟨b1, 0, none⟩)), (3, .int .i64 0)]) (by kernel_rfl) ?_
          refine WL.nil ?_
          refine W.ret ?_
          obtain ⟨q0a, q0b⟩ := Prod.mk.inj (Option.some.inj hm)
          obtain ⟨q1a, q1b⟩ := Prod.mk.inj (q0b)
          obtain ⟨q2a, q2b⟩ := Prod.mk.inj (q1b)
          obtain ⟨q3a, q3b⟩ := Prod.mk.inj (q2b)
          obtain ⟨q4a, q4b⟩ := Prod.mk.inj (q3b)
          obtain ⟨q5a, q5b⟩ := Prod.mk.inj (q4b)
          obtain ⟨q6a, q6b⟩ := Prod.mk.inj (q5b)
          subst q0a
          subst q1a
          subst q2a
          subst q3a
          subst q4a
          subst q5a
          subst q6a
          subst q6b
          exact ⟨_, ⟨_, _, _, rfl, rfl, (loadVar_aggN Try.underlying25 rfl Try.sizeOf25 (len_app rfl (len_app rfl (len_app rfl (len_app rfl (len_app rfl (len_app (ivl _ _) rfl rfl) rfl) rfl) rfl) rfl) rfl) h73 (Lens.all _ ([Value.int .i64 x2] ++ ([Value.string s7] ++ ([Value.string s8] ++ ([Value.int .i64 x3] ++ ([Value.int .i64 x4] ++ (ints .u8 a5.toList ++ ([Value.slice A4 l5.length n5]))))))))), ⟨_, _, rfl, rfl, rfl⟩⟩, ⟨A4, n5, rfl, F25, h80, (Src.trans' s9 F14.size trivial)⟩⟩

/- cautery/cauterylaw21.alive -/
theorem cauterylaw21_alive_walk (k : Nat)   (w : World) (r0 : Bool) (hm : cauterylaw21_alive.f k  = some r0) :
    Calls Try.prog 7 #[] w fun e w' => e = .returned (.bool r0) ∧ Fr [] w w' := by
  have F0 := Fr.refl [] w
  unfold cauterylaw21_alive.f at hm
  refine W.enter (args := []) Try.func7 rfl (n := 53) rfl rfl ?_
  refine W.seq ?_
  refine W.region ?_
  refine WL.batch 1 [] (E' := []) (by kernel_rfl) ?_
  refine WL.nil ?_
  refine W.seq ?_
  refine W.region ?_
  refine WL.value (.agg ([Value.int .i64 1] ++ ([Value.string (⟨#[97]⟩ : ByteArray)] ++ ([Value.string (⟨#[115]⟩ : ByteArray)] ++ ([Value.int .i64 0] ++ ([Value.int .i64 16] ++ (ints .u8 (Vector.replicate 32 (0 : Int)).toList ++ ([Value.slice none 0 0]))))))).toArray) rfl rfl rfl (ex_build (z := .agg ([Value.int .i64 0] ++ ([Value.string (⟨#[]⟩ : ByteArray)] ++ ([Value.string (⟨#[]⟩ : ByteArray)] ++ ([Value.int .i64 0] ++ ([Value.int .i64 0] ++ (ints .u8 (Vector.replicate 32 (0 : Int)).toList ++ ([Value.slice none 0 0]))))))).toArray) (cs := [Value.int .i64 0] ++ ([Value.string (⟨#[]⟩ : ByteArray)] ++ ([Value.string (⟨#[]⟩ : ByteArray)] ++ ([Value.int .i64 0] ++ ([Value.int .i64 0] ++ (ints .u8 (Vector.replicate 32 (0 : Int)).toList ++ ([Value.slice none 0 0]))))))) (vs := [(0, .int .i64 1), (1, .string (⟨#[97]⟩ : ByteArray)), (2, .string (⟨#[115]⟩ : ByteArray)), (4, .int .i64 16)]) (pl := #[(0, 1), (1, 1), (2, 1), (3, 1), (4, 1), (5, 32), (37, 1)]) Try.underlying25 rfl (fun _ => by kernel_rfl) rfl (fun _ => by kernel_rfl) (Fill.cons rfl rfl (Lens.head _ ([Value.int .i64 1]) _) rfl rfl (Fill.cons rfl rfl (Lens.skip rfl (Lens.head _ ([Value.string (⟨#[97]⟩ : ByteArray)]) _) rfl) rfl rfl (Fill.cons rfl rfl (Lens.skip rfl (Lens.skip rfl (Lens.head _ ([Value.string (⟨#[115]⟩ : ByteArray)]) _) rfl) rfl) rfl rfl (Fill.cons rfl rfl (Lens.skip rfl (Lens.skip rfl (Lens.skip rfl (Lens.skip rfl (Lens.head _ ([Value.int .i64 16]) _) rfl) rfl) rfl) rfl) rfl rfl (Fill.nil _)))))) rfl ?_
  refine WL.op rfl rfl rfl (ex_alloc' (z := .agg ([Value.int .i64 0] ++ ([Value.string (⟨#[]⟩ : ByteArray)] ++ ([Value.string (⟨#[]⟩ : ByteArray)] ++ ([Value.int .i64 0] ++ ([Value.int .i64 0] ++ (ints .u8 (Vector.replicate 32 (0 : Int)).toList ++ ([Value.slice none 0 0]))))))).toArray) (cs := [Value.int .i64 0] ++ ([Value.string (⟨#[]⟩ : ByteArray)] ++ ([Value.string (⟨#[]⟩ : ByteArray)] ++ ([Value.int .i64 0] ++ ([Value.int .i64 0] ++ (ints .u8 (Vector.replicate 32 (0 : Int)).toList ++ ([Value.slice none 0 0]))))))) (fun _ => by kernel_rfl) (by kernel_rfl)) ?_
  rintro _ w1 ⟨b1, rfl, N1⟩
  have h1 := N1.at_
  have s1 := Src.new [] (Ge.one N1.ge)
  have F1 := Fr.step F0 N1.fr trivial
  refine ⟨_, rfl, ?_⟩
  refine WL.opS rfl rfl rfl (ex_storeObj rfl rfl Try.sizeOf25 h1 (Lens.all _ ([Value.int .i64 1] ++ ([Value.string (⟨#[97]⟩ : ByteArray)] ++ ([Value.string (⟨#[115]⟩ : ByteArray)] ++ ([Value.int .i64 0] ++ ([Value.int .i64 16] ++ (ints .u8 (Vector.replicate 32 (0 : Int)).toList ++ ([Value.slice none 0 0])))))))) (len_app rfl (len_app rfl (len_app rfl (len_app rfl (len_app rfl (len_app (ivl _ _) rfl rfl) rfl) rfl) rfl) rfl) rfl) (len_app rfl (len_app rfl (len_app rfl (len_app rfl (len_app rfl (len_app (ivl _ _) rfl rfl) rfl) rfl) rfl) rfl) rfl) rfl (one_app (one_sing rfl) (one_app (one_sing rfl) (one_app (one_sing rfl) (one_app (one_sing rfl) (one_app (one_sing rfl) (one_app (ints_one _ _) (one_sing rfl)))))))) ?_
  rintro w2 ⟨F2, h2⟩
  have F3 := Fr.step F1 F2 ⟨(In0.src s1 (Nat.le_refl _) trivial), trivial⟩
  refine ⟨_, rfl, ?_⟩
  obtain ⟨a1, q1, hm⟩ := of_let hm
  rw [q1] at h2
  refine WL.nil ?_
  refine W.seq ?_
  refine W.region ?_
  refine WL.value (.agg ([Value.int .i64 1] ++ ([Value.string (⟨#[97]⟩ : ByteArray)] ++ ([Value.string (⟨#[115]⟩ : ByteArray)] ++ ([Value.int .i64 0] ++ ([Value.int .i64 16] ++ (ints .u8 a1.toList ++ ([Value.slice none 0 0]))))))).toArray) rfl rfl rfl (ex_loadAgg Try.underlying25 rfl Try.sizeOf25 (len_app rfl (len_app rfl (len_app rfl (len_app rfl (len_app rfl (len_app (ivl _ _) rfl rfl) rfl) rfl) rfl) rfl) rfl) rfl h2 (Lens.all _ ([Value.int .i64 1] ++ ([Value.string (⟨#[97]⟩ : ByteArray)] ++ ([Value.string (⟨#[115]⟩ : ByteArray)] ++ ([Value.int .i64 0] ++ ([Value.int .i64 16] ++ (ints .u8 a1.toList ++ ([Value.slice none 0 0]))))))))) rfl ?_
  obtain ⟨⟨l1, x1⟩, q2, hm⟩ := of_bind hm
  refine WL.call rfl rfl rfl (ex_callI (args := [.agg ([Value.int .i64 1] ++ ([Value.string (⟨#[97]⟩ : ByteArray)] ++ ([Value.string (⟨#[115]⟩ : ByteArray)] ++ ([Value.int .i64 0] ++ ([Value.int .i64 16] ++ (ints .u8 a1.toList ++ ([Value.slice none 0 0]))))))).toArray]) rfl rfl rfl Try.call8) (bisect_Encode_walk k 1 (⟨#[97]⟩ : ByteArray) (⟨#[115]⟩ : ByteArray) 0 16 a1 ([] : List Int) none 0 _ (Rd.nil _ _)  l1 x1 q2) ?_
  rintro _ w3 ⟨A1, n1, rfl, F4, h3, s2⟩
  have h4 := Fr.at F4 h2 (ApL.not (x := some b1) (S := []) trivial _ rfl)
  have F5 := Fr.step F3 F4 trivial
  refine ⟨_, _, rfl, rfl, ?_⟩
  refine WL.batch 5 [2, 3] (E' := [(2, .slice A1 l1.length n1), (3, .int .i64 x1)]) (by kernel_rfl) ?_
  refine WL.nil ?_
  refine W.seq ?_
  refine W.region ?_
  refine WL.batch 1 [2, 3, 15] (E' := [(2, .slice A1 l1.length n1), (3, .int .i64 x1), (15, .slice A1 l1.length n1)]) (by kernel_rfl) ?_
  obtain ⟨⟨x2, s3, s4, x3, x4, a2, l2, x5⟩, q3, hm⟩ := of_bind hm
  refine WL.call rfl rfl rfl (ex_callI (args := [.slice A1 l1.length n1]) rfl rfl rfl Try.call13) (bisect_Decode_walk k l1 A1 n1 _ (h3).rd  x2 s3 s4 x3 x4 a2 l2 x5 q3) ?_
  rintro _ w4 ⟨A2, n2, rfl, F6, h5, s5⟩
  have h6 := Fr.at F6 h4 (ApL.not (x := some b1) (S := []) trivial _ rfl)
  have h7 := (h3).fr F6 trivial
  have F7 := Fr.step F5 F6 trivial
  refine ⟨_, _, rfl, rfl, ?_⟩
  refine WL.batch 3 [2, 3, 17, 18] (E' := [(2, .slice A1 l1.length n1), (3, .int .i64 x1), (17, .agg ([Value.int .i64 x2] ++ ([Value.string s3] ++ ([Value.string s4] ++ ([Value.int .i64 x3] ++ ([Value.int .i64 x4] ++ (ints .u8 a2.toList ++ ([Value.slice A2 l2.length n2]))))))).toArray), (18, .int .i64 x5)]) (by kernel_rfl) ?_
  refine WL.op rfl rfl rfl (ex_alloc' (z := .agg ([Value.int .i64 0] ++ ([Value.string (⟨#[]⟩ : ByteArray)] ++ ([Value.string (⟨#[]⟩ : ByteArray)] ++ ([Value.int .i64 0] ++ ([Value.int .i64 0] ++ (ints .u8 (Vector.replicate 32 (0 : Int)).toList ++ ([Value.slice none 0 0]))))))).toArray) (cs := [Value.int .i64 0] ++ ([Value.string (⟨#[]⟩ : ByteArray)] ++ ([Value.string (⟨#[]⟩ : ByteArray)] ++ ([Value.int .i64 0] ++ ([Value.int .i64 0] ++ (ints .u8 (Vector.replicate 32 (0 : Int)).toList ++ ([Value.slice none 0 0]))))))) (fun _ => by kernel_rfl) (by kernel_rfl)) ?_
  rintro _ w5 ⟨b2, rfl, N2⟩
  have h8 := N2.at_
  have s6 := Src.new [] (Ge.one N2.ge)
  have h9 := Fr.at N2.fr h6 (ApL.not (x := some b1) (S := []) trivial _ rfl)
  have h10 := (h7).fr N2.fr trivial
  have h11 := (h5).fr N2.fr trivial
  have F8 := Fr.step F7 N2.fr trivial
  refine ⟨_, rfl, ?_⟩
  refine WL.opS rfl rfl rfl (ex_storeObj rfl rfl Try.sizeOf25 h8 (Lens.all _ ([Value.int .i64 x2] ++ ([Value.string s3] ++ ([Value.string s4] ++ ([Value.int .i64 x3] ++ ([Value.int .i64 x4] ++ (ints .u8 a2.toList ++ ([Value.slice A2 l2.length n2])))))))) (len_app rfl (len_app rfl (len_app rfl (len_app rfl (len_app rfl (len_app (ivl _ _) rfl rfl) rfl) rfl) rfl) rfl) rfl) (len_app rfl (len_app rfl (len_app rfl (len_app rfl (len_app rfl (len_app (ivl _ _) rfl rfl) rfl) rfl) rfl) rfl) rfl) rfl (one_app (one_sing rfl) (one_app (one_sing rfl) (one_app (one_sing rfl) (one_app (one_sing rfl) (one_app (one_sing rfl) (one_app (ints_one _ _) (one_sing rfl)))))))) ?_
  rintro w6 ⟨F9, h12⟩
  have h13 := Fr.at F9 h9 (ApL.not (x := some b1) (S := [some b2]) ⟨(Ap.symm (Src.ap' s6 (Lt.one (at_lt h6)) trivial)), trivial⟩ _ rfl)
  have h14 := (h10).fr F9 ⟨(Ap.symm (Src.ap' s6 (h7).lt trivial)), trivial⟩
  have h15 := (h11).fr F9 ⟨(Ap.symm (Src.ap' s6 (h5).lt trivial)), trivial⟩
  have F10 := Fr.step F8 F9 ⟨(In0.src s6 F7.size trivial), trivial⟩
  refine ⟨_, rfl, ?_⟩
  refine WL.batch 1 [2, 3, 4, 5] (E' := [(2, .slice A1 l1.length n1), (3, .int .i64 x1), (4, .pointer (some ⟨b2, 0, none⟩)), (5, .int .i64 x5)]) (by kernel_rfl) ?_
  refine WL.nil ?_
  refine W.seq ?_
  refine W.region ?_
  obtain ⟨⟨x6, s7, s8, x7, x8, a3, l3, x9⟩, q4, hm⟩ := of_bind hm
  refine WL.call rfl rfl rfl (ex_callI (args := [.slice none 0 0]) rfl rfl rfl Try.call13) (bisect_Decode_walk k ([] : List Int) none 0 _ (Rd.nil _ _)  x6 s7 s8 x7 x8 a3 l3 x9 q4) ?_
  rintro _ w7 ⟨A3, n3, rfl, F11, h16, s9⟩
  have h17 := Fr.at F11 h13 (ApL.not (x := some b1) (S := []) trivial _ rfl)
  have h18 := (h14).fr F11 trivial
  have h19 := (h15).fr F11 trivial
  have h20 := Fr.at F11 h12 (ApL.not (x := some b2) (S := []) trivial _ rfl)
  have F12 := Fr.step F10 F11 trivial
  refine ⟨_, _, rfl, rfl, ?_⟩
  refine WL.batch 3 [2, 3, 4, 5, 21, 22] (E' := [(2, .slice A1 l1.length n1), (3, .int .i64 x1), (4, .pointer (some ⟨b2, 0, none⟩)), (5, .int .i64 x5), (21, .agg ([Value.int .i64 x6] ++ ([Value.string s7] ++ ([Value.string s8] ++ ([Value.int .i64 x7] ++ ([Value.int .i64 x8] ++ (ints .u8 a3.toList ++ ([Value.slice A3 l3.length n3]))))))).toArray), (22, .int .i64 x9)]) (by kernel_rfl) ?_
  refine WL.op rfl rfl rfl (ex_alloc' (z := .agg ([Value.int .i64 0] ++ ([Value.string (⟨#[]⟩ : ByteArray)] ++ ([Value.string (⟨#[]⟩ : ByteArray)] ++ ([Value.int .i64 0] ++ ([Value.int .i64 0] ++ (ints .u8 (Vector.replicate 32 (0 : Int)).toList ++ ([Value.slice none 0 0]))))))).toArray) (cs := [Value.int .i64 0] ++ ([Value.string (⟨#[]⟩ : ByteArray)] ++ ([Value.string (⟨#[]⟩ : ByteArray)] ++ ([Value.int .i64 0] ++ ([Value.int .i64 0] ++ (ints .u8 (Vector.replicate 32 (0 : Int)).toList ++ ([Value.slice none 0 0]))))))) (fun _ => by kernel_rfl) (by kernel_rfl)) ?_
  rintro _ w8 ⟨b3, rfl, N3⟩
  have h21 := N3.at_
  have s10 := Src.new [] (Ge.one N3.ge)
  have h22 := Fr.at N3.fr h17 (ApL.not (x := some b1) (S := []) trivial _ rfl)
  have h23 := (h18).fr N3.fr trivial
  have h24 := (h19).fr N3.fr trivial
  have h25 := Fr.at N3.fr h20 (ApL.not (x := some b2) (S := []) trivial _ rfl)
  have h26 := (h16).fr N3.fr trivial
  have F13 := Fr.step F12 N3.fr trivial
  refine ⟨_, rfl, ?_⟩
  refine WL.opS rfl rfl rfl (ex_storeObj rfl rfl Try.sizeOf25 h21 (Lens.all _ ([Value.int .i64 x6] ++ ([Value.string s7] ++ ([Value.string s8] ++ ([Value.int .i64 x7] ++ ([Value.int .i64 x8] ++ (ints .u8 a3.toList ++ ([Value.slice A3 l3.length n3])))))))) (len_app rfl (len_app rfl (len_app rfl (len_app rfl (len_app rfl (len_app (ivl _ _) rfl rfl) rfl) rfl) rfl) rfl) rfl) (len_app rfl (len_app rfl (len_app rfl (len_app rfl (len_app rfl (len_app (ivl _ _) rfl rfl) rfl) rfl) rfl) rfl) rfl) rfl (one_app (one_sing rfl) (one_app (one_sing rfl) (one_app (one_sing rfl) (one_app (one_sing rfl) (one_app (one_sing rfl) (one_app (ints_one _ _) (one_sing rfl)))))))) ?_
  rintro w9 ⟨F14, h27⟩
  have h28 := Fr.at F14 h22 (ApL.not (x := some b1) (S := [some b3]) ⟨(Ap.symm (Src.ap' s10 (Lt.one (at_lt h17)) trivial)), trivial⟩ _ rfl)
  have h29 := (h23).fr F14 ⟨(Ap.symm (Src.ap' s10 (h18).lt trivial)), trivial⟩
  have h30 := (h24).fr F14 ⟨(Ap.symm (Src.ap' s10 (h19).lt trivial)), trivial⟩
  have h31 := Fr.at F14 h25 (ApL.not (x := some b2) (S := [some b3]) ⟨(Ap.symm (Src.ap' s10 (Lt.one (at_lt h20)) trivial)), trivial⟩ _ rfl)
  have h32 := (h26).fr F14 ⟨(Ap.symm (Src.ap' s10 (h16).lt trivial)), trivial⟩
  have F15 := Fr.step F13 F14 ⟨(In0.src s10 F12.size trivial), trivial⟩
  refine ⟨_, rfl, ?_⟩
  refine WL.batch 1 [2, 3, 4, 5, 7] (E' := [(2, .slice A1 l1.length n1), (3, .int .i64 x1), (4, .pointer (some ⟨b2, 0, none⟩)), (5, .int .i64 x5), (7, .int .i64 x9)]) (by kernel_rfl) ?_
  refine WL.nil ?_
  refine W.seq ?_
  refine W.region ?_
  refine WL.batch 3 [2, 4, 5, 7, 25] (E' := [(2, .slice A1 l1.length n1), (4, .pointer (some ⟨b2, 0, none⟩)), (5, .int .i64 x5), (7, .int .i64 x9), (25, .bool (x1 == (0 : Int)))]) (by kernel_rfl) ?_
  rcases of_cond hm with ⟨c1, hm⟩ | ⟨c1, hm⟩
  · rw [c1]
    refine WL.batch 5 [4, 5, 7, 30] (E' := [(4, .pointer (some ⟨b2, 0, none⟩)), (5, .int .i64 x5), (7, .int .i64 x9), (30, .bool ((l1.length : Int) == (44 : Int)))]) (by kernel_rfl) ?_
    rcases of_cond hm with ⟨c2, hm⟩ | ⟨c2, hm⟩
    · rw [c2]
      refine WL.batch 4 [4, 7, 34] (E' := [(4, .pointer (some ⟨b2, 0, none⟩)), (7, .int .i64 x9), (34, .bool (x5 == (0 : Int)))]) (by kernel_rfl) ?_
      rcases of_cond hm with ⟨c3, hm⟩ | ⟨c3, hm⟩
      · rw [c3]
        refine WL.batch 1 [4, 7, 34, 35] (E' := [(4, .pointer (some ⟨b2, 0, none⟩)), (7, .int .i64 x9), (34, .bool true), (35, .pointer (some ⟨b2, 4, none⟩))]) (by kernel_rfl) ?_
        refine WL.value (.int .i64 x4) rfl rfl rfl (ex_loadOne Try.underlying3 rfl rfl h31 (Lens.skip rfl (Lens.skip rfl (Lens.skip rfl (Lens.skip rfl (Lens.head _ ([Value.int .i64 x4]) _) rfl) rfl) rfl) rfl)) rfl ?_
        refine WL.batch 3 [4, 7, 39] (E' := [(4, .pointer (some ⟨b2, 0, none⟩)), (7, .int .i64 x9), (39, .bool (x4 == (16 : Int)))]) (by kernel_rfl) ?_
        rcases of_cond hm with ⟨c4, hm⟩ | ⟨c4, hm⟩
        · rw [c4]
          refine WL.batch 1 [7, 39, 40] (E' := [(7, .int .i64 x9), (39, .bool true), (40, .pointer (some ⟨b2, 2, none⟩))]) (by kernel_rfl) ?_
          refine WL.value (.string s4) rfl rfl rfl (ex_loadOne Try.underlying9 rfl rfl h31 (Lens.skip rfl (Lens.skip rfl (Lens.head _ ([Value.string s4]) _) rfl) rfl)) rfl ?_
          refine WL.batch 3 [7, 44] (E' := [(7, .int .i64 x9), (44, .bool (s4.toList == (⟨#[115]⟩ : ByteArray).toList))]) (by kernel_rfl) ?_
          rcases of_cond hm with ⟨c5, hm⟩ | ⟨c5, hm⟩
          · rw [c5]
            refine WL.batch 4 [48] (E' := [(48, .bool (x9 == (14 : Int)))]) (by kernel_rfl) ?_
            rcases of_cond hm with ⟨c6, hm⟩ | ⟨c6, hm⟩
            · rw [c6]
              refine WL.value (.agg ([Value.int .i64 0] ++ ([Value.string (⟨#[]⟩ : ByteArray)] ++ ([Value.string (⟨#[]⟩ : ByteArray)] ++ ([Value.int .i64 0] ++ ([Value.int .i64 0] ++ (ints .u8 (Vector.replicate 32 (0 : Int)).toList ++ ([Value.slice none 0 0]))))))).toArray) rfl rfl rfl (ex_build (z := .agg ([Value.int .i64 0] ++ ([Value.string (⟨#[]⟩ : ByteArray)] ++ ([Value.string (⟨#[]⟩ : ByteArray)] ++ ([Value.int .i64 0] ++ ([Value.int .i64 0] ++ (ints .u8 (Vector.replicate 32 (0 : Int)).toList ++ ([Value.slice none 0 0]))))))).toArray) (cs := [Value.int .i64 0] ++ ([Value.string (⟨#[]⟩ : ByteArray)] ++ ([Value.string (⟨#[]⟩ : ByteArray)] ++ ([Value.int .i64 0] ++ ([Value.int .i64 0] ++ (ints .u8 (Vector.replicate 32 (0 : Int)).toList ++ ([Value.slice none 0 0]))))))) (vs := []) (pl := #[(0, 1), (1, 1), (2, 1), (3, 1), (4, 1), (5, 32), (37, 1)]) Try.underlying25 rfl (fun _ => by kernel_rfl) rfl (fun _ => by kernel_rfl) (Fill.nil _)) rfl ?_
              obtain ⟨y1, q5, hm⟩ := of_bind hm
              refine WL.call rfl rfl rfl (ex_callI (args := [.agg ([Value.int .i64 0] ++ ([Value.string (⟨#[]⟩ : ByteArray)] ++ ([Value.string (⟨#[]⟩ : ByteArray)] ++ ([Value.int .i64 0] ++ ([Value.int .i64 0] ++ (ints .u8 (Vector.replicate 32 (0 : Int)).toList ++ ([Value.slice none 0 0]))))))).toArray]) rfl rfl rfl Try.call11) (bisect_May_walk k 0 (⟨#[]⟩ : ByteArray) (⟨#[]⟩ : ByteArray) 0 0 (Vector.replicate 32 (0 : Int)) ([] : List Int) none 0 _ (Rd.nil _ _)  y1 q5) ?_
              rintro _ w10 ⟨rfl, F16⟩
              have h33 := Fr.at F16 h28 (ApL.not (x := some b1) (S := []) trivial _ rfl)
              have h34 := (h29).fr F16 trivial
              have h35 := (h30).fr F16 trivial
              have h36 := Fr.at F16 h31 (ApL.not (x := some b2) (S := []) trivial _ rfl)
              have h37 := (h32).fr F16 trivial
              have h38 := Fr.at F16 h27 (ApL.not (x := some b3) (S := []) trivial _ rfl)
              have F17 := Fr.step F15 F16 trivial
              refine ⟨_, _, rfl, rfl, ?_⟩
              refine WL.batch 3 [0] (E' := [(0, .bool (!y1))]) (by kernel_rfl) ?_
              refine WL.nil ?_
              refine W.ret ?_
              obtain rfl := Option.some.inj hm
              exact ⟨_, ⟨_, _, rfl, rfl, rfl⟩, ⟨rfl, F17⟩⟩
            · rw [c6]
              refine WL.batch 5 [0] (E' := [(0, .bool false)]) (by kernel_rfl) ?_
              refine WL.nil ?_
              refine W.ret ?_
              obtain rfl := Option.some.inj hm
              exact ⟨_, ⟨_, _, rfl, rfl, rfl⟩, ⟨rfl, F15⟩⟩
          · rw [c5]
            refine WL.batch 9 [0] (E' := [(0, .bool false)]) (by kernel_rfl) ?_
            refine WL.nil ?_
            refine W.ret ?_
            obtain rfl := Option.some.inj hm
            exact ⟨_, ⟨_, _, rfl, rfl, rfl⟩, ⟨rfl, F15⟩⟩
        · rw [c4]
          refine WL.batch 14 [0] (E' := [(0, .bool false)]) (by kernel_rfl) ?_
          refine WL.nil ?_
          refine W.ret ?_
          obtain rfl := Option.some.inj hm
          exact ⟨_, ⟨_, _, rfl, rfl, rfl⟩, ⟨rfl, F15⟩⟩
      · rw [c3]
        refine WL.batch 19 [0] (E' := [(0, .bool false)]) (by kernel_rfl) ?_
        refine WL.nil ?_
        refine W.ret ?_
        obtain rfl := Option.some.inj hm
        exact ⟨_, ⟨_, _, rfl, rfl, rfl⟩, ⟨rfl, F15⟩⟩
    · rw [c2]
      refine WL.batch 23 [0] (E' := [(0, .bool false)]) (by kernel_rfl) ?_
      refine WL.nil ?_
      refine W.ret ?_
      obtain rfl := Option.some.inj hm
      exact ⟨_, ⟨_, _, rfl, rfl, rfl⟩, ⟨rfl, F15⟩⟩
  · rw [c1]
    refine WL.batch 28 [0] (E' := [(0, .bool false)]) (by kernel_rfl) ?_
    refine WL.nil ?_
    refine W.ret ?_
    obtain rfl := Option.some.inj hm
    exact ⟨_, ⟨_, _, rfl, rfl, rfl⟩, ⟨rfl, F15⟩⟩

/- cautery/cauterylaw21.plain -/
theorem cauterylaw21_plain_walk (p0_0 : Int) (p0_1 : ByteArray) (p0_2 : ByteArray) (p0_3 : Int) (p0_4 : Int) (p0_5 : Vector Int 32) (p0_6 : List Int) (Ap0_6 : Option Addr) (np0_6 : Nat) (w : World) (hp0_6 : Rd w 1 Ap0_6 p0_6.length np0_6 (ints .u8 p0_6)) (r0 : Int) (r1 : ByteArray) (r2 : ByteArray) (r3 : Int) (r4 : Int) (r5 : Vector Int 32) (r6 : List Int) (hm : cauterylaw21_plain.f p0_0 p0_1 p0_2 p0_3 p0_4 p0_5 p0_6 = some (r0, r1, r2, r3, r4, r5, r6)) :
    Calls Try.prog 10 #[.agg ([Value.int .i64 p0_0] ++ ([Value.string p0_1] ++ ([Value.string p0_2] ++ ([Value.int .i64 p0_3] ++ ([Value.int .i64 p0_4] ++ (ints .u8 p0_5.toList ++ ([Value.slice Ap0_6 p0_6.length np0_6]))))))).toArray] w fun e w' => ∃ (A6 : Option Addr) (n6 : Nat), e = .returned (.agg ([Value.int .i64 r0] ++ ([Value.string r1] ++ ([Value.string r2] ++ ([Value.int .i64 r3] ++ ([Value.int .i64 r4] ++ (ints .u8 r5.toList ++ ([Value.slice A6 r6.length n6]))))))).toArray) ∧ Fr [] w w' ∧ Rd w' 1 A6 r6.length n6 (ints .u8 r6) ∧ Src (rblk A6 r6.length) w.heap.size [rblk Ap0_6 p0_6.length] := by
  have F0 := Fr.refl [] w
  unfold cauterylaw21_plain.f at hm
  refine W.enter (args := [.agg ([Value.int .i64 p0_0] ++ ([Value.string p0_1] ++ ([Value.string p0_2] ++ ([Value.int .i64 p0_3] ++ ([Value.int .i64 p0_4] ++ (ints .u8 p0_5.toList ++ ([Value.slice Ap0_6 p0_6.length np0_6]))))))).toArray]) Try.func10 rfl (n := 18) rfl rfl ?_
  refine W.seq ?_
  refine W.region ?_
  refine WL.op rfl rfl rfl (ex_box' (cs := [Value.int .i64 p0_0] ++ ([Value.string p0_1] ++ ([Value.string p0_2] ++ ([Value.int .i64 p0_3] ++ ([Value.int .i64 p0_4] ++ (ints .u8 p0_5.toList ++ ([Value.slice Ap0_6 p0_6.length np0_6]))))))) rfl rfl) ?_
  rintro _ w1 ⟨b1, rfl, N1⟩
  have h1 := N1.at_
  have s1 := Src.new [] (Ge.one N1.ge)
  have h2 := (hp0_6).fr N1.fr trivial
  have F1 := Fr.step F0 N1.fr trivial
  refine ⟨_, rfl, ?_⟩
  refine WL.op rfl rfl rfl (ex_alloc' (z := .agg ([Value.int .i64 0] ++ ([Value.string (⟨#[]⟩ : ByteArray)] ++ ([Value.string (⟨#[]⟩ : ByteArray)] ++ ([Value.int .i64 0] ++ ([Value.int .i64 0] ++ (ints .u8 (Vector.replicate 32 (0 : Int)).toList ++ ([Value.slice none 0 0]))))))).toArray) (cs := [Value.int .i64 0] ++ ([Value.string (⟨#[]⟩ : ByteArray)] ++ ([Value.string (⟨#[]⟩ : ByteArray)] ++ ([Value.int .i64 0] ++ ([Value.int .i64 0] ++ (ints .u8 (Vector.replicate 32 (0 : Int)).toList ++ ([Value.slice none 0 0]))))))) (fun _ => by kernel_rfl) (by kernel_rfl)) ?_
  rintro _ w2 ⟨b2, rfl, N2⟩
  have h3 := N2.at_
  have s2 := Src.new [] (Ge.one N2.ge)
  have h4 := (h2).fr N2.fr trivial
  have h5 := Fr.at N2.fr h1 (ApL.not (x := some b1) (S := []) trivial _ rfl)
  have F2 := Fr.step F1 N2.fr trivial
  refine ⟨_, rfl, ?_⟩
  refine WL.nil ?_
  refine W.seq ?_
  refine W.region ?_
  refine WL.batch 1 [1, 2, 3] (E' := [(1, .pointer (some ⟨b1, 0, none⟩)), (2, .pointer (some ⟨b2, 0, none⟩)), (3, .pointer (some ⟨b1, 0, none⟩))]) (by kernel_rfl) ?_
  refine WL.value (.int .i64 p0_0) rfl rfl rfl (ex_loadOne Try.underlying3 rfl rfl h5 (Lens.head _ ([Value.int .i64 p0_0]) _)) rfl ?_
  refine WL.batch 1 [1, 2, 4, 5] (E' := [(1, .pointer (some ⟨b1, 0, none⟩)), (2, .pointer (some ⟨b2, 0, none⟩)), (4, .int .i64 p0_0), (5, .pointer (some ⟨b1, 1, none⟩))]) (by kernel_rfl) ?_
  refine WL.value (.string p0_1) rfl rfl rfl (ex_loadOne Try.underlying9 rfl rfl h5 (Lens.skip rfl (Lens.head _ ([Value.string p0_1]) _) rfl)) rfl ?_
  refine WL.batch 1 [1, 2, 4, 6, 7] (E' := [(1, .pointer (some ⟨b1, 0, none⟩)), (2, .pointer (some ⟨b2, 0, none⟩)), (4, .int .i64 p0_0), (6, .string p0_1), (7, .pointer (some ⟨b1, 2, none⟩))]) (by kernel_rfl) ?_
  refine WL.value (.string p0_2) rfl rfl rfl (ex_loadOne Try.underlying9 rfl rfl h5 (Lens.skip rfl (Lens.skip rfl (Lens.head _ ([Value.string p0_2]) _) rfl) rfl)) rfl ?_
  refine WL.batch 1 [1, 2, 4, 6, 8, 9] (E' := [(1, .pointer (some ⟨b1, 0, none⟩)), (2, .pointer (some ⟨b2, 0, none⟩)), (4, .int .i64 p0_0), (6, .string p0_1), (8, .string p0_2), (9, .pointer (some ⟨b1, 3, none⟩))]) (by kernel_rfl) ?_
  refine WL.value (.int .i64 p0_3) rfl rfl rfl (ex_loadOne Try.underlying3 rfl rfl h5 (Lens.skip rfl (Lens.skip rfl (Lens.skip rfl (Lens.head _ ([Value.int .i64 p0_3]) _) rfl) rfl) rfl)) rfl ?_
  refine WL.batch 1 [1, 2, 4, 6, 8, 10, 11] (E' := [(1, .pointer (some ⟨b1, 0, none⟩)), (2, .pointer (some ⟨b2, 0, none⟩)), (4, .int .i64 p0_0), (6, .string p0_1), (8, .string p0_2), (10, .int .i64 p0_3), (11, .pointer (some ⟨b1, 4, none⟩))]) (by kernel_rfl) ?_
  refine WL.value (.int .i64 p0_4) rfl rfl rfl (ex_loadOne Try.underlying3 rfl rfl h5 (Lens.skip rfl (Lens.skip rfl (Lens.skip rfl (Lens.skip rfl (Lens.head _ ([Value.int .i64 p0_4]) _) rfl) rfl) rfl) rfl)) rfl ?_
  refine WL.batch 1 [1, 2, 4, 6, 8, 10, 12, 13] (E' := [(1, .pointer (some ⟨b1, 0, none⟩)), (2, .pointer (some ⟨b2, 0, none⟩)), (4, .int .i64 p0_0), (6, .string p0_1), (8, .string p0_2), (10, .int .i64 p0_3), (12, .int .i64 p0_4), (13, .pointer (some ⟨b1, 5, none⟩))]) (by kernel_rfl) ?_
  refine WL.value (.agg (ints .u8 p0_5.toList).toArray) rfl rfl rfl (ex_loadAgg Try.underlying22 rfl Try.sizeOf22 (ivl _ _) rfl h5 (Lens.skip rfl (Lens.skip rfl (Lens.skip rfl (Lens.skip rfl (Lens.skip rfl (Lens.head _ (ints .u8 p0_5.toList) _) rfl) rfl) rfl) rfl) rfl)) rfl ?_
  refine WL.batch 1 [2, 4, 6, 8, 10, 12, 14, 15] (E' := [(2, .pointer (some ⟨b2, 0, none⟩)), (4, .int .i64 p0_0), (6, .string p0_1), (8, .string p0_2), (10, .int .i64 p0_3), (12, .int .i64 p0_4), (14, .agg (ints .u8 p0_5.toList).toArray), (15, .pointer (some ⟨b1, 37, none⟩))]) (by kernel_rfl) ?_
  refine WL.value (.slice Ap0_6 p0_6.length np0_6) rfl rfl rfl (ex_loadOne Try.underlying23 rfl rfl h5 (Lens.skip rfl (Lens.skip rfl (Lens.skip rfl (Lens.skip rfl (Lens.skip rfl (Lens.skip (ivl _ _) (Lens.all _ ([Value.slice Ap0_6 p0_6.length np0_6])) rfl) rfl) rfl) rfl) rfl) rfl)) rfl ?_
  refine WL.value (.agg ([Value.int .i64 p0_0] ++ ([Value.string p0_1] ++ ([Value.string p0_2] ++ ([Value.int .i64 p0_3] ++ ([Value.int .i64 p0_4] ++ (ints .u8 p0_5.toList ++ ([Value.slice Ap0_6 p0_6.length np0_6]))))))).toArray) rfl rfl rfl (ex_build (z := .agg ([Value.int .i64 0] ++ ([Value.string (⟨#[]⟩ : ByteArray)] ++ ([Value.string (⟨#[]⟩ : ByteArray)] ++ ([Value.int .i64 0] ++ ([Value.int .i64 0] ++ (ints .u8 (Vector.replicate 32 (0 : Int)).toList ++ ([Value.slice none 0 0]))))))).toArray) (cs := [Value.int .i64 0] ++ ([Value.string (⟨#[]⟩ : ByteArray)] ++ ([Value.string (⟨#[]⟩ : ByteArray)] ++ ([Value.int .i64 0] ++ ([Value.int .i64 0] ++ (ints .u8 (Vector.replicate 32 (0 : Int)).toList ++ ([Value.slice none 0 0]))))))) (vs := [(0, .int .i64 p0_0), (1, .string p0_1), (2, .string p0_2), (3, .int .i64 p0_3), (4, .int .i64 p0_4), (5, .agg (ints .u8 p0_5.toList).toArray), (6, .slice Ap0_6 p0_6.length np0_6)]) (pl := #[(0, 1), (1, 1), (2, 1), (3, 1), (4, 1), (5, 32), (37, 1)]) Try.underlying32 rfl (fun _ => by kernel_rfl) rfl (fun _ => by kernel_rfl) (Fill.cons rfl rfl (Lens.head _ ([Value.int .i64 p0_0]) _) rfl rfl (Fill.cons rfl rfl (Lens.skip rfl (Lens.head _ ([Value.string p0_1]) _) rfl) rfl rfl (Fill.cons rfl rfl (Lens.skip rfl (Lens.skip rfl (Lens.head _ ([Value.string p0_2]) _) rfl) rfl) rfl rfl (Fill.cons rfl rfl (Lens.skip rfl (Lens.skip rfl (Lens.skip rfl (Lens.head _ ([Value.int .i64 p0_3]) _) rfl) rfl) rfl) rfl rfl (Fill.cons rfl rfl (Lens.skip rfl (Lens.skip rfl (Lens.skip rfl (Lens.skip rfl (Lens.head _ ([Value.int .i64 p0_4]) _) rfl) rfl) rfl) rfl) rfl rfl (Fill.cons rfl rfl (Lens.skip rfl (Lens.skip rfl (Lens.skip rfl (Lens.skip rfl (Lens.skip rfl (Lens.head _ (ints .u8 p0_5.toList) _) rfl) rfl) rfl) rfl) rfl) (ivl _ _) (ivl _ _) (Fill.cons rfl rfl (Lens.skip rfl (Lens.skip rfl (Lens.skip rfl (Lens.skip rfl (Lens.skip rfl (Lens.skip (ivl _ _) (Lens.all _ ([Value.slice Ap0_6 p0_6.length np0_6])) rfl) rfl) rfl) rfl) rfl) rfl) rfl rfl (Fill.nil _))))))))) rfl ?_
  refine WL.opS rfl rfl rfl (ex_storeObj rfl rfl Try.sizeOf32 h3 (Lens.all _ ([Value.int .i64 p0_0] ++ ([Value.string p0_1] ++ ([Value.string p0_2] ++ ([Value.int .i64 p0_3] ++ ([Value.int .i64 p0_4] ++ (ints .u8 p0_5.toList ++ ([Value.slice Ap0_6 p0_6.length np0_6])))))))) (len_app rfl (len_app rfl (len_app rfl (len_app rfl (len_app rfl (len_app (ivl _ _) rfl rfl) rfl) rfl) rfl) rfl) rfl) (len_app rfl (len_app rfl (len_app rfl (len_app rfl (len_app rfl (len_app (ivl _ _) rfl rfl) rfl) rfl) rfl) rfl) rfl) rfl (one_app (one_sing rfl) (one_app (one_sing rfl) (one_app (one_sing rfl) (one_app (one_sing rfl) (one_app (one_sing rfl) (one_app (ints_one _ _) (one_sing rfl)))))))) ?_
  rintro w3 ⟨F3, h6⟩
  have h7 := (h4).fr F3 ⟨(Ap.symm (Src.ap' s2 (h2).lt trivial)), trivial⟩
  have h8 := Fr.at F3 h5 (ApL.not (x := some b1) (S := [some b2]) ⟨(Ap.symm (Src.ap' s2 (Lt.one (at_lt h1)) trivial)), trivial⟩ _ rfl)
  have F4 := Fr.step F2 F3 ⟨(In0.src s2 F1.size trivial), trivial⟩
  refine ⟨_, rfl, ?_⟩
  refine WL.nil ?_
  refine W.ret ?_
  obtain ⟨q0a, q0b⟩ := Prod.mk.inj (Option.some.inj hm)
  obtain ⟨q1a, q1b⟩ := Prod.mk.inj (q0b)
  obtain ⟨q2a, q2b⟩ := Prod.mk.inj (q1b)
  obtain ⟨q3a, q3b⟩ := Prod.mk.inj (q2b)
  obtain ⟨q4a, q4b⟩ := Prod.mk.inj (q3b)
  obtain ⟨q5a, q5b⟩ := Prod.mk.inj (q4b)
  subst q0a
  subst q1a
  subst q2a
  subst q3a
  subst q4a
  subst q5a
  subst q5b
  exact ⟨_, ⟨_, _, _, rfl, rfl, (loadVar_aggN Try.underlying32 rfl Try.sizeOf32 (len_app rfl (len_app rfl (len_app rfl (len_app rfl (len_app rfl (len_app (ivl _ _) rfl rfl) rfl) rfl) rfl) rfl) rfl) h6 (Lens.all _ ([Value.int .i64 p0_0] ++ ([Value.string p0_1] ++ ([Value.string p0_2] ++ ([Value.int .i64 p0_3] ++ ([Value.int .i64 p0_4] ++ (ints .u8 p0_5.toList ++ ([Value.slice Ap0_6 p0_6.length np0_6]))))))))), rfl⟩, ⟨Ap0_6, np0_6, rfl, F4, h7, (Src.self (by simp))⟩⟩

/- cautery/cauteryref12.IsName -/
theorem cauteryref12_IsName_walk (k : Nat) (p0 : ByteArray)  (w : World) (r0 : Bool) (hm : cauteryref12_IsName.f k p0 = some r0) :
    Calls Try.prog 21 #[.string p0] w fun e w' => e = .returned (.bool r0) ∧ Fr [] w w' := by
  have F0 := Fr.refl [] w
  unfold cauteryref12_IsName.f at hm
  refine W.enter (args := [.string p0]) Try.func21 rfl (n := 40) rfl rfl ?_
  refine W.seq ?_
  refine W.region ?_
  refine WL.batch 1 [0] (E' := [(0, .string p0)]) (by kernel_rfl) ?_
  refine WL.nil ?_
  refine W.seq ?_
  refine W.seq ?_
  refine W.region ?_
  refine WL.batch 1 [0, 3] (E' := [(0, .string p0), (3, .int .i64 0)]) (by kernel_rfl) ?_
  refine WL.nil ?_
  obtain ⟨ex1, hm1, hm2⟩ := of_bind hm
  refine W.joinN (fun E w1 => Env.sub E [(0, .string p0)] ∧ Fr [] w w1 ∧ Ex.go () = ex1) ?_ (fun rest1 => ?_)
  · rintro _ w1 ⟨hE, F1, rfl⟩
    replace hm := hm2
    clear hm1
    refine W.sub ?_ hE
    refine W.seq ?_
    refine W.region ?_
    refine WL.batch 4 [0, 35] (E' := [(0, .string p0), (35, .bool (decide ((p0.size : Int) ≥ (1 : Int))))]) (by kernel_rfl) ?_
    rcases of_cond hm with ⟨c1, hm⟩ | ⟨c1, hm⟩
    · rw [c1]
      refine WL.batch 5 [2] (E' := [(2, .bool (decide ((p0.size : Int) ≤ (12 : Int))))]) (by kernel_rfl) ?_
      refine WL.nil ?_
      refine W.ret ?_
      obtain rfl := Option.some.inj hm
      exact ⟨_, ⟨_, _, rfl, rfl, rfl⟩, ⟨rfl, F1⟩⟩
    · rw [c1]
      refine WL.batch 5 [2] (E' := [(2, .bool false)]) (by kernel_rfl) ?_
      refine WL.nil ?_
      refine W.ret ?_
      obtain rfl := Option.some.inj hm
      exact ⟨_, ⟨_, _, rfl, rfl, rfl⟩, ⟨rfl, F1⟩⟩
  · replace hm := hm1
    clear hm1
    refine W.block ?_
    refine W.loop (fun j1 E w2 => ∃ (x1 : Int), Env.sub E [(0, .string p0), (3, .int .i64 x1)] ∧ Fr [] w w2 ∧ cauteryref12_IsName.l0 p0 j1 x1 = some ex1) ?_ k ?_ ?_
    · rintro _ _ ⟨_, _, _, hz⟩
      exact absurd hz (by simp [cauteryref12_IsName.l0])
    · exact ⟨0, ⟨rfl, rfl, trivial⟩, F0, hm⟩
    · rintro j1 _ w2 ⟨x1, hE, F2, hm⟩
      rw [cauteryref12_IsName.l0] at hm
      refine W.sub ?_ hE
      refine W.seq ?_
      refine W.seq ?_
      refine W.region ?_
      refine WL.batch 4 [0, 3, 8] (E' := [(0, .string p0), (3, .int .i64 x1), (8, .bool (decide (x1 < ((p0.size : Int) : Int))))]) (by kernel_rfl) ?_
      refine WL.nil ?_
      rcases of_cond hm with ⟨c2, hm⟩ | ⟨c2, hm⟩
      · refine W.condT _ rfl c2 ?_
        refine W.skip ?_
        refine W.seq ?_
        refine W.block ?_
        refine W.seq ?_
        refine W.region ?_
        refine WL.batch 2 [0, 3, 11, 12] (E' := [(0, .string p0), (3, .int .i64 x1), (11, .string p0), (12, .int .i64 x1)]) (by kernel_rfl) ?_
        obtain ⟨⟨c3, c4⟩, hm⟩ := of_guard hm
        refine WL.value (.int .u8 (sget p0 x1)) rfl rfl rfl (ex_indexStr Try.underlying9 rfl rfl c3 c4) rfl ?_
        refine WL.batch 1 [0, 3, 4] (E' := [(0, .string p0), (3, .int .i64 x1), (4, .int .u8 (sget p0 x1))]) (by kernel_rfl) ?_
        obtain ⟨x2, q1, hm⟩ := of_let hm
        rw [q1]
        refine WL.nil ?_
        refine W.seq ?_
        refine W.region ?_
        refine WL.batch 3 [0, 3, 4, 16] (E' := [(0, .string p0), (3, .int .i64 x1), (4, .int .u8 x2), (16, .bool (decide (x2 < (97 : Int))))]) (by kernel_rfl) ?_
        rcases of_cond hm with ⟨c5, hm⟩ | ⟨c5, hm⟩
        · rw [c5]
          refine WL.batch 7 [0, 3, 4, 20, 23] (E' := [(0, .string p0), (3, .int .i64 x1), (4, .int .u8 x2), (20, .bool true), (23, .bool (decide (x2 < (48 : Int))))]) (by kernel_rfl) ?_
          rcases of_cond hm with ⟨c6, hm⟩ | ⟨c6, hm⟩
          · rw [c6]
            refine WL.batch 8 [0, 3, 31] (E' := [(0, .string p0), (3, .int .i64 x1), (31, .bool (x2 != (45 : Int)))]) (by kernel_rfl) ?_
            refine WL.nil ?_
            rcases of_cond hm with ⟨c7, hm⟩ | ⟨c7, hm⟩
            · refine W.condT _ rfl c7 ?_
              refine W.seq ?_
              refine W.region ?_
              refine WL.batch 1 [2] (E' := [(2, .bool false)]) (by kernel_rfl) ?_
              refine WL.nil ?_
              refine W.ret ?_
              obtain rfl := Option.some.inj hm
              replace hm := hm2
              obtain rfl := Option.some.inj hm
              exact ⟨_, ⟨_, _, rfl, rfl, rfl⟩, ⟨rfl, F2⟩⟩
            · refine W.condF _ rfl c7 ?_
              refine W.skip ?_
              refine W.region ?_
              refine WL.batch 3 [0, 3] (E' := [(0, .string p0), (3, .int .i64 (wadd .i64 x1 1))]) (by kernel_rfl) ?_
              obtain ⟨x3, q2, hm⟩ := of_let hm
              rw [q2]
              refine WL.nil ?_
              exact ⟨x3, ⟨rfl, rfl, trivial⟩, F2, hm⟩
          · rw [c6]
            refine WL.batch 5 [0, 3, 4, 28] (E' := [(0, .string p0), (3, .int .i64 x1), (4, .int .u8 x2), (28, .bool (decide (x2 > (57 : Int))))]) (by kernel_rfl) ?_
            rcases of_cond hm with ⟨c8, hm⟩ | ⟨c8, hm⟩
            · rw [c8]
              refine WL.batch 3 [0, 3, 31] (E' := [(0, .string p0), (3, .int .i64 x1), (31, .bool (x2 != (45 : Int)))]) (by kernel_rfl) ?_
              refine WL.nil ?_
              rcases of_cond hm with ⟨c9, hm⟩ | ⟨c9, hm⟩
              · refine W.condT _ rfl c9 ?_
                refine W.seq ?_
                refine W.region ?_
                refine WL.batch 1 [2] (E' := [(2, .bool false)]) (by kernel_rfl) ?_
                refine WL.nil ?_
                refine W.ret ?_
                obtain rfl := Option.some.inj hm
                replace hm := hm2
                obtain rfl := Option.some.inj hm
                exact ⟨_, ⟨_, _, rfl, rfl, rfl⟩, ⟨rfl, F2⟩⟩
              · refine W.condF _ rfl c9 ?_
                refine W.skip ?_
                refine W.region ?_
                refine WL.batch 3 [0, 3] (E' := [(0, .string p0), (3, .int .i64 (wadd .i64 x1 1))]) (by kernel_rfl) ?_
                obtain ⟨x4, q3, hm⟩ := of_let hm
                rw [q3]
                refine WL.nil ?_
                exact ⟨x4, ⟨rfl, rfl, trivial⟩, F2, hm⟩
            · rw [c8]
              refine WL.batch 3 [0, 3, 31] (E' := [(0, .string p0), (3, .int .i64 x1), (31, .bool false)]) (by kernel_rfl) ?_
              refine WL.nil ?_
              refine W.condF _ rfl rfl ?_
              refine W.skip ?_
              refine W.region ?_
              refine WL.batch 3 [0, 3] (E' := [(0, .string p0), (3, .int .i64 (wadd .i64 x1 1))]) (by kernel_rfl) ?_
              obtain ⟨x5, q4, hm⟩ := of_let hm
              rw [q4]
              refine WL.nil ?_
              exact ⟨x5, ⟨rfl, rfl, trivial⟩, F2, hm⟩
        · rw [c5]
          refine WL.batch 4 [0, 3, 4, 20] (E' := [(0, .string p0), (3, .int .i64 x1), (4, .int .u8 x2), (20, .bool (decide (x2 > (122 : Int))))]) (by kernel_rfl) ?_
          rcases of_cond hm with ⟨c10, hm⟩ | ⟨c10, hm⟩
          · rw [c10]
            refine WL.batch 3 [0, 3, 4, 20, 23] (E' := [(0, .string p0), (3, .int .i64 x1), (4, .int .u8 x2), (20, .bool true), (23, .bool (decide (x2 < (48 : Int))))]) (by kernel_rfl) ?_
            rcases of_cond hm with ⟨c11, hm⟩ | ⟨c11, hm⟩
            · rw [c11]
              refine WL.batch 8 [0, 3, 31] (E' := [(0, .string p0), (3, .int .i64 x1), (31, .bool (x2 != (45 : Int)))]) (by kernel_rfl) ?_
              refine WL.nil ?_
              rcases of_cond hm with ⟨c12, hm⟩ | ⟨c12, hm⟩
              · refine W.condT _ rfl c12 ?_
                refine W.seq ?_
                refine W.region ?_
                refine WL.batch 1 [2] (E' := [(2, .bool false)]) (by kernel_rfl) ?_
                refine WL.nil ?_
                refine W.ret ?_
                obtain rfl := Option.some.inj hm
                replace hm := hm2
                obtain rfl := Option.some.inj hm
                exact ⟨_, ⟨_, _, rfl, rfl, rfl⟩, ⟨rfl, F2⟩⟩
              · refine W.condF _ rfl c12 ?_
                refine W.skip ?_
                refine W.region ?_
                refine WL.batch 3 [0, 3] (E' := [(0, .string p0), (3, .int .i64 (wadd .i64 x1 1))]) (by kernel_rfl) ?_
                obtain ⟨x6, q5, hm⟩ := of_let hm
                rw [q5]
                refine WL.nil ?_
                exact ⟨x6, ⟨rfl, rfl, trivial⟩, F2, hm⟩
            · rw [c11]
              refine WL.batch 5 [0, 3, 4, 28] (E' := [(0, .string p0), (3, .int .i64 x1), (4, .int .u8 x2), (28, .bool (decide (x2 > (57 : Int))))]) (by kernel_rfl) ?_
              rcases of_cond hm with ⟨c13, hm⟩ | ⟨c13, hm⟩
              · rw [c13]
                refine WL.batch 3 [0, 3, 31] (E' := [(0, .string p0), (3, .int .i64 x1), (31, .bool (x2 != (45 : Int)))]) (by kernel_rfl) ?_
                refine WL.nil ?_
                rcases of_cond hm with ⟨c14, hm⟩ | ⟨c14, hm⟩
                · refine W.condT _ rfl c14 ?_
                  refine W.seq ?_
                  refine W.region ?_
                  refine WL.batch 1 [2] (E' := [(2, .bool false)]) (by kernel_rfl) ?_
                  refine WL.nil ?_
                  refine W.ret ?_
                  obtain rfl := Option.some.inj hm
                  replace hm := hm2
                  obtain rfl := Option.some.inj hm
                  exact ⟨_, ⟨_, _, rfl, rfl, rfl⟩, ⟨rfl, F2⟩⟩
                · refine W.condF _ rfl c14 ?_
                  refine W.skip ?_
                  refine W.region ?_
                  refine WL.batch 3 [0, 3] (E' := [(0, .string p0), (3, .int .i64 (wadd .i64 x1 1))]) (by kernel_rfl) ?_
                  obtain ⟨x7, q6, hm⟩ := of_let hm
                  rw [q6]
                  refine WL.nil ?_
                  exact ⟨x7, ⟨rfl, rfl, trivial⟩, F2, hm⟩
              · rw [c13]
                refine WL.batch 3 [0, 3, 31] (E' := [(0, .string p0), (3, .int .i64 x1), (31, .bool false)]) (by kernel_rfl) ?_
                refine WL.nil ?_
                refine W.condF _ rfl rfl ?_
                refine W.skip ?_
                refine W.region ?_
                refine WL.batch 3 [0, 3] (E' := [(0, .string p0), (3, .int .i64 (wadd .i64 x1 1))]) (by kernel_rfl) ?_
                obtain ⟨x8, q7, hm⟩ := of_let hm
                rw [q7]
                refine WL.nil ?_
                exact ⟨x8, ⟨rfl, rfl, trivial⟩, F2, hm⟩
          · rw [c10]
            refine WL.batch 11 [0, 3, 31] (E' := [(0, .string p0), (3, .int .i64 x1), (31, .bool false)]) (by kernel_rfl) ?_
            refine WL.nil ?_
            refine W.condF _ rfl rfl ?_
            refine W.skip ?_
            refine W.region ?_
            refine WL.batch 3 [0, 3] (E' := [(0, .string p0), (3, .int .i64 (wadd .i64 x1 1))]) (by kernel_rfl) ?_
            obtain ⟨x9, q8, hm⟩ := of_let hm
            rw [q8]
            refine WL.nil ?_
            exact ⟨x9, ⟨rfl, rfl, trivial⟩, F2, hm⟩
      · refine W.condF _ rfl c2 ?_
        refine W.exit ?_
        exact rest1 _ _ ⟨⟨rfl, trivial⟩, F2, (Option.some.inj hm)⟩

/- cautery/cauteryref02.start -/
theorem cauteryref02_start_walk   (w : World) (r0 : Vector Int 8) (hm : cauteryref02_start.f  = some r0) :
    Calls Try.prog 28 #[] w fun e w' => e = .returned (.agg (ints .u32 r0.toList).toArray) ∧ Fr [] w w' := by
  have F0 := Fr.refl [] w
  unfold cauteryref02_start.f at hm
  refine W.enter (args := []) Try.func28 rfl (n := 2) rfl rfl ?_
  refine W.seq ?_
  refine W.region ?_
  refine WL.op rfl rfl rfl (ex_alloc' (z := .agg (ints .u32 (Vector.replicate 8 (0 : Int)).toList).toArray) (cs := ints .u32 (Vector.replicate 8 (0 : Int)).toList) (fun _ => by kernel_rfl) (by kernel_rfl)) ?_
  rintro _ w1 ⟨b1, rfl, N1⟩
  have h1 := N1.at_
  have s1 := Src.new [] (Ge.one N1.ge)
  have F1 := Fr.step F0 N1.fr trivial
  refine ⟨_, rfl, ?_⟩
  refine WL.nil ?_
  refine W.seq ?_
  refine W.region ?_
  refine WL.batch 1 [0, 1] (E' := [(0, .pointer (some ⟨b1, 0, none⟩)), (1, .agg (ints .u32 (#v[1779033703, 3144134277, 1013904242, 2773480762, 1359893119, 2600822924, 528734635, 1541459225] : Vector Int 8).toList).toArray)]) (by kernel_rfl) ?_
  refine WL.opS rfl rfl rfl (ex_storeObj rfl rfl Try.sizeOf55 h1 (Lens.all _ (ints .u32 (#v[1779033703, 3144134277, 1013904242, 2773480762, 1359893119, 2600822924, 528734635, 1541459225] : Vector Int 8).toList)) (ivl _ _) (ivl _ _) rfl (ints_one _ _)) ?_
  rintro w2 ⟨F2, h2⟩
  have F3 := Fr.step F1 F2 ⟨(In0.src s1 (Nat.le_refl _) trivial), trivial⟩
  refine ⟨_, rfl, ?_⟩
  obtain ⟨a1, q1, hm⟩ := of_let hm
  rw [q1] at h2
  refine WL.nil ?_
  refine W.ret ?_
  obtain rfl := Option.some.inj hm
  exact ⟨_, ⟨_, _, _, rfl, rfl, (loadVar_aggN Try.underlying55 rfl Try.sizeOf55 (ivl _ _) h2 (Lens.all _ (ints .u32 a1.toList))), rfl⟩, ⟨rfl, F3⟩⟩

/- cautery/cauteryref02.steps -/
theorem cauteryref02_steps_walk   (w : World) (r0 : List Int) (hm : cauteryref02_steps.f  = some r0) :
    Calls Try.prog 29 #[] w fun e w' => ∃ (A0 : Option Addr) (n0 : Nat), e = .returned (.slice A0 r0.length n0) ∧ Fr [] w w' ∧ Own w' 54 1 A0 r0.length n0 (ints .u32 r0) ∧ Src (ablk A0) w.heap.size [] := by
  have F0 := Fr.refl [] w
  unfold cauteryref02_steps.f at hm
  refine W.enter (args := []) Try.func29 rfl (n := 2) rfl rfl ?_
  refine W.seq ?_
  refine W.region ?_
  refine WL.batch 1 [] (E' := []) (by kernel_rfl) ?_
  refine WL.nil ?_
  refine W.seq ?_
  refine W.region ?_
  refine WL.op rfl rfl rfl (ex_buildSliceI (T := 54) (k := .u32) (l2 := [1116352408, 1899447441, 3049323471, 3921009573, 961987163, 1508970993, 2453635748, 2870763221, 3624381080, 310598401, 607225278, 1426881987, 1925078388, 2162078206, 2614888103, 3248222580, 3835390401, 4022224774, 264347078, 604807628, 770255983, 1249150122, 1555081692, 1996064986, 2554220882, 2821834349, 2952996808, 3210313671, 3336571891, 3584528711, 113926993, 338241895, 666307205, 773529912, 1294757372, 1396182291, 1695183700, 1986661051, 2177026350, 2456956037, 2730485921, 2820302411, 3259730800, 3345764771, 3516065817, 3600352804, 4094571909, 275423344, 430227734, 506948616, 659060556, 883997877, 958139571, 1322822218, 1537002063, 1747873779, 1955562222, 2024104815, 2227730452, 2361852424, 2428436474, 2756734187, 3204031479, 3329325298]) rfl (fun _ => by kernel_rfl) rfl rfl) ?_
  rintro _ w1 ⟨A1, n1, rfl, h1, F1, s1⟩
  have F2 := Fr.step F0 F1 trivial
  refine ⟨_, rfl, ?_⟩
  refine WL.batch 1 [0] (E' := [(0, .slice A1 [1116352408, 1899447441, 3049323471, 3921009573, 961987163, 1508970993, 2453635748, 2870763221, 3624381080, 310598401, 607225278, 1426881987, 1925078388, 2162078206, 2614888103, 3248222580, 3835390401, 4022224774, 264347078, 604807628, 770255983, 1249150122, 1555081692, 1996064986, 2554220882, 2821834349, 2952996808, 3210313671, 3336571891, 3584528711, 113926993, 338241895, 666307205, 773529912, 1294757372, 1396182291, 1695183700, 1986661051, 2177026350, 2456956037, 2730485921, 2820302411, 3259730800, 3345764771, 3516065817, 3600352804, 4094571909, 275423344, 430227734, 506948616, 659060556, 883997877, 958139571, 1322822218, 1537002063, 1747873779, 1955562222, 2024104815, 2227730452, 2361852424, 2428436474, 2756734187, 3204031479, 3329325298].length n1)]) (by kernel_rfl) ?_
  refine WL.nil ?_
  refine W.ret ?_
  obtain rfl := Option.some.inj hm
  exact ⟨_, ⟨_, _, rfl, rfl, rfl⟩, ⟨A1, n1, rfl, F2, h1, (Src.trans' s1 (Nat.le_refl _) trivial)⟩⟩

/- cautery/cauteryref02.padded -/
theorem cauteryref02_padded_walk (k : Nat) (p0 : List Int) (Ap0 : Option Addr) (np0 : Nat) (w : World) (hp0 : Rd w 1 Ap0 p0.length np0 (ints .u8 p0)) (r0 : List Int) (hm : cauteryref02_padded.f k p0 = some r0) :
    Calls Try.prog 30 #[.slice Ap0 p0.length np0] w fun e w' => ∃ (A0 : Option Addr) (n0 : Nat), e = .returned (.slice A0 r0.length n0) ∧ Fr [] w w' ∧ Own w' 5 1 A0 r0.length n0 (ints .u8 r0) ∧ Src (ablk A0) w.heap.size [] := by
  have F0 := Fr.refl [] w
  unfold cauteryref02_padded.f at hm
  refine W.enter (args := [.slice Ap0 p0.length np0]) Try.func30 rfl (n := 37) rfl rfl ?_
  refine W.seq ?_
  refine W.region ?_
  refine WL.batch 1 [0] (E' := [(0, .slice Ap0 p0.length np0)]) (by kernel_rfl) ?_
  refine WL.nil ?_
  refine W.seq ?_
  refine W.region ?_
  refine WL.op rfl rfl rfl (ex_buildSliceI (T := 5) (k := .u8) (l2 := ([] : List Int)) rfl (fun _ => by kernel_rfl) rfl rfl) ?_
  rintro _ w1 ⟨A1, n1, rfl, h1, F1, s1⟩
  have h2 := (hp0).fr F1 trivial
  have F2 := Fr.step F0 F1 trivial
  refine ⟨_, rfl, ?_⟩
  refine WL.batch 1 [0, 6, 7] (E' := [(0, .slice Ap0 p0.length np0), (6, .slice A1 ([] : List Int).length n1), (7, .slice Ap0 p0.length np0)]) (by kernel_rfl) ?_
  obtain ⟨l1, q1, hm⟩ := of_let hm
  obtain ⟨c1, hm⟩ := of_guard hm
  refine WL.op rfl rfl rfl (ex_appendI (k := .u8) (bytes := 1) Try.underlying23 (by kernel_rfl) rfl rfl h1 h2 q1 c1) ?_
  rintro _ w2 ⟨A2, n2, rfl, h3, F3, s2⟩
  have h4 := (h2).fr F3 ⟨(Ap.symm (Src.ap' s1 (hp0).lt trivial)), trivial⟩
  have F4 := Fr.step F2 F3 ⟨(In0.src s1 (Nat.le_refl _) trivial), trivial⟩
  refine ⟨_, rfl, ?_⟩
  refine WL.batch 1 [0, 3] (E' := [(0, .slice Ap0 p0.length np0), (3, .slice A2 l1.length n2)]) (by kernel_rfl) ?_
  refine WL.nil ?_
  refine W.seq ?_
  refine W.region ?_
  refine WL.batch 1 [0, 9] (E' := [(0, .slice Ap0 p0.length np0), (9, .slice A2 l1.length n2)]) (by kernel_rfl) ?_
  refine WL.op rfl rfl rfl (ex_buildSliceI (T := 5) (k := .u8) (l2 := [128]) rfl (fun _ => by kernel_rfl) rfl rfl) ?_
  rintro _ w3 ⟨A3, n3, rfl, h5, F5, s3⟩
  have h6 := (h4).fr F5 trivial
  have h7 := (h3).fr F5 trivial
  have F6 := Fr.step F4 F5 trivial
  refine ⟨_, rfl, ?_⟩
  obtain ⟨l2, q2, hm⟩ := of_let hm
  obtain ⟨c2, hm⟩ := of_guard hm
  refine WL.op rfl rfl rfl (ex_appendI (k := .u8) (bytes := 1) Try.underlying23 (by kernel_rfl) rfl rfl h7 (h5).rd q2 c2) ?_
  rintro _ w4 ⟨A4, n4, rfl, h8, F7, s4⟩
  have h9 := (h6).fr F7 ⟨(Ap.symm (Src.ap' s2 (h2).lt ⟨(Src.ap' s1 (hp0).lt trivial), trivial⟩)), trivial⟩
  have h10 := (h5).fr F7 ⟨(Src.ap' s3 (h3).lt trivial), trivial⟩
  have F8 := Fr.step F6 F7 ⟨(In0.src s2 F2.size ⟨(In0.src s1 (Nat.le_refl _) trivial), trivial⟩), trivial⟩
  refine ⟨_, rfl, ?_⟩
  refine WL.batch 1 [0, 3] (E' := [(0, .slice Ap0 p0.length np0), (3, .slice A4 l2.length n4)]) (by kernel_rfl) ?_
  refine WL.nil ?_
  obtain ⟨ex1, hm1, hm2⟩ := of_bind hm
  refine W.join1 (fun E w5 => ∃ (l3 : List Int) (A5 : Option Addr) (n5 : Nat), Env.sub E [(0, .slice Ap0 p0.length np0), (3, .slice A5 l3.length n5)] ∧ Rd w5 1 Ap0 p0.length np0 (ints .u8 p0) ∧ Own w5 5 1 A3 [128].length n3 (ints .u8 [128]) ∧ Own w5 5 1 A5 l3.length n5 (ints .u8 l3) ∧ Fr [] w w5 ∧ Src (ablk A5) w.heap.size [] ∧ Ap (ablk A5) (rblk Ap0 p0.length) ∧ Ap (ablk A5) (ablk A3) ∧ l3 = ex1) ?_ (fun rest1 => ?_)
  · rintro _ w5 ⟨l3, A5, n5, hE, h11, h12, h13, F9, s5, ap1, ap2, rfl⟩
    replace hm := hm2
    clear hm1
    refine W.sub ?_ hE
    refine W.seq ?_
    refine W.region ?_
    refine WL.batch 5 [3, 4] (E' := [(3, .slice A5 l3.length n5), (4, .int .u64 (wmul .u64 (IntKind.wrap .u64 (p0.length : Int)) 8))]) (by kernel_rfl) ?_
    obtain ⟨x1, q3, hm⟩ := of_let hm
    rw [q3]
    refine WL.nil ?_
    refine W.seq ?_
    refine W.seq ?_
    refine W.region ?_
    refine WL.batch 1 [3, 4, 5] (E' := [(3, .slice A5 l3.length n5), (4, .int .u64 x1), (5, .int .i64 7)]) (by kernel_rfl) ?_
    refine WL.nil ?_
    obtain ⟨ex2, hm3, hm4⟩ := of_bind hm
    refine W.joinN (fun E w6 => ∃ (l4 : List Int) (A6 : Option Addr) (n6 : Nat), Env.sub E [(3, .slice A6 l4.length n6)] ∧ Rd w6 1 Ap0 p0.length np0 (ints .u8 p0) ∧ Own w6 5 1 A3 [128].length n3 (ints .u8 [128]) ∧ Own w6 5 1 A6 l4.length n6 (ints .u8 l4) ∧ Fr [] w w6 ∧ Src (ablk A6) w.heap.size [] ∧ Ap (ablk A6) (rblk Ap0 p0.length) ∧ Ap (ablk A6) (ablk A3) ∧ l4 = ex2) ?_ (fun rest2 => ?_)
    · rintro _ w6 ⟨l4, A6, n6, hE, h14, h15, h16, F10, s6, ap3, ap4, rfl⟩
      replace hm := hm4
      clear hm3
      refine W.sub ?_ hE
      refine W.seq ?_
      refine W.region ?_
      refine WL.batch 2 [2] (E' := [(2, .slice A6 l4.length n6)]) (by kernel_rfl) ?_
      refine WL.nil ?_
      refine W.ret ?_
      obtain rfl := Option.some.inj hm
      exact ⟨_, ⟨_, _, rfl, rfl, rfl⟩, ⟨A6, n6, rfl, F10, h16, (Src.trans' s6 (Nat.le_refl _) trivial)⟩⟩
    · replace hm := hm3
      clear hm3
      refine W.block ?_
      refine W.loop (fun j1 E w7 => ∃ (l5 : List Int) (x2 : Int) (A7 : Option Addr) (n7 : Nat), Env.sub E [(3, .slice A7 l5.length n7), (4, .int .u64 x1), (5, .int .i64 x2)] ∧ Rd w7 1 Ap0 p0.length np0 (ints .u8 p0) ∧ Own w7 5 1 A3 [128].length n3 (ints .u8 [128]) ∧ Own w7 5 1 A7 l5.length n7 (ints .u8 l5) ∧ Fr [] w w7 ∧ Src (ablk A7) w.heap.size [] ∧ Ap (ablk A7) (rblk Ap0 p0.length) ∧ Ap (ablk A7) (ablk A3) ∧ cauteryref02_padded.l0 x1 j1 l5 x2 = some ex2) ?_ k ?_ ?_
      · rintro _ _ ⟨_, _, _, _, _, _, _, _, _, _, _, _, hz⟩
        exact absurd hz (by simp [cauteryref02_padded.l0])
      · exact ⟨l3, 7, A5, n5, ⟨rfl, rfl, rfl, trivial⟩, h11, h12, h13, F9, (Src.trans' s5 (Nat.le_refl _) trivial), ap1, ap2, hm⟩
      · rintro j1 _ w7 ⟨l5, x2, A7, n7, hE, h17, h18, h19, F11, s7, ap5, ap6, hm⟩
        rw [cauteryref02_padded.l0] at hm
        refine W.sub ?_ hE
        refine W.seq ?_
        refine W.seq ?_
        refine W.region ?_
        refine WL.batch 2 [3, 4, 5, 24] (E' := [(3, .slice A7 l5.length n7), (4, .int .u64 x1), (5, .int .i64 x2), (24, .bool (decide (x2 ≥ (0 : Int))))]) (by kernel_rfl) ?_
        refine WL.nil ?_
        rcases of_cond hm with ⟨c3, hm⟩ | ⟨c3, hm⟩
        · refine W.condT _ rfl c3 ?_
          refine W.skip ?_
          refine W.seq ?_
          refine W.block ?_
          refine W.region ?_
          refine WL.batch 5 [4, 5, 27, 28, 31] (E' := [(4, .int .u64 x1), (5, .int .i64 x2), (27, .slice A7 l5.length n7), (28, .int .u64 x1), (31, .int .u64 (IntKind.wrap .u64 (wmul .i64 8 x2)))]) (by kernel_rfl) ?_
          obtain ⟨x3, q4, hm⟩ := of_let hm
          rw [q4]
          obtain ⟨c4, hm⟩ := of_guard hm
          refine WL.value (.int .u64 (wshr .u64 x1 x3)) rfl rfl rfl (ex_shr rfl rfl c4) rfl ?_
          refine WL.batch 1 [4, 5, 27, 33] (E' := [(4, .int .u64 x1), (5, .int .i64 x2), (27, .slice A7 l5.length n7), (33, .int .u8 (IntKind.wrap .u8 (wshr .u64 x1 x3)))]) (by kernel_rfl) ?_
          obtain ⟨x4, q5, hm⟩ := of_let hm
          rw [q5]
          refine WL.op rfl rfl rfl (ex_buildSliceI (T := 5) (k := .u8) (l2 := [x4]) rfl (fun _ => by kernel_rfl) rfl rfl) ?_
          rintro _ w8 ⟨A8, n8, rfl, h20, F12, s8⟩
          have h21 := (h17).fr F12 trivial
          have h22 := (h18).fr F12 trivial
          have h23 := (h19).fr F12 trivial
          have F13 := Fr.step F11 F12 trivial
          refine ⟨_, rfl, ?_⟩
          obtain ⟨l6, q6, hm⟩ := of_let hm
          obtain ⟨c5, hm⟩ := of_guard hm
          refine WL.op rfl rfl rfl (ex_appendI (k := .u8) (bytes := 1) Try.underlying23 (by kernel_rfl) rfl rfl h23 (h20).rd q6 c5) ?_
          rintro _ w9 ⟨A9, n9, rfl, h24, F14, s9⟩
          have h25 := (h21).fr F14 ⟨(Ap.symm ap5), trivial⟩
          have h26 := (h22).fr F14 ⟨(Ap.symm ap6), trivial⟩
          have h27 := (h20).fr F14 ⟨(Src.ap' s8 (h19).lt trivial), trivial⟩
          have F15 := Fr.step F13 F14 ⟨(In0.src s7 (Nat.le_refl _) trivial), trivial⟩
          refine ⟨_, rfl, ?_⟩
          refine WL.batch 1 [3, 4, 5] (E' := [(3, .slice A9 l6.length n9), (4, .int .u64 x1), (5, .int .i64 x2)]) (by kernel_rfl) ?_
          refine WL.nil ?_
          refine W.region ?_
          refine WL.batch 3 [3, 4, 5] (E' := [(3, .slice A9 l6.length n9), (4, .int .u64 x1), (5, .int .i64 (wsub .i64 x2 1))]) (by kernel_rfl) ?_
          obtain ⟨x5, q7, hm⟩ := of_let hm
          rw [q7]
          refine WL.nil ?_
          exact ⟨l6, x5, A9, n9, ⟨rfl, rfl, rfl, trivial⟩, h25, h26, h24, F15, (Src.trans' s9 F13.size ⟨(Src.trans' s7 (Nat.le_refl _) trivial), trivial⟩), (Src.ap' s9 (h21).lt ⟨ap5, trivial⟩), (Src.ap' s9 (h22).lt ⟨ap6, trivial⟩), hm⟩
        · refine W.condF _ rfl c3 ?_
          refine W.exit ?_
          exact rest2 _ _ ⟨l5, A7, n7, ⟨rfl, trivial⟩, h17, h18, h19, F11, (Src.trans' s7 (Nat.le_refl _) trivial), ap5, ap6, (Option.some.inj hm)⟩
  · replace hm := hm1
    clear hm1
    refine W.seq ?_
    refine W.block ?_
    refine W.loop (fun j2 E w10 => ∃ (l7 : List Int) (A10 : Option Addr) (n10 : Nat), Env.sub E [(0, .slice Ap0 p0.length np0), (3, .slice A10 l7.length n10)] ∧ Rd w10 1 Ap0 p0.length np0 (ints .u8 p0) ∧ Own w10 5 1 A3 [128].length n3 (ints .u8 [128]) ∧ Own w10 5 1 A10 l7.length n10 (ints .u8 l7) ∧ Fr [] w w10 ∧ Src (ablk A10) w.heap.size [] ∧ Ap (ablk A10) (rblk Ap0 p0.length) ∧ Ap (ablk A10) (ablk A3) ∧ cauteryref02_padded.l1 l1 j2 l7 = some ex1) ?_ k ?_ ?_
    · rintro _ _ ⟨_, _, _, _, _, _, _, _, _, _, _, hz⟩
      exact absurd hz (by simp [cauteryref02_padded.l1])
    · exact ⟨l2, A4, n4, ⟨rfl, rfl, trivial⟩, h9, h10, h8, F8, (Src.trans' s4 F6.size ⟨(Src.trans' s2 F2.size ⟨(Src.trans' s1 (Nat.le_refl _) trivial), trivial⟩), trivial⟩), (Src.ap' s4 (h6).lt ⟨(Src.ap' s2 (h2).lt ⟨(Src.ap' s1 (hp0).lt trivial), trivial⟩), trivial⟩), (Src.ap' s4 (h5).lt ⟨(Ap.symm (Src.ap' s3 (h3).lt trivial)), trivial⟩), hm⟩
    · rintro j2 _ w10 ⟨l7, A10, n10, hE, h28, h29, h30, F16, s10, ap7, ap8, hm⟩
      rw [cauteryref02_padded.l1] at hm
      refine W.sub ?_ hE
      refine W.seq ?_
      refine W.seq ?_
      refine W.region ?_
      refine WL.batch 4 [0, 3, 15] (E' := [(0, .slice Ap0 p0.length np0), (3, .slice A10 l7.length n10), (15, .bool ((wrem .i64 (l7.length : Int) 64) != (56 : Int)))]) (by kernel_rfl) ?_
      refine WL.nil ?_
      rcases of_cond hm with ⟨c6, hm⟩ | ⟨c6, hm⟩
      · refine W.condT _ rfl c6 ?_
        refine W.skip ?_
        refine W.block ?_
        refine W.region ?_
        refine WL.batch 1 [0, 16] (E' := [(0, .slice Ap0 p0.length np0), (16, .slice A10 l7.length n10)]) (by kernel_rfl) ?_
        refine WL.op rfl rfl rfl (ex_buildSliceI (T := 5) (k := .u8) (l2 := [0]) rfl (fun _ => by kernel_rfl) rfl rfl) ?_
        rintro _ w11 ⟨A11, n11, rfl, h31, F17, s11⟩
        have h32 := (h28).fr F17 trivial
        have h33 := (h29).fr F17 trivial
        have h34 := (h30).fr F17 trivial
        have F18 := Fr.step F16 F17 trivial
        refine ⟨_, rfl, ?_⟩
        obtain ⟨l8, q8, hm⟩ := of_let hm
        obtain ⟨c7, hm⟩ := of_guard hm
        refine WL.op rfl rfl rfl (ex_appendI (k := .u8) (bytes := 1) Try.underlying23 (by kernel_rfl) rfl rfl h34 (h31).rd q8 c7) ?_
        rintro _ w12 ⟨A12, n12, rfl, h35, F19, s12⟩
        have h36 := (h32).fr F19 ⟨(Ap.symm ap7), trivial⟩
        have h37 := (h33).fr F19 ⟨(Ap.symm ap8), trivial⟩
        have h38 := (h31).fr F19 ⟨(Src.ap' s11 (h30).lt trivial), trivial⟩
        have F20 := Fr.step F18 F19 ⟨(In0.src s10 (Nat.le_refl _) trivial), trivial⟩
        refine ⟨_, rfl, ?_⟩
        refine WL.batch 1 [0, 3] (E' := [(0, .slice Ap0 p0.length np0), (3, .slice A12 l8.length n12)]) (by kernel_rfl) ?_
        refine WL.nil ?_
        exact ⟨l8, A12, n12, ⟨rfl, rfl, trivial⟩, h36, h37, h35, F20, (Src.trans' s12 F18.size ⟨(Src.trans' s10 (Nat.le_refl _) trivial), trivial⟩), (Src.ap' s12 (h32).lt ⟨ap7, trivial⟩), (Src.ap' s12 (h33).lt ⟨ap8, trivial⟩), hm⟩
      · refine W.condF _ rfl c6 ?_
        refine W.exit ?_
        exact rest1 _ _ ⟨l7, A10, n10, ⟨rfl, rfl, trivial⟩, h28, h29, h30, F16, (Src.trans' s10 (Nat.le_refl _) trivial), ap7, ap8, (Option.some.inj hm)⟩

/- cautery/cauteryref02.turn -/
theorem cauteryref02_turn_walk (p0 : Int) (p1 : Int)  (w : World) (r0 : Int) (hm : cauteryref02_turn.f p0 p1 = some r0) :
    Calls Try.prog 41 #[.int .u32 p0, .int .u64 p1] w fun e w' => e = .returned (.int .u32 r0) ∧ Fr [] w w' := by
  have F0 := Fr.refl [] w
  unfold cauteryref02_turn.f at hm
  refine W.enter (args := [.int .u32 p0, .int .u64 p1]) Try.func41 rfl (n := 13) rfl rfl ?_
  refine W.seq ?_
  refine W.region ?_
  refine WL.batch 1 [0, 1] (E' := [(0, .int .u32 p0), (1, .int .u64 p1)]) (by kernel_rfl) ?_
  refine WL.nil ?_
  refine W.seq ?_
  refine W.region ?_
  refine WL.batch 2 [0, 1, 5, 6] (E' := [(0, .int .u32 p0), (1, .int .u64 p1), (5, .int .u32 p0), (6, .int .u64 p1)]) (by kernel_rfl) ?_
  obtain ⟨c1, hm⟩ := of_guard hm
  refine WL.value (.int .u32 (wshr .u32 p0 p1)) rfl rfl rfl (ex_shr rfl rfl c1) rfl ?_
  refine WL.batch 3 [7, 8, 10] (E' := [(7, .int .u32 (wshr .u32 p0 p1)), (8, .int .u32 p0), (10, .int .u64 (wsub .u64 32 p1))]) (by kernel_rfl) ?_
  obtain ⟨x1, q1, hm⟩ := of_let hm
  rw [q1]
  obtain ⟨x2, q2, hm⟩ := of_let hm
  rw [q2]
  obtain ⟨c2, hm⟩ := of_guard hm
  refine WL.value (.int .u32 (wshl .u32 p0 x2)) rfl rfl rfl (ex_shl rfl rfl c2) rfl ?_
  refine WL.batch 2 [4] (E' := [(4, .int .u32 (wor .u32 x1 (wshl .u32 p0 x2)))]) (by kernel_rfl) ?_
  obtain ⟨x3, q3, hm⟩ := of_let hm
  rw [q3]
  refine WL.nil ?_
  refine W.ret ?_
  obtain rfl := Option.some.inj hm
  exact ⟨_, ⟨_, _, rfl, rfl, rfl⟩, ⟨rfl, F0⟩⟩

/- cautery/cauteryref02.block -/
theorem cauteryref02_block_walk (k : Nat) (p0 : Vector Int 8) (p1 : List Int) (p2 : List Int) (Ap1 : Option Addr) (np1 : Nat) (Ap2 : Option Addr) (np2 : Nat) (w : World) (hp1 : Rd w 1 Ap1 p1.length np1 (ints .u8 p1)) (hp2 : Rd w 1 Ap2 p2.length np2 (ints .u32 p2)) (r0 : Vector Int 8) (hm : cauteryref02_block.f k p0 p1 p2 = some r0) :
    Calls Try.prog 31 #[.agg (ints .u32 p0.toList).toArray, .slice Ap1 p1.length np1, .slice Ap2 p2.length np2] w fun e w' => e = .returned (.agg (ints .u32 r0.toList).toArray) ∧ Fr [] w w' := by
  have F0 := Fr.refl [] w
  unfold cauteryref02_block.f at hm
  refine W.enter (args := [.agg (ints .u32 p0.toList).toArray, .slice Ap1 p1.length np1, .slice Ap2 p2.length np2]) Try.func31 rfl (n := 202) rfl rfl ?_
  refine W.seq ?_
  refine W.region ?_
  refine WL.op rfl rfl rfl (ex_box' (cs := ints .u32 p0.toList) rfl rfl) ?_
  rintro _ w1 ⟨b1, rfl, N1⟩
  have h1 := N1.at_
  have s1 := Src.new [] (Ge.one N1.ge)
  have h2 := (hp1).fr N1.fr trivial
  have h3 := (hp2).fr N1.fr trivial
  have F1 := Fr.step F0 N1.fr trivial
  refine ⟨_, rfl, ?_⟩
  refine WL.op rfl rfl rfl (ex_alloc' (z := .agg (ints .u32 (Vector.replicate 8 (0 : Int)).toList).toArray) (cs := ints .u32 (Vector.replicate 8 (0 : Int)).toList) (fun _ => by kernel_rfl) (by kernel_rfl)) ?_
  rintro _ w2 ⟨b2, rfl, N2⟩
  have h4 := N2.at_
  have s2 := Src.new [] (Ge.one N2.ge)
  have h5 := (h2).fr N2.fr trivial
  have h6 := (h3).fr N2.fr trivial
  have h7 := Fr.at N2.fr h1 (ApL.not (x := some b1) (S := []) trivial _ rfl)
  have F2 := Fr.step F1 N2.fr trivial
  refine ⟨_, rfl, ?_⟩
  refine WL.nil ?_
  refine W.seq ?_
  refine W.region ?_
  obtain ⟨⟨c1, c2, c3, c4⟩, hm⟩ := of_guard hm
  obtain ⟨l1, q1, hm⟩ := of_let hm
  refine WL.op rfl rfl rfl (ex_makeI (k := .u32) (bytes := 4) Try.underlying57 (by kernel_rfl) rfl rfl c1 c2 c3 c4 q1) ?_
  rintro _ w3 ⟨A1, n1, rfl, h8, F3, s3⟩
  have h9 := (h5).fr F3 trivial
  have h10 := (h6).fr F3 trivial
  have h11 := Fr.at F3 h7 (ApL.not (x := some b1) (S := []) trivial _ rfl)
  have h12 := Fr.at F3 h4 (ApL.not (x := some b2) (S := []) trivial _ rfl)
  have F4 := Fr.step F2 F3 trivial
  refine ⟨_, rfl, ?_⟩
  refine WL.batch 1 [1, 2, 3, 6, 7] (E' := [(1, .slice Ap1 p1.length np1), (2, .slice Ap2 p2.length np2), (3, .pointer (some ⟨b1, 0, none⟩)), (6, .pointer (some ⟨b2, 0, none⟩)), (7, .slice A1 l1.length n1)]) (by kernel_rfl) ?_
  refine WL.nil ?_
  refine W.seq ?_
  refine W.seq ?_
  refine W.region ?_
  refine WL.batch 1 [1, 2, 3, 6, 7, 8] (E' := [(1, .slice Ap1 p1.length np1), (2, .slice Ap2 p2.length np2), (3, .pointer (some ⟨b1, 0, none⟩)), (6, .pointer (some ⟨b2, 0, none⟩)), (7, .slice A1 l1.length n1), (8, .int .i64 0)]) (by kernel_rfl) ?_
  refine WL.nil ?_
  obtain ⟨ex1, hm1, hm2⟩ := of_bind hm
  refine W.joinN (fun E w4 => ∃ (l2 : List Int), Env.sub E [(2, .slice Ap2 p2.length np2), (3, .pointer (some ⟨b1, 0, none⟩)), (6, .pointer (some ⟨b2, 0, none⟩)), (7, .slice A1 l2.length n1)] ∧ Rd w4 1 Ap1 p1.length np1 (ints .u8 p1) ∧ Rd w4 1 Ap2 p2.length np2 (ints .u32 p2) ∧ w4.heap[b1]? = some (.cells (ints .u32 p0.toList).toArray 55 (0, 0)) ∧ w4.heap[b2]? = some (.cells (ints .u32 (Vector.replicate 8 (0 : Int)).toList).toArray 55 (0, 0)) ∧ Own w4 54 1 A1 l2.length n1 (ints .u32 l2) ∧ Fr [] w w4 ∧ l2 = ex1) ?_ (fun rest1 => ?_)
  · rintro _ w4 ⟨l2, hE, h13, h14, h15, h16, h17, F5, rfl⟩
    replace hm := hm2
    clear hm1
    refine W.sub ?_ hE
    refine W.seq ?_
    refine W.region ?_
    refine WL.value (.agg (ints .u32 p0.toList).toArray) rfl rfl rfl (ex_loadAgg Try.underlying55 rfl Try.sizeOf55 (ivl _ _) rfl h15 (Lens.all _ (ints .u32 p0.toList))) rfl ?_
    refine WL.op rfl rfl rfl (ex_alloc' (z := .agg (ints .u32 (Vector.replicate 8 (0 : Int)).toList).toArray) (cs := ints .u32 (Vector.replicate 8 (0 : Int)).toList) (fun _ => by kernel_rfl) (by kernel_rfl)) ?_
    rintro _ w5 ⟨b3, rfl, N3⟩
    have h18 := N3.at_
    have s4 := Src.new [] (Ge.one N3.ge)
    have h19 := (h13).fr N3.fr trivial
    have h20 := (h14).fr N3.fr trivial
    have h21 := Fr.at N3.fr h15 (ApL.not (x := some b1) (S := []) trivial _ rfl)
    have h22 := Fr.at N3.fr h16 (ApL.not (x := some b2) (S := []) trivial _ rfl)
    have h23 := (h17).fr N3.fr trivial
    have F6 := Fr.step F5 N3.fr trivial
    refine ⟨_, rfl, ?_⟩
    refine WL.opS rfl rfl rfl (ex_storeObj rfl rfl Try.sizeOf55 h18 (Lens.all _ (ints .u32 p0.toList)) (ivl _ _) (ivl _ _) rfl (ints_one _ _)) ?_
    rintro w6 ⟨F7, h24⟩
    have h25 := (h19).fr F7 ⟨(Ap.symm (Src.ap' s4 (h13).lt trivial)), trivial⟩
    have h26 := (h20).fr F7 ⟨(Ap.symm (Src.ap' s4 (h14).lt trivial)), trivial⟩
    have h27 := Fr.at F7 h21 (ApL.not (x := some b1) (S := [some b3]) ⟨(Ap.symm (Src.ap' s4 (Lt.one (at_lt h15)) trivial)), trivial⟩ _ rfl)
    have h28 := Fr.at F7 h22 (ApL.not (x := some b2) (S := [some b3]) ⟨(Ap.symm (Src.ap' s4 (Lt.one (at_lt h16)) trivial)), trivial⟩ _ rfl)
    have h29 := (h23).fr F7 ⟨(Ap.symm (Src.ap' s4 (h17).lt trivial)), trivial⟩
    have F8 := Fr.step F6 F7 ⟨(In0.src s4 F5.size trivial), trivial⟩
    refine ⟨_, rfl, ?_⟩
    refine WL.nil ?_
    refine W.seq ?_
    refine W.seq ?_
    refine W.region ?_
    refine WL.batch 1 [2, 3, 6, 7, 11, 12] (E' := [(2, .slice Ap2 p2.length np2), (3, .pointer (some ⟨b1, 0, none⟩)), (6, .pointer (some ⟨b2, 0, none⟩)), (7, .slice A1 l2.length n1), (11, .pointer (some ⟨b3, 0, none⟩)), (12, .int .i64 0)]) (by kernel_rfl) ?_
    refine WL.nil ?_
    obtain ⟨ex2, hm3, hm4⟩ := of_bind hm
    refine W.joinN (fun E w7 => ∃ (a1 : Vector Int 8), Env.sub E [(3, .pointer (some ⟨b1, 0, none⟩)), (6, .pointer (some ⟨b2, 0, none⟩)), (11, .pointer (some ⟨b3, 0, none⟩))] ∧ Rd w7 1 Ap1 p1.length np1 (ints .u8 p1) ∧ Rd w7 1 Ap2 p2.length np2 (ints .u32 p2) ∧ w7.heap[b1]? = some (.cells (ints .u32 p0.toList).toArray 55 (0, 0)) ∧ w7.heap[b2]? = some (.cells (ints .u32 (Vector.replicate 8 (0 : Int)).toList).toArray 55 (0, 0)) ∧ Own w7 54 1 A1 l2.length n1 (ints .u32 l2) ∧ w7.heap[b3]? = some (.cells (ints .u32 a1.toList).toArray 55 (0, 0)) ∧ Fr [] w w7 ∧ a1 = ex2) ?_ (fun rest2 => ?_)
    · rintro _ w7 ⟨a1, hE, h30, h31, h32, h33, h34, h35, F9, rfl⟩
      replace hm := hm4
      clear hm3
      refine W.sub ?_ hE
      refine W.seq ?_
      refine W.seq ?_
      refine W.region ?_
      refine WL.batch 1 [3, 6, 11, 17] (E' := [(3, .pointer (some ⟨b1, 0, none⟩)), (6, .pointer (some ⟨b2, 0, none⟩)), (11, .pointer (some ⟨b3, 0, none⟩)), (17, .int .i64 0)]) (by kernel_rfl) ?_
      refine WL.nil ?_
      obtain ⟨ex3, hm5, hm6⟩ := of_bind hm
      refine W.joinN (fun E w8 => ∃ (a2 : Vector Int 8), Env.sub E [(6, .pointer (some ⟨b2, 0, none⟩)), (11, .pointer (some ⟨b3, 0, none⟩))] ∧ Rd w8 1 Ap1 p1.length np1 (ints .u8 p1) ∧ Rd w8 1 Ap2 p2.length np2 (ints .u32 p2) ∧ w8.heap[b1]? = some (.cells (ints .u32 p0.toList).toArray 55 (0, 0)) ∧ w8.heap[b2]? = some (.cells (ints .u32 (Vector.replicate 8 (0 : Int)).toList).toArray 55 (0, 0)) ∧ Own w8 54 1 A1 l2.length n1 (ints .u32 l2) ∧ w8.heap[b3]? = some (.cells (ints .u32 a2.toList).toArray 55 (0, 0)) ∧ Fr [] w w8 ∧ a2 = ex3) ?_ (fun rest3 => ?_)
      · rintro _ w8 ⟨a2, hE, h36, h37, h38, h39, h40, h41, F10, rfl⟩
        replace hm := hm6
        clear hm5
        refine W.sub ?_ hE
        refine W.seq ?_
        refine W.region ?_
        refine WL.value (.agg (ints .u32 a2.toList).toArray) rfl rfl rfl (ex_loadAgg Try.underlying55 rfl Try.sizeOf55 (ivl _ _) rfl h41 (Lens.all _ (ints .u32 a2.toList))) rfl ?_
        refine WL.opS rfl rfl rfl (ex_storeObj rfl rfl Try.sizeOf55 h39 (Lens.all _ (ints .u32 a2.toList)) (ivl _ _) (ivl _ _) rfl (ints_one _ _)) ?_
        rintro w9 ⟨F11, h42⟩
        have h43 := (h36).fr F11 ⟨(Ap.symm (Src.ap' s2 (h2).lt trivial)), trivial⟩
        have h44 := (h37).fr F11 ⟨(Ap.symm (Src.ap' s2 (h3).lt trivial)), trivial⟩
        have h45 := Fr.at F11 h38 (ApL.not (x := some b1) (S := [some b2]) ⟨(Ap.symm (Src.ap' s2 (Lt.one (at_lt h1)) trivial)), trivial⟩ _ rfl)
        have h46 := (h40).fr F11 ⟨(Src.ap' s3 (Lt.one (at_lt h4)) trivial), trivial⟩
        have h47 := Fr.at F11 h41 (ApL.not (x := some b3) (S := [some b2]) ⟨(Src.ap' s4 (Lt.one (at_lt h16)) trivial), trivial⟩ _ rfl)
        have F12 := Fr.step F10 F11 ⟨(In0.src s2 F1.size trivial), trivial⟩
        refine ⟨_, rfl, ?_⟩
        refine WL.nil ?_
        refine W.ret ?_
        obtain rfl := Option.some.inj hm
        exact ⟨_, ⟨_, _, _, rfl, rfl, (loadVar_aggN Try.underlying55 rfl Try.sizeOf55 (ivl _ _) h42 (Lens.all _ (ints .u32 a2.toList))), rfl⟩, ⟨rfl, F12⟩⟩
      · replace hm := hm5
        clear hm5
        refine W.block ?_
        refine W.loop (fun j1 E w10 => ∃ (x1 : Int) (a3 : Vector Int 8), Env.sub E [(3, .pointer (some ⟨b1, 0, none⟩)), (6, .pointer (some ⟨b2, 0, none⟩)), (11, .pointer (some ⟨b3, 0, none⟩)), (17, .int .i64 x1)] ∧ Rd w10 1 Ap1 p1.length np1 (ints .u8 p1) ∧ Rd w10 1 Ap2 p2.length np2 (ints .u32 p2) ∧ w10.heap[b1]? = some (.cells (ints .u32 p0.toList).toArray 55 (0, 0)) ∧ w10.heap[b2]? = some (.cells (ints .u32 (Vector.replicate 8 (0 : Int)).toList).toArray 55 (0, 0)) ∧ Own w10 54 1 A1 l2.length n1 (ints .u32 l2) ∧ w10.heap[b3]? = some (.cells (ints .u32 a3.toList).toArray 55 (0, 0)) ∧ Fr [] w w10 ∧ cauteryref02_block.l0 p0 j1 x1 a3 = some ex3) ?_ k ?_ ?_
        · rintro _ _ ⟨_, _, _, _, _, _, _, _, _, _, hz⟩
          exact absurd hz (by simp [cauteryref02_block.l0])
        · exact ⟨0, a1, ⟨rfl, rfl, rfl, rfl, trivial⟩, h30, h31, h32, h33, h34, h35, F9, hm⟩
        · rintro j1 _ w10 ⟨x1, a3, hE, h48, h49, h50, h51, h52, h53, F13, hm⟩
          rw [cauteryref02_block.l0] at hm
          refine W.sub ?_ hE
          refine W.seq ?_
          refine W.seq ?_
          refine W.region ?_
          refine WL.batch 2 [3, 6, 11, 17, 189] (E' := [(3, .pointer (some ⟨b1, 0, none⟩)), (6, .pointer (some ⟨b2, 0, none⟩)), (11, .pointer (some ⟨b3, 0, none⟩)), (17, .int .i64 x1), (189, .bool (decide (x1 < (8 : Int))))]) (by kernel_rfl) ?_
          refine WL.nil ?_
          rcases of_cond hm with ⟨c5, hm⟩ | ⟨c5, hm⟩
          · refine W.condT _ rfl c5 ?_
            refine W.skip ?_
            refine W.seq ?_
            refine W.block ?_
            refine W.regionDw (N := 10) Try_mixed rfl ?_
            intro w11 F14
            have h54 := (h48).fr F14 trivial
            have h55 := (h49).fr F14 trivial
            have h56 := Fr.at F14 h50 (ApL.not (x := some b1) (S := []) trivial _ rfl)
            have h57 := Fr.at F14 h51 (ApL.not (x := some b2) (S := []) trivial _ rfl)
            have h58 := (h52).fr F14 trivial
            have h59 := Fr.at F14 h53 (ApL.not (x := some b3) (S := []) trivial _ rfl)
            have F15 := Fr.step F13 F14 trivial
            refine WD.batch (f' := 7) [0, 1, 4] #[true, true, false, false, true, false, false, false, false, false] [3, 6, 11, 17, 192, 193, 196] rfl (E' := [(3, .pointer (some ⟨b1, 0, none⟩)), (6, .pointer (some ⟨b2, 0, none⟩)), (11, .pointer (some ⟨b3, 0, none⟩)), (17, .int .i64 x1), (192, .int .i64 x1), (193, .int .i64 x1), (196, .int .i64 x1)]) (by kernel_rfl) ?_
            obtain ⟨⟨c6, c7⟩, hm⟩ := of_guard hm
            refine WD.valU 2 (.pointer (some ⟨b3, 0 + Int.toNat x1 * 1, none⟩)) rfl (by kernel_rfl) rfl rfl (fun _ => (ex_indexAddrArr Try.underlying55 Try.sizeOf54 rfl rfl c6 c7)) rfl ?_
            refine WD.load 3 [9] [7, 8, 9] (.int .u32 (vget a3 x1)) rfl (by kernel_rfl) rfl rfl rfl (ex_loadOne Try.underlying54 rfl rfl h59 (Lens.comp (Lens.all _ (ints .u32 (vset a3 x1 (vget a3 x1)).toList)) (Lens.vec c6 c7 (vget a3 x1)) rfl)) ?_
            refine WD.valU 5 (.pointer (some ⟨b1, 0 + Int.toNat x1 * 1, none⟩)) rfl (by kernel_rfl) rfl rfl (fun _ => (ex_indexAddrArr Try.underlying55 Try.sizeOf54 rfl rfl c6 c7)) rfl ?_
            refine WD.load 6 [9] [7, 8, 9] (.int .u32 (vget p0 x1)) rfl (by kernel_rfl) rfl rfl rfl (ex_loadOne Try.underlying54 rfl rfl h56 (Lens.comp (Lens.all _ (ints .u32 (vset p0 x1 (vget p0 x1)).toList)) (Lens.vec c6 c7 (vget p0 x1)) rfl)) ?_
            refine WD.batch (f' := 2) [7] #[true, true, true, true, true, true, true, true, false, false] [3, 6, 11, 17, 192, 199] rfl (E' := [(3, .pointer (some ⟨b1, 0, none⟩)), (6, .pointer (some ⟨b2, 0, none⟩)), (11, .pointer (some ⟨b3, 0, none⟩)), (17, .int .i64 x1), (192, .int .i64 x1), (199, .int .u32 (wadd .u32 (vget a3 x1) (vget p0 x1)))]) (by kernel_rfl) ?_
            obtain ⟨x2, q2, hm⟩ := of_let hm
            rw [q2]
            refine WD.valU 8 (.pointer (some ⟨b3, 0 + Int.toNat x1 * 1, none⟩)) rfl (by kernel_rfl) rfl rfl (fun _ => (ex_indexAddrArr Try.underlying55 Try.sizeOf54 rfl rfl c6 c7)) rfl ?_
            refine WD.opS 9 (by kernel_rfl) rfl rfl rfl rfl (ex_storeObj rfl rfl Try.sizeOf54 h59 (Lens.comp (Lens.all _ (ints .u32 (vset a3 x1 x2).toList)) (Lens.vec c6 c7 x2) rfl) rfl rfl rfl (one_sing rfl)) ?_
            rintro w12 ⟨F16, h60⟩
            have h61 := (h54).fr F16 ⟨(Ap.symm (Src.ap' s4 (h13).lt trivial)), trivial⟩
            have h62 := (h55).fr F16 ⟨(Ap.symm (Src.ap' s4 (h14).lt trivial)), trivial⟩
            have h63 := Fr.at F16 h56 (ApL.not (x := some b1) (S := [some b3]) ⟨(Ap.symm (Src.ap' s4 (Lt.one (at_lt h15)) trivial)), trivial⟩ _ rfl)
            have h64 := Fr.at F16 h57 (ApL.not (x := some b2) (S := [some b3]) ⟨(Ap.symm (Src.ap' s4 (Lt.one (at_lt h16)) trivial)), trivial⟩ _ rfl)
            have h65 := (h58).fr F16 ⟨(Ap.symm (Src.ap' s4 (h17).lt trivial)), trivial⟩
            have F17 := Fr.step F15 F16 ⟨(In0.src s4 F5.size trivial), trivial⟩
            refine ⟨_, rfl, trivial, ?_⟩
            obtain ⟨a4, q3, hm⟩ := of_let hm
            rw [q3] at h60
            refine WD.end_ (by kernel_rfl) ?_
            refine W.region ?_
            refine WL.batch 3 [3, 6, 11, 17] (E' := [(3, .pointer (some ⟨b1, 0, none⟩)), (6, .pointer (some ⟨b2, 0, none⟩)), (11, .pointer (some ⟨b3, 0, none⟩)), (17, .int .i64 (wadd .i64 x1 1))]) (by kernel_rfl) ?_
            obtain ⟨x3, q4, hm⟩ := of_let hm
            rw [q4]
            refine WL.nil ?_
            exact ⟨x3, a4, ⟨rfl, rfl, rfl, rfl, trivial⟩, h61, h62, h63, h64, h65, h60, F17, hm⟩
          · refine W.condF _ rfl c5 ?_
            refine W.exit ?_
            exact rest3 _ _ ⟨a3, ⟨rfl, rfl, trivial⟩, h48, h49, h50, h51, h52, h53, F13, (Option.some.inj hm)⟩
    · replace hm := hm3
      clear hm3
      refine W.block ?_
      refine W.loop (fun j2 E w13 => ∃ (x4 : Int) (a5 : Vector Int 8), Env.sub E [(2, .slice Ap2 p2.length np2), (3, .pointer (some ⟨b1, 0, none⟩)), (6, .pointer (some ⟨b2, 0, none⟩)), (7, .slice A1 l2.length n1), (11, .pointer (some ⟨b3, 0, none⟩)), (12, .int .i64 x4)] ∧ Rd w13 1 Ap1 p1.length np1 (ints .u8 p1) ∧ Rd w13 1 Ap2 p2.length np2 (ints .u32 p2) ∧ w13.heap[b1]? = some (.cells (ints .u32 p0.toList).toArray 55 (0, 0)) ∧ w13.heap[b2]? = some (.cells (ints .u32 (Vector.replicate 8 (0 : Int)).toList).toArray 55 (0, 0)) ∧ Own w13 54 1 A1 l2.length n1 (ints .u32 l2) ∧ w13.heap[b3]? = some (.cells (ints .u32 a5.toList).toArray 55 (0, 0)) ∧ Fr [] w w13 ∧ cauteryref02_block.l1 p2 l1 l2 j2 x4 a5 = some ex2) ?_ k ?_ ?_
      · rintro _ _ ⟨_, _, _, _, _, _, _, _, _, _, hz⟩
        exact absurd hz (by simp [cauteryref02_block.l1])
      · exact ⟨0, p0, ⟨rfl, rfl, rfl, rfl, rfl, rfl, trivial⟩, h25, h26, h27, h28, h29, h24, F8, hm⟩
      · rintro j2 _ w13 ⟨x4, a5, hE, h66, h67, h68, h69, h70, h71, F18, hm⟩
        rw [cauteryref02_block.l1] at hm
        refine W.sub ?_ hE
        refine W.seq ?_
        refine W.seq ?_
        refine W.region ?_
        refine WL.batch 2 [2, 3, 6, 7, 11, 12, 105] (E' := [(2, .slice Ap2 p2.length np2), (3, .pointer (some ⟨b1, 0, none⟩)), (6, .pointer (some ⟨b2, 0, none⟩)), (7, .slice A1 l2.length n1), (11, .pointer (some ⟨b3, 0, none⟩)), (12, .int .i64 x4), (105, .bool (decide (x4 < (64 : Int))))]) (by kernel_rfl) ?_
        refine WL.nil ?_
        rcases of_cond hm with ⟨c8, hm⟩ | ⟨c8, hm⟩
        · refine W.condT _ rfl c8 ?_
          refine W.skip ?_
          refine W.seq ?_
          refine W.block ?_
          refine W.seq ?_
          refine W.regionDw (N := 6) Try_mixed rfl ?_
          intro w14 F19
          have h72 := (h66).fr F19 trivial
          have h73 := (h67).fr F19 trivial
          have h74 := Fr.at F19 h68 (ApL.not (x := some b1) (S := []) trivial _ rfl)
          have h75 := Fr.at F19 h69 (ApL.not (x := some b2) (S := []) trivial _ rfl)
          have h76 := (h70).fr F19 trivial
          have h77 := Fr.at F19 h71 (ApL.not (x := some b3) (S := []) trivial _ rfl)
          have F20 := Fr.step F18 F19 trivial
          refine WD.batch (f' := 4) [0, 2] #[true, false, true, false, false, false] [2, 3, 6, 7, 11, 12, 108, 110] rfl (E' := [(2, .slice Ap2 p2.length np2), (3, .pointer (some ⟨b1, 0, none⟩)), (6, .pointer (some ⟨b2, 0, none⟩)), (7, .slice A1 l2.length n1), (11, .pointer (some ⟨b3, 0, none⟩)), (12, .int .i64 x4), (108, .pointer (some ⟨b3, 0, none⟩)), (110, .pointer (some ⟨b3, 4, none⟩))]) (by kernel_rfl) ?_
          refine WD.load 1 [] [4, 5] (.int .u32 (vget a5 0)) rfl (by kernel_rfl) rfl rfl rfl (ex_loadOne Try.underlying54 rfl rfl h77 (Lens.vecN 0 (by decide) (vget a5 0))) ?_
          refine WD.batch (f' := 2) [4] #[true, true, true, false, true, false] [2, 3, 6, 7, 11, 12, 13, 110] rfl (E' := [(2, .slice Ap2 p2.length np2), (3, .pointer (some ⟨b1, 0, none⟩)), (6, .pointer (some ⟨b2, 0, none⟩)), (7, .slice A1 l2.length n1), (11, .pointer (some ⟨b3, 0, none⟩)), (12, .int .i64 x4), (13, .int .u32 (vget a5 0)), (110, .pointer (some ⟨b3, 4, none⟩))]) (by kernel_rfl) ?_
          obtain ⟨x5, q5, hm⟩ := of_let hm
          rw [q5]
          refine WD.load 3 [] [5] (.int .u32 (vget a5 4)) rfl (by kernel_rfl) rfl rfl rfl (ex_loadOne Try.underlying54 rfl rfl h77 (Lens.vecN 4 (by decide) (vget a5 4))) ?_
          refine WD.batch (f' := 0) [5] #[true, true, true, true, true, true] [2, 3, 6, 7, 11, 12, 13, 14] rfl (E' := [(2, .slice Ap2 p2.length np2), (3, .pointer (some ⟨b1, 0, none⟩)), (6, .pointer (some ⟨b2, 0, none⟩)), (7, .slice A1 l2.length n1), (11, .pointer (some ⟨b3, 0, none⟩)), (12, .int .i64 x4), (13, .int .u32 x5), (14, .int .u32 (vget a5 4))]) (by kernel_rfl) ?_
          obtain ⟨x6, q6, hm⟩ := of_let hm
          rw [q6]
          refine WD.end_ (by kernel_rfl) ?_
          refine W.seq ?_
          refine W.regionDw (N := 33) Try_mixed rfl ?_
          intro w15 F21
          have h78 := (h72).fr F21 trivial
          have h79 := (h73).fr F21 trivial
          have h80 := Fr.at F21 h74 (ApL.not (x := some b1) (S := []) trivial _ rfl)
          have h81 := Fr.at F21 h75 (ApL.not (x := some b2) (S := []) trivial _ rfl)
          have h82 := (h76).fr F21 trivial
          have h83 := Fr.at F21 h77 (ApL.not (x := some b3) (S := []) trivial _ rfl)
          have F22 := Fr.step F20 F21 trivial
          refine WD.batch (f' := 20) [0, 2, 4, 7, 11, 12, 15, 16, 17, 22, 23, 27, 28] #[true, false, true, false, true, false, false, true, false, false, false, true, true, false, false, true, true, true, false, false, false, false, true, true, false, false, false, true, true, false, false, false, false] [2, 3, 6, 7, 11, 12, 13, 112, 114, 116, 119, 123, 124, 128, 129, 134, 135, 139, 140] rfl (E' := [(2, .slice Ap2 p2.length np2), (3, .pointer (some ⟨b1, 0, none⟩)), (6, .pointer (some ⟨b2, 0, none⟩)), (7, .slice A1 l2.length n1), (11, .pointer (some ⟨b3, 0, none⟩)), (12, .int .i64 x4), (13, .int .u32 x5), (112, .pointer (some ⟨b3, 7, none⟩)), (114, .int .u32 x6), (116, .int .u32 x6), (119, .int .u32 x6), (123, .int .u32 x6), (124, .pointer (some ⟨b3, 5, none⟩)), (128, .int .u32 (wxor .u32 x6 4294967295)), (129, .pointer (some ⟨b3, 6, none⟩)), (134, .slice Ap2 p2.length np2), (135, .int .i64 x4), (139, .slice A1 l2.length n1), (140, .int .i64 x4)]) (by kernel_rfl) ?_
          obtain ⟨x7, q7, hm⟩ := of_let hm
          rw [q7]
          refine WD.load 1 [] [10, 21, 26, 31, 32] (.int .u32 (vget a5 7)) rfl (by kernel_rfl) rfl rfl rfl (ex_loadOne Try.underlying54 rfl rfl h83 (Lens.vecN 7 (by decide) (vget a5 7))) ?_
          refine WD.load 13 [] [14, 20, 21, 26, 31, 32] (.int .u32 (vget a5 5)) rfl (by kernel_rfl) rfl rfl rfl (ex_loadOne Try.underlying54 rfl rfl h83 (Lens.vecN 5 (by decide) (vget a5 5))) ?_
          refine WD.batch (f' := 17) [14] #[true, true, true, false, true, false, false, true, false, false, false, true, true, true, true, true, true, true, false, false, false, false, true, true, false, false, false, true, true, false, false, false, false] [2, 3, 6, 7, 11, 12, 13, 113, 114, 116, 119, 126, 128, 129, 134, 135, 139, 140] rfl (E' := [(2, .slice Ap2 p2.length np2), (3, .pointer (some ⟨b1, 0, none⟩)), (6, .pointer (some ⟨b2, 0, none⟩)), (7, .slice A1 l2.length n1), (11, .pointer (some ⟨b3, 0, none⟩)), (12, .int .i64 x4), (13, .int .u32 x5), (113, .int .u32 (vget a5 7)), (114, .int .u32 x6), (116, .int .u32 x6), (119, .int .u32 x6), (126, .int .u32 (wand .u32 x6 (vget a5 5))), (128, .int .u32 x7), (129, .pointer (some ⟨b3, 6, none⟩)), (134, .slice Ap2 p2.length np2), (135, .int .i64 x4), (139, .slice A1 l2.length n1), (140, .int .i64 x4)]) (by kernel_rfl) ?_
          obtain ⟨x8, q8, hm⟩ := of_let hm
          rw [q8]
          obtain ⟨x9, q9, hm⟩ := of_let hm
          rw [q9]
          refine WD.load 18 [] [19, 20, 21, 26, 31, 32] (.int .u32 (vget a5 6)) rfl (by kernel_rfl) rfl rfl rfl (ex_loadOne Try.underlying54 rfl rfl h83 (Lens.vecN 6 (by decide) (vget a5 6))) ?_
          refine WD.batch (f' := 14) [19, 20] #[true, true, true, false, true, false, false, true, false, false, false, true, true, true, true, true, true, true, true, true, true, false, true, true, false, false, false, true, true, false, false, false, false] [2, 3, 6, 7, 11, 12, 13, 113, 114, 116, 119, 132, 134, 135, 139, 140] rfl (E' := [(2, .slice Ap2 p2.length np2), (3, .pointer (some ⟨b1, 0, none⟩)), (6, .pointer (some ⟨b2, 0, none⟩)), (7, .slice A1 l2.length n1), (11, .pointer (some ⟨b3, 0, none⟩)), (12, .int .i64 x4), (13, .int .u32 x5), (113, .int .u32 x9), (114, .int .u32 x6), (116, .int .u32 x6), (119, .int .u32 x6), (132, .int .u32 (wxor .u32 x8 (wand .u32 x7 (vget a5 6)))), (134, .slice Ap2 p2.length np2), (135, .int .i64 x4), (139, .slice A1 l2.length n1), (140, .int .i64 x4)]) (by kernel_rfl) ?_
          obtain ⟨x10, q10, hm⟩ := of_let hm
          rw [q10]
          obtain ⟨⟨c9, c10⟩, hm⟩ := of_guard hm
          obtain ⟨b4, o1, q11⟩ := Rd.place h79 (by omega)
          refine WD.valU 24 (.pointer (some ⟨b4, o1 + Int.toNat x4 * 1, none⟩)) rfl (by kernel_rfl) rfl rfl (fun _ => (ex_indexAddr Try.underlying57 Try.sizeOf54 rfl q11 rfl c9 c10)) rfl ?_
          refine WD.load 25 [] [26, 31, 32] (.int .u32 (lget p2 x4)) rfl (by kernel_rfl) rfl rfl rfl (ex_loadElI Try.underlying54 rfl h79 q11 c9 c10) ?_
          obtain ⟨⟨c11, c12⟩, hm⟩ := of_guard hm
          obtain ⟨b5, q12⟩ := Own.place h82 (by omega)
          refine WD.valU 29 (.pointer (some ⟨b5, 0 + Int.toNat x4 * 1, none⟩)) rfl (by kernel_rfl) rfl rfl (fun _ => (ex_indexAddr Try.underlying57 Try.sizeOf54 rfl q12 rfl c11 c12)) rfl ?_
          refine WD.load 30 [] [31, 32] (.int .u32 (lget l2 x4)) rfl (by kernel_rfl) rfl rfl rfl (ex_loadElI Try.underlying54 rfl (h82).rd q12 c11 c12) ?_
          obtain ⟨x11, q13, hm⟩ := of_bind hm
          refine WD.call 3 (by kernel_rfl) rfl rfl rfl rfl (ex_callI (args := [.int .u32 x6, .int .u64 6]) rfl rfl rfl Try.call41) (cauteryref02_turn_walk x6 6  _   x11 q13) ?_
          rintro _ w16 ⟨rfl, F23⟩
          have h84 := (h78).fr F23 trivial
          have h85 := (h79).fr F23 trivial
          have h86 := Fr.at F23 h80 (ApL.not (x := some b1) (S := []) trivial _ rfl)
          have h87 := Fr.at F23 h81 (ApL.not (x := some b2) (S := []) trivial _ rfl)
          have h88 := (h82).fr F23 trivial
          have h89 := Fr.at F23 h83 (ApL.not (x := some b3) (S := []) trivial _ rfl)
          have F24 := Fr.step F22 F23 trivial
          refine ⟨_, _, rfl, rfl, ⟨(ex_loadElI Try.underlying54 rfl (h88).rd q12 c11 c12), ⟨(ex_loadElI Try.underlying54 rfl h85 q11 c9 c10), ⟨(by first | exact (ex_loadOne Try.underlying54 rfl rfl h89 (Lens.vecN 6 (by decide) (vget a5 6))) | (rw [← q10]; exact (ex_loadOne Try.underlying54 rfl rfl h89 (Lens.vecN 6 (by decide) (vget a5 6))))), ⟨(by first | exact (by first | exact (ex_loadOne Try.underlying54 rfl rfl h89 (Lens.vecN 5 (by decide) (vget a5 5))) | (rw [← q8]; exact (ex_loadOne Try.underlying54 rfl rfl h89 (Lens.vecN 5 (by decide) (vget a5 5)))) | (rw [← q9]; exact (ex_loadOne Try.underlying54 rfl rfl h89 (Lens.vecN 5 (by decide) (vget a5 5))))) | (rw [← q10]; exact (by first | exact (ex_loadOne Try.underlying54 rfl rfl h89 (Lens.vecN 5 (by decide) (vget a5 5))) | (rw [← q8]; exact (ex_loadOne Try.underlying54 rfl rfl h89 (Lens.vecN 5 (by decide) (vget a5 5)))) | (rw [← q9]; exact (ex_loadOne Try.underlying54 rfl rfl h89 (Lens.vecN 5 (by decide) (vget a5 5))))))), ⟨(by first | exact (by first | exact (ex_loadOne Try.underlying54 rfl rfl h89 (Lens.vecN 7 (by decide) (vget a5 7))) | (rw [← q8]; exact (ex_loadOne Try.underlying54 rfl rfl h89 (Lens.vecN 7 (by decide) (vget a5 7)))) | (rw [← q9]; exact (ex_loadOne Try.underlying54 rfl rfl h89 (Lens.vecN 7 (by decide) (vget a5 7))))) | (rw [← q10]; exact (by first | exact (ex_loadOne Try.underlying54 rfl rfl h89 (Lens.vecN 7 (by decide) (vget a5 7))) | (rw [← q8]; exact (ex_loadOne Try.underlying54 rfl rfl h89 (Lens.vecN 7 (by decide) (vget a5 7)))) | (rw [← q9]; exact (ex_loadOne Try.underlying54 rfl rfl h89 (Lens.vecN 7 (by decide) (vget a5 7))))))), trivial⟩⟩⟩⟩⟩, ?_⟩
          obtain ⟨x12, q14, hm⟩ := of_bind hm
          refine WD.call 5 (by kernel_rfl) rfl rfl rfl rfl (ex_callI (args := [.int .u32 x6, .int .u64 11]) rfl rfl rfl Try.call41) (cauteryref02_turn_walk x6 11  _   x12 q14) ?_
          rintro _ w17 ⟨rfl, F25⟩
          have h90 := (h84).fr F25 trivial
          have h91 := (h85).fr F25 trivial
          have h92 := Fr.at F25 h86 (ApL.not (x := some b1) (S := []) trivial _ rfl)
          have h93 := Fr.at F25 h87 (ApL.not (x := some b2) (S := []) trivial _ rfl)
          have h94 := (h88).fr F25 trivial
          have h95 := Fr.at F25 h89 (ApL.not (x := some b3) (S := []) trivial _ rfl)
          have F26 := Fr.step F24 F25 trivial
          refine ⟨_, _, rfl, rfl, ⟨(ex_loadElI Try.underlying54 rfl (h94).rd q12 c11 c12), ⟨(ex_loadElI Try.underlying54 rfl h91 q11 c9 c10), ⟨(by first | exact (ex_loadOne Try.underlying54 rfl rfl h95 (Lens.vecN 6 (by decide) (vget a5 6))) | (rw [← q10]; exact (ex_loadOne Try.underlying54 rfl rfl h95 (Lens.vecN 6 (by decide) (vget a5 6))))), ⟨(by first | exact (by first | exact (ex_loadOne Try.underlying54 rfl rfl h95 (Lens.vecN 5 (by decide) (vget a5 5))) | (rw [← q8]; exact (ex_loadOne Try.underlying54 rfl rfl h95 (Lens.vecN 5 (by decide) (vget a5 5)))) | (rw [← q9]; exact (ex_loadOne Try.underlying54 rfl rfl h95 (Lens.vecN 5 (by decide) (vget a5 5))))) | (rw [← q10]; exact (by first | exact (ex_loadOne Try.underlying54 rfl rfl h95 (Lens.vecN 5 (by decide) (vget a5 5))) | (rw [← q8]; exact (ex_loadOne Try.underlying54 rfl rfl h95 (Lens.vecN 5 (by decide) (vget a5 5)))) | (rw [← q9]; exact (ex_loadOne Try.underlying54 rfl rfl h95 (Lens.vecN 5 (by decide) (vget a5 5))))))), ⟨(by first | exact (by first | exact (ex_loadOne Try.underlying54 rfl rfl h95 (Lens.vecN 7 (by decide) (vget a5 7))) | (rw [← q8]; exact (ex_loadOne Try.underlying54 rfl rfl h95 (Lens.vecN 7 (by decide) (vget a5 7)))) | (rw [← q9]; exact (ex_loadOne Try.underlying54 rfl rfl h95 (Lens.vecN 7 (by decide) (vget a5 7))))) | (rw [← q10]; exact (by first | exact (ex_loadOne Try.underlying54 rfl rfl h95 (Lens.vecN 7 (by decide) (vget a5 7))) | (rw [← q8]; exact (ex_loadOne Try.underlying54 rfl rfl h95 (Lens.vecN 7 (by decide) (vget a5 7)))) | (rw [← q9]; exact (ex_loadOne Try.underlying54 rfl rfl h95 (Lens.vecN 7 (by decide) (vget a5 7))))))), trivial⟩⟩⟩⟩⟩, ?_⟩
          refine WD.batch (f' := 7) [6] #[true, true, true, true, true, true, true, true, false, false, false, true, true, true, true, true, true, true, true, true, true, false, true, true, true, true, false, true, true, true, true, false, false] [2, 3, 6, 7, 11, 12, 13, 113, 118, 119, 132, 137, 142] rfl (E' := [(2, .slice Ap2 p2.length np2), (3, .pointer (some ⟨b1, 0, none⟩)), (6, .pointer (some ⟨b2, 0, none⟩)), (7, .slice A1 l2.length n1), (11, .pointer (some ⟨b3, 0, none⟩)), (12, .int .i64 x4), (13, .int .u32 x5), (113, .int .u32 x9), (118, .int .u32 (wxor .u32 x11 x12)), (119, .int .u32 x6), (132, .int .u32 x10), (137, .int .u32 (lget p2 x4)), (142, .int .u32 (lget l2 x4))]) (by kernel_rfl) ?_
          obtain ⟨x13, q15, hm⟩ := of_let hm
          rw [q15]
          obtain ⟨x14, q16, hm⟩ := of_let hm
          rw [q16]
          obtain ⟨x15, q17, hm⟩ := of_let hm
          rw [q17]
          obtain ⟨x16, q18, hm⟩ := of_bind hm
          refine WD.call 8 (by kernel_rfl) rfl rfl rfl rfl (ex_callI (args := [.int .u32 x6, .int .u64 25]) rfl rfl rfl Try.call41) (cauteryref02_turn_walk x6 25  _   x16 q18) ?_
          rintro _ w18 ⟨rfl, F27⟩
          have h96 := (h90).fr F27 trivial
          have h97 := (h91).fr F27 trivial
          have h98 := Fr.at F27 h92 (ApL.not (x := some b1) (S := []) trivial _ rfl)
          have h99 := Fr.at F27 h93 (ApL.not (x := some b2) (S := []) trivial _ rfl)
          have h100 := (h94).fr F27 trivial
          have h101 := Fr.at F27 h95 (ApL.not (x := some b3) (S := []) trivial _ rfl)
          have F28 := Fr.step F26 F27 trivial
          refine ⟨_, _, rfl, rfl, ⟨(by first | exact (ex_loadElI Try.underlying54 rfl (h100).rd q12 c11 c12) | (rw [← q15]; exact (ex_loadElI Try.underlying54 rfl (h100).rd q12 c11 c12)) | (rw [← q16]; exact (ex_loadElI Try.underlying54 rfl (h100).rd q12 c11 c12)) | (rw [← q17]; exact (ex_loadElI Try.underlying54 rfl (h100).rd q12 c11 c12))), ⟨(by first | exact (ex_loadElI Try.underlying54 rfl h97 q11 c9 c10) | (rw [← q15]; exact (ex_loadElI Try.underlying54 rfl h97 q11 c9 c10)) | (rw [← q16]; exact (ex_loadElI Try.underlying54 rfl h97 q11 c9 c10)) | (rw [← q17]; exact (ex_loadElI Try.underlying54 rfl h97 q11 c9 c10))), ⟨(by first | exact (by first | exact (ex_loadOne Try.underlying54 rfl rfl h101 (Lens.vecN 6 (by decide) (vget a5 6))) | (rw [← q10]; exact (ex_loadOne Try.underlying54 rfl rfl h101 (Lens.vecN 6 (by decide) (vget a5 6))))) | (rw [← q15]; exact (by first | exact (ex_loadOne Try.underlying54 rfl rfl h101 (Lens.vecN 6 (by decide) (vget a5 6))) | (rw [← q10]; exact (ex_loadOne Try.underlying54 rfl rfl h101 (Lens.vecN 6 (by decide) (vget a5 6)))))) | (rw [← q16]; exact (by first | exact (ex_loadOne Try.underlying54 rfl rfl h101 (Lens.vecN 6 (by decide) (vget a5 6))) | (rw [← q10]; exact (ex_loadOne Try.underlying54 rfl rfl h101 (Lens.vecN 6 (by decide) (vget a5 6)))))) | (rw [← q17]; exact (by first | exact (ex_loadOne Try.underlying54 rfl rfl h101 (Lens.vecN 6 (by decide) (vget a5 6))) | (rw [← q10]; exact (ex_loadOne Try.underlying54 rfl rfl h101 (Lens.vecN 6 (by decide) (vget a5 6))))))), ⟨(by first | exact (by first | exact (by first | exact (ex_loadOne Try.underlying54 rfl rfl h101 (Lens.vecN 5 (by decide) (vget a5 5))) | (rw [← q8]; exact (ex_loadOne Try.underlying54 rfl rfl h101 (Lens.vecN 5 (by decide) (vget a5 5)))) | (rw [← q9]; exact (ex_loadOne Try.underlying54 rfl rfl h101 (Lens.vecN 5 (by decide) (vget a5 5))))) | (rw [← q10]; exact (by first | exact (ex_loadOne Try.underlying54 rfl rfl h101 (Lens.vecN 5 (by decide) (vget a5 5))) | (rw [← q8]; exact (ex_loadOne Try.underlying54 rfl rfl h101 (Lens.vecN 5 (by decide) (vget a5 5)))) | (rw [← q9]; exact (ex_loadOne Try.underlying54 rfl rfl h101 (Lens.vecN 5 (by decide) (vget a5 5))))))) | (rw [← q15]; exact (by first | exact (by first | exact (ex_loadOne Try.underlying54 rfl rfl h101 (Lens.vecN 5 (by decide) (vget a5 5))) | (rw [← q8]; exact (ex_loadOne Try.underlying54 rfl rfl h101 (Lens.vecN 5 (by decide) (vget a5 5)))) | (rw [← q9]; exact (ex_loadOne Try.underlying54 rfl rfl h101 (Lens.vecN 5 (by decide) (vget a5 5))))) | (rw [← q10]; exact (by first | exact (ex_loadOne Try.underlying54 rfl rfl h101 (Lens.vecN 5 (by decide) (vget a5 5))) | (rw [← q8]; exact (ex_loadOne Try.underlying54 rfl rfl h101 (Lens.vecN 5 (by decide) (vget a5 5)))) | (rw [← q9]; exact (ex_loadOne Try.underlying54 rfl rfl h101 (Lens.vecN 5 (by decide) (vget a5 5)))))))) | (rw [← q16]; exact (by first | exact (by first | exact (ex_loadOne Try.underlying54 rfl rfl h101 (Lens.vecN 5 (by decide) (vget a5 5))) | (rw [← q8]; exact (ex_loadOne Try.underlying54 rfl rfl h101 (Lens.vecN 5 (by decide) (vget a5 5)))) | (rw [← q9]; exact (ex_loadOne Try.underlying54 rfl rfl h101 (Lens.vecN 5 (by decide) (vget a5 5))))) | (rw [← q10]; exact (by first | exact (ex_loadOne Try.underlying54 rfl rfl h101 (Lens.vecN 5 (by decide) (vget a5 5))) | (rw [← q8]; exact (ex_loadOne Try.underlying54 rfl rfl h101 (Lens.vecN 5 (by decide) (vget a5 5)))) | (rw [← q9]; exact (ex_loadOne Try.underlying54 rfl rfl h101 (Lens.vecN 5 (by decide) (vget a5 5)))))))) | (rw [← q17]; exact (by first | exact (by first | exact (ex_loadOne Try.underlying54 rfl rfl h101 (Lens.vecN 5 (by decide) (vget a5 5))) | (rw [← q8]; exact (ex_loadOne Try.underlying54 rfl rfl h101 (Lens.vecN 5 (by decide) (vget a5 5)))) | (rw [← q9]; exact (ex_loadOne Try.underlying54 rfl rfl h101 (Lens.vecN 5 (by decide) (vget a5 5))))) | (rw [← q10]; exact (by first | exact (ex_loadOne Try.underlying54 rfl rfl h101 (Lens.vecN 5 (by decide) (vget a5 5))) | (rw [← q8]; exact (ex_loadOne Try.underlying54 rfl rfl h101 (Lens.vecN 5 (by decide) (vget a5 5)))) | (rw [← q9]; exact (ex_loadOne Try.underlying54 rfl rfl h101 (Lens.vecN 5 (by decide) (vget a5 5))))))))), ⟨(by first | exact (by first | exact (by first | exact (ex_loadOne Try.underlying54 rfl rfl h101 (Lens.vecN 7 (by decide) (vget a5 7))) | (rw [← q8]; exact (ex_loadOne Try.underlying54 rfl rfl h101 (Lens.vecN 7 (by decide) (vget a5 7)))) | (rw [← q9]; exact (ex_loadOne Try.underlying54 rfl rfl h101 (Lens.vecN 7 (by decide) (vget a5 7))))) | (rw [← q10]; exact (by first | exact (ex_loadOne Try.underlying54 rfl rfl h101 (Lens.vecN 7 (by decide) (vget a5 7))) | (rw [← q8]; exact (ex_loadOne Try.underlying54 rfl rfl h101 (Lens.vecN 7 (by decide) (vget a5 7)))) | (rw [← q9]; exact (ex_loadOne Try.underlying54 rfl rfl h101 (Lens.vecN 7 (by decide) (vget a5 7))))))) | (rw [← q15]; exact (by first | exact (by first | exact (ex_loadOne Try.underlying54 rfl rfl h101 (Lens.vecN 7 (by decide) (vget a5 7))) | (rw [← q8]; exact (ex_loadOne Try.underlying54 rfl rfl h101 (Lens.vecN 7 (by decide) (vget a5 7)))) | (rw [← q9]; exact (ex_loadOne Try.underlying54 rfl rfl h101 (Lens.vecN 7 (by decide) (vget a5 7))))) | (rw [← q10]; exact (by first | exact (ex_loadOne Try.underlying54 rfl rfl h101 (Lens.vecN 7 (by decide) (vget a5 7))) | (rw [← q8]; exact (ex_loadOne Try.underlying54 rfl rfl h101 (Lens.vecN 7 (by decide) (vget a5 7)))) | (rw [← q9]; exact (ex_loadOne Try.underlying54 rfl rfl h101 (Lens.vecN 7 (by decide) (vget a5 7)))))))) | (rw [← q16]; exact (by first | exact (by first | exact (ex_loadOne Try.underlying54 rfl rfl h101 (Lens.vecN 7 (by decide) (vget a5 7))) | (rw [← q8]; exact (ex_loadOne Try.underlying54 rfl rfl h101 (Lens.vecN 7 (by decide) (vget a5 7)))) | (rw [← q9]; exact (ex_loadOne Try.underlying54 rfl rfl h101 (Lens.vecN 7 (by decide) (vget a5 7))))) | (rw [← q10]; exact (by first | exact (ex_loadOne Try.underlying54 rfl rfl h101 (Lens.vecN 7 (by decide) (vget a5 7))) | (rw [← q8]; exact (ex_loadOne Try.underlying54 rfl rfl h101 (Lens.vecN 7 (by decide) (vget a5 7)))) | (rw [← q9]; exact (ex_loadOne Try.underlying54 rfl rfl h101 (Lens.vecN 7 (by decide) (vget a5 7)))))))) | (rw [← q17]; exact (by first | exact (by first | exact (ex_loadOne Try.underlying54 rfl rfl h101 (Lens.vecN 7 (by decide) (vget a5 7))) | (rw [← q8]; exact (ex_loadOne Try.underlying54 rfl rfl h101 (Lens.vecN 7 (by decide) (vget a5 7)))) | (rw [← q9]; exact (ex_loadOne Try.underlying54 rfl rfl h101 (Lens.vecN 7 (by decide) (vget a5 7))))) | (rw [← q10]; exact (by first | exact (ex_loadOne Try.underlying54 rfl rfl h101 (Lens.vecN 7 (by decide) (vget a5 7))) | (rw [← q8]; exact (ex_loadOne Try.underlying54 rfl rfl h101 (Lens.vecN 7 (by decide) (vget a5 7)))) | (rw [← q9]; exact (ex_loadOne Try.underlying54 rfl rfl h101 (Lens.vecN 7 (by decide) (vget a5 7))))))))), trivial⟩⟩⟩⟩⟩, ?_⟩
          refine WD.batch (f' := 0) [9, 10, 21, 26, 31, 32] #[true, true, true, true, true, true, true, true, true, true, true, true, true, true, true, true, true, true, true, true, true, true, true, true, true, true, true, true, true, true, true, true, true] [2, 3, 6, 7, 11, 12, 13, 15] rfl (E' := [(2, .slice Ap2 p2.length np2), (3, .pointer (some ⟨b1, 0, none⟩)), (6, .pointer (some ⟨b2, 0, none⟩)), (7, .slice A1 l2.length n1), (11, .pointer (some ⟨b3, 0, none⟩)), (12, .int .i64 x4), (13, .int .u32 x5), (15, .int .u32 (wadd .u32 (wadd .u32 (wadd .u32 (wadd .u32 x9 (wxor .u32 x13 x16)) x10) x14) x15))]) (by kernel_rfl) ?_
          obtain ⟨x17, q19, hm⟩ := of_let hm
          rw [q19]
          refine WD.end_ (by kernel_rfl) ?_
          refine W.seq ?_
          refine W.regionDw (N := 25) Try_mixed rfl ?_
          intro w19 F29
          have h102 := (h96).fr F29 trivial
          have h103 := (h97).fr F29 trivial
          have h104 := Fr.at F29 h98 (ApL.not (x := some b1) (S := []) trivial _ rfl)
          have h105 := Fr.at F29 h99 (ApL.not (x := some b2) (S := []) trivial _ rfl)
          have h106 := (h100).fr F29 trivial
          have h107 := Fr.at F29 h101 (ApL.not (x := some b3) (S := []) trivial _ rfl)
          have F30 := Fr.step F28 F29 trivial
          refine WD.batch (f' := 16) [0, 2, 5, 8, 9, 12, 13, 17, 19] #[true, false, true, false, false, true, false, false, true, true, false, false, true, true, false, false, false, true, false, true, false, false, false, false, false] [2, 3, 6, 7, 11, 12, 15, 144, 146, 149, 152, 153, 156, 157, 161, 163] rfl (E' := [(2, .slice Ap2 p2.length np2), (3, .pointer (some ⟨b1, 0, none⟩)), (6, .pointer (some ⟨b2, 0, none⟩)), (7, .slice A1 l2.length n1), (11, .pointer (some ⟨b3, 0, none⟩)), (12, .int .i64 x4), (15, .int .u32 x17), (144, .int .u32 x5), (146, .int .u32 x5), (149, .int .u32 x5), (152, .int .u32 x5), (153, .pointer (some ⟨b3, 1, none⟩)), (156, .int .u32 x5), (157, .pointer (some ⟨b3, 2, none⟩)), (161, .pointer (some ⟨b3, 1, none⟩)), (163, .pointer (some ⟨b3, 2, none⟩))]) (by kernel_rfl) ?_
          refine WD.load 10 [] [11, 16, 22, 23, 24] (.int .u32 (vget a5 1)) rfl (by kernel_rfl) rfl rfl rfl (ex_loadOne Try.underlying54 rfl rfl h107 (Lens.vecN 1 (by decide) (vget a5 1))) ?_
          refine WD.batch (f' := 14) [11] #[true, false, true, false, false, true, false, false, true, true, true, true, true, true, false, false, false, true, false, true, false, false, false, false, false] [2, 3, 6, 7, 11, 12, 15, 144, 146, 149, 155, 156, 157, 161, 163] rfl (E' := [(2, .slice Ap2 p2.length np2), (3, .pointer (some ⟨b1, 0, none⟩)), (6, .pointer (some ⟨b2, 0, none⟩)), (7, .slice A1 l2.length n1), (11, .pointer (some ⟨b3, 0, none⟩)), (12, .int .i64 x4), (15, .int .u32 x17), (144, .int .u32 x5), (146, .int .u32 x5), (149, .int .u32 x5), (155, .int .u32 (wand .u32 x5 (vget a5 1))), (156, .int .u32 x5), (157, .pointer (some ⟨b3, 2, none⟩)), (161, .pointer (some ⟨b3, 1, none⟩)), (163, .pointer (some ⟨b3, 2, none⟩))]) (by kernel_rfl) ?_
          obtain ⟨x18, q20, hm⟩ := of_let hm
          rw [q20]
          refine WD.load 14 [] [15, 16, 22, 23, 24] (.int .u32 (vget a5 2)) rfl (by kernel_rfl) rfl rfl rfl (ex_loadOne Try.underlying54 rfl rfl h107 (Lens.vecN 2 (by decide) (vget a5 2))) ?_
          refine WD.batch (f' := 11) [15, 16] #[true, false, true, false, false, true, false, false, true, true, true, true, true, true, true, true, true, true, false, true, false, false, false, false, false] [2, 3, 6, 7, 11, 12, 15, 144, 146, 149, 160, 161, 163] rfl (E' := [(2, .slice Ap2 p2.length np2), (3, .pointer (some ⟨b1, 0, none⟩)), (6, .pointer (some ⟨b2, 0, none⟩)), (7, .slice A1 l2.length n1), (11, .pointer (some ⟨b3, 0, none⟩)), (12, .int .i64 x4), (15, .int .u32 x17), (144, .int .u32 x5), (146, .int .u32 x5), (149, .int .u32 x5), (160, .int .u32 (wxor .u32 x18 (wand .u32 x5 (vget a5 2)))), (161, .pointer (some ⟨b3, 1, none⟩)), (163, .pointer (some ⟨b3, 2, none⟩))]) (by kernel_rfl) ?_
          obtain ⟨x19, q21, hm⟩ := of_let hm
          rw [q21]
          refine WD.load 18 [] [21, 22, 23, 24] (.int .u32 (vget a5 1)) rfl (by kernel_rfl) rfl rfl rfl (ex_loadOne Try.underlying54 rfl rfl h107 (Lens.vecN 1 (by decide) (vget a5 1))) ?_
          refine WD.load 20 [] [21, 22, 23, 24] (.int .u32 (vget a5 2)) rfl (by kernel_rfl) rfl rfl rfl (ex_loadOne Try.underlying54 rfl rfl h107 (Lens.vecN 2 (by decide) (vget a5 2))) ?_
          refine WD.batch (f' := 7) [21, 22] #[true, false, true, false, false, true, false, false, true, true, true, true, true, true, true, true, true, true, true, true, true, true, true, false, false] [2, 3, 6, 7, 11, 12, 15, 144, 146, 149, 166] rfl (E' := [(2, .slice Ap2 p2.length np2), (3, .pointer (some ⟨b1, 0, none⟩)), (6, .pointer (some ⟨b2, 0, none⟩)), (7, .slice A1 l2.length n1), (11, .pointer (some ⟨b3, 0, none⟩)), (12, .int .i64 x4), (15, .int .u32 x17), (144, .int .u32 x5), (146, .int .u32 x5), (149, .int .u32 x5), (166, .int .u32 (wxor .u32 x19 (wand .u32 (vget a5 1) (vget a5 2))))]) (by kernel_rfl) ?_
          obtain ⟨x20, q22, hm⟩ := of_let hm
          rw [q22]
          obtain ⟨x21, q23, hm⟩ := of_bind hm
          refine WD.call 1 (by kernel_rfl) rfl rfl rfl rfl (ex_callI (args := [.int .u32 x5, .int .u64 2]) rfl rfl rfl Try.call41) (cauteryref02_turn_walk x5 2  _   x21 q23) ?_
          rintro _ w20 ⟨rfl, F31⟩
          have h108 := (h102).fr F31 trivial
          have h109 := (h103).fr F31 trivial
          have h110 := Fr.at F31 h104 (ApL.not (x := some b1) (S := []) trivial _ rfl)
          have h111 := Fr.at F31 h105 (ApL.not (x := some b2) (S := []) trivial _ rfl)
          have h112 := (h106).fr F31 trivial
          have h113 := Fr.at F31 h107 (ApL.not (x := some b3) (S := []) trivial _ rfl)
          have F32 := Fr.step F30 F31 trivial
          refine ⟨_, _, rfl, rfl, ⟨(by first | exact (ex_loadOne Try.underlying54 rfl rfl h113 (Lens.vecN 2 (by decide) (vget a5 2))) | (rw [← q22]; exact (ex_loadOne Try.underlying54 rfl rfl h113 (Lens.vecN 2 (by decide) (vget a5 2))))), ⟨(by first | exact (ex_loadOne Try.underlying54 rfl rfl h113 (Lens.vecN 1 (by decide) (vget a5 1))) | (rw [← q22]; exact (ex_loadOne Try.underlying54 rfl rfl h113 (Lens.vecN 1 (by decide) (vget a5 1))))), ⟨(by first | exact (by first | exact (ex_loadOne Try.underlying54 rfl rfl h113 (Lens.vecN 2 (by decide) (vget a5 2))) | (rw [← q21]; exact (ex_loadOne Try.underlying54 rfl rfl h113 (Lens.vecN 2 (by decide) (vget a5 2))))) | (rw [← q22]; exact (by first | exact (ex_loadOne Try.underlying54 rfl rfl h113 (Lens.vecN 2 (by decide) (vget a5 2))) | (rw [← q21]; exact (ex_loadOne Try.underlying54 rfl rfl h113 (Lens.vecN 2 (by decide) (vget a5 2))))))), ⟨(by first | exact (by first | exact (by first | exact (ex_loadOne Try.underlying54 rfl rfl h113 (Lens.vecN 1 (by decide) (vget a5 1))) | (rw [← q20]; exact (ex_loadOne Try.underlying54 rfl rfl h113 (Lens.vecN 1 (by decide) (vget a5 1))))) | (rw [← q21]; exact (by first | exact (ex_loadOne Try.underlying54 rfl rfl h113 (Lens.vecN 1 (by decide) (vget a5 1))) | (rw [← q20]; exact (ex_loadOne Try.underlying54 rfl rfl h113 (Lens.vecN 1 (by decide) (vget a5 1))))))) | (rw [← q22]; exact (by first | exact (by first | exact (ex_loadOne Try.underlying54 rfl rfl h113 (Lens.vecN 1 (by decide) (vget a5 1))) | (rw [← q20]; exact (ex_loadOne Try.underlying54 rfl rfl h113 (Lens.vecN 1 (by decide) (vget a5 1))))) | (rw [← q21]; exact (by first | exact (ex_loadOne Try.underlying54 rfl rfl h113 (Lens.vecN 1 (by decide) (vget a5 1))) | (rw [← q20]; exact (ex_loadOne Try.underlying54 rfl rfl h113 (Lens.vecN 1 (by decide) (vget a5 1))))))))), trivial⟩⟩⟩⟩, ?_⟩
          obtain ⟨x22, q24, hm⟩ := of_bind hm
          refine WD.call 3 (by kernel_rfl) rfl rfl rfl rfl (ex_callI (args := [.int .u32 x5, .int .u64 13]) rfl rfl rfl Try.call41) (cauteryref02_turn_walk x5 13  _   x22 q24) ?_
          rintro _ w21 ⟨rfl, F33⟩
          have h114 := (h108).fr F33 trivial
          have h115 := (h109).fr F33 trivial
          have h116 := Fr.at F33 h110 (ApL.not (x := some b1) (S := []) trivial _ rfl)
          have h117 := Fr.at F33 h111 (ApL.not (x := some b2) (S := []) trivial _ rfl)
          have h118 := (h112).fr F33 trivial
          have h119 := Fr.at F33 h113 (ApL.not (x := some b3) (S := []) trivial _ rfl)
          have F34 := Fr.step F32 F33 trivial
          refine ⟨_, _, rfl, rfl, ⟨(by first | exact (ex_loadOne Try.underlying54 rfl rfl h119 (Lens.vecN 2 (by decide) (vget a5 2))) | (rw [← q22]; exact (ex_loadOne Try.underlying54 rfl rfl h119 (Lens.vecN 2 (by decide) (vget a5 2))))), ⟨(by first | exact (ex_loadOne Try.underlying54 rfl rfl h119 (Lens.vecN 1 (by decide) (vget a5 1))) | (rw [← q22]; exact (ex_loadOne Try.underlying54 rfl rfl h119 (Lens.vecN 1 (by decide) (vget a5 1))))), ⟨(by first | exact (by first | exact (ex_loadOne Try.underlying54 rfl rfl h119 (Lens.vecN 2 (by decide) (vget a5 2))) | (rw [← q21]; exact (ex_loadOne Try.underlying54 rfl rfl h119 (Lens.vecN 2 (by decide) (vget a5 2))))) | (rw [← q22]; exact (by first | exact (ex_loadOne Try.underlying54 rfl rfl h119 (Lens.vecN 2 (by decide) (vget a5 2))) | (rw [← q21]; exact (ex_loadOne Try.underlying54 rfl rfl h119 (Lens.vecN 2 (by decide) (vget a5 2))))))), ⟨(by first | exact (by first | exact (by first | exact (ex_loadOne Try.underlying54 rfl rfl h119 (Lens.vecN 1 (by decide) (vget a5 1))) | (rw [← q20]; exact (ex_loadOne Try.underlying54 rfl rfl h119 (Lens.vecN 1 (by decide) (vget a5 1))))) | (rw [← q21]; exact (by first | exact (ex_loadOne Try.underlying54 rfl rfl h119 (Lens.vecN 1 (by decide) (vget a5 1))) | (rw [← q20]; exact (ex_loadOne Try.underlying54 rfl rfl h119 (Lens.vecN 1 (by decide) (vget a5 1))))))) | (rw [← q22]; exact (by first | exact (by first | exact (ex_loadOne Try.underlying54 rfl rfl h119 (Lens.vecN 1 (by decide) (vget a5 1))) | (rw [← q20]; exact (ex_loadOne Try.underlying54 rfl rfl h119 (Lens.vecN 1 (by decide) (vget a5 1))))) | (rw [← q21]; exact (by first | exact (ex_loadOne Try.underlying54 rfl rfl h119 (Lens.vecN 1 (by decide) (vget a5 1))) | (rw [← q20]; exact (ex_loadOne Try.underlying54 rfl rfl h119 (Lens.vecN 1 (by decide) (vget a5 1))))))))), trivial⟩⟩⟩⟩, ?_⟩
          refine WD.batch (f' := 4) [4] #[true, true, true, true, true, true, false, false, true, true, true, true, true, true, true, true, true, true, true, true, true, true, true, false, false] [2, 3, 6, 7, 11, 12, 15, 148, 149, 166] rfl (E' := [(2, .slice Ap2 p2.length np2), (3, .pointer (some ⟨b1, 0, none⟩)), (6, .pointer (some ⟨b2, 0, none⟩)), (7, .slice A1 l2.length n1), (11, .pointer (some ⟨b3, 0, none⟩)), (12, .int .i64 x4), (15, .int .u32 x17), (148, .int .u32 (wxor .u32 x21 x22)), (149, .int .u32 x5), (166, .int .u32 x20)]) (by kernel_rfl) ?_
          obtain ⟨x23, q25, hm⟩ := of_let hm
          rw [q25]
          obtain ⟨x24, q26, hm⟩ := of_bind hm
          refine WD.call 6 (by kernel_rfl) rfl rfl rfl rfl (ex_callI (args := [.int .u32 x5, .int .u64 22]) rfl rfl rfl Try.call41) (cauteryref02_turn_walk x5 22  _   x24 q26) ?_
          rintro _ w22 ⟨rfl, F35⟩
          have h120 := (h114).fr F35 trivial
          have h121 := (h115).fr F35 trivial
          have h122 := Fr.at F35 h116 (ApL.not (x := some b1) (S := []) trivial _ rfl)
          have h123 := Fr.at F35 h117 (ApL.not (x := some b2) (S := []) trivial _ rfl)
          have h124 := (h118).fr F35 trivial
          have h125 := Fr.at F35 h119 (ApL.not (x := some b3) (S := []) trivial _ rfl)
          have F36 := Fr.step F34 F35 trivial
          refine ⟨_, _, rfl, rfl, ⟨(by first | exact (by first | exact (ex_loadOne Try.underlying54 rfl rfl h125 (Lens.vecN 2 (by decide) (vget a5 2))) | (rw [← q22]; exact (ex_loadOne Try.underlying54 rfl rfl h125 (Lens.vecN 2 (by decide) (vget a5 2))))) | (rw [← q25]; exact (by first | exact (ex_loadOne Try.underlying54 rfl rfl h125 (Lens.vecN 2 (by decide) (vget a5 2))) | (rw [← q22]; exact (ex_loadOne Try.underlying54 rfl rfl h125 (Lens.vecN 2 (by decide) (vget a5 2))))))), ⟨(by first | exact (by first | exact (ex_loadOne Try.underlying54 rfl rfl h125 (Lens.vecN 1 (by decide) (vget a5 1))) | (rw [← q22]; exact (ex_loadOne Try.underlying54 rfl rfl h125 (Lens.vecN 1 (by decide) (vget a5 1))))) | (rw [← q25]; exact (by first | exact (ex_loadOne Try.underlying54 rfl rfl h125 (Lens.vecN 1 (by decide) (vget a5 1))) | (rw [← q22]; exact (ex_loadOne Try.underlying54 rfl rfl h125 (Lens.vecN 1 (by decide) (vget a5 1))))))), ⟨(by first | exact (by first | exact (by first | exact (ex_loadOne Try.underlying54 rfl rfl h125 (Lens.vecN 2 (by decide) (vget a5 2))) | (rw [← q21]; exact (ex_loadOne Try.underlying54 rfl rfl h125 (Lens.vecN 2 (by decide) (vget a5 2))))) | (rw [← q22]; exact (by first | exact (ex_loadOne Try.underlying54 rfl rfl h125 (Lens.vecN 2 (by decide) (vget a5 2))) | (rw [← q21]; exact (ex_loadOne Try.underlying54 rfl rfl h125 (Lens.vecN 2 (by decide) (vget a5 2))))))) | (rw [← q25]; exact (by first | exact (by first | exact (ex_loadOne Try.underlying54 rfl rfl h125 (Lens.vecN 2 (by decide) (vget a5 2))) | (rw [← q21]; exact (ex_loadOne Try.underlying54 rfl rfl h125 (Lens.vecN 2 (by decide) (vget a5 2))))) | (rw [← q22]; exact (by first | exact (ex_loadOne Try.underlying54 rfl rfl h125 (Lens.vecN 2 (by decide) (vget a5 2))) | (rw [← q21]; exact (ex_loadOne Try.underlying54 rfl rfl h125 (Lens.vecN 2 (by decide) (vget a5 2))))))))), ⟨(by first | exact (by first | exact (by first | exact (by first | exact (ex_loadOne Try.underlying54 rfl rfl h125 (Lens.vecN 1 (by decide) (vget a5 1))) | (rw [← q20]; exact (ex_loadOne Try.underlying54 rfl rfl h125 (Lens.vecN 1 (by decide) (vget a5 1))))) | (rw [← q21]; exact (by first | exact (ex_loadOne Try.underlying54 rfl rfl h125 (Lens.vecN 1 (by decide) (vget a5 1))) | (rw [← q20]; exact (ex_loadOne Try.underlying54 rfl rfl h125 (Lens.vecN 1 (by decide) (vget a5 1))))))) | (rw [← q22]; exact (by first | exact (by first | exact (ex_loadOne Try.underlying54 rfl rfl h125 (Lens.vecN 1 (by decide) (vget a5 1))) | (rw [← q20]; exact (ex_loadOne Try.underlying54 rfl rfl h125 (Lens.vecN 1 (by decide) (vget a5 1))))) | (rw [← q21]; exact (by first | exact (ex_loadOne Try.underlying54 rfl rfl h125 (Lens.vecN 1 (by decide) (vget a5 1))) | (rw [← q20]; exact (ex_loadOne Try.underlying54 rfl rfl h125 (Lens.vecN 1 (by decide) (vget a5 1))))))))) | (rw [← q25]; exact (by first | exact (by first | exact (by first | exact (ex_loadOne Try.underlying54 rfl rfl h125 (Lens.vecN 1 (by decide) (vget a5 1))) | (rw [← q20]; exact (ex_loadOne Try.underlying54 rfl rfl h125 (Lens.vecN 1 (by decide) (vget a5 1))))) | (rw [← q21]; exact (by first | exact (ex_loadOne Try.underlying54 rfl rfl h125 (Lens.vecN 1 (by decide) (vget a5 1))) | (rw [← q20]; exact (ex_loadOne Try.underlying54 rfl rfl h125 (Lens.vecN 1 (by decide) (vget a5 1))))))) | (rw [← q22]; exact (by first | exact (by first | exact (ex_loadOne Try.underlying54 rfl rfl h125 (Lens.vecN 1 (by decide) (vget a5 1))) | (rw [← q20]; exact (ex_loadOne Try.underlying54 rfl rfl h125 (Lens.vecN 1 (by decide) (vget a5 1))))) | (rw [← q21]; exact (by first | exact (ex_loadOne Try.underlying54 rfl rfl h125 (Lens.vecN 1 (by decide) (vget a5 1))) | (rw [← q20]; exact (ex_loadOne Try.underlying54 rfl rfl h125 (Lens.vecN 1 (by decide) (vget a5 1))))))))))), trivial⟩⟩⟩⟩, ?_⟩
          refine WD.batch (f' := 0) [7, 23, 24] #[true, true, true, true, true, true, true, true, true, true, true, true, true, true, true, true, true, true, true, true, true, true, true, true, true] [2, 3, 6, 7, 11, 12, 15, 16] rfl (E' := [(2, .slice Ap2 p2.length np2), (3, .pointer (some ⟨b1, 0, none⟩)), (6, .pointer (some ⟨b2, 0, none⟩)), (7, .slice A1 l2.length n1), (11, .pointer (some ⟨b3, 0, none⟩)), (12, .int .i64 x4), (15, .int .u32 x17), (16, .int .u32 (wadd .u32 (wxor .u32 x23 x24) x20))]) (by kernel_rfl) ?_
          obtain ⟨x25, q27, hm⟩ := of_let hm
          rw [q27]
          refine WD.end_ (by kernel_rfl) ?_
          refine W.region ?_
          refine WL.batch 4 [2, 3, 6, 7, 11, 12, 15, 170, 171] (E' := [(2, .slice Ap2 p2.length np2), (3, .pointer (some ⟨b1, 0, none⟩)), (6, .pointer (some ⟨b2, 0, none⟩)), (7, .slice A1 l2.length n1), (11, .pointer (some ⟨b3, 0, none⟩)), (12, .int .i64 x4), (15, .int .u32 x17), (170, .int .u32 (wadd .u32 x17 x25)), (171, .pointer (some ⟨b3, 0, none⟩))]) (by kernel_rfl) ?_
          obtain ⟨x26, q28, hm⟩ := of_let hm
          rw [q28]
          refine WL.value (.int .u32 (vget a5 0)) rfl rfl rfl (ex_loadOne Try.underlying54 rfl rfl h125 (Lens.vecN 0 (by decide) (vget a5 0))) rfl ?_
          refine WL.batch 1 [2, 3, 6, 7, 11, 12, 15, 170, 172, 173] (E' := [(2, .slice Ap2 p2.length np2), (3, .pointer (some ⟨b1, 0, none⟩)), (6, .pointer (some ⟨b2, 0, none⟩)), (7, .slice A1 l2.length n1), (11, .pointer (some ⟨b3, 0, none⟩)), (12, .int .i64 x4), (15, .int .u32 x17), (170, .int .u32 x26), (172, .int .u32 (vget a5 0)), (173, .pointer (some ⟨b3, 1, none⟩))]) (by kernel_rfl) ?_
          obtain ⟨x27, q29, hm⟩ := of_let hm
          rw [q29]
          refine WL.value (.int .u32 (vget a5 1)) rfl rfl rfl (ex_loadOne Try.underlying54 rfl rfl h125 (Lens.vecN 1 (by decide) (vget a5 1))) rfl ?_
          refine WL.batch 1 [2, 3, 6, 7, 11, 12, 15, 170, 172, 174, 175] (E' := [(2, .slice Ap2 p2.length np2), (3, .pointer (some ⟨b1, 0, none⟩)), (6, .pointer (some ⟨b2, 0, none⟩)), (7, .slice A1 l2.length n1), (11, .pointer (some ⟨b3, 0, none⟩)), (12, .int .i64 x4), (15, .int .u32 x17), (170, .int .u32 x26), (172, .int .u32 x27), (174, .int .u32 (vget a5 1)), (175, .pointer (some ⟨b3, 2, none⟩))]) (by kernel_rfl) ?_
          obtain ⟨x28, q30, hm⟩ := of_let hm
          rw [q30]
          refine WL.value (.int .u32 (vget a5 2)) rfl rfl rfl (ex_loadOne Try.underlying54 rfl rfl h125 (Lens.vecN 2 (by decide) (vget a5 2))) rfl ?_
          refine WL.batch 1 [2, 3, 6, 7, 11, 12, 15, 170, 172, 174, 176, 177] (E' := [(2, .slice Ap2 p2.length np2), (3, .pointer (some ⟨b1, 0, none⟩)), (6, .pointer (some ⟨b2, 0, none⟩)), (7, .slice A1 l2.length n1), (11, .pointer (some ⟨b3, 0, none⟩)), (12, .int .i64 x4), (15, .int .u32 x17), (170, .int .u32 x26), (172, .int .u32 x27), (174, .int .u32 x28), (176, .int .u32 (vget a5 2)), (177, .pointer (some ⟨b3, 3, none⟩))]) (by kernel_rfl) ?_
          obtain ⟨x29, q31, hm⟩ := of_let hm
          rw [q31]
          refine WL.value (.int .u32 (vget a5 3)) rfl rfl rfl (ex_loadOne Try.underlying54 rfl rfl h125 (Lens.vecN 3 (by decide) (vget a5 3))) rfl ?_
          refine WL.batch 3 [2, 3, 6, 7, 11, 12, 170, 172, 174, 176, 180, 181] (E' := [(2, .slice Ap2 p2.length np2), (3, .pointer (some ⟨b1, 0, none⟩)), (6, .pointer (some ⟨b2, 0, none⟩)), (7, .slice A1 l2.length n1), (11, .pointer (some ⟨b3, 0, none⟩)), (12, .int .i64 x4), (170, .int .u32 x26), (172, .int .u32 x27), (174, .int .u32 x28), (176, .int .u32 x29), (180, .int .u32 (wadd .u32 (vget a5 3) x17)), (181, .pointer (some ⟨b3, 4, none⟩))]) (by kernel_rfl) ?_
          obtain ⟨x30, q32, hm⟩ := of_let hm
          rw [q32]
          refine WL.value (.int .u32 (vget a5 4)) rfl rfl rfl (ex_loadOne Try.underlying54 rfl rfl h125 (Lens.vecN 4 (by decide) (vget a5 4))) rfl ?_
          refine WL.batch 1 [2, 3, 6, 7, 11, 12, 170, 172, 174, 176, 180, 182, 183] (E' := [(2, .slice Ap2 p2.length np2), (3, .pointer (some ⟨b1, 0, none⟩)), (6, .pointer (some ⟨b2, 0, none⟩)), (7, .slice A1 l2.length n1), (11, .pointer (some ⟨b3, 0, none⟩)), (12, .int .i64 x4), (170, .int .u32 x26), (172, .int .u32 x27), (174, .int .u32 x28), (176, .int .u32 x29), (180, .int .u32 x30), (182, .int .u32 (vget a5 4)), (183, .pointer (some ⟨b3, 5, none⟩))]) (by kernel_rfl) ?_
          obtain ⟨x31, q33, hm⟩ := of_let hm
          rw [q33]
          refine WL.value (.int .u32 (vget a5 5)) rfl rfl rfl (ex_loadOne Try.underlying54 rfl rfl h125 (Lens.vecN 5 (by decide) (vget a5 5))) rfl ?_
          refine WL.batch 1 [2, 3, 6, 7, 11, 12, 170, 172, 174, 176, 180, 182, 184, 185] (E' := [(2, .slice Ap2 p2.length np2), (3, .pointer (some ⟨b1, 0, none⟩)), (6, .pointer (some ⟨b2, 0, none⟩)), (7, .slice A1 l2.length n1), (11, .pointer (some ⟨b3, 0, none⟩)), (12, .int .i64 x4), (170, .int .u32 x26), (172, .int .u32 x27), (174, .int .u32 x28), (176, .int .u32 x29), (180, .int .u32 x30), (182, .int .u32 x31), (184, .int .u32 (vget a5 5)), (185, .pointer (some ⟨b3, 6, none⟩))]) (by kernel_rfl) ?_
          obtain ⟨x32, q34, hm⟩ := of_let hm
          rw [q34]
          refine WL.value (.int .u32 (vget a5 6)) rfl rfl rfl (ex_loadOne Try.underlying54 rfl rfl h125 (Lens.vecN 6 (by decide) (vget a5 6))) rfl ?_
          refine WL.batch 1 [2, 3, 6, 7, 11, 12, 187] (E' := [(2, .slice Ap2 p2.length np2), (3, .pointer (some ⟨b1, 0, none⟩)), (6, .pointer (some ⟨b2, 0, none⟩)), (7, .slice A1 l2.length n1), (11, .pointer (some ⟨b3, 0, none⟩)), (12, .int .i64 x4), (187, .agg (ints .u32 (#v[x26, x27, x28, x29, x30, x31, x32, vget a5 6] : Vector Int 8).toList).toArray)]) (by kernel_rfl) ?_
          refine WL.opS rfl rfl rfl (ex_storeObj rfl rfl Try.sizeOf55 h125 (Lens.all _ (ints .u32 (#v[x26, x27, x28, x29, x30, x31, x32, vget a5 6] : Vector Int 8).toList)) (ivl _ _) (ivl _ _) rfl (ints_one _ _)) ?_
          rintro w23 ⟨F37, h126⟩
          have h127 := (h120).fr F37 ⟨(Ap.symm (Src.ap' s4 (h13).lt trivial)), trivial⟩
          have h128 := (h121).fr F37 ⟨(Ap.symm (Src.ap' s4 (h14).lt trivial)), trivial⟩
          have h129 := Fr.at F37 h122 (ApL.not (x := some b1) (S := [some b3]) ⟨(Ap.symm (Src.ap' s4 (Lt.one (at_lt h15)) trivial)), trivial⟩ _ rfl)
          have h130 := Fr.at F37 h123 (ApL.not (x := some b2) (S := [some b3]) ⟨(Ap.symm (Src.ap' s4 (Lt.one (at_lt h16)) trivial)), trivial⟩ _ rfl)
          have h131 := (h124).fr F37 ⟨(Ap.symm (Src.ap' s4 (h17).lt trivial)), trivial⟩
          have F38 := Fr.step F36 F37 ⟨(In0.src s4 F5.size trivial), trivial⟩
          refine ⟨_, rfl, ?_⟩
          obtain ⟨a6, q35, hm⟩ := of_let hm
          rw [q35] at h126
          refine WL.nil ?_
          refine W.region ?_
          refine WL.batch 3 [2, 3, 6, 7, 11, 12] (E' := [(2, .slice Ap2 p2.length np2), (3, .pointer (some ⟨b1, 0, none⟩)), (6, .pointer (some ⟨b2, 0, none⟩)), (7, .slice A1 l2.length n1), (11, .pointer (some ⟨b3, 0, none⟩)), (12, .int .i64 (wadd .i64 x4 1))]) (by kernel_rfl) ?_
          obtain ⟨x33, q36, hm⟩ := of_let hm
          rw [q36]
          refine WL.nil ?_
          exact ⟨x33, a6, ⟨rfl, rfl, rfl, rfl, rfl, rfl, trivial⟩, h127, h128, h129, h130, h131, h126, F38, hm⟩
        · refine W.condF _ rfl c8 ?_
          refine W.exit ?_
          exact rest2 _ _ ⟨a5, ⟨rfl, rfl, rfl, trivial⟩, h66, h67, h68, h69, h70, h71, F18, (Option.some.inj hm)⟩
  · replace hm := hm1
    clear hm1
    refine W.block ?_
    refine W.loop (fun j3 E w24 => ∃ (x34 : Int) (l3 : List Int), Env.sub E [(1, .slice Ap1 p1.length np1), (2, .slice Ap2 p2.length np2), (3, .pointer (some ⟨b1, 0, none⟩)), (6, .pointer (some ⟨b2, 0, none⟩)), (7, .slice A1 l3.length n1), (8, .int .i64 x34)] ∧ Rd w24 1 Ap1 p1.length np1 (ints .u8 p1) ∧ Rd w24 1 Ap2 p2.length np2 (ints .u32 p2) ∧ w24.heap[b1]? = some (.cells (ints .u32 p0.toList).toArray 55 (0, 0)) ∧ w24.heap[b2]? = some (.cells (ints .u32 (Vector.replicate 8 (0 : Int)).toList).toArray 55 (0, 0)) ∧ Own w24 54 1 A1 l3.length n1 (ints .u32 l3) ∧ Fr [] w w24 ∧ cauteryref02_block.l2 p1 j3 x34 l3 = some ex1) ?_ k ?_ ?_
    · rintro _ _ ⟨_, _, _, _, _, _, _, _, _, hz⟩
      exact absurd hz (by simp [cauteryref02_block.l2])
    · exact ⟨0, l1, ⟨rfl, rfl, rfl, rfl, rfl, rfl, trivial⟩, h9, h10, h11, h12, h8, F4, hm⟩
    · rintro j3 _ w24 ⟨x34, l3, hE, h132, h133, h134, h135, h136, F39, hm⟩
      rw [cauteryref02_block.l2] at hm
      refine W.sub ?_ hE
      refine W.seq ?_
      refine W.seq ?_
      refine W.region ?_
      refine WL.batch 2 [1, 2, 3, 6, 7, 8, 20] (E' := [(1, .slice Ap1 p1.length np1), (2, .slice Ap2 p2.length np2), (3, .pointer (some ⟨b1, 0, none⟩)), (6, .pointer (some ⟨b2, 0, none⟩)), (7, .slice A1 l3.length n1), (8, .int .i64 x34), (20, .bool (decide (x34 < (64 : Int))))]) (by kernel_rfl) ?_
      refine WL.nil ?_
      rcases of_cond hm with ⟨c13, hm⟩ | ⟨c13, hm⟩
      · refine W.condT _ rfl c13 ?_
        refine W.skip ?_
        refine W.seq ?_
        refine W.block ?_
        refine W.seq ?_
        refine W.seq ?_
        refine W.region ?_
        refine WL.batch 2 [1, 2, 3, 6, 7, 8, 24] (E' := [(1, .slice Ap1 p1.length np1), (2, .slice Ap2 p2.length np2), (3, .pointer (some ⟨b1, 0, none⟩)), (6, .pointer (some ⟨b2, 0, none⟩)), (7, .slice A1 l3.length n1), (8, .int .i64 x34), (24, .bool (decide (x34 < (16 : Int))))]) (by kernel_rfl) ?_
        refine WL.nil ?_
        rcases of_cond hm with ⟨c14, hm⟩ | ⟨c14, hm⟩
        · refine W.condT _ rfl c14 ?_
          refine W.seq ?_
          refine W.regionDw (N := 37) Try_mixed rfl ?_
          intro w25 F40
          have h137 := (h132).fr F40 trivial
          have h138 := (h133).fr F40 trivial
          have h139 := Fr.at F40 h134 (ApL.not (x := some b1) (S := []) trivial _ rfl)
          have h140 := Fr.at F40 h135 (ApL.not (x := some b2) (S := []) trivial _ rfl)
          have h141 := (h136).fr F40 trivial
          have F41 := Fr.step F39 F40 trivial
          refine WD.batch (f' := 20) [0, 1, 2, 3, 4, 9, 10, 11, 12, 18, 19, 20, 21, 27, 28, 29, 30] #[true, true, true, true, true, false, false, false, false, true, true, true, true, false, false, false, false, false, true, true, true, true, false, false, false, false, false, true, true, true, true, false, false, false, false, false, false] [1, 2, 3, 6, 7, 8, 25, 26, 27, 29, 34, 37, 43, 46, 52, 55] rfl (E' := [(1, .slice Ap1 p1.length np1), (2, .slice Ap2 p2.length np2), (3, .pointer (some ⟨b1, 0, none⟩)), (6, .pointer (some ⟨b2, 0, none⟩)), (7, .slice A1 l3.length n1), (8, .int .i64 x34), (25, .slice A1 l3.length n1), (26, .int .i64 x34), (27, .slice Ap1 p1.length np1), (29, .int .i64 (wmul .i64 4 x34)), (34, .slice Ap1 p1.length np1), (37, .int .i64 (wadd .i64 (wmul .i64 4 x34) 1)), (43, .slice Ap1 p1.length np1), (46, .int .i64 (wadd .i64 (wmul .i64 4 x34) 2)), (52, .slice Ap1 p1.length np1), (55, .int .i64 (wadd .i64 (wmul .i64 4 x34) 3))]) (by kernel_rfl) ?_
          obtain ⟨x35, q37, hm⟩ := of_let hm
          rw [q37]
          obtain ⟨x36, q38, hm⟩ := of_let hm
          rw [q38]
          obtain ⟨x37, q39, hm⟩ := of_let hm
          rw [q39]
          obtain ⟨x38, q40, hm⟩ := of_let hm
          rw [q40]
          obtain ⟨⟨c15, c16⟩, hm⟩ := of_guard hm
          obtain ⟨b6, o2, q41⟩ := Rd.place h137 (by omega)
          refine WD.valU 5 (.pointer (some ⟨b6, o2 + Int.toNat x38 * 1, none⟩)) rfl (by kernel_rfl) rfl rfl (fun _ => (ex_indexAddr Try.underlying23 Try.sizeOf5 rfl q41 rfl c15 c16)) rfl ?_
          refine WD.load 6 [36] [7, 8, 17, 26, 34, 35, 36] (.int .u8 (lget p1 x38)) rfl (by kernel_rfl) rfl rfl rfl (ex_loadElI Try.underlying5 rfl h137 q41 c15 c16) ?_
          refine WD.batch (f' := 16) [7, 8] #[true, true, true, true, true, true, true, true, true, true, true, true, true, false, false, false, false, false, true, true, true, true, false, false, false, false, false, true, true, true, true, false, false, false, false, false, false] [1, 2, 3, 6, 7, 8, 25, 26, 33, 34, 37, 43, 46, 52, 55] rfl (E' := [(1, .slice Ap1 p1.length np1), (2, .slice Ap2 p2.length np2), (3, .pointer (some ⟨b1, 0, none⟩)), (6, .pointer (some ⟨b2, 0, none⟩)), (7, .slice A1 l3.length n1), (8, .int .i64 x34), (25, .slice A1 l3.length n1), (26, .int .i64 x34), (33, .int .u32 (wshl .u32 (IntKind.wrap .u32 (lget p1 x38)) 24)), (34, .slice Ap1 p1.length np1), (37, .int .i64 x35), (43, .slice Ap1 p1.length np1), (46, .int .i64 x36), (52, .slice Ap1 p1.length np1), (55, .int .i64 x37)]) (by kernel_rfl) ?_
          obtain ⟨x39, q42, hm⟩ := of_let hm
          rw [q42]
          obtain ⟨⟨c17, c18⟩, hm⟩ := of_guard hm
          obtain ⟨b7, o3, q43⟩ := Rd.place h137 (by omega)
          refine WD.valU 13 (.pointer (some ⟨b7, o3 + Int.toNat x35 * 1, none⟩)) rfl (by kernel_rfl) rfl rfl (fun _ => (ex_indexAddr Try.underlying23 Try.sizeOf5 rfl q43 rfl c17 c18)) rfl ?_
          refine WD.load 14 [36] [15, 16, 17, 26, 34, 35, 36] (.int .u8 (lget p1 x35)) rfl (by kernel_rfl) rfl rfl rfl (ex_loadElI Try.underlying5 rfl h137 q43 c17 c18) ?_
          refine WD.batch (f' := 11) [15, 16, 17] #[true, true, true, true, true, true, true, true, true, true, true, true, true, true, true, true, true, true, true, true, true, true, false, false, false, false, false, true, true, true, true, false, false, false, false, false, false] [1, 2, 3, 6, 7, 8, 25, 26, 42, 43, 46, 52, 55] rfl (E' := [(1, .slice Ap1 p1.length np1), (2, .slice Ap2 p2.length np2), (3, .pointer (some ⟨b1, 0, none⟩)), (6, .pointer (some ⟨b2, 0, none⟩)), (7, .slice A1 l3.length n1), (8, .int .i64 x34), (25, .slice A1 l3.length n1), (26, .int .i64 x34), (42, .int .u32 (wor .u32 x39 (wshl .u32 (IntKind.wrap .u32 (lget p1 x35)) 16))), (43, .slice Ap1 p1.length np1), (46, .int .i64 x36), (52, .slice Ap1 p1.length np1), (55, .int .i64 x37)]) (by kernel_rfl) ?_
          obtain ⟨x40, q44, hm⟩ := of_let hm
          rw [q44]
          obtain ⟨⟨c19, c20⟩, hm⟩ := of_guard hm
          obtain ⟨b8, o4, q45⟩ := Rd.place h137 (by omega)
          refine WD.valU 22 (.pointer (some ⟨b8, o4 + Int.toNat x36 * 1, none⟩)) rfl (by kernel_rfl) rfl rfl (fun _ => (ex_indexAddr Try.underlying23 Try.sizeOf5 rfl q45 rfl c19 c20)) rfl ?_
          refine WD.load 23 [36] [24, 25, 26, 34, 35, 36] (.int .u8 (lget p1 x36)) rfl (by kernel_rfl) rfl rfl rfl (ex_loadElI Try.underlying5 rfl h137 q45 c19 c20) ?_
          refine WD.batch (f' := 6) [24, 25, 26] #[true, true, true, true, true, true, true, true, true, true, true, true, true, true, true, true, true, true, true, true, true, true, true, true, true, true, true, true, true, true, true, false, false, false, false, false, false] [1, 2, 3, 6, 7, 8, 25, 26, 51, 52, 55] rfl (E' := [(1, .slice Ap1 p1.length np1), (2, .slice Ap2 p2.length np2), (3, .pointer (some ⟨b1, 0, none⟩)), (6, .pointer (some ⟨b2, 0, none⟩)), (7, .slice A1 l3.length n1), (8, .int .i64 x34), (25, .slice A1 l3.length n1), (26, .int .i64 x34), (51, .int .u32 (wor .u32 x40 (wshl .u32 (IntKind.wrap .u32 (lget p1 x36)) 8))), (52, .slice Ap1 p1.length np1), (55, .int .i64 x37)]) (by kernel_rfl) ?_
          obtain ⟨x41, q46, hm⟩ := of_let hm
          rw [q46]
          obtain ⟨⟨c21, c22⟩, hm⟩ := of_guard hm
          obtain ⟨b9, o5, q47⟩ := Rd.place h137 (by omega)
          refine WD.valU 31 (.pointer (some ⟨b9, o5 + Int.toNat x37 * 1, none⟩)) rfl (by kernel_rfl) rfl rfl (fun _ => (ex_indexAddr Try.underlying23 Try.sizeOf5 rfl q47 rfl c21 c22)) rfl ?_
          refine WD.load 32 [36] [33, 34, 35, 36] (.int .u8 (lget p1 x37)) rfl (by kernel_rfl) rfl rfl rfl (ex_loadElI Try.underlying5 rfl h137 q47 c21 c22) ?_
          refine WD.batch (f' := 2) [33, 34] #[true, true, true, true, true, true, true, true, true, true, true, true, true, true, true, true, true, true, true, true, true, true, true, true, true, true, true, true, true, true, true, true, true, true, true, false, false] [1, 2, 3, 6, 7, 8, 25, 26, 59] rfl (E' := [(1, .slice Ap1 p1.length np1), (2, .slice Ap2 p2.length np2), (3, .pointer (some ⟨b1, 0, none⟩)), (6, .pointer (some ⟨b2, 0, none⟩)), (7, .slice A1 l3.length n1), (8, .int .i64 x34), (25, .slice A1 l3.length n1), (26, .int .i64 x34), (59, .int .u32 (wor .u32 x41 (IntKind.wrap .u32 (lget p1 x37))))]) (by kernel_rfl) ?_
          obtain ⟨x42, q48, hm⟩ := of_let hm
          rw [q48]
          obtain ⟨⟨c23, c24⟩, hm⟩ := of_guard hm
          obtain ⟨b10, q49⟩ := Own.place h141 (by omega)
          refine WD.valU 35 (.pointer (some ⟨b10, 0 + Int.toNat x34 * 1, none⟩)) rfl (by kernel_rfl) rfl rfl (fun _ => (ex_indexAddr Try.underlying57 Try.sizeOf54 rfl q49 rfl c23 c24)) rfl ?_
          obtain ⟨l4, q50, hm⟩ := of_let hm
          refine WD.opS 36 (by kernel_rfl) rfl rfl rfl rfl (ex_storeElI rfl rfl Try.sizeOf54 q49 h141 c23 c24 q50) ?_
          rintro w26 ⟨F42, h142⟩
          have h143 := (h137).fr F42 ⟨(Ap.symm (Src.ap' s3 (h5).lt trivial)), trivial⟩
          have h144 := (h138).fr F42 ⟨(Ap.symm (Src.ap' s3 (h6).lt trivial)), trivial⟩
          have h145 := Fr.at F42 h139 (ApL.not (x := some b1) (S := [ablk A1]) ⟨(Ap.symm (Src.ap' s3 (Lt.one (at_lt h7)) trivial)), trivial⟩ _ rfl)
          have h146 := Fr.at F42 h140 (ApL.not (x := some b2) (S := [ablk A1]) ⟨(Ap.symm (Src.ap' s3 (Lt.one (at_lt h4)) trivial)), trivial⟩ _ rfl)
          have F43 := Fr.step F41 F42 ⟨(In0.src s3 F2.size trivial), trivial⟩
          refine ⟨_, rfl, trivial, ?_⟩
          have e5 : l3.length = l4.length := lset_len q50
          refine WD.env (by first | rw [e5] | rfl) ?_
          refine WD.end_ (by kernel_rfl) ?_
          refine W.exit ?_
          refine W.region ?_
          refine WL.batch 3 [1, 2, 3, 6, 7, 8] (E' := [(1, .slice Ap1 p1.length np1), (2, .slice Ap2 p2.length np2), (3, .pointer (some ⟨b1, 0, none⟩)), (6, .pointer (some ⟨b2, 0, none⟩)), (7, .slice A1 l4.length n1), (8, .int .i64 (wadd .i64 x34 1))]) (by kernel_rfl) ?_
          obtain ⟨x43, q51, hm⟩ := of_let hm
          rw [q51]
          refine WL.nil ?_
          exact ⟨x43, l4, ⟨rfl, rfl, rfl, rfl, rfl, rfl, trivial⟩, h143, h144, h145, h146, h142, F43, hm⟩
        · refine W.condF _ rfl c14 ?_
          refine W.skip ?_
          refine W.seq ?_
          refine W.regionDw (N := 12) Try_mixed rfl ?_
          intro w27 F44
          have h147 := (h132).fr F44 trivial
          have h148 := (h133).fr F44 trivial
          have h149 := Fr.at F44 h134 (ApL.not (x := some b1) (S := []) trivial _ rfl)
          have h150 := Fr.at F44 h135 (ApL.not (x := some b2) (S := []) trivial _ rfl)
          have h151 := (h136).fr F44 trivial
          have F45 := Fr.step F39 F44 trivial
          refine WD.batch (f' := 6) [0, 1, 2, 5, 6, 7] #[true, true, true, false, false, true, true, true, false, false, false, false] [1, 2, 3, 6, 7, 8, 61, 63, 66, 68] rfl (E' := [(1, .slice Ap1 p1.length np1), (2, .slice Ap2 p2.length np2), (3, .pointer (some ⟨b1, 0, none⟩)), (6, .pointer (some ⟨b2, 0, none⟩)), (7, .slice A1 l3.length n1), (8, .int .i64 x34), (61, .slice A1 l3.length n1), (63, .int .i64 (wsub .i64 x34 15)), (66, .slice A1 l3.length n1), (68, .int .i64 (wsub .i64 x34 2))]) (by kernel_rfl) ?_
          obtain ⟨x44, q52, hm⟩ := of_let hm
          rw [q52]
          obtain ⟨x45, q53, hm⟩ := of_let hm
          rw [q53]
          obtain ⟨⟨c25, c26⟩, hm⟩ := of_guard hm
          obtain ⟨b11, q54⟩ := Own.place h151 (by omega)
          refine WD.valU 3 (.pointer (some ⟨b11, 0 + Int.toNat x44 * 1, none⟩)) rfl (by kernel_rfl) rfl rfl (fun _ => (ex_indexAddr Try.underlying57 Try.sizeOf54 rfl q54 rfl c25 c26)) rfl ?_
          refine WD.load 4 [] [10, 11] (.int .u32 (lget l3 x44)) rfl (by kernel_rfl) rfl rfl rfl (ex_loadElI Try.underlying54 rfl (h151).rd q54 c25 c26) ?_
          refine WD.batch (f' := 3) [10] #[true, true, true, true, true, true, true, true, false, false, true, false] [1, 2, 3, 6, 7, 8, 9, 66, 68] rfl (E' := [(1, .slice Ap1 p1.length np1), (2, .slice Ap2 p2.length np2), (3, .pointer (some ⟨b1, 0, none⟩)), (6, .pointer (some ⟨b2, 0, none⟩)), (7, .slice A1 l3.length n1), (8, .int .i64 x34), (9, .int .u32 (lget l3 x44)), (66, .slice A1 l3.length n1), (68, .int .i64 x45)]) (by kernel_rfl) ?_
          obtain ⟨x46, q55, hm⟩ := of_let hm
          rw [q55]
          obtain ⟨⟨c27, c28⟩, hm⟩ := of_guard hm
          obtain ⟨b12, q56⟩ := Own.place h151 (by omega)
          refine WD.valU 8 (.pointer (some ⟨b12, 0 + Int.toNat x45 * 1, none⟩)) rfl (by kernel_rfl) rfl rfl (fun _ => (ex_indexAddr Try.underlying57 Try.sizeOf54 rfl q56 rfl c27 c28)) rfl ?_
          refine WD.load 9 [] [11] (.int .u32 (lget l3 x45)) rfl (by kernel_rfl) rfl rfl rfl (ex_loadElI Try.underlying54 rfl (h151).rd q56 c27 c28) ?_
          refine WD.batch (f' := 0) [11] #[true, true, true, true, true, true, true, true, true, true, true, true] [1, 2, 3, 6, 7, 8, 9, 10] rfl (E' := [(1, .slice Ap1 p1.length np1), (2, .slice Ap2 p2.length np2), (3, .pointer (some ⟨b1, 0, none⟩)), (6, .pointer (some ⟨b2, 0, none⟩)), (7, .slice A1 l3.length n1), (8, .int .i64 x34), (9, .int .u32 x46), (10, .int .u32 (lget l3 x45))]) (by kernel_rfl) ?_
          obtain ⟨x47, q57, hm⟩ := of_let hm
          rw [q57]
          refine WD.end_ (by kernel_rfl) ?_
          refine W.regionDw (N := 33) Try_mixed rfl ?_
          intro w28 F46
          have h152 := (h147).fr F46 trivial
          have h153 := (h148).fr F46 trivial
          have h154 := Fr.at F46 h149 (ApL.not (x := some b1) (S := []) trivial _ rfl)
          have h155 := Fr.at F46 h150 (ApL.not (x := some b2) (S := []) trivial _ rfl)
          have h156 := (h151).fr F46 trivial
          have F47 := Fr.step F45 F46 trivial
          refine WD.batch (f' := 17) [0, 1, 2, 4, 7, 8, 10, 11, 12, 16, 18, 21, 22, 25, 26, 27] #[true, true, true, false, true, false, false, true, true, false, true, true, true, false, false, false, true, false, true, false, false, true, true, false, false, true, true, true, false, false, false, false, false] [1, 2, 3, 6, 7, 8, 71, 72, 73, 75, 79, 81, 83, 87, 89, 93, 96, 98] rfl (E' := [(1, .slice Ap1 p1.length np1), (2, .slice Ap2 p2.length np2), (3, .pointer (some ⟨b1, 0, none⟩)), (6, .pointer (some ⟨b2, 0, none⟩)), (7, .slice A1 l3.length n1), (8, .int .i64 x34), (71, .slice A1 l3.length n1), (72, .int .i64 x34), (73, .int .u32 x47), (75, .int .u32 x47), (79, .int .u32 (wshr .u32 x47 10)), (81, .slice A1 l3.length n1), (83, .int .i64 (wsub .i64 x34 7)), (87, .int .u32 x46), (89, .int .u32 x46), (93, .int .u32 (wshr .u32 x46 3)), (96, .slice A1 l3.length n1), (98, .int .i64 (wsub .i64 x34 16))]) (by kernel_rfl) ?_
          obtain ⟨x48, q58, hm⟩ := of_let hm
          rw [q58]
          obtain ⟨x49, q59, hm⟩ := of_let hm
          rw [q59]
          obtain ⟨x50, q60, hm⟩ := of_let hm
          rw [q60]
          obtain ⟨x51, q61, hm⟩ := of_let hm
          rw [q61]
          obtain ⟨⟨c29, c30⟩, hm⟩ := of_guard hm
          obtain ⟨b13, q62⟩ := Own.place h156 (by omega)
          refine WD.valU 13 (.pointer (some ⟨b13, 0 + Int.toNat x50 * 1, none⟩)) rfl (by kernel_rfl) rfl rfl (fun _ => (ex_indexAddr Try.underlying57 Try.sizeOf54 rfl q62 rfl c29 c30)) rfl ?_
          refine WD.load 14 [32] [15, 24, 30, 31, 32] (.int .u32 (lget l3 x50)) rfl (by kernel_rfl) rfl rfl rfl (ex_loadElI Try.underlying54 rfl (h156).rd q62 c29 c30) ?_
          obtain ⟨⟨c31, c32⟩, hm⟩ := of_guard hm
          obtain ⟨b14, q63⟩ := Own.place h156 (by omega)
          refine WD.valU 28 (.pointer (some ⟨b14, 0 + Int.toNat x49 * 1, none⟩)) rfl (by kernel_rfl) rfl rfl (fun _ => (ex_indexAddr Try.underlying57 Try.sizeOf54 rfl q63 rfl c31 c32)) rfl ?_
          refine WD.load 29 [32] [30, 31, 32] (.int .u32 (lget l3 x49)) rfl (by kernel_rfl) rfl rfl rfl (ex_loadElI Try.underlying54 rfl (h156).rd q63 c31 c32) ?_
          obtain ⟨x52, q64, hm⟩ := of_bind hm
          refine WD.call 3 (by kernel_rfl) rfl rfl rfl rfl (ex_callI (args := [.int .u32 x47, .int .u64 17]) rfl rfl rfl Try.call41) (cauteryref02_turn_walk x47 17  _   x52 q64) ?_
          rintro _ w29 ⟨rfl, F48⟩
          have h157 := (h152).fr F48 trivial
          have h158 := (h153).fr F48 trivial
          have h159 := Fr.at F48 h154 (ApL.not (x := some b1) (S := []) trivial _ rfl)
          have h160 := Fr.at F48 h155 (ApL.not (x := some b2) (S := []) trivial _ rfl)
          have h161 := (h156).fr F48 trivial
          have F49 := Fr.step F47 F48 trivial
          refine ⟨_, _, rfl, rfl, ⟨(ex_loadElI Try.underlying54 rfl (h161).rd q63 c31 c32), ⟨(ex_loadElI Try.underlying54 rfl (h161).rd q62 c29 c30), trivial⟩⟩, ?_⟩
          obtain ⟨x53, q65, hm⟩ := of_bind hm
          refine WD.call 5 (by kernel_rfl) rfl rfl rfl rfl (ex_callI (args := [.int .u32 x47, .int .u64 19]) rfl rfl rfl Try.call41) (cauteryref02_turn_walk x47 19  _   x53 q65) ?_
          rintro _ w30 ⟨rfl, F50⟩
          have h162 := (h157).fr F50 trivial
          have h163 := (h158).fr F50 trivial
          have h164 := Fr.at F50 h159 (ApL.not (x := some b1) (S := []) trivial _ rfl)
          have h165 := Fr.at F50 h160 (ApL.not (x := some b2) (S := []) trivial _ rfl)
          have h166 := (h161).fr F50 trivial
          have F51 := Fr.step F49 F50 trivial
          refine ⟨_, _, rfl, rfl, ⟨(ex_loadElI Try.underlying54 rfl (h166).rd q63 c31 c32), ⟨(ex_loadElI Try.underlying54 rfl (h166).rd q62 c29 c30), trivial⟩⟩, ?_⟩
          refine WD.batch (f' := 8) [6, 9, 15] #[true, true, true, true, true, true, true, true, true, true, true, true, true, true, true, true, true, false, true, false, false, true, true, false, false, true, true, true, true, true, false, false, false] [1, 2, 3, 6, 7, 8, 71, 72, 86, 87, 89, 93, 100] rfl (E' := [(1, .slice Ap1 p1.length np1), (2, .slice Ap2 p2.length np2), (3, .pointer (some ⟨b1, 0, none⟩)), (6, .pointer (some ⟨b2, 0, none⟩)), (7, .slice A1 l3.length n1), (8, .int .i64 x34), (71, .slice A1 l3.length n1), (72, .int .i64 x34), (86, .int .u32 (wadd .u32 (wxor .u32 (wxor .u32 x52 x53) x48) (lget l3 x50))), (87, .int .u32 x46), (89, .int .u32 x46), (93, .int .u32 x51), (100, .int .u32 (lget l3 x49))]) (by kernel_rfl) ?_
          obtain ⟨x54, q66, hm⟩ := of_let hm
          rw [q66]
          obtain ⟨x55, q67, hm⟩ := of_let hm
          rw [q67]
          obtain ⟨x56, q68, hm⟩ := of_bind hm
          refine WD.call 17 (by kernel_rfl) rfl rfl rfl rfl (ex_callI (args := [.int .u32 x46, .int .u64 7]) rfl rfl rfl Try.call41) (cauteryref02_turn_walk x46 7  _   x56 q68) ?_
          rintro _ w31 ⟨rfl, F52⟩
          have h167 := (h162).fr F52 trivial
          have h168 := (h163).fr F52 trivial
          have h169 := Fr.at F52 h164 (ApL.not (x := some b1) (S := []) trivial _ rfl)
          have h170 := Fr.at F52 h165 (ApL.not (x := some b2) (S := []) trivial _ rfl)
          have h171 := (h166).fr F52 trivial
          have F53 := Fr.step F51 F52 trivial
          refine ⟨_, _, rfl, rfl, ⟨(by first | exact (ex_loadElI Try.underlying54 rfl (h171).rd q63 c31 c32) | (rw [← q66]; exact (ex_loadElI Try.underlying54 rfl (h171).rd q63 c31 c32)) | (rw [← q67]; exact (ex_loadElI Try.underlying54 rfl (h171).rd q63 c31 c32))), ⟨(by first | exact (ex_loadElI Try.underlying54 rfl (h171).rd q62 c29 c30) | (rw [← q66]; exact (ex_loadElI Try.underlying54 rfl (h171).rd q62 c29 c30)) | (rw [← q67]; exact (ex_loadElI Try.underlying54 rfl (h171).rd q62 c29 c30))), trivial⟩⟩, ?_⟩
          obtain ⟨x57, q69, hm⟩ := of_bind hm
          refine WD.call 19 (by kernel_rfl) rfl rfl rfl rfl (ex_callI (args := [.int .u32 x46, .int .u64 18]) rfl rfl rfl Try.call41) (cauteryref02_turn_walk x46 18  _   x57 q69) ?_
          rintro _ w32 ⟨rfl, F54⟩
          have h172 := (h167).fr F54 trivial
          have h173 := (h168).fr F54 trivial
          have h174 := Fr.at F54 h169 (ApL.not (x := some b1) (S := []) trivial _ rfl)
          have h175 := Fr.at F54 h170 (ApL.not (x := some b2) (S := []) trivial _ rfl)
          have h176 := (h171).fr F54 trivial
          have F55 := Fr.step F53 F54 trivial
          refine ⟨_, _, rfl, rfl, ⟨(by first | exact (ex_loadElI Try.underlying54 rfl (h176).rd q63 c31 c32) | (rw [← q66]; exact (ex_loadElI Try.underlying54 rfl (h176).rd q63 c31 c32)) | (rw [← q67]; exact (ex_loadElI Try.underlying54 rfl (h176).rd q63 c31 c32))), ⟨(by first | exact (ex_loadElI Try.underlying54 rfl (h176).rd q62 c29 c30) | (rw [← q66]; exact (ex_loadElI Try.underlying54 rfl (h176).rd q62 c29 c30)) | (rw [← q67]; exact (ex_loadElI Try.underlying54 rfl (h176).rd q62 c29 c30))), trivial⟩⟩, ?_⟩
          refine WD.batch (f' := 2) [20, 23, 24, 30] #[true, true, true, true, true, true, true, true, true, true, true, true, true, true, true, true, true, true, true, true, true, true, true, true, true, true, true, true, true, true, true, false, false] [1, 2, 3, 6, 7, 8, 71, 72, 101] rfl (E' := [(1, .slice Ap1 p1.length np1), (2, .slice Ap2 p2.length np2), (3, .pointer (some ⟨b1, 0, none⟩)), (6, .pointer (some ⟨b2, 0, none⟩)), (7, .slice A1 l3.length n1), (8, .int .i64 x34), (71, .slice A1 l3.length n1), (72, .int .i64 x34), (101, .int .u32 (wadd .u32 (wadd .u32 x54 (wxor .u32 (wxor .u32 x56 x57) x51)) x55))]) (by kernel_rfl) ?_
          obtain ⟨x58, q70, hm⟩ := of_let hm
          rw [q70]
          obtain ⟨⟨c33, c34⟩, hm⟩ := of_guard hm
          obtain ⟨b15, q71⟩ := Own.place h176 (by omega)
          refine WD.valU 31 (.pointer (some ⟨b15, 0 + Int.toNat x34 * 1, none⟩)) rfl (by kernel_rfl) rfl rfl (fun _ => (ex_indexAddr Try.underlying57 Try.sizeOf54 rfl q71 rfl c33 c34)) rfl ?_
          obtain ⟨l5, q72, hm⟩ := of_let hm
          refine WD.opS 32 (by kernel_rfl) rfl rfl rfl rfl (ex_storeElI rfl rfl Try.sizeOf54 q71 h176 c33 c34 q72) ?_
          rintro w33 ⟨F56, h177⟩
          have h178 := (h172).fr F56 ⟨(Ap.symm (Src.ap' s3 (h5).lt trivial)), trivial⟩
          have h179 := (h173).fr F56 ⟨(Ap.symm (Src.ap' s3 (h6).lt trivial)), trivial⟩
          have h180 := Fr.at F56 h174 (ApL.not (x := some b1) (S := [ablk A1]) ⟨(Ap.symm (Src.ap' s3 (Lt.one (at_lt h7)) trivial)), trivial⟩ _ rfl)
          have h181 := Fr.at F56 h175 (ApL.not (x := some b2) (S := [ablk A1]) ⟨(Ap.symm (Src.ap' s3 (Lt.one (at_lt h4)) trivial)), trivial⟩ _ rfl)
          have F57 := Fr.step F55 F56 ⟨(In0.src s3 F2.size trivial), trivial⟩
          refine ⟨_, rfl, trivial, ?_⟩
          have e6 : l3.length = l5.length := lset_len q72
          refine WD.env (by first | rw [e6] | rfl) ?_
          refine WD.end_ (by kernel_rfl) ?_
          refine W.region ?_
          refine WL.batch 3 [1, 2, 3, 6, 7, 8] (E' := [(1, .slice Ap1 p1.length np1), (2, .slice Ap2 p2.length np2), (3, .pointer (some ⟨b1, 0, none⟩)), (6, .pointer (some ⟨b2, 0, none⟩)), (7, .slice A1 l5.length n1), (8, .int .i64 (wadd .i64 x34 1))]) (by kernel_rfl) ?_
          obtain ⟨x59, q73, hm⟩ := of_let hm
          rw [q73]
          refine WL.nil ?_
          exact ⟨x59, l5, ⟨rfl, rfl, rfl, rfl, rfl, rfl, trivial⟩, h178, h179, h180, h181, h177, F57, hm⟩
      · refine W.condF _ rfl c13 ?_
        refine W.exit ?_
        exact rest1 _ _ ⟨l3, ⟨rfl, rfl, rfl, rfl, trivial⟩, h132, h133, h134, h135, h136, F39, (Option.some.inj hm)⟩
end Go.Proofs.Ythbcjjhlebhghaa.Walk
