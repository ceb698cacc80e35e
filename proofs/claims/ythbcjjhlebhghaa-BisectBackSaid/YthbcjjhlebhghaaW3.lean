/- Each function's call comes to what its model answers; what is handed in stays as it was. -/
import Derived.Test.YthbcjjhlebhghaaM
import Derived.Test.YthbcjjhlebhghaaProg
import Derived.Test.YthbcjjhlebhghaaW2
namespace Go.Proofs.Ythbcjjhlebhghaa.Walk
open Go
/- cautery/cauterylaw21.BisectDecode -/
theorem cauterylaw21_BisectDecode_walk (k : Nat) (p0 : List Int) (Ap0 : Option Addr) (np0 : Nat) (w : World) (hp0 : Rd w 1 Ap0 p0.length np0 (ints .u8 p0)) (r0 : Bool) (hm : cauterylaw21_BisectDecode.f k p0 = some r0) :
    Calls Try.prog 4 #[.slice Ap0 p0.length np0] w fun e w' => e = .returned (.bool r0) ∧ Fr [] w w' := by
  have F0 := Fr.refl [] w
  unfold cauterylaw21_BisectDecode.f at hm
  refine W.enter (args := [.slice Ap0 p0.length np0]) Try.func4 rfl (n := 58) rfl rfl ?_
  refine W.seq ?_
  refine W.region ?_
  refine WL.batch 1 [0] (E' := [(0, .slice Ap0 p0.length np0)]) (by kernel_rfl) ?_
  refine WL.nil ?_
  refine W.seq ?_
  refine W.seq ?_
  refine W.region ?_
  refine WL.batch 3 [0, 12] (E' := [(0, .slice Ap0 p0.length np0), (12, .bool (decide ((p0.length : Int) > (700 : Int))))]) (by kernel_rfl) ?_
  refine WL.nil ?_
  rcases of_cond hm with ⟨c1, hm⟩ | ⟨c1, hm⟩
  · refine W.condT _ rfl c1 ?_
    refine W.seq ?_
    refine W.region ?_
    obtain ⟨y1, q1, hm⟩ := of_bind hm
    refine WL.call rfl rfl rfl (ex_callI (args := []) rfl rfl rfl Try.call7) (cauterylaw21_alive_walk k   _   y1 q1) ?_
    rintro _ w1 ⟨rfl, F1⟩
    have h1 := (hp0).fr F1 trivial
    have F2 := Fr.step F0 F1 trivial
    refine ⟨_, _, rfl, rfl, ?_⟩
    refine WL.batch 1 [2] (E' := [(2, .bool y1)]) (by kernel_rfl) ?_
    refine WL.nil ?_
    refine W.ret ?_
    obtain rfl := Option.some.inj hm
    exact ⟨_, ⟨_, _, rfl, rfl, rfl⟩, ⟨rfl, F2⟩⟩
  · refine W.condF _ rfl c1 ?_
    refine W.skip ?_
    refine W.seq ?_
    refine W.region ?_
    refine WL.op rfl rfl rfl (ex_buildSliceI (T := 5) (k := .u8) (l2 := ([] : List Int)) rfl (fun _ => by kernel_rfl) rfl rfl) ?_
    rintro _ w2 ⟨A1, n1, rfl, h2, F3, s1⟩
    have h3 := (hp0).fr F3 trivial
    have F4 := Fr.step F0 F3 trivial
    refine ⟨_, rfl, ?_⟩
    refine WL.batch 1 [0, 14, 15] (E' := [(0, .slice Ap0 p0.length np0), (14, .slice A1 ([] : List Int).length n1), (15, .slice Ap0 p0.length np0)]) (by kernel_rfl) ?_
    obtain ⟨l1, q2, hm⟩ := of_let hm
    obtain ⟨c2, hm⟩ := of_guard hm
    refine WL.op rfl rfl rfl (ex_appendI (k := .u8) (bytes := 1) Try.underlying23 (by kernel_rfl) rfl rfl h2 h3 q2 c2) ?_
    rintro _ w3 ⟨A2, n2, rfl, h4, F5, s2⟩
    have h5 := (h3).fr F5 ⟨(Ap.symm (Src.ap' s1 (hp0).lt trivial)), trivial⟩
    have F6 := Fr.step F4 F5 ⟨(In0.src s1 (Nat.le_refl _) trivial), trivial⟩
    refine ⟨_, rfl, ?_⟩
    refine WL.batch 1 [0, 3] (E' := [(0, .slice Ap0 p0.length np0), (3, .slice A2 l1.length n2)]) (by kernel_rfl) ?_
    refine WL.nil ?_
    refine W.seq ?_
    refine W.region ?_
    refine WL.batch 1 [0, 3, 18] (E' := [(0, .slice Ap0 p0.length np0), (3, .slice A2 l1.length n2), (18, .slice A2 l1.length n2)]) (by kernel_rfl) ?_
    obtain ⟨⟨x1, s3, s4, x2, x3, a1, l2, x4⟩, q3, hm⟩ := of_bind hm
    refine WL.call rfl rfl rfl (ex_callI (args := [.slice A2 l1.length n2]) rfl rfl rfl Try.call13) (bisect_Decode_walk k l1 A2 n2 _ (h4).rd  x1 s3 s4 x2 x3 a1 l2 x4 q3) ?_
    rintro _ w4 ⟨A3, n3, rfl, F7, h6, s5⟩
    have h7 := (h5).fr F7 trivial
    have h8 := (h4).fr F7 trivial
    have F8 := Fr.step F6 F7 trivial
    refine ⟨_, _, rfl, rfl, ?_⟩
    refine WL.batch 3 [0, 3, 20, 21] (E' := [(0, .slice Ap0 p0.length np0), (3, .slice A2 l1.length n2), (20, .agg ([Value.int .i64 x1] ++ ([Value.string s3] ++ ([Value.string s4] ++ ([Value.int .i64 x2] ++ ([Value.int .i64 x3] ++ (ints .u8 a1.toList ++ ([Value.slice A3 l2.length n3]))))))).toArray), (21, .int .i64 x4)]) (by kernel_rfl) ?_
    refine WL.op rfl rfl rfl (ex_alloc' (z := .agg ([Value.int .i64 0] ++ ([Value.string (⟨#[]⟩ : ByteArray)] ++ ([Value.string (⟨#[]⟩ : ByteArray)] ++ ([Value.int .i64 0] ++ ([Value.int .i64 0] ++ (ints .u8 (Vector.replicate 32 (0 : Int)).toList ++ ([Value.slice none 0 0]))))))).toArray) (cs := [Value.int .i64 0] ++ ([Value.string (⟨#[]⟩ : ByteArray)] ++ ([Value.string (⟨#[]⟩ : ByteArray)] ++ ([Value.int .i64 0] ++ ([Value.int .i64 0] ++ (ints .u8 (Vector.replicate 32 (0 : Int)).toList ++ ([Value.slice none 0 0]))))))) (fun _ => by kernel_rfl) (by kernel_rfl)) ?_
    rintro _ w5 ⟨b1, rfl, N1⟩
    have h9 := N1.at_
    have s6 := Src.new [] (Ge.one N1.ge)
    have h10 := (h7).fr N1.fr trivial
    have h11 := (h8).fr N1.fr trivial
    have h12 := (h6).fr N1.fr trivial
    have F9 := Fr.step F8 N1.fr trivial
    refine ⟨_, rfl, ?_⟩
    refine WL.opS rfl rfl rfl (ex_storeObj rfl rfl Try.sizeOf25 h9 (Lens.all _ ([Value.int .i64 x1] ++ ([Value.string s3] ++ ([Value.string s4] ++ ([Value.int .i64 x2] ++ ([Value.int .i64 x3] ++ (ints .u8 a1.toList ++ ([Value.slice A3 l2.length n3])))))))) (len_app rfl (len_app rfl (len_app rfl (len_app rfl (len_app rfl (len_app (ivl _ _) rfl rfl) rfl) rfl) rfl) rfl) rfl) (len_app rfl (len_app rfl (len_app rfl (len_app rfl (len_app rfl (len_app (ivl _ _) rfl rfl) rfl) rfl) rfl) rfl) rfl) rfl (one_app (one_sing rfl) (one_app (one_sing rfl) (one_app (one_sing rfl) (one_app (one_sing rfl) (one_app (one_sing rfl) (one_app (ints_one _ _) (one_sing rfl)))))))) ?_
    rintro w6 ⟨F10, h13⟩
    have h14 := (h10).fr F10 ⟨(Ap.symm (Src.ap' s6 (h7).lt trivial)), trivial⟩
    have h15 := (h11).fr F10 ⟨(Ap.symm (Src.ap' s6 (h8).lt trivial)), trivial⟩
    have h16 := (h12).fr F10 ⟨(Ap.symm (Src.ap' s6 (h6).lt trivial)), trivial⟩
    have F11 := Fr.step F9 F10 ⟨(In0.src s6 F8.size trivial), trivial⟩
    refine ⟨_, rfl, ?_⟩
    refine WL.batch 1 [0, 3, 4, 5] (E' := [(0, .slice Ap0 p0.length np0), (3, .slice A2 l1.length n2), (4, .pointer (some ⟨b1, 0, none⟩)), (5, .int .i64 x4)]) (by kernel_rfl) ?_
    refine WL.nil ?_
    refine W.seq ?_
    refine W.region ?_
    refine WL.batch 1 [0, 3, 4, 5, 23] (E' := [(0, .slice Ap0 p0.length np0), (3, .slice A2 l1.length n2), (4, .pointer (some ⟨b1, 0, none⟩)), (5, .int .i64 x4), (23, .slice Ap0 p0.length np0)]) (by kernel_rfl) ?_
    obtain ⟨⟨x5, s7, s8, x6, x7, a2, l3, x8⟩, q4, hm⟩ := of_bind hm
    refine WL.call rfl rfl rfl (ex_callI (args := [.slice Ap0 p0.length np0]) rfl rfl rfl Try.call14) (cauteryref21_Decode_walk k p0 Ap0 np0 _ h14  x5 s7 s8 x6 x7 a2 l3 x8 q4) ?_
    rintro _ w7 ⟨A4, n4, rfl, F12, h17, s9⟩
    have h18 := (h14).fr F12 trivial
    have h19 := (h15).fr F12 trivial
    have h20 := (h16).fr F12 trivial
    have h21 := Fr.at F12 h13 (ApL.not (x := some b1) (S := []) trivial _ rfl)
    have F13 := Fr.step F11 F12 trivial
    refine ⟨_, _, rfl, rfl, ?_⟩
    refine WL.batch 3 [0, 3, 4, 5, 25, 26] (E' := [(0, .slice Ap0 p0.length np0), (3, .slice A2 l1.length n2), (4, .pointer (some ⟨b1, 0, none⟩)), (5, .int .i64 x4), (25, .agg ([Value.int .i64 x5] ++ ([Value.string s7] ++ ([Value.string s8] ++ ([Value.int .i64 x6] ++ ([Value.int .i64 x7] ++ (ints .u8 a2.toList ++ ([Value.slice A4 l3.length n4]))))))).toArray), (26, .int .i64 x8)]) (by kernel_rfl) ?_
    refine WL.op rfl rfl rfl (ex_alloc' (z := .agg ([Value.int .i64 0] ++ ([Value.string (⟨#[]⟩ : ByteArray)] ++ ([Value.string (⟨#[]⟩ : ByteArray)] ++ ([Value.int .i64 0] ++ ([Value.int .i64 0] ++ (ints .u8 (Vector.replicate 32 (0 : Int)).toList ++ ([Value.slice none 0 0]))))))).toArray) (cs := [Value.int .i64 0] ++ ([Value.string (⟨#[]⟩ : ByteArray)] ++ ([Value.string (⟨#[]⟩ : ByteArray)] ++ ([Value.int .i64 0] ++ ([Value.int .i64 0] ++ (ints .u8 (Vector.replicate 32 (0 : Int)).toList ++ ([Value.slice none 0 0]))))))) (fun _ => by kernel_rfl) (by kernel_rfl)) ?_
    rintro _ w8 ⟨b2, rfl, N2⟩
    have h22 := N2.at_
    have s10 := Src.new [] (Ge.one N2.ge)
    have h23 := (h18).fr N2.fr trivial
    have h24 := (h19).fr N2.fr trivial
    have h25 := (h20).fr N2.fr trivial
    have h26 := Fr.at N2.fr h21 (ApL.not (x := some b1) (S := []) trivial _ rfl)
    have h27 := (h17).fr N2.fr trivial
    have F14 := Fr.step F13 N2.fr trivial
    refine ⟨_, rfl, ?_⟩
    refine WL.opS rfl rfl rfl (ex_storeObj rfl rfl Try.sizeOf32 h22 (Lens.all _ ([Value.int .i64 x5] ++ ([Value.string s7] ++ ([Value.string s8] ++ ([Value.int .i64 x6] ++ ([Value.int .i64 x7] ++ (ints .u8 a2.toList ++ ([Value.slice A4 l3.length n4])))))))) (len_app rfl (len_app rfl (len_app rfl (len_app rfl (len_app rfl (len_app (ivl _ _) rfl rfl) rfl) rfl) rfl) rfl) rfl) (len_app rfl (len_app rfl (len_app rfl (len_app rfl (len_app rfl (len_app (ivl _ _) rfl rfl) rfl) rfl) rfl) rfl) rfl) rfl (one_app (one_sing rfl) (one_app (one_sing rfl) (one_app (one_sing rfl) (one_app (one_sing rfl) (one_app (one_sing rfl) (one_app (ints_one _ _) (one_sing rfl)))))))) ?_
    rintro w9 ⟨F15, h28⟩
    have h29 := (h23).fr F15 ⟨(Ap.symm (Src.ap' s10 (h18).lt trivial)), trivial⟩
    have h30 := (h24).fr F15 ⟨(Ap.symm (Src.ap' s10 (h19).lt trivial)), trivial⟩
    have h31 := (h25).fr F15 ⟨(Ap.symm (Src.ap' s10 (h20).lt trivial)), trivial⟩
    have h32 := Fr.at F15 h26 (ApL.not (x := some b1) (S := [some b2]) ⟨(Ap.symm (Src.ap' s10 (Lt.one (at_lt h21)) trivial)), trivial⟩ _ rfl)
    have h33 := (h27).fr F15 ⟨(Ap.symm (Src.ap' s10 (h17).lt trivial)), trivial⟩
    have F16 := Fr.step F14 F15 ⟨(In0.src s10 F13.size trivial), trivial⟩
    refine ⟨_, rfl, ?_⟩
    refine WL.batch 1 [0, 3, 4, 5, 6, 7] (E' := [(0, .slice Ap0 p0.length np0), (3, .slice A2 l1.length n2), (4, .pointer (some ⟨b1, 0, none⟩)), (5, .int .i64 x4), (6, .pointer (some ⟨b2, 0, none⟩)), (7, .int .i64 x8)]) (by kernel_rfl) ?_
    refine WL.nil ?_
    obtain ⟨ex1, hm1, hm2⟩ := of_bind hm
    refine W.join1 (fun E w10 => ∃ (y2 : Bool), Env.sub E [(0, .slice Ap0 p0.length np0), (3, .slice A2 l1.length n2), (4, .pointer (some ⟨b1, 0, none⟩)), (8, .bool y2)] ∧ Rd w10 1 Ap0 p0.length np0 (ints .u8 p0) ∧ Own w10 5 1 A2 l1.length n2 (ints .u8 l1) ∧ Own w10 5 1 A3 l2.length n3 (ints .u8 l2) ∧ w10.heap[b1]? = some (.cells ([Value.int .i64 x1] ++ ([Value.string s3] ++ ([Value.string s4] ++ ([Value.int .i64 x2] ++ ([Value.int .i64 x3] ++ (ints .u8 a1.toList ++ ([Value.slice A3 l2.length n3]))))))).toArray 25 (0, 0)) ∧ Rd w10 1 A4 l3.length n4 (ints .u8 l3) ∧ w10.heap[b2]? = some (.cells ([Value.int .i64 x5] ++ ([Value.string s7] ++ ([Value.string s8] ++ ([Value.int .i64 x6] ++ ([Value.int .i64 x7] ++ (ints .u8 a2.toList ++ ([Value.slice A4 l3.length n4]))))))).toArray 32 (0, 0)) ∧ Fr [] w w10 ∧ y2 = ex1) ?_ (fun rest1 => ?_)
    · rintro _ w10 ⟨y2, hE, h34, h35, h36, h37, h38, h39, F17, rfl⟩
      replace hm := hm2
      clear hm1
      refine W.sub ?_ hE
      refine W.seq ?_
      refine W.seq ?_
      refine W.region ?_
      refine WL.batch 1 [0, 3, 4, 8, 9] (E' := [(0, .slice Ap0 p0.length np0), (3, .slice A2 l1.length n2), (4, .pointer (some ⟨b1, 0, none⟩)), (8, .bool y2), (9, .int .i64 0)]) (by kernel_rfl) ?_
      refine WL.nil ?_
      obtain ⟨ex2, hm3, hm4⟩ := of_bind hm
      refine W.joinN (fun E w11 => ∃ (l4 : List Int), Env.sub E [(0, .slice Ap0 p0.length np0), (3, .slice A2 l1.length n2), (8, .bool y2)] ∧ Rd w11 1 Ap0 p0.length np0 (ints .u8 p0) ∧ Own w11 5 1 A2 l1.length n2 (ints .u8 l1) ∧ Own w11 5 1 A3 l4.length n3 (ints .u8 l4) ∧ w11.heap[b1]? = some (.cells ([Value.int .i64 x1] ++ ([Value.string s3] ++ ([Value.string s4] ++ ([Value.int .i64 x2] ++ ([Value.int .i64 x3] ++ (ints .u8 a1.toList ++ ([Value.slice A3 l4.length n3]))))))).toArray 25 (0, 0)) ∧ Rd w11 1 A4 l3.length n4 (ints .u8 l3) ∧ w11.heap[b2]? = some (.cells ([Value.int .i64 x5] ++ ([Value.string s7] ++ ([Value.string s8] ++ ([Value.int .i64 x6] ++ ([Value.int .i64 x7] ++ (ints .u8 a2.toList ++ ([Value.slice A4 l3.length n4]))))))).toArray 32 (0, 0)) ∧ Fr [] w w11 ∧ l4 = ex2) ?_ (fun rest2 => ?_)
      · rintro _ w11 ⟨l4, hE, h40, h41, h42, h43, h44, h45, F18, rfl⟩
        replace hm := hm4
        clear hm3
        refine W.sub ?_ hE
        refine W.seq ?_
        refine W.region ?_
        obtain ⟨y3, q5, hm⟩ := of_bind hm
        refine WL.call rfl rfl rfl (ex_callI (args := []) rfl rfl rfl Try.call7) (cauterylaw21_alive_walk k   _   y3 q5) ?_
        rintro _ w12 ⟨rfl, F19⟩
        have h46 := (h40).fr F19 trivial
        have h47 := (h41).fr F19 trivial
        have h48 := (h42).fr F19 trivial
        have h49 := Fr.at F19 h43 (ApL.not (x := some b1) (S := []) trivial _ rfl)
        have h50 := (h44).fr F19 trivial
        have h51 := Fr.at F19 h45 (ApL.not (x := some b2) (S := []) trivial _ rfl)
        have F20 := Fr.step F18 F19 trivial
        refine ⟨_, _, rfl, rfl, ?_⟩
        refine WL.batch 1 [0, 3, 8, 48] (E' := [(0, .slice Ap0 p0.length np0), (3, .slice A2 l1.length n2), (8, .bool y2), (48, .bool y3)]) (by kernel_rfl) ?_
        rcases of_cond hm with ⟨c3, hm⟩ | ⟨c3, hm⟩
        · rw [c3]
          refine WL.batch 3 [0, 3, 51] (E' := [(0, .slice Ap0 p0.length np0), (3, .slice A2 l1.length n2), (51, .bool y2)]) (by kernel_rfl) ?_
          rcases of_cond hm with ⟨c4, hm⟩ | ⟨c4, hm⟩
          · rw [c4]
            refine WL.batch 1 [0, 51, 52] (E' := [(0, .slice Ap0 p0.length np0), (51, .bool true), (52, .slice A2 l1.length n2)]) (by kernel_rfl) ?_
            refine WL.value (.string (strOf l1)) rfl rfl rfl (ex_bytesStr Try.underlying23 Try.underlying9 Try.underlying5 rfl (h47).rd) rfl ?_
            obtain ⟨s11, q6, hm⟩ := of_let hm
            rw [q6]
            refine WL.batch 1 [51, 53, 54] (E' := [(51, .bool true), (53, .string s11), (54, .slice Ap0 p0.length np0)]) (by kernel_rfl) ?_
            refine WL.value (.string (strOf p0)) rfl rfl rfl (ex_bytesStr Try.underlying23 Try.underlying9 Try.underlying5 rfl h46) rfl ?_
            obtain ⟨s12, q7, hm⟩ := of_let hm
            rw [q7]
            refine WL.batch 3 [2] (E' := [(2, .bool (s11.toList == s12.toList))]) (by kernel_rfl) ?_
            refine WL.nil ?_
            refine W.ret ?_
            obtain rfl := Option.some.inj hm
            exact ⟨_, ⟨_, _, rfl, rfl, rfl⟩, ⟨rfl, F20⟩⟩
          · rw [c4]
            refine WL.batch 7 [2] (E' := [(2, .bool false)]) (by kernel_rfl) ?_
            refine WL.nil ?_
            refine W.ret ?_
            obtain rfl := Option.some.inj hm
            exact ⟨_, ⟨_, _, rfl, rfl, rfl⟩, ⟨rfl, F20⟩⟩
        · rw [c3]
          refine WL.batch 10 [2] (E' := [(2, .bool false)]) (by kernel_rfl) ?_
          refine WL.nil ?_
          refine W.ret ?_
          obtain rfl := Option.some.inj hm
          exact ⟨_, ⟨_, _, rfl, rfl, rfl⟩, ⟨rfl, F20⟩⟩
      · replace hm := hm3
        clear hm3
        refine W.block ?_
        refine W.loop (fun j1 E w13 => ∃ (x9 : Int) (l5 : List Int), Env.sub E [(0, .slice Ap0 p0.length np0), (3, .slice A2 l1.length n2), (4, .pointer (some ⟨b1, 0, none⟩)), (8, .bool y2), (9, .int .i64 x9)] ∧ Rd w13 1 Ap0 p0.length np0 (ints .u8 p0) ∧ Own w13 5 1 A2 l1.length n2 (ints .u8 l1) ∧ Own w13 5 1 A3 l5.length n3 (ints .u8 l5) ∧ w13.heap[b1]? = some (.cells ([Value.int .i64 x1] ++ ([Value.string s3] ++ ([Value.string s4] ++ ([Value.int .i64 x2] ++ ([Value.int .i64 x3] ++ (ints .u8 a1.toList ++ ([Value.slice A3 l5.length n3]))))))).toArray 25 (0, 0)) ∧ Rd w13 1 A4 l3.length n4 (ints .u8 l3) ∧ w13.heap[b2]? = some (.cells ([Value.int .i64 x5] ++ ([Value.string s7] ++ ([Value.string s8] ++ ([Value.int .i64 x6] ++ ([Value.int .i64 x7] ++ (ints .u8 a2.toList ++ ([Value.slice A4 l3.length n4]))))))).toArray 32 (0, 0)) ∧ Fr [] w w13 ∧ cauterylaw21_BisectDecode.l0  j1 x9 l5 = some ex2) ?_ k ?_ ?_
        · rintro _ _ ⟨_, _, _, _, _, _, _, _, _, _, hz⟩
          exact absurd hz (by simp [cauterylaw21_BisectDecode.l0])
        · exact ⟨0, l2, ⟨rfl, rfl, rfl, rfl, rfl, trivial⟩, h34, h35, h36, h37, h38, h39, F17, hm⟩
        · rintro j1 _ w13 ⟨x9, l5, hE, h52, h53, h54, h55, h56, h57, F21, hm⟩
          rw [cauterylaw21_BisectDecode.l0] at hm
          refine W.sub ?_ hE
          refine W.seq ?_
          refine W.seq ?_
          refine W.region ?_
          refine WL.batch 2 [0, 3, 4, 8, 9, 36, 37] (E' := [(0, .slice Ap0 p0.length np0), (3, .slice A2 l1.length n2), (4, .pointer (some ⟨b1, 0, none⟩)), (8, .bool y2), (9, .int .i64 x9), (36, .int .i64 x9), (37, .pointer (some ⟨b1, 37, none⟩))]) (by kernel_rfl) ?_
          refine WL.value (.slice A3 l5.length n3) rfl rfl rfl (ex_loadOne Try.underlying23 rfl rfl h55 (Lens.skip rfl (Lens.skip rfl (Lens.skip rfl (Lens.skip rfl (Lens.skip rfl (Lens.skip (ivl _ _) (Lens.all _ ([Value.slice A3 l5.length n3])) rfl) rfl) rfl) rfl) rfl) rfl)) rfl ?_
          refine WL.batch 2 [0, 3, 4, 8, 9, 40] (E' := [(0, .slice Ap0 p0.length np0), (3, .slice A2 l1.length n2), (4, .pointer (some ⟨b1, 0, none⟩)), (8, .bool y2), (9, .int .i64 x9), (40, .bool (decide (x9 < ((l5.length : Int) : Int))))]) (by kernel_rfl) ?_
          refine WL.nil ?_
          rcases of_cond hm with ⟨c5, hm⟩ | ⟨c5, hm⟩
          · refine W.condT _ rfl c5 ?_
            refine W.skip ?_
            refine W.seq ?_
            refine W.block ?_
            refine W.region ?_
            refine WL.batch 1 [0, 3, 4, 8, 9, 43] (E' := [(0, .slice Ap0 p0.length np0), (3, .slice A2 l1.length n2), (4, .pointer (some ⟨b1, 0, none⟩)), (8, .bool y2), (9, .int .i64 x9), (43, .pointer (some ⟨b1, 37, none⟩))]) (by kernel_rfl) ?_
            refine WL.value (.slice A3 l5.length n3) rfl rfl rfl (ex_loadOne Try.underlying23 rfl rfl h55 (Lens.skip rfl (Lens.skip rfl (Lens.skip rfl (Lens.skip rfl (Lens.skip rfl (Lens.skip (ivl _ _) (Lens.all _ ([Value.slice A3 l5.length n3])) rfl) rfl) rfl) rfl) rfl) rfl)) rfl ?_
            refine WL.batch 1 [0, 3, 4, 8, 9, 44, 45] (E' := [(0, .slice Ap0 p0.length np0), (3, .slice A2 l1.length n2), (4, .pointer (some ⟨b1, 0, none⟩)), (8, .bool y2), (9, .int .i64 x9), (44, .slice A3 l5.length n3), (45, .int .i64 x9)]) (by kernel_rfl) ?_
            obtain ⟨⟨c6, c7⟩, hm⟩ := of_guard hm
            obtain ⟨b3, q8⟩ := Own.place h54 (by omega)
            refine WL.value (.pointer (some ⟨b3, 0 + Int.toNat x9 * 1, none⟩)) rfl rfl rfl (ex_indexAddr Try.underlying23 Try.sizeOf5 rfl q8 rfl c6 c7) rfl ?_
            obtain ⟨l6, q9, hm⟩ := of_let hm
            refine WL.opS rfl rfl rfl (ex_storeElI rfl rfl Try.sizeOf5 q8 h54 c6 c7 q9) ?_
            rintro w14 ⟨F22, h58⟩
            have h59 := (h52).fr F22 ⟨(Ap.symm (Src.ap' s5 (h5).lt trivial)), trivial⟩
            have h60 := (h53).fr F22 ⟨(Ap.symm (Src.ap' s5 (h4).lt trivial)), trivial⟩
            have h61 := Fr.at F22 h55 (ApL.not (x := some b1) (S := [ablk A3]) ⟨(Src.ap' s6 (h6).lt trivial), trivial⟩ _ rfl)
            have h62 := (h56).fr F22 ⟨(Src.ap' s9 (h16).lt ⟨(Ap.symm (Src.ap' s5 (h5).lt trivial)), trivial⟩), trivial⟩
            have h63 := Fr.at F22 h57 (ApL.not (x := some b2) (S := [ablk A3]) ⟨(Src.ap' s10 (h20).lt trivial), trivial⟩ _ rfl)
            have F23 := Fr.step F21 F22 ⟨(In0.src s5 F6.size trivial), trivial⟩
            refine ⟨_, rfl, ?_⟩
            have e7 : l5.length = l6.length := lset_len q9
            refine WL.env (by first | rw [e7] | rfl) ?_
            rw [e7] at h61
            refine WL.nil ?_
            refine W.region ?_
            refine WL.batch 3 [0, 3, 4, 8, 9] (E' := [(0, .slice Ap0 p0.length np0), (3, .slice A2 l1.length n2), (4, .pointer (some ⟨b1, 0, none⟩)), (8, .bool y2), (9, .int .i64 (wadd .i64 x9 1))]) (by kernel_rfl) ?_
            obtain ⟨x10, q10, hm⟩ := of_let hm
            rw [q10]
            refine WL.nil ?_
            exact ⟨x10, l6, ⟨rfl, rfl, rfl, rfl, rfl, trivial⟩, h59, h60, h58, h61, h62, h63, F23, hm⟩
          · refine W.condF _ rfl c5 ?_
            refine W.exit ?_
            exact rest2 _ _ ⟨l5, ⟨rfl, rfl, rfl, trivial⟩, h52, h53, h54, h55, h56, h57, F21, (Option.some.inj hm)⟩
    · replace hm := hm1
      clear hm1
      refine W.seq ?_
      refine W.regionDw (N := 10) Try_mixed rfl ?_
      intro w15 F24
      have h64 := (h29).fr F24 trivial
      have h65 := (h30).fr F24 trivial
      have h66 := (h31).fr F24 trivial
      have h67 := Fr.at F24 h32 (ApL.not (x := some b1) (S := []) trivial _ rfl)
      have h68 := (h33).fr F24 trivial
      have h69 := Fr.at F24 h28 (ApL.not (x := some b2) (S := []) trivial _ rfl)
      have F25 := Fr.step F16 F24 trivial
      refine WD.load 0 [1, 3] [1, 3, 4, 5, 6, 7, 8, 9] (.agg ([Value.int .i64 x1] ++ ([Value.string s3] ++ ([Value.string s4] ++ ([Value.int .i64 x2] ++ ([Value.int .i64 x3] ++ (ints .u8 a1.toList ++ ([Value.slice A3 l2.length n3]))))))).toArray) rfl (by kernel_rfl) rfl rfl rfl (ex_loadAgg Try.underlying25 rfl Try.sizeOf25 (len_app rfl (len_app rfl (len_app rfl (len_app rfl (len_app rfl (len_app (ivl _ _) rfl rfl) rfl) rfl) rfl) rfl) rfl) rfl h67 (Lens.all _ ([Value.int .i64 x1] ++ ([Value.string s3] ++ ([Value.string s4] ++ ([Value.int .i64 x2] ++ ([Value.int .i64 x3] ++ (ints .u8 a1.toList ++ ([Value.slice A3 l2.length n3]))))))))) ?_
      refine WD.load 2 [3] [3, 4, 5, 6, 7, 8, 9] (.agg ([Value.int .i64 x5] ++ ([Value.string s7] ++ ([Value.string s8] ++ ([Value.int .i64 x6] ++ ([Value.int .i64 x7] ++ (ints .u8 a2.toList ++ ([Value.slice A4 l3.length n4]))))))).toArray) rfl (by kernel_rfl) rfl rfl rfl (ex_loadAgg Try.underlying32 rfl Try.sizeOf32 (len_app rfl (len_app rfl (len_app rfl (len_app rfl (len_app rfl (len_app (ivl _ _) rfl rfl) rfl) rfl) rfl) rfl) rfl) rfl h69 (Lens.all _ ([Value.int .i64 x5] ++ ([Value.string s7] ++ ([Value.string s8] ++ ([Value.int .i64 x6] ++ ([Value.int .i64 x7] ++ (ints .u8 a2.toList ++ ([Value.slice A4 l3.length n4]))))))))) ?_
      obtain ⟨⟨x11, s13, s14, x12, x13, a3, l7⟩, q11, hm⟩ := of_bind hm
      refine WD.call 1 (by kernel_rfl) rfl rfl rfl rfl (ex_callI (args := [.agg ([Value.int .i64 x1] ++ ([Value.string s3] ++ ([Value.string s4] ++ ([Value.int .i64 x2] ++ ([Value.int .i64 x3] ++ (ints .u8 a1.toList ++ ([Value.slice A3 l2.length n3]))))))).toArray]) rfl rfl rfl Try.call10) (cauterylaw21_plain_walk x1 s3 s4 x2 x3 a1 l2 A3 n3 _ (h66).rd  x11 s13 s14 x12 x13 a3 l7 q11) ?_
      rintro _ w16 ⟨A5, n5, rfl, F26, h70, s15⟩
      have s16 := Src.trans' s15 (Nat.le_refl _) (l' := [ablk A3]) ⟨Src.rblk (Src.self (by simp)), trivial⟩
      have h71 := (h64).fr F26 trivial
      have h72 := (h65).fr F26 trivial
      have h73 := (h66).fr F26 trivial
      have h74 := Fr.at F26 h67 (ApL.not (x := some b1) (S := []) trivial _ rfl)
      have h75 := (h68).fr F26 trivial
      have h76 := Fr.at F26 h69 (ApL.not (x := some b2) (S := []) trivial _ rfl)
      have F27 := Fr.step F25 F26 trivial
      refine ⟨_, _, rfl, rfl, ⟨(ex_loadAgg Try.underlying32 rfl Try.sizeOf32 (len_app rfl (len_app rfl (len_app rfl (len_app rfl (len_app rfl (len_app (ivl _ _) rfl rfl) rfl) rfl) rfl) rfl) rfl) rfl h76 (Lens.all _ ([Value.int .i64 x5] ++ ([Value.string s7] ++ ([Value.string s8] ++ ([Value.int .i64 x6] ++ ([Value.int .i64 x7] ++ (ints .u8 a2.toList ++ ([Value.slice A4 l3.length n4]))))))))), trivial⟩, ?_⟩
      obtain ⟨y4, q12, hm⟩ := of_bind hm
      refine WD.call 3 (by kernel_rfl) rfl rfl rfl rfl (ex_callI (args := [.agg ([Value.int .i64 x11] ++ ([Value.string s13] ++ ([Value.string s14] ++ ([Value.int .i64 x12] ++ ([Value.int .i64 x13] ++ (ints .u8 a3.toList ++ ([Value.slice A5 l7.length n5]))))))).toArray, .agg ([Value.int .i64 x5] ++ ([Value.string s7] ++ ([Value.string s8] ++ ([Value.int .i64 x6] ++ ([Value.int .i64 x7] ++ (ints .u8 a2.toList ++ ([Value.slice A4 l3.length n4]))))))).toArray]) rfl rfl rfl Try.call15) (cauteryref21_Same_walk x11 s13 s14 x12 x13 a3 l7 x5 s7 s8 x6 x7 a2 l3 A5 n5 A4 n4 _ h70 h75  y4 q12) ?_
      rintro _ w17 ⟨rfl, F28⟩
      have h77 := (h71).fr F28 trivial
      have h78 := (h72).fr F28 trivial
      have h79 := (h73).fr F28 trivial
      have h80 := Fr.at F28 h74 (ApL.not (x := some b1) (S := []) trivial _ rfl)
      have h81 := (h75).fr F28 trivial
      have h82 := Fr.at F28 h76 (ApL.not (x := some b2) (S := []) trivial _ rfl)
      have h83 := (h70).fr F28 trivial
      have F29 := Fr.step F27 F28 trivial
      refine ⟨_, _, rfl, rfl, trivial, ?_⟩
      refine WD.batch (f' := 5) [4] #[true, true, true, true, true, false, false, false, false, false] [0, 3, 4, 5, 7, 31] rfl (E' := [(0, .slice Ap0 p0.length np0), (3, .slice A2 l1.length n2), (4, .pointer (some ⟨b1, 0, none⟩)), (5, .int .i64 x4), (7, .int .i64 x8), (31, .bool y4)]) (by kernel_rfl) ?_
      rcases of_cond hm with ⟨c8, hm⟩ | ⟨c8, hm⟩
      · rw [c8]
        refine WD.batch (f' := 0) [5, 6, 7, 8, 9] #[true, true, true, true, true, true, true, true, true, true] [0, 3, 4, 8] rfl (E' := [(0, .slice Ap0 p0.length np0), (3, .slice A2 l1.length n2), (4, .pointer (some ⟨b1, 0, none⟩)), (8, .bool (x4 == (x8 : Int)))]) (by kernel_rfl) ?_
        refine WD.end_ (by kernel_rfl) ?_
        exact rest1 _ _ ⟨(x4 == (x8 : Int)), ⟨rfl, rfl, rfl, rfl, trivial⟩, h77, h78, h79, h80, h81, h82, F29, (Option.some.inj hm)⟩
      · rw [c8]
        refine WD.batch (f' := 0) [5, 6, 7, 8, 9] #[true, true, true, true, true, true, true, true, true, true] [0, 3, 4, 8] rfl (E' := [(0, .slice Ap0 p0.length np0), (3, .slice A2 l1.length n2), (4, .pointer (some ⟨b1, 0, none⟩)), (8, .bool false)]) (by kernel_rfl) ?_
        refine WD.end_ (by kernel_rfl) ?_
        exact rest1 _ _ ⟨false, ⟨rfl, rfl, rfl, rfl, trivial⟩, h77, h78, h79, h80, h81, h82, F29, (Option.some.inj hm)⟩

/- cautery/cauterylaw21.BisectBack -/
theorem cauterylaw21_BisectBack_walk (k : Nat) (p0_0 : Int) (p0_1 : ByteArray) (p0_2 : ByteArray) (p0_3 : Int) (p0_4 : Int) (p0_5 : Vector Int 32) (p0_6 : List Int) (p1 : List Int) (Ap0_6 : Option Addr) (np0_6 : Nat) (Ap1 : Option Addr) (np1 : Nat) (w : World) (hp0_6 : Rd w 1 Ap0_6 p0_6.length np0_6 (ints .u8 p0_6)) (hp1 : Rd w 1 Ap1 p1.length np1 (ints .u8 p1)) (r0 : Bool) (hm : cauterylaw21_BisectBack.f k p0_0 p0_1 p0_2 p0_3 p0_4 p0_5 p0_6 p1 = some r0) :
    Calls Try.prog 5 #[.agg ([Value.int .i64 p0_0] ++ ([Value.string p0_1] ++ ([Value.string p0_2] ++ ([Value.int .i64 p0_3] ++ ([Value.int .i64 p0_4] ++ (ints .u8 p0_5.toList ++ ([Value.slice Ap0_6 p0_6.length np0_6]))))))).toArray, .slice Ap1 p1.length np1] w fun e w' => e = .returned (.bool r0) ∧ Fr [] w w' := by
  have F0 := Fr.refl [] w
  unfold cauterylaw21_BisectBack.f at hm
  refine W.enter (args := [.agg ([Value.int .i64 p0_0] ++ ([Value.string p0_1] ++ ([Value.string p0_2] ++ ([Value.int .i64 p0_3] ++ ([Value.int .i64 p0_4] ++ (ints .u8 p0_5.toList ++ ([Value.slice Ap0_6 p0_6.length np0_6]))))))).toArray, .slice Ap1 p1.length np1]) Try.func5 rfl (n := 78) rfl rfl ?_
  refine W.seq ?_
  refine W.region ?_
  refine WL.op rfl rfl rfl (ex_box' (cs := [Value.int .i64 p0_0] ++ ([Value.string p0_1] ++ ([Value.string p0_2] ++ ([Value.int .i64 p0_3] ++ ([Value.int .i64 p0_4] ++ (ints .u8 p0_5.toList ++ ([Value.slice Ap0_6 p0_6.length np0_6]))))))) rfl rfl) ?_
  rintro _ w1 ⟨b1, rfl, N1⟩
  have h1 := N1.at_
  have s1 := Src.new [] (Ge.one N1.ge)
  have h2 := (hp0_6).fr N1.fr trivial
  have h3 := (hp1).fr N1.fr trivial
  have F1 := Fr.step F0 N1.fr trivial
  refine ⟨_, rfl, ?_⟩
  refine WL.batch 1 [1, 2] (E' := [(1, .slice Ap1 p1.length np1), (2, .pointer (some ⟨b1, 0, none⟩))]) (by kernel_rfl) ?_
  refine WL.nil ?_
  refine W.seq ?_
  obtain ⟨ex1, hm1, hm2⟩ := of_bind hm
  refine W.joinN (fun E w2 => Env.sub E [(1, .slice Ap1 p1.length np1), (2, .pointer (some ⟨b1, 0, none⟩))] ∧ Rd w2 1 Ap0_6 p0_6.length np0_6 (ints .u8 p0_6) ∧ Rd w2 1 Ap1 p1.length np1 (ints .u8 p1) ∧ w2.heap[b1]? = some (.cells ([Value.int .i64 p0_0] ++ ([Value.string p0_1] ++ ([Value.string p0_2] ++ ([Value.int .i64 p0_3] ++ ([Value.int .i64 p0_4] ++ (ints .u8 p0_5.toList ++ ([Value.slice Ap0_6 p0_6.length np0_6]))))))).toArray 25 (0, 0)) ∧ Fr [] w w2 ∧ Ex.go () = ex1) ?_ (fun rest1 => ?_)
  · rintro _ w2 ⟨hE, h4, h5, h6, F2, rfl⟩
    replace hm := hm2
    clear hm1
    refine W.sub ?_ hE
    refine W.seq ?_
    refine W.region ?_
    refine WL.value (.agg ([Value.int .i64 p0_0] ++ ([Value.string p0_1] ++ ([Value.string p0_2] ++ ([Value.int .i64 p0_3] ++ ([Value.int .i64 p0_4] ++ (ints .u8 p0_5.toList ++ ([Value.slice Ap0_6 p0_6.length np0_6]))))))).toArray) rfl rfl rfl (ex_loadAgg Try.underlying25 rfl Try.sizeOf25 (len_app rfl (len_app rfl (len_app rfl (len_app rfl (len_app rfl (len_app (ivl _ _) rfl rfl) rfl) rfl) rfl) rfl) rfl) rfl h6 (Lens.all _ ([Value.int .i64 p0_0] ++ ([Value.string p0_1] ++ ([Value.string p0_2] ++ ([Value.int .i64 p0_3] ++ ([Value.int .i64 p0_4] ++ (ints .u8 p0_5.toList ++ ([Value.slice Ap0_6 p0_6.length np0_6]))))))))) rfl ?_
    obtain ⟨⟨l1, x1⟩, q1, hm⟩ := of_bind hm
    refine WL.call rfl rfl rfl (ex_callI (args := [.agg ([Value.int .i64 p0_0] ++ ([Value.string p0_1] ++ ([Value.string p0_2] ++ ([Value.int .i64 p0_3] ++ ([Value.int .i64 p0_4] ++ (ints .u8 p0_5.toList ++ ([Value.slice Ap0_6 p0_6.length np0_6]))))))).toArray]) rfl rfl rfl Try.call8) (bisect_Encode_walk k p0_0 p0_1 p0_2 p0_3 p0_4 p0_5 p0_6 Ap0_6 np0_6 _ h4  l1 x1 q1) ?_
    rintro _ w3 ⟨A1, n1, rfl, F3, h7, s2⟩
    have h8 := (h4).fr F3 trivial
    have h9 := (h5).fr F3 trivial
    have h10 := Fr.at F3 h6 (ApL.not (x := some b1) (S := []) trivial _ rfl)
    have F4 := Fr.step F2 F3 trivial
    refine ⟨_, _, rfl, rfl, ?_⟩
    refine WL.batch 5 [1, 2, 5, 6] (E' := [(1, .slice Ap1 p1.length np1), (2, .pointer (some ⟨b1, 0, none⟩)), (5, .slice A1 l1.length n1), (6, .int .i64 x1)]) (by kernel_rfl) ?_
    refine WL.nil ?_
    refine W.seq ?_
    refine W.region ?_
    refine WL.batch 1 [1, 2, 6, 28] (E' := [(1, .slice Ap1 p1.length np1), (2, .pointer (some ⟨b1, 0, none⟩)), (6, .int .i64 x1), (28, .slice A1 l1.length n1)]) (by kernel_rfl) ?_
    obtain ⟨⟨x2, s3, s4, x3, x4, a1, l2, x5⟩, q2, hm⟩ := of_bind hm
    refine WL.call rfl rfl rfl (ex_callI (args := [.slice A1 l1.length n1]) rfl rfl rfl Try.call13) (bisect_Decode_walk k l1 A1 n1 _ (h7).rd  x2 s3 s4 x3 x4 a1 l2 x5 q2) ?_
    rintro _ w4 ⟨A2, n2, rfl, F5, h11, s5⟩
    have h12 := (h8).fr F5 trivial
    have h13 := (h9).fr F5 trivial
    have h14 := Fr.at F5 h10 (ApL.not (x := some b1) (S := []) trivial _ rfl)
    have h15 := (h7).fr F5 trivial
    have F6 := Fr.step F4 F5 trivial
    refine ⟨_, _, rfl, rfl, ?_⟩
    refine WL.batch 3 [1, 2, 6, 30, 31] (E' := [(1, .slice Ap1 p1.length np1), (2, .pointer (some ⟨b1, 0, none⟩)), (6, .int .i64 x1), (30, .agg ([Value.int .i64 x2] ++ ([Value.string s3] ++ ([Value.string s4] ++ ([Value.int .i64 x3] ++ ([Value.int .i64 x4] ++ (ints .u8 a1.toList ++ ([Value.slice A2 l2.length n2]))))))).toArray), (31, .int .i64 x5)]) (by kernel_rfl) ?_
    refine WL.op rfl rfl rfl (ex_alloc' (z := .agg ([Value.int .i64 0] ++ ([Value.string (⟨#[]⟩ : ByteArray)] ++ ([Value.string (⟨#[]⟩ : ByteArray)] ++ ([Value.int .i64 0] ++ ([Value.int .i64 0] ++ (ints .u8 (Vector.replicate 32 (0 : Int)).toList ++ ([Value.slice none 0 0]))))))).toArray) (cs := [Value.int .i64 0] ++ ([Value.string (⟨#[]⟩ : ByteArray)] ++ ([Value.string (⟨#[]⟩ : ByteArray)] ++ ([Value.int .i64 0] ++ ([Value.int .i64 0] ++ (ints .u8 (Vector.replicate 32 (0 : Int)).toList ++ ([Value.slice none 0 0]))))))) (fun _ => by kernel_rfl) (by kernel_rfl)) ?_
    rintro _ w5 ⟨b2, rfl, N2⟩
    have h16 := N2.at_
    have s6 := Src.new [] (Ge.one N2.ge)
    have h17 := (h12).fr N2.fr trivial
    have h18 := (h13).fr N2.fr trivial
    have h19 := Fr.at N2.fr h14 (ApL.not (x := some b1) (S := []) trivial _ rfl)
    have h20 := (h15).fr N2.fr trivial
    have h21 := (h11).fr N2.fr trivial
    have F7 := Fr.step F6 N2.fr trivial
    refine ⟨_, rfl, ?_⟩
    refine WL.opS rfl rfl rfl (ex_storeObj rfl rfl Try.sizeOf25 h16 (Lens.all _ ([Value.int .i64 x2] ++ ([Value.string s3] ++ ([Value.string s4] ++ ([Value.int .i64 x3] ++ ([Value.int .i64 x4] ++ (ints .u8 a1.toList ++ ([Value.slice A2 l2.length n2])))))))) (len_app rfl (len_app rfl (len_app rfl (len_app rfl (len_app rfl (len_app (ivl _ _) rfl rfl) rfl) rfl) rfl) rfl) rfl) (len_app rfl (len_app rfl (len_app rfl (len_app rfl (len_app rfl (len_app (ivl _ _) rfl rfl) rfl) rfl) rfl) rfl) rfl) rfl (one_app (one_sing rfl) (one_app (one_sing rfl) (one_app (one_sing rfl) (one_app (one_sing rfl) (one_app (one_sing rfl) (one_app (ints_one _ _) (one_sing rfl)))))))) ?_
    rintro w6 ⟨F8, h22⟩
    have h23 := (h17).fr F8 ⟨(Ap.symm (Src.ap' s6 (h12).lt trivial)), trivial⟩
    have h24 := (h18).fr F8 ⟨(Ap.symm (Src.ap' s6 (h13).lt trivial)), trivial⟩
    have h25 := Fr.at F8 h19 (ApL.not (x := some b1) (S := [some b2]) ⟨(Ap.symm (Src.ap' s6 (Lt.one (at_lt h14)) trivial)), trivial⟩ _ rfl)
    have h26 := (h20).fr F8 ⟨(Ap.symm (Src.ap' s6 (h15).lt trivial)), trivial⟩
    have h27 := (h21).fr F8 ⟨(Ap.symm (Src.ap' s6 (h11).lt trivial)), trivial⟩
    have F9 := Fr.step F7 F8 ⟨(In0.src s6 F6.size trivial), trivial⟩
    refine ⟨_, rfl, ?_⟩
    refine WL.batch 1 [1, 2, 6, 7, 8] (E' := [(1, .slice Ap1 p1.length np1), (2, .pointer (some ⟨b1, 0, none⟩)), (6, .int .i64 x1), (7, .pointer (some ⟨b2, 0, none⟩)), (8, .int .i64 x5)]) (by kernel_rfl) ?_
    refine WL.nil ?_
    refine W.seq ?_
    obtain ⟨ex2, hm3, hm4⟩ := of_bind hm
    refine W.joinN (fun E w7 => Env.sub E [(1, .slice Ap1 p1.length np1)] ∧ Rd w7 1 Ap0_6 p0_6.length np0_6 (ints .u8 p0_6) ∧ Rd w7 1 Ap1 p1.length np1 (ints .u8 p1) ∧ w7.heap[b1]? = some (.cells ([Value.int .i64 p0_0] ++ ([Value.string p0_1] ++ ([Value.string p0_2] ++ ([Value.int .i64 p0_3] ++ ([Value.int .i64 p0_4] ++ (ints .u8 p0_5.toList ++ ([Value.slice Ap0_6 p0_6.length np0_6]))))))).toArray 25 (0, 0)) ∧ Own w7 5 1 A1 l1.length n1 (ints .u8 l1) ∧ Own w7 5 1 A2 l2.length n2 (ints .u8 l2) ∧ w7.heap[b2]? = some (.cells ([Value.int .i64 x2] ++ ([Value.string s3] ++ ([Value.string s4] ++ ([Value.int .i64 x3] ++ ([Value.int .i64 x4] ++ (ints .u8 a1.toList ++ ([Value.slice A2 l2.length n2]))))))).toArray 25 (0, 0)) ∧ Fr [] w w7 ∧ Ex.go () = ex2) ?_ (fun rest2 => ?_)
    · rintro _ w7 ⟨hE, h28, h29, h30, h31, h32, h33, F10, rfl⟩
      replace hm := hm4
      clear hm3
      refine W.sub ?_ hE
      refine W.seq ?_
      refine W.region ?_
      refine WL.batch 1 [1, 54] (E' := [(1, .slice Ap1 p1.length np1), (54, .slice Ap1 p1.length np1)]) (by kernel_rfl) ?_
      obtain ⟨⟨x6, s7, s8, x7, x8, a2, l3, x9⟩, q3, hm⟩ := of_bind hm
      refine WL.call rfl rfl rfl (ex_callI (args := [.slice Ap1 p1.length np1]) rfl rfl rfl Try.call13) (bisect_Decode_walk k p1 Ap1 np1 _ h29  x6 s7 s8 x7 x8 a2 l3 x9 q3) ?_
      rintro _ w8 ⟨A3, n3, rfl, F11, h34, s9⟩
      have h35 := (h28).fr F11 trivial
      have h36 := (h29).fr F11 trivial
      have h37 := Fr.at F11 h30 (ApL.not (x := some b1) (S := []) trivial _ rfl)
      have h38 := (h31).fr F11 trivial
      have h39 := (h32).fr F11 trivial
      have h40 := Fr.at F11 h33 (ApL.not (x := some b2) (S := []) trivial _ rfl)
      have F12 := Fr.step F10 F11 trivial
      refine ⟨_, _, rfl, rfl, ?_⟩
      refine WL.batch 3 [1, 56, 57] (E' := [(1, .slice Ap1 p1.length np1), (56, .agg ([Value.int .i64 x6] ++ ([Value.string s7] ++ ([Value.string s8] ++ ([Value.int .i64 x7] ++ ([Value.int .i64 x8] ++ (ints .u8 a2.toList ++ ([Value.slice A3 l3.length n3]))))))).toArray), (57, .int .i64 x9)]) (by kernel_rfl) ?_
      refine WL.op rfl rfl rfl (ex_alloc' (z := .agg ([Value.int .i64 0] ++ ([Value.string (⟨#[]⟩ : ByteArray)] ++ ([Value.string (⟨#[]⟩ : ByteArray)] ++ ([Value.int .i64 0] ++ ([Value.int .i64 0] ++ (ints .u8 (Vector.replicate 32 (0 : Int)).toList ++ ([Value.slice none 0 0]))))))).toArray) (cs := [Value.int .i64 0] ++ ([Value.string (⟨#[]⟩ : ByteArray)] ++ ([Value.string (⟨#[]⟩ : ByteArray)] ++ ([Value.int .i64 0] ++ ([Value.int .i64 0] ++ (ints .u8 (Vector.replicate 32 (0 : Int)).toList ++ ([Value.slice none 0 0]))))))) (fun _ => by kernel_rfl) (by kernel_rfl)) ?_
      rintro _ w9 ⟨b3, rfl, N3⟩
      have h41 := N3.at_
      have s10 := Src.new [] (Ge.one N3.ge)
      have h42 := (h35).fr N3.fr trivial
      have h43 := (h36).fr N3.fr trivial
      have h44 := Fr.at N3.fr h37 (ApL.not (x := some b1) (S := []) trivial _ rfl)
      have h45 := (h38).fr N3.fr trivial
      have h46 := (h39).fr N3.fr trivial
      have h47 := Fr.at N3.fr h40 (ApL.not (x := some b2) (S := []) trivial _ rfl)
      have h48 := (h34).fr N3.fr trivial
      have F13 := Fr.step F12 N3.fr trivial
      refine ⟨_, rfl, ?_⟩
      refine WL.opS rfl rfl rfl (ex_storeObj rfl rfl Try.sizeOf25 h41 (Lens.all _ ([Value.int .i64 x6] ++ ([Value.string s7] ++ ([Value.string s8] ++ ([Value.int .i64 x7] ++ ([Value.int .i64 x8] ++ (ints .u8 a2.toList ++ ([Value.slice A3 l3.length n3])))))))) (len_app rfl (len_app rfl (len_app rfl (len_app rfl (len_app rfl (len_app (ivl _ _) rfl rfl) rfl) rfl) rfl) rfl) rfl) (len_app rfl (len_app rfl (len_app rfl (len_app rfl (len_app rfl (len_app (ivl _ _) rfl rfl) rfl) rfl) rfl) rfl) rfl) rfl (one_app (one_sing rfl) (one_app (one_sing rfl) (one_app (one_sing rfl) (one_app (one_sing rfl) (one_app (one_sing rfl) (one_app (ints_one _ _) (one_sing rfl)))))))) ?_
      rintro w10 ⟨F14, h49⟩
      have h50 := (h42).fr F14 ⟨(Ap.symm (Src.ap' s10 (h35).lt trivial)), trivial⟩
      have h51 := (h43).fr F14 ⟨(Ap.symm (Src.ap' s10 (h36).lt trivial)), trivial⟩
      have h52 := Fr.at F14 h44 (ApL.not (x := some b1) (S := [some b3]) ⟨(Ap.symm (Src.ap' s10 (Lt.one (at_lt h37)) trivial)), trivial⟩ _ rfl)
      have h53 := (h45).fr F14 ⟨(Ap.symm (Src.ap' s10 (h38).lt trivial)), trivial⟩
      have h54 := (h46).fr F14 ⟨(Ap.symm (Src.ap' s10 (h39).lt trivial)), trivial⟩
      have h55 := Fr.at F14 h47 (ApL.not (x := some b2) (S := [some b3]) ⟨(Ap.symm (Src.ap' s10 (Lt.one (at_lt h40)) trivial)), trivial⟩ _ rfl)
      have h56 := (h48).fr F14 ⟨(Ap.symm (Src.ap' s10 (h34).lt trivial)), trivial⟩
      have F15 := Fr.step F13 F14 ⟨(In0.src s10 F12.size trivial), trivial⟩
      refine ⟨_, rfl, ?_⟩
      refine WL.batch 1 [1, 9, 10] (E' := [(1, .slice Ap1 p1.length np1), (9, .pointer (some ⟨b3, 0, none⟩)), (10, .int .i64 x9)]) (by kernel_rfl) ?_
      refine WL.nil ?_
      refine W.seq ?_
      refine W.seq ?_
      refine W.region ?_
      refine WL.batch 2 [1, 9, 59] (E' := [(1, .slice Ap1 p1.length np1), (9, .pointer (some ⟨b3, 0, none⟩)), (59, .bool (x9 != (0 : Int)))]) (by kernel_rfl) ?_
      refine WL.nil ?_
      rcases of_cond hm with ⟨c1, hm⟩ | ⟨c1, hm⟩
      · refine W.condT _ rfl c1 ?_
        refine W.seq ?_
        refine W.region ?_
        obtain ⟨y1, q4, hm⟩ := of_bind hm
        refine WL.call rfl rfl rfl (ex_callI (args := []) rfl rfl rfl Try.call7) (cauterylaw21_alive_walk k   _   y1 q4) ?_
        rintro _ w11 ⟨rfl, F16⟩
        have h57 := (h50).fr F16 trivial
        have h58 := (h51).fr F16 trivial
        have h59 := Fr.at F16 h52 (ApL.not (x := some b1) (S := []) trivial _ rfl)
        have h60 := (h53).fr F16 trivial
        have h61 := (h54).fr F16 trivial
        have h62 := Fr.at F16 h55 (ApL.not (x := some b2) (S := []) trivial _ rfl)
        have h63 := (h56).fr F16 trivial
        have h64 := Fr.at F16 h49 (ApL.not (x := some b3) (S := []) trivial _ rfl)
        have F17 := Fr.step F15 F16 trivial
        refine ⟨_, _, rfl, rfl, ?_⟩
        refine WL.batch 1 [4] (E' := [(4, .bool y1)]) (by kernel_rfl) ?_
        refine WL.nil ?_
        refine W.ret ?_
        obtain rfl := Option.some.inj hm
        exact ⟨_, ⟨_, _, rfl, rfl, rfl⟩, ⟨rfl, F17⟩⟩
      · refine W.condF _ rfl c1 ?_
        refine W.skip ?_
        refine W.seq ?_
        refine W.region ?_
        refine WL.value (.agg ([Value.int .i64 x6] ++ ([Value.string s7] ++ ([Value.string s8] ++ ([Value.int .i64 x7] ++ ([Value.int .i64 x8] ++ (ints .u8 a2.toList ++ ([Value.slice A3 l3.length n3]))))))).toArray) rfl rfl rfl (ex_loadAgg Try.underlying25 rfl Try.sizeOf25 (len_app rfl (len_app rfl (len_app rfl (len_app rfl (len_app rfl (len_app (ivl _ _) rfl rfl) rfl) rfl) rfl) rfl) rfl) rfl h49 (Lens.all _ ([Value.int .i64 x6] ++ ([Value.string s7] ++ ([Value.string s8] ++ ([Value.int .i64 x7] ++ ([Value.int .i64 x8] ++ (ints .u8 a2.toList ++ ([Value.slice A3 l3.length n3]))))))))) rfl ?_
        obtain ⟨⟨l4, x10⟩, q5, hm⟩ := of_bind hm
        refine WL.call rfl rfl rfl (ex_callI (args := [.agg ([Value.int .i64 x6] ++ ([Value.string s7] ++ ([Value.string s8] ++ ([Value.int .i64 x7] ++ ([Value.int .i64 x8] ++ (ints .u8 a2.toList ++ ([Value.slice A3 l3.length n3]))))))).toArray]) rfl rfl rfl Try.call8) (bisect_Encode_walk k x6 s7 s8 x7 x8 a2 l3 A3 n3 _ (h56).rd  l4 x10 q5) ?_
        rintro _ w12 ⟨A4, n4, rfl, F18, h65, s11⟩
        have h66 := (h50).fr F18 trivial
        have h67 := (h51).fr F18 trivial
        have h68 := Fr.at F18 h52 (ApL.not (x := some b1) (S := []) trivial _ rfl)
        have h69 := (h53).fr F18 trivial
        have h70 := (h54).fr F18 trivial
        have h71 := Fr.at F18 h55 (ApL.not (x := some b2) (S := []) trivial _ rfl)
        have h72 := (h56).fr F18 trivial
        have h73 := Fr.at F18 h49 (ApL.not (x := some b3) (S := []) trivial _ rfl)
        have F19 := Fr.step F15 F18 trivial
        refine ⟨_, _, rfl, rfl, ?_⟩
        refine WL.batch 5 [1, 11, 12] (E' := [(1, .slice Ap1 p1.length np1), (11, .slice A4 l4.length n4), (12, .int .i64 x10)]) (by kernel_rfl) ?_
        refine WL.nil ?_
        refine W.seq ?_
        refine W.region ?_
        obtain ⟨y2, q6, hm⟩ := of_bind hm
        refine WL.call rfl rfl rfl (ex_callI (args := []) rfl rfl rfl Try.call7) (cauterylaw21_alive_walk k   _   y2 q6) ?_
        rintro _ w13 ⟨rfl, F20⟩
        have h74 := (h66).fr F20 trivial
        have h75 := (h67).fr F20 trivial
        have h76 := Fr.at F20 h68 (ApL.not (x := some b1) (S := []) trivial _ rfl)
        have h77 := (h69).fr F20 trivial
        have h78 := (h70).fr F20 trivial
        have h79 := Fr.at F20 h71 (ApL.not (x := some b2) (S := []) trivial _ rfl)
        have h80 := (h72).fr F20 trivial
        have h81 := Fr.at F20 h73 (ApL.not (x := some b3) (S := []) trivial _ rfl)
        have h82 := (h65).fr F20 trivial
        have F21 := Fr.step F19 F20 trivial
        refine ⟨_, _, rfl, rfl, ?_⟩
        refine WL.batch 1 [1, 11, 12, 67] (E' := [(1, .slice Ap1 p1.length np1), (11, .slice A4 l4.length n4), (12, .int .i64 x10), (67, .bool y2)]) (by kernel_rfl) ?_
        rcases of_cond hm with ⟨c2, hm⟩ | ⟨c2, hm⟩
        · rw [c2]
          refine WL.batch 4 [1, 11, 71] (E' := [(1, .slice Ap1 p1.length np1), (11, .slice A4 l4.length n4), (71, .bool (x10 == (0 : Int)))]) (by kernel_rfl) ?_
          rcases of_cond hm with ⟨c3, hm⟩ | ⟨c3, hm⟩
          · rw [c3]
            refine WL.batch 1 [1, 71, 72] (E' := [(1, .slice Ap1 p1.length np1), (71, .bool true), (72, .slice A4 l4.length n4)]) (by kernel_rfl) ?_
            refine WL.value (.string (strOf l4)) rfl rfl rfl (ex_bytesStr Try.underlying23 Try.underlying9 Try.underlying5 rfl (h82).rd) rfl ?_
            obtain ⟨s12, q7, hm⟩ := of_let hm
            rw [q7]
            refine WL.batch 1 [71, 73, 74] (E' := [(71, .bool true), (73, .string s12), (74, .slice Ap1 p1.length np1)]) (by kernel_rfl) ?_
            refine WL.value (.string (strOf p1)) rfl rfl rfl (ex_bytesStr Try.underlying23 Try.underlying9 Try.underlying5 rfl h75) rfl ?_
            obtain ⟨s13, q8, hm⟩ := of_let hm
            rw [q8]
            refine WL.batch 3 [4] (E' := [(4, .bool (s12.toList == s13.toList))]) (by kernel_rfl) ?_
            refine WL.nil ?_
            refine W.ret ?_
            obtain rfl := Option.some.inj hm
            exact ⟨_, ⟨_, _, rfl, rfl, rfl⟩, ⟨rfl, F21⟩⟩
          · rw [c3]
            refine WL.batch 7 [4] (E' := [(4, .bool false)]) (by kernel_rfl) ?_
            refine WL.nil ?_
            refine W.ret ?_
            obtain rfl := Option.some.inj hm
            exact ⟨_, ⟨_, _, rfl, rfl, rfl⟩, ⟨rfl, F21⟩⟩
        · rw [c2]
          refine WL.batch 11 [4] (E' := [(4, .bool false)]) (by kernel_rfl) ?_
          refine WL.nil ?_
          refine W.ret ?_
          obtain rfl := Option.some.inj hm
          exact ⟨_, ⟨_, _, rfl, rfl, rfl⟩, ⟨rfl, F21⟩⟩
    · replace hm := hm3
      clear hm3
      refine W.seq ?_
      refine W.regionDw (N := 21) Try_mixed rfl ?_
      intro w14 F22
      have h83 := (h23).fr F22 trivial
      have h84 := (h24).fr F22 trivial
      have h85 := Fr.at F22 h25 (ApL.not (x := some b1) (S := []) trivial _ rfl)
      have h86 := (h26).fr F22 trivial
      have h87 := (h27).fr F22 trivial
      have h88 := Fr.at F22 h22 (ApL.not (x := some b2) (S := []) trivial _ rfl)
      have F23 := Fr.step F9 F22 trivial
      refine WD.batch (f' := 19) [2, 3] #[false, false, true, true, false, false, false, false, false, false, false, false, false, false, false, false, false, false, false, false, false] [1, 2, 6, 7, 8, 35] rfl (E' := [(1, .slice Ap1 p1.length np1), (2, .pointer (some ⟨b1, 0, none⟩)), (6, .int .i64 x1), (7, .pointer (some ⟨b2, 0, none⟩)), (8, .int .i64 x5), (35, .bool (x1 == (0 : Int)))]) (by kernel_rfl) ?_
      refine WD.load 0 [1, 13, 15, 16] [1, 4, 5, 6, 7, 8, 9, 10, 11, 12, 13, 14, 15, 16, 17, 18, 19, 20] (.agg ([Value.int .i64 p0_0] ++ ([Value.string p0_1] ++ ([Value.string p0_2] ++ ([Value.int .i64 p0_3] ++ ([Value.int .i64 p0_4] ++ (ints .u8 p0_5.toList ++ ([Value.slice Ap0_6 p0_6.length np0_6]))))))).toArray) rfl (by kernel_rfl) rfl rfl rfl (ex_loadAgg Try.underlying25 rfl Try.sizeOf25 (len_app rfl (len_app rfl (len_app rfl (len_app rfl (len_app rfl (len_app (ivl _ _) rfl rfl) rfl) rfl) rfl) rfl) rfl) rfl h85 (Lens.all _ ([Value.int .i64 p0_0] ++ ([Value.string p0_1] ++ ([Value.string p0_2] ++ ([Value.int .i64 p0_3] ++ ([Value.int .i64 p0_4] ++ (ints .u8 p0_5.toList ++ ([Value.slice Ap0_6 p0_6.length np0_6]))))))))) ?_
      obtain ⟨y3, q9, hm⟩ := of_bind hm
      refine WD.call 1 (by kernel_rfl) rfl rfl rfl rfl (ex_callI (args := [.agg ([Value.int .i64 p0_0] ++ ([Value.string p0_1] ++ ([Value.string p0_2] ++ ([Value.int .i64 p0_3] ++ ([Value.int .i64 p0_4] ++ (ints .u8 p0_5.toList ++ ([Value.slice Ap0_6 p0_6.length np0_6]))))))).toArray]) rfl rfl rfl Try.call11) (bisect_May_walk k p0_0 p0_1 p0_2 p0_3 p0_4 p0_5 p0_6 Ap0_6 np0_6 _ h83  y3 q9) ?_
      rintro _ w15 ⟨rfl, F24⟩
      have h89 := (h83).fr F24 trivial
      have h90 := (h84).fr F24 trivial
      have h91 := Fr.at F24 h85 (ApL.not (x := some b1) (S := []) trivial _ rfl)
      have h92 := (h86).fr F24 trivial
      have h93 := (h87).fr F24 trivial
      have h94 := Fr.at F24 h88 (ApL.not (x := some b2) (S := []) trivial _ rfl)
      have F25 := Fr.step F23 F24 trivial
      refine ⟨_, _, rfl, rfl, trivial, ?_⟩
      refine WD.batch (f' := 15) [4, 5] #[true, true, true, true, true, true, false, false, false, false, false, false, false, false, false, false, false, false, false, false, false] [1, 2, 6, 7, 8, 37] rfl (E' := [(1, .slice Ap1 p1.length np1), (2, .pointer (some ⟨b1, 0, none⟩)), (6, .int .i64 x1), (7, .pointer (some ⟨b2, 0, none⟩)), (8, .int .i64 x5), (37, .bool (y3 != (x1 == (0 : Int))))]) (by kernel_rfl) ?_
      rcases of_cond hm with ⟨c4, hm⟩ | ⟨c4, hm⟩
      · rw [c4]
        refine WD.batch (f' := 7) [6, 7, 8, 9, 10, 11, 12, 14] #[true, true, true, true, true, true, true, true, true, true, true, true, true, false, true, false, false, false, false, false, false] [1, 37, 40, 43, 44, 46] rfl (E' := [(1, .slice Ap1 p1.length np1), (37, .bool true), (40, undef), (43, undef), (44, undef), (46, undef)]) (by kernel_rfl) ?_
        refine WD.skip 13 (by kernel_rfl) rfl rfl rfl trivial ?_
        refine WD.skip 15 (by kernel_rfl) rfl rfl rfl trivial ?_
        refine WD.skip 16 (by kernel_rfl) rfl rfl rfl trivial ?_
        refine WD.batch (f' := 0) [17, 18, 19, 20] #[true, true, true, true, true, true, true, true, true, true, true, true, true, true, true, true, true, true, true, true, true] [1, 52] rfl (E' := [(1, .slice Ap1 p1.length np1), (52, .bool true)]) (by kernel_rfl) ?_
        refine WD.end_ (by kernel_rfl) ?_
        refine W.condT _ rfl rfl ?_
        refine W.seq ?_
        refine W.region ?_
        refine WL.batch 1 [4] (E' := [(4, .bool false)]) (by kernel_rfl) ?_
        refine WL.nil ?_
        refine W.ret ?_
        obtain rfl := Option.some.inj hm
        replace hm := hm4
        obtain rfl := Option.some.inj hm
        exact ⟨_, ⟨_, _, rfl, rfl, rfl⟩, ⟨rfl, F25⟩⟩
      · rw [c4]
        refine WD.batch (f' := 12) [6, 7, 8] #[true, true, true, true, true, true, true, true, true, false, false, false, false, false, false, false, false, false, false, false, false] [1, 2, 7, 8, 37, 40] rfl (E' := [(1, .slice Ap1 p1.length np1), (2, .pointer (some ⟨b1, 0, none⟩)), (7, .pointer (some ⟨b2, 0, none⟩)), (8, .int .i64 x5), (37, .bool false), (40, .bool (x1 == (0 : Int)))]) (by kernel_rfl) ?_
        rcases of_cond hm with ⟨c5, hm⟩ | ⟨c5, hm⟩
        · rw [c5]
          refine WD.batch (f' := 9) [9, 10, 11] #[true, true, true, true, true, true, true, true, true, true, true, true, false, false, false, false, false, false, false, false, false] [1, 2, 7, 37, 40, 43] rfl (E' := [(1, .slice Ap1 p1.length np1), (2, .pointer (some ⟨b1, 0, none⟩)), (7, .pointer (some ⟨b2, 0, none⟩)), (37, .bool false), (40, .bool true), (43, .bool (x5 != (0 : Int)))]) (by kernel_rfl) ?_
          rcases of_cond hm with ⟨c6, hm⟩ | ⟨c6, hm⟩
          · rw [c6]
            refine WD.batch (f' := 7) [12, 14] #[true, true, true, true, true, true, true, true, true, true, true, true, true, false, true, false, false, false, false, false, false] [1, 37, 40, 43, 44, 46] rfl (E' := [(1, .slice Ap1 p1.length np1), (37, .bool false), (40, .bool true), (43, .bool true), (44, undef), (46, undef)]) (by kernel_rfl) ?_
            refine WD.skip 13 (by kernel_rfl) rfl rfl rfl trivial ?_
            refine WD.skip 15 (by kernel_rfl) rfl rfl rfl trivial ?_
            refine WD.skip 16 (by kernel_rfl) rfl rfl rfl trivial ?_
            refine WD.batch (f' := 0) [17, 18, 19, 20] #[true, true, true, true, true, true, true, true, true, true, true, true, true, true, true, true, true, true, true, true, true] [1, 52] rfl (E' := [(1, .slice Ap1 p1.length np1), (52, .bool true)]) (by kernel_rfl) ?_
            refine WD.end_ (by kernel_rfl) ?_
            refine W.condT _ rfl rfl ?_
            refine W.seq ?_
            refine W.region ?_
            refine WL.batch 1 [4] (E' := [(4, .bool false)]) (by kernel_rfl) ?_
            refine WL.nil ?_
            refine W.ret ?_
            obtain rfl := Option.some.inj hm
            replace hm := hm4
            obtain rfl := Option.some.inj hm
            exact ⟨_, ⟨_, _, rfl, rfl, rfl⟩, ⟨rfl, F25⟩⟩
          · rw [c6]
            refine WD.load 12 [13, 15, 16] [13, 15, 16, 17, 18, 19, 20] (.agg ([Value.int .i64 p0_0] ++ ([Value.string p0_1] ++ ([Value.string p0_2] ++ ([Value.int .i64 p0_3] ++ ([Value.int .i64 p0_4] ++ (ints .u8 p0_5.toList ++ ([Value.slice Ap0_6 p0_6.length np0_6]))))))).toArray) rfl (by kernel_rfl) rfl rfl rfl (ex_loadAgg Try.underlying25 rfl Try.sizeOf25 (len_app rfl (len_app rfl (len_app rfl (len_app rfl (len_app rfl (len_app (ivl _ _) rfl rfl) rfl) rfl) rfl) rfl) rfl) rfl h91 (Lens.all _ ([Value.int .i64 p0_0] ++ ([Value.string p0_1] ++ ([Value.string p0_2] ++ ([Value.int .i64 p0_3] ++ ([Value.int .i64 p0_4] ++ (ints .u8 p0_5.toList ++ ([Value.slice Ap0_6 p0_6.length np0_6]))))))))) ?_
            refine WD.load 14 [15, 16] [15, 16, 17, 18, 19, 20] (.agg ([Value.int .i64 x2] ++ ([Value.string s3] ++ ([Value.string s4] ++ ([Value.int .i64 x3] ++ ([Value.int .i64 x4] ++ (ints .u8 a1.toList ++ ([Value.slice A2 l2.length n2]))))))).toArray) rfl (by kernel_rfl) rfl rfl rfl (ex_loadAgg Try.underlying25 rfl Try.sizeOf25 (len_app rfl (len_app rfl (len_app rfl (len_app rfl (len_app rfl (len_app (ivl _ _) rfl rfl) rfl) rfl) rfl) rfl) rfl) rfl h94 (Lens.all _ ([Value.int .i64 x2] ++ ([Value.string s3] ++ ([Value.string s4] ++ ([Value.int .i64 x3] ++ ([Value.int .i64 x4] ++ (ints .u8 a1.toList ++ ([Value.slice A2 l2.length n2]))))))))) ?_
            obtain ⟨⟨x11, s14, s15, x12, x13, a3, l5⟩, q10, hm⟩ := of_bind hm
            refine WD.call 13 (by kernel_rfl) rfl rfl rfl rfl (ex_callI (args := [.agg ([Value.int .i64 p0_0] ++ ([Value.string p0_1] ++ ([Value.string p0_2] ++ ([Value.int .i64 p0_3] ++ ([Value.int .i64 p0_4] ++ (ints .u8 p0_5.toList ++ ([Value.slice Ap0_6 p0_6.length np0_6]))))))).toArray]) rfl rfl rfl Try.call10) (cauterylaw21_plain_walk p0_0 p0_1 p0_2 p0_3 p0_4 p0_5 p0_6 Ap0_6 np0_6 _ h89  x11 s14 s15 x12 x13 a3 l5 q10) ?_
            rintro _ w16 ⟨A5, n5, rfl, F26, h95, s16⟩
            have h96 := (h89).fr F26 trivial
            have h97 := (h90).fr F26 trivial
            have h98 := Fr.at F26 h91 (ApL.not (x := some b1) (S := []) trivial _ rfl)
            have h99 := (h92).fr F26 trivial
            have h100 := (h93).fr F26 trivial
            have h101 := Fr.at F26 h94 (ApL.not (x := some b2) (S := []) trivial _ rfl)
            have F27 := Fr.step F25 F26 trivial
            refine ⟨_, _, rfl, rfl, ⟨(ex_loadAgg Try.underlying25 rfl Try.sizeOf25 (len_app rfl (len_app rfl (len_app rfl (len_app rfl (len_app rfl (len_app (ivl _ _) rfl rfl) rfl) rfl) rfl) rfl) rfl) rfl h101 (Lens.all _ ([Value.int .i64 x2] ++ ([Value.string s3] ++ ([Value.string s4] ++ ([Value.int .i64 x3] ++ ([Value.int .i64 x4] ++ (ints .u8 a1.toList ++ ([Value.slice A2 l2.length n2]))))))))), trivial⟩, ?_⟩
            obtain ⟨⟨x14, s17, s18, x15, x16, a4, l6⟩, q11, hm⟩ := of_bind hm
            refine WD.call 15 (by kernel_rfl) rfl rfl rfl rfl (ex_callI (args := [.agg ([Value.int .i64 x2] ++ ([Value.string s3] ++ ([Value.string s4] ++ ([Value.int .i64 x3] ++ ([Value.int .i64 x4] ++ (ints .u8 a1.toList ++ ([Value.slice A2 l2.length n2]))))))).toArray]) rfl rfl rfl Try.call10) (cauterylaw21_plain_walk x2 s3 s4 x3 x4 a1 l2 A2 n2 _ (h100).rd  x14 s17 s18 x15 x16 a4 l6 q11) ?_
            rintro _ w17 ⟨A6, n6, rfl, F28, h102, s19⟩
            have s20 := Src.trans' s19 (Nat.le_refl _) (l' := [ablk A2]) ⟨Src.rblk (Src.self (by simp)), trivial⟩
            have h103 := (h96).fr F28 trivial
            have h104 := (h97).fr F28 trivial
            have h105 := Fr.at F28 h98 (ApL.not (x := some b1) (S := []) trivial _ rfl)
            have h106 := (h99).fr F28 trivial
            have h107 := (h100).fr F28 trivial
            have h108 := Fr.at F28 h101 (ApL.not (x := some b2) (S := []) trivial _ rfl)
            have h109 := (h95).fr F28 trivial
            have F29 := Fr.step F27 F28 trivial
            refine ⟨_, _, rfl, rfl, trivial, ?_⟩
            obtain ⟨y4, q12, hm⟩ := of_bind hm
            refine WD.call 16 (by kernel_rfl) rfl rfl rfl rfl (ex_callI (args := [.agg ([Value.int .i64 x11] ++ ([Value.string s14] ++ ([Value.string s15] ++ ([Value.int .i64 x12] ++ ([Value.int .i64 x13] ++ (ints .u8 a3.toList ++ ([Value.slice A5 l5.length n5]))))))).toArray, .agg ([Value.int .i64 x14] ++ ([Value.string s17] ++ ([Value.string s18] ++ ([Value.int .i64 x15] ++ ([Value.int .i64 x16] ++ (ints .u8 a4.toList ++ ([Value.slice A6 l6.length n6]))))))).toArray]) rfl rfl rfl Try.call15) (cauteryref21_Same_walk x11 s14 s15 x12 x13 a3 l5 x14 s17 s18 x15 x16 a4 l6 A5 n5 A6 n6 _ h109 h102  y4 q12) ?_
            rintro _ w18 ⟨rfl, F30⟩
            have h110 := (h103).fr F30 trivial
            have h111 := (h104).fr F30 trivial
            have h112 := Fr.at F30 h105 (ApL.not (x := some b1) (S := []) trivial _ rfl)
            have h113 := (h106).fr F30 trivial
            have h114 := (h107).fr F30 trivial
            have h115 := Fr.at F30 h108 (ApL.not (x := some b2) (S := []) trivial _ rfl)
            have h116 := (h109).fr F30 trivial
            have h117 := (h102).fr F30 trivial
            have F31 := Fr.step F29 F30 trivial
            refine ⟨_, _, rfl, rfl, trivial, ?_⟩
            refine WD.batch (f' := 0) [17, 18, 19, 20] #[true, true, true, true, true, true, true, true, true, true, true, true, true, true, true, true, true, true, true, true, true] [1, 52] rfl (E' := [(1, .slice Ap1 p1.length np1), (52, .bool (!y4))]) (by kernel_rfl) ?_
            refine WD.end_ (by kernel_rfl) ?_
            rcases of_cond hm with ⟨c7, hm⟩ | ⟨c7, hm⟩
            · refine W.condT _ rfl c7 ?_
              refine W.seq ?_
              refine W.region ?_
              refine WL.batch 1 [4] (E' := [(4, .bool false)]) (by kernel_rfl) ?_
              refine WL.nil ?_
              refine W.ret ?_
              obtain rfl := Option.some.inj hm
              replace hm := hm4
              obtain rfl := Option.some.inj hm
              exact ⟨_, ⟨_, _, rfl, rfl, rfl⟩, ⟨rfl, F31⟩⟩
            · refine W.condF _ rfl c7 ?_
              refine W.skip ?_
              exact rest2 _ _ ⟨⟨rfl, trivial⟩, h110, h111, h112, h113, h114, h115, F31, (Option.some.inj hm)⟩
        · rw [c5]
          refine WD.batch (f' := 7) [9, 10, 11, 12, 14] #[true, true, true, true, true, true, true, true, true, true, true, true, true, false, true, false, false, false, false, false, false] [1, 37, 40, 43, 44, 46] rfl (E' := [(1, .slice Ap1 p1.length np1), (37, .bool false), (40, .bool false), (43, undef), (44, undef), (46, undef)]) (by kernel_rfl) ?_
          refine WD.skip 13 (by kernel_rfl) rfl rfl rfl trivial ?_
          refine WD.skip 15 (by kernel_rfl) rfl rfl rfl trivial ?_
          refine WD.skip 16 (by kernel_rfl) rfl rfl rfl trivial ?_
          refine WD.batch (f' := 0) [17, 18, 19, 20] #[true, true, true, true, true, true, true, true, true, true, true, true, true, true, true, true, true, true, true, true, true] [1, 52] rfl (E' := [(1, .slice Ap1 p1.length np1), (52, .bool false)]) (by kernel_rfl) ?_
          refine WD.end_ (by kernel_rfl) ?_
          refine W.condF _ rfl rfl ?_
          refine W.skip ?_
          exact rest2 _ _ ⟨⟨rfl, trivial⟩, h89, h90, h91, h92, h93, h94, F25, (Option.some.inj hm)⟩
  · replace hm := hm1
    clear hm1
    refine W.seq ?_
    refine W.region ?_
    refine WL.value (.agg ([Value.int .i64 p0_0] ++ ([Value.string p0_1] ++ ([Value.string p0_2] ++ ([Value.int .i64 p0_3] ++ ([Value.int .i64 p0_4] ++ (ints .u8 p0_5.toList ++ ([Value.slice Ap0_6 p0_6.length np0_6]))))))).toArray) rfl rfl rfl (ex_loadAgg Try.underlying25 rfl Try.sizeOf25 (len_app rfl (len_app rfl (len_app rfl (len_app rfl (len_app rfl (len_app (ivl _ _) rfl rfl) rfl) rfl) rfl) rfl) rfl) rfl h1 (Lens.all _ ([Value.int .i64 p0_0] ++ ([Value.string p0_1] ++ ([Value.string p0_2] ++ ([Value.int .i64 p0_3] ++ ([Value.int .i64 p0_4] ++ (ints .u8 p0_5.toList ++ ([Value.slice Ap0_6 p0_6.length np0_6]))))))))) rfl ?_
    obtain ⟨y5, q13, hm⟩ := of_bind hm
    refine WL.call rfl rfl rfl (ex_callI (args := [.agg ([Value.int .i64 p0_0] ++ ([Value.string p0_1] ++ ([Value.string p0_2] ++ ([Value.int .i64 p0_3] ++ ([Value.int .i64 p0_4] ++ (ints .u8 p0_5.toList ++ ([Value.slice Ap0_6 p0_6.length np0_6]))))))).toArray]) rfl rfl rfl Try.call6) (cauterylaw21_small_walk p0_0 p0_1 p0_2 p0_3 p0_4 p0_5 p0_6 Ap0_6 np0_6 _ h2  y5 q13) ?_
    rintro _ w19 ⟨rfl, F32⟩
    have h118 := (h2).fr F32 trivial
    have h119 := (h3).fr F32 trivial
    have h120 := Fr.at F32 h1 (ApL.not (x := some b1) (S := []) trivial _ rfl)
    have F33 := Fr.step F1 F32 trivial
    refine ⟨_, _, rfl, rfl, ?_⟩
    refine WL.batch 2 [1, 2, 16] (E' := [(1, .slice Ap1 p1.length np1), (2, .pointer (some ⟨b1, 0, none⟩)), (16, .bool (!y5))]) (by kernel_rfl) ?_
    rcases of_cond hm with ⟨c8, hm⟩ | ⟨c8, hm⟩
    · rw [c8]
      refine WL.batch 4 [1, 2, 20] (E' := [(1, .slice Ap1 p1.length np1), (2, .pointer (some ⟨b1, 0, none⟩)), (20, .bool true)]) (by kernel_rfl) ?_
      refine WL.nil ?_
      refine W.condT _ rfl rfl ?_
      refine W.seq ?_
      refine W.region ?_
      obtain ⟨y6, q14, hm⟩ := of_bind hm
      refine WL.call rfl rfl rfl (ex_callI (args := []) rfl rfl rfl Try.call7) (cauterylaw21_alive_walk k   _   y6 q14) ?_
      rintro _ w20 ⟨rfl, F34⟩
      have h121 := (h118).fr F34 trivial
      have h122 := (h119).fr F34 trivial
      have h123 := Fr.at F34 h120 (ApL.not (x := some b1) (S := []) trivial _ rfl)
      have F35 := Fr.step F33 F34 trivial
      refine ⟨_, _, rfl, rfl, ?_⟩
      refine WL.batch 1 [4] (E' := [(4, .bool y6)]) (by kernel_rfl) ?_
      refine WL.nil ?_
      refine W.ret ?_
      obtain rfl := Option.some.inj hm
      replace hm := hm2
      obtain rfl := Option.some.inj hm
      exact ⟨_, ⟨_, _, rfl, rfl, rfl⟩, ⟨rfl, F35⟩⟩
    · rw [c8]
      refine WL.batch 4 [1, 2, 20] (E' := [(1, .slice Ap1 p1.length np1), (2, .pointer (some ⟨b1, 0, none⟩)), (20, .bool (decide ((p1.length : Int) > (600 : Int))))]) (by kernel_rfl) ?_
      refine WL.nil ?_
      rcases of_cond hm with ⟨c9, hm⟩ | ⟨c9, hm⟩
      · refine W.condT _ rfl c9 ?_
        refine W.seq ?_
        refine W.region ?_
        obtain ⟨y7, q15, hm⟩ := of_bind hm
        refine WL.call rfl rfl rfl (ex_callI (args := []) rfl rfl rfl Try.call7) (cauterylaw21_alive_walk k   _   y7 q15) ?_
        rintro _ w21 ⟨rfl, F36⟩
        have h124 := (h118).fr F36 trivial
        have h125 := (h119).fr F36 trivial
        have h126 := Fr.at F36 h120 (ApL.not (x := some b1) (S := []) trivial _ rfl)
        have F37 := Fr.step F33 F36 trivial
        refine ⟨_, _, rfl, rfl, ?_⟩
        refine WL.batch 1 [4] (E' := [(4, .bool y7)]) (by kernel_rfl) ?_
        refine WL.nil ?_
        refine W.ret ?_
        obtain rfl := Option.some.inj hm
        replace hm := hm2
        obtain rfl := Option.some.inj hm
        exact ⟨_, ⟨_, _, rfl, rfl, rfl⟩, ⟨rfl, F37⟩⟩
      · refine W.condF _ rfl c9 ?_
        refine W.skip ?_
        exact rest1 _ _ ⟨⟨rfl, rfl, trivial⟩, h118, h119, h120, F33, (Option.some.inj hm)⟩
end Go.Proofs.Ythbcjjhlebhghaa.Walk
